/- The reference's net: Send, Look, Drop, Way. -/
import Derived.Test.YtkgifbnkkmeoiaaLnkBusy
import Derived.Test.YtkgifbnkkmeoiaaLnkStR
namespace Go.Proofs.Ytkgifbnkkmeoiaa
open Go.ChangeShapes Go.WideShapes Go.ChangeAt Go.RowKit
set_option linter.unusedVariables false
set_option linter.unusedSimpArgs false

def NetRQ (D : Nat → Prop) (n : Nat) (L : List PK) (w w' : World) : Prop := ∃ D', NetR w' D' n L ∧ Grow w D D' ∧ Chg D w w'
theorem NetRQ.same {D : Nat → Prop} {n : Nat} {L : List PK} {w w' : World} (h : NetR w D n L) (hq : Qu w w') : NetRQ D n L w w' := ⟨D, h.qu hq, Grow.refl _ _, Chg.of_qu hq⟩
theorem netR_app {w w5 w6 : World} {D : Nat → Prop} {n g off cap cc : Nat} {L : List PK} {v : Value} {es : List P3} {f t : Int} {b : List UInt8} {C : Option Addr} (h1 : D n) (h2 : ∀ k, D k → k < w.heap.size) (h3 : w.frozen? ⟨n, 0, none⟩ = false) (h4 : w.cell? ⟨n, 0, none⟩ = some v)
    (h6 : ∀ g, v.ownBlock = some g → D g ∧ g ≠ n) (h7 : RowPk w (fun k => D k ∧ k ≠ n ∧ v.ownBlock ≠ some k) es L) (hb5 : Below w.heap.size w w5) (hc5 : w5.ownsRow w.heap.size 5 1 (.slice C b.length cc) b.length (bvals b))
    (ho6 : RowA w6 0 55 3 (.slice (some ⟨g, off, none⟩) (L.length + 1) cap) (L.length + 1) (flatP es ++ [.int .i64 f, .int .i64 t, .slice C b.length cc])) (hg6 : (w5.alloc (.cells #[.int .i64 f, .int .i64 t, .slice C b.length cc] 55)).grownBy w6 v.ownBlock) (hat : v.ownBlock = some g ∨ g = w5.heap.size + 1) :
    w6.cell? ⟨n, 0, none⟩ = some v ∧ w6.frozen? ⟨n, 0, none⟩ = false ∧ NetRQ D n (L ++ [(f, t, b)]) w (w6.setCell ⟨n, 0, none⟩ (.slice (some ⟨g, off, none⟩) (L.length + 1) cap)) := by
  have hnl := h2 n h1
  have hz5 := hb5.size
  have hz6 := hg6.size
  rw [World.size_alloc] at hz6
  have hnv : v.ownBlock ≠ some n := fun e => (h6 n e).2 rfl
  have hold : ∀ k, k < w.heap.size → v.ownBlock ≠ some k → w6.heap[k]? = w.heap[k]? := fun k hk hv => (hg6.block k (by rw [World.size_alloc]; omega) (fun e => hv e.symm)).trans ((Below.heap_alloc w5 _ k (by omega)).trans (hb5.block k hk))
  have hmid : ∀ k, w.heap.size ≤ k → k < w5.heap.size → w6.heap[k]? = w5.heap[k]? := fun k hk hk5 => (hg6.block k (by rw [World.size_alloc]; omega) (fun e => by have := (h2 k (h6 k e.symm).1); omega)).trans (Below.heap_alloc w5 _ k hk5)
  have hn6 := hold n hnl hnv
  have hfar : ∀ k, k ≠ n → (w6.setCell ⟨n, 0, none⟩ (.slice (some ⟨g, off, none⟩) (L.length + 1) cap)).heap[k]? = w6.heap[k]? := fun k hk => Below.heap_setCell _ _ _ k (by simpa using hk)
  have hzz : (w6.setCell ⟨n, 0, none⟩ (.slice (some ⟨g, off, none⟩) (L.length + 1) cap)).heap.size = w6.heap.size := by simp [World.setCell]
  have hg6' : g < w6.heap.size := (ho6.lt g rfl).2
  have hgn : g ≠ n := by
    rcases hat with h | h
    · exact (h6 g h).2
    · omega
  have hgd : D g ∨ w.heap.size ≤ g := by
    rcases hat with h | h
    · exact .inl (h6 g h).1
    · exact .inr (by omega)
  have hc6 : w6.cell? ⟨n, 0, none⟩ = some v := (World.cell?_of_block (a := ⟨n, 0, none⟩) hn6).trans h4
  have hf6 : w6.frozen? ⟨n, 0, none⟩ = false := (World.frozen?_of_block (a := ⟨n, 0, none⟩) hn6).trans h3
  refine ⟨hc6, hf6, fun k => D k ∨ (w.heap.size ≤ k ∧ k < w6.heap.size), ⟨.inl h1, fun k hk => ?_, frozen_far hf6, _, es ++ [(f, t, .slice C b.length cc)], cell_here hc6, ?_, fun q hq => ?_, ?_⟩, ⟨fun k hk => .inl hk, fun k hk => hk.imp id (fun h => h.1)⟩, ⟨?_, ?_, ?_, by rw [hzz]; omega, fun k hk hne => ?_⟩⟩
  · rw [hzz]
    rcases hk with hk | hk
    · have := h2 k hk; omega
    · exact hk.2
  · rw [List.length_append, List.length_singleton, flatP_snoc]
    exact ho6.kept (fun q hq => hfar q (by injection hq with hq; have e1 : g = q := hq; omega))
  · have e1 : g = q := by injection hq
    subst e1
    exact ⟨hgd.imp id (fun h => ⟨h, hg6'⟩), hgn⟩
  · refine RowPk.app ((h7.kept (w' := w6.setCell ⟨n, 0, none⟩ (.slice (some ⟨g, off, none⟩) (L.length + 1) cap)) (fun k hk => (hfar k hk.2.1).trans (hold k (h2 k hk.1) hk.2.2))).mono (fun k hk => ⟨.inl hk.1, hk.2.1, fun e => ?_⟩)) (RowPk.one ?_)
    · have e1 : g = k := by injection e
      subst e1
      rcases hat with h | h
      · exact hk.2.2 h
      · have := h2 g hk.1; omega
    · refine (SlE.of_own (E := fun k => w.heap.size ≤ k ∧ k < w5.heap.size) hc5 (fun q hq => hc5.lt q hq)).kept (w' := w6.setCell ⟨n, 0, none⟩ (.slice (some ⟨g, off, none⟩) (L.length + 1) cap)) (fun k hk => ?_) |>.mono (fun k hk => ⟨.inr ⟨hk.1, by omega⟩, by omega, fun e => ?_⟩)
      · exact (hfar k (by omega)).trans (hmid k hk.1 hk.2)
      · have e1 : g = k := by injection e
        subst e1
        rcases hat with h | h
        · have := h2 g (h6 g h).1; omega
        · omega
  · exact hg6.os.trans hb5.os
  · exact hg6.tape.trans hb5.tape
  · exact hg6.output.trans hb5.output
  · rw [hfar k (fun e => hne (e ▸ h1))]
    exact hold k hk (fun e => hne (h6 k e).1)
/-- Its first packet is lost. -/
theorem netR_tail {w : World} {D : Nat → Prop} {n m : Nat} {L : List PK} (h : NetR w D n L) (hL : L.length = m + 1) (hm : 0 < m) :
    ∃ g off c, w.cell? ⟨n, 0, none⟩ = some (.slice (some ⟨g, off, none⟩) (m + 1) c) ∧ m + 1 ≤ c ∧ c ≤ maxLen ∧ NetR (w.setCell ⟨n, 0, none⟩ (.slice (some ⟨g, off + 3, none⟩) m (c - 1))) D n (L.drop 1) := by
  obtain ⟨h1, h2, h3, v, es, h4, h5, h6, h7⟩ := h
  rw [hL] at h5
  obtain ⟨g, off, cap, rfl, -, hg, hnc, hcm, -⟩ := h5.elem (by omega)
  obtain ⟨g', off', e, h8⟩ := h5.tail hm
  injection e with e
  injection e with e1 e2 _
  subst e1; subst e2
  have hfar : ∀ k, k ≠ n → (w.setCell ⟨n, 0, none⟩ (.slice (some ⟨g, off + 3, none⟩) m (cap - 1))).heap[k]? = w.heap[k]? := fun k hk => Below.heap_setCell _ _ _ k (by simpa using hk)
  have hgn := h6 g rfl
  refine ⟨g, off, cap, h4, hnc, hcm, h1, fun k hk => by rw [show (w.setCell ⟨n, 0, none⟩ (.slice (some ⟨g, off + 3, none⟩) m (cap - 1))).heap.size = w.heap.size by simp [World.setCell]]; exact h2 k hk, frozen_far h3, _, es.drop 1, cell_here h4, ?_, fun q hq => h6 q hq, (h7.kept (fun k hk => hfar k hk.2.1)).drop 1⟩
  rw [List.length_drop, hL, Nat.add_sub_cancel, ← flatP_drop]
  exact h8.kept (fun q hq => hfar q (by injection hq with hq; have e1 : g = q := hq; rw [← e1]; exact hgn.2))
def SendR (D : Nat → Prop) (n : Nat) (r : List PK × Int) (w : World) (e : Ending) (w' : World) : Prop := e = .returned (.int .i64 r.2) ∧ NetRQ D n r.1 w w'
set_option maxRecDepth 100000 in
set_option maxHeartbeats 3200000 in
theorem sendR_any (D : Nat → Prop) (n : Nat) (L : List PK) (f t : Int) (v : Value) (b : List UInt8) (w : World) (h : NetR w D n L) (hL : L.length ≤ 160) (hv : Sl w w.heap.size v (bvals b)) (hb : b.length ≤ 1000) :
    Calls Try.prog 17 #[.pointer (some ⟨n, 0, none⟩), .int .i64 f, .int .i64 t, v] w (SendR D n (sendN L f t b) w) := by
  obtain ⟨i0, hi, hz0, hz1, hzb⟩ := info_parts info_pkR
  obtain ⟨j0, hj, hj0, hj1, hjb⟩ := info_parts info_byte
  have hcs : ¬ (1 ≤ f ∧ f ≤ 7 ∧ 1 ≤ t ∧ t ≤ 7 ∧ f ≠ t) ∨ (1 ≤ f ∧ f ≤ 7 ∧ 1 ≤ t ∧ t ≤ 7 ∧ f ≠ t) := by omega
  have HV := hid hv
  have HH := hid h
  obtain ⟨K, kc, e1, -, -, -⟩ := hv
  rw [bvals_len] at e1
  subst e1
  rcases hcs with h1 | h1
  · have hse : sendN L f t b = (L, 1) := by unfold sendN mayN; rw [if_neg (by simpa using h1)]
    rw [hse]
    have hc : f < 1 ∨ (¬ f < 1 ∧ 7 < f) ∨ (¬ f < 1 ∧ ¬ 7 < f ∧ t < 1) ∨ (¬ f < 1 ∧ ¬ 7 < f ∧ ¬ t < 1 ∧ 7 < t) ∨ (¬ f < 1 ∧ ¬ 7 < f ∧ ¬ t < 1 ∧ ¬ 7 < t ∧ f = t) := by omega
    clear h1 hse h
    rcases hc with c1 | ⟨c1, c2⟩ | ⟨c1, c2, c3⟩ | ⟨c1, c2, c3, c4⟩ | ⟨c1, c2, c3, c4, c5⟩
    all_goals
      try (have t1 : (f == t) = true := by simp [c5])
      try clear c5
      go_enter Try.func17, Try.ntmps17
      go_wp2
      go_ret
      exact ⟨rfl, NetRQ.same HH.out (Qu.refl _)⟩
  · have hse : sendN L f t b = (if 160 < L.length + 1 then (L ++ [(f, t, b)]).drop 1 else L ++ [(f, t, b)], 0) := by unfold sendN mayN; rw [if_pos (decide_eq_true h1)]
    rw [hse]
    obtain ⟨r, hr⟩ : ∃ r, r = if 160 < L.length + 1 then (L ++ [(f, t, b)]).drop 1 else L ++ [(f, t, b)] := ⟨_, rfl⟩
    rw [← hr]
    have HR := hid hr
    clear hr
    obtain ⟨d1, d2, d3, u, es, d4, d5, d6, d7⟩ := h
    obtain ⟨A, c, rfl, hlc, hcm⟩ := d5.form
    have hnl := d2 n d1
    have t1 : (f == t) = false := by simpa using h1.2.2.2.2
    obtain ⟨p1, p2, p3, p4, -⟩ := h1
    have HD2 := hid d2; have HD5 := hid d5; have HD6 := hid d6; have HD7 := hid d7
    unfold maxLen at hcm
    clear d2 d5 d6 d7 hse
    go_enter Try.func17, Try.ntmps17
    go_wp2_with (at_builtin; refine stop_here ?_)
    refine go_on ?_
    refine app_own (.tmp 29) (.tmp 30) 30 30 rfl rfl w.heap.size 5 j0 (.int .u8 0) 1 1 Try.underlying30 hj hj0 hj1 hjb rfl (by omega) _ 0 [] rfl (World.ownsRow_nil _ _ _ _) (.slice K b.length kc) b.length (bvals b) rfl (by have := src_sl w Try.underlying30 HV.out (bvals_one b); rwa [bvals_len] at this) (by unfold maxLen; omega) (by omega) (Nat.le_refl _) ?_
    intro cv w5 hc5 hg5 hb5
    rw [Nat.zero_add] at hc5
    obtain ⟨C, cc, rfl⟩ := own_formN hc5
    have HB5 := hid hb5
    have HC5 := hid (show w5.ownsRow w.heap.size 5 1 (.slice C b.length cc) b.length (bvals b) from hc5)
    have O5 := hid (HD5.out.kept (fun g hg => hb5.block g (HD2.out g (HD6.out g hg).1)))
    have HNA := hid (show ∀ j u, [Value.int .i64 f, .int .i64 t, .slice C b.length cc][j]? = some u → (w5.alloc (.cells #[.int .i64 f, .int .i64 t, .slice C b.length cc] 55)).cell? ((⟨w5.heap.size, 0, none⟩ : Addr).add j) = some u from cells_new_at w5 _ _ rfl)
    have m0 := cellK HB5.out hnl d4
    have z5 := HB5.out.size
    have m4 := cell_alloc (o := .cells #[.int .i64 f, .int .i64 t, .slice C b.length cc] 55) (show n < w5.heap.size by omega) m0
    clear hc5 hb5 hg5
    go_wp2_with (at_builtin; refine stop_here ?_)
    refine go_on ?_
    refine app_rowA (.tmp 36) (.tmp 41) 26 26 rfl rfl 0 55 i0 (.agg #[.int .i64 0, .int .i64 0, .slice none 0 0]) 3 40 Try.underlying26 hi hz0 hz1 hzb rfl (by omega) _ L.length (flatP es) rfl (O5.out.kept (fun g hg => Below.heap_alloc w5 _ g (O5.out.lt g hg).2)) (.slice (some ⟨w5.heap.size, 0, none⟩) 1 1) 1 [.int .i64 f, .int .i64 t, .slice C b.length cc] rfl (Src.ofSlice _ Try.underlying26 _ 1 1 _ rfl HNA.out (by intro u hu; simp at hu; rcases hu with rfl | rfl | rfl <;> rfl)) (by unfold maxLen; omega) (by omega) (Nat.zero_le _) ?_
    intro v6 w6 ho6 hg6 hat6
    obtain ⟨g, off, cap, rfl, -, hglt, hlc6, hcm6, -⟩ := ho6.elem (by omega)
    obtain ⟨m1, m2, hnq⟩ := netR_app d1 HD2.out d3 d4 HD6.out HD7.out HB5.out HC5.out ho6 hg6 (hat6.imp (fun h => h.symm) (fun h => by injection h with h; rw [World.size_alloc] at h; exact h))
    obtain ⟨D7, hn7, hg7, hc7⟩ := hnq
    obtain ⟨w7, hw7⟩ : ∃ w', w' = w6.setCell ⟨n, 0, none⟩ (.slice (some ⟨g, off, none⟩) (L.length + 1) cap) := ⟨_, rfl⟩
    have y7 : w7.cell? ⟨n, 0, none⟩ = some (.slice (some ⟨g, off, none⟩) (L.length + 1) cap) := by rw [hw7]; exact cell_here m1
    have f7 : w7.frozen? ⟨n, 0, none⟩ = false := by rw [hw7]; exact frozen_far m2
    rw [← hw7] at hn7 hc7
    have HN7 := hid hn7; have HG7 := hid hg7; have HC7 := hid hc7; have HW7 := hid hw7
    have hll : (L ++ [(f, t, b)]).length = L.length + 1 := by rw [List.length_append]; rfl
    clear hn7 hg7 hc7 hw7 ho6 hg6 hat6 hglt
    unfold maxLen at hcm6
    by_cases h160 : 160 < L.length + 1
    · have hr := HR.out
      rw [if_pos h160] at hr
      obtain ⟨g', off', c', y8, -, -, hn8⟩ := netR_tail HN7.out hll (by omega)
      rw [y7] at y8
      injection y8 with y8
      injection y8 with y8 _ y9
      injection y8 with y8
      injection y8 with y8 y10 _
      subst y8; subst y9; subst y10
      have HN8 := hid hn8; have HR2 := hid hr
      clear hn8 hr hll
      go_upto_region 6 with (fail)
      rw [← HW7.out]
      go_wp2
      go_ret
      exact ⟨rfl, D7, by rw [HR2.out]; exact HN8.out, HG7.out, HC7.out.trans (Chg.upd (Upd.setCell n 0 w7 _) d1) (fun i h => .inl h)⟩
    · have hr := HR.out
      rw [if_neg h160] at hr
      have HR2 := hid hr
      clear hr hll
      go_upto_region 6 with (fail)
      rw [← HW7.out]
      go_wp2
      go_ret
      exact ⟨rfl, D7, by rw [HR2.out]; exact HN7.out, HG7.out, HC7.out⟩
end Go.Proofs.Ytkgifbnkkmeoiaa
