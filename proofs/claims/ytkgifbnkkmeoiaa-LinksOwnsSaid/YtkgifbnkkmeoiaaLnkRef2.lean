/- The reference's net: Look, Drop, Way. -/
import Derived.Test.YtkgifbnkkmeoiaaLnkRef
namespace Go.Proofs.Ytkgifbnkkmeoiaa
open Go.ChangeShapes Go.WideShapes Go.ChangeAt Go.RowKit
set_option linter.unusedVariables false
set_option linter.unusedSimpArgs false

def LookR (D : Nat → Prop) (n : Nat) (r : PK × Int) (w : World) (e : Ending) (w' : World) : Prop :=
  ∃ A c, e = .returned (.tuple #[.agg #[.int .i64 r.1.1, .int .i64 r.1.2.1, .slice A r.1.2.2.length c], .int .i64 r.2]) ∧ SlE w' (fun k => D k ∧ k ≠ n) (.slice A r.1.2.2.length c) (bvals r.1.2.2) ∧ Below w.heap.size w w'
theorem lookR_of {D : Nat → Prop} {n : Nat} {L : PK} {w w' : World} {A : Option Addr} {c : Nat} (hs : SlE w (fun k => D k ∧ k ≠ n) (.slice A L.2.2.length c) (bvals L.2.2)) (hd : ∀ k, D k → k < w.heap.size) (hb : Below w.heap.size w w') :
    LookR D n (L, 0) w (.returned (.tuple #[.agg #[.int .i64 L.1, .int .i64 L.2.1, .slice A L.2.2.length c], .int .i64 0])) w' :=
  ⟨A, c, rfl, hs.kept (fun i hi => hb.block i (hd i hi.1)), hb⟩
set_option maxRecDepth 100000 in
set_option maxHeartbeats 1600000 in
theorem lookR_any (D : Nat → Prop) (n : Nat) (L : List PK) (p : Int) (w : World) (h : NetR w D n L) :
    Calls Try.prog 19 #[.pointer (some ⟨n, 0, none⟩), .int .i64 p] w (LookR D n (lookN L p) w) := by
  obtain ⟨h1, h2, h3, v, es, h4, h5, -, h7⟩ := h
  have hnl := h2 n h1
  by_cases hin : 0 ≤ p ∧ p < (L.length : Int)
  · obtain ⟨k, rfl⟩ : ∃ k : Nat, p = (k : Int) := ⟨p.toNat, by omega⟩
    have hk : k < L.length := by omega
    obtain ⟨g, off, cap, A, c, rfl, -, hg, hlc, hcm, q0, q1, q2, hs⟩ := pk_elem h5 h7 hk
    have hlk : lookN L (k : Int) = (L.getD k zP, 0) := by unfold lookN inN; rw [if_pos (decide_eq_true hin), Int.toNat_natCast]
    rw [hlk]
    generalize L.getD k zP = x at *
    obtain ⟨f, t, l⟩ := x
    simp only at q0 q1 q2 hs ⊢
    have HS := hid (hs.mono (fun i hi => (⟨hi.1, hi.2.1⟩ : D i ∧ i ≠ n)))
    have HD := hid h2
    unfold maxLen at hcm
    clear h1 h2 h3 h5 h7 hs hlk
    go_enter Try.func19, Try.ntmps19
    go_wp2
    exact bodyPost_ret (v := .tuple #[.agg #[.int .i64 f, .int .i64 t, .slice A l.length c], .int .i64 0]) (by simp [results, Try.results19, go_sem]; done) rfl (lookR_of (L := (f, t, l)) HS.out HD.out (by repeat' first | with_reducible exact Below.refl _ _ | assumption | (with_reducible refine Below.alloc ?_ ?_ _) | (with_reducible refine Below.setCell ?_ ?_ _) | (with_reducible refine Below.drew ?_) | (with_reducible refine below_drewN ?_ _) | (with_reducible refine Below.trans ?_ (Below.mono ‹_› ?_)) | omega | (with_reducible refine le_alloc ?_) | (with_reducible refine le_setCell ?_) | (with_reducible refine le_drew ?_) | (with_reducible refine le_drewN ?_) | (with_reducible refine Nat.le_trans ?_ (Below.size ‹_›)) | (simp <;> omega)))
  · have hlk : lookN L p = (zP, 33) := by unfold lookN inN; rw [if_neg (by simpa using hin)]
    rw [hlk]
    obtain ⟨A, c, rfl, -, -⟩ := h5.form
    have hc : p < 0 ∨ (¬ p < 0 ∧ (L.length : Int) ≤ p) := by omega
    clear h5 h7 hlk hin
    rcases hc with hc | ⟨hc, hc2⟩
    all_goals
      go_enter Try.func19, Try.ntmps19
      go_wp2
      exact bodyPost_ret (v := .tuple #[.agg #[.int .i64 0, .int .i64 0, .slice none 0 0], .int .i64 33]) (by simp [results, Try.results19, go_sem]; done) rfl ⟨none, 0, rfl, ⟨none, 0, rfl, Nat.le_refl _, by simp [maxLen], fun h => absurd h (Nat.lt_irrefl 0)⟩, (by repeat' first | with_reducible exact Below.refl _ _ | assumption | (with_reducible refine Below.alloc ?_ ?_ _) | (with_reducible refine Below.setCell ?_ ?_ _) | (with_reducible refine Below.drew ?_) | (with_reducible refine below_drewN ?_ _) | (with_reducible refine Below.trans ?_ (Below.mono ‹_› ?_)) | omega | (with_reducible refine le_alloc ?_) | (with_reducible refine le_setCell ?_) | (with_reducible refine le_drew ?_) | (with_reducible refine le_drewN ?_) | (with_reducible refine Nat.le_trans ?_ (Below.size ‹_›)) | (simp <;> omega))⟩
/-! ### Drop -/
def DropR (D : Nat → Prop) (n : Nat) (r : List PK × Int) (w : World) (e : Ending) (w' : World) : Prop := e = .returned (.int .i64 r.2) ∧ ∃ D', NetR w' D' n r.1 ∧ Grow w D D' ∧ Upd n w w'
set_option maxRecDepth 100000 in
set_option maxHeartbeats 3200000 in
theorem dropR_any (D : Nat → Prop) (n : Nat) (L : List PK) (p : Int) (w : World) (h : NetR w D n L) (hL : L.length ≤ 1000) :
    Calls Try.prog 20 #[.pointer (some ⟨n, 0, none⟩), .int .i64 p] w (DropR D n (dropN L p, (lookN L p).2) w) := by
  obtain ⟨i0, hi, hz0, hz1, hzb⟩ := info_parts info_pkR
  have HH := hid h
  obtain ⟨h1, h2, h3, v, es, h4, h5, h6, h7⟩ := h
  have hnl := h2 n h1
  by_cases hin : 0 ≤ p ∧ p < (L.length : Int)
  · obtain ⟨k, rfl⟩ : ∃ k : Nat, p = (k : Int) := ⟨p.toNat, by omega⟩
    have hk : k < L.length := by omega
    have hlk : (lookN L (k : Int)).2 = 0 := by unfold lookN inN; rw [if_pos (decide_eq_true hin)]
    have hdk : dropN L (k : Int) = L.take k ++ L.drop (k + 1) := by unfold dropN inN; rw [if_pos (decide_eq_true hin), Int.toNat_natCast]
    rw [hlk, hdk]
    obtain ⟨g, off, cap, hv, -, hg, hlc, hcm, hcl⟩ := h5.elem (by omega)
    subst hv
    have hel := h7.1
    have hkc : k ≤ cap := by omega
    have hk1 : k + 1 ≤ L.length := by omega
    have hk1c : k + 1 ≤ cap := by omega
    have hw1 : IntKind.i64.wrap ((k : Int) + 1) = (k : Int) + 1 := IntWalk.i64_in _ (by omega)
    have hone : ∀ (ds : List P3), (∀ x ∈ ds, x ∈ es) → ∀ u ∈ flatP ds, u.oneCell' = true := fun ds hds u hu => by
      obtain ⟨x, hx, hu⟩ := List.mem_flatMap.1 hu
      obtain ⟨i, hi, rfl⟩ := List.mem_iff_getElem.1 (hds x hx)
      obtain ⟨-, -, A, c, e3, -⟩ := h7.2 i (by omega)
      rw [List.getD_eq_getElem?_getD, List.getElem?_eq_getElem hi] at e3
      simp only [Option.getD_some] at e3
      simp only [p3, List.mem_cons, List.not_mem_nil, or_false] at hu
      rcases hu with rfl | rfl | rfl
      · rfl
      · rfl
      · rw [e3]; rfl
    have hs1 : SlK w w.heap.size 3 (.slice (some ⟨g, off, none⟩) k cap) k (flatP (es.take k)) := by
      refine ⟨by rw [flatP_len, List.length_take]; omega, _, _, rfl, hkc, hcm, fun _ => ⟨g, off, rfl, hg, fun j u hu => ?_⟩⟩
      rw [← flatP_take, List.getElem?_take] at hu
      split at hu
      · rw [hcl j (by omega)]; exact hu
      · cases hu
    have hs2 : ∀ A2, (0 < L.length - (k + 1) → A2 = some ⟨g, off + (k + 1) * 3, none⟩) → SlK w w.heap.size 3 (.slice A2 (L.length - (k + 1)) (cap - (k + 1))) (L.length - (k + 1)) (flatP (es.drop (k + 1))) := fun A2 hA2 => by
      refine ⟨by rw [flatP_len, List.length_drop, hel], _, _, rfl, by omega, by unfold maxLen at *; omega, fun h0 => ⟨g, off + (k + 1) * 3, hA2 h0, hg, fun j u hu => ?_⟩⟩
      rw [← flatP_drop, List.getElem?_drop] at hu
      have hj := (List.getElem?_eq_some_iff.1 hu).1
      rw [flatP_len, hel] at hj
      rw [Nat.add_assoc, hcl _ (by omega)]; exact hu
    have hll : (L.take k ++ L.drop (k + 1)).length = k + (L.length - (k + 1)) := by rw [List.length_append, List.length_take, List.length_drop]; omega
    have hfin : ∀ (w1 : World) (u : Value), Below w.heap.size w w1 → w1.ownsRow w.heap.size 55 3 u (k + (L.length - (k + 1))) (flatP (es.take k) ++ flatP (es.drop (k + 1))) →
        DropR D n (L.take k ++ L.drop (k + 1), 0) w (.returned (.int .i64 0)) (w1.setCell ⟨n, 0, none⟩ u) := fun w1 u hb ho => by
      have hsz := hb.size
      have hfar : ∀ i, i ≠ n → (w1.setCell ⟨n, 0, none⟩ u).heap[i]? = w1.heap[i]? := fun i hi => Below.heap_setCell _ _ _ i (by simpa using hi)
      have hz : (w1.setCell ⟨n, 0, none⟩ u).heap.size = w1.heap.size := by simp [World.setCell]
      have hun : ∀ q, u.ownBlock = some q → w.heap.size ≤ q ∧ q < w1.heap.size := ho.lt
      refine ⟨rfl, fun i => D i ∨ u.ownBlock = some i, ⟨.inl h1, fun i hi => ?_, frozen_far (frozenK hb hnl h3), u, es.take k ++ es.drop (k + 1), cell_here (cellK hb hnl h4), ?_, fun q hq => ⟨.inr hq, by have := hun q hq; omega⟩, ?_⟩, ⟨fun i hi => .inl hi, fun i hi => hi.imp id (fun h => by have := hun i h; omega)⟩, ((Upd.refl n w).new hb).trans (Upd.setCell n 0 w1 u)⟩
      · rw [hz]
        rcases hi with hi | hi
        · have := h2 i hi; omega
        · exact (hun i hi).2
      · rw [hll, flatP_app]
        have h0 : w1.ownsRow 0 55 3 u (k + (L.length - (k + 1))) (flatP (es.take k) ++ flatP (es.drop (k + 1))) := ⟨ho.1, ho.2.imp id (fun ⟨q, c, cur, e, hq, r⟩ => ⟨q, c, cur, e, Nat.zero_le _, r⟩)⟩
        exact RowA.of_own (own_kept h0 (fun q hq => hfar q (by have := hun q hq; omega)))
      · have hr := (h7.take k).app (h7.drop (k + 1))
        refine (hr.kept (w' := w1.setCell ⟨n, 0, none⟩ u) (fun i hi => ?_)).mono (fun i hi => ⟨.inl hi.1, hi.2.1, fun e => by have := hun i e; have := h2 i hi.1; omega⟩)
        rw [hfar i hi.2.1, hb.block i (h2 i hi.1)]
    have HFIN := hid hfin; have HS1 := hid hs1; have HS2 := hid hs2
    have HO1 := hid (hone _ (fun x hx => List.mem_of_mem_take hx : ∀ x ∈ es.take k, x ∈ es)); have HO2 := hid (hone _ (fun x hx => List.mem_of_mem_drop hx : ∀ x ∈ es.drop (k + 1), x ∈ es))
    unfold maxLen at hcm
    clear h5 h6 h7 h2 hcl hs1 hs2 hfin hone hll hel h1 hlk hdk
    go_enter Try.func20, Try.ntmps20
    go_wp2_with (at_builtin; refine stop_here ?_)
    refine go_on ?_
    refine app_own_at (.tmp 17) (.tmp 23) 26 26 rfl rfl w.heap.size 55 i0 (.agg #[.int .i64 0, .int .i64 0, .slice none 0 0]) 3 40 Try.underlying26 hi hz0 hz1 hzb rfl (by omega) _ 0 [] rfl (World.ownsRow_nil _ _ _ _) (.slice (some ⟨g, off, none⟩) k cap) k (flatP (es.take k)) rfl (HS1.out.src Try.underlying26 HO1.out) (by unfold maxLen; omega) (by omega) (Nat.le_refl _) ?_
    intro v5 w5 ho5 hg5 hb5 hat5
    rw [Nat.zero_add, List.nil_append] at ho5
    obtain ⟨U, cu, rfl⟩ := own_formN ho5
    have y5 := cellK hb5 hnl h4
    have f5 := frozenK hb5 hnl h3
    have z5 := hb5.size
    have HO5 := hid ho5; have HB5 := hid hb5
    clear ho5 hb5 hg5 hat5
    have hI1 : 0 ≤ (k : Int) + 1 ∧ (k : Int) + 1 ≤ (L.length : Int) := by omega
    by_cases hcc : cap = k + 1
    · subst hcc
      have hkk : (k : Int) ≤ (k : Int) + 1 := by omega
      have HS3 := hid (show ∀ A2, SlK w5 w.heap.size 3 (.slice A2 0 0) (L.length - (k + 1)) (flatP (es.drop (k + 1))) from fun A2 => by
        have h2 := HS2.out A2 (fun h => by omega)
        have e : Value.slice A2 (L.length - (k + 1)) (k + 1 - (k + 1)) = .slice A2 0 0 := by rw [show L.length - (k + 1) = 0 by omega, Nat.sub_self]
        rw [e] at h2
        exact h2.below HB5.out)
      go_wp2_with (at_builtin; refine stop_here ?_)
      refine go_on ?_
      refine app_own_at (.tmp 25) (.tmp 32) 26 26 rfl rfl w.heap.size 55 i0 (.agg #[.int .i64 0, .int .i64 0, .slice none 0 0]) 3 40 Try.underlying26 hi hz0 hz1 hzb rfl (by omega) _ k (flatP (es.take k)) rfl HO5.out _ (L.length - (k + 1)) (flatP (es.drop (k + 1))) rfl ((HS3.out _).src Try.underlying26 HO2.out) (by unfold maxLen; omega) (by omega) z5 ?_
      intro v6 w6 ho6 hg6 hb6 hat6
      obtain ⟨U6, cu6, rfl⟩ := own_formN ho6
      have hb56 := HB5.out.trans hb6
      have y6 := cellK hb56 hnl h4
      have f6 := frozenK hb56 hnl h3
      have HP := hid (HFIN.out w6 _ hb56 ho6)
      clear ho6 hg6 hb6 hat6 hb56
      go_wp2
      go_ret
      have hp := HP.out
      rw [show k + (L.length - (k + 1)) = k by omega] at hp
      exact hp
    · go_wp2_with (at_builtin; refine stop_here ?_)
      refine go_on ?_
      refine app_own_at (.tmp 25) (.tmp 32) 26 26 rfl rfl w.heap.size 55 i0 (.agg #[.int .i64 0, .int .i64 0, .slice none 0 0]) 3 40 Try.underlying26 hi hz0 hz1 hzb rfl (by omega) _ k (flatP (es.take k)) rfl HO5.out _ (L.length - (k + 1)) (flatP (es.drop (k + 1))) rfl (((HS2.out _ (fun _ => rfl)).below HB5.out).src Try.underlying26 HO2.out) (by unfold maxLen; omega) (by omega) z5 ?_
      intro v6 w6 ho6 hg6 hb6 hat6
      obtain ⟨U6, cu6, rfl⟩ := own_formN ho6
      have hb56 := HB5.out.trans hb6
      have y6 := cellK hb56 hnl h4
      have f6 := frozenK hb56 hnl h3
      have HP := hid (HFIN.out w6 _ hb56 ho6)
      clear ho6 hg6 hb6 hat6 hb56
      go_wp2
      go_ret
      exact HP.out
  · have hlk : lookN L p = (zP, 33) := by unfold lookN inN; rw [if_neg (by simpa using hin)]
    have hdk : dropN L p = L := by unfold dropN inN; rw [if_neg (by simpa using hin)]
    rw [hlk, hdk]
    obtain ⟨A, c, rfl, -, -⟩ := h5.form
    have hc : p < 0 ∨ (¬ p < 0 ∧ (L.length : Int) ≤ p) := by omega
    clear h5 h7 hlk hin hdk
    rcases hc with hc | ⟨hc, hc2⟩
    all_goals
      go_enter Try.func20, Try.ntmps20
      go_wp2
      go_ret
      exact ⟨rfl, D, HH.out, Grow.refl _ _, Upd.refl _ _⟩
/-! ### Way -/
set_option maxRecDepth 100000 in
set_option maxHeartbeats 1600000 in
theorem wayR_any (D : Nat → Prop) (n : Nat) (L : List PK) (f t : Int) (w : World) (h : NetR w D n L) (hL : L.length ≤ 1000) :
    Calls Try.prog 23 #[.pointer (some ⟨n, 0, none⟩), .int .i64 f, .int .i64 t] w (IntsP (wayN L f t) w) := by
  obtain ⟨i0, hi, hz0, hz1, hz2⟩ := info_parts info_int
  obtain ⟨h1, h2, h3, v, es, h4, h5, -, h7⟩ := h
  have hnl := h2 n h1
  have HEL := hid (fun k (hk : k < L.length) => pk_elem h5 h7 hk)
  obtain ⟨A, c, rfl, -, -⟩ := h5.form
  clear h2 h5 h7
  go_enter Try.func23, Try.ntmps23
  go_wp2
  go_loopw [7, 8] (fun out i wr => WayRel L f t w out i wr) (fun _ i _ => L.length - (intOf i).toNat)
  case atStart => exact ⟨0, by omega, rfl, World.ownsRow_nil _ _ _ _, Below.refl _ _⟩
  case round =>
    obtain ⟨k, hk, rfl, ho, hb⟩ := hrel
    have hsb := hb.size
    have h4 := cellK hb hnl h4
    by_cases hlt : k < L.length
    · obtain ⟨g, off, cap, C, cc, e, -, hg, hlc, hcm, q0, q1, q2, -⟩ := HEL.out k hlt
      injection e with e1 _ e3
      subst e1; subst e3
      have q0 := cellK hb hg q0
      have q1 := cellK hb hg q1
      have hws := wayK_succ L f t k
      have hwl := wayK_len L f t k
      clear q2
      generalize (L.getD k zP).1 = x1 at *
      generalize (L.getD k zP).2.1 = x2 at *
      have HWS := hid hws; have HO1 := hid ho; have HB1 := hid hb
      clear hws ho hb
      unfold maxLen at hcm
      by_cases hm : x1 = f ∧ x2 = t
      · have t1 : (x1 == f) = true := by simp [hm.1]
        have t2 : (x2 == t) = true := by simp [hm.2]
        have hws := HWS.out
        rw [if_pos hm] at hws
        have HWS2 := hid hws
        clear hws hm
        go_wp2_with (at_builtin; refine stop_here ?_)
        refine go_on ?_
        refine app_own_at (.tmp 40) (.tmp 42) 39 39 rfl rfl w.heap.size 3 i0 (.int .i64 0) 1 8 Try.underlying39 hi hz0 hz1 hz2 rfl (by decide) _ _ _ rfl (HO1.out.alloc _) (.slice (some ⟨wr.heap.size, 0, none⟩) 1 1) 1 [.int .i64 k] rfl (Src.ofSlice _ Try.underlying39 _ 1 1 _ rfl (cells_new_at _ _ _ rfl) (by simp; rfl)) (by simp only [maxLen]; omega) (by omega) (by rw [World.size_alloc]; omega) ?_
        intro v8 w8 hown8 hg8 hb8 hat8
        have hown9 : w8.ownsRow w.heap.size 3 1 v8 (wayK L f t (k + 1)).length (ivals (wayK L f t (k + 1))) := by
          rw [HWS2.out, List.length_append, show ivals (wayK L f t k ++ [(k : Int)]) = ivals (wayK L f t k) ++ [.int .i64 k] by simp [ivals]]
          exact hown8
        have HO8 := hid hown9
        have HB8 := hid ((HB1.out.alloc (by omega) _).trans hb8)
        clear hown8 hown9 hg8 hb8 hat8
        go_wp2
        go_roundw
        case rel => exact ⟨k + 1, by omega, by go_num, HO8.out, HB8.out⟩
        case measure => simp [intOf]; omega
      · have hws := HWS.out
        rw [if_neg hm, List.append_nil] at hws
        have HWS2 := hid hws
        clear hws
        have hc2 : (x1 ≠ f) ∨ (x1 = f ∧ x2 ≠ t) := by
          by_cases h : x1 = f
          · exact .inr ⟨h, fun h' => hm ⟨h, h'⟩⟩
          · exact .inl h
        clear hm
        rcases hc2 with hc2 | ⟨hc1, hc2⟩
        · have t1 : (x1 == f) = false := by simpa using hc2
          clear hc2
          go_wp2
          go_roundw
          case rel => exact ⟨k + 1, by omega, by go_num, by rw [HWS2.out]; exact HO1.out, HB1.out⟩
          case measure => simp [intOf]; omega
        · have t1 : (x1 == f) = true := by simp [hc1]
          have t2 : (x2 == t) = false := by simpa using hc2
          clear hc1 hc2
          go_wp2
          go_roundw
          case rel => exact ⟨k + 1, by omega, by go_num, by rw [HWS2.out]; exact HO1.out, HB1.out⟩
          case measure => simp [intOf]; omega
    · obtain rfl : k = L.length := by omega
      have HO := hid ho; have HB := hid hb
      clear ho hb
      go_wp2
      go_ret
      exact ⟨_, rfl, HO.out, HB.out⟩
end Go.Proofs.Ytkgifbnkkmeoiaa
