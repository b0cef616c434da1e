/- 2 texts of this claim, in build order. -/
import Derived.Test.YtclhnnidbhchnaaPannjhgde
import Derived.Test.YtclhnnidbhchnaaPeccdcknl
import Derived.Test.YtclhnnidbhchnaaPkihhlpba
/- The program's order: the keys of a cuboid, in order. -/
namespace Go.Proofs.Ytclhnnidbhchnaa
open Go.ChangeShapes Go.WideShapes Go.ChangeAt Go.RowKit Go.Maps Go.Sort
set_option linter.unusedVariables false
set_option linter.unusedSimpArgs false

theorem info_key : (Try.prog.info? 99).map (fun i => (i.zero, i.size, i.bytes)) = some (some (.agg #[.int .i64 0, .int .i64 0, .int .i64 0]), 3, 24) := by kernel_rfl
def OrdRel (D : DataW Value) (S : List T3) (m n : Nat) (w : World) (l : Value) (wr : World) : Prop :=
  ∃ (V : List T3) (left : Lit → Bool) (cnt : Nat), wr.ownsRow (w.heap.size + 1) 99 3 l V.length (flat3 V) ∧ wr.ranges Try.prog 99 heldR m w.heap.size n D left cnt ∧ V.Nodup ∧ (∀ x ∈ V, x ∈ S) ∧
    (∀ x ∈ S, left (kl3 x) = !decide (x ∈ V)) ∧ (∀ kl, left kl = true → ∃ x ∈ S, kl = kl3 x) ∧ w.heap.size < wr.heap.size ∧ Below w.heap.size w wr
def OrdP (L : List KC) (w : World) (e : Ending) (w' : World) : Prop := ∃ v, e = .returned v ∧ KeysAt w' v L ∧ Below w.heap.size w w'
theorem nodup_le {V S : List T3} (h : V.Nodup) (hs : ∀ x ∈ V, x ∈ S) : V.length ≤ S.length := by
  induction V generalizing S with
  | nil => simp
  | cons x V ih =>
    obtain ⟨h1, h2⟩ := List.nodup_cons.1 h
    have hx := hs x List.mem_cons_self
    have := ih (S := S.erase x) h2 (fun y hy => (List.mem_erase_of_ne (fun e => by subst e; exact h1 hy)).2 (hs y (List.mem_cons_of_mem _ hy)))
    rw [List.length_erase_of_mem hx] at this
    have := List.length_pos_of_mem hx
    simp; omega
theorem sameKey_self {a : Lit} (h : WideAt.IsKeyLit a) : a.sameKey a = true := by
  cases a <;> first | (simp [Lit.sameKey]; done) | exact absurd h (by simp [WideAt.IsKeyLit])
theorem enc3_one (x : T3) : ∀ u ∈ enc3 x, u.oneCell' = true := by
  intro u hu
  simp [enc3] at hu
  rcases hu with rfl | rfl | rfl <;> rfl
theorem cells_at3 (w : World) (vs : Array Value) (t : TypeId) {N : Nat} (hN : w.heap.size = N) : ∀ j u, vs.toList[j]? = some u → (w.alloc (.cells vs t)).cell? ((⟨N, 0, none⟩ : Addr).add j) = some u := by
  subst hN
  intro j u hu
  have e : (⟨w.heap.size, 0, none⟩ : Addr).add j = ⟨w.heap.size, j, none⟩ := by unfold Addr.add; split <;> simp_all
  rw [e, World.cell?_alloc_at _ _ _ _ rfl]
  rw [Array.getElem?_toList] at hu
  exact hu
set_option maxRecDepth 100000 in
set_option maxHeartbeats 3200000 in
theorem order_any (D : Nat → Prop) (p m W M : Nat) (L : List KC) (w : World) (hc : CubW w D p m W M L) (hs : OkL W M L) (hW : W ≤ 3) (hL : L.length ≤ 70000) :
    Calls Try.prog 53 #[.pointer (some ⟨p, 0, none⟩)] w (OrdP L w) := by
  obtain ⟨i0, hi, hz0, hz1, hz2⟩ := info_parts info_key
  have hpl := hc.2.2.2.1 p hc.1
  have hml := hc.2.2.2.1 m hc.2.1
  have y2 := hc.2.2.2.2.2.2.1
  obtain ⟨Dm, h1, h2, h3, h4, h5⟩ := hc.2.2.2.2.2.2.2
  have hS := keys3_sorted hs hW
  have hmem : ∀ kl, Maps.has Dm kl = true → ∃ x ∈ keys3 L, kl = kl3 x := fun kl h => by
    obtain ⟨x, hx, rfl⟩ := h5 kl h
    exact ⟨t3 x.1, List.mem_map.2 ⟨x, hx, rfl⟩, rfl⟩
  have hall : ∀ x ∈ keys3 L, Maps.has Dm (kl3 x) = true := fun x hx => by
    obtain ⟨y, hy, rfl⟩ := List.mem_map.1 hx
    rw [kl3_t3, h3 _ (hs.key y hy), getK_of_mem hs.sort hy]; rfl
  have hkey : ∀ x ∈ keys3 L, keyOf Try.prog 99 (keyV x.1 x.2.1 x.2.2) = some (kl3 x) := fun x hx => by
    obtain ⟨y, hy, rfl⟩ := List.mem_map.1 hx
    exact key_of_k (hs.key y hy)
  have hlen : (keys3 L).length = L.length := by simp [keys3]
  have HS := hid hS; have HMEM := hid hmem; have HALL := hid hall; have HKEY := hid hkey; have HLEN := hid hlen
  generalize hks : keys3 L = S at *
  have HKS := hid hks
  clear hks
  clear hS hmem hall hkey hlen hs hc h2 h3 h4 h5
  go_enter Try.func53, Try.ntmps53
  go_wp2_with (first
    | (at_range; refine wpList_range_own _ rfl _ 92 rfl 99 25 key_law Try.underlying92 _ m L.length Dm rfl h1 ?_; intro w0 hrg0 hg0 hs0)
    | go_in)
  go_frame
  go_loopw [3] (fun l wr => OrdRel Dm S m L.length w l wr) (fun _ wr => wr.rangeLeft m w.heap.size)
  case atStart =>
    exact ⟨[], _, _, World.ownsRow_nil _ _ _ _, hrg0, List.nodup_nil, (fun x hx => by cases hx), (fun x hx => by rw [HALL.out x hx]; rfl), HMEM.out, by omega, (Below.refl _ _).grown hg0 (Nat.le_refl _) (fun j hj => by cases hj)⟩
  case round =>
    obtain ⟨V, left, cnt, hown, hrg, hnd, hin, hlf, hlk, hwl, hbl⟩ := hrel
    go_wp2_with (first
      | (at_next; refine wpList_next_ranges _ rfl _ rfl 99 key_law heldR (fun x : T3 => keyV x.1 x.2.1 x.2.2) (fun v : Value => v) (fun key kl h => by obtain ⟨a, b, c, e⟩ := key_inv h; exact ⟨(a, b, c), e⟩) (fun v y h => ⟨v, rfl⟩) m w.heap.size L.length Dm left cnt rfl hrg ?_ ?_)
      | go_in)
    · intro hc0 hl0
      have hall : ∀ x, x ∈ V ↔ x ∈ S := fun x => ⟨hin x, fun hx => by
        have := hlf x hx
        rw [hl0] at this
        simpa using this⟩
      have hsn : S.Nodup := HS.out.imp (fun {a b} h e => by subst e; rw [lex_irrefl] at h; cases h)
      have hvl : V.length = L.length := by
        have a1 := nodup_le hnd hin
        have a2 := nodup_le hsn (fun x hx => (hall x).2 hx)
        have := HLEN.out
        omega
      have hsl := hbl.size
      rcases hown.2 with ⟨rfl, h0⟩ | ⟨g, cap, cur, rfl, hbg, hgc, hnc, hcm, -, -⟩
      · have hL0 : L.length = 0 := by omega
        have HBL := hid hbl
        have HSN := hid (fun W => sort_none W)
        clear hown hrg hnd hin hlf hlk hl0 hall hsn hbl
        go_wp2_with fail
        refine (HSN.out _).mono ?_
        rintro e w1 ⟨rfl, rfl⟩
        go_wp2
        go_ret
        exact ⟨_, rfl, ⟨none, 0, by rw [hL0]; rfl, by omega, by unfold maxLen; omega, fun h => by omega⟩, HBL.out⟩
      · have hgl := (hown.lt g rfl).2
        have hsr := hid (sort_any g cap V.length V S wr (holds3 hown rfl) hgl rfl (by omega) HS.out hnd hall)
        have HBL := hid hbl
        rw [hvl] at hsr hnc
        rw [hvl]
        clear hown hrg hnd hin hlf hlk hl0 hall hsn hbl
        go_wp2_with fail
        refine hsr.out.mono ?_
        rintro e w1 ⟨rfl, hH, hu⟩
        have hsu := hu.size
        rw [← HKS.out] at hH
        have HH := hid hH; have HU := hid hu
        clear hH hu
        go_wp2
        go_ret
        exact ⟨_, rfl, keys_at HH.out (by omega) hnc hcm, HBL.out.trans (HU.out.below (by omega) hgl)⟩
    · intro x1 x2 x3 c kl yd yp w1 cnt1 hkl hlx hRv hat hrg1 hlt hg1 hs1 hen
      obtain ⟨z, hz, rfl⟩ := hlk kl hlx
      have hxz : (x1, x2, x3) = z := by
        have e := key_law.inj hkl (HKEY.out z hz)
        unfold keyV at e
        simp only [Value.agg.injEq, Array.mk.injEq, List.cons.injEq, Value.int.injEq, true_and, and_true] at e
        exact Prod.ext e.1 (Prod.ext e.2.1 e.2.2)
      subst hxz
      unfold keyV at hen
      have hxl := hlf _ hz
      rw [hlx] at hxl
      have hxv : (x1, x2, x3) ∉ V := by simpa using hxl.symm
      have hnd' : (V ++ [(x1, x2, x3)]).Nodup := by
        rw [List.nodup_append]
        exact ⟨hnd, by simp, fun a ha b hb => by simp at hb; subst hb; exact fun e => hxv (e ▸ ha)⟩
      have hin' : ∀ x ∈ V ++ [(x1, x2, x3)], x ∈ S := fun x hx => by
        rcases List.mem_append.1 hx with h | h
        · exact hin x h
        · simp at h; rw [h]; exact hz
      have hvn : V.length + 1 ≤ L.length := by
        have := nodup_le hnd' hin'
        rw [List.length_append, List.length_singleton] at this
        have := HLEN.out
        omega
      have hlf' : ∀ x ∈ S, (left (kl3 x) && !(kl3 x).sameKey (kl3 (x1, x2, x3))) = !decide (x ∈ V ++ [(x1, x2, x3)]) := fun x hx => by
        rw [hlf x hx]
        by_cases e : x = (x1, x2, x3)
        · subst e
          rw [show (kl3 (x1, x2, x3)).sameKey (kl3 (x1, x2, x3)) = true from sameKey_self (key_law.key hkl)]
          simp
        · have hne : kl3 x ≠ kl3 (x1, x2, x3) := fun h => e (by
            have e2 := key_law.inj (HKEY.out x hx) (by rw [h]; exact HKEY.out _ hz)
            unfold keyV at e2
            simp only [Value.agg.injEq, Array.mk.injEq, List.cons.injEq, Value.int.injEq, true_and, and_true] at e2
            exact Prod.ext e2.1 (Prod.ext e2.2.1 e2.2.2))
          rw [Maps.sameKey_ne hne]
          simp [e]
      have hlk' : ∀ kl, (left kl && !kl.sameKey (kl3 (x1, x2, x3))) = true → ∃ x ∈ S, kl = kl3 x := fun kl h => hlk kl (by simp at h; exact h.1)
      have hown1 := own_kept hown (fun g hg => hg1.block g (hown.lt g hg).2 (fun e => by injection e with e; have := (hown.lt g hg).1; omega))
      have hb1 : Below w.heap.size w w1 := hbl.grown hg1 hbl.size (fun j hj => by cases hj; exact Nat.le_refl _)
      have hownA := own_kept hown1 (fun g hg => (((bl1 w1 (.cells #[.int .i64 x1, .int .i64 x2, .int .i64 x3] 99)).trans ((bl1 _ (.cells #[.int .i64 x1, .int .i64 x2, .int .i64 x3] 99)).mono (by simp))).block g (hown1.lt g hg).2))
      have hrgA := (hrg1.alloc (.cells #[.int .i64 x1, .int .i64 x2, .int .i64 x3] 99)).alloc (.cells #[.int .i64 x1, .int .i64 x2, .int .i64 x3] 99)
      have HLF := hid hlf'; have HLK := hid hlk'; have HND := hid hnd'; have HIN := hid hin'; have HOA := hid hownA; have HRA := hid hrgA; have HB1 := hid hb1; have HRG := hid hrg; have HML := hid (show m < w.heap.size from hml)
      clear hlf' hlk' hnd' hin' hownA hrgA hb1 hlf hlk hnd hin hown hown1 hrg hrg1 hxl hxv hbl hz
      go_wp2_with (at_builtin; refine stop_here ?_)
      refine go_on ?_
      refine app_own_at (.tmp 15) (.tmp 17) 96 96 rfl rfl (w.heap.size + 1) 99 i0 (.agg #[.int .i64 0, .int .i64 0, .int .i64 0]) 3 24 Try.underlying96 hi hz0 hz1 hz2 rfl (by decide) _ _ _ rfl HOA.out (.slice (some ⟨wr.heap.size + 1, 0, none⟩) 1 1) 1 (enc3 (x1, x2, x3)) rfl (Src.ofSlice _ Try.underlying96 _ 1 1 _ rfl (cells_at3 _ _ _ (by simp [hs1])) (enc3_one _)) (by simp only [maxLen]; omega) (by omega) (by simp only [World.size_alloc]; omega) ?_
      intro v2 w2 hown2 hg2 hb2 hat2
      rw [← flat3_snoc] at hown2
      have hrg2 := HRA.out.kept hg2 (fun e => by have := (HOA.out.lt m e.symm).1; have := HML.out; omega) (fun e => by have := (HOA.out.lt _ e.symm).1; omega)
      have HO2 := hid hown2; have HR2 := hid hrg2
      have HB2 := hid (HB1.out.trans ((((bl1 w1 (.cells #[.int .i64 x1, .int .i64 x2, .int .i64 x3] 99)).trans ((bl1 _ (.cells #[.int .i64 x1, .int .i64 x2, .int .i64 x3] 99)).mono (by simp))).mono (by omega)).trans (hb2.mono (by omega))))
      have hs2 := HB2.out.size
      have hs2' : w.heap.size < w2.heap.size := by have := hg2.size; simp at this; omega
      clear hown2 hrg2 hg2 hb2 hat2
      go_wp2
      go_roundw
      case rel => exact ⟨V ++ [(x1, x2, x3)], _, cnt1, by rw [List.length_append, List.length_singleton]; exact HO2.out, HR2.out, HND.out, HIN.out, HLF.out, HLK.out, hs2', HB2.out⟩
      case measure => rw [HR2.out.left_eq, HRG.out.left_eq]; exact hlt
end Go.Proofs.Ytclhnnidbhchnaa
/- slices.Clone at ints, cell.copied. -/
namespace Go.Proofs.Ytclhnnidbhchnaa
open Go.ChangeShapes Go.WideShapes Go.ChangeAt Go.RowKit
set_option linter.unusedVariables false
set_option linter.unusedSimpArgs false

theorem ivals_one (l : List Int) : ∀ u ∈ ivals l, u.oneCell' = true := by
  intro u hu
  obtain ⟨x, _, rfl⟩ := List.mem_map.1 hu
  rfl
def CloneIP (l : List Int) (w : World) (e : Ending) (w' : World) : Prop := ∃ v, e = .returned v ∧ w'.ownsRow w.heap.size 3 1 v l.length (ivals l) ∧ Below w.heap.size w w'
set_option maxRecDepth 100000 in
set_option maxHeartbeats 400000 in
theorem cloneI_any (v : Value) (l : List Int) (w : World) (hv : Sl w w.heap.size v (ivals l)) (hl : l.length ≤ 1073741824) :
    Calls Try.prog 63 #[v] w (CloneIP l w) := by
  obtain ⟨i0, hi, hz0, hz1, hz2⟩ := info_parts info_int
  have hv' := hv
  obtain ⟨A, c, rfl, hc1, hc2, hA⟩ := hv
  simp only [ivals_len] at hc1 hv' ⊢
  have HV := hid hv'; have HA := hid hA
  clear hv' hA
  go_enter Try.func63, Try.ntmps63
  cases A with
  | none =>
    have h0 : l = [] := by
      cases l with
      | nil => rfl
      | cons x l => obtain ⟨b, off, h, _⟩ := HA.out (by simp [ivals]); cases h
    have H0 := hid h0; clear h0
    have hq : ∀ W : World, (binOp .eql 23 (.slice none l.length c) (.slice none 0 0)).run Try.prog W = .ok (.bool true) W := fun _ => rfl
    go_wp2
    go_ret
    exact ⟨_, rfl, by rw [H0.out]; exact World.ownsRow_nil _ _ _ _, Below.refl _ _⟩
  | some x =>
    have hq : ∀ W : World, (binOp .eql 23 (.slice (some x) l.length c) (.slice none 0 0)).run Try.prog W = .ok (.bool false) W := fun _ => rfl
    go_wp2_with (at_builtin; refine stop_here ?_)
    refine go_on ?_
    have hown : (w.alloc (.cells #[] 3)).ownsRow w.heap.size 3 1 (.slice (some ⟨w.heap.size, 0, none⟩) 0 0) 0 [] := by
      refine ⟨rfl, .inr ⟨w.heap.size, 0, #[], rfl, Nat.le_refl _, ?_, Nat.le_refl _, by simp [maxLen], rfl, rfl⟩⟩
      exact heap_alloc_new w _
    refine app_own (.tmp 5) (.tmp 6) 23 23 rfl rfl w.heap.size 3 i0 (.int .i64 0) 1 8 Try.underlying23 hi hz0 hz1 hz2 rfl (by omega) _ _ _ rfl hown (.slice (some x) l.length c) l.length (ivals l) rfl ?_ (by unfold maxLen; omega) (by omega) (by simp) ?_
    · have hs : Sl (w.alloc (.cells #[] 3)) w.heap.size (.slice (some x) l.length c) (ivals l) := by
        obtain ⟨A, c', g1, g2, g3, g4⟩ := HV.out
        refine ⟨A, c', g1, g2, g3, fun h0 => ?_⟩
        obtain ⟨b, off, g5, g6, g7⟩ := g4 h0
        exact ⟨b, off, g5, g6, fun j u hj => cell_alloc g6 (g7 j u hj)⟩
      have := src_sl _ Try.underlying23 hs (ivals_one l)
      rwa [ivals_len] at this
    · intro v2 w2 hown2 hg2 hb2
      go_wp2
      go_ret
      refine ⟨v2, rfl, by simpa using hown2, ?_⟩
      exact (bl1 w _).trans hb2
theorem own_more {w w' : World} {H H' : Nat} {v : Value} {n : Nat} {xs : List Value} (h : w.ownsRow H 3 1 v n xs) (hb : Below w.heap.size w w') (hH : H' ≤ H) : w'.ownsRow H' 3 1 v n xs :=
  have k := own_kept h (fun g hg => hb.block g (h.lt g hg).2)
  ⟨k.1, k.2.imp id (fun ⟨g, cap, cur, e, hg, r⟩ => ⟨g, cap, cur, e, Nat.le_trans hH hg, r⟩)⟩
theorem own_upd {w w' : World} {H H' b : Nat} {v : Value} {n : Nat} {xs : List Value} (h : w.ownsRow H 3 1 v n xs) (hu : Upd b w w') (hb : b < H) (hH : H' ≤ H) : w'.ownsRow H' 3 1 v n xs := by
  have k := own_kept h (fun g hg => hu.block g (h.lt g hg).2 (fun e => by injection e with e; have := (h.lt g hg).1; omega))
  exact ⟨k.1, k.2.imp id (fun ⟨g, cap, cur, e, hg, r⟩ => ⟨g, cap, cur, e, Nat.le_trans hH hg, r⟩)⟩
set_option maxRecDepth 100000 in
set_option maxHeartbeats 1600000 in
theorem copied_any (v : Value) (c : CellM) (w : World) (hv : CellR w w.heap.size v c) (hl : c.s.length ≤ 1073741824 ∧ c.lo.length ≤ 1073741824 ∧ c.hi.length ≤ 1073741824) :
    Calls Try.prog 41 #[v] w (OwnPost c w) := by
  obtain ⟨v1, v2, v3, rfl, s1, s2, s3⟩ := hv
  have HC1 := hid (fun W (h : Below w.heap.size w W) => cloneI_any v1 c.s W ((s1.below h).more h.size) hl.1)
  have HC2 := hid (fun W (h : Below w.heap.size w W) => cloneI_any v2 c.lo W ((s2.below h).more h.size) hl.2.1)
  have HC3 := hid (fun W (h : Below w.heap.size w W) => cloneI_any v3 c.hi W ((s3.below h).more h.size) hl.2.2)
  obtain ⟨A1, c1, rfl, -, -⟩ := s1.formI
  obtain ⟨A2, c2, rfl, -, -⟩ := s2.formI
  obtain ⟨A3, c3, rfl, -, -⟩ := s3.formI
  clear s1 s2 s3 hl
  go_enter Try.func41, Try.ntmps41
  obtain ⟨W0, hW0⟩ : ∃ W, W = (w.alloc (.cells #[.int .i64 c.n, .slice A1 c.s.length c1, .slice A2 c.lo.length c2, .slice A3 c.hi.length c3] 25)).alloc (.cells #[.int .i64 0, .slice none 0 0, .slice none 0 0, .slice none 0 0] 25) := ⟨_, rfl⟩
  have hb0 : Below w.heap.size w W0 := by rw [hW0]; exact (by repeat' first | with_reducible exact Below.refl _ _ | assumption | (with_reducible refine Below.alloc ?_ ?_ _) | (with_reducible refine Below.setCell ?_ ?_ _) | (with_reducible refine Below.drew ?_) | (with_reducible refine below_drewN ?_ _) | (with_reducible refine Below.trans ?_ (Below.mono ‹_› ?_)) | omega | (with_reducible refine le_alloc ?_) | (with_reducible refine le_setCell ?_) | (with_reducible refine le_drew ?_) | (with_reducible refine le_drewN ?_) | (with_reducible refine Nat.le_trans ?_ (Below.size ‹_›)) | (simp <;> omega))
  have hs0 : W0.heap.size = w.heap.size + 1 + 1 := by rw [hW0]; simp
  have ba : Blk W0 w.heap.size (.int .i64 c.n) (.slice A1 c.s.length c1) (.slice A2 c.lo.length c2) (.slice A3 c.hi.length c3) := by rw [hW0]; exact (Blk.new _ _ _ _ _ _).alloc (by simp only [World.size_alloc]; omega) _
  have br : Blk W0 (w.heap.size + 1) (.int .i64 0) (.slice none 0 0) (.slice none 0 0) (.slice none 0 0) := by rw [hW0]; exact Blk.new' _ _ _ _ _ (by simp)
  go_wp2
  rw [← hW0]
  have HB0 := hid hb0; have BA := hid ba; have BR := hid br; have HS0 := hid hs0
  obtain ⟨p0, p1, p2, p3, -, -, -, -⟩ := ba
  clear hW0 hb0 br hs0
  go_region_held3 (fun w' => w'.cell? ⟨w.heap.size, 0, none⟩ = some (.int .i64 c.n) ∧ w'.cell? ⟨w.heap.size, 1, none⟩ = some (.slice A1 c.s.length c1) ∧ w'.cell? ⟨w.heap.size, 2, none⟩ = some (.slice A2 c.lo.length c2) ∧ w'.cell? ⟨w.heap.size, 3, none⟩ = some (.slice A3 c.hi.length c3)) (go_keep)
   (first
    | (go_at_call_of 63 (Value.slice A1 c.s.length c1); refine (HC1.out _ HB0.out.drew).mono ?_; rintro e w1 ⟨y1, rfl, ho1, hb1⟩; obtain ⟨a1, d1, rfl, -, -, -⟩ := own_cells ho1; have B1 := hid ((Below.refl W0.heap.size W0).drew.trans hb1); have O1 := hid ho1; have A1' := hid (BA.out.below B1.out (by have := HS0.out; omega)); obtain ⟨p4, p5, p6, p7, -, -, -, -⟩ := A1'.out; clear ho1 hb1)
    | (go_at_call_of 63 (Value.slice A2 c.lo.length c2); refine (HC2.out _ (HB0.out.trans (B1.out.mono (by have := HS0.out; omega)))).mono ?_; rintro e w2 ⟨y2, rfl, ho2, hb2⟩; obtain ⟨a2, d2, rfl, -, -, -⟩ := own_cells ho2; have B2 := hid hb2; have O2 := hid ho2; have A2' := hid (A1'.out.below hb2 (by have := HS0.out; have := B1.out.size; omega)); obtain ⟨p8, p9, p10, p11, -, -, -, -⟩ := A2'.out; clear ho2 hb2)
    | (go_at_call_of 63 (Value.slice A3 c.hi.length c3); refine (HC3.out _ ((HB0.out.trans (B1.out.mono (by have := HS0.out; omega))).trans (B2.out.mono (by have := HS0.out; have := B1.out.size; omega)))).mono ?_; rintro e w3 ⟨y3, rfl, ho3, hb3⟩; obtain ⟨a3, d3, rfl, -, -, -⟩ := own_cells ho3; have B3 := hid hb3; have O3 := hid ho3; have A3' := hid (A2'.out.below hb3 (by have := HS0.out; have := B1.out.size; have := B2.out.size; omega)); obtain ⟨p12, p13, p14, p15, -, -, -, -⟩ := A3'.out; have BR3 := hid (((BR.out.below B1.out (by have := HS0.out; omega)).below B2.out (by have := HS0.out; have := B1.out.size; omega)).below hb3 (by have := HS0.out; have := B1.out.size; have := B2.out.size; omega)); obtain ⟨r0, r1, r2, r3, f0, f1, f2, f3⟩ := BR3.out; clear ho3 hb3))
  go_wp2
  have hz1 := B1.out.size
  have hz2 := B2.out.size
  have hz3 := B3.out.size
  have hz0 := HS0.out
  have hu := upd4 (w.heap.size + 1) w3 (.int .i64 c.n) (.slice a1 c.s.length d1) (.slice a2 c.lo.length d2) (.slice a3 c.hi.length d3)
  have k1 := own_upd (own_more O1.out (B2.out.trans (B3.out.mono hz2)) (H' := w.heap.size + 1 + 1) (by simp only [World.size_drew]; omega)) hu (by omega) (H' := w.heap.size) (by omega)
  have k2 := own_upd (own_more O2.out B3.out (H' := w.heap.size + 1 + 1) (by omega)) hu (by omega) (H' := w.heap.size) (by omega)
  have k3 := own_upd (own_more O3.out (Below.refl _ _) (H' := w.heap.size + 1 + 1) (by omega)) hu (by omega) (H' := w.heap.size) (by omega)
  have hbel : Below w.heap.size w _ := (HB0.out.trans ((B1.out.mono (by omega)).trans ((B2.out.mono (by omega)).trans (B3.out.mono (by omega))))).trans (hu.below (by omega) (by omega))
  have K1 := hid k1; have K2 := hid k2; have K3 := hid k3; have HBE := hid hbel
  have N1 : Hid (∀ g, (Value.slice a1 c.s.length d1).ownBlock = some g → (Value.slice a2 c.lo.length d2).ownBlock ≠ some g ∧ (Value.slice a3 c.hi.length d3).ownBlock ≠ some g) := hid (fun g hg => ⟨fun h => by have := O1.out.lt g hg; have := O2.out.lt g h; omega, fun h => by have := O1.out.lt g hg; have := O3.out.lt g h; omega⟩)
  have N2 : Hid (∀ g, (Value.slice a2 c.lo.length d2).ownBlock = some g → (Value.slice a3 c.hi.length d3).ownBlock ≠ some g) := hid (fun g hg h => by have := O2.out.lt g hg; have := O3.out.lt g h; omega)
  exact bodyPost_ret (v := .agg #[.int .i64 c.n, .slice a1 c.s.length d1, .slice a2 c.lo.length d2, .slice a3 c.hi.length d3]) (by simp [results, Try.results41, go_sem, r0, r1, r2, r3]; done) rfl ⟨_, rfl, ⟨_, _, _, rfl, K1.out, K2.out, K3.out, N1.out, N2.out⟩, HBE.out⟩
end Go.Proofs.Ytclhnnidbhchnaa
