/- 3 texts of this claim, in build order. -/
import Derived.Test.YteebgmhdikcnnaaPbgdlfdem
import Derived.Lib.AppendZeros
import Derived.OwnWalk
import Derived.Deep.RegionLaw
/- slices.Concat and slices.Grow at packets. -/
namespace Go.Proofs.Yteebgmhdikcnnaa
open Go.ChangeShapes Go.WideShapes Go.ChangeAt Go.RowKit
set_option linter.unusedVariables false
set_option linter.unusedSimpArgs false

/-- A slice that reads as these cells, size by size. -/
def SlK (w : World) (B sz : Nat) (v : Value) (n : Nat) (xs : List Value) : Prop :=
  xs.length = n * sz ∧ ∃ A c, v = .slice A n c ∧ n ≤ c ∧ c ≤ maxLen ∧ (0 < n → ∃ b off, A = some ⟨b, off, none⟩ ∧ b < B ∧ ∀ j u, xs[j]? = some u → w.cell? ⟨b, off + j, none⟩ = some u)
theorem SlK.form {w : World} {B sz : Nat} {v : Value} {n : Nat} {xs : List Value} (h : SlK w B sz v n xs) : ∃ A c, v = .slice A n c := by
  obtain ⟨-, A, c, e, -⟩ := h
  exact ⟨A, c, e⟩
theorem SlK.below {w w' : World} {B sz : Nat} {v : Value} {n : Nat} {xs : List Value} (h : SlK w B sz v n xs) (hb : Below B w w') : SlK w' B sz v n xs := by
  obtain ⟨h1, A, c, e, h2, h3, h4⟩ := h
  refine ⟨h1, A, c, e, h2, h3, fun h0 => ?_⟩
  obtain ⟨b, off, e1, hlt, hc⟩ := h4 h0
  exact ⟨b, off, e1, hlt, fun j u hu => cellK hb hlt (hc j u hu)⟩
theorem SlK.more {w : World} {B B' sz : Nat} {v : Value} {n : Nat} {xs : List Value} (h : SlK w B sz v n xs) (hb : B ≤ B') : SlK w B' sz v n xs := by
  obtain ⟨h1, A, c, e, h2, h3, h4⟩ := h
  refine ⟨h1, A, c, e, h2, h3, fun h0 => ?_⟩
  obtain ⟨b, off, e1, hlt, hc⟩ := h4 h0
  exact ⟨b, off, e1, by omega, hc⟩
theorem SlK.src {P : Program} {w : World} {B sz : Nat} {v : Value} {n : Nat} {xs : List Value} {tx e' : TypeId} (h : SlK w B sz v n xs) (hk : P.underlying tx = some (.slice e')) (h1 : ∀ u ∈ xs, u.oneCell' = true) : Src P sz tx v n xs w := by
  obtain ⟨hl, A, c, rfl, h2, h3, h4⟩ := h
  rcases Nat.eq_zero_or_pos n with h0 | h0
  · subst h0
    obtain rfl : xs = [] := List.eq_nil_of_length_eq_zero (by simpa using hl)
    cases A with
    | none => exact Src.ofNil w hk c
    | some a => exact Src.ofSlice w hk a 0 c [] (by simp) (by simp) h1
  · obtain ⟨b, off, rfl, _, hc⟩ := h4 h0
    exact Src.ofSlice w hk ⟨b, off, none⟩ _ c xs hl (cells_add hc) h1
theorem SlK.of_sl {w : World} {B : Nat} {v : Value} {xs : List Value} (h : Sl w B v xs) : SlK w B 1 v xs.length xs := by
  obtain ⟨A, c, e, h2, h3, h4⟩ := h
  exact ⟨by simp, A, c, e, h2, h3, h4⟩
set_option maxRecDepth 100000 in
set_option maxHeartbeats 800000 in
theorem growP_any (m : Nat) (hm : m ≤ 1000000) (w : World) : Calls Try.prog 58 #[.slice none 0 0, .int .i64 m] w fun e w' => ∃ v, e = .returned v ∧ w'.ownsRow w.heap.size 69 3 v 0 [] ∧ Below w.heap.size w w' := by
  obtain ⟨i0, hi, hz0, hz1, hz2⟩ := info_parts info_pk
  go_enter Try.func58, Try.ntmps58
  have hw0 : IntKind.i64.wrap ((m : Int) - 0) = (m : Int) := IntWalk.i64_in _ (by omega)
  by_cases h0 : m = 0
  · subst h0
    go_wp2
    go_ret
    exact ⟨_, rfl, World.ownsRow_nil _ _ _ _, Below.refl _ _⟩
  · have hpos : 0 < m := by omega
    have hrun := Lib.run_append_nil_zeros (P := Try.prog) w 47 3 47 69 i0 (.agg #[.int .i64 0, .int .i64 0, .slice none 0 0]) .i64 .i64 Try.underlying47 Try.underlying3 hi hz0 m hpos (by omega) (by omega) (by rw [hz2]; omega)
    have hge := grownCap_ge w m 0 69
    have hcm := grownCap_le_maxLen w m 0 69 (by unfold maxLen; omega)
    obtain ⟨cap, hcap⟩ : ∃ cap, cap = grownCap w m 0 69 := ⟨_, rfl⟩
    rw [← hcap] at hrun hge hcm
    have hown : (w.drew.alloc (.cells (Builtin.zeroCells (Value.cells (.agg #[.int .i64 0, .int .i64 0, .slice none 0 0])) m ++ Builtin.zeroCells (Value.cells (.agg #[.int .i64 0, .int .i64 0, .slice none 0 0])) (cap - m)) 69)).ownsRow w.heap.size 69 3 (.slice (some ⟨w.heap.size, 0, none⟩) 0 cap) 0 [] := by
      refine ⟨rfl, .inr ⟨w.heap.size, cap, _, rfl, Nat.le_refl _, heap_alloc_new w.drew _, Nat.zero_le _, hcm, ?_, by simp⟩⟩
      rw [Array.size_append, size_zeroCells, size_zeroCells, show (Value.cells (.agg #[.int .i64 0, .int .i64 0, .slice none 0 0])).size = 3 from rfl, ← Nat.add_mul]
      congr 1
      omega
    have hb : Below w.heap.size w (w.drew.alloc (.cells (Builtin.zeroCells (Value.cells (.agg #[.int .i64 0, .int .i64 0, .slice none 0 0])) m ++ Builtin.zeroCells (Value.cells (.agg #[.int .i64 0, .int .i64 0, .slice none 0 0])) (cap - m)) 69)) := (Below.refl _ _).drew.alloc (Nat.le_refl _) _
    generalize (w.drew.alloc (.cells (Builtin.zeroCells (Value.cells (.agg #[.int .i64 0, .int .i64 0, .slice none 0 0])) m ++ Builtin.zeroCells (Value.cells (.agg #[.int .i64 0, .int .i64 0, .slice none 0 0])) (cap - m)) 69)) = w2 at *
    have HO := hid hown; have HB := hid hb; have HR := hid hrun
    clear hcap hown hb hrun
    unfold maxLen at hcm
    go_wp2_with (at_builtin; refine Lib.wpList_append_run _ rfl _ _ _ _ rfl _ _ rfl rfl _ _ HR.out ?_)
    go_ret
    exact ⟨_, rfl, HO.out, HB.out⟩
def Ct1P (n1 n2 : Nat) (w : World) (s i : Value) (wr : World) : Prop := ∃ k : Nat, k ≤ 2 ∧ i = .int .i64 k ∧ s = .int .i64 ((if k = 0 then 0 else if k = 1 then n1 else n1 + n2 : Nat) : Int) ∧ w = wr
def Ct2P (n1 n2 : Nat) (xs1 xs2 : List Value) (w : World) (s i : Value) (wr : World) : Prop :=
  ∃ k : Nat, k ≤ 2 ∧ i = .int .i64 k ∧ wr.ownsRow w.heap.size 69 3 s (if k = 0 then 0 else if k = 1 then n1 else n1 + n2) (if k = 0 then [] else if k = 1 then xs1 else xs1 ++ xs2) ∧ Below w.heap.size w wr
set_option maxRecDepth 100000 in
set_option maxHeartbeats 1600000 in
theorem concatP_any (N : Nat) (v1 v2 : Value) (n1 n2 : Nat) (xs1 xs2 : List Value) (w : World) (hN : N < w.heap.size) (h0 : w.cell? ⟨N, 0, none⟩ = some v1) (h1 : w.cell? ⟨N, 1, none⟩ = some v2) (s1 : SlK w w.heap.size 3 v1 n1 xs1) (s2 : SlK w w.heap.size 3 v2 n2 xs2)
    (o1 : ∀ u ∈ xs1, u.oneCell' = true) (o2 : ∀ u ∈ xs2, u.oneCell' = true) (hn1 : n1 ≤ 100000) (hn2 : n2 ≤ 100000) :
    Calls Try.prog 41 #[.slice (some ⟨N, 0, none⟩) 2 2] w fun e w' => ∃ v, e = .returned v ∧ w'.ownsRow w.heap.size 69 3 v (n1 + n2) (xs1 ++ xs2) ∧ Below w.heap.size w w' := by
  obtain ⟨i0, hi, hz0, hz1, hz2⟩ := info_parts info_pk
  have HS1 := hid s1; have HS2 := hid s2
  obtain ⟨A1, c1, rfl⟩ := s1.form
  obtain ⟨A2, c2, rfl⟩ := s2.form
  have HG := hid (growP_any (n1 + n2) (by omega) w)
  have HO1 := hid o1; have HO2 := hid o2
  have hw1 : IntKind.i64.wrap ((0 : Int) + (n1 : Int)) = (n1 : Int) := by rw [IntWalk.i64_in _ (by omega)]; omega
  have hw2 : IntKind.i64.wrap ((n1 : Int) + (n2 : Int)) = ((n1 + n2 : Nat) : Int) := by rw [IntWalk.i64_in _ (by omega)]; omega
  have HW1 := hid hw1; have HW2 := hid hw2
  clear s1 s2 o1 o2 hw1 hw2
  go_enter Try.func41, Try.ntmps41
  go_wp2
  go_loopw [3, 11] (fun s i wr => Ct1P n1 n2 w s i wr) (fun _ i _ => 2 - (intOf i).toNat)
  case atStart => exact ⟨0, by omega, rfl, rfl, rfl⟩
  case round =>
    obtain ⟨k, hk, rfl, rfl, rfl⟩ := hrel
    have hk3 : k = 0 ∨ k = 1 ∨ k = 2 := by omega
    rcases hk3 with rfl | rfl | rfl
    · simp only [if_true]
      have w1 := HW1.out
      go_wp2
      go_roundw
      case rel => exact ⟨1, by omega, by go_num, by simp, rfl⟩
      case measure => simp [intOf]
    · simp only [if_neg (show ¬ (1 = 0) by omega), if_true]
      have w1 := HW2.out
      have hnn : ¬ ((n1 : Int) + (n2 : Int) < 0) := by omega
      go_wp2
      go_roundw
      case rel => exact ⟨2, by omega, by go_num, by simp, rfl⟩
      case measure => simp [intOf]
    · simp only [if_neg (show ¬ (2 = 0) by omega), if_neg (show ¬ (2 = 1) by omega)]
      go_wp2_with fail
      refine HG.out.mono ?_
      rintro e w1 ⟨v, rfl, ho1, hb1⟩
      have hz1' := hb1.size
      have hN1 : N < w1.heap.size := by omega
      have HO := hid ho1; have HB := hid hb1
      clear ho1 hb1
      go_wp2
      go_loopw [6, 27] (fun s i wr => Ct2P n1 n2 xs1 xs2 w s i wr) (fun _ i _ => 2 - (intOf i).toNat)
      case atStart => exact ⟨0, by omega, rfl, HO.out, HB.out⟩
      case round =>
        clear HO HB
        obtain ⟨k, hk, rfl, ho, hb⟩ := hrel
        have hsb := hb.size
        have y0 := cellK hb hN h0
        have y1 := cellK hb hN h1
        have hk3 : k = 0 ∨ k = 1 ∨ k = 2 := by omega
        rcases hk3 with rfl | rfl | rfl
        · simp only [if_true] at ho
          have HB := hid hb; have HO := hid ho
          have HSR := hid ((HS1.out.below hb).src (tx := 47) Try.underlying47 HO1.out)
          clear hb ho
          go_wp2_with (at_builtin; refine stop_here ?_)
          refine go_on ?_
          refine app_own_at (.tmp 31) (.tmp 32) 47 47 rfl rfl w.heap.size 69 i0 (.agg #[.int .i64 0, .int .i64 0, .slice none 0 0]) 3 40 Try.underlying47 hi hz0 hz1 hz2 rfl (by decide) _ _ _ rfl HO.out (.slice A1 n1 c1) n1 xs1 rfl HSR.out (by simp only [maxLen]; omega) (by omega) (by omega) ?_
          intro v8 w8 hown8 hg8 hb8 hat8
          rw [Nat.zero_add, List.nil_append] at hown8
          have HO8 := hid hown8; have HB8 := hid (HB.out.trans hb8)
          clear hown8 hg8 hb8 hat8
          go_wp2
          go_roundw
          case rel => exact ⟨1, by omega, by go_num, by simpa using HO8.out, HB8.out⟩
          case measure => simp [intOf]
        · simp only [if_neg (show ¬ (1 = 0) by omega), if_true] at ho
          have HB := hid hb; have HO := hid ho
          have HSR := hid ((HS2.out.below hb).src (tx := 47) Try.underlying47 HO2.out)
          clear hb ho
          go_wp2_with (at_builtin; refine stop_here ?_)
          refine go_on ?_
          refine app_own_at (.tmp 31) (.tmp 32) 47 47 rfl rfl w.heap.size 69 i0 (.agg #[.int .i64 0, .int .i64 0, .slice none 0 0]) 3 40 Try.underlying47 hi hz0 hz1 hz2 rfl (by decide) _ _ _ rfl HO.out (.slice A2 n2 c2) n2 xs2 rfl HSR.out (by simp only [maxLen]; omega) (by omega) (by omega) ?_
          intro v8 w8 hown8 hg8 hb8 hat8
          have HO8 := hid hown8; have HB8 := hid (HB.out.trans hb8)
          clear hown8 hg8 hb8 hat8
          go_wp2
          go_roundw
          case rel => exact ⟨2, by omega, by go_num, by simpa using HO8.out, HB8.out⟩
          case measure => simp [intOf]
        · simp only [if_neg (show ¬ (2 = 0) by omega), if_neg (show ¬ (2 = 1) by omega)] at ho
          have HB := hid hb; have HO := hid ho
          clear hb ho
          go_wp2
          go_ret
          exact ⟨_, rfl, HO.out, HB.out⟩
end Go.Proofs.Yteebgmhdikcnnaa
/- The program's lose. -/
namespace Go.Proofs.Yteebgmhdikcnnaa
open Go.ChangeShapes Go.WideShapes Go.ChangeAt Go.RowKit
set_option linter.unusedVariables false
set_option linter.unusedSimpArgs false

def LoseP (D : Nat → Prop) (n : Nat) (L : List PK) (k : Nat) (w : World) (e : Ending) (w' : World) : Prop := ∃ D', e = .returned (.tuple #[]) ∧ NetP w' D' n (L.take k ++ L.drop (k + 1)) ∧ Grow w D D' ∧ Upd n w w'
set_option maxRecDepth 100000 in
set_option maxHeartbeats 1600000 in
theorem lose_any (D : Nat → Prop) (n : Nat) (L : List PK) (k : Nat) (w : World) (h : NetP w D n L) (hk : k < L.length) (hL : L.length ≤ 1000) :
    Calls Try.prog 33 #[.pointer (some ⟨n, 0, none⟩), .int .i64 k] w (LoseP D n L k w) := by
  obtain ⟨h1, h2, h3, v, es, h4, h5, h6, h7⟩ := h
  have hnl := h2 n h1
  have hw1 : IntKind.i64.wrap ((k : Int) + 1) = (k : Int) + 1 := IntWalk.i64_in _ (by omega)
  obtain ⟨g, off, cap, hv, -, hg, hlc, hcm, hcl⟩ := (RowA.of_own h5).elem (by omega)
  subst hv
  have hkc : k ≤ cap := by omega
  have hk1 : k + 1 ≤ L.length := by omega
  have hk1c : k + 1 ≤ cap := by omega
  have hel := h7.1
  have hone : ∀ (ds : List P3), (∀ x ∈ ds, x ∈ es) → ∀ u ∈ flatP ds, u.oneCell' = true := fun ds hds u hu => by
    obtain ⟨x, hx, hu⟩ := List.mem_flatMap.1 hu
    obtain ⟨i, hi, rfl⟩ := List.mem_iff_getElem.1 (hds x hx)
    obtain ⟨-, -, A, c, e3, -⟩ := h7.2 i (by omega)
    rw [List.getD_eq_getElem?_getD, List.getElem?_eq_getElem hi] at e3
    simp only [Option.getD_some] at e3
    simp only [p3, List.mem_cons, List.not_mem_nil, or_false] at hu
    rcases hu with rfl | rfl | rfl
    · rfl
    · rfl
    · rw [e3]; rfl
  have hs1 : SlK w w.heap.size 3 (.slice (some ⟨g, off, none⟩) k cap) k (flatP (es.take k)) := by
    refine ⟨by rw [flatP_len, List.length_take]; omega, _, _, rfl, hkc, hcm, fun _ => ⟨g, off, rfl, hg, fun j u hu => ?_⟩⟩
    rw [← flatP_take, List.getElem?_take] at hu
    split at hu
    · rw [hcl j (by omega)]; exact hu
    · cases hu
  have hs2 : ∀ A2, (0 < L.length - (k + 1) → A2 = some ⟨g, off + (k + 1) * 3, none⟩) → SlK w w.heap.size 3 (.slice A2 (L.length - (k + 1)) (cap - (k + 1))) (L.length - (k + 1)) (flatP (es.drop (k + 1))) := fun A2 hA2 => by
    refine ⟨by rw [flatP_len, List.length_drop, hel], _, _, rfl, by omega, by unfold maxLen at *; omega, fun h0 => ⟨g, off + (k + 1) * 3, hA2 h0, hg, fun j u hu => ?_⟩⟩
    rw [← flatP_drop, List.getElem?_drop] at hu
    have hj := (List.getElem?_eq_some_iff.1 hu).1
    rw [flatP_len, hel] at hj
    rw [Nat.add_assoc, hcl _ (by omega)]; exact hu
  have HCAT := hid (fun (v2 : Value) (h : SlK w w.heap.size 3 v2 (L.length - (k + 1)) (flatP (es.drop (k + 1)))) =>
    concatP_any w.heap.size (.slice (some ⟨g, off, none⟩) k cap) v2 k (L.length - (k + 1)) (flatP (es.take k)) (flatP (es.drop (k + 1))) (w.alloc (.cells #[.slice (some ⟨g, off, none⟩) k cap, v2] 47)).drew (by simp) (by simp [go_sem]) (by simp [go_sem])
      ((hs1.below ((bl1 w _).drew)).more (by simp)) ((h.below ((bl1 w _).drew)).more (by simp)) (hone _ (fun x hx => List.mem_of_mem_take hx)) (hone _ (fun x hx => List.mem_of_mem_drop hx)) (by omega) (by omega))
  have hll : (L.take k ++ L.drop (k + 1)).length = k + (L.length - (k + 1)) := by rw [List.length_append, List.length_take, List.length_drop]; omega
  have hfin : ∀ (w1 : World) (u : Value), Below w.heap.size w w1 → w1.ownsRow (w.heap.size + 1) 69 3 u (k + (L.length - (k + 1))) (flatP (es.take k) ++ flatP (es.drop (k + 1))) →
      LoseP D n L k w (.returned (.tuple #[])) (w1.setCell ⟨n, 0, none⟩ u) := fun w1 u hb ho => by
    have hsz := hb.size
    have hfar : ∀ i, i ≠ n → (w1.setCell ⟨n, 0, none⟩ u).heap[i]? = w1.heap[i]? := fun i hi => Below.heap_setCell _ _ _ i (by simpa using hi)
    have hz : (w1.setCell ⟨n, 0, none⟩ u).heap.size = w1.heap.size := by simp [World.setCell]
    have hun : ∀ q, u.ownBlock = some q → w.heap.size + 1 ≤ q ∧ q < w1.heap.size := ho.lt
    refine ⟨fun i => D i ∨ u.ownBlock = some i, rfl, ⟨.inl h1, fun i hi => ?_, frozen_far (frozenK hb hnl h3), u, es.take k ++ es.drop (k + 1), cell_here (cellK hb hnl h4), ?_, fun q hq => ⟨.inr hq, by have := hun q hq; omega⟩, ?_⟩, ⟨fun i hi => .inl hi, fun i hi => hi.imp id (fun h => by have := hun i h; omega)⟩, ((Upd.refl n w).new hb).trans (Upd.setCell n 0 w1 u)⟩
    · rw [hz]
      rcases hi with hi | hi
      · have := h2 i hi; omega
      · exact (hun i hi).2
    · rw [hll, flatP_app]
      have h0 : w1.ownsRow 0 69 3 u (k + (L.length - (k + 1))) (flatP (es.take k) ++ flatP (es.drop (k + 1))) := ⟨ho.1, ho.2.imp id (fun ⟨q, c, cur, e, hq, r⟩ => ⟨q, c, cur, e, Nat.zero_le _, r⟩)⟩
      exact own_kept h0 (fun q hq => hfar q (by have := hun q hq; omega))
    · have hr := (h7.take k).app (h7.drop (k + 1))
      refine (hr.kept (w' := w1.setCell ⟨n, 0, none⟩ u) (fun i hi => ?_)).mono (fun i hi => ⟨.inl hi.1, hi.2.1, fun e => by have := hun i e; have := h2 i hi.1; omega⟩)
      rw [hfar i hi.2.1, hb.block i (h2 i hi.1)]
  have HFIN := hid hfin; have HS2 := hid hs2
  have hbn : ∀ (v2 : Value) (w1 : World), Below (w.heap.size + 1) (w.alloc (.cells #[.slice (some ⟨g, off, none⟩) k cap, v2] 47)).drew w1 → Below w.heap.size w w1 := fun v2 w1 h => ((bl1 w _).drew).trans (h.mono (by omega))
  have HBN := hid hbn
  unfold maxLen at hcm
  clear h5 h6 h7 h2 hcl hs1 hs2 hfin hbn hone hll hel h1
  go_enter Try.func33, Try.ntmps33
  go_wp2
  have hI1 : 0 ≤ (k : Int) + 1 ∧ (k : Int) + 1 ≤ (L.length : Int) := by omega
  by_cases hcc : cap = k + 1
  · subst hcc
    have hkk : (k : Int) ≤ (k : Int) + 1 := by omega
    have HS3 := hid (show ∀ A2, SlK w w.heap.size 3 (.slice A2 0 0) (L.length - (k + 1)) (flatP (es.drop (k + 1))) from fun A2 => by
      have h2 := HS2.out A2 (fun h => by omega)
      have e : Value.slice A2 (L.length - (k + 1)) (k + 1 - (k + 1)) = .slice A2 0 0 := by rw [show L.length - (k + 1) = 0 by omega, Nat.sub_self]
      rwa [e] at h2)
    go_region_law (first
      | (go_simp; go_at_call 41; refine (HCAT.out _ (HS3.out _)).mono ?_; rintro e w5 ⟨u, rfl, ho5, hb5⟩; obtain ⟨U, cu, rfl⟩ := own_formN ho5; have hb5' := HBN.out _ w5 (by simpa using hb5); have hz5 := hb5'.size; have y0 := cellK hb5' hnl h4; have f0 := frozenK hb5' hnl h3; have HP := hid (HFIN.out w5 _ hb5' (by simpa using ho5)); clear ho5 hb5 hb5'))
    all_goals
      go_wp2
      exact bodyPost_end (v := .tuple #[]) (by simp [results, Try.results33, go_sem]) rfl (by
        have hp := HP.out
        rw [show k + (L.length - (k + 1)) = k by omega] at hp
        exact hp)
  · go_region_law (first
      | (go_simp; go_at_call 41; refine (HCAT.out _ (HS2.out _ (fun _ => rfl))).mono ?_; rintro e w5 ⟨u, rfl, ho5, hb5⟩; obtain ⟨U, cu, rfl⟩ := own_formN ho5; have hb5' := HBN.out _ w5 (by simpa using hb5); have hz5 := hb5'.size; have y0 := cellK hb5' hnl h4; have f0 := frozenK hb5' hnl h3; have HP := hid (HFIN.out w5 _ hb5' (by simpa using ho5)); clear ho5 hb5 hb5'))
    all_goals
      go_wp2
      exact bodyPost_end (v := .tuple #[]) (by simp [results, Try.results33, go_sem]) rfl HP.out
end Go.Proofs.Yteebgmhdikcnnaa
/- The program's Send, Take, Drop. -/
namespace Go.Proofs.Yteebgmhdikcnnaa
open Go.ChangeShapes Go.WideShapes Go.ChangeAt Go.RowKit
set_option linter.unusedVariables false
set_option linter.unusedSimpArgs false

def mayN (f t : Int) : Bool := decide (1 ≤ f ∧ f ≤ 7 ∧ 1 ≤ t ∧ t ≤ 7 ∧ f ≠ t)
def sendN (L : List PK) (f t : Int) (b : List UInt8) : List PK × Int := if mayN f t = true then (if 160 < L.length + 1 then (L ++ [(f, t, b)]).drop 1 else L ++ [(f, t, b)], 0) else (L, 1)
def dropN (L : List PK) (p : Int) : List PK := if inN L p = true then L.take p.toNat ++ L.drop (p.toNat + 1) else L
def NetQ (D : Nat → Prop) (n : Nat) (L : List PK) (w w' : World) : Prop := ∃ D', NetP w' D' n L ∧ Grow w D D' ∧ Chg D w w'
theorem netP_app {w w5 w6 : World} {D : Nat → Prop} {n g cap cc : Nat} {L : List PK} {v : Value} {es : List P3} {f t : Int} {b : List UInt8} {C : Option Addr} (h1 : D n) (h2 : ∀ k, D k → k < w.heap.size) (h3 : w.frozen? ⟨n, 0, none⟩ = false) (h4 : w.cell? ⟨n, 0, none⟩ = some v)
    (h6 : ∀ g, v.ownBlock = some g → D g ∧ g ≠ n) (h7 : RowPk w (fun k => D k ∧ k ≠ n ∧ v.ownBlock ≠ some k) es L) (hb5 : Below w.heap.size w w5) (hc5 : w5.ownsRow w.heap.size 5 1 (.slice C b.length cc) b.length (bvals b))
    (ho6 : w6.ownsRow 0 69 3 (.slice (some ⟨g, 0, none⟩) (L.length + 1) cap) (L.length + 1) (flatP es ++ [.int .i64 f, .int .i64 t, .slice C b.length cc])) (hg6 : (w5.alloc (.cells #[.int .i64 f, .int .i64 t, .slice C b.length cc] 69)).grownBy w6 v.ownBlock) (hat : v.ownBlock = some g ∨ g = w5.heap.size + 1) :
    w6.cell? ⟨n, 0, none⟩ = some v ∧ w6.frozen? ⟨n, 0, none⟩ = false ∧ NetQ D n (L ++ [(f, t, b)]) w (w6.setCell ⟨n, 0, none⟩ (.slice (some ⟨g, 0, none⟩) (L.length + 1) cap)) := by
  have hnl := h2 n h1
  have hz5 := hb5.size
  have hz6 := hg6.size
  rw [World.size_alloc] at hz6
  have hnv : v.ownBlock ≠ some n := fun e => (h6 n e).2 rfl
  have hold : ∀ k, k < w.heap.size → v.ownBlock ≠ some k → w6.heap[k]? = w.heap[k]? := fun k hk hv => (hg6.block k (by rw [World.size_alloc]; omega) (fun e => hv e.symm)).trans ((Below.heap_alloc w5 _ k (by omega)).trans (hb5.block k hk))
  have hmid : ∀ k, w.heap.size ≤ k → k < w5.heap.size → w6.heap[k]? = w5.heap[k]? := fun k hk hk5 => (hg6.block k (by rw [World.size_alloc]; omega) (fun e => by have := (h2 k (h6 k e.symm).1); omega)).trans (Below.heap_alloc w5 _ k hk5)
  have hn6 := hold n hnl hnv
  have hfar : ∀ k, k ≠ n → (w6.setCell ⟨n, 0, none⟩ (.slice (some ⟨g, 0, none⟩) (L.length + 1) cap)).heap[k]? = w6.heap[k]? := fun k hk => Below.heap_setCell _ _ _ k (by simpa using hk)
  have hzz : (w6.setCell ⟨n, 0, none⟩ (.slice (some ⟨g, 0, none⟩) (L.length + 1) cap)).heap.size = w6.heap.size := by simp [World.setCell]
  have hg6' : g < w6.heap.size := (ho6.lt g rfl).2
  have hgn : g ≠ n := by
    rcases hat with h | h
    · exact (h6 g h).2
    · omega
  have hgd : D g ∨ w.heap.size ≤ g := by
    rcases hat with h | h
    · exact .inl (h6 g h).1
    · exact .inr (by omega)
  have hc6 : w6.cell? ⟨n, 0, none⟩ = some v := (World.cell?_of_block (a := ⟨n, 0, none⟩) hn6).trans h4
  have hf6 : w6.frozen? ⟨n, 0, none⟩ = false := (World.frozen?_of_block (a := ⟨n, 0, none⟩) hn6).trans h3
  refine ⟨hc6, hf6, fun k => D k ∨ (w.heap.size ≤ k ∧ k < w6.heap.size), ⟨.inl h1, fun k hk => ?_, frozen_far hf6, _, es ++ [(f, t, .slice C b.length cc)], cell_here hc6, ?_, fun q hq => ?_, ?_⟩, ⟨fun k hk => .inl hk, fun k hk => hk.imp id (fun h => h.1)⟩, ⟨?_, ?_, ?_, by rw [hzz]; omega, fun k hk hne => ?_⟩⟩
  · rw [hzz]
    rcases hk with hk | hk
    · have := h2 k hk; omega
    · exact hk.2
  · rw [List.length_append, List.length_singleton, flatP_snoc]
    exact own_kept ho6 (fun q hq => hfar q (by injection hq with hq; have e1 : g = q := hq; omega))
  · have e1 : g = q := by injection hq
    subst e1
    exact ⟨hgd.imp id (fun h => ⟨h, hg6'⟩), hgn⟩
  · refine RowPk.app ((h7.kept (w' := w6.setCell ⟨n, 0, none⟩ (.slice (some ⟨g, 0, none⟩) (L.length + 1) cap)) (fun k hk => (hfar k hk.2.1).trans (hold k (h2 k hk.1) hk.2.2))).mono (fun k hk => ⟨.inl hk.1, hk.2.1, fun e => ?_⟩)) (RowPk.one ?_)
    · have e1 : g = k := by injection e
      subst e1
      rcases hat with h | h
      · exact hk.2.2 h
      · have := h2 g hk.1; omega
    · refine (SlE.of_own (E := fun k => w.heap.size ≤ k ∧ k < w5.heap.size) hc5 (fun q hq => hc5.lt q hq)).kept (w' := w6.setCell ⟨n, 0, none⟩ (.slice (some ⟨g, 0, none⟩) (L.length + 1) cap)) (fun k hk => ?_) |>.mono (fun k hk => ⟨.inr ⟨hk.1, by omega⟩, by omega, fun e => ?_⟩)
      · exact (hfar k (by omega)).trans (hmid k hk.1 hk.2)
      · have e1 : g = k := by injection e
        subst e1
        rcases hat with h | h
        · have := h2 g (h6 g h).1; omega
        · omega
  · exact hg6.os.trans hb5.os
  · exact hg6.tape.trans hb5.tape
  · exact hg6.output.trans hb5.output
  · rw [hfar k (fun e => hne (e ▸ h1))]
    exact hold k hk (fun e => hne (h6 k e).1)
end Go.Proofs.Yteebgmhdikcnnaa
