/- 2 texts of this claim, in build order. -/
import Derived.Test.YtkdpclllenbgfaaDoorPjmfahjoo
import Derived.Laws.BytesArg
/- slices.Clone at bytes, wire.New. -/
namespace Go.Proofs.YtkdpclllenbgfaaDoor
open Go.ChangeShapes Go.WideShapes Go.ChangeAt Go.RowKit
set_option linter.unusedVariables false

def ClonePost (l : List UInt8) (w : World) (e : Ending) (w' : World) : Prop := ∃ v, e = .returned v ∧ w'.ownsRow w.heap.size 5 1 v l.length (bvals l) ∧ Below w.heap.size w w'
set_option maxRecDepth 100000 in
set_option maxHeartbeats 400000 in
theorem clone_any (v : Value) (l : List UInt8) (w : World) (hv : Sl w w.heap.size v (bvals l)) (hl : l.length ≤ 140737488355328) :
    Calls Tryd.prog 17 #[v] w (ClonePost l w) := by
  obtain ⟨i0, hi, hz0, hz1, hz2⟩ := info_parts info_byte
  have hv' := hv
  obtain ⟨A, c, rfl, hc1, hc2, hA⟩ := hv
  simp only [bvals_len] at hc1 hv' ⊢
  have HV := hid hv'; have HA := hid hA
  clear hv' hA
  go_enter Tryd.func17, Tryd.ntmps17
  cases A with
  | none =>
    have h0 : l = [] := by
      cases l with
      | nil => rfl
      | cons x l => obtain ⟨b, off, h, _⟩ := HA.out (by simp [bvals]); cases h
    have H0 := hid h0; clear h0
    have hq : ∀ W : World, (binOp .eql 22 (.slice none l.length c) (.slice none 0 0)).run Tryd.prog W = .ok (.bool true) W := fun _ => rfl
    go_wp2
    go_ret
    exact ⟨_, rfl, by rw [H0.out]; exact World.ownsRow_nil _ _ _ _, Below.refl _ _⟩
  | some x =>
    have hq : ∀ W : World, (binOp .eql 22 (.slice (some x) l.length c) (.slice none 0 0)).run Tryd.prog W = .ok (.bool false) W := fun _ => rfl
    go_wp2_with (at_builtin; refine stop_here ?_)
    refine go_on ?_
    have hown : (w.alloc (.cells #[] 5)).ownsRow w.heap.size 5 1 (.slice (some ⟨w.heap.size, 0, none⟩) 0 0) 0 [] := by
      refine ⟨rfl, .inr ⟨w.heap.size, 0, #[], rfl, Nat.le_refl _, ?_, Nat.le_refl _, by simp [maxLen], rfl, rfl⟩⟩
      exact heap_alloc_new w _
    refine app_own (.tmp 5) (.tmp 6) 22 22 rfl rfl w.heap.size 5 i0 (.int .u8 0) 1 1 Tryd.underlying22 hi hz0 hz1 hz2 rfl (by omega) _ _ _ rfl hown (.slice (some x) l.length c) l.length (bvals l) rfl ?_ (by unfold maxLen; omega) (by omega) (by simp) ?_
    · have hs : Sl (w.alloc (.cells #[] 5)) w.heap.size (.slice (some x) l.length c) (bvals l) := by
        obtain ⟨A, c', g1, g2, g3, g4⟩ := HV.out
        refine ⟨A, c', g1, g2, g3, fun h0 => ?_⟩
        obtain ⟨b, off, g5, g6, g7⟩ := g4 h0
        exact ⟨b, off, g5, g6, fun j u hj => cell_alloc g6 (g7 j u hj)⟩
      have := src_sl _ Tryd.underlying22 hs (bvals_one l)
      rwa [bvals_len] at this
    · intro v2 w2 hown2 hg2 hb2
      go_wp2
      go_ret
      refine ⟨v2, rfl, by simpa using hown2, ?_⟩
      exact (bl1 w _).trans hb2
def NewPost (l : List UInt8) (w : World) (e : Ending) (w' : World) : Prop := ∃ p, e = .returned (.pointer (some ⟨p, 0, none⟩)) ∧ RW w' p p l 0 0 ∧ w.heap.size ≤ p ∧ Below w.heap.size w w'
set_option maxHeartbeats 400000 in
theorem new_any (v : Value) (l : List UInt8) (w : World) (hv : Sl w w.heap.size v (bvals l)) (hl : l.length ≤ 140737488355328) :
    Calls Tryd.prog 5 #[v] w (NewPost l w) := by
  have hc := clone_any v l w hv hl
  have HC := hid hc
  clear hc hv
  go_enter Tryd.func5, Tryd.ntmps5
  go_wp2_with fail
  refine HC.out.mono ?_
  rintro e w1 ⟨v1, rfl, hown, hb⟩
  have hs := Sl.of_bytes hown
  obtain ⟨A, c, rfl, -, -, -⟩ := id hs
  simp only [bvals_len] at hs
  have HS := hid hs; have HB := hid hb
  clear hs hb hown
  go_wp2
  go_ret
  refine ⟨w1.heap.size, rfl, ?_, HB.out.size, HB.out.trans (bl1' HB.out.size _)⟩
  refine ⟨Nat.le_refl _, by omega, hl, fun i hi => ?_, .slice A (bvals l).length c, by simp [go_sem], by simp [go_sem], by simp [go_sem], ?_⟩
  · simp [go_sem]
  · rw [bvals_len]; exact Sl.below HS.out (bl1 w1 _)
end Go.Proofs.YtkdpclllenbgfaaDoor
/- Text of the readers. -/
namespace Go.Proofs.YtkdpclllenbgfaaDoor
open Go.ChangeShapes Go.WideShapes Go.ChangeAt Go.RowKit
set_option linter.unusedVariables false

set_option maxRecDepth 100000 in
/-- string(b). -/
theorem text_sl {w : World} {B n c : Nat} {A : Option Addr} {l : List UInt8} (h : Sl w B (.slice A n c) (bvals l)) :
    (convert 22 9 (.slice A n c)).run Tryd.prog w = .ok (.string ⟨l.toArray⟩) w := by
  obtain ⟨A', c', e, h2, h3, h4⟩ := h
  injection e with e1 e2 e3
  subst e1; subst e3; subst e2
  rw [run_convert_bytes_string w _ _ 5 _ _ _ Tryd.underlying22 Tryd.underlying5 Tryd.underlying9]
  cases A with
  | none =>
    have h0 : l = [] := by
      cases l with
      | nil => rfl
      | cons x l => obtain ⟨b, off, h, _⟩ := h4 (by simp [bvals]); cases h
    subst h0
    simp [Conv.bytesToString]
    rfl
  | some x =>
    have hl : (loadCells x (bvals l).length).run Tryd.prog w = .ok ((l.map fun c => (c.toNat : Int)).map (Value.int .u8)).toArray w := by
      have := run_loadCells_list (P := Tryd.prog) w x (bvals l) (fun j u hj => by
        have h0 : 0 < (bvals l).length := Nat.lt_of_le_of_lt (Nat.zero_le j) (List.getElem?_eq_some_iff.1 hj).1
        obtain ⟨b, off, h5, h6, h7⟩ := h4 h0
        injection h5 with h5
        subst h5
        have e : (⟨b, off, none⟩ : Addr).add j = ⟨b, off + j, none⟩ := by unfold Addr.add; split <;> simp_all
        rw [e]; exact h7 j u hj)
      rw [this]
      congr 1
      simp [bvals, Function.comp_def]
    rw [run_bytesToString w _ _ _ _ hl, foldl_push_bytes]
    simp [ByteArray.empty, ByteArray.emptyWithCapacity, Function.comp_def]
    rfl
theorem RW.setA' {w : World} {B p a : Nat} {l : List UInt8} {e : Int} (h : RW w B p l a e) {a' : Nat} (ha : a' ≤ l.length) {z : Int} (hz : z = (a' : Int)) : RW (w.setCell ⟨p, 1, none⟩ (.int .i64 z)) B p l a' e := by
  subst hz
  exact h.setA ha
theorem text_mid {w : World} {B n c a m : Nat} {A : Option Addr} {l : List UInt8} (h : Sl w B (.slice A n c) (bvals l)) (hm : a + m ≤ n) :
    (convert 22 9 (.slice (if c = a then A else Option.map (fun x => x.add a) A) m (c - a))).run Tryd.prog w = .ok (.string ⟨((l.drop a).take m).toArray⟩) w := by
  have := h.mid hm
  rw [show ((bvals l).drop a).take m = bvals ((l.drop a).take m) by simp [bvals, List.map_take, List.map_drop]] at this
  exact text_sl this
/-- The text, the place and the error behind Text. -/
def rText (l : List UInt8) (a : Nat) (e most : Int) : List UInt8 × Nat × Int :=
  if (rInt l a e 0 most).2.2 ≠ 0 then ([], (rInt l a e 0 most).2.1, (rInt l a e 0 most).2.2) else
  if (l.length : Int) - ((rInt l a e 0 most).2.1 : Int) < (rInt l a e 0 most).1 then ([], a, 3) else
  ((l.drop (rInt l a e 0 most).2.1).take (rInt l a e 0 most).1.toNat, (rInt l a e 0 most).2.1 + (rInt l a e 0 most).1.toNat, 0)
theorem rInt_says (l : List UInt8) (a : Nat) (e most : Int) (ha : a ≤ l.length) : ∃ (n : Int) (a' : Nat) (e' : Int), rInt l a e 0 most = (n, a', e') ∧ a ≤ a' ∧ a' ≤ l.length ∧ (e' ≠ 0 → a' = a) ∧ (e' = 0 → 0 ≤ n) := by
  unfold rInt
  by_cases he : e = 0
  · rw [if_neg (by simp [he])]
    rcases getInt_says (l.drop a) with (h | h) | ⟨k, z, h1, h2, h⟩
    · rw [h]; exact ⟨0, a, 2, by simp, by omega, ha, by simp, by simp⟩
    · rw [h]; exact ⟨0, a, 3, by simp, by omega, ha, by simp, by simp⟩
    · rw [h, if_neg (by simp)]
      rw [List.length_drop] at h2
      by_cases hz : z < 0 ∨ most < z
      · rw [if_pos hz]; exact ⟨0, a, 2, rfl, by omega, ha, by simp, by simp⟩
      · rw [if_neg hz]; exact ⟨z, a + k, 0, by simp, by omega, by omega, by simp, by omega⟩
  · rw [if_pos he]; exact ⟨0, a, e, rfl, by omega, ha, by simp, by simp [he]⟩
def RTextPost (r : List UInt8 × Nat × Int) (B p : Nat) (l : List UInt8) (w : World) (e : Ending) (w' : World) : Prop :=
  e = .returned (.string ⟨r.1.toArray⟩) ∧ RW w' B p l r.2.1 r.2.2 ∧ Upd p w w'
set_option maxRecDepth 100000 in
set_option maxHeartbeats 400000 in
theorem readText_any (B p : Nat) (l : List UInt8) (a : Nat) (e most : Int) (w : World) (h : RW w B p l a e) :
    Calls Tryd.prog 20 #[.pointer (some ⟨p, 0, none⟩), .int .i64 most] w (RTextPost (rText l a e most) B p l w) := by
  have hint := readInt_any B p l a e 0 most w h
  obtain ⟨h1, h2, h3, h4, s, h5, h6, h7, h8⟩ := h
  obtain ⟨n, a', e', hr, ha1, ha2, ha3, ha4⟩ := rInt_says l a e most h2
  have ht : rText l a e most = if e' ≠ 0 then ([], a', e') else if (l.length : Int) - (a' : Int) < n then ([], a, 3) else ((l.drop a').take n.toNat, a' + n.toNat, 0) := by
    unfold rText; rw [hr]
  rw [hr] at hint
  have HT := hid ht
  clear hr ht h8 h5 h7 h4
  have HI := hid hint; clear hint
  have HA3 := hid ha3; have HA4 := hid ha4; clear ha3 ha4
  go_enter Tryd.func20, Tryd.ntmps20
  go_wp2_with fail
  refine HI.out.mono ?_
  rintro en w1 ⟨rfl, hrw, hupd⟩
  simp only at hrw
  have hrw' := hrw
  clear h1 h6 s h3
  obtain ⟨h1, -, h3, h4, s, h5, h6, h7, A, c, rfl, hc1, hc2, h8⟩ := hrw
  have f1 := h4 1 (by omega)
  have f2 := h4 2 (by omega)
  simp only [bvals_len] at hc1 h5
  unfold maxLen at hc2
  have HW := hid hrw'; have HU := hid hupd; have H8 := hid h8
  have HS8 : Hid (Sl w1 B (.slice A l.length c) (bvals l)) := hid ⟨A, c, by rw [bvals_len], by rw [bvals_len]; exact hc1, by unfold maxLen; exact hc2, h8⟩
  clear hrw' hupd h8 h4
  by_cases he : e' = 0
  · subst he
    have hn0 := HA4.out rfl
    by_cases hs : (l.length : Int) - (a' : Int) < n
    · have hr := HT.out
      rw [if_neg (by simp), if_pos hs] at hr
      have HR := hid hr; clear hr
      go_wp2
      go_quiet (fail)
      go_wp2
      all_goals go_ret
      exact ⟨by rw [HR.out]; rfl, by rw [HR.out]; exact ((HW.out.qu ⟨_, rfl⟩).setE 3).setA h2, ((HU.out.qu ⟨_, rfl⟩).trans (Upd.setCell _ _ _ _)).trans (Upd.setCell _ _ _ _)⟩
    · have hr := HT.out
      rw [if_neg (by simp), if_neg hs] at hr
      obtain ⟨m, rfl⟩ := Int.eq_ofNat_of_zero_le hn0
      rw [Int.toNat_natCast] at hr
      have hm : a' + m ≤ l.length := by omega
      have hcv : ∀ n, Sem.run Tryd.prog (convert 22 9 (.slice (if c = a' then A else Option.map (fun x => x.add a') A) m (c - a'))) (w1.drewN n) = .ok (.string ⟨((l.drop a').take m).toArray⟩) (w1.drewN n) := fun n => by
        have := HS8.out
        exact text_mid (this.qu' ⟨n, rfl⟩) hm
      generalize hs0 : (l.drop a').take m = s0 at *
      have HR := hid hr; clear hr hs0
      have td : decide ((l.length : Int) - (a' : Int) < (m : Int)) = false := by rw [decide_eq_false_iff_not]; exact hs
      go_wp2
      go_quiet (fail)
      go_wp2
      all_goals go_quiet (fail)
      all_goals go_wp2
      all_goals go_ret
      all_goals exact ⟨by rw [HR.out]; rfl, by rw [HR.out]; exact (HW.out.qu ⟨_, rfl⟩).setA' hm (by simp), (HU.out.qu ⟨_, rfl⟩).trans (Upd.setCell _ _ _ _)⟩
  · have hr := HT.out
    rw [if_pos he] at hr
    have HR := hid hr; clear hr
    have t1 : (e' == 0) = false := by simp [he]
    have t2 : (e' != 0) = true := by simp [he]
    have HE := hid he; clear he
    go_wp2
    go_quiet (fail)
    go_wp2
    all_goals go_ret
    exact ⟨by rw [HR.out]; rfl, by rw [HR.out]; exact HW.out.qu ⟨_, rfl⟩, HU.out.qu ⟨_, rfl⟩⟩
end Go.Proofs.YtkdpclllenbgfaaDoor
