/- 5 texts of this claim, in build order. -/
import Derived.Test.YtkgifbnkkmeoiaaGreatDoorPhgffdgem
import Derived.Test.YtkgifbnkkmeoiaaGreatDoorPpkjbpbjh
import Derived.Test.YtkgifbnkkmeoiaaGreatDoorPmfcnoomp
import Derived.Laws.BytesArg
import Derived.Test.YtkgifbnkkmeoiaaGreatDoorPodkhkmbg
/- The small methods of the readers. -/
namespace Go.Proofs.YtkgifbnkkmeoiaaGreatDoor
open Go.ChangeShapes Go.WideShapes Go.ChangeAt Go.RowKit
set_option linter.unusedVariables false

theorem readFailed_any (B p : Nat) (l : List UInt8) (a : Nat) (e : Int) (w : World) (h : RW w B p l a e) :
    Calls Tryz.prog 58 #[.pointer (some ⟨p, 0, none⟩)] w (Stays (.bool (e != 0)) w) := by
  obtain ⟨h1, h2, h3, h4, s, h5, h6, h7, h8⟩ := h
  clear h8
  go_enter Tryz.func58, Tryz.ntmps58
  go_wp2
  go_ret
  exact ⟨rfl, Qu.refl _⟩
def BadPost (B p : Nat) (l : List UInt8) (a : Nat) (e : Int) (w : World) (en : Ending) (w' : World) : Prop := en = .returned (.tuple #[]) ∧ RW w' B p l a (if e = 0 then 2 else e) ∧ Upd p w w'
theorem readBad_any (B p : Nat) (l : List UInt8) (a : Nat) (e : Int) (w : World) (h : RW w B p l a e) :
    Calls Tryz.prog 89 #[.pointer (some ⟨p, 0, none⟩)] w (BadPost B p l a e w) := by
  have h' := h
  obtain ⟨h1, h2, h3, h4, s, h5, h6, h7, h8⟩ := h
  have f2 := h4 2 (by omega)
  have HW := hid h'; clear h8 h4 h'
  go_enter Tryz.func89, Tryz.ntmps89
  by_cases he : e = 0
  · have t1 : (e == 0) = true := by simp [he]
    have hi : (if e = 0 then (2 : Int) else e) = 2 := if_pos he
    have HI := hid hi; clear he hi
    go_wp2
    refine bodyPost_ret (v := .tuple #[]) (by simp [results, Tryz.results89, go_sem]) rfl ?_
    exact ⟨rfl, by rw [HI.out]; exact HW.out.setE 2, Upd.setCell _ _ _ _⟩
  · have t1 : (e == 0) = false := by simp [he]
    have hi : (if e = 0 then (2 : Int) else e) = e := if_neg he
    have HI := hid hi; clear he hi
    go_wp2
    refine bodyPost_ret (v := .tuple #[]) (by simp [results, Tryz.results89, go_sem]) rfl ?_
    exact ⟨rfl, by rw [HI.out]; exact HW.out, Upd.refl _ _⟩
theorem refReadBad_any (B p : Nat) (l : List UInt8) (a : Nat) (e : Int) (w : World) (h : RW w B p l a e) :
    Calls Tryz.prog 103 #[.pointer (some ⟨p, 0, none⟩)] w (BadPost B p l a e w) := by
  have h' := h
  obtain ⟨h1, h2, h3, h4, s, h5, h6, h7, h8⟩ := h
  have f2 := h4 2 (by omega)
  have HW := hid h'; clear h8 h4 h'
  go_enter Tryz.func103, Tryz.ntmps103
  by_cases he : e = 0
  · have t1 : (e == 0) = true := by simp [he]
    have hi : (if e = 0 then (2 : Int) else e) = 2 := if_pos he
    have HI := hid hi; clear he hi
    go_wp2
    refine bodyPost_ret (v := .tuple #[]) (by simp [results, Tryz.results103, go_sem]) rfl ?_
    exact ⟨rfl, by rw [HI.out]; exact HW.out.setE 2, Upd.setCell _ _ _ _⟩
  · have t1 : (e == 0) = false := by simp [he]
    have hi : (if e = 0 then (2 : Int) else e) = e := if_neg he
    have HI := hid hi; clear he hi
    go_wp2
    refine bodyPost_ret (v := .tuple #[]) (by simp [results, Tryz.results103, go_sem]) rfl ?_
    exact ⟨rfl, by rw [HI.out]; exact HW.out, Upd.refl _ _⟩
/-- What End answers. -/
def rEnd (l : List UInt8) (a : Nat) (e : Int) : Int := if e ≠ 0 then e else if a < l.length then 2 else 0
theorem readEnd_any (B p : Nat) (l : List UInt8) (a : Nat) (e : Int) (w : World) (h : RW w B p l a e) :
    Calls Tryz.prog 31 #[.pointer (some ⟨p, 0, none⟩)] w (Stays (.int .i64 (rEnd l a e)) w) := by
  obtain ⟨h1, h2, h3, h4, s, h5, h6, h7, A, c, rfl, hc1, hc2, h8⟩ := h
  simp only [bvals_len] at h5
  clear h8 h4 hc1 hc2
  go_enter Tryz.func31, Tryz.ntmps31
  by_cases he : e = 0
  · subst he
    by_cases ha : a < l.length
    · have hr : rEnd l a 0 = 2 := by unfold rEnd; simp [ha]
      have HR := hid hr; clear hr
      go_wp2
      go_quiet (fail)
      go_wp2
      go_ret
      exact ⟨by rw [HR.out]; rfl, _, rfl⟩
    · have hr : rEnd l a 0 = 0 := by unfold rEnd; simp [ha]
      have HR := hid hr; clear hr
      go_wp2
      go_quiet (fail)
      go_wp2
      go_ret
      exact ⟨by rw [HR.out]; rfl, _, rfl⟩
  · have t1 : (e == 0) = false := by simp [he]
    have hr : rEnd l a e = e := by unfold rEnd; simp [he]
    have HR := hid hr; clear hr he
    go_wp2
    go_quiet (fail)
    go_wp2
    go_ret
    exact ⟨by rw [HR.out]; rfl, _, rfl⟩
theorem refReadEnd_any (B p : Nat) (l : List UInt8) (a : Nat) (e : Int) (w : World) (h : RW w B p l a e) :
    Calls Tryz.prog 44 #[.pointer (some ⟨p, 0, none⟩)] w (Stays (.int .i64 (rEnd l a e)) w) := by
  obtain ⟨h1, h2, h3, h4, s, h5, h6, h7, A, c, rfl, hc1, hc2, h8⟩ := h
  simp only [bvals_len] at h5
  clear h8 h4 hc1 hc2
  go_enter Tryz.func44, Tryz.ntmps44
  by_cases he : e = 0
  · subst he
    have t1 : ((0 : Int) != 0) = false := rfl
    by_cases ha : a < l.length
    · have hr : rEnd l a 0 = 2 := by unfold rEnd; simp [ha]
      have HR := hid hr; clear hr
      go_wp2
      go_quiet (fail)
      go_wp2
      go_ret
      exact ⟨by rw [HR.out]; rfl, _, rfl⟩
    · have hr : rEnd l a 0 = 0 := by unfold rEnd; simp [ha]
      have HR := hid hr; clear hr
      go_wp2
      go_quiet (fail)
      go_wp2
      go_ret
      exact ⟨by rw [HR.out]; rfl, _, rfl⟩
  · have t1 : (e != 0) = true := by simp [he]
    have hr : rEnd l a e = e := by unfold rEnd; simp [he]
    have HR := hid hr; clear hr he
    go_wp2
    go_ret
    exact ⟨by rw [HR.out]; rfl, Qu.refl _⟩
theorem RW.cellA {w : World} {B p a : Nat} {l : List UInt8} {e : Int} (h : RW w B p l a e) : w.cell? ⟨p, 1, none⟩ = some (.int .i64 a) := by
  obtain ⟨_, _, _, _, _, _, h6, _, _⟩ := h
  exact h6
theorem RW.cellE {w : World} {B p a : Nat} {l : List UInt8} {e : Int} (h : RW w B p l a e) : w.cell? ⟨p, 2, none⟩ = some (.int .i64 e) := by
  obtain ⟨_, _, _, _, _, _, _, h7, _⟩ := h
  exact h7
end Go.Proofs.YtkgifbnkkmeoiaaGreatDoor
/- slices.Clone at bytes, wire.New. -/
namespace Go.Proofs.YtkgifbnkkmeoiaaGreatDoor
open Go.ChangeShapes Go.WideShapes Go.ChangeAt Go.RowKit
set_option linter.unusedVariables false

def NewPost (l : List UInt8) (w : World) (e : Ending) (w' : World) : Prop := ∃ p, e = .returned (.pointer (some ⟨p, 0, none⟩)) ∧ RW w' p p l 0 0 ∧ w.heap.size ≤ p ∧ Below w.heap.size w w'
set_option maxHeartbeats 400000 in
theorem new_any (v : Value) (l : List UInt8) (w : World) (hv : Sl w w.heap.size v (bvals l)) (hl : l.length ≤ 140737488355328) :
    Calls Tryz.prog 27 #[v] w (NewPost l w) := by
  have hc := clone_any v l w hv hl
  have HC := hid hc
  clear hc hv
  go_enter Tryz.func27, Tryz.ntmps27
  go_wp2_with fail
  refine HC.out.mono ?_
  rintro e w1 ⟨v1, rfl, hown, hb⟩
  have hs := Sl.of_bytes hown
  obtain ⟨A, c, rfl, -, -, -⟩ := id hs
  simp only [bvals_len] at hs
  have HS := hid hs; have HB := hid hb
  clear hs hb hown
  go_wp2
  go_ret
  refine ⟨w1.heap.size, rfl, ?_, HB.out.size, HB.out.trans (bl1' HB.out.size _)⟩
  refine ⟨Nat.le_refl _, by omega, hl, fun i hi => ?_, .slice A (bvals l).length c, by simp [go_sem], by simp [go_sem], by simp [go_sem], ?_⟩
  · simp [go_sem]
  · rw [bvals_len]; exact Sl.below HS.out (bl1 w1 _)
end Go.Proofs.YtkgifbnkkmeoiaaGreatDoor
/- A slice of bytes as a text. -/
namespace Go.Proofs.YtkgifbnkkmeoiaaGreatDoor
open Go.ChangeShapes Go.WideShapes Go.ChangeAt Go.RowKit
set_option linter.unusedVariables false
set_option linter.unusedSimpArgs false

set_option maxRecDepth 100000 in
/-- string(b). -/
theorem text_sl {w : World} {B n c : Nat} {A : Option Addr} {l : List UInt8} (h : Sl w B (.slice A n c) (bvals l)) :
    (convert 23 9 (.slice A n c)).run Tryz.prog w = .ok (.string ⟨l.toArray⟩) w := by
  obtain ⟨A', c', e, h2, h3, h4⟩ := h
  injection e with e1 e2 e3
  subst e1; subst e3; subst e2
  rw [run_convert_bytes_string w _ _ 5 _ _ _ Tryz.underlying23 Tryz.underlying5 Tryz.underlying9]
  cases A with
  | none =>
    have h0 : l = [] := by
      cases l with
      | nil => rfl
      | cons x l => obtain ⟨b, off, h, _⟩ := h4 (by simp [bvals]); cases h
    subst h0
    simp [Conv.bytesToString]
    rfl
  | some x =>
    have hl : (loadCells x (bvals l).length).run Tryz.prog w = .ok ((l.map fun c => (c.toNat : Int)).map (Value.int .u8)).toArray w := by
      have := run_loadCells_list (P := Tryz.prog) w x (bvals l) (fun j u hj => by
        have h0 : 0 < (bvals l).length := Nat.lt_of_le_of_lt (Nat.zero_le j) (List.getElem?_eq_some_iff.1 hj).1
        obtain ⟨b, off, h5, h6, h7⟩ := h4 h0
        injection h5 with h5
        subst h5
        have e : (⟨b, off, none⟩ : Addr).add j = ⟨b, off + j, none⟩ := by unfold Addr.add; split <;> simp_all
        rw [e]; exact h7 j u hj)
      rw [this]
      congr 1
      simp [bvals, Function.comp_def]
    rw [run_bytesToString w _ _ _ _ hl, foldl_push_bytes]
    simp [ByteArray.empty, ByteArray.emptyWithCapacity, Function.comp_def]
    try rfl
end Go.Proofs.YtkgifbnkkmeoiaaGreatDoor
/- Text of the readers. -/
namespace Go.Proofs.YtkgifbnkkmeoiaaGreatDoor
open Go.ChangeShapes Go.WideShapes Go.ChangeAt Go.RowKit
set_option linter.unusedVariables false

theorem RW.setA' {w : World} {B p a : Nat} {l : List UInt8} {e : Int} (h : RW w B p l a e) {a' : Nat} (ha : a' ≤ l.length) {z : Int} (hz : z = (a' : Int)) : RW (w.setCell ⟨p, 1, none⟩ (.int .i64 z)) B p l a' e := by
  subst hz
  exact h.setA ha
theorem text_mid {w : World} {B n c a m : Nat} {A : Option Addr} {l : List UInt8} (h : Sl w B (.slice A n c) (bvals l)) (hm : a + m ≤ n) :
    (convert 23 9 (.slice (if c = a then A else Option.map (fun x => x.add a) A) m (c - a))).run Tryz.prog w = .ok (.string ⟨((l.drop a).take m).toArray⟩) w := by
  have := h.mid hm
  rw [show ((bvals l).drop a).take m = bvals ((l.drop a).take m) by simp [bvals, List.map_take, List.map_drop]] at this
  exact text_sl this
/-- The text, the place and the error behind Text. -/
def rText (l : List UInt8) (a : Nat) (e most : Int) : List UInt8 × Nat × Int :=
  if (rInt l a e 0 most).2.2 ≠ 0 then ([], (rInt l a e 0 most).2.1, (rInt l a e 0 most).2.2) else
  if (l.length : Int) - ((rInt l a e 0 most).2.1 : Int) < (rInt l a e 0 most).1 then ([], a, 3) else
  ((l.drop (rInt l a e 0 most).2.1).take (rInt l a e 0 most).1.toNat, (rInt l a e 0 most).2.1 + (rInt l a e 0 most).1.toNat, 0)
theorem rInt_says (l : List UInt8) (a : Nat) (e most : Int) (ha : a ≤ l.length) : ∃ (n : Int) (a' : Nat) (e' : Int), rInt l a e 0 most = (n, a', e') ∧ a ≤ a' ∧ a' ≤ l.length ∧ (e' ≠ 0 → a' = a) ∧ (e' = 0 → 0 ≤ n) := by
  unfold rInt
  by_cases he : e = 0
  · rw [if_neg (by simp [he])]
    rcases getInt_says (l.drop a) with (h | h) | ⟨k, z, h1, h2, h⟩
    · rw [h]; exact ⟨0, a, 2, by simp, by omega, ha, by simp, by simp⟩
    · rw [h]; exact ⟨0, a, 3, by simp, by omega, ha, by simp, by simp⟩
    · rw [h, if_neg (by simp)]
      rw [List.length_drop] at h2
      by_cases hz : z < 0 ∨ most < z
      · rw [if_pos hz]; exact ⟨0, a, 2, rfl, by omega, ha, by simp, by simp⟩
      · rw [if_neg hz]; exact ⟨z, a + k, 0, by simp, by omega, by omega, by simp, by omega⟩
  · rw [if_pos he]; exact ⟨0, a, e, rfl, by omega, ha, by simp, by simp [he]⟩
def RTextPost (r : List UInt8 × Nat × Int) (B p : Nat) (l : List UInt8) (w : World) (e : Ending) (w' : World) : Prop :=
  e = .returned (.string ⟨r.1.toArray⟩) ∧ RW w' B p l r.2.1 r.2.2 ∧ Upd p w w'
set_option maxRecDepth 100000 in
set_option maxHeartbeats 400000 in
theorem readText_any (B p : Nat) (l : List UInt8) (a : Nat) (e most : Int) (w : World) (h : RW w B p l a e) :
    Calls Tryz.prog 30 #[.pointer (some ⟨p, 0, none⟩), .int .i64 most] w (RTextPost (rText l a e most) B p l w) := by
  have hint := readInt_any B p l a e 0 most w h
  obtain ⟨h1, h2, h3, h4, s, h5, h6, h7, h8⟩ := h
  obtain ⟨n, a', e', hr, ha1, ha2, ha3, ha4⟩ := rInt_says l a e most h2
  have ht : rText l a e most = if e' ≠ 0 then ([], a', e') else if (l.length : Int) - (a' : Int) < n then ([], a, 3) else ((l.drop a').take n.toNat, a' + n.toNat, 0) := by
    unfold rText; rw [hr]
  rw [hr] at hint
  have HT := hid ht
  clear hr ht h8 h5 h7 h4
  have HI := hid hint; clear hint
  have HA3 := hid ha3; have HA4 := hid ha4; clear ha3 ha4
  go_enter Tryz.func30, Tryz.ntmps30
  go_wp2_with fail
  refine HI.out.mono ?_
  rintro en w1 ⟨rfl, hrw, hupd⟩
  simp only at hrw
  have hrw' := hrw
  clear h1 h6 s h3
  obtain ⟨h1, -, h3, h4, s, h5, h6, h7, A, c, rfl, hc1, hc2, h8⟩ := hrw
  have f1 := h4 1 (by omega)
  have f2 := h4 2 (by omega)
  simp only [bvals_len] at hc1 h5
  unfold maxLen at hc2
  have HW := hid hrw'; have HU := hid hupd; have H8 := hid h8
  have HS8 : Hid (Sl w1 B (.slice A l.length c) (bvals l)) := hid ⟨A, c, by rw [bvals_len], by rw [bvals_len]; exact hc1, by unfold maxLen; exact hc2, h8⟩
  clear hrw' hupd h8 h4
  by_cases he : e' = 0
  · subst he
    have hn0 := HA4.out rfl
    by_cases hs : (l.length : Int) - (a' : Int) < n
    · have hr := HT.out
      rw [if_neg (by simp), if_pos hs] at hr
      have HR := hid hr; clear hr
      go_wp2
      go_quiet (fail)
      go_wp2
      all_goals go_ret
      exact ⟨by rw [HR.out]; rfl, by rw [HR.out]; exact ((HW.out.qu ⟨_, rfl⟩).setE 3).setA h2, ((HU.out.qu ⟨_, rfl⟩).trans (Upd.setCell _ _ _ _)).trans (Upd.setCell _ _ _ _)⟩
    · have hr := HT.out
      rw [if_neg (by simp), if_neg hs] at hr
      obtain ⟨m, rfl⟩ := Int.eq_ofNat_of_zero_le hn0
      rw [Int.toNat_natCast] at hr
      have hm : a' + m ≤ l.length := by omega
      have hcv : ∀ n, Sem.run Tryz.prog (convert 23 9 (.slice (if c = a' then A else Option.map (fun x => x.add a') A) m (c - a'))) (w1.drewN n) = .ok (.string ⟨((l.drop a').take m).toArray⟩) (w1.drewN n) := fun n => by
        have := HS8.out
        exact text_mid (this.qu' ⟨n, rfl⟩) hm
      generalize hs0 : (l.drop a').take m = s0 at *
      have HR := hid hr; clear hr hs0
      have td : decide ((l.length : Int) - (a' : Int) < (m : Int)) = false := by rw [decide_eq_false_iff_not]; exact hs
      go_wp2
      go_quiet (fail)
      go_wp2
      all_goals go_quiet (fail)
      all_goals go_wp2
      all_goals go_ret
      all_goals exact ⟨by rw [HR.out]; rfl, by rw [HR.out]; exact (HW.out.qu ⟨_, rfl⟩).setA' hm (by simp), (HU.out.qu ⟨_, rfl⟩).trans (Upd.setCell _ _ _ _)⟩
  · have hr := HT.out
    rw [if_pos he] at hr
    have HR := hid hr; clear hr
    have t1 : (e' == 0) = false := by simp [he]
    have t2 : (e' != 0) = true := by simp [he]
    have HE := hid he; clear he
    go_wp2
    go_quiet (fail)
    go_wp2
    all_goals go_ret
    exact ⟨by rw [HR.out]; rfl, by rw [HR.out]; exact HW.out.qu ⟨_, rfl⟩, HU.out.qu ⟨_, rfl⟩⟩
end Go.Proofs.YtkgifbnkkmeoiaaGreatDoor
/- What the readers read, plainly. -/
namespace Go.Proofs.YtkgifbnkkmeoiaaGreatDoor
open Go.ChangeShapes Go.WideShapes Go.ChangeAt Go.RowKit
set_option linter.unusedVariables false
set_option linter.unusedSimpArgs false

theorem rText_says (l : List UInt8) (a : Nat) (e most : Int) (ha : a ≤ l.length) : ∃ (t : List UInt8) (a' : Nat) (e' : Int), rText l a e most = (t, a', e') ∧ a ≤ a' ∧ a' ≤ l.length ∧ (e' ≠ 0 → t = []) ∧ t.length ≤ l.length := by
  obtain ⟨n, a', e', h, h1, h2, h3, h4⟩ := rInt_says l a e most ha
  unfold rText
  rw [h]
  simp only
  by_cases he : e' ≠ 0
  · rw [if_pos he]; exact ⟨[], a', e', rfl, h1, h2, fun _ => rfl, by simp⟩
  · rw [if_neg he]
    by_cases hlt : (l.length : Int) - (a' : Int) < n
    · rw [if_pos hlt]; exact ⟨[], a, 3, rfl, by omega, ha, fun _ => rfl, by simp⟩
    · rw [if_neg hlt]
      have h0 := h4 (by omega)
      refine ⟨_, _, _, rfl, by omega, by omega, fun h => absurd rfl h, ?_⟩
      rw [List.length_take, List.length_drop]; omega
theorem rInt_in (l : List UInt8) (a : Nat) (e : Int) (m : Nat) (ha : a ≤ l.length) : ∃ (u a' : Nat) (e' : Int), rInt l a e 0 (m : Int) = ((u : Int), a', e') ∧ u ≤ m ∧ a ≤ a' ∧ a' ≤ l.length := by
  unfold rInt
  by_cases he : e = 0
  · rw [if_neg (by simp [he])]
    rcases getInt_says (l.drop a) with (h | h) | ⟨k, z, h1, h2, h⟩
    · rw [h]; exact ⟨0, a, 2, by simp, by omega, by omega, ha⟩
    · rw [h]; exact ⟨0, a, 3, by simp, by omega, by omega, ha⟩
    · rw [h, if_neg (by simp)]
      rw [List.length_drop] at h2
      by_cases hz : z < 0 ∨ (m : Int) < z
      · rw [if_pos hz]; exact ⟨0, a, 2, rfl, by omega, by omega, ha⟩
      · rw [if_neg hz]
        obtain ⟨u, rfl⟩ := Int.eq_ofNat_of_zero_le (show 0 ≤ z by omega)
        exact ⟨u, a + k, 0, by simp, by omega, by omega, by omega⟩
  · rw [if_pos he]; exact ⟨0, a, e, rfl, by omega, by omega, ha⟩
theorem rInt_put (pre post : List UInt8) (n : Int) (least most : Int) (h1 : -9223372036854775808 ≤ n) (h2 : n ≤ 9223372036854775807) (h3 : least ≤ n) (h4 : n ≤ most) :
    rInt (pre ++ (putInt n ++ post)) pre.length 0 least most = (n, pre.length + (putInt n).length, 0) := by
  unfold rInt
  rw [if_neg (by simp), List.drop_left, getInt_putInt n h1 h2, if_neg (by simp), if_neg (by omega)]
  simp
theorem rText_put (pre post : List UInt8) (s : List UInt8) (most : Int) (h2 : s.length ≤ 1000000) (h4 : (s.length : Int) ≤ most) :
    rText (pre ++ (putInt (s.length : Nat) ++ (s ++ post))) pre.length 0 most = (s, pre.length + (putInt (s.length : Nat)).length + s.length, 0) := by
  unfold rText
  rw [rInt_put pre (s ++ post) (s.length : Nat) 0 most (by omega) (by omega) (by omega) h4]
  simp only
  rw [if_neg (by simp), if_neg (by simp only [List.length_append]; omega)]
  simp only [Int.toNat_natCast]
  rw [← List.append_assoc, show pre.length + (putInt ((s.length : Nat) : Int)).length = (pre ++ putInt ((s.length : Nat) : Int)).length by simp, List.drop_left, List.take_left]
theorem RW.keep {w w' : World} {B p a : Nat} {l : List UInt8} {e : Int} (h : RW w B p l a e) (hb : Below (p + 1) w w') : RW w' B p l a e := by
  obtain ⟨h1, h2, h3, h4, s, h5, h6, h7, h8⟩ := h
  exact ⟨h1, h2, h3, fun i hi => frozenK hb (by omega) (h4 i hi), s, cellK hb (by omega) h5, cellK hb (by omega) h6, cellK hb (by omega) h7, h8.below (hb.mono (by omega))⟩
theorem rText_len (l : List UInt8) (a : Nat) (e : Int) (m : Nat) : (rText l a e (m : Int)).1.length ≤ m := by
  unfold rText
  split
  · simp
  · split
    · simp
    · rename_i h1 h2
      rw [List.length_take]
      have : (rInt l a e 0 (m : Int)).1 ≤ (m : Int) := by
        unfold rInt
        split
        · simp
        · split
          · simp
          · split
            · simp
            · omega
      omega
end Go.Proofs.YtkgifbnkkmeoiaaGreatDoor
