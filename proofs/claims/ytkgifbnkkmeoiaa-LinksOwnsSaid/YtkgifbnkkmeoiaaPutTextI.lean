/- wire.PutText (seats whose PutInt stands in WirePutI). -/
import Derived.Test.YtkgifbnkkmeoiaaPutI8
import Derived.Laws.BytesArg
namespace Go.Proofs.Ytkgifbnkkmeoiaa
open Go.ChangeShapes Go.WideShapes Go.ChangeAt Go.RowKit
set_option linter.unusedVariables false
set_option linter.unusedSimpArgs false

def PutTextPost (l : List UInt8) (s : ByteArray) (w : World) (e : Ending) (w' : World) : Prop :=
  ∃ v, e = .returned v ∧ w'.ownsRow w.heap.size 5 1 v (l.length + (putInt s.size).length + s.size) (bvals (l ++ putInt s.size ++ s.data.toList)) ∧ Below w.heap.size w w'
theorem byteCells_eq (s : ByteArray) : byteCells s = bvals s.data.toList := rfl
set_option maxHeartbeats 400000 in
theorem putText_any (v : Value) (l : List UInt8) (s : ByteArray) (w : World) (hv : Sl w w.heap.size v (bvals l)) (hl : l.length + s.size + 10 ≤ 140737488355328) :
    Calls Try.prog 37 #[v, .string s] w (PutTextPost l s w) := by
  obtain ⟨i0, hi, hz0, hz1, hz2⟩ := info_parts info_byte
  have hp := putInt_le (s.size : Int)
  go_enter Try.func37, Try.ntmps37
  go_wp2_with fail
  refine (putInt_any v l s.size w hv (by omega) (by omega) (by omega)).mono ?_
  rintro e w1 ⟨v1, rfl, hown, hb1⟩
  go_wp2_with (at_builtin; refine stop_here ?_)
  refine go_on ?_
  refine app_own (.tmp 8) (.tmp 9) 30 9 rfl rfl w.heap.size 5 i0 (.int .u8 0) 1 1 Try.underlying30 hi hz0 hz1 hz2 rfl (by omega) v1 _ _ rfl hown (.string s) s.size _ rfl (Src.ofString _ Try.underlying9 s) (by unfold maxLen; omega) (by omega) hb1.size ?_
  intro v2 w2 hown2 hg2 hb2
  go_wp2
  go_ret
  refine ⟨v2, rfl, ?_, hb1.trans hb2⟩
  rw [byteCells_eq, ← bvals_app] at hown2
  exact hown2
theorem putText8 (v : Value) (l : List UInt8) (s : ByteArray) (w : World) (hv : Sl w w.heap.size v (bvals l)) (hl : l.length + s.size ≤ 1000000) :
    Calls Try.prog 37 #[v, .string s] w (Put8 (l ++ putInt s.size ++ s.data.toList) w) := by
  refine (putText_any v l s w hv (by omega)).mono ?_
  rintro e w' ⟨v', rfl, h, hb⟩
  refine ⟨v', rfl, ?_, hb⟩
  unfold Own8
  rw [List.length_append, List.length_append, show s.data.toList.length = s.size from by simp]
  exact h
set_option maxRecDepth 100000 in
/-- string(b). -/
theorem text_sl {w : World} {B n c : Nat} {A : Option Addr} {l : List UInt8} (h : Sl w B (.slice A n c) (bvals l)) :
    (convert 30 9 (.slice A n c)).run Try.prog w = .ok (.string ⟨l.toArray⟩) w := by
  obtain ⟨A', c', e, h2, h3, h4⟩ := h
  injection e with e1 e2 e3
  subst e1; subst e3; subst e2
  rw [run_convert_bytes_string w _ _ 5 _ _ _ Try.underlying30 Try.underlying5 Try.underlying9]
  cases A with
  | none =>
    have h0 : l = [] := by
      cases l with
      | nil => rfl
      | cons x l => obtain ⟨b, off, h, _⟩ := h4 (by simp [bvals]); cases h
    subst h0
    simp [Conv.bytesToString]
    rfl
  | some x =>
    have hl : (loadCells x (bvals l).length).run Try.prog w = .ok ((l.map fun c => (c.toNat : Int)).map (Value.int .u8)).toArray w := by
      have := run_loadCells_list (P := Try.prog) w x (bvals l) (fun j u hj => by
        have h0 : 0 < (bvals l).length := Nat.lt_of_le_of_lt (Nat.zero_le j) (List.getElem?_eq_some_iff.1 hj).1
        obtain ⟨b, off, h5, h6, h7⟩ := h4 h0
        injection h5 with h5
        subst h5
        have e : (⟨b, off, none⟩ : Addr).add j = ⟨b, off + j, none⟩ := by unfold Addr.add; split <;> simp_all
        rw [e]; exact h7 j u hj)
      rw [this]
      congr 1
      simp [bvals, Function.comp_def]
    rw [run_bytesToString w _ _ _ _ hl, foldl_push_bytes]
    simp [ByteArray.empty, ByteArray.emptyWithCapacity, Function.comp_def]
    try rfl
end Go.Proofs.Ytkgifbnkkmeoiaa
