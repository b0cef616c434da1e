/- The laws' few (layer 6). -/
import Derived.Test.YtompjcadhodapabDoorQAt
namespace Go.Proofs.YtompjcadhodapabDoor
open Go.ChangeShapes Go.WideShapes Go.ChangeAt Go.RowKit
set_option linter.unusedVariables false
set_option linter.unusedSimpArgs false

def FewNPost (q : List ByteArray) (w : World) (e : Ending) (w' : World) : Prop := ∃ A c, e = .returned (.slice A q.length c) ∧ (∀ B, w.heap.size ≤ B → rdStrs w' B [.slice A q.length c] q) ∧ Qu w w'
theorem fewN_any (v : Value) (p : List ByteArray) (w : World) (hv : rdStrs w w.heap.size [v] p) : Calls Tryd.prog 7 #[v] w (FewNPost (p.take 6) w) := by
  obtain ⟨A, c, e, hc, hm⟩ := hv.open_
  simp only [List.cons.injEq, and_true] at e
  subst e
  obtain ⟨n, hn, hr, hw⟩ := cut_ways (m := 6) hv
  have hfin : ∀ W, Qu w W → FewNPost (p.take 6) w (.returned (.slice A n c)) W := fun W hq => by
    rw [hn] at hr ⊢
    exact ⟨A, c, rfl, fun B hB => good_strs.more (good_strs.stays hr (hq.below _)) hB, hq⟩
  have HF := hid hfin
  clear hv hr hn hfin
  generalize p.length = pl at *
  go_enter Tryd.func7, Tryd.ntmps7
  rcases hw with ⟨y1, y2, rfl⟩ | ⟨y1, rfl⟩
  · go_wp2
    go_ret
    exact HF.out _ (Qu.refl _)
  · go_wp2
    go_ret
    exact HF.out _ (Qu.refl _)
theorem take6 (p : List ByteArray) : (p.take 6).length ≤ 6 := by rw [List.length_take]; omega
/-- A list that was handed in, cut: it reads so in every world behind. -/
def Few6 (w : World) (v : Value) (q : List ByteArray) : Prop := ∀ W, Below w.heap.size w W → rdStrs W W.heap.size [v] q
def Few6Post (q : List ByteArray) (w : World) (e : Ending) (w' : World) : Prop := ∃ A c, e = .returned (.slice A q.length c) ∧ Few6 w (.slice A q.length c) q ∧ Below w.heap.size w w'
theorem few6_any (v : Value) (p : List ByteArray) (w W0 : World) (hv : rdStrs w w.heap.size [v] p) (h0 : Below w.heap.size w W0) :
    Calls Tryd.prog 7 #[v] W0 (Few6Post (p.take 6) w) := by
  obtain ⟨A, c, e, hc, hm⟩ := hv.open_
  simp only [List.cons.injEq, and_true] at e
  subst e
  obtain ⟨n, hn, hr, hw⟩ := cut_ways (m := 6) hv
  have hfin : ∀ W, Qu W0 W → Few6Post (p.take 6) w (.returned (.slice A n c)) W := fun W hq => by
    rw [hn] at hr ⊢
    exact ⟨A, c, rfl, fun W hW => good_strs.on hr hW, h0.trans (hq.below _)⟩
  have HF := hid hfin
  clear hv hr hn hfin
  generalize p.length = pl at *
  go_enter Tryd.func7, Tryd.ntmps7
  rcases hw with ⟨y1, y2, rfl⟩ | ⟨y1, rfl⟩
  · go_wp2
    go_ret
    exact HF.out _ (Qu.refl _)
  · go_wp2
    go_ret
    exact HF.out _ (Qu.refl _)
end Go.Proofs.YtompjcadhodapabDoor
