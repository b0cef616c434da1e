/- Lists turned round: plain words for CellOrder. -/
import Derived.Test.YtafmdpnfigkbfaaCellMath
namespace Go.Proofs.Ytafmdpnfigkbfaa
set_option linter.unusedVariables false

def roundL (L : List (List Int)) (r k : Nat) : List (List Int) := (List.range k).map fun j => L.getD ((j + r) % L.length) []
def backL (L : List (List Int)) (k : Nat) : List (List Int) := (List.range k).map fun j => L.getD (L.length - 1 - j) []
theorem roundL_succ (L : List (List Int)) (r k : Nat) : roundL L r (k + 1) = roundL L r k ++ [L.getD ((k + r) % L.length) []] := by
  unfold roundL; rw [List.range_succ, List.map_append]; rfl
theorem backL_succ (L : List (List Int)) (k : Nat) : backL L (k + 1) = backL L k ++ [L.getD (L.length - 1 - k) []] := by
  unfold backL; rw [List.range_succ, List.map_append]; rfl
theorem backL_all (L : List (List Int)) : (backL L L.length).Perm L := by
  have h : backL L L.length = L.reverse := by
    refine List.ext_getElem? fun i => ?_
    unfold backL
    rw [List.getElem?_map]
    rcases Nat.lt_or_ge i L.length with h | h
    · rw [List.getElem?_range h, List.getElem?_reverse h]
      simp only [Option.map_some]
      rw [List.getD_eq_getElem?_getD, List.getElem?_eq_getElem (by omega)]
      rfl
    · rw [List.getElem?_eq_none (by simpa using h), List.getElem?_eq_none (by simpa using h)]; rfl
  rw [h]
  exact List.reverse_perm L
theorem roundL_all (L : List (List Int)) (r : Nat) (hr : r < L.length) : (roundL L r L.length).Perm L := by
  have h : roundL L r L.length = L.drop r ++ L.take r := by
    refine List.ext_getElem? fun i => ?_
    unfold roundL
    rw [List.getElem?_map]
    rcases Nat.lt_or_ge i L.length with h | h
    · rw [List.getElem?_range h]
      simp only [Option.map_some]
      rcases Nat.lt_or_ge i (L.length - r) with h' | h'
      · rw [List.getElem?_append_left (by rw [List.length_drop]; omega), List.getElem?_drop, Nat.mod_eq_of_lt (by omega), Nat.add_comm r i, List.getD_eq_getElem?_getD, List.getElem?_eq_getElem (by omega)]
        rfl
      · rw [List.getElem?_append_right (by rw [List.length_drop]; omega), List.length_drop, List.getElem?_take, if_pos (by omega)]
        rw [show (i + r) % L.length = i - (L.length - r) by rw [Nat.mod_eq_sub_mod (by omega), Nat.mod_eq_of_lt (by omega)]; omega]
        rw [List.getD_eq_getElem?_getD, List.getElem?_eq_getElem (by omega)]
        rfl
    · rw [List.getElem?_eq_none (by simpa using h), List.getElem?_eq_none (by simp; omega)]; rfl
  rw [h]
  exact List.perm_append_comm.trans (by rw [List.take_append_drop])
end Go.Proofs.Ytafmdpnfigkbfaa
