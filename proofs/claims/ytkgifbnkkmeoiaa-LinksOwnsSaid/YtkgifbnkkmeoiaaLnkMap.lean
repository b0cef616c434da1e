/- A map from complex numbers to bools: what was laid in is found. -/
import Derived.Test.YtkgifbnkkmeoiaaLnkF
import Derived.Maps.OwnSet
namespace Go.Proofs.Ytkgifbnkkmeoiaa
open Go.ChangeShapes Go.WideShapes Go.ChangeAt Go.RowKit Go.Maps
open Go.ChangeMaps (setBlock)
set_option linter.unusedVariables false
set_option linter.unusedSimpArgs false

abbrev G2 := Nat × Nat
def CV (x : G2) : Value := .complex .f64 (FB x.1) (FB x.2)
def inG (x : G2) : Prop := (1 ≤ x.1 ∧ x.1 ≤ 7) ∧ 1 ≤ x.2 ∧ x.2 ≤ 7
theorem feq {n m : Nat} (h : 1 ≤ n) (h7 : n ≤ 7) (k : 1 ≤ m) (k7 : m ≤ 7) : Op.floatEq .f64 (FB n) (FB m) = decide (n = m) := by
  rcases le7 h h7 with rfl | rfl | rfl | rfl | rfl | rfl | rfl <;> rcases le7 k k7 with rfl | rfl | rfl | rfl | rfl | rfl | rfl <;> kernel_rfl
theorem equal_run {x y : G2} (hx : inG x) (hy : inG y) (w : World) : (Op.equal 70 (CV x) (CV y)).run Try.prog w = .ok (decide (x = y)) w := by
  obtain ⟨x1, x2⟩ := x
  obtain ⟨y1, y2⟩ := y
  have e1 := feq hx.1.1 hx.1.2 hy.1.1 hy.1.2
  have e2 := feq hx.2.1 hx.2.2 hy.2.1 hy.2.2
  simp only at e1 e2
  show (Op.equalIn (9999 + 1) _ _ _).run _ _ = _
  rw [Op.equalIn]
  simp [run_underlying Try.underlying70, CV, e1, e2]
/-- The entries, in the order in which they were laid in. -/
def entG : Nat → List G2 → List MapEntry
  | _, [] => []
  | i, x :: S => ⟨CV x, .bool true, i⟩ :: entG (i + 1) S
theorem entG_snoc (x : G2) : ∀ (i : Nat) (S : List G2), entG i (S ++ [x]) = entG i S ++ [⟨CV x, .bool true, i + S.length⟩]
  | i, [] => rfl
  | i, y :: S => by
    show _ :: entG (i + 1) (S ++ [x]) = _
    rw [entG_snoc x (i + 1) S]
    simp [entG, Nat.add_comm, Nat.add_left_comm]
theorem asking_run {x : G2} (hx : inG x) (w : World) : ∀ (S : List G2) (i k : Nat), (∀ y ∈ S, inG y) → ∃ r, (Instr.findAsking 70 (CV x) (entG i S) k).run Try.prog w = .ok r w ∧ (x ∈ S → ∃ j, r = some (j, .bool true)) ∧ (x ∉ S → r = none)
  | [], i, k, _ => ⟨none, rfl, fun h => by simp at h, fun _ => rfl⟩
  | y :: S, i, k, h => by
    have he := equal_run hx (h y List.mem_cons_self) w
    by_cases e : x = y
    · subst e
      rw [decide_eq_true rfl] at he
      refine ⟨some (k, .bool true), ?_, fun _ => ⟨k, rfl⟩, fun hn => absurd List.mem_cons_self hn⟩
      show (Instr.findAsking _ _ (_ :: _) _).run _ _ = _
      unfold Instr.findAsking
      simp [he]
    · obtain ⟨r, h1, h2, h3⟩ := asking_run hx w S (i + 1) (k + 1) (fun z hz => h z (List.mem_cons_of_mem _ hz))
      refine ⟨r, ?_, fun hm => h2 ((List.mem_cons.1 hm).resolve_left e), fun hn => h3 (fun hm => hn (List.mem_cons_of_mem _ hm))⟩
      show (Instr.findAsking _ _ (_ :: _) _).run _ _ = _
      unfold Instr.findAsking
      simp [he, e, h1]
theorem find_run {x : G2} (hx : inG x) (w : World) (S : List G2) (h : ∀ y ∈ S, inG y) : ∃ r, (Instr.findKey 70 (CV x) (entG 0 S)).run Try.prog w = .ok r w ∧ (x ∈ S → ∃ j, r = some (j, .bool true)) ∧ (x ∉ S → r = none) := by
  cases S with
  | nil => exact ⟨none, by simp [Instr.findKey, run_underlying Try.underlying70, entG, Instr.findNow], fun h => by simp at h, fun _ => rfl⟩
  | cons y S =>
    obtain ⟨r, h1, h2, h3⟩ := asking_run hx w (y :: S) 0 0 h
    refine ⟨r, ?_, h2, h3⟩
    rw [← h1]
    simp [Instr.findKey, run_underlying Try.underlying70, entG, Instr.findNow, Instr.sameNow]
theorem check_run (e : Bool) (x : G2) (w : World) : (Instr.checkKey e 10000 70 (CV x)).run Try.prog w = .ok () w := by
  show (Instr.checkKey e (9999 + 1) _ _).run _ _ = _
  rw [Instr.checkKey]
  simp [run_underlying Try.underlying70, CV]
/-- The map at m holds the links S. -/
def HasM (w : World) (m : Nat) (S : List G2) : Prop := w.heap[m]? = some (.map (entG 0 S).toArray S.length) ∧ ∀ y ∈ S, inG y
theorem HasM.look {w : World} {m : Nat} {S : List G2} (h : HasM w m S) {x : G2} (hx : inG x) : (Instr.lookup 66 (.map (some m)) (CV x) false).run Try.prog w = .ok (.bool (decide (x ∈ S))) w := by
  obtain ⟨r, h1, h2, h3⟩ := find_run hx w S h.2
  by_cases hm : x ∈ S
  · obtain ⟨j, rfl⟩ := h2 hm
    simp [Instr.lookup, run_underlying Try.underlying66, MapKept.run_getObj_map h.1, check_run, h1, hm]
  · rw [h3 hm] at h1
    have hz : (zeroValue 4).run Try.prog w = .ok (.bool false) w := by kernel_rfl
    simp [Instr.lookup, run_underlying Try.underlying66, MapKept.run_getObj_map h.1, check_run, h1, hm, hz]
theorem HasM.put {w : World} {m : Nat} {S : List G2} (h : HasM w m S) {x : G2} (hx : inG x) (hn : x ∉ S) :
    ∃ w', (Instr.mapUpdate 66 (.map (some m)) (CV x) (.bool true)).run Try.prog w = .ok () w' ∧ HasM w' m (S ++ [x]) ∧ Upd m w w' := by
  obtain ⟨r, h1, h2, h3⟩ := find_run hx w S h.2
  rw [h3 hn] at h1
  have hlt : m < w.heap.size := (Array.getElem?_eq_some_iff.1 h.1).1
  refine ⟨setBlock w m (.map ((entG 0 S).toArray.push ⟨CV x, .bool true, S.length⟩) (S.length + 1)), ?_, ⟨?_, fun y hy => ?_⟩, ⟨rfl, rfl, rfl, ?_, fun k hk hne => ?_⟩⟩
  · simp [Instr.mapUpdate, run_underlying Try.underlying66, MapKept.run_getObj_map h.1, check_run, h1, MapKept.run_setObj_map _ h.1, Result.andThen, setBlock]
  · rw [entG_snoc, Nat.zero_add]
    simp [setBlock, hlt]
  · rcases List.mem_append.1 hy with hy | hy
    · exact h.2 y hy
    · rw [List.mem_singleton.1 hy]; exact hx
  · simp [setBlock]
  · have : m ≠ k := fun e => hne (by rw [e])
    simp [setBlock, Array.getElem?_setIfInBounds, this]
end Go.Proofs.Ytkgifbnkkmeoiaa
