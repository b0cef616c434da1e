/- 1 text of this claim, in build order. -/
import Derived.Test.YtompjcadhodapaaDoorPaoiiifem
import Derived.Test.YtompjcadhodapaaDoorPpnkebffl
import Derived.Test.YtompjcadhodapaaDoorPfenfpgom
import Derived.Test.YtompjcadhodapaaDoorPfkihokcp
/- What batch.Read reads, plainly; what was put is read again. -/
namespace Go.Proofs.YtompjcadhodapaaDoor
open Go.ChangeShapes Go.WideShapes Go.ChangeAt Go.RowKit
set_option linter.unusedVariables false
set_option linter.unusedSimpArgs false

def bad (e : Int) : Int := if e = 0 then 2 else e
/-- Some numbers. -/
def valsR (l : List UInt8) : Nat → Nat → Int → List Int × Nat × Int
  | 0, a, e => ([], a, e)
  | k + 1, a, e => ((rInt l a e (-2305843009213693952) 2305843009213693952).1 :: (valsR l k (rInt l a e (-2305843009213693952) 2305843009213693952).2.1 (rInt l a e (-2305843009213693952) 2305843009213693952).2.2).1, (valsR l k (rInt l a e (-2305843009213693952) 2305843009213693952).2.1 (rInt l a e (-2305843009213693952) 2305843009213693952).2.2).2)
/-- A path: what it is, the place, the error. -/
def pathS (l : List UInt8) (a : Nat) (e : Int) : List ByteArray × Nat × Int :=
  ((pathR ⟨(rText l a e 38).1.toArray⟩).1, (rText l a e 38).2.1, if (pathR ⟨(rText l a e 38).1.toArray⟩).2 = 0 then (rText l a e 38).2.2 else bad (rText l a e 38).2.2)
def pathsR (l : List UInt8) : Nat → Nat → Int → List (List ByteArray) × Nat × Int
  | 0, a, e => ([], a, e)
  | k + 1, a, e => ((pathS l a e).1 :: (pathsR l k (pathS l a e).2.1 (pathS l a e).2.2).1, (pathsR l k (pathS l a e).2.1 (pathS l a e).2.2).2)
def factR (l : List UInt8) (a : Nat) (e : Int) : FactX × Nat × Int :=
  let n := rInt l a e 0 3
  let ps := pathsR l n.1.toNat n.2.1 n.2.2
  let m := rInt l ps.2.1 ps.2.2 0 2
  let vs := valsR l m.1.toNat m.2.1 m.2.2
  ((ps.1, vs.1), vs.2)
def factsR (l : List UInt8) : Nat → Nat → Int → List FactX × Nat × Int
  | 0, a, e => ([], a, e)
  | k + 1, a, e => ((factR l a e).1 :: (factsR l k (factR l a e).2.1 (factR l a e).2.2).1, (factsR l k (factR l a e).2.1 (factR l a e).2.2).2)
def readB (l : List UInt8) (a : Nat) (e : Int) : List FactX × Nat × Int :=
  let n := rInt l a e 0 8
  let fs := factsR l n.1.toNat n.2.1 n.2.2
  (if fs.2.2 = 0 then fs.1 else [], fs.2)
/-! ### What may come of it -/
theorem rInt_ok (l : List UInt8) (a : Nat) (e least most : Int) (ha : a ≤ l.length) (h0 : least ≤ 0) (h1 : 0 ≤ most) : least ≤ (rInt l a e least most).1 ∧ (rInt l a e least most).1 ≤ most ∧ (rInt l a e least most).2.1 ≤ l.length := by
  unfold rInt
  split
  · exact ⟨h0, h1, ha⟩
  · split
    · exact ⟨h0, h1, ha⟩
    · split
      · exact ⟨h0, h1, ha⟩
      · rename_i h2 h3 h4
        refine ⟨by omega, by omega, ?_⟩
        rcases getInt_says (l.drop a) with (h | h) | ⟨k, z, q1, q2, h⟩
        · rw [h] at h3; exact absurd h3 (by decide)
        · rw [h] at h3; exact absurd h3 (by decide)
        · rw [h]; rw [List.length_drop] at q2; simp; omega
theorem valsR_ok (l : List UInt8) : ∀ (k a : Nat) (e : Int), a ≤ l.length → (valsR l k a e).1.length = k ∧ (∀ n ∈ (valsR l k a e).1, InI64 n) ∧ (valsR l k a e).2.1 ≤ l.length := by
  intro k
  induction k with
  | zero => intro a e ha; exact ⟨rfl, by simp [valsR], ha⟩
  | succ k ih =>
    intro a e ha
    obtain ⟨h1, h2, h3⟩ := rInt_ok l a e (-2305843009213693952) 2305843009213693952 ha (by omega) (by omega)
    obtain ⟨i1, i2, i3⟩ := ih _ (rInt l a e (-2305843009213693952) 2305843009213693952).2.2 h3
    refine ⟨by simp [valsR, i1], fun n hn => ?_, by unfold valsR; exact i3⟩
    unfold valsR at hn
    rcases List.mem_cons.1 hn with rfl | hn
    · unfold InI64; omega
    · exact i2 n hn
theorem pathR_size (s : ByteArray) : ∀ x ∈ (pathR s).1, x.size ≤ 12 := by
  rcases pathR_cases s with ⟨-, h⟩ | h
  · exact (mayB_size h).2
  · rw [h]; simp
theorem pathR_len (s : ByteArray) : (pathR s).1.length ≤ 3 := by
  rcases pathR_cases s with ⟨-, h⟩ | h
  · exact (mayB_size h).1
  · rw [h]; simp
theorem pathS_ok (l : List UInt8) (a : Nat) (e : Int) (ha : a ≤ l.length) : (pathS l a e).2.1 ≤ l.length ∧ (∀ x ∈ (pathS l a e).1, x.size ≤ maxLen) ∧ (pathS l a e).1.length ≤ 3 := by
  obtain ⟨t, a', e', h, h1, h2, -, -⟩ := rText_says l a e 38 ha
  unfold pathS
  rw [h]
  exact ⟨h2, fun x hx => by have := pathR_size _ x hx; unfold maxLen; omega, pathR_len _⟩
theorem pathsR_ok (l : List UInt8) : ∀ (k a : Nat) (e : Int), a ≤ l.length → (pathsR l k a e).1.length = k ∧ (∀ p ∈ (pathsR l k a e).1, (∀ x ∈ p, x.size ≤ maxLen) ∧ p.length ≤ 3) ∧ (pathsR l k a e).2.1 ≤ l.length := by
  intro k
  induction k with
  | zero => intro a e ha; exact ⟨rfl, by simp [pathsR], ha⟩
  | succ k ih =>
    intro a e ha
    obtain ⟨h1, h2, h3⟩ := pathS_ok l a e ha
    obtain ⟨i1, i2, i3⟩ := ih _ (pathS l a e).2.2 h1
    refine ⟨by simp [pathsR, i1], fun n hn => ?_, by unfold pathsR; exact i3⟩
    unfold pathsR at hn
    rcases List.mem_cons.1 hn with rfl | hn
    · exact ⟨h2, h3⟩
    · exact i2 n hn
def FactOk (f : FactX) : Prop := f.1.length ≤ 3 ∧ f.2.length ≤ 2 ∧ (∀ p ∈ f.1, (∀ x ∈ p, x.size ≤ maxLen) ∧ p.length ≤ 3) ∧ ∀ n ∈ f.2, InI64 n
theorem factR_ok (l : List UInt8) (a : Nat) (e : Int) (ha : a ≤ l.length) : FactOk (factR l a e).1 ∧ (factR l a e).2.1 ≤ l.length := by
  obtain ⟨h1, h2, h3⟩ := rInt_ok l a e 0 3 ha (by omega) (by omega)
  obtain ⟨i1, i2, i3⟩ := pathsR_ok l (rInt l a e 0 3).1.toNat _ (rInt l a e 0 3).2.2 h3
  obtain ⟨j1, j2, j3⟩ := rInt_ok l _ (pathsR l (rInt l a e 0 3).1.toNat (rInt l a e 0 3).2.1 (rInt l a e 0 3).2.2).2.2 0 2 i3 (by omega) (by omega)
  obtain ⟨k1, k2, k3⟩ := valsR_ok l (rInt l (pathsR l (rInt l a e 0 3).1.toNat (rInt l a e 0 3).2.1 (rInt l a e 0 3).2.2).2.1 (pathsR l (rInt l a e 0 3).1.toNat (rInt l a e 0 3).2.1 (rInt l a e 0 3).2.2).2.2 0 2).1.toNat _ (rInt l (pathsR l (rInt l a e 0 3).1.toNat (rInt l a e 0 3).2.1 (rInt l a e 0 3).2.2).2.1 (pathsR l (rInt l a e 0 3).1.toNat (rInt l a e 0 3).2.1 (rInt l a e 0 3).2.2).2.2 0 2).2.2 j3
  unfold factR
  exact ⟨⟨by simp only; omega, by simp only; omega, i2, k2⟩, k3⟩
theorem factsR_ok (l : List UInt8) : ∀ (k a : Nat) (e : Int), a ≤ l.length → (factsR l k a e).1.length = k ∧ (∀ f ∈ (factsR l k a e).1, FactOk f) ∧ (factsR l k a e).2.1 ≤ l.length := by
  intro k
  induction k with
  | zero => intro a e ha; exact ⟨rfl, by simp [factsR], ha⟩
  | succ k ih =>
    intro a e ha
    obtain ⟨h1, h2⟩ := factR_ok l a e ha
    obtain ⟨i1, i2, i3⟩ := ih _ (factR l a e).2.2 h2
    refine ⟨by simp [factsR, i1], fun n hn => ?_, by unfold factsR; exact i3⟩
    unfold factsR at hn
    rcases List.mem_cons.1 hn with rfl | hn
    · exact h1
    · exact i2 n hn
theorem readB_ok (l : List UInt8) (a : Nat) (e : Int) (ha : a ≤ l.length) : (readB l a e).1.length ≤ 8 ∧ (∀ f ∈ (readB l a e).1, FactOk f) ∧ (readB l a e).2.1 ≤ l.length := by
  obtain ⟨h1, h2, h3⟩ := rInt_ok l a e 0 8 ha (by omega) (by omega)
  obtain ⟨i1, i2, i3⟩ := factsR_ok l (rInt l a e 0 8).1.toNat _ (rInt l a e 0 8).2.2 h3
  unfold readB
  refine ⟨?_, ?_, i3⟩
  · simp only
    split
    · omega
    · simp
  · simp only
    split
    · exact i2
    · simp
theorem FactOk.in_ {L : List FactX} (h : ∀ f ∈ L, FactOk f) : FactsIn L := fun f hf => ⟨fun p hp => ((h f hf).2.2.1 p hp).1, (h f hf).2.2.2⟩
/-! ### What was put -/
theorem valsR_put (ns : List Int) (h : ∀ n ∈ ns, valB n = true) : ∀ pre post : List UInt8, valsR (pre ++ (ns.flatMap putInt ++ post)) ns.length pre.length 0 = (ns, pre.length + (ns.flatMap putInt).length, 0) := by
  induction ns with
  | nil => intro pre post; rfl
  | cons n ns ih =>
    intro pre post
    have hv := h n List.mem_cons_self
    unfold valB at hv
    rw [Bool.and_eq_true] at hv
    have h1 := of_decide_eq_true hv.1
    have h2 := of_decide_eq_true hv.2
    have e : pre ++ ((n :: ns).flatMap putInt ++ post) = pre ++ (putInt n ++ (ns.flatMap putInt ++ post)) := by rw [List.flatMap_cons, List.append_assoc]
    rw [e]
    show valsR _ (ns.length + 1) _ _ = _
    unfold valsR
    rw [rInt_put pre _ n _ _ (by omega) (by omega) h1 h2]
    have i := ih (fun m hm => h m (List.mem_cons_of_mem _ hm)) (pre ++ putInt n) post
    rw [List.append_assoc, List.length_append] at i
    rw [i, List.flatMap_cons, List.length_append, Nat.add_assoc]
theorem pathS_put (p : List ByteArray) (h : mayB p = true) (pre post : List UInt8) : pathS (pre ++ (putP p ++ post)) pre.length 0 = (p, pre.length + (putP p).length, 0) := by
  have ht := textB_size h
  have hl : (textB p).data.toList.length = (textB p).size := by rw [Array.length_toList]; rfl
  have hr := rText_put pre post (textB p).data.toList 38 (by omega) (by omega)
  have e : pre ++ (putP p ++ post) = pre ++ (putInt ((textB p).data.toList.length : Nat) ++ ((textB p).data.toList ++ post)) := by unfold putP; rw [hl, List.append_assoc]
  have hb : (⟨(textB p).data.toList.toArray⟩ : ByteArray) = textB p := by simp
  unfold pathS
  rw [e, hr]
  simp only
  rw [hb, pathR_text h]
  simp only [if_true]
  unfold putP
  rw [List.length_append, hl, Nat.add_assoc]
theorem pathsR_put (ps : List (List ByteArray)) (h : ∀ p ∈ ps, mayB p = true) : ∀ pre post : List UInt8, pathsR (pre ++ (putM ps ++ post)) ps.length pre.length 0 = (ps, pre.length + (putM ps).length, 0) := by
  induction ps with
  | nil => intro pre post; rfl
  | cons p ps ih =>
    intro pre post
    have e : pre ++ (putM (p :: ps) ++ post) = pre ++ (putP p ++ (putM ps ++ post)) := by unfold putM; rw [List.flatMap_cons, List.append_assoc]
    rw [e]
    show pathsR _ (ps.length + 1) _ _ = _
    unfold pathsR
    rw [pathS_put p (h p List.mem_cons_self)]
    have i := ih (fun m hm => h m (List.mem_cons_of_mem _ hm)) (pre ++ putP p) post
    rw [List.append_assoc, List.length_append] at i
    rw [i]
    unfold putM
    rw [List.flatMap_cons, List.length_append, Nat.add_assoc]
theorem factR_put (f : FactX) (h : plainFt f = true) (pre post : List UInt8) : factR (pre ++ (putFact f ++ post)) pre.length 0 = (f, pre.length + (putFact f).length, 0) := by
  obtain ⟨h1, h2, h3, h4⟩ := plainFt_parts h
  have e1 : pre ++ (putFact f ++ post) = pre ++ (putInt f.1.length ++ (putM f.1 ++ (putInt f.2.length ++ (f.2.flatMap putInt ++ post)))) := by unfold putFact; simp only [List.append_assoc]
  have e2 : pre ++ (putFact f ++ post) = (pre ++ putInt f.1.length) ++ (putM f.1 ++ (putInt f.2.length ++ (f.2.flatMap putInt ++ post))) := by rw [e1, List.append_assoc]
  have e3 : pre ++ (putFact f ++ post) = (pre ++ putInt f.1.length ++ putM f.1) ++ (putInt f.2.length ++ (f.2.flatMap putInt ++ post)) := by rw [e1]; simp only [List.append_assoc]
  have e4 : pre ++ (putFact f ++ post) = (pre ++ putInt f.1.length ++ putM f.1 ++ putInt f.2.length) ++ (f.2.flatMap putInt ++ post) := by rw [e1]; simp only [List.append_assoc]
  have r1 := rInt_put pre (putM f.1 ++ (putInt f.2.length ++ (f.2.flatMap putInt ++ post))) f.1.length 0 3 (by omega) (by omega) (by omega) (by omega)
  rw [← e1] at r1
  have r2 := pathsR_put f.1 h3 (pre ++ putInt f.1.length) (putInt f.2.length ++ (f.2.flatMap putInt ++ post))
  rw [← e2, List.length_append] at r2
  have r3 := rInt_put (pre ++ putInt f.1.length ++ putM f.1) (f.2.flatMap putInt ++ post) f.2.length 0 2 (by omega) (by omega) (by omega) (by omega)
  rw [← e3, List.length_append, List.length_append] at r3
  have r4 := valsR_put f.2 h4 (pre ++ putInt f.1.length ++ putM f.1 ++ putInt f.2.length) post
  rw [← e4, List.length_append, List.length_append, List.length_append] at r4
  unfold factR
  simp only [r1, Int.toNat_natCast, r2, r3, r4]
  unfold putFact
  simp only [List.length_append, Nat.add_assoc]
theorem factsR_put (fs : List FactX) (h : ∀ f ∈ fs, plainFt f = true) : ∀ pre post : List UInt8, factsR (pre ++ (fs.flatMap putFact ++ post)) fs.length pre.length 0 = (fs, pre.length + (fs.flatMap putFact).length, 0) := by
  induction fs with
  | nil => intro pre post; rfl
  | cons f fs ih =>
    intro pre post
    have e : pre ++ ((f :: fs).flatMap putFact ++ post) = pre ++ (putFact f ++ (fs.flatMap putFact ++ post)) := by rw [List.flatMap_cons, List.append_assoc]
    rw [e]
    show factsR _ (fs.length + 1) _ _ = _
    unfold factsR
    rw [factR_put f (h f List.mem_cons_self)]
    have i := ih (fun m hm => h m (List.mem_cons_of_mem _ hm)) (pre ++ putFact f) post
    rw [List.append_assoc, List.length_append] at i
    rw [i, List.flatMap_cons, List.length_append, Nat.add_assoc]
theorem readB_put (fs : List FactX) (h8 : fs.length ≤ 8) (h : ∀ f ∈ fs, plainFt f = true) (post : List UInt8) : readB (putFacts fs ++ post) 0 0 = (fs, (putFacts fs).length, 0) := by
  have e : putFacts fs ++ post = [] ++ (putInt fs.length ++ (fs.flatMap putFact ++ post)) := by unfold putFacts; rw [List.append_assoc]; rfl
  have r1 := rInt_put [] (fs.flatMap putFact ++ post) fs.length 0 8 (by omega) (by omega) (by omega) (by omega)
  rw [← e] at r1
  have r2 := factsR_put fs h (putInt fs.length) post
  have e2 : putFacts fs ++ post = putInt fs.length ++ (fs.flatMap putFact ++ post) := by rw [e]; rfl
  rw [← e2] at r2
  simp only [List.length_nil, Nat.zero_add] at r1
  unfold readB
  simp only [r1, Int.toNat_natCast, r2, if_true]
  unfold putFacts
  rw [List.length_append]
end Go.Proofs.YtompjcadhodapaaDoor
