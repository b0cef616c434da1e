/- 1 text of this claim, in build order. -/
import Derived.Test.YtkdpclllenbgfaaDoorPmcmhifek
import Derived.Test.YtkdpclllenbgfaaDoorPkpfgjmdp
import Derived.Test.YtkdpclllenbgfaaDoorPieecdmeb
/- What query.Read reads, plainly; what was put is read again. -/
namespace Go.Proofs.YtkdpclllenbgfaaDoor
open Go.ChangeShapes Go.WideShapes Go.ChangeAt Go.RowKit
set_option linter.unusedVariables false
set_option linter.unusedSimpArgs false

def bad (e : Int) : Int := if e = 0 then 2 else e
def pathS (l : List UInt8) (a : Nat) (e : Int) : List ByteArray × Nat × Int :=
  ((pathR ⟨(rText l a e 38).1.toArray⟩).1, (rText l a e 38).2.1, if (pathR ⟨(rText l a e 38).1.toArray⟩).2 = 0 then (rText l a e 38).2.2 else bad (rText l a e 38).2.2)
def pathsR (l : List UInt8) : Nat → Nat → Int → List (List ByteArray) × Nat × Int
  | 0, a, e => ([], a, e)
  | k + 1, a, e => ((pathS l a e).1 :: (pathsR l k (pathS l a e).2.1 (pathS l a e).2.2).1, (pathsR l k (pathS l a e).2.1 (pathS l a e).2.2).2)
theorem rInt_ok (l : List UInt8) (a : Nat) (e least most : Int) (ha : a ≤ l.length) (h0 : least ≤ 0) (h1 : 0 ≤ most) : least ≤ (rInt l a e least most).1 ∧ (rInt l a e least most).1 ≤ most ∧ (rInt l a e least most).2.1 ≤ l.length := by
  unfold rInt
  split
  · exact ⟨h0, h1, ha⟩
  · split
    · exact ⟨h0, h1, ha⟩
    · split
      · exact ⟨h0, h1, ha⟩
      · rename_i h2 h3 h4
        refine ⟨by omega, by omega, ?_⟩
        rcases getInt_says (l.drop a) with (h | h) | ⟨k, z, q1, q2, h⟩
        · rw [h] at h3; exact absurd h3 (by decide)
        · rw [h] at h3; exact absurd h3 (by decide)
        · rw [h]; rw [List.length_drop] at q2; simp; omega
theorem pathR_size (s : ByteArray) : ∀ x ∈ (pathR s).1, x.size ≤ 12 := by
  rcases pathR_cases s with ⟨-, h⟩ | h
  · exact (mayB_size h).2
  · rw [h]; simp
theorem pathR_len (s : ByteArray) : (pathR s).1.length ≤ 3 := by
  rcases pathR_cases s with ⟨-, h⟩ | h
  · exact (mayB_size h).1
  · rw [h]; simp
theorem pathS_ok (l : List UInt8) (a : Nat) (e : Int) (ha : a ≤ l.length) : (pathS l a e).2.1 ≤ l.length ∧ (∀ x ∈ (pathS l a e).1, x.size ≤ maxLen) ∧ (pathS l a e).1.length ≤ 3 := by
  obtain ⟨t, a', e', h, h1, h2, -, -⟩ := rText_says l a e 38 ha
  unfold pathS
  rw [h]
  exact ⟨h2, fun x hx => by have := pathR_size _ x hx; unfold maxLen; omega, pathR_len _⟩
theorem pathsR_ok (l : List UInt8) : ∀ (k a : Nat) (e : Int), a ≤ l.length → (pathsR l k a e).1.length = k ∧ (∀ p ∈ (pathsR l k a e).1, (∀ x ∈ p, x.size ≤ maxLen) ∧ p.length ≤ 3) ∧ (pathsR l k a e).2.1 ≤ l.length := by
  intro k
  induction k with
  | zero => intro a e ha; exact ⟨rfl, by simp [pathsR], ha⟩
  | succ k ih =>
    intro a e ha
    obtain ⟨h1, h2, h3⟩ := pathS_ok l a e ha
    obtain ⟨i1, i2, i3⟩ := ih _ (pathS l a e).2.2 h1
    refine ⟨by simp [pathsR, i1], fun n hn => ?_, by unfold pathsR; exact i3⟩
    unfold pathsR at hn
    rcases List.mem_cons.1 hn with rfl | hn
    · exact ⟨h2, h3⟩
    · exact i2 n hn
theorem pathS_put (p : List ByteArray) (h : mayB p = true) (pre post : List UInt8) : pathS (pre ++ (putP p ++ post)) pre.length 0 = (p, pre.length + (putP p).length, 0) := by
  have ht := textB_size h
  have hl : (textB p).data.toList.length = (textB p).size := by rw [Array.length_toList]; rfl
  have hr := rText_put pre post (textB p).data.toList 38 (by omega) (by omega)
  have e : pre ++ (putP p ++ post) = pre ++ (putInt ((textB p).data.toList.length : Nat) ++ ((textB p).data.toList ++ post)) := by unfold putP; rw [hl, List.append_assoc]
  have hb : (⟨(textB p).data.toList.toArray⟩ : ByteArray) = textB p := by simp
  unfold pathS
  rw [e, hr]
  simp only
  rw [hb, pathR_text h]
  simp only [if_true]
  unfold putP
  rw [List.length_append, hl, Nat.add_assoc]
theorem pathsR_put (ps : List (List ByteArray)) (h : ∀ p ∈ ps, mayB p = true) : ∀ pre post : List UInt8, pathsR (pre ++ (putM ps ++ post)) ps.length pre.length 0 = (ps, pre.length + (putM ps).length, 0) := by
  induction ps with
  | nil => intro pre post; rfl
  | cons p ps ih =>
    intro pre post
    have e : pre ++ (putM (p :: ps) ++ post) = pre ++ (putP p ++ (putM ps ++ post)) := by unfold putM; rw [List.flatMap_cons, List.append_assoc]
    rw [e]
    show pathsR _ (ps.length + 1) _ _ = _
    unfold pathsR
    rw [pathS_put p (h p List.mem_cons_self)]
    have i := ih (fun m hm => h m (List.mem_cons_of_mem _ hm)) (pre ++ putP p) post
    rw [List.append_assoc, List.length_append] at i
    rw [i]
    unfold putM
    rw [List.flatMap_cons, List.length_append, Nat.add_assoc]
def levsR (l : List UInt8) : Nat → Nat → Int → List Int × Nat × Int
  | 0, a, e => ([], a, e)
  | k + 1, a, e => ((rInt l a e 0 3).1 :: (levsR l k (rInt l a e 0 3).2.1 (rInt l a e 0 3).2.2).1, (levsR l k (rInt l a e 0 3).2.1 (rInt l a e 0 3).2.2).2)
def filterR (l : List UInt8) (a : Nat) (e : Int) : FilterX × Nat × Int :=
  let d := rInt l a e 0 2
  let v := rInt l d.2.1 d.2.2 0 3
  let m := rInt l v.2.1 v.2.2 0 6
  let ps := pathsR l m.1.toNat m.2.1 m.2.2
  ((d.1, v.1, ps.1), ps.2)
def filtersR (l : List UInt8) : Nat → Nat → Int → List FilterX × Nat × Int
  | 0, a, e => ([], a, e)
  | k + 1, a, e => ((filterR l a e).1 :: (filtersR l k (filterR l a e).2.1 (filterR l a e).2.2).1, (filtersR l k (filterR l a e).2.1 (filterR l a e).2.2).2)
def readQ (l : List UInt8) (a : Nat) (e : Int) : QueryX × Nat × Int :=
  let n := rInt l a e 0 3
  let g := levsR l n.1.toNat n.2.1 n.2.2
  let m := rInt l g.2.1 g.2.2 0 3
  let fs := filtersR l m.1.toNat m.2.1 m.2.2
  (if fs.2.2 = 0 then (g.1, fs.1) else ([], []), fs.2)
theorem levsR_ok (l : List UInt8) : ∀ (k a : Nat) (e : Int), a ≤ l.length → (levsR l k a e).1.length = k ∧ (∀ n ∈ (levsR l k a e).1, InI64 n) ∧ (levsR l k a e).2.1 ≤ l.length := by
  intro k
  induction k with
  | zero => intro a e ha; exact ⟨rfl, by simp [levsR], ha⟩
  | succ k ih =>
    intro a e ha
    obtain ⟨h1, h2, h3⟩ := rInt_ok l a e 0 3 ha (by omega) (by omega)
    obtain ⟨i1, i2, i3⟩ := ih _ (rInt l a e 0 3).2.2 h3
    refine ⟨by simp [levsR, i1], fun n hn => ?_, by unfold levsR; exact i3⟩
    unfold levsR at hn
    rcases List.mem_cons.1 hn with rfl | hn
    · unfold InI64; omega
    · exact i2 n hn
def FilterOk (f : FilterX) : Prop := InI64 f.1 ∧ InI64 f.2.1 ∧ f.2.2.length ≤ 6 ∧ ∀ p ∈ f.2.2, (∀ x ∈ p, x.size ≤ maxLen) ∧ p.length ≤ 3
theorem filterR_ok (l : List UInt8) (a : Nat) (e : Int) (ha : a ≤ l.length) : FilterOk (filterR l a e).1 ∧ (filterR l a e).2.1 ≤ l.length := by
  obtain ⟨a1, a2, a3⟩ := rInt_ok l a e 0 2 ha (by omega) (by omega)
  obtain ⟨b1, b2, b3⟩ := rInt_ok l _ (rInt l a e 0 2).2.2 0 3 a3 (by omega) (by omega)
  obtain ⟨c1, c2, c3⟩ := rInt_ok l _ (rInt l (rInt l a e 0 2).2.1 (rInt l a e 0 2).2.2 0 3).2.2 0 6 b3 (by omega) (by omega)
  obtain ⟨d1, d2, d3⟩ := pathsR_ok l (rInt l (rInt l (rInt l a e 0 2).2.1 (rInt l a e 0 2).2.2 0 3).2.1 (rInt l (rInt l a e 0 2).2.1 (rInt l a e 0 2).2.2 0 3).2.2 0 6).1.toNat _ (rInt l (rInt l (rInt l a e 0 2).2.1 (rInt l a e 0 2).2.2 0 3).2.1 (rInt l (rInt l a e 0 2).2.1 (rInt l a e 0 2).2.2 0 3).2.2 0 6).2.2 c3
  unfold filterR
  exact ⟨⟨by unfold InI64; simp only; omega, by unfold InI64; simp only; omega, by simp only; omega, d2⟩, d3⟩
theorem filtersR_ok (l : List UInt8) : ∀ (k a : Nat) (e : Int), a ≤ l.length → (filtersR l k a e).1.length = k ∧ (∀ f ∈ (filtersR l k a e).1, FilterOk f) ∧ (filtersR l k a e).2.1 ≤ l.length := by
  intro k
  induction k with
  | zero => intro a e ha; exact ⟨rfl, by simp [filtersR], ha⟩
  | succ k ih =>
    intro a e ha
    obtain ⟨h1, h2⟩ := filterR_ok l a e ha
    obtain ⟨i1, i2, i3⟩ := ih _ (filterR l a e).2.2 h2
    refine ⟨by simp [filtersR, i1], fun n hn => ?_, by unfold filtersR; exact i3⟩
    unfold filtersR at hn
    rcases List.mem_cons.1 hn with rfl | hn
    · exact h1
    · exact i2 n hn
def QueryOk (q : QueryX) : Prop := q.1.length ≤ 3 ∧ q.2.length ≤ 3 ∧ (∀ n ∈ q.1, InI64 n) ∧ ∀ f ∈ q.2, FilterOk f
theorem readQ_ok (l : List UInt8) (a : Nat) (e : Int) (ha : a ≤ l.length) : QueryOk (readQ l a e).1 ∧ (readQ l a e).2.1 ≤ l.length := by
  obtain ⟨a1, a2, a3⟩ := rInt_ok l a e 0 3 ha (by omega) (by omega)
  obtain ⟨b1, b2, b3⟩ := levsR_ok l (rInt l a e 0 3).1.toNat _ (rInt l a e 0 3).2.2 a3
  obtain ⟨c1, c2, c3⟩ := rInt_ok l _ (levsR l (rInt l a e 0 3).1.toNat (rInt l a e 0 3).2.1 (rInt l a e 0 3).2.2).2.2 0 3 b3 (by omega) (by omega)
  obtain ⟨d1, d2, d3⟩ := filtersR_ok l (rInt l (levsR l (rInt l a e 0 3).1.toNat (rInt l a e 0 3).2.1 (rInt l a e 0 3).2.2).2.1 (levsR l (rInt l a e 0 3).1.toNat (rInt l a e 0 3).2.1 (rInt l a e 0 3).2.2).2.2 0 3).1.toNat _ (rInt l (levsR l (rInt l a e 0 3).1.toNat (rInt l a e 0 3).2.1 (rInt l a e 0 3).2.2).2.1 (levsR l (rInt l a e 0 3).1.toNat (rInt l a e 0 3).2.1 (rInt l a e 0 3).2.2).2.2 0 3).2.2 c3
  unfold readQ
  refine ⟨?_, d3⟩
  simp only
  split
  · exact ⟨by simp only; omega, by simp only; omega, b2, d2⟩
  · exact ⟨by simp, by simp, by simp, by simp⟩
theorem levsR_put (ns : List Int) (h : ∀ n ∈ ns, inQ n 3 = true) : ∀ pre post : List UInt8, levsR (pre ++ (ns.flatMap putInt ++ post)) ns.length pre.length 0 = (ns, pre.length + (ns.flatMap putInt).length, 0) := by
  induction ns with
  | nil => intro pre post; rfl
  | cons n ns ih =>
    intro pre post
    have hv := h n List.mem_cons_self
    unfold inQ at hv
    rw [Bool.and_eq_true] at hv
    have h1 := of_decide_eq_true hv.1
    have h2 := of_decide_eq_true hv.2
    have e : pre ++ ((n :: ns).flatMap putInt ++ post) = pre ++ (putInt n ++ (ns.flatMap putInt ++ post)) := by rw [List.flatMap_cons, List.append_assoc]
    rw [e]
    show levsR _ (ns.length + 1) _ _ = _
    unfold levsR
    rw [rInt_put pre _ n _ _ (by omega) (by omega) h1 h2]
    have i := ih (fun m hm => h m (List.mem_cons_of_mem _ hm)) (pre ++ putInt n) post
    rw [List.append_assoc, List.length_append] at i
    rw [i, List.flatMap_cons, List.length_append, Nat.add_assoc]
theorem plainF_in {f : FilterX} (h : plainF f = true) : (0 ≤ f.1 ∧ f.1 ≤ 2) ∧ 0 ≤ f.2.1 ∧ f.2.1 ≤ 3 := by
  unfold plainF at h
  rw [Bool.and_eq_true, Bool.and_eq_true, Bool.and_eq_true] at h
  have h1 := h.1.1.1
  have h2 := h.1.1.2
  unfold inQ at h1 h2
  rw [Bool.and_eq_true] at h1 h2
  exact ⟨⟨of_decide_eq_true h1.1, of_decide_eq_true h1.2⟩, of_decide_eq_true h2.1, of_decide_eq_true h2.2⟩
theorem filterR_put (f : FilterX) (h : plainF f = true) (pre post : List UInt8) : filterR (pre ++ (putFl f ++ post)) pre.length 0 = (f, pre.length + (putFl f).length, 0) := by
  obtain ⟨⟨h1, h2⟩, h3, h4⟩ := plainF_in h
  obtain ⟨g1, g2⟩ := plainF_parts h
  have e1 : pre ++ (putFl f ++ post) = pre ++ (putInt f.1 ++ (putInt f.2.1 ++ (putInt f.2.2.length ++ (putM f.2.2 ++ post)))) := by unfold putFl; simp only [List.append_assoc]
  have e2 : pre ++ (putFl f ++ post) = (pre ++ putInt f.1) ++ (putInt f.2.1 ++ (putInt f.2.2.length ++ (putM f.2.2 ++ post))) := by rw [e1, List.append_assoc]
  have e3 : pre ++ (putFl f ++ post) = (pre ++ putInt f.1 ++ putInt f.2.1) ++ (putInt f.2.2.length ++ (putM f.2.2 ++ post)) := by rw [e1]; simp only [List.append_assoc]
  have e4 : pre ++ (putFl f ++ post) = (pre ++ putInt f.1 ++ putInt f.2.1 ++ putInt f.2.2.length) ++ (putM f.2.2 ++ post) := by rw [e1]; simp only [List.append_assoc]
  have r1 := rInt_put pre (putInt f.2.1 ++ (putInt f.2.2.length ++ (putM f.2.2 ++ post))) f.1 0 2 (by omega) (by omega) (by omega) (by omega)
  rw [← e1] at r1
  have r2 := rInt_put (pre ++ putInt f.1) (putInt f.2.2.length ++ (putM f.2.2 ++ post)) f.2.1 0 3 (by omega) (by omega) (by omega) (by omega)
  rw [← e2, List.length_append] at r2
  have r3 := rInt_put (pre ++ putInt f.1 ++ putInt f.2.1) (putM f.2.2 ++ post) f.2.2.length 0 6 (by omega) (by omega) (by omega) (by omega)
  rw [← e3, List.length_append, List.length_append] at r3
  have r4 := pathsR_put f.2.2 g2 (pre ++ putInt f.1 ++ putInt f.2.1 ++ putInt f.2.2.length) post
  rw [← e4, List.length_append, List.length_append, List.length_append] at r4
  unfold filterR
  simp only [r1, r2, r3, Int.toNat_natCast, r4]
  unfold putFl
  simp only [List.length_append, Nat.add_assoc]
theorem filtersR_put (fs : List FilterX) (h : ∀ f ∈ fs, plainF f = true) : ∀ pre post : List UInt8, filtersR (pre ++ (fs.flatMap putFl ++ post)) fs.length pre.length 0 = (fs, pre.length + (fs.flatMap putFl).length, 0) := by
  induction fs with
  | nil => intro pre post; rfl
  | cons f fs ih =>
    intro pre post
    have e : pre ++ ((f :: fs).flatMap putFl ++ post) = pre ++ (putFl f ++ (fs.flatMap putFl ++ post)) := by rw [List.flatMap_cons, List.append_assoc]
    rw [e]
    show filtersR _ (fs.length + 1) _ _ = _
    unfold filtersR
    rw [filterR_put f (h f List.mem_cons_self)]
    have i := ih (fun m hm => h m (List.mem_cons_of_mem _ hm)) (pre ++ putFl f) post
    rw [List.append_assoc, List.length_append] at i
    rw [i, List.flatMap_cons, List.length_append, Nat.add_assoc]
theorem plainQ_levs {q : QueryX} (h : plainQ q = true) : ∀ n ∈ q.1, inQ n 3 = true := by
  unfold plainQ at h
  rw [Bool.and_eq_true, Bool.and_eq_true, Bool.and_eq_true] at h
  have h1 := h.1.2
  rw [Bool.not_eq_true', List.any_eq_false] at h1
  intro n hn
  have := h1 n hn
  simpa using this
theorem readQ_put (q : QueryX) (h : plainQ q = true) (post : List UInt8) : readQ (putQ q ++ post) 0 0 = (q, (putQ q).length, 0) := by
  obtain ⟨h1, h2, h3⟩ := plainQ_parts h
  have e1 : putQ q ++ post = [] ++ (putInt q.1.length ++ (q.1.flatMap putInt ++ (putInt q.2.length ++ (q.2.flatMap putFl ++ post)))) := by unfold putQ putTail; simp only [List.append_assoc, List.nil_append]
  have e2 : putQ q ++ post = putInt q.1.length ++ (q.1.flatMap putInt ++ (putInt q.2.length ++ (q.2.flatMap putFl ++ post))) := e1
  have e3 : putQ q ++ post = (putInt q.1.length ++ q.1.flatMap putInt) ++ (putInt q.2.length ++ (q.2.flatMap putFl ++ post)) := by rw [e2]; simp only [List.append_assoc]
  have e4 : putQ q ++ post = (putInt q.1.length ++ q.1.flatMap putInt ++ putInt q.2.length) ++ (q.2.flatMap putFl ++ post) := by rw [e2]; simp only [List.append_assoc]
  have r1 := rInt_put [] (q.1.flatMap putInt ++ (putInt q.2.length ++ (q.2.flatMap putFl ++ post))) q.1.length 0 3 (by omega) (by omega) (by omega) (by omega)
  rw [← e1] at r1
  simp only [List.length_nil, Nat.zero_add] at r1
  have r2 := levsR_put q.1 (plainQ_levs h) (putInt q.1.length) (putInt q.2.length ++ (q.2.flatMap putFl ++ post))
  rw [← e2] at r2
  have r3 := rInt_put (putInt q.1.length ++ q.1.flatMap putInt) (q.2.flatMap putFl ++ post) q.2.length 0 3 (by omega) (by omega) (by omega) (by omega)
  rw [← e3, List.length_append] at r3
  have r4 := filtersR_put q.2 h3 (putInt q.1.length ++ q.1.flatMap putInt ++ putInt q.2.length) post
  rw [← e4, List.length_append, List.length_append] at r4
  unfold readQ
  simp only [r1, Int.toNat_natCast, r2, r3, r4, if_true]
  unfold putQ putTail
  simp only [List.length_append, Nat.add_assoc]
end Go.Proofs.YtkdpclllenbgfaaDoor
