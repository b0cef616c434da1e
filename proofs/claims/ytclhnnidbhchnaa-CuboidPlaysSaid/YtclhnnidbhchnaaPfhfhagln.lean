/- 2 texts of this claim, in build order. -/
import Derived.Test.YtclhnnidbhchnaaPmandpgja
import Derived.Test.YtclhnnidbhchnaaPglmmcdpc
import Derived.Test.YtclhnnidbhchnaaPhambbglj
import Derived.Test.YtclhnnidbhchnaaPfghieopf
import Derived.Test.YtclhnnidbhchnaaPaaodkcep
/- Bytes that are put, one behind the other. -/
namespace Go.Proofs.Ytclhnnidbhchnaa
open Go.ChangeShapes Go.WideShapes Go.ChangeAt Go.RowKit
set_option linter.unusedVariables false

theorem flat_len {α : Type} (l : List α) (f : α → List UInt8) (m : Nat) (h : ∀ x ∈ l, (f x).length ≤ m) : (l.flatMap f).length ≤ m * l.length := by
  induction l with
  | nil => simp
  | cons x l ih =>
    have h1 := h x List.mem_cons_self
    have h2 := ih (fun y hy => h y (List.mem_cons_of_mem _ hy))
    rw [List.flatMap_cons, List.length_append, List.length_cons, Nat.mul_succ]
    omega
theorem flat_drop {α : Type} {l : List α} {k : Nat} (hk : k < l.length) (f : α → List UInt8) : (l.drop k).flatMap f = f l[k] ++ (l.drop (k + 1)).flatMap f := by
  rw [List.drop_eq_getElem_cons hk, List.flatMap_cons]
theorem flat_done {α : Type} {l : List α} (f : α → List UInt8) : (l.drop l.length).flatMap f = [] := by simp
/-- Bytes of the call's own. -/
def Own8 (w : World) (base : Nat) (v : Value) (l : List UInt8) : Prop := w.ownsRow base 5 1 v l.length (bvals l)
theorem Own8.less {w : World} {base base' : Nat} {v : Value} {l : List UInt8} (h : Own8 w base v l) (hb : base' ≤ base) : Own8 w base' v l := by
  obtain ⟨h1, h2⟩ := h
  refine ⟨h1, ?_⟩
  rcases h2 with h2 | ⟨g, cap, cur, rfl, hbg, r⟩
  · exact .inl h2
  · exact .inr ⟨g, cap, cur, rfl, by omega, r⟩
theorem Own8.on {w w' : World} {base : Nat} {v : Value} {l : List UInt8} (h : Own8 w base v l) (hb : Below w.heap.size w w') : Own8 w' base v l := own_kept h (fun g hg => hb.block g (own_lt h g hg).2)
theorem Own8.sl {w : World} {base : Nat} {v : Value} {l : List UInt8} (h : Own8 w base v l) : Sl w w.heap.size v (bvals l) := Sl.of_own h
theorem Own8.form {w : World} {base : Nat} {v : Value} {l : List UInt8} (h : Own8 w base v l) : ∃ A c, v = .slice A l.length c := by
  rcases h.2 with ⟨rfl, h0⟩ | ⟨g, cap, cur, rfl, _⟩
  · exact ⟨none, 0, by rw [h0]⟩
  · exact ⟨_, _, rfl⟩
def Put8 (l : List UInt8) (w : World) (e : Ending) (w' : World) : Prop := ∃ v, e = .returned v ∧ Own8 w' w.heap.size v l ∧ Below w.heap.size w w'
theorem putI8 (v : Value) (l : List UInt8) (n : Int) (w : World) (hv : Sl w w.heap.size v (bvals l)) (hl : l.length ≤ 100000) (hn : InI64 n) :
    Calls Try.prog 57 #[v, .int .i64 n] w (Put8 (l ++ putInt n) w) := by
  unfold InI64 at hn
  refine (putInt_any v l n w hv (by omega) (by omega) (by omega)).mono ?_
  rintro e w' ⟨v', rfl, h, hb⟩
  exact ⟨v', rfl, by unfold Own8; rw [List.length_append]; exact h, hb⟩
end Go.Proofs.Ytclhnnidbhchnaa
/- A cuboid as bytes, plainly. -/
namespace Go.Proofs.Ytclhnnidbhchnaa
open Go.ChangeShapes Go.WideShapes Go.ChangeAt Go.RowKit Go.Maps
set_option linter.unusedVariables false
set_option linter.unusedSimpArgs false

def putI3 (c : CellM) (i : Nat) : List UInt8 := putInt (c.s.getD i 0) ++ (putInt (c.lo.getD i 0) ++ putInt (c.hi.getD i 0))
def putCell (c : CellM) : List UInt8 := putInt c.n ++ (List.range c.s.length).flatMap (putI3 c)
def putKC (x : KC) : List UInt8 := x.1.flatMap putInt ++ putCell x.2
def putCub (L : List KC) : List UInt8 := putInt L.length ++ L.flatMap putKC
theorem putKC_len {W M : Nat} {x : KC} (h1 : x.1.length = W) (hW : W ≤ 3) (h2 : x.2.s.length = M) (hM : M ≤ 2) : (putKC x).length ≤ 100 := by
  have a := flat_len x.1 putInt 10 (fun y _ => putInt_le y)
  have b := flat_len (List.range x.2.s.length) (putI3 x.2) 30 (fun y _ => by
    have h1 := putInt_le (x.2.s.getD y 0); have h2 := putInt_le (x.2.lo.getD y 0); have h3 := putInt_le (x.2.hi.getD y 0)
    unfold putI3
    rw [List.length_append, List.length_append]; omega)
  have c := putInt_le x.2.n
  rw [List.length_range] at b
  unfold putKC putCell
  rw [List.length_append, List.length_append]
  omega
theorem putKCs_len {W M : Nat} {L : List KC} (hs : OkL W M L) (hW : W ≤ 3) (hM : M ≤ 2) : (L.flatMap putKC).length ≤ 100 * L.length :=
  flat_len L putKC 100 (fun x hx => putKC_len (hs.key x hx).1 hW (hs.len x hx) hM)
theorem OkL.take {W M : Nat} {L : List KC} (h : OkL W M L) (k : Nat) : OkL W M (L.take k) :=
  ⟨h.sort.sublist (List.take_sublist k L), fun x hx => h.key x (List.mem_of_mem_take hx), fun x hx => h.may x (List.mem_of_mem_take hx), fun x hx => h.full x (List.mem_of_mem_take hx), fun x hx => h.len x (List.mem_of_mem_take hx)⟩
theorem flat_takeK {L : List KC} {k : Nat} (hk : k < L.length) : (L.take (k + 1)).flatMap putKC = (L.take k).flatMap putKC ++ putKC (L.getD k zK) := by
  rw [take_succ_zK hk, List.flatMap_append]; simp
theorem cell_i64 {c : CellM} (h : MayP c) (h0 : c.n ≠ 0) : InI64 c.n ∧ ∀ i, i < c.s.length → InI64 (c.s.getD i 0) ∧ InI64 (c.lo.getD i 0) ∧ InI64 (c.hi.getD i 0) := by
  obtain ⟨a, b⟩ := may_full h h0
  unfold CNT at a
  unfold InI64
  refine ⟨by omega, fun i hi => ?_⟩
  have := b i hi
  unfold CellM.col colP VAL SUM at this
  omega
/-- What is put so far, and what is still to be put, are all (the bytes lie from H on). -/
def PqH {α : Type} (H : Nat) (W0 : World) (T : List UInt8) (xs : List α) (f : α → List UInt8) (b i : Value) (wr : World) : Prop :=
  ∃ k : Nat, k ≤ xs.length ∧ i = .int .i64 k ∧ ∃ acc, Own8 wr H b acc ∧ acc ++ (xs.drop k).flatMap f = T ∧ Below W0.heap.size W0 wr
theorem pqh_step {α : Type} {T acc : List UInt8} {xs : List α} {f : α → List UInt8} {k : Nat} (hk : k < xs.length) (h : acc ++ (xs.drop k).flatMap f = T) : (acc ++ f xs[k]) ++ (xs.drop (k + 1)).flatMap f = T := by
  rw [flat_drop hk] at h
  rw [← h]
  simp only [List.append_assoc]
theorem pqh_end {α : Type} {T acc : List UInt8} {xs : List α} {f : α → List UInt8} (h : acc ++ (xs.drop xs.length).flatMap f = T) : acc = T := by
  rw [flat_done, List.append_nil] at h
  exact h
theorem pqh_len {a b T : List UInt8} {n : Nat} (h : a ++ b = T) (hT : T.length ≤ n) : a.length ≤ n := by
  have := congrArg List.length h
  rw [List.length_append] at this
  omega
/-- `m[k]`. -/
theorem MapK.look1 {w : World} {E : Nat → Prop} {m W : Nat} {L : List KC} (h : MapK w E m W L) {k : List Int} (hk : okK W k) :
    ∃ v, (Instr.lookup 92 (.map (some m)) (keyT k) false).run Try.prog w = .ok v w ∧ CellE w E v (getC L k) := by
  obtain ⟨D, h1, h2, h3, h4, h5⟩ := h
  obtain ⟨v, ps, hrun, hR⟩ := h1.lookup key_law Try.underlying92 (zero_cellM w) (show heldR _ = some (.held _, []) from rfl) (key_of_k hk)
  refine ⟨v, hrun, ?_⟩
  have hv : DataW.held v = D.atKey (keyLk k) (.held (.agg #[.int .i64 0, .slice none 0 0, .slice none 0 0, .slice none 0 0])) := by
    unfold heldR at hR
    simpa using congrArg Prod.fst (Option.some.inj hR)
  cases hg : getK L k with
  | none =>
    rw [Maps.atKey_of_not_has (by rw [h3 k hk, hg]; rfl)] at hv
    injection hv with hv
    subst hv
    unfold getC; rw [hg]; exact CellE.nil_
  | some c =>
    obtain ⟨u, hu, hce⟩ := h4 _ (getK_mem hg)
    rw [hu] at hv
    injection hv with hv
    subst hv
    unfold getC; rw [hg]; exact hce
theorem getC_mem {L : List KC} {W M : Nat} (hs : OkL W M L) {x : KC} (hx : x ∈ L) : getC L x.1 = x.2 := by
  unfold getC; rw [getK_of_mem hs.sort hx]; rfl
end Go.Proofs.Ytclhnnidbhchnaa
