/- 15 texts of this claim, in build order. -/
import Derived.Test.YtgoapnkdcfcjgaaGreatPommbaifj
import Derived.Test.YtgoapnkdcfcjgaaGreatPfaigadad
import Derived.Shelf.Strings.OnBuilder
import Derived.Test.YtgoapnkdcfcjgaaGreatProg
import Derived.Test.YtgoapnkdcfcjgaaGreatPkkdpconn
import Derived.Test.YtgoapnkdcfcjgaaGreatPbdfgmcpj
import Derived.Maps.AppendAt
import Derived.OwnWalk
set_option linter.unusedVariables false
set_option linter.unusedSimpArgs false
namespace Go.Proofs.YtgoapnkdcfcjgaaGreat
open Go.ChangeShapes Go.WideShapes Go.ChangeAt Go.RowKit Go.Deep
abbrev DimX := ByteArray × List ByteArray
abbrev ze := List DimX × List ByteArray × List (List Int)
abbrev zaS := Int × Int × List (List ByteArray)
abbrev zX := List Int × List zaS
abbrev zO : Rd (List ByteArray) := zj 1 zc7
abbrev zC : Rd (List Int) := zj 1 zcG
abbrev zee : Rd DimX := zdQ 1 zc7 zO
abbrev zgK : Rd ze := zdQ 1 (zj 2 zee) (zdQ 1 zO (zj 1 zC))
abbrev zch : Rd zaS := zdQ 1 zcG (zdQ 1 zcG (zj 1 zO))
abbrev zjC : Rd zX := zdQ 1 zC (zj 3 zch)
theorem zQ : Good zO := zas zdO
theorem zm : Good zC := zas zcW
theorem zkw : Good zee := zdY zdO zQ
theorem zam : Good (zj 2 zee) := zas zkw
theorem zaw : Good (zj 1 zC) := zas zm
theorem zB : Good (zj 1 zO) := zas zQ
theorem zfD : Good zch := zdY zcW (zdY zcW zB)
theorem zag : Good (zj 3 zch) := zas zfD
def zD (w : World) (B : Nat) (v : Value) (s : ze) : Prop :=
 ∃ A1 c1 A2 c2 A3 c3, v = .agg #[.slice A1 s.1.length c1, .slice A2 s.2.1.length c2, .slice A3 s.2.2.length c3] /\ zj 2 zee w B [.slice A1 s.1.length c1] s.1 /\ zO w B [.slice A2 s.2.1.length c2] s.2.1 /\ zj 1 zC w B [.slice A3 s.2.2.length c3] s.2.2
def zaH (w : World) (B : Nat) (v : Value) (q : zX) : Prop :=
 ∃ A1 c1 A2 c2, v = .agg #[.slice A1 q.1.length c1, .slice A2 q.2.length c2] /\ zC w B [.slice A1 q.1.length c1] q.1 /\ zj 3 zch w B [.slice A2 q.2.length c2] q.2
theorem zD.below {w w' : World} {B : Nat} {v : Value} {s : ze} (h : zD w B v s) (hb : Below B w w') : zD w' B v s := by
 obtain ⟨A1, c1, A2, c2, A3, c3, e, h1, h2, h3⟩ := h
 exact ⟨A1, c1, A2, c2, A3, c3, e, zam.stays h1 hb, zQ.stays h2 hb, zaw.stays h3 hb⟩
theorem zD.more {w : World} {B B' : Nat} {v : Value} {s : ze} (h : zD w B v s) (hb : B <= B') : zD w B' v s := by
 obtain ⟨A1, c1, A2, c2, A3, c3, e, h1, h2, h3⟩ := h
 exact ⟨A1, c1, A2, c2, A3, c3, e, zam.more h1 hb, zQ.more h2 hb, zaw.more h3 hb⟩
theorem zD.on {w w' : World} {v : Value} {s : ze} (h : zD w w.heap.size v s) (hb : Below w.heap.size w w') : zD w' w'.heap.size v s := (h.below hb).more hb.size
theorem zaH.below {w w' : World} {B : Nat} {v : Value} {q : zX} (h : zaH w B v q) (hb : Below B w w') : zaH w' B v q := by
 obtain ⟨A1, c1, A2, c2, e, h1, h2⟩ := h
 exact ⟨A1, c1, A2, c2, e, zm.stays h1 hb, zag.stays h2 hb⟩
theorem zaH.more {w : World} {B B' : Nat} {v : Value} {q : zX} (h : zaH w B v q) (hb : B <= B') : zaH w B' v q := by
 obtain ⟨A1, c1, A2, c2, e, h1, h2⟩ := h
 exact ⟨A1, c1, A2, c2, e, zm.more h1 hb, zag.more h2 hb⟩
theorem zaH.on {w w' : World} {v : Value} {q : zX} (h : zaH w w.heap.size v q) (hb : Below w.heap.size w w') : zaH w' w'.heap.size v q := (h.below hb).more hb.size
theorem Good.on {α : Type} {R : Rd α} (hg : Good R) {w w' : World} {cs : List Value} {x : α} (h : R w w.heap.size cs x) (hb : Below w.heap.size w w') : R w' w'.heap.size cs x := hg.more (hg.stays h hb) hb.size
theorem zj.open_ {α : Type} {k : Nat} {R : Rd α} {w : World} {B : Nat} {cs : List Value} {l : List α} (h : zj k R w B cs l) : ∃ A c, cs = [.slice A l.length c] /\ l.length <= c /\ c <= 9223372036854775807 := by
 obtain ⟨A, c, h1, h2, h3, -⟩ := h
 unfold maxLen at h3
 exact ⟨A, c, h1, h2, by omega⟩
theorem zhy {w : World} {B : Nat} {cs : Array Value} {s : ze} (h : zgK w B cs.toList s) : zD w B (.agg cs) s := by
 obtain ⟨l1, h1, l2, h2, h3⟩ := h
 obtain ⟨A1, c1, e1, -, -⟩ := h1.open_
 obtain ⟨A2, c2, e2, -, -⟩ := h2.open_
 obtain ⟨A3, c3, e3, -, -⟩ := h3.open_
 rw [e1] at h1; rw [e2] at h2; rw [e3] at h3
 refine ⟨A1, c1, A2, c2, A3, c3, ?_, h1, h2, h3⟩
 have : cs.toList = [.slice A1 s.1.length c1, .slice A2 s.2.1.length c2, .slice A3 s.2.2.length c3] := by
  rw [<- List.take_append_drop 1 cs.toList, e1, <- List.take_append_drop 1 (cs.toList.drop 1), e2, e3]
  rfl
 rw [show cs = #[.slice A1 s.1.length c1, .slice A2 s.2.1.length c2, .slice A3 s.2.2.length c3] from Array.toList_inj.1 this]
theorem zjq {w : World} {B : Nat} {cs : Array Value} {q : zX} (h : zjC w B cs.toList q) : zaH w B (.agg cs) q := by
 obtain ⟨l1, h1, h2⟩ := h
 obtain ⟨A1, c1, e1, -, -⟩ := h1.open_
 obtain ⟨A2, c2, e2, -, -⟩ := h2.open_
 rw [e1] at h1; rw [e2] at h2
 refine ⟨A1, c1, A2, c2, ?_, h1, h2⟩
 have : cs.toList = [.slice A1 q.1.length c1, .slice A2 q.2.length c2] := by
  rw [<- List.take_append_drop 1 cs.toList, e1, e2]
  rfl
 rw [show cs = #[.slice A1 q.1.length c1, .slice A2 q.2.length c2] from Array.toList_inj.1 this]
theorem zbP {w : World} {B : Nat} {v : Value} {p : List ByteArray} (h : zO w B [v] p) : Sl w B v (zL p) /\ zi6 p := by
 refine ⟨zj.sl Value.string (fun es x hx => hx.1) h, fun s hs => ?_⟩
 obtain ⟨i, hi, rfl⟩ := List.mem_iff_getElem.1 hs
 obtain ⟨A, c, e, -, -⟩ := h.open_
 rw [e] at h
 obtain ⟨b, off, -, -, es, -, -, g⟩ := h.at_ hi
 have := g.2
 unfold maxLen at this; omega
def zax (l : List ByteArray) (most : Nat) : Bool := decide (1 <= l.length) && decide (l.length <= most) && l.all zaq && decide l.Nodup
def zV (s : ze) : List Int := s.1.map fun d => (d.2.length : Int)
def zak (v w : List Int) : Bool := decide (v.length = w.length) && (List.zipWith (fun a b => decide (b <= a)) v w).all id
def zap (s : ze) (v : List Int) : Bool := zak (zV s) v && !(v.any fun n => decide (n < 0))
def mayS (s : ze) : Bool :=
 s.1.all (fun d => zax d.2 3) && (zax (s.1.map (·.1)) 3 && zax s.2.1 2 && decide (s.2.2.length <= 6)) && ((List.range s.2.2.length).all fun i => zap s (s.2.2.getD i []) && !(decide (s.2.2.getD i [] = zV s)) && !((s.2.2.take i).any fun x => decide (s.2.2.getD i [] = x)))
def inQ (n m : Int) : Bool := decide (0 <= n) && decide (n <= m)
def zby (f : zaS) : Bool := (inQ f.1 2 && inQ f.2.1 3 && decide (f.2.2.length <= 6)) && !(f.2.2.any fun p => !mayB p)
def zbC (q : zX) : Bool := (decide (q.1.length <= 3) && decide (q.2.length <= 3) && !(q.1.any fun n => !inQ n 3)) && q.2.all zby
def zbu (s : ze) (d : Int) : Int := ((s.1.getD d.toNat (ByteArray.empty, [])).2.length : Int)
def okF (s : ze) (f : zaS) : Bool := (decide (f.1 < s.1.length) && decide (1 <= f.2.1) && decide (f.2.1 <= zbu s f.1) && decide (f.2.2 ≠ [])) && !(f.2.2.any fun p => decide ((p.length : Int) ≠ f.2.1))
def mayQ (s : ze) (q : zX) : Int := if !mayS s then 11 else if !(zbC q && zap s q.1) then 16 else if q.2.all (okF s) then 0 else 16
def upS (p : List ByteArray) (n : Int) : List ByteArray := p.take n.toNat
def zaR (l : List Int) (f : zaS) : List Int := l.set f.1.toNat (max (l.getD f.1.toNat 0) f.2.1)
def zaP (q : zX) : List Int := q.2.foldl zaR q.1
end Go.Proofs.YtgoapnkdcfcjgaaGreat
namespace Go.Proofs.YtgoapnkdcfcjgaaGreat
open Go.Shelf
end Go.Proofs.YtgoapnkdcfcjgaaGreat
namespace Go.Proofs.YtgoapnkdcfcjgaaGreat
open Go.ChangeShapes Go.WideShapes Go.ChangeAt Go.RowKit
abbrev zq := List (List ByteArray) × List Int
abbrev za7 : Rd zq := zdQ 1 (zj 1 zO) zC
theorem ziN : Good za7 := zdY zB zm
theorem zab : Good (zj 2 za7) := zas ziN
def zdu (w : World) (B : Nat) (v : Value) (f : zq) : Prop :=
 ∃ A1 c1 A2 c2, v = .agg #[.slice A1 f.1.length c1, .slice A2 f.2.length c2] /\ zj 1 zO w B [.slice A1 f.1.length c1] f.1 /\ zC w B [.slice A2 f.2.length c2] f.2
theorem zdu.below {w w' : World} {B : Nat} {v : Value} {f : zq} (h : zdu w B v f) (hb : Below B w w') : zdu w' B v f := by
 obtain ⟨A1, c1, A2, c2, e, h1, h2⟩ := h
 exact ⟨A1, c1, A2, c2, e, zB.stays h1 hb, zm.stays h2 hb⟩
theorem zdu.more {w : World} {B B' : Nat} {v : Value} {f : zq} (h : zdu w B v f) (hb : B <= B') : zdu w B' v f := by
 obtain ⟨A1, c1, A2, c2, e, h1, h2⟩ := h
 exact ⟨A1, c1, A2, c2, e, zB.more h1 hb, zm.more h2 hb⟩
theorem zdu.on {w w' : World} {v : Value} {f : zq} (h : zdu w w.heap.size v f) (hb : Below w.heap.size w w') : zdu w' w'.heap.size v f := (h.below hb).more hb.size
theorem zle {w : World} {B : Nat} {cs : List Value} {f : zq} (h : za7 w B cs f) : ∃ A1 c1 A2 c2, cs = [.slice A1 f.1.length c1, .slice A2 f.2.length c2] /\ zj 1 zO w B [.slice A1 f.1.length c1] f.1 /\ zC w B [.slice A2 f.2.length c2] f.2 := by
 obtain ⟨l1, h1, h2⟩ := h
 obtain ⟨A1, c1, e1, -, -⟩ := h1.open_
 obtain ⟨A2, c2, e2, -, -⟩ := h2.open_
 rw [e1] at h1; rw [e2] at h2
 refine ⟨A1, c1, A2, c2, ?_, h1, h2⟩
 rw [<- List.take_append_drop 1 cs, e1, e2]
 rfl
theorem zbD {w : World} {B : Nat} {A : Option Addr} {n c : Nat} {l : List zq} (h : zj 2 za7 w B [.slice A n c] l) {k : Nat} (hk : k < l.length) :
  ∃ b off AP cP AV cV, A = some ⟨b, off, none⟩ /\ b < B /\ w.cell? ⟨b, off + k * 2, none⟩ = some (.slice AP l[k].1.length cP) /\ w.cell? ⟨b, off + k * 2 + 1, none⟩ = some (.slice AV l[k].2.length cV) /\
   zj 1 zO w B [.slice AP l[k].1.length cP] l[k].1 /\ zC w B [.slice AV l[k].2.length cV] l[k].2 := by
 obtain ⟨b, off, rfl, hb, es, hel, hcell, hr⟩ := h.at_ hk
 obtain ⟨AP, cP, AV, cV, rfl, h1, h2⟩ := zle hr
 exact ⟨b, off, AP, cP, AV, cV, rfl, hb, hcell 0 _ rfl, hcell 1 _ rfl, h1, h2⟩
def valB (n : Int) : Bool := decide (-2305843009213693952 <= n) && decide (n <= 2305843009213693952)
def zbl (f : zq) : Bool := (!(f.1.any fun p => !mayB p) && !(f.2.any fun n => !valB n)) && decide (f.1.length <= 3) && decide (f.2.length <= 2)
def zaC (s : ze) (f : zq) : Bool := (zbl f && decide (f.1.length = s.1.length) && decide (f.2.length = s.2.1.length)) && (List.range f.1.length).all fun i => decide ((f.1.getD i []).length = (s.1.getD i (⟨#[]⟩, [])).2.length)
def zbe (s : ze) (l : List zq) : Int := if !mayS s then 11 else if l.length = 0 \/ 8 < l.length then 13 else if l.any (fun f => !zaC s f) then 12 else 0
theorem zfj {α : Type} (p : α -> Bool) (l : List α) : (!(l.any fun x => !p x)) = l.all p := by
 induction l with
 | nil => rfl
 | cons x l ih => rw [List.any_cons, List.all_cons, Bool.not_or, ih, Bool.not_not]
theorem zdH {f : zq} (h : zbl f = true) : f.1.length <= 3 /\ f.2.length <= 2 /\ (∀ p ∈ f.1, mayB p = true) /\ ∀ n ∈ f.2, valB n = true := by
 unfold zbl at h
 rw [zfj, zfj, Bool.and_eq_true, Bool.and_eq_true, Bool.and_eq_true] at h
 exact ⟨of_decide_eq_true h.1.2, of_decide_eq_true h.2, fun p hp => List.all_eq_true.1 h.1.1.1 p hp, fun n hn => List.all_eq_true.1 h.1.1.2 n hn⟩
structure LatX where
 s : ze
 ds : List (List zH)
 cs : List (List KC)
 n : Int
def zh (s : ze) : List (List Int) := zV s :: s.2.2
def lat0 (s : ze) : LatX := ⟨s, s.1.map (fun _ => []), (zh s).map (fun _ => []), 0⟩
def dimL (s : ze) (i : Nat) : Int := ((s.1.getD i (ByteArray.empty, [])).2.length : Int)
def NUM : Int := 1099511627776
structure zfi (l : LatX) : Prop where
 may : mayS l.s = true
 dlen : l.ds.length = l.s.1.length
 dok : ∀ ns ∈ l.ds, DOk ns
 clen : l.cs.length = (zh l.s).length
 cok : ∀ L ∈ l.cs, OkL l.s.1.length l.s.2.1.length L
 n0 : 0 <= l.n
 n1 : l.n <= NUM
theorem zhl {s : ze} (h : mayS s = true) : zfi (lat0 s) where
 may := h
 dlen := by simp [lat0]
 dok := fun ns hn => by
  obtain ⟨x, -, rfl⟩ := List.mem_map.1 hn
  exact zmE
 clen := by simp [lat0]
 cok := fun L hL => by
  obtain ⟨x, -, rfl⟩ := List.mem_map.1 hL
  exact OkL.nil_ _ _
 n0 := by simp [lat0]
 n1 := by simp [lat0, NUM]
def fv2 (p : Value × Value) : List Value := [p.1, p.2]
def fvs (vs : List (Value × Value)) : List Value := vs.flatMap fv2
theorem za8 {F : FuncId} {fn : Func} {c : Code} (hf : Tryz.prog.funcs[F]? = some fn) (hname : (fn.name == "runtime.NumGoroutine") = false) (hb : fn.body = some c) : zbg F := fun args w => by
 have h1 : fn.name ≠ "runtime.NumGoroutine" := by simpa using hname
 simp [callFunc, hf, h1, hb]
theorem zge {l : List ByteArray} {x : ByteArray} : (l ++ [x]).Nodup ↔ l.Nodup /\ x ∉ l := by
 rw [List.nodup_append]
 constructor
 ·rintro ⟨h1, -, h3⟩; exact ⟨h1, fun h => h3 x h x (by simp) rfl⟩
 ·rintro ⟨h1, h2⟩; exact ⟨h1, by simp, fun a ha b hb => by simp at hb; rw [hb]; rintro rfl; exact h2 ha⟩
theorem zG (w : World) (x : Value) (t : TypeId) {N : Nat} (hN : w.heap.size = N) : ∀ j u, [x][j]? = some u -> (w.alloc (.cells #[x] t)).cell? ((⟨N, 0, none⟩ : Addr).add j) = some u := by
 subst hN; exact cell_one_new w x t
def zfL (l : List Int) (w : World) (e : Ending) (w' : World) : Prop := ∃ r, e = .returned r /\ w'.ownsRow w.heap.size 3 1 r l.length (zk l) /\ Below w.heap.size w w'
theorem zb4 {w : World} {B : Nat} {A : Option Addr} {n c : Nat} {l : List Int} (h : zC w B [.slice A n c] l) {k : Nat} (hk : k < l.length) : ∃ b off, A = some ⟨b, off, none⟩ /\ b < B /\ w.cell? ⟨b, off + k, none⟩ = some (.int .i64 (l.getD k 0)) /\ za4 (l.getD k 0) := by
 obtain ⟨b, off, rfl, hb, es, hel, hcell, hr⟩ := h.at_ hk
 obtain ⟨rfl, hi⟩ := hr
 have := hcell 0 _ rfl
 rw [Nat.mul_one, Nat.add_zero] at this
 rw [List.getD_eq_getElem?_getD, List.getElem?_eq_getElem hk]
 exact ⟨b, off, rfl, hb, this, hi⟩
def zj6 {α : Type} (l r : List α) (w : World) (i : Value) (wr : World) : Prop := ∃ k : Nat, k <= l.length /\ i = .int .i64 k /\ l.take k = r.take k /\ Qu w wr
theorem zfK {w : World} {B : Nat} {A : Option Addr} {n c : Nat} {l : List ByteArray} (h : zO w B [.slice A n c] l) {k : Nat} (hk : k < l.length) : ∃ b off, A = some ⟨b, off, none⟩ /\ b < B /\ w.cell? ⟨b, off + k, none⟩ = some (.string l[k]) /\ (l[k]).size <= maxLen := by
 obtain ⟨b, off, rfl, hb, es, hel, hcell, hr⟩ := h.at_ hk
 obtain ⟨rfl, hi⟩ := hr
 have := hcell 0 _ rfl
 rw [Nat.mul_one, Nat.add_zero] at this
 exact ⟨b, off, rfl, hb, this, hi⟩
theorem zbW {w : World} {B : Nat} {A : Option Addr} {n c : Nat} {l : List Int} (h : zC w B [.slice A n c] l) {k : Nat} (hk : k < l.length) : ∃ b off, A = some ⟨b, off, none⟩ /\ b < B /\ w.cell? ⟨b, off + k, none⟩ = some (.int .i64 l[k]) /\ za4 l[k] := by
 obtain ⟨b, off, rfl, hb, es, hel, hcell, hr⟩ := h.at_ hk
 obtain ⟨rfl, hi⟩ := hr
 have := hcell 0 _ rfl
 rw [Nat.mul_one, Nat.add_zero] at this
 exact ⟨b, off, rfl, hb, this, hi⟩
theorem zaA {w : World} {base : Nat} {v : Value} {l : List Int} {n : Nat} (hn : n = l.length) (h : w.ownsRow base 3 1 v n (zk l)) (hl : ∀ x ∈ l, za4 x) : zC w w.heap.size [v] l := by
 subst hn
 obtain ⟨A, c, rfl, h1, h2, h3⟩ := zl h
 refine ⟨A, c, rfl, h1, h2, fun h0 => ?_⟩
 obtain ⟨g, rfl, -, hg, -⟩ := h3 h0
 refine ⟨g, 0, rfl, hg, fun i x hx => ⟨[.int .i64 x], rfl, fun j u hu => ?_, rfl, hl x (List.mem_of_getElem? hx)⟩⟩
 have hil := (List.getElem?_eq_some_iff.1 hx).1
 have hc2 := h.cellAt (g := g) i (by omega)
 cases j with
 | succ j => simp at hu
 | zero =>
   simp at hu; subst hu
   rw [Nat.mul_one, Nat.add_zero, Nat.zero_add, hc2]
   simp [zk, hx]
theorem zbi {w : World} {base : Nat} {v : Value} {l : List ByteArray} {n : Nat} (hn : n = l.length) (h : w.ownsRow base 9 1 v n (zL l)) (hl : ∀ x ∈ l, x.size <= maxLen) : zO w w.heap.size [v] l := by
 subst hn
 obtain ⟨A, c, rfl, h1, h2, h3⟩ := zl h
 refine ⟨A, c, rfl, h1, h2, fun h0 => ?_⟩
 obtain ⟨g, rfl, -, hg, -⟩ := h3 h0
 refine ⟨g, 0, rfl, hg, fun i x hx => ⟨[.string x], rfl, fun j u hu => ?_, rfl, hl x (List.mem_of_getElem? hx)⟩⟩
 have hil := (List.getElem?_eq_some_iff.1 hx).1
 have hc2 := h.cellAt (g := g) i (by omega)
 cases j with
 | succ j => simp at hu
 | zero =>
   simp at hu; subst hu
   rw [Nat.mul_one, Nat.add_zero, Nat.zero_add, hc2]
   simp [zL, hx]
theorem zdI : (Tryz.prog.info? 9).map (fun i => (i.zero, i.size, i.bytes)) = some (some (.string ByteArray.empty), 1, 16) := by kernel_rfl
theorem zea (p : List ByteArray) (x : ByteArray) : zL (p ++ [x]) = zL p ++ [.string x] := by simp [zL]
theorem zj.head_ {α : Type} {k : Nat} {R : Rd α} {w : World} {B : Nat} {A : Option Addr} {n c m : Nat} {l : List α} (h : zj k R w B [.slice A n c] l) (hm : m <= n) : zj k R w B [.slice A m c] (l.take m) := by
 obtain ⟨A', c', e, h1, h2, h3⟩ := h
 simp only [List.cons.injEq, and_true] at e
 injection e with e1 e2 e3
 subst e1; subst e2; subst e3
 have hl : (l.take m).length = m := by rw [List.length_take]; omega
 refine ⟨A, c, by rw [hl], by omega, h2, fun h0 => ?_⟩
 obtain ⟨b, off, e5, e6, e7⟩ := h3 (by omega)
 refine ⟨b, off, e5, e6, fun i x hx => e7 i x ?_⟩
 rw [List.getElem?_take] at hx
 split at hx
 ·exact hx
 ·cases hx
theorem zj.cap {α : Type} {k : Nat} {R : Rd α} {w : World} {B : Nat} {A : Option Addr} {n c : Nat} {l : List α} (h : zj k R w B [.slice A n c] l) : n <= c /\ c <= 9223372036854775807 := by
 obtain ⟨A', c', e, h1, h2, h3⟩ := h
 simp only [List.cons.injEq, and_true] at e
 injection e with e1 e2 e3
 unfold maxLen at h2
 omega
theorem zlm : (Tryz.prog.info? 23).map (fun i => (i.zero, i.size, i.bytes)) = some (some (.slice none 0 0), 1, 24) := by kernel_rfl
theorem zw {w : World} {base base' n : Nat} {e : TypeId} {sz : Nat} {v : Value} {xs : List Value} (h : w.ownsRow base e sz v n xs) (hb : base' <= base) : w.ownsRow base' e sz v n xs := by
 obtain ⟨h1, h2⟩ := h
 refine ⟨h1, ?_⟩
 rcases h2 with h2 | ⟨g, cap, cur, rfl, hbg, r⟩
 ·exact .inl h2
 ·exact .inr ⟨g, cap, cur, rfl, by omega, r⟩
theorem zx {w w' : World} {base n : Nat} {e : TypeId} {sz : Nat} {v : Value} {xs : List Value} (h : w.ownsRow base e sz v n xs) (hb : Below w.heap.size w w') : w'.ownsRow base e sz v n xs :=
 zo h (fun g hg => hb.block g (h.lt g hg).2)
def RowL (w : World) (base : Nat) (out : Value) (M : List (List ByteArray)) : Prop :=
 ∃ vs : List Value, vs.length = M.length /\ w.ownsRow base 23 1 out M.length vs /\
  ∀ j, j < M.length -> w.ownsRow base 9 1 (vs.getD j undef) (M.getD j []).length (zL (M.getD j [])) /\ ∀ g, (vs.getD j undef).ownBlock = some g -> out.ownBlock ≠ some g
theorem RowL.nil_ (w : World) (base : Nat) : RowL w base (.slice none 0 0) [] := ⟨[], rfl, World.ownsRow_nil _ _ _ _, fun j hj => by simp at hj⟩
theorem RowL.less {w : World} {base base' : Nat} {out : Value} {M : List (List ByteArray)} (h : RowL w base out M) (hb : base' <= base) : RowL w base' out M := by
 obtain ⟨vs, h1, h2, h3⟩ := h
 exact ⟨vs, h1, zw h2 hb, fun j hj => ⟨zw (h3 j hj).1 hb, (h3 j hj).2⟩⟩
theorem RowL.app {w w1 w2 : World} {base : Nat} {out v' u : Value} {M : List (List ByteArray)} {x : List ByteArray} {t : TypeId} {vs : List Value} (hvs : vs.length = M.length) (ho0 : w.ownsRow base 23 1 out M.length vs)
  (h3 : ∀ j, j < M.length -> w.ownsRow base 9 1 (vs.getD j undef) (M.getD j []).length (zL (M.getD j [])) /\ ∀ g, (vs.getD j undef).ownBlock = some g -> out.ownBlock ≠ some g)
  (hb : Below w.heap.size w w1) (hu : w1.ownsRow w.heap.size 9 1 u x.length (zL x)) (hbase : base <= w.heap.size)
  (ho : w2.ownsRow base 23 1 v' (M.length + 1) (vs ++ [u])) (hg : (w1.alloc (.cells #[u] t)).grownBy w2 out.ownBlock) (hat : v'.ownBlock = out.ownBlock \/ v'.ownBlock = some (w1.alloc (.cells #[u] t)).heap.size) : RowL w2 base v' (M ++ [x]) := by
 have hsz := hb.size
 have hlast : ∀ g, out.ownBlock = some g -> g < w.heap.size := fun g hg' => (ho0.lt g hg').2
 have hkeep : ∀ (y : Value) (l : List Value) (b : Nat), w1.ownsRow b 9 1 y l.length l -> (∀ g, y.ownBlock = some g -> out.ownBlock ≠ some g) -> w2.ownsRow b 9 1 y l.length l := fun y l b hy hn =>
  zo (hy.alloc _) (fun g hgy => hg.block g (by have := (hy.lt g hgy).2; simp; omega) (fun e => hn g hgy e.symm))
 refine ⟨vs ++ [u], by simp [hvs], by rw [List.length_append]; exact ho, fun j hj => ?_⟩
 rw [List.length_append] at hj
 rcases Nat.lt_or_ge j M.length with hlt | hge
 ·have e1 : (vs ++ [u]).getD j undef = vs.getD j undef := by rw [List.getD_eq_getElem?_getD, List.getElem?_append_left (by omega), <- List.getD_eq_getElem?_getD]
  have e2 : (M ++ [x]).getD j [] = M.getD j [] := by rw [List.getD_eq_getElem?_getD, List.getElem?_append_left hlt, <- List.getD_eq_getElem?_getD]
  rw [e1, e2]
  obtain ⟨k1, k2⟩ := h3 j hlt
  have k1' := zx k1 hb
  refine ⟨by have := hkeep _ (zL (M.getD j [])) base (by rw [zat]; exact k1') k2; rwa [zat] at this, fun g hgy => ?_⟩
  rcases hat with e | e
  ·rw [e]; exact k2 g hgy
  ·rw [e]; intro h; injection h with h; have := (k1'.lt g hgy).2; rw [World.size_alloc] at h; omega
 ·obtain rfl : j = M.length := by simp at hj; omega
  have e1 : (vs ++ [u]).getD M.length undef = u := by rw [List.getD_eq_getElem?_getD, List.getElem?_append_right (by omega), hvs, Nat.sub_self]; rfl
  have e2 : (M ++ [x]).getD M.length [] = x := by rw [List.getD_eq_getElem?_getD, List.getElem?_append_right (by omega), Nat.sub_self]; rfl
  rw [e1, e2]
  have hn : ∀ g, u.ownBlock = some g -> out.ownBlock ≠ some g := fun g hgu e => by have := hlast g e; have := (hu.lt g hgu).1; omega
  refine ⟨by have := hkeep _ (zL x) w.heap.size (by rw [zat]; exact hu) hn; rw [zat] at this; exact zw this hbase, fun g hgu => ?_⟩
  rcases hat with e | e
  ·rw [e]; exact hn g hgu
  ·rw [e]; intro h; injection h with h; have := (hu.lt g hgu).2; rw [World.size_alloc] at h; omega
theorem RowL.rows {w : World} {base : Nat} {out : Value} {M : List (List ByteArray)} (h : RowL w base out M) (hs : ∀ p ∈ M, ∀ s ∈ p, s.size <= maxLen) : zj 1 zO w w.heap.size [out] M := by
 obtain ⟨vs, h1, h2, h3⟩ := h
 obtain ⟨A, c, rfl, g1, g2, g3⟩ := zl h2
 refine ⟨A, c, rfl, g1, g2, fun h0 => ?_⟩
 obtain ⟨g, rfl, -, hg, -⟩ := g3 h0
 refine ⟨g, 0, rfl, hg, fun i x hx => ?_⟩
 have hil := (List.getElem?_eq_some_iff.1 hx).1
 have hgd : M.getD i [] = x := by rw [List.getD_eq_getElem?_getD, hx]; rfl
 have hc2 := h2.cellAt (g := g) i (by omega)
 refine ⟨[vs.getD i undef], rfl, fun j u hu => ?_, ?_⟩
 ·cases j with
  | succ j => simp at hu
  | zero =>
    simp at hu; subst hu
    rw [Nat.mul_one, Nat.add_zero, Nat.zero_add, hc2, List.getElem?_eq_getElem (show i < vs.length by omega)]; rfl
 ·have := (h3 i hil).1
  rw [hgd] at this
  exact zbi rfl this (hs x (List.mem_of_getElem? hx))
theorem zu {w : World} {base n : Nat} {e : TypeId} {sz : Nat} {v : Value} {xs : List Value} (h : w.ownsRow base e sz v n xs) : ∃ A c, v = .slice A n c := by
 rcases h.2 with ⟨rfl, rfl⟩ | ⟨g, cap, cur, rfl, _⟩
 ·exact ⟨none, 0, rfl⟩
 ·exact ⟨_, _, rfl⟩
def zac (e : TypeId) (base : Nat) (w w' : World) : Prop := ∀ g cur, base <= g -> w.heap[g]? = some (.cells cur e (0, 0)) -> w'.heap[g]? = w.heap[g]?
theorem zac.of_below {e : TypeId} {base : Nat} {w w' : World} (h : Below w.heap.size w w') : zac e base w w' := fun g cur hb hg => h.block g (Array.getElem?_eq_some_iff.1 hg).1
theorem zad {w w' : World} {base n : Nat} {e : TypeId} {sz : Nat} {v : Value} {xs : List Value} (h : w.ownsRow base e sz v n xs) (k : zac e base w w') : w'.ownsRow base e sz v n xs := by
 obtain ⟨h1, h2⟩ := h
 refine ⟨h1, ?_⟩
 rcases h2 with h2 | ⟨g, cap, cur, rfl, hbg, hg, r⟩
 ·exact .inl h2
 ·exact .inr ⟨g, cap, cur, rfl, hbg, (k g cur hbg hg).trans hg, r⟩
theorem zac.of_grown {w w' : World} {base base' n : Nat} {e e' : TypeId} {sz : Nat} {v : Value} {xs : List Value} (hg : w.grownBy w' v.ownBlock) (h : w.ownsRow base' e' sz v n xs) (hne : e ≠ e') : zac e base w w' := by
 intro g cur hb hgg
 refine hg.block g (Array.getElem?_eq_some_iff.1 hgg).1 (fun e1 => ?_)
 rcases h.2 with ⟨rfl, _⟩ | ⟨g', cap, cur', rfl, hbg, hg', _⟩
 ·cases e1
 ·simp only [Value.ownBlock, Option.some.injEq] at e1
  subst e1
  rw [hgg] at hg'
  injection hg' with hg'
  injection hg' with _ h2 _
  exact hne h2
theorem zaa {w : World} {base : Nat} {e : TypeId} {sz : Nat} {v : Value} {n : Nat} {xs : List Value} (h : w.ownsRow base e sz v n xs) :
  ∃ A c, v = .slice A n c /\ n <= c /\ c <= maxLen /\ (0 < n -> ∃ g, A = some ⟨g, 0, none⟩ /\ base <= g /\ g < w.heap.size /\ (∃ cur, w.heap[g]? = some (.cells cur e (0, 0)) /\ n * sz <= cur.size) /\ ∀ j, j < n * sz -> w.cell? ⟨g, j, none⟩ = xs[j]?) := by
 have hown := h
 obtain ⟨h1, h2⟩ := h
 rcases h2 with ⟨rfl, rfl⟩ | ⟨g, cap, cur, rfl, hbg, hg, hnc, hcm, hcs, htk⟩
 ·exact ⟨none, 0, rfl, by omega, by simp [maxLen], fun h => by omega⟩
 ·exact ⟨_, cap, rfl, hnc, hcm, fun h0 => ⟨g, rfl, hbg, (hown.lt g rfl).2, ⟨cur, hg, by rw [hcs]; exact Nat.mul_le_mul_right _ hnc⟩, fun j hj => hown.cellAt (g := g) j hj⟩⟩
theorem zR {e : TypeId} {base b k : Nat} {w : World} {v : Value} (h : b < base) : zac e base w (w.setCell ⟨b, k, none⟩ v) := fun g cur hg _ => Below.heap_setCell _ _ _ g (by simp; omega)
theorem zbt {w : World} {B : Nat} {A : Option Addr} {n c : Nat} {l : List (List ByteArray)} (h : zj 1 zO w B [.slice A n c] l) {k : Nat} (hk : k < l.length) :
  ∃ b off AM cM, A = some ⟨b, off, none⟩ /\ b < B /\ w.cell? ⟨b, off + k, none⟩ = some (.slice AM l[k].length cM) /\ zO w B [.slice AM l[k].length cM] l[k] := by
 obtain ⟨b, off, rfl, hb, es, hel, hcell, h3⟩ := h.at_ hk
 obtain ⟨AM, cM, rfl, -, -⟩ := h3.open_
 have := hcell 0 _ rfl
 rw [Nat.mul_one, Nat.add_zero] at this
 exact ⟨b, off, AM, cM, rfl, hb, this, h3⟩
theorem zfw {α : Type} {p : α -> Bool} {l : List α} {k : Nat} (h : k < l.length) (hn : p l[k] = false) : l.all p = false := List.all_eq_false.2 ⟨_, List.getElem_mem h, by rw [hn]; simp⟩
theorem zdp {α : Type} {p : α -> Bool} {l : List α} (h : ∀ j (h : j < l.length), p l[j] = true) : l.all p = true := List.all_eq_true.2 (fun x hx => by
 obtain ⟨j, hj, rfl⟩ := List.mem_iff_getElem.1 hx
 exact h j hj)
theorem zhs {α : Type} {p : α -> Bool} {l : List α} {k : Nat} (hall : ∀ j (h : j < l.length), j < k -> p l[j] = true) (hk : k < l.length) (h : p l[k] = true) : ∀ j (h : j < l.length), j < k + 1 -> p l[j] = true := fun j hj hjk => by
 by_cases e : j = k
 ·subst e; exact h
 ·exact hall j hj (by omega)
theorem zj7 {w : World} {B : Nat} {v : Value} {p : List ByteArray} (h : zO w B [v] p) : p.length <= 9223372036854775807 := by
 obtain ⟨A, c, -, h1, h2⟩ := h.open_
 omega
theorem zdG {α : Type} {k m : Nat} {R : Rd α} {w : World} {B : Nat} {A : Option Addr} {c : Nat} {l : List α} (h : zj k R w B [.slice A l.length c] l) :
  ∃ n : Nat, n = (l.take m).length /\ zj k R w B [.slice A n c] (l.take m) /\ (((m : Int) < (l.length : Int) /\ m <= l.length /\ n = m) \/ (¬ (m : Int) < (l.length : Int) /\ n = l.length)) := by
 by_cases hm : m < l.length
 ·exact ⟨m, by rw [List.length_take]; omega, h.head_ (by omega), .inl ⟨by omega, by omega, rfl⟩⟩
 ·exact ⟨l.length, by rw [List.length_take]; omega, by rw [List.take_of_length_le (by omega)]; exact h, .inr ⟨by omega, rfl⟩⟩
theorem zfh {w : World} {B : Nat} {A : Option Addr} {n c : Nat} {l : List DimX} (h : zj 2 zee w B [.slice A n c] l) {k : Nat} (hk : k < l.length) :
  ∃ b off AL cL, A = some ⟨b, off, none⟩ /\ b < B /\ w.cell? ⟨b, off + k * 2, none⟩ = some (.string l[k].1) /\ w.cell? ⟨b, off + k * 2 + 1, none⟩ = some (.slice AL l[k].2.length cL) /\ zO w B [.slice AL l[k].2.length cL] l[k].2 /\ l[k].1.size <= maxLen := by
 obtain ⟨b, off, rfl, hb, es, hel, hcell, hl1, ⟨ex, hsz⟩, hlv⟩ := h.at_ hk
 obtain ⟨AL, cL, eL, -, -⟩ := hlv.open_
 obtain rfl : es = [.string l[k].1, .slice AL l[k].2.length cL] := by
  rw [<- List.take_append_drop 1 es, ex, eL]; rfl
 exact ⟨b, off, AL, cL, rfl, hb, hcell 0 _ rfl, hcell 1 _ rfl, hlv, hsz⟩
theorem zmZ {w : World} {B : Nat} {A : Option Addr} {n c : Nat} {l : List (List Int)} (h : zj 1 zC w B [.slice A n c] l) {k : Nat} (hk : k < l.length) :
  ∃ b off AM cM, A = some ⟨b, off, none⟩ /\ b < B /\ w.cell? ⟨b, off + k, none⟩ = some (.slice AM l[k].length cM) /\ zC w B [.slice AM l[k].length cM] l[k] := by
 obtain ⟨b, off, rfl, hb, es, hel, hcell, h3⟩ := h.at_ hk
 obtain ⟨AM, cM, rfl, -, -⟩ := h3.open_
 have := hcell 0 _ rfl
 rw [Nat.mul_one, Nat.add_zero] at this
 exact ⟨b, off, AM, cM, rfl, hb, this, h3⟩
end Go.Proofs.YtgoapnkdcfcjgaaGreat
namespace Go.Proofs.YtgoapnkdcfcjgaaGreat
open Go.ChangeShapes Go.WideShapes Go.ChangeAt Go.RowKit Go.Deep
theorem zdj : zbR Tryz.prog 23 1 zO := zaW (e := 9) zdO Tryz.underlying23 (zhP Tryz.underlying9 (by kernel_rfl)) (by kernel_rfl) (by omega)
theorem zdw : zbR Tryz.prog 27 1 zC := zaW (e := 3) zcW Tryz.underlying27 (ze7 Tryz.underlying3 (by kernel_rfl)) (by kernel_rfl) (by omega)
theorem zev : zbR Tryz.prog 58 1 (zj 1 zO) := zaW (e := 23) zQ Tryz.underlying58 zdj (by kernel_rfl) (by omega)
end Go.Proofs.YtgoapnkdcfcjgaaGreat
namespace Go.Proofs.YtgoapnkdcfcjgaaGreat
open Go.ChangeShapes Go.WideShapes Go.ChangeAt Go.RowKit
end Go.Proofs.YtgoapnkdcfcjgaaGreat
