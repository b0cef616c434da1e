/- 9 texts of this claim, in build order. -/
import Derived.Test.YtgoapnkdcfcjgaaGreatPplomcpim
import Derived.Test.YtgoapnkdcfcjgaaGreatPbdfgmcpj
import Derived.Test.YtgoapnkdcfcjgaaGreatPgdmeddkk
import Derived.Maps.OwnSet
import Derived.Maps.RangeWalk
import Derived.DeepKeys4
import Derived.Test.YtgoapnkdcfcjgaaGreatPcjenhmkf
import Derived.Test.YtgoapnkdcfcjgaaGreatPeeedofao
set_option linter.unusedVariables false
set_option linter.unusedSimpArgs false
namespace Go.Proofs.YtgoapnkdcfcjgaaGreat
open Go.ChangeShapes Go.WideShapes Go.ChangeAt Go.RowKit
def RowI (w : World) (base : Nat) (out : Value) (M : List (List Int)) : Prop :=
 ∃ vs : List Value, ∃ hl : vs.length = M.length, w.ownsRow base 27 1 out M.length vs /\
  ∀ j (h : j < M.length), w.ownsRow base 3 1 (vs[j]'(by omega)) M[j].length (zk M[j])
theorem RowI.nil_ (w : World) (base : Nat) : RowI w base (.slice none 0 0) [] := ⟨[], rfl, World.ownsRow_nil _ _ _ _, fun j hj => by simp at hj⟩
theorem RowI.less {w : World} {base base' : Nat} {out : Value} {M : List (List Int)} (h : RowI w base out M) (hb : base' <= base) : RowI w base' out M := by
 obtain ⟨vs, h1, h2, h3⟩ := h
 exact ⟨vs, h1, zw h2 hb, fun j hj => zw (h3 j hj) hb⟩
theorem RowI.keepT {w w' : World} {base : Nat} {out : Value} {M : List (List Int)} (h : RowI w base out M) (k : ∀ e, zac e base w w') : RowI w' base out M := by
 obtain ⟨vs, h1, h2, h3⟩ := h
 exact ⟨vs, h1, zad h2 (k _), fun j hj => zad (h3 j hj) (k _)⟩
theorem RowI.on {w w' : World} {base : Nat} {out : Value} {M : List (List Int)} (h : RowI w base out M) (hb : Below w.heap.size w w') : RowI w' base out M := h.keepT (fun _ => zac.of_below hb)
theorem RowI.app {wa w4 : World} {base : Nat} {out v' u : Value} {M : List (List Int)} {x : List Int} {vs : List Value} (h1 : vs.length = M.length) (h2 : wa.ownsRow base 27 1 out M.length vs)
  (h3 : ∀ j (h : j < M.length), wa.ownsRow base 3 1 (vs[j]'(by omega)) M[j].length (zk M[j]))
  (hi : wa.ownsRow base 3 1 u x.length (zk x))
  (ho : w4.ownsRow base 27 1 v' (M.length + 1) (vs ++ [u])) (hg : wa.grownBy w4 out.ownBlock) : RowI w4 base v' (M ++ [x]) := by
 have kk : zac 3 base wa w4 := zac.of_grown hg h2 (by decide)
 refine ⟨vs ++ [u], by simp [h1], by rw [List.length_append]; exact ho, fun j hj => ?_⟩
 rcases Nat.lt_or_ge j M.length with hlt | hge
 ·have e1 : (vs ++ [u])[j]'(by simp; omega) = vs[j]'(by omega) := List.getElem_append_left (by omega)
  have e2 : (M ++ [x])[j] = M[j] := List.getElem_append_left hlt
  rw [e1, e2]
  exact zad (h3 j hlt) kk
 ·obtain rfl : j = M.length := by rw [List.length_append] at hj; simp at hj; omega
  have e1 : (vs ++ [u])[M.length]'(by simp; omega) = u := by rw [List.getElem_append_right (by omega)]; simp [h1]
  have e2 : (M ++ [x])[M.length] = x := by rw [List.getElem_append_right (by omega)]; simp
  rw [e1, e2]
  exact zad hi kk
theorem RowI.rows {w : World} {base : Nat} {out : Value} {M : List (List Int)} (h : RowI w base out M) (hs : ∀ l ∈ M, ∀ n ∈ l, za4 n) : zj 1 zC w w.heap.size [out] M := by
 obtain ⟨vs, h1, h2, h3⟩ := h
 obtain ⟨A, c, rfl, g1, g2, g3⟩ := zaa h2
 refine ⟨A, c, rfl, g1, g2, fun h0 => ?_⟩
 obtain ⟨g, rfl, -, hg, -, hcell⟩ := g3 h0
 refine ⟨g, 0, rfl, hg, fun i x hx => ?_⟩
 have hil := (List.getElem?_eq_some_iff.1 hx).1
 have hxe : M[i] = x := by rw [List.getElem?_eq_getElem hil] at hx; injection hx
 have hint := h3 i hil
 rw [hxe] at hint
 refine ⟨[vs[i]'(by omega)], rfl, fun j u hu => ?_, zaA rfl hint (hs x (hxe ▸ List.getElem_mem hil))⟩
 have hj : j < 1 := (List.getElem?_eq_some_iff.1 hu).1
 obtain rfl : j = 0 := by omega
 simp at hu
 rw [Nat.zero_add, Nat.mul_one, Nat.add_zero, hcell i (by omega), List.getElem?_eq_getElem (by omega), hu]
theorem zcl (w : World) (vs : Array Value) (t : TypeId) {N : Nat} (hN : w.heap.size = N) : ∀ j u, vs.toList[j]? = some u -> (w.alloc (.cells vs t)).cell? ((⟨N, 0, none⟩ : Addr).add j) = some u := by
 subst hN
 intro j u hu
 have e : (⟨w.heap.size, 0, none⟩ : Addr).add j = ⟨w.heap.size, j, none⟩ := by unfold Addr.add; split <;> simp_all
 rw [e, World.cell?_alloc_at _ _ _ _ rfl]
 simpa using hu
theorem zps : (Tryz.prog.info? 54).map (fun i => (i.zero, i.size, i.bytes)) = some (some (.agg #[.string ByteArray.empty, .slice none 0 0]), 2, 40) := by kernel_rfl
def dim2 (x : DimX × Value) : List Value := [.string x.1.1, x.2]
def DRow (w : World) (base : Nat) (out : Value) (M : List DimX) : Prop :=
 ∃ es : List (DimX × Value), es.map Prod.fst = M /\ w.ownsRow base 54 2 out M.length (es.flatMap dim2) /\ ∀ x ∈ es, w.ownsRow base 9 1 x.2 x.1.2.length (zL x.1.2)
theorem DRow.nil_ (w : World) (base : Nat) : DRow w base (.slice none 0 0) [] := ⟨[], rfl, World.ownsRow_nil _ _ _ _, fun x hx => by cases hx⟩
theorem DRow.less {w : World} {base base' : Nat} {out : Value} {M : List DimX} (h : DRow w base out M) (hb : base' <= base) : DRow w base' out M := by
 obtain ⟨es, h1, h2, h3⟩ := h
 exact ⟨es, h1, zw h2 hb, fun x hx => zw (h3 x hx) hb⟩
theorem DRow.keepT {w w' : World} {base : Nat} {out : Value} {M : List DimX} (h : DRow w base out M) (k1 : zac 54 base w w') (k2 : zac 9 base w w') : DRow w' base out M := by
 obtain ⟨es, h1, h2, h3⟩ := h
 exact ⟨es, h1, zad h2 k1, fun x hx => zad (h3 x hx) k2⟩
theorem DRow.on {w w' : World} {base : Nat} {out : Value} {M : List DimX} (h : DRow w base out M) (hb : Below w.heap.size w w') : DRow w' base out M := h.keepT (zac.of_below hb) (zac.of_below hb)
theorem DRow.app {wa w4 : World} {base n : Nat} {out v' : Value} {M : List DimX} {es : List (DimX × Value)} {x : DimX × Value} (hn : n = M.length) (h1 : es.map Prod.fst = M) (h2 : wa.ownsRow base 54 2 out n (es.flatMap dim2))
  (h3 : ∀ x ∈ es, wa.ownsRow base 9 1 x.2 x.1.2.length (zL x.1.2)) (hx : wa.ownsRow base 9 1 x.2 x.1.2.length (zL x.1.2))
  (ho : w4.ownsRow base 54 2 v' (n + 1) (es.flatMap dim2 ++ dim2 x)) (hg : wa.grownBy w4 out.ownBlock) : DRow w4 base v' (M ++ [x.1]) := by
 subst hn
 have kk : zac 9 base wa w4 := zac.of_grown hg h2 (by decide)
 refine ⟨es ++ [x], by rw [List.map_append, h1]; rfl, by rw [List.length_append, List.flatMap_append]; simpa using ho, fun y hy => ?_⟩
 rcases List.mem_append.1 hy with hy | hy
 ·exact zad (h3 y hy) kk
 ·rw [List.mem_singleton] at hy
  subst hy
  exact zad hx kk
theorem znj : ∀ {es : List (DimX × Value)} {k j : Nat} (hk : k < es.length), j < 2 -> (es.flatMap dim2)[k * 2 + j]? = (dim2 es[k])[j]? := by
 intro es
 induction es with
 | nil => intro k j hk; simp at hk
 | cons x es ih =>
   intro k j hk hj
   rw [List.flatMap_cons]
   cases k with
   | zero => rw [Nat.zero_mul, Nat.zero_add, List.getElem?_append_left (by show j < 2; exact hj)]; rfl
   | succ k =>
     rw [List.getElem?_append_right (by show 2 <= _; omega), show (k + 1) * 2 + j - (dim2 x).length = k * 2 + j by show _ - 2 = _; omega]
     exact ih (by simpa using hk) hj
theorem DRow.rows {w : World} {base : Nat} {out : Value} {M : List DimX} (h : DRow w base out M) (hs : ∀ d ∈ M, d.1.size <= maxLen /\ ∀ x ∈ d.2, x.size <= maxLen) : zj 2 zee w w.heap.size [out] M := by
 obtain ⟨es, rfl, h2, h3⟩ := h
 rw [List.length_map] at h2
 obtain ⟨A, c, rfl, g1, g2, g3⟩ := zaa h2
 refine ⟨A, c, by rw [List.length_map], by rw [List.length_map]; exact g1, g2, fun h0 => ?_⟩
 rw [List.length_map] at h0
 obtain ⟨g, rfl, -, hg, -, hcell⟩ := g3 h0
 refine ⟨g, 0, rfl, hg, fun i x hx => ?_⟩
 have hil : i < es.length := by have := (List.getElem?_eq_some_iff.1 hx).1; rwa [List.length_map] at this
 have hxe : es[i].1 = x := by rw [List.getElem?_map, List.getElem?_eq_getElem hil] at hx; injection hx
 subst hxe
 have hin := hs _ (List.mem_map.2 ⟨es[i], List.getElem_mem hil, rfl⟩)
 refine ⟨dim2 es[i], rfl, fun j u hu => ?_, rfl, ⟨rfl, hin.1⟩, zbi rfl (h3 _ (List.getElem_mem hil)) hin.2⟩
 have hj : j < 2 := (List.getElem?_eq_some_iff.1 hu).1
 rw [Nat.zero_add, hcell (i * 2 + j) (by omega), znj hil hj, hu]
def SchO (w : World) (base : Nat) (v1 v2 v3 : Value) (s : ze) : Prop :=
 DRow w base v1 s.1 /\ w.ownsRow base 9 1 v2 s.2.1.length (zL s.2.1) /\ RowI w base v3 s.2.2
def zoi (s : ze) : Prop := (∀ d ∈ s.1, d.1.size <= maxLen /\ ∀ x ∈ d.2, x.size <= maxLen) /\ (∀ x ∈ s.2.1, x.size <= maxLen) /\ ∀ l ∈ s.2.2, ∀ n ∈ l, za4 n
theorem SchO.rd {w : World} {base : Nat} {v1 v2 v3 : Value} {s : ze} (h : SchO w base v1 v2 v3 s) (hs : zoi s) : zD w w.heap.size (.agg #[v1, v2, v3]) s := by
 obtain ⟨h1, h2, h3⟩ := h
 have r1 := h1.rows hs.1
 have r2 := zbi rfl h2 hs.2.1
 have r3 := h3.rows hs.2.2
 obtain ⟨A1, c1, e1, -, -⟩ := r1.open_
 obtain ⟨A2, c2, e2, -, -⟩ := r2.open_
 obtain ⟨A3, c3, e3, -, -⟩ := r3.open_
 simp only [List.cons.injEq, and_true] at e1 e2 e3
 subst e1; subst e2; subst e3
 exact ⟨A1, c1, A2, c2, A3, c3, rfl, r1, r2, r3⟩
theorem zmU {w : World} {B : Nat} {v : Value} {l : List ByteArray} (h : zO w B [v] l) : ∀ x ∈ l, x.size <= maxLen := (zbP h).2
theorem zD.in_ {w : World} {B : Nat} {v : Value} {s : ze} (h : zD w B v s) : zoi s := by
 obtain ⟨A1, c1, A2, c2, A3, c3, rfl, h1, h2, h3⟩ := h
 refine ⟨fun d hd => ?_, zmU h2, fun l hl n hn => ?_⟩
 ·obtain ⟨k, hk, rfl⟩ := List.mem_iff_getElem.1 hd
  obtain ⟨b, off, -, -, es, -, -, hr⟩ := h1.at_ hk
  obtain ⟨-, ⟨e1, hsz⟩, hlv⟩ := hr
  obtain ⟨AL, cL, e, g1, g2⟩ := hlv.open_
  rw [e] at hlv
  exact ⟨hsz, zmU hlv⟩
 ·obtain ⟨k, hk, rfl⟩ := List.mem_iff_getElem.1 hl
  obtain ⟨b, off, -, -, es, -, -, hr⟩ := h3.at_ hk
  obtain ⟨AL, cL, e, g1, g2⟩ := hr.open_
  rw [e] at hr
  obtain ⟨j, hj, rfl⟩ := List.mem_iff_getElem.1 hn
  obtain ⟨_, _, _, _, _, h⟩ := zbW hr hj
  exact h
def zb5 (w : World) (E : Nat -> Prop) (v : Value) (c : zp) : Prop :=
 ∃ v1 v2 v3, v = .agg #[.int .i64 c.n, v1, v2, v3] /\ SlE w E v1 (zk c.s) /\ SlE w E v2 (zk c.lo) /\ SlE w E v3 (zk c.hi)
theorem zb5.kept {w w' : World} {E : Nat -> Prop} {v : Value} {c : zp} (h : zb5 w E v c) (k : Kept E w w') : zb5 w' E v c := by
 obtain ⟨v1, v2, v3, e, h1, h2, h3⟩ := h
 exact ⟨v1, v2, v3, e, h1.kept k, h2.kept k, h3.kept k⟩
theorem zb5.mono {w : World} {E E' : Nat -> Prop} {v : Value} {c : zp} (h : zb5 w E v c) (k : ∀ i, E i -> E' i) : zb5 w E' v c := by
 obtain ⟨v1, v2, v3, e, h1, h2, h3⟩ := h
 exact ⟨v1, v2, v3, e, h1.mono k, h2.mono k, h3.mono k⟩
theorem zb5.read {w : World} {E : Nat -> Prop} {v : Value} {c : zp} (h : zb5 w E v c) : zaZ w w.heap.size v c := by
 obtain ⟨v1, v2, v3, e, h1, h2, h3⟩ := h
 exact ⟨v1, v2, v3, e, h1.sl, h2.sl, h3.sl⟩
theorem SlE.of_sl {w : World} {E : Nat -> Prop} {B : Nat} {v : Value} {xs : List Value} (h : Sl w B v xs) (hE : ∀ k, k < B -> E k) : SlE w E v xs := by
 obtain ⟨A, c, e, h1, h2, h3⟩ := h
 refine ⟨A, c, e, h1, h2, fun h0 => ?_⟩
 obtain ⟨b, off, e2, hb, hc⟩ := h3 h0
 exact ⟨b, off, e2, hE b hb, hc⟩
theorem zb5.of_own {w : World} {H : Nat} {v : Value} {c : zp} (h : OwnC w H v c) : zb5 w (fun k => H <= k /\ k < w.heap.size) v c := by
 obtain ⟨v1, v2, v3, e, h1, h2, h3, -, -⟩ := h
 exact ⟨v1, v2, v3, e, SlE.of_own h1 (fun g hg => h1.lt g hg), SlE.of_own h2 (fun g hg => h2.lt g hg), SlE.of_own h3 (fun g hg => h3.lt g hg)⟩
abbrev E5 := Value × Int × Value × Value × Value
def e5 (x : E5) : List Value := [x.1, .int .i64 x.2.1, x.2.2.1, x.2.2.2.1, x.2.2.2.2]
def z5 : E5 := (.slice none 0 0, 0, .slice none 0 0, .slice none 0 0, .slice none 0 0)
def zK : KC := ([], nilC)
end Go.Proofs.YtgoapnkdcfcjgaaGreat
namespace Go.Proofs.YtgoapnkdcfcjgaaGreat
open Go.ChangeShapes Go.WideShapes Go.ChangeAt Go.RowKit Go.Maps
def keyV (a b c : Int) : Value := .agg #[.int .i64 a, .int .i64 b, .int .i64 c]
def keyT (k : List Int) : Value := keyV (k.getD 0 0) (k.getD 1 0) (k.getD 2 0)
theorem zbs : Keyed Tryz.prog 149 := Keyed.of_law (deep_law_laid zjf (m := 3) (by omega) (of_decide_eq_true (by kernel_rfl)) (by kernel_rfl) (by rw [Tryz.underlying149]))
def keyL (a b c : Int) : Lit := .string (keyBytes [.int .i64 a, .int .i64 b, .int .i64 c])
theorem wf64 {a : Int} (h : -9223372036854775808 <= a /\ a <= 9223372036854775807) : (Lit.int .i64 a).wf = true := WalkArith.wf_i64 h
theorem zfg (a b c : Value) (d : Nat) : Tryz.prog.keyLits (d + 1) 149 [a, b, c] = ((Tryz.prog.keyLits d 3 [a]).bind fun x => (Tryz.prog.keyLits d 3 [b]).bind fun y => (Tryz.prog.keyLits d 3 [c]).bind fun z => some (x ++ (y ++ z))) := by
 have hc : Tryz.prog.cellsOf 149 = 3 := by kernel_rfl
 have hci : Tryz.prog.cellsOf 3 = 1 := by kernel_rfl
 conv => lhs; unfold Program.keyLits
 rw [Tryz.underlying149]
 simp only
 rw [if_pos (by rw [hc]; rfl), hci]
 have hr : List.range 3 = [0, 1, 2] := by decide
 rw [hr]
 simp only [List.mapM_cons, List.mapM_nil]
 simp
 cases Tryz.prog.keyLits d 3 [a] <;> cases Tryz.prog.keyLits d 3 [b] <;> cases Tryz.prog.keyLits d 3 [c] <;> simp
theorem zbq (v : Value) (d : Nat) : Tryz.prog.keyLits (d + 1) 3 [v] = match v with | .int q' n => if q' = .i64 /\ (Lit.int .i64 n).wf = true then some [.int .i64 n] else none | _ => none := by
 unfold Program.keyLits
 rw [Tryz.underlying3]
 cases v <;> rfl
theorem key_of {a b c : Int} (ha : -9223372036854775808 <= a /\ a <= 9223372036854775807) (hb : -9223372036854775808 <= b /\ b <= 9223372036854775807) (hc : -9223372036854775808 <= c /\ c <= 9223372036854775807) : keyOf Tryz.prog 149 (keyV a b c) = some (keyL a b c) := by
 have hk : Tryz.prog.keyType 149 = true := by kernel_rfl
 have hcc : Tryz.prog.cellsOf 149 = 3 := by kernel_rfl
 have hf : (keyV a b c).formed Tryz.prog 149 = true := by simp [Value.formed, keyV, Tryz.underlying149, hcc]
 obtain ⟨n, hn⟩ : ∃ n, Tryz.prog.types.size + 1 = n + 1 + 1 := ⟨Tryz.prog.types.size - 1, by
  have : 0 < Tryz.prog.types.size := of_decide_eq_true (by kernel_rfl)
  omega⟩
 unfold keyOf
 rw [Tryz.underlying149]
 simp only [hk, hf, hn]
 have e0 : (keyV a b c).cells.toList = [.int .i64 a, .int .i64 b, .int .i64 c] := rfl
 rw [e0, zfg, zbq, zbq, zbq]
 simp [wf64 ha, wf64 hb, wf64 hc, keyL]
set_option maxRecDepth 100000 in
theorem zmQ {v : Value} {kl : Lit} (h : keyOf Tryz.prog 149 v = some kl) : ∃ a b c : Int, v = keyV a b c := by
 have hcc : Tryz.prog.cellsOf 149 = 3 := by kernel_rfl
 obtain ⟨n, hn⟩ : ∃ n, Tryz.prog.types.size + 1 = n + 1 + 1 := ⟨Tryz.prog.types.size - 1, by
  have : 0 < Tryz.prog.types.size := of_decide_eq_true (by kernel_rfl)
  omega⟩
 unfold keyOf at h
 rw [Tryz.underlying149] at h
 simp only at h
 rw [hn] at h
 by_cases hf : (Tryz.prog.keyType 149 && v.formed Tryz.prog 149) = true
 ·rw [if_pos hf] at h
  rw [Bool.and_eq_true] at hf
  have hfo := hf.2
  cases v with
  | agg cs =>
    simp only [Value.formed, Tryz.underlying149, hcc] at hfo
    have hsz : cs.size = 3 := by simpa using hfo
    obtain ⟨x, y, z, rfl⟩ : ∃ x y z, cs = #[x, y, z] := by
     obtain ⟨l⟩ := cs
     match l, hsz with
     | [x, y, z], _ => exact ⟨x, y, z, rfl⟩
    have e0 : (Value.agg #[x, y, z]).cells.toList = [x, y, z] := rfl
    rw [e0, zfg, zbq, zbq, zbq] at h
    cases x with
    | int qx a => cases y with
      | int qy b => cases z with
        | int qz c =>
          simp only at h
          by_cases h1 : qx = .i64 /\ (Lit.int .i64 a).wf = true
          ·by_cases h2 : qy = .i64 /\ (Lit.int .i64 b).wf = true
           ·by_cases h3 : qz = .i64 /\ (Lit.int .i64 c).wf = true
            ·exact ⟨a, b, c, by rw [h1.1, h2.1, h3.1]; rfl⟩
            ·simp [h1, h2, h3] at h
           ·simp [h1, h2] at h
          ·simp [h1] at h
        | _ => simp at h
      | _ => simp at h
    | _ => simp at h
  | _ => simp [Value.formed, Tryz.underlying149] at hfo
 ·rw [if_neg hf] at h
  cases h
end Go.Proofs.YtgoapnkdcfcjgaaGreat
namespace Go.Proofs.YtgoapnkdcfcjgaaGreat
open Go.ChangeShapes Go.WideShapes Go.ChangeAt Go.RowKit
theorem zb5.lit {w : World} {E : Nat -> Prop} {v : Value} {c : zp} (h : zb5 w E v c) : ∃ A1 c1 A2 c2 A3 c3, v = .agg #[.int .i64 c.n, .slice A1 c.s.length c1, .slice A2 c.lo.length c2, .slice A3 c.hi.length c3] := by
 obtain ⟨v1, v2, v3, e, h1, h2, h3⟩ := h
 obtain ⟨A1, c1, rfl, -, -⟩ := h1.sl.formI
 obtain ⟨A2, c2, rfl, -, -⟩ := h2.sl.formI
 obtain ⟨A3, c3, rfl, -, -⟩ := h3.sl.formI
 exact ⟨A1, c1, A2, c2, A3, c3, e⟩
def getC (L : List KC) (k : List Int) : zp := (getK L k).getD nilC
theorem zb5.nil_ {w : World} {E : Nat -> Prop} : zb5 w E (.agg #[.int .i64 0, .slice none 0 0, .slice none 0 0, .slice none 0 0]) nilC := by
 have h : SlE w E (.slice none 0 0) (zk []) := ⟨none, 0, rfl, by simp [zk], by simp [maxLen], by simp [zk]⟩
 exact ⟨_, _, _, rfl, h, h, h⟩
end Go.Proofs.YtgoapnkdcfcjgaaGreat
namespace Go.Proofs.YtgoapnkdcfcjgaaGreat
open Go.ChangeShapes Go.WideShapes Go.ChangeAt Go.RowKit Go.Maps
open Go.ChangeMaps Go.MapKept
def zd7 : Value -> Option (DataW Value × List MemPlace) := fun v => some (.held v, [])
def zcx (k : List Int) : Lit := keyL (k.getD 0 0) (k.getD 1 0) (k.getD 2 0)
theorem zjF {W : Nat} {k : List Int} (h : okK W k) (i : Nat) : 0 <= k.getD i 0 /\ k.getD i 0 <= 40 := by
 rw [List.getD_eq_getElem?_getD]
 rcases Nat.lt_or_ge i k.length with hi | hi
 ·rw [List.getElem?_eq_getElem hi]
  exact h.2 _ (List.getElem_mem hi)
 ·rw [List.getElem?_eq_none hi]; simp
theorem zck {W : Nat} {k : List Int} (h : okK W k) : keyOf Tryz.prog 149 (keyT k) = some (zcx k) := by
 have h0 := zjF h 0; have h1 := zjF h 1; have h2 := zjF h 2
 exact key_of (by omega) (by omega) (by omega)
theorem zpL {W : Nat} {k k' : List Int} (h : okK W k) (h' : okK W k') (hW : W <= 3) (e : keyT k = keyT k') : k = k' := by
 unfold keyT keyV at e
 simp only [Value.agg.injEq, Array.mk.injEq, List.cons.injEq, Value.int.injEq, true_and, and_true] at e
 obtain ⟨e0, e1, e2⟩ := e
 apply List.ext_getElem
 ·rw [h.1, h'.1]
 ·intro i h1 h2
  have hi : i < 3 := by have := h.1; omega
  have q : k.getD i 0 = k'.getD i 0 := by
   obtain rfl | rfl | rfl : i = 0 \/ i = 1 \/ i = 2 := by omega
   ·exact e0
   ·exact e1
   ·exact e2
  rwa [List.getD_eq_getElem?_getD, List.getD_eq_getElem?_getD, List.getElem?_eq_getElem h1, List.getElem?_eq_getElem h2] at q
theorem zfV {W : Nat} {k k' : List Int} (h : okK W k) (h' : okK W k') (hW : W <= 3) (e : zcx k = zcx k') : k = k' :=
 zpL h h' hW (zbs.inj (zck h) (by rw [e]; exact zck h'))
theorem zgS {W : Nat} {k : List Int} (h : okK W k) : WideAt.IsKeyLit (zcx k) := zbs.key (zck h)
theorem zlJ (w : World) : (zeroValue 125).run Tryz.prog w = .ok (.agg #[.int .i64 0, .slice none 0 0, .slice none 0 0, .slice none 0 0]) w := by kernel_rfl
def MapK (w : World) (E : Nat -> Prop) (m W : Nat) (L : List KC) : Prop :=
 ∃ D : DataW Value, w.ownsMap Tryz.prog 149 zd7 m L.length D /\ Maps.size D = L.length /\
  (∀ k, okK W k -> Maps.has D (zcx k) = (getK L k).isSome) /\ (∀ x ∈ L, ∃ v, (∀ z, D.atKey (zcx x.1) z = .held v) /\ zb5 w E v x.2) /\ ∀ kl, Maps.has D kl = true -> ∃ x ∈ L, kl = zcx x.1
theorem MapK.kept {w w' : World} {E : Nat -> Prop} {m W : Nat} {L : List KC} (h : MapK w E m W L) (hm : w'.heap[m]? = w.heap[m]?) (hk : Kept E w w') : MapK w' E m W L := by
 obtain ⟨D, ⟨es, clock, hb, r⟩, h2, h3, h4, h5⟩ := h
 refine ⟨D, ⟨es, clock, hm.trans hb, r⟩, h2, h3, fun x hx => ?_, h5⟩
 obtain ⟨v, a, b⟩ := h4 x hx
 exact ⟨v, a, b.kept hk⟩
theorem MapK.mono {w : World} {E E' : Nat -> Prop} {m W : Nat} {L : List KC} (h : MapK w E m W L) (hE : ∀ i, E i -> E' i) : MapK w E' m W L := by
 obtain ⟨D, h1, h2, h3, h4, h5⟩ := h
 refine ⟨D, h1, h2, h3, fun x hx => ?_, h5⟩
 obtain ⟨v, a, b⟩ := h4 x hx
 exact ⟨v, a, b.mono hE⟩
theorem MapK.new (w : World) (E : Nat -> Prop) (W : Nat) : MapK (w.alloc (.map #[] 0)) E w.heap.size W [] :=
 ⟨.map [], World.ownsMap_made _ _ _ _, rfl, (fun k _ => rfl), (fun x hx => (by cases hx)), (fun kl h => (by simp [Maps.has] at h))⟩
theorem MapK.look {w : World} {E : Nat -> Prop} {m W : Nat} {L : List KC} (h : MapK w E m W L) {k : List Int} (hk : okK W k) :
  ∃ v, (Instr.lookup 102 (.map (some m)) (keyT k) true).run Tryz.prog w = .ok (.tuple #[v, .bool (getK L k).isSome]) w /\ zb5 w E v (getC L k) := by
 obtain ⟨D, h1, h2, h3, h4, h5⟩ := h
 obtain ⟨v, ps, hrun, hR⟩ := h1.look_ok zbs Tryz.underlying102 (zlJ w) (show zd7 _ = some (.held _, []) from rfl) (zck hk)
 rw [h3 k hk] at hrun
 refine ⟨v, hrun, ?_⟩
 have hv : DataW.held v = D.atKey (zcx k) (.held (.agg #[.int .i64 0, .slice none 0 0, .slice none 0 0, .slice none 0 0])) := by
  unfold zd7 at hR
  simpa using congrArg Prod.fst (Option.some.inj hR)
 cases hg : getK L k with
 | none =>
   rw [Maps.atKey_of_not_has (by rw [h3 k hk, hg]; rfl)] at hv
   injection hv with hv
   subst hv
   unfold getC; rw [hg]; exact zb5.nil_
 | some c =>
   obtain ⟨u, hu, hce⟩ := h4 _ (zbh hg)
   rw [hu] at hv
   injection hv with hv
   subst hv
   unfold getC; rw [hg]; exact hce
theorem zhK {w : World} {m n : Nat} {D : DataW Value} (h : w.ownsMap Tryz.prog 149 zd7 m n D) : w.ownsMap Tryz.prog 149 zd7 m (Maps.size D) D := by
 obtain ⟨es, clock, hb, F, hs, rfl⟩ := h
 exact ⟨es, clock, hb, F, by simp [Maps.size, length_sorted], rfl⟩
theorem zk6 {w w' : World} {m : Nat} (h : w.mapTurned w' m) : Upd m w w' := h.grown
theorem MapK.store {w : World} {E : Nat -> Prop} {m W : Nat} {L : List KC} (h : MapK w E m W L) (hok : ∀ x ∈ L, okK W x.1) (hs : ze5 L) (hW : W <= 3) (hL : L.length <= 1000000) (hm : ¬ E m) {k : List Int} (hk : okK W k) {v : Value} {c : zp} (hv : zb5 w E v c) :
  ∃ w', (Instr.mapUpdate 102 (.map (some m)) (keyT k) v).run Tryz.prog w = .ok () w' /\ MapK w' E m W (setK k c L) /\ Upd m w w' /\ w'.heap.size = w.heap.size /\ ∀ a, w'.frozen? a = w.frozen? a := by
 obtain ⟨D, h1, h2, h3, h4, h5⟩ := h
 obtain ⟨w', hrun, ho, ht⟩ := h1.store zbs Tryz.underlying102 (by unfold maxLen; omega) (zck hk) (show zd7 v = some (.held v, []) from rfl)
 have hu := zk6 ht
 have hkp : Kept E w w' := fun i hi => by
  obtain ⟨es, clock, es', clock', hb, rfl⟩ := ht
  exact heap_setBlock_other hb _ (fun e => hm (e ▸ hi))
 have hsz : Maps.size (D.put (zcx k) (.held v)) = (setK k c L).length := by
  rw [Maps.size_put (h1.tidy zbs), h3 k hk, h2, zeM hs]
 have ho' := zhK ho
 rw [hsz] at ho'
 refine ⟨w', hrun, ⟨D.put (zcx k) (.held v), ho', hsz, fun k' hk' => ?_, fun x hx => ?_, fun kl hkl => ?_⟩, hu, ?_, fun a => ht.frozen a⟩
 ·rw [zbX hs]
  by_cases e : k = k'
  ·subst e
   rw [Maps.has_put_same h1.isMap (zgS hk), if_pos rfl]; rfl
  ·rw [Maps.has_put_other (fun e' => e (zfV hk hk' hW e'.symm)), if_neg e]
   exact h3 k' hk'
 ·have hg := zba (zii hs k c) hx
  rw [zbX hs] at hg
  by_cases e : k = x.1
  ·rw [if_pos e] at hg
   injection hg with hg
   refine ⟨v, fun z => ?_, ?_⟩
   ·rw [<- e]; exact Maps.atKey_put_same h1.isMap (zgS hk) _ _
   ·rw [<- hg]; exact hv.kept hkp
  ·rw [if_neg e] at hg
   have hxm := zbh hg
   obtain ⟨u, hu', hce⟩ := h4 _ hxm
   exact ⟨u, fun z => by rw [Maps.atKey_put_other (fun e' => e (zfV hk (hok _ hxm) hW e'.symm))]; exact hu' z, hce.kept hkp⟩
 ·by_cases e : kl = zcx k
  ·refine ⟨(k, c), ?_, e⟩
   have := zbX hs k c k
   rw [if_pos rfl] at this
   exact zbh this
  ·rw [Maps.has_put_other e] at hkl
   obtain ⟨x, hx, rfl⟩ := h5 kl hkl
   have hne : k ≠ x.1 := fun e' => e (by rw [e'])
   have hg := zbX hs k c x.1
   rw [if_neg hne, zba hs hx] at hg
   exact ⟨x, zbh hg, rfl⟩
 ·obtain ⟨es, clock, es', clock', hb, rfl⟩ := ht
  simp [setBlock]
end Go.Proofs.YtgoapnkdcfcjgaaGreat
namespace Go.Proofs.YtgoapnkdcfcjgaaGreat
open Go.ChangeShapes Go.WideShapes Go.ChangeAt Go.RowKit Go.Maps
def zc9 (x : Int) : Bool := decide (0 <= x) && decide (x <= 40)
set_option maxRecDepth 100000 in
theorem zoV (x : Int) (w : World) : Calls Tryz.prog 126 #[.int .i64 x] w (za5 (.bool (zc9 x)) w) := by
 unfold zc9
 go_enter Tryz.func126, Tryz.ntmps126
 go_wp2
 all_goals go_ret
 all_goals refine ⟨zZ ?_, Qu.refl _⟩
 all_goals simp [*] <;> omega
set_option maxRecDepth 100000 in
theorem zmL (x : Int) (w : World) : Calls Tryz.prog 125 #[.int .i64 x] w (za5 (.bool (!zc9 x)) w) := by
 go_enter Tryz.func125, Tryz.ntmps125
 go_wp2_with fail
 refine (zoV _ _).mono ?_
 rintro e w1 ⟨rfl, hq⟩
 go_wp2
 go_ret
 exact ⟨rfl, hq⟩
def zqk (l : List Int) (w : World) (i : Value) (wr : World) : Prop := ∃ k : Nat, k <= l.length /\ i = .int .i64 k /\ (∀ x ∈ l.take k, zc9 x = true) /\ Qu w wr
theorem zf6 {l : List Int} {k : Nat} (h : ∀ x ∈ l.take k, zc9 x = true) (hk : k < l.length) (hx : zc9 (l.getD k 0) = true) : ∀ x ∈ l.take (k + 1), zc9 x = true := by
 intro x hm
 rw [zP l k hk] at hm
 rcases List.mem_append.1 hm with h' | h'
 ·exact h x h'
 ·simp at h'; rw [h']; exact hx
def IdxKP (l : List Int) (w : World) (e : Ending) (w' : World) : Prop := (∃ i : Int, e = .returned (.int .i64 i) /\ (decide (0 <= i)) = !(l.all fun x => zc9 x)) /\ Qu w w'
set_option maxRecDepth 100000 in
set_option maxHeartbeats 800000 in
theorem zj3 (v : Value) (l : List Int) (w : World) (B : Nat) (hv : Sl w B v (zk l)) :
  Calls Tryz.prog 119 #[v, .func (Fn.func 125) #[] #[]] w (IdxKP l w) := by
 obtain ⟨A1, c1, rfl, hc1, hm1⟩ := hv.formI
 unfold maxLen at hm1
 have S1 := hid hv; clear hv
 go_enter Tryz.func119, Tryz.ntmps119
 go_wp2
 go_loopw [8] (fun i wr => zqk l w i wr) (fun i _ => l.length - (intOf i).toNat)
 case atStart => exact ⟨0, by omega, rfl, by simp, Qu.refl _⟩
 case round =>
  obtain ⟨k, hk, rfl, hall, hq⟩ := hrel
  have HA := hid hall; clear hall
  by_cases hlt : k < l.length
  ·obtain ⟨b1, o1, rfl, hb1, hx1⟩ := S1.out.int hlt
   have g1 : wr.cell? ⟨b1, o1 + k, none⟩ = _ := (hq.cell _).trans hx1
   clear hx1
   have hm := zg9 hlt
   have hn := zf6 HA.out hlt
   generalize l.getD k 0 = x at *
   have HM := hid hm; have HN := hid hn; clear hm hn
   have hf := zmL x
   cases hb : zc9 x
   ·rw [hb] at hf
    have HF := hid hf; have HB := hid hb; clear hf hb
    go_wp2_with fail
    refine (HF.out _).mono ?_
    rintro e w1 ⟨rfl, hq1⟩
    go_wp2
    go_ret
    refine ⟨⟨_, rfl, ?_⟩, hq.trans hq1⟩
    rw [decide_eq_true (by omega)]
    symm
    rw [Bool.not_eq_true', <- Bool.not_eq_true, List.all_eq_true]
    intro h
    have := h x HM.out
    rw [HB.out] at this
    cases this
   ·rw [hb] at hf
    have HF := hid hf; have HB := hid hb; clear hf hb
    go_wp2_with fail
    refine (HF.out _).mono ?_
    rintro e w1 ⟨rfl, hq1⟩
    go_wp2
    go_roundw
    case rel => exact ⟨k + 1, by omega, by go_num, HN.out HB.out, hq.trans hq1⟩
    case measure => simp [intOf]; omega
  ·have := HA.out
   rw [List.take_of_length_le (by omega)] at this
   have HT := hid this; clear this
   go_wp2
   go_ret
   refine ⟨⟨_, rfl, ?_⟩, hq⟩
   rw [List.all_eq_true.2 (by simpa using HT.out)]
   rfl
set_option maxRecDepth 100000 in
theorem zdc (v : Value) (l : List Int) (w : World) (B : Nat) (hv : Sl w B v (zk l)) :
  Calls Tryz.prog 80 #[v, .func (Fn.func 125) #[] #[]] w (za5 (.bool (!(l.all fun x => zc9 x))) w) := by
 have HI := hid (fun W (hq : Qu w W) => zj3 v l W B (hv.qu' hq))
 clear hv
 go_enter Tryz.func80, Tryz.ntmps80
 go_wp2_with fail
 refine (HI.out _ (Qu.refl _)).mono ?_
 rintro e w1 ⟨⟨i, rfl, hi⟩, hq⟩
 go_wp2
 go_ret
 exact ⟨zZ (by rw [<- hi]), hq⟩
theorem zh7 (W : Nat) (k : List Int) : okB W k = (decide (k.length = W) && k.all zc9) := by
 have h : okK W k ↔ (decide (k.length = W) && k.all zc9) = true := by
  unfold okK
  simp [zc9, List.all_eq_true]
 unfold okB
 cases hb : (decide (k.length = W) && k.all zc9)
 ·exact decide_eq_false (fun e => by rw [h.1 e] at hb; cases hb)
 ·exact decide_eq_true (h.2 hb)
def CubW (w : World) (D : Nat -> Prop) (p m W M : Nat) (L : List KC) : Prop :=
 D p /\ D m /\ p ≠ m /\ (∀ k, D k -> k < w.heap.size) /\ w.cell? ⟨p, 0, none⟩ = some (.int .i64 W) /\ w.cell? ⟨p, 1, none⟩ = some (.int .i64 M) /\ w.cell? ⟨p, 2, none⟩ = some (.map (some m)) /\ MapK w (fun i => D i /\ i ≠ m) m W L
theorem CubW.kept {w w' : World} {D : Nat -> Prop} {p m W M : Nat} {L : List KC} (h : CubW w D p m W M L) (k : Kept D w w') (hs : w.heap.size <= w'.heap.size) : CubW w' D p m W M L := by
 obtain ⟨h1, h2, h3, h4, h5, h6, h7, h8⟩ := h
 exact ⟨h1, h2, h3, fun i hi => Nat.lt_of_lt_of_le (h4 i hi) hs, k.cell h1 h5, k.cell h1 h6, k.cell h1 h7, h8.kept (k m h2) (fun i hi => k i hi.1)⟩
theorem CubW.below {w w' : World} {D : Nat -> Prop} {p m W M : Nat} {L : List KC} (h : CubW w D p m W M L) (hb : Below w.heap.size w w') : CubW w' D p m W M L :=
 h.kept (fun k hk => hb.block k (h.2.2.2.1 k hk)) hb.size
def NewCP (W M : Nat) (w : World) (e : Ending) (w' : World) : Prop := ∃ p m D, e = .returned (.pointer (some ⟨p, 0, none⟩)) /\ CubW w' D p m W M [] /\ (∀ k, D k -> w.heap.size <= k) /\ Below w.heap.size w w'
set_option maxRecDepth 100000 in
theorem zgT (W M : Nat) (w : World) (h1 : 1 <= W) (h2 : W <= 3) (h3 : 1 <= M) (h4 : M <= 2) : Calls Tryz.prog 43 #[.int .i64 W, .int .i64 M] w (NewCP W M w) := by
 have hmm := @run_makeMap Tryz.prog
 go_enter Tryz.func43, Tryz.ntmps43
 go_wp2
 go_ret
 refine ⟨w.heap.size + 1, w.heap.size, (fun k => k = w.heap.size \/ k = w.heap.size + 1), rfl, ⟨.inr rfl, .inl rfl, by omega, ?_, by simp [go_sem], by simp [go_sem], by simp [go_sem], ?_⟩, ?_, zI⟩
 ·rintro k (rfl | rfl) <;> simp <;> omega
 ·obtain ⟨D, ⟨es, clock, hb, r⟩, h2, h3, h4, h5⟩ := MapK.new w (fun _ => False) W
  exact ⟨D, ⟨es, clock, (((Below.refl (w.alloc (.map #[] 0)).heap.size (w.alloc (.map #[] 0))).alloc (Nat.le_refl _) _).block _ (by simp)).trans hb, r⟩, h2, h3, (fun x hx => (by cases hx)), h5⟩
 ·rintro k (rfl | rfl) <;> omega
end Go.Proofs.YtgoapnkdcfcjgaaGreat
