/- 5 texts of this claim, in build order. -/
import Derived.Test.YtgoapnkdcfcjgaaGreatPommbaifj
import Derived.Test.YtgoapnkdcfcjgaaGreatPpojdkadl
import Derived.Maps.OwnSet
import Derived.DeepKeys4
import Derived.Deep.RegionLaw
set_option linter.unusedVariables false
set_option linter.unusedSimpArgs false
namespace Go.Proofs.YtgoapnkdcfcjgaaGreat
open Go.ChangeShapes Go.WideShapes Go.ChangeAt Go.RowKit
theorem zol : (Tryz.prog.info? 23).map (fun i => (i.zero, i.size, i.bytes)) = some (some (.slice none 0 0), 1, 24) := by kernel_rfl
theorem zpm : (Tryz.prog.info? 9).map (fun i => (i.zero, i.size, i.bytes)) = some (some (.string ByteArray.empty), 1, 16) := by kernel_rfl
def zfx (pl : List (List ByteArray)) (p : List ByteArray) (k : Nat) : List (List ByteArray) :=
 ((List.range k).map fun n => p.take (n + 1)).filter fun q => code pl q = 0
theorem zl0 (pl : List (List ByteArray)) (p : List ByteArray) (k : Nat) : zfx pl p (k + 1) = if code pl (p.take (k + 1)) = 0 then zfx pl p k ++ [p.take (k + 1)] else zfx pl p k := by
 unfold zfx
 rw [List.range_succ, List.map_append, List.filter_append]
 simp only [List.map_cons, List.map_nil, List.filter_cons, List.filter_nil]
 split <;> simp_all
theorem zhC (pl : List (List ByteArray)) (p : List ByteArray) (k : Nat) : (zfx pl p k).length <= k := by
 unfold zfx
 have := List.length_filter_le (fun q => decide (code pl q = 0)) ((List.range k).map fun n => p.take (n + 1))
 simpa using this
theorem zn3 (p : List ByteArray) : ∀ u ∈ zL p, u.oneCell' = true := by
 intro u hu
 obtain ⟨_, _, rfl⟩ := List.mem_map.1 hu
 rfl
def zfI (w : World) (H : Nat) (v : Value) (vs : List Value) (ms : List (List ByteArray)) : Prop :=
 vs.length = ms.length /\ (∀ u ∈ vs, u.oneCell' = true) /\ ∀ (i : Nat) (x : List ByteArray), ms[i]? = some x -> ∃ u, vs[i]? = some u /\ SlE w (fun g => H <= g /\ g < w.heap.size /\ v.ownBlock ≠ some g) u (zL x)
theorem zfI.snoc {w w2 : World} {H : Nat} {v v2 u : Value} {vs : List Value} {ms : List (List ByteArray)} {x : List ByteArray}
  (h : zfI w H v vs ms) (hk : Kept (fun g => H <= g /\ g < w.heap.size /\ v.ownBlock ≠ some g) w w2) (hs : w.heap.size <= w2.heap.size) (hv : ∀ g, g < w.heap.size -> v.ownBlock ≠ some g -> v2.ownBlock ≠ some g)
  (hu : u.oneCell' = true) (hx : SlE w2 (fun g => H <= g /\ g < w2.heap.size /\ v2.ownBlock ≠ some g) u (zL x)) : zfI w2 H v2 (vs ++ [u]) (ms ++ [x]) := by
 obtain ⟨h1, h2, h3⟩ := h
 refine ⟨by simp [h1], ?_, fun i y hy => ?_⟩
 ·intro y hy
  rcases List.mem_append.1 hy with h | h
  ·exact h2 y h
  ·simp at h; subst h; exact hu
 ·rcases Nat.lt_or_ge i ms.length with hi | hi
  ·rw [List.getElem?_append_left hi] at hy
   obtain ⟨z, hz, hsl⟩ := h3 i y hy
   refine ⟨z, by rw [List.getElem?_append_left (by omega)]; exact hz, (hsl.kept hk).mono fun g hg => ⟨hg.1, by omega, hv g hg.2.1 hg.2.2⟩⟩
  ·rw [List.getElem?_append_right hi] at hy
   have h0 : i - ms.length = 0 := by
    rcases Nat.eq_zero_or_pos (i - ms.length) with h | h
    ·exact h
    ·rw [List.getElem?_eq_none (by simp; omega)] at hy; cases hy
   rw [h0] at hy; simp at hy; subst hy
   exact ⟨u, by rw [List.getElem?_append_right (by omega), h1, h0]; rfl, hx⟩
theorem zfI.kept {w w2 : World} {H : Nat} {v : Value} {vs : List Value} {ms : List (List ByteArray)} (h : zfI w H v vs ms) (hk : Below w.heap.size w w2) : zfI w2 H v vs ms := by
 obtain ⟨h1, h2, h3⟩ := h
 refine ⟨h1, h2, fun i y hy => ?_⟩
 obtain ⟨z, hz, hsl⟩ := h3 i y hy
 exact ⟨z, hz, (hsl.kept (fun g hg => hk.block g hg.2.1)).mono fun g hg => ⟨hg.1, Nat.lt_of_lt_of_le hg.2.1 hk.size, hg.2.2⟩⟩
theorem zmG {w wr w2 w3 w4 : World} {H len : Nat} {u7 v3 v4 : Value} {vs : List Value} {ms : List (List ByteArray)} {x : List ByteArray} {o : Obj} {n3 : Nat} {xs3 : List Value}
  (hH : w.heap.size = H) (hown : wr.ownsRow H 23 1 u7 len vs) (hro : zfI wr H u7 vs ms) (hb : Below H w wr) (hq : Qu wr w2) (ho3 : w2.heap.size <= w3.heap.size /\ w3.ownsRow w2.heap.size 9 1 v3 n3 xs3) (hx3 : xs3 = zL x) (hb3 : Below w2.heap.size w2 w3)
  (hg4 : (w3.alloc o).grownBy w4 u7.ownBlock) (hat : v4.ownBlock = u7.ownBlock \/ v4.ownBlock = some (w3.alloc o).heap.size) : zfI w4 H v4 (vs ++ [v3]) (ms ++ [x]) /\ Below H w w4 := by
 subst hx3
 obtain ⟨_, ho3⟩ := ho3
 have hs2 : w2.heap.size = wr.heap.size := Qu.size hq
 have hB := hb.size
 have hu7 : ∀ g, u7.ownBlock = some g -> H <= g /\ g < wr.heap.size := fun g hg => hown.lt g hg
 have h3s := hb3.size
 have h4s := hg4.size
 simp only [World.size_alloc] at h4s hat
 have b23 : Below wr.heap.size wr w3 := (hq.below _).trans (hs2 ▸ hb3)
 have b3a : Below wr.heap.size wr (w3.alloc o) := b23.alloc (by omega) o
 have hne : ∀ g, g < wr.heap.size -> u7.ownBlock ≠ some g -> v4.ownBlock ≠ some g := fun g hg h h' => by
  rcases hat with h1 | h1
  ·exact h (h1 ▸ h')
  ·rw [h1] at h'; injection h' with h'; omega
 refine ⟨hro.snoc ?_ (by omega) hne (zgR v3 ho3) ?_, ?_⟩
 ·intro g hg
  exact (hg4.block g (by simp; omega) (fun e => hg.2.2 e.symm)).trans (b3a.block g hg.2.1)
 ·have h1 : SlE w3 (fun g => w2.heap.size <= g /\ g < w3.heap.size) v3 (zL x) := SlE.of_own ho3 (fun g hg => ho3.lt g hg)
  refine (h1.kept fun g hg => ?_).mono fun g hg => ⟨by omega, by omega, fun h' => ?_⟩
  ·have e1 : (w3.alloc o).heap[g]? = w3.heap[g]? := ((Below.refl w3.heap.size w3).alloc (Nat.le_refl _) o).block g hg.2
   exact (hg4.block g (by simp; omega) (fun e => by have := hu7 g e.symm; omega)).trans e1
  ·rcases hat with h1 | h1
   ·have := hu7 g (h1 ▸ h'); omega
   ·rw [h1] at h'; injection h' with h'; omega
 ·exact (hb.trans (b3a.mono (hH ▸ hB))).grown hg4 (by simp; omega) (fun j hj => (hu7 j hj).1)
theorem zpp {w wr w5 : World} {R E : Nat -> Prop} {r H : Nat} {L : Int} {pl ms : List (List ByteArray)} {vL vm v5 : Value} {vsL vs : List Value} (hH : w.heap.size = H) (h1 : R r) (h2 : ∀ k, R k -> k < H) (hb : Below H w wr)
  (h3 : ∀ i, i < 2 -> wr.frozen? ⟨r, i, none⟩ = false) (h4 : wr.cell? ⟨r, 0, none⟩ = some (.int .i64 L)) (h5 : wr.cell? ⟨r, 1, none⟩ = some vL)
  (h6 : wr.ownsRow 0 23 1 vL pl.length vsL) (h7 : ∀ g, vL.ownBlock = some g -> R g /\ g ≠ r) (h8 : ∀ k, E k -> R k /\ k ≠ r /\ vL.ownBlock ≠ some k) (h9 : ∀ (i : Nat) (x : List ByteArray), pl[i]? = some x -> ∃ u, vsL[i]? = some u /\ SlE wr E u (zL x))
  (hro : zfI wr H vm vs ms) (ho5 : w5.ownsRow 0 23 1 v5 (pl.length + ms.length) (vsL ++ vs)) (hg : wr.grownBy w5 vL.ownBlock) (hat : v5.ownBlock = vL.ownBlock \/ v5.ownBlock = some wr.heap.size) :
  w5.cell? ⟨r, 1, none⟩ = some vL /\ (∀ i, i < 2 -> w5.frozen? ⟨r, i, none⟩ = false) /\
  RefW (w5.setCell ⟨r, 1, none⟩ v5) (fun k => R k \/ (H <= k /\ k < w5.heap.size)) r L (pl ++ ms) /\ Chg R w (w5.setCell ⟨r, 1, none⟩ v5) := by
 have hB := hb.size
 have hs := hg.size
 have hrH := h2 r h1
 have hv7 : ∀ g, vL.ownBlock = some g -> g < H := fun g hg => h2 g (h7 g hg).1
 have hkeep : ∀ g, g < wr.heap.size -> vL.ownBlock ≠ some g -> w5.heap[g]? = wr.heap[g]? := fun g hg' hn => hg.block g hg' (fun e => hn e.symm)
 have hrb : w5.heap[r]? = wr.heap[r]? := hkeep r (by omega) (fun e => (h7 r e).2 rfl)
 have c5 : w5.cell? ⟨r, 1, none⟩ = some vL := (World.cell?_of_block (a := ⟨r, 1, none⟩) hrb).trans h5
 have c4 : w5.cell? ⟨r, 0, none⟩ = some (.int .i64 L) := (World.cell?_of_block (a := ⟨r, 0, none⟩) hrb).trans h4
 have f5 : ∀ i, i < 2 -> w5.frozen? ⟨r, i, none⟩ = false := fun i hi => (World.frozen?_of_block (a := ⟨r, i, none⟩) hrb).trans (h3 i hi)
 have hsc : (w5.setCell ⟨r, 1, none⟩ v5).heap.size = w5.heap.size := by simp [World.setCell]
 have hfar : ∀ g, g ≠ r -> (w5.setCell ⟨r, 1, none⟩ v5).heap[g]? = w5.heap[g]? := fun g hg => Below.heap_setCell _ _ _ g (by simpa using hg)
 have hne5 : ∀ g, g < wr.heap.size -> vL.ownBlock ≠ some g -> v5.ownBlock ≠ some g := fun g hg h h' => by
  rcases hat with e | e
  ·exact h (e ▸ h')
  ·rw [e] at h'; injection h' with h'; omega
 refine ⟨c5, f5, ⟨.inl h1, ?_, fun i hi => frozen_far (f5 i hi), zb (by decide) c4, v5, vsL ++ vs, (fun k => E k \/ (H <= k /\ k < wr.heap.size /\ vm.ownBlock ≠ some k)), zt c5, ?_, ?_, ?_, ?_⟩, ?_⟩
 ·rintro k (hk | hk)
  ·have := h2 k hk; omega
  ·omega
 ·rw [List.length_append]
  refine zo ho5 (fun g hg' => hfar g ?_)
  rcases hat with e | e
  ·exact (h7 g (e ▸ hg')).2
  ·rw [e] at hg'; injection hg' with hg'; omega
 ·intro g hg'
  rcases hat with e | e
  ·exact ⟨.inl (h7 g (e ▸ hg')).1, (h7 g (e ▸ hg')).2⟩
  ·have := (ho5.lt g hg').2
   rw [e] at hg'; injection hg' with hg'
   exact ⟨.inr ⟨by omega, this⟩, by omega⟩
 ·rintro k (hk | hk)
  ·obtain ⟨q1, q2, q3⟩ := h8 k hk
   exact ⟨.inl q1, q2, hne5 k (by have := h2 k q1; omega) q3⟩
  ·refine ⟨.inr ⟨hk.1, by omega⟩, by omega, hne5 k hk.2.1 (fun e => by have := hv7 k e; omega)⟩
 ·intro i x hx
  rcases Nat.lt_or_ge i pl.length with hi | hi
  ·rw [List.getElem?_append_left hi] at hx
   obtain ⟨u, hu, hsl⟩ := h9 i x hx
   refine ⟨u, by rw [List.getElem?_append_left (by have := (List.getElem?_eq_some_iff.1 hu).1; omega)]; exact hu, (hsl.kept (fun g hg' => ?_)).mono fun g hg' => .inl hg'⟩
   obtain ⟨q1, q2, q3⟩ := h8 g hg'
   exact (hfar g q2).trans (hkeep g (by have := h2 g q1; omega) q3)
  ·rw [List.getElem?_append_right hi] at hx
   obtain ⟨u, hu, hsl⟩ := hro.2.2 _ x hx
   have hl : vsL.length = pl.length := by have := h6.1; omega
   refine ⟨u, by rw [List.getElem?_append_right (by omega), hl]; exact hu, (hsl.kept (fun g hg' => ?_)).mono fun g hg' => .inr hg'⟩
   exact (hfar g (by omega)).trans (hkeep g hg'.2.1 (fun e => by have := hv7 g e; omega))
 ·refine ⟨hg.os.trans hb.os, hg.tape.trans hb.tape, hg.output.trans hb.output, by omega, fun k hk hn => ?_⟩
  rw [hfar k (fun e => hn (e ▸ h1))]
  exact (hkeep k (by omega) (fun e => hn (h7 k e).1)).trans (hb.block k (by omega))
def zc5 (l : List Nat) : List Value := l.map fun (n : Nat) => Value.int .i64 (n : Int)
def outK (pl : List (List ByteArray)) (p : List ByteArray) (k : Nat) : List Nat := (List.range k).map fun n => code pl (p.take (n + 1))
theorem zoc (pl : List (List ByteArray)) (p : List ByteArray) (k : Nat) : zc5 (outK pl p (k + 1)) = zc5 (outK pl p k) ++ [.int .i64 ((code pl (p.take (k + 1)) : Nat) : Int)] := by
 simp [outK, zc5, List.range_succ]
def zqI (pl : List (List ByteArray)) (p : List ByteArray) (w : World) (v i : Value) (wr : World) : Prop :=
 ∃ k : Nat, i = .int .i64 ((k : Int) + 1) /\ k <= p.length /\ wr.ownsRow w.heap.size 3 1 v k (zc5 (outK pl p k)) /\ Below w.heap.size w wr
def zqT (pl : List (List ByteArray)) (p : List ByteArray) (w : World) (v i : Value) (wr : World) : Prop :=
 ∃ (k : Nat) (vs : List Value), i = .int .i64 ((k : Int) + 1) /\ k <= p.length /\ wr.ownsRow w.heap.size 23 1 v (zfx pl p k).length vs /\ zfI wr w.heap.size v vs (zfx pl p k) /\ Below w.heap.size w wr
def addR (pl : List (List ByteArray)) (L : Int) (p : List ByteArray) : List (List ByteArray) × List Nat × Int :=
 if mayB p = false \/ (p.length : Int) ≠ L then (pl, [], 10) else if 40 < pl.length + (zcw pl p).length then (pl, [], 15) else (pl ++ zcw pl p, outR (pl ++ zcw pl p) p, 0)
theorem zfk {w : World} {B : Nat} : Sl w B (.slice none 0 0) (zc5 []) := Sl.nil_
end Go.Proofs.YtgoapnkdcfcjgaaGreat
namespace Go.Proofs.YtgoapnkdcfcjgaaGreat
open Go.ChangeShapes Go.WideShapes Go.ChangeAt Go.RowKit Go.Maps
def zf3 (x : zH) : Value := .agg #[.int .i64 (x.1 : Int), .string x.2]
def za9 (ns : List zH) : List Value := ns.flatMap fun x => [.int .i64 (x.1 : Int), .string x.2]
theorem zhd (ns : List zH) (x : zH) : za9 (ns ++ [x]) = za9 ns ++ [.int .i64 (x.1 : Int), .string x.2] := by simp [za9]
theorem ze0 (ns : List zH) (k : Nat) (hk : k < ns.length) : (za9 ns)[k * 2]? = some (.int .i64 (ns[k].1 : Int)) /\ (za9 ns)[k * 2 + 1]? = some (.string ns[k].2) := by
 induction ns generalizing k with
 | nil => simp at hk
 | cons x ns ih =>
   have e : za9 (x :: ns) = .int .i64 (x.1 : Int) :: .string x.2 :: za9 ns := by simp [za9]
   rw [e]
   cases k with
   | zero => simp
   | succ k =>
     have := ih k (by simpa using hk)
     rw [show (k + 1) * 2 = k * 2 + 2 by omega]
     simpa using this
theorem zd5 : Keyed Tryz.prog 146 := Keyed.of_law (deep_law_laid zjf (m := 3) (by omega) (of_decide_eq_true (by kernel_rfl)) (by kernel_rfl) (by rw [Tryz.underlying146]))
theorem znh : (Tryz.prog.info? 146).map (fun i => (i.zero, i.size, i.bytes)) = some (some (.agg #[.int .i64 0, .string ByteArray.empty]), 2, 24) := by kernel_rfl
theorem zkv (w : World) : (zeroValue 3).run Tryz.prog w = .ok (.int .i64 0) w := by kernel_rfl
def MapC (w : World) (m : Nat) (ns : List zH) : Prop :=
 ∃ (n : Nat) (Dm : DataW Unit), w.ownsMap Tryz.prog 146 (plainElem Tryz.prog 3) m n Dm /\ n <= ns.length /\
  ∀ (x : zH) (kl : Lit), keyOf Tryz.prog 146 (zf3 x) = some kl -> Maps.has Dm kl = decide (code ns x ≠ 0) /\ Dm.atKey kl (.lit (.int .i64 0)) = .lit (.int .i64 (code ns x : Nat))
theorem zg8 (x : zH) (h1 : x.1 <= 1000000) (h2 : x.2.size <= 9223372036854775807) : ∃ kl, keyOf Tryz.prog 146 (zf3 x) = some kl := by
 have hk : Tryz.prog.keyType 146 = true := by kernel_rfl
 have hc : Tryz.prog.cellsOf 146 = 2 := by kernel_rfl
 have hci : Tryz.prog.cellsOf 3 = 1 := by kernel_rfl
 have hcs : Tryz.prog.cellsOf 9 = 1 := by kernel_rfl
 have hf : (zf3 x).formed Tryz.prog 146 = true := by simp [Value.formed, zf3, Tryz.underlying146, hc]
 have hw : (Lit.int .i64 (x.1 : Int)).wf = true := WalkArith.wf_i64 (by omega)
 have hl : ∃ ls, Tryz.prog.keyLits (Tryz.prog.types.size + 1) 146 (zf3 x).cells.toList = some ls := by
  obtain ⟨n, hn⟩ : ∃ n, Tryz.prog.types.size = n + 1 := ⟨Tryz.prog.types.size - 1, by
   have : 0 < Tryz.prog.types.size := of_decide_eq_true (by kernel_rfl)
   omega⟩
  rw [hn]
  refine ⟨[.int .i64 (x.1 : Int), .string x.2.data.toList], ?_⟩
  have e0 : (zf3 x).cells.toList = [.int .i64 (x.1 : Int), .string x.2] := rfl
  rw [e0]
  unfold Program.keyLits
  rw [Tryz.underlying146]
  simp only
  rw [if_pos ⟨by rw [hc]; rfl, by kernel_rfl⟩]
  simp only [List.mapM_cons, List.mapM_nil]
  unfold Program.keyLits
  simp [Tryz.underlying3, Tryz.underlying9, hci, hcs, hw, maxLen, h2]
 obtain ⟨ls, hl⟩ := hl
 refine ⟨.string (keyBytes ls), ?_⟩
 unfold keyOf
 rw [Tryz.underlying146]
 simp only [hk, hf, hl]
 rfl
def zbj (w : World) (D : Nat -> Prop) (d : Nat) (L : Int) (ns : List zH) : Prop :=
 D d /\ (∀ k, D k -> k < w.heap.size) /\ (∀ i, i < 3 -> w.frozen? ⟨d, i, none⟩ = false) /\ w.cell? ⟨d, 0, none⟩ = some (.int .i64 L) /\
 ∃ (v : Value) (m : Nat), w.cell? ⟨d, 1, none⟩ = some v /\ w.cell? ⟨d, 2, none⟩ = some (.map (some m)) /\ D m /\ m ≠ d /\ v.ownBlock ≠ some m /\ w.ownsRow 0 146 2 v ns.length (za9 ns) /\ (∀ g, v.ownBlock = some g -> D g /\ g ≠ d) /\ MapC w m ns
theorem MapC.kept {w w' : World} {m : Nat} {ns : List zH} (h : MapC w m ns) (hk : w'.heap[m]? = w.heap[m]?) : MapC w' m ns := by
 obtain ⟨n, Dm, ⟨es, clock, hb, r⟩, h2, h3⟩ := h
 exact ⟨n, Dm, ⟨es, clock, hk.trans hb, r⟩, h2, h3⟩
theorem zbj.kept {w w' : World} {D : Nat -> Prop} {d : Nat} {L : Int} {ns : List zH} (h : zbj w D d L ns) (k : Kept D w w') (hs : w.heap.size <= w'.heap.size) : zbj w' D d L ns := by
 obtain ⟨h1, h2, h3, h4, v, m, h5, h6, h7, h8, h9, h10, h11, h12⟩ := h
 exact ⟨h1, fun i hi => Nat.lt_of_lt_of_le (h2 i hi) hs, fun i hi => k.frozen h1 (h3 i hi), k.cell h1 h4, v, m, k.cell h1 h5, k.cell h1 h6, h7, h8, h9, zo h10 (fun g hg => k g (h11 g hg).1), h11, h12.kept (k m h7)⟩
theorem zbj.below {w w' : World} {D : Nat -> Prop} {d : Nat} {L : Int} {ns : List zH} (h : zbj w D d L ns) (hb : Below w.heap.size w w') : zbj w' D d L ns :=
 h.kept (fun k hk => hb.block k (h.2.1 k hk)) hb.size
theorem zpx (w : World) : MapC (w.alloc (.map #[] 0)) w.heap.size [] :=
 ⟨0, .map [], World.ownsMap_made _ _ _ _, by simp, fun x kl _ => ⟨by simp [Maps.has, code], by simp [code, DataW.atKey]⟩⟩
def zo6 (L : Int) (w : World) (e : Ending) (w' : World) : Prop := ∃ d D, e = .returned (.pointer (some ⟨d, 0, none⟩)) /\ zbj w' D d L [] /\ (∀ k, D k -> w.heap.size <= k) /\ Below w.heap.size w w'
theorem zkn (L : Int) (w : World) (h1 : 1 <= L) (h3 : L <= 3) : Calls Tryz.prog 42 #[.int .i64 L] w (zo6 L w) := by
 have hmm := @run_makeMap Tryz.prog
 go_enter Tryz.func42, Tryz.ntmps42
 go_wp2
 go_ret
 refine ⟨w.heap.size + 1, (fun k => k = w.heap.size \/ k = w.heap.size + 1), rfl, ⟨.inr rfl, ?_, fun i hi => by simp [go_sem], by simp [go_sem], .slice none 0 0, w.heap.size, by simp [go_sem], by simp [go_sem], .inl rfl, by omega, by simp [Value.ownBlock], World.ownsRow_nil _ _ _ _, fun g hg => by simp [Value.ownBlock] at hg, ?_⟩, ?_, zI⟩
 ·rintro k (rfl | rfl) <;> simp <;> omega
 ·refine (zpx w).kept ?_
  exact ((Below.refl (w.alloc (.map #[] 0)).heap.size (w.alloc (.map #[] 0))).alloc (Nat.le_refl _) _).block _ (by simp)
 ·rintro k (rfl | rfl) <;> omega
theorem zkr (D : Nat -> Prop) (d : Nat) (L : Int) (ns : List zH) (w : World) (h : zbj w D d L ns) :
  Calls Tryz.prog 96 #[.pointer (some ⟨d, 0, none⟩)] w (za5 (.int .i64 (ns.length : Nat)) w) := by
 obtain ⟨h1, h2, h3, h4, v, m, h5, h6, h7, h8, h9, h10, h11, h12⟩ := h
 obtain ⟨A, c, rfl, -, -, -⟩ : ∃ A c, v = .slice A ns.length c /\ True /\ True /\ True := by
  rcases h10.2 with ⟨rfl, e⟩ | ⟨g, cap, cur, rfl, _⟩
  ·exact ⟨none, 0, by rw [e], trivial, trivial, trivial⟩
  ·exact ⟨_, _, rfl, trivial, trivial, trivial⟩
 clear h3 h4 h6 h9 h10 h11 h12
 go_enter Tryz.func96, Tryz.ntmps96
 go_wp2
 go_ret
 exact ⟨rfl, Qu.refl _⟩
theorem zn2 {w : World} {cs : List Value} {N : Nat} {t : TypeId} (hN : w.heap.size = N) : ∀ j u, cs[j]? = some u -> (w.alloc (.cells cs.toArray t)).cell? ((⟨N, 0, none⟩ : Addr).add j) = some u := by
 subst hN
 intro j u hu
 have e : (⟨w.heap.size, 0, none⟩ : Addr).add j = ⟨w.heap.size, j, none⟩ := by rw [zqb, Nat.zero_add]
 rw [e, World.cell?_alloc_at _ _ _ _ rfl]
 simpa using hu
theorem zph {a b c d : Value} (h : Value.agg #[a, b] = Value.agg #[c, d]) : a = c /\ b = d := by
 have := Value.agg.inj h
 simpa using this
theorem zgG (ns : List zH) (x y : zH) (hy : y ∉ ns) : code (ns ++ [y]) x = if x = y then ns.length + 1 else code ns x := zmM hy
theorem MapC.put {w : World} {m : Nat} {ns : List zH} {x : zH} (h : MapC w m ns) (hx : x ∉ ns) (hl : ns.length <= 1000) (h1 : x.1 <= 1000000) (h2 : x.2.size <= 9223372036854775807) :
  ∃ w', (Instr.mapUpdate 112 (.map (some m)) (.agg #[.int .i64 (x.1 : Int), .string x.2]) (.int .i64 ((ns.length : Int) + 1))).run Tryz.prog w = .ok () w' /\ MapC w' m (ns ++ [x]) /\ w.mapTurned w' m := by
 obtain ⟨n, Dm, how, hn, hC⟩ := h
 obtain ⟨kl, hkl⟩ := zg8 x h1 h2
 have hwf : (Lit.int .i64 ((ns.length : Int) + 1)).wf = true := WalkArith.wf_i64 (by omega)
 obtain ⟨w', hrun, how', hturn⟩ := how.store zd5 Tryz.underlying112 (by unfold maxLen; omega) hkl (plainElem_int Tryz.underlying3 hwf)
 refine ⟨w', hrun, ⟨n + 1, _, how', by simp; omega, fun y kl' hy => ?_⟩, hturn⟩
 have hmap := how.isMap
 have hkey := zd5.key hkl
 by_cases he : kl' = kl
 ·subst he
  have hyx : zf3 y = zf3 x := zd5.inj hy hkl
  have hyx' : y = x := by
   obtain ⟨e1, e2⟩ := zph hyx
   have e3 := (Value.int.inj e1).2
   have e4 := Value.string.inj e2
   exact Prod.ext (by omega) e4
  subst hyx'
  rw [zgG _ _ _ hx, if_pos rfl]
  refine ⟨?_, ?_⟩
  ·rw [has_put_same hmap hkey]; symm; rw [decide_eq_true_eq]; omega
  ·rw [atKey_put_same hmap hkey]; congr 2
 ·have hne : y ≠ x := by
   rintro rfl; rw [hkl] at hy; injection hy with hy; exact he hy.symm
  rw [zgG _ _ _ hx, if_neg hne, has_put_other he, atKey_put_other he]
  exact hC y kl' hy
theorem MapC.drew {w : World} {m : Nat} {ns : List zH} (h : MapC w m ns) : MapC w.drew m ns := h.kept rfl
theorem zq2 {w W1 w3 : World} {D : Nat -> Prop} {d m g cap c : Nat} {A : Option Addr} {L : Int} {ns : List zH} {x : zH} (h1 : D d) (h2 : ∀ k, D k -> k < w.heap.size)
  (h3 : ∀ i, i < 3 -> w.frozen? ⟨d, i, none⟩ = false) (h4 : w.cell? ⟨d, 0, none⟩ = some (.int .i64 L)) (h6 : w.cell? ⟨d, 2, none⟩ = some (.map (some m))) (h7 : D m) (h8 : m ≠ d)
  (h9 : (Value.slice A ns.length c).ownBlock ≠ some m) (h11 : ∀ g, (Value.slice A ns.length c).ownBlock = some g -> D g /\ g ≠ d) (h12 : MapC w m ns)
  (hb : Below w.heap.size w W1) (hs1 : W1.heap.size = w.heap.size + 2) (hx0 : W1.cell? ⟨w.heap.size, 0, none⟩ = some (.int .i64 (x.1 : Int))) (hx1 : W1.cell? ⟨w.heap.size, 1, none⟩ = some (.string x.2))
  (ho : w3.ownsRow 0 146 2 (.slice (some ⟨g, 0, none⟩) (ns.length + 1) cap) (ns.length + 1) (za9 ns ++ [.int .i64 (x.1 : Int), .string x.2])) (hg : W1.grownBy w3 (Value.slice A ns.length c).ownBlock)
  (hat : (Value.slice A ns.length c).ownBlock = some g \/ g = w.heap.size + 2) (hlt : g < w3.heap.size) (w4 : World) (hw4 : w4 = w3.setCell ⟨d, 1, none⟩ (.slice (some ⟨g, 0, none⟩) (ns.length + 1) cap)) (hc1 : w3.cell? ⟨d, 1, none⟩ = some (.slice A ns.length c)) :
  w4.cell? ⟨d, 0, none⟩ = some (.int .i64 L) /\ w4.cell? ⟨d, 1, none⟩ = some (.slice (some ⟨g, 0, none⟩) (ns.length + 1) cap) /\ w4.cell? ⟨d, 2, none⟩ = some (.map (some m)) /\ (∀ i, i < 3 -> w4.frozen? ⟨d, i, none⟩ = false) /\
  w4.cell? ⟨w.heap.size, 0, none⟩ = some (.int .i64 (x.1 : Int)) /\ w4.cell? ⟨w.heap.size, 1, none⟩ = some (.string x.2) /\ w4.ownsRow 0 146 2 (.slice (some ⟨g, 0, none⟩) (ns.length + 1) cap) (ns ++ [x]).length (za9 (ns ++ [x])) /\
  MapC w4 m ns /\ Chg D w w4 /\ g ≠ d /\ g ≠ m /\ g < w4.heap.size /\ (D g \/ w.heap.size <= g) := by
 subst hw4
 have hd := h2 d h1
 have hm := h2 m h7
 have hgs := hg.size
 have hgD : ∀ k, (Value.slice A ns.length c).ownBlock = some k -> k < w.heap.size := fun k hk => h2 k (h11 k hk).1
 have hkeep : ∀ k, k < w.heap.size -> (Value.slice A ns.length c).ownBlock ≠ some k -> w3.heap[k]? = w.heap[k]? := fun k hk hn => (hg.block k (by omega) (fun e => hn e.symm)).trans (hb.block k hk)
 have hfar : ∀ k, k ≠ d -> (w3.setCell ⟨d, 1, none⟩ (.slice (some ⟨g, 0, none⟩) (ns.length + 1) cap)).heap[k]? = w3.heap[k]? := fun k hk => Below.heap_setCell _ _ _ k (by simpa using hk)
 have hdb : w3.heap[d]? = w.heap[d]? := hkeep d hd (fun e => (h11 d e).2 rfl)
 have hgd : g ≠ d := by
  rcases hat with e | e
  ·exact (h11 g e).2
  ·omega
 have hgm : g ≠ m := by
  rcases hat with e | e
  ·rintro rfl; exact h9 e
  ·omega
 have hb0 : ∀ i v, W1.cell? ⟨w.heap.size, i, none⟩ = some v -> w3.cell? ⟨w.heap.size, i, none⟩ = some v := fun i v hv => (World.cell?_of_block (a := ⟨w.heap.size, i, none⟩) (hg.block _ (by simp; omega) (fun e => by have := hgD _ e.symm; simp at this))).trans hv
 have c0 : w3.cell? ⟨d, 0, none⟩ = some (.int .i64 L) := (World.cell?_of_block (a := ⟨d, 0, none⟩) hdb).trans h4
 have c2 : w3.cell? ⟨d, 2, none⟩ = some (.map (some m)) := (World.cell?_of_block (a := ⟨d, 2, none⟩) hdb).trans h6
 refine ⟨zb (by decide) c0, zt hc1, zb (by decide) c2, fun i hi => frozen_far ((World.frozen?_of_block (a := ⟨d, i, none⟩) hdb).trans (h3 i hi)), cell_far (by omega) (hb0 _ _ hx0), cell_far (by omega) (hb0 _ _ hx1), ?_, ?_, ?_, hgd, hgm, by simpa [World.setCell] using hlt, ?_⟩
 ·rw [List.length_append, List.length_singleton, zhd]
  exact zo ho (fun k hk => hfar k (by simp [Value.ownBlock] at hk; omega))
 ·exact h12.kept ((hfar m h8).trans (hkeep m hm h9))
 ·refine ⟨hg.os.trans hb.os, hg.tape.trans hb.tape, hg.output.trans hb.output, by simp [World.setCell]; omega, fun k hk hn => ?_⟩
  rw [hfar k (fun e => hn (e ▸ h1))]
  exact hkeep k hk (fun e => hn (h11 k e).1)
 ·rcases hat with e | e
  ·exact .inl (h11 g e).1
  ·exact .inr (by omega)
def zpw (D : Nat -> Prop) (d : Nat) (L : Int) (ns : List zH) (w : World) (e : Ending) (w' : World) : Prop :=
 ∃ D', e = .returned (.int .i64 ((ns.length : Nat) : Int)) /\ Grow w D D' /\ zbj w' D' d L ns /\ Chg D w w'
set_option maxRecDepth 100000 in
set_option maxHeartbeats 1600000 in
theorem zky (D : Nat -> Prop) (d : Nat) (L : Int) (ns : List zH) (up : Nat) (s : ByteArray) (w : World) (h : zbj w D d L ns) (hl : ns.length <= 1000) (hup : up <= 1000000) (hs : s.size <= 9223372036854775807) (hx : (up, s) ∉ ns) :
  Calls Tryz.prog 94 #[.pointer (some ⟨d, 0, none⟩), .agg #[.int .i64 (up : Int), .string s]] w (zpw D d L (ns ++ [(up, s)]) w) := by
 obtain ⟨i0, hi, hz0, hz1, hz2⟩ := info_parts znh
 obtain ⟨h1, h2, h3, h4, v, m, h5, h6, h7, h8, h9, h10, h11, h12⟩ := h
 have hd := h2 d h1
 have hfr := h3 1 (by omega)
 obtain ⟨A, c, rfl, hc1, hc2⟩ : ∃ A c, v = .slice A ns.length c /\ ns.length <= c /\ c <= maxLen := by
  rcases h10.2 with ⟨rfl, e⟩ | ⟨g, cap, cur, rfl, _, _, g1, g2, _⟩
  ·exact ⟨none, 0, by rw [e], by omega, by simp [maxLen]⟩
  ·exact ⟨_, _, rfl, g1, g2⟩
 have c5 := zv (o := .cells #[.int .i64 (up : Int), .string s] 146) hd h5
 have HO := hid h10
 have HROW := hid (show ∀ g, (Value.slice A ns.length c).ownBlock = some g -> g ≠ d /\ g < w.heap.size from fun g hg => ⟨(h11 g hg).2, (h10.lt g hg).2⟩)
 have HK := hid (And.intro h3 (And.intro h9 (And.intro h11 h12)))
 clear h3 h9 h10 h11 h12
 have n0 := World.new_ne w ⟨d, 1, none⟩ h5
 have n1 := World.new_ne w ⟨d, 2, none⟩ h6
 go_enter Tryz.func94, Tryz.ntmps94
 go_wp2
 go_region_law
  ((refine step_append_lies _ (by rfl) (.tmp 9) (.tmp 11) 113 (by rfl) 0 146 i0 (.agg #[.int .i64 0, .string ByteArray.empty]) 2 24 Tryz.underlying113 hi hz0 hz1 hz2 rfl (by omega) (.slice A ns.length c) ns.length (za9 ns) (by rfl) ((HO.out.alloc _).alloc _) ⟨w.heap.size + 1, 0, none⟩ 1 1 [.int .i64 (up : Int), .string s] (by rfl) rfl (zn2 (by simp)) (by simp; exact ⟨rfl, rfl⟩) (by omega) (by unfold maxLen; omega) (by omega) (by omega) (w.heap.size + 2) (by simp) ?_; intro g cap w3 ho3 hg3 hat3 hlt3;
    have e1 : w3.cell? ⟨d, 1, none⟩ = some (.slice A ns.length c) := (World.grownBy.cell_far hg3 ⟨d, 1, none⟩ (by simp; omega) (fun e => (HROW.out d e.symm).1 rfl)).trans (zv (by simp; omega) c5);
    have e2 : w3.cell? ⟨w.heap.size, 0, none⟩ = some (.int .i64 (up : Int)) := (World.grownBy.cell_far hg3 ⟨w.heap.size, 0, none⟩ (by simp; omega) (fun e => by have := (HROW.out _ e.symm).2; simp at this)).trans (zv (by simp) (by simp [go_sem]));
    have e3 : w3.cell? ⟨w.heap.size, 1, none⟩ = some (.string s) := (World.grownBy.cell_far hg3 ⟨w.heap.size, 1, none⟩ (by simp; omega) (fun e => by have := (HROW.out _ e.symm).2; simp at this)).trans (zv (by simp) (by simp [go_sem]));
    have e4 : w3.frozen? ⟨d, 1, none⟩ = false := (World.grownBy.frozen_far hg3 ⟨d, 1, none⟩ (by simp; omega) (fun e => (HROW.out d e.symm).1 rfl)).trans (zal (by simp; omega) (zal hd hfr))))
 all_goals
  obtain ⟨q3, q9, q11, q12⟩ := HK.out
  obtain ⟨w4, hw4⟩ : ∃ w4, w4 = w3.setCell ⟨d, 1, none⟩ (.slice (some ⟨g, 0, none⟩) (ns.length + 1) cap) := ⟨_, rfl⟩
  obtain ⟨p0, p1, p2, pf, px0, px1, po, pm, pc, pgd, pgm, pgl, pg⟩ := zq2 (x := (up, s)) h1 h2 q3 h4 h6 h7 h8 q9 q11 q12 (zI) (by simp) (by simp [go_sem]) (by simp [go_sem]) ho3 hg3 hat3 hlt3 w4 hw4 e1
  rw [<- hw4]
  obtain ⟨w5, hrun, pm5, hturn⟩ := (pm.drew).put hx hl hup hs
  have HPO := hid po; have HPC := hid pc; have HPF := hid pf; have HM5 := hid pm5; have HT := hid hturn
  clear hw4 q3 q9 q11 q12 ho3 hg3 hat3 e1 e2 e3 e4 po pm pc pf pm5 hturn
  simp only at hrun px0 px1
  have hmH := h2 m h7
  have r1 : w5.cell? ⟨d, 1, none⟩ = some (.slice (some ⟨g, 0, none⟩) (ns.length + 1) cap) := (World.grownBy.cell_far HT.out.grown ⟨d, 1, none⟩ (World.block_lt_of_cell? w4 ⟨d, 1, none⟩ p1) (fun e => by injection e with e; exact h8 e.symm)).trans p1
  have r2 : w5.cell? ⟨d, 2, none⟩ = some (.map (some m)) := (World.grownBy.cell_far HT.out.grown ⟨d, 2, none⟩ (World.block_lt_of_cell? w4 ⟨d, 2, none⟩ p2) (fun e => by injection e with e; exact h8 e.symm)).trans p2
  have r3 : w5.cell? ⟨w.heap.size, 0, none⟩ = some (.int .i64 (up : Int)) := (World.grownBy.cell_far HT.out.grown ⟨w.heap.size, 0, none⟩ (World.block_lt_of_cell? w4 ⟨w.heap.size, 0, none⟩ px0) (fun e => by injection e with e; simp at e; omega)).trans px0
  have r4 : w5.cell? ⟨w.heap.size, 1, none⟩ = some (.string s) := (World.grownBy.cell_far HT.out.grown ⟨w.heap.size, 1, none⟩ (World.block_lt_of_cell? w4 ⟨w.heap.size, 1, none⟩ px1) (fun e => by injection e with e; simp at e; omega)).trans px1
  go_wp2
  go_region_held3 (fun w' => w'.cell? ⟨d, 1, none⟩ = some (.slice (some ⟨g, 0, none⟩) (ns.length + 1) cap) /\ w'.cell? ⟨d, 2, none⟩ = some (.map (some m)) /\ w'.cell? ⟨w.heap.size, 0, none⟩ = some (.int .i64 (up : Int)) /\ w'.cell? ⟨w.heap.size, 1, none⟩ = some (.string s)) (go_keep) (fail)
  go_wp2
  go_ret
  have hgr := HT.out.grown
  have hs5 : w4.heap.size <= w5.heap.size := hgr.size
  refine ⟨(fun k => D k \/ (w.heap.size <= k /\ k < w5.heap.size)), by simp, ⟨fun k hk => .inl hk, fun k hk => hk.elim .inl (fun h => .inr h.1)⟩, ⟨.inl h1, ?_, fun i hi => ?_, ?_, _, m, r1, r2, .inl h7, h8, ?_, ?_, ?_, HM5.out⟩, ?_⟩
  ·rintro k (hk | hk)
   ·have := h2 k hk; have := HPC.out.size; omega
   ·exact hk.2
  ·exact (World.grownBy.frozen_far hgr ⟨d, i, none⟩ (World.block_lt_of_cell? w4 ⟨d, 1, none⟩ p1) (fun e => by injection e with e; exact h8 e.symm)).trans (HPF.out i hi)
  ·exact (World.grownBy.cell_far hgr ⟨d, 0, none⟩ (World.block_lt_of_cell? w4 ⟨d, 0, none⟩ p0) (fun e => by injection e with e; exact h8 e.symm)).trans p0
  ·intro e; simp [Value.ownBlock] at e; exact pgm e
  ·exact zo HPO.out (fun k hk => hgr.block k (HPO.out.lt k hk).2 (fun e => by simp [Value.ownBlock] at hk; injection e with e; omega))
  ·intro k hk
   simp [Value.ownBlock] at hk
   subst hk
   exact ⟨pg.elim .inl (fun h => .inr ⟨h, by omega⟩), pgd⟩
  ·exact HPC.out.trans ((Chg.of_qu (D := D) (w := w4) (w' := w4.drew) ⟨1, rfl⟩).same (Chg.upd (w := w4.drew) hgr h7)) (fun _ h => .inl h)
theorem zbj.rows {w : World} {D : Nat -> Prop} {d : Nat} {L : Int} {ns : List zH} (h : zbj w D d L ns) :
  ∃ A c, w.cell? ⟨d, 1, none⟩ = some (.slice A ns.length c) /\ ns.length <= c /\ c <= maxLen /\ ∀ k (hk : k < ns.length), ∃ g, A = some ⟨g, 0, none⟩ /\ g < w.heap.size /\ w.cell? ⟨g, k * 2, none⟩ = some (.int .i64 (ns[k].1 : Int)) /\ w.cell? ⟨g, k * 2 + 1, none⟩ = some (.string ns[k].2) := by
 obtain ⟨h1, h2, h3, h4, v, m, h5, h6, h7, h8, h9, h10, h11, h12⟩ := h
 have hx := h10
 rcases h10.2 with ⟨rfl, e⟩ | ⟨g, cap, cur, rfl, _, _, g1, g2, _⟩
 ·exact ⟨none, 0, by rw [h5, e], by omega, by simp [maxLen], fun k hk => by omega⟩
 ·refine ⟨_, cap, h5, g1, g2, fun k hk => ⟨g, rfl, (hx.lt g rfl).2, ?_, ?_⟩⟩
  ·rw [hx.cellAt (g := g) (k * 2) (by omega)]; exact (ze0 ns k hk).1
  ·rw [hx.cellAt (g := g) (k * 2 + 1) (by omega)]; exact (ze0 ns k hk).2
end Go.Proofs.YtgoapnkdcfcjgaaGreat
