/- 1 text of this claim, in build order. -/
import Derived.Test.YtkgifbnkkmeoiaaGreatDoorPkcgdjgcb
import Derived.Test.YtkgifbnkkmeoiaaGreatDoorPmoagdfll
import Derived.Test.YtkgifbnkkmeoiaaGreatDoorPbdcknajg
import Derived.Test.YtkgifbnkkmeoiaaGreatDoorPpkiibnek
import Derived.Test.YtkgifbnkkmeoiaaGreatDoorPfimkpfpn
import Derived.Test.YtkgifbnkkmeoiaaGreatDoorPmedmiign
import Derived.Deep.RegionLaw
/- links.Get: what the program takes of bytes. -/
namespace Go.Proofs.YtkgifbnkkmeoiaaGreatDoor
open Go.ChangeShapes Go.WideShapes Go.ChangeAt Go.RowKit
set_option linter.unusedVariables false
set_option linter.unusedSimpArgs false

theorem bytes_of (w : World) (sd : ByteArray) (hs : sd.size ≤ 1000000) : ∃ (WY : World) (cap : Nat), (convert 9 23 (.string sd)).run Tryz.prog w = .ok (.slice (some ⟨w.heap.size, 0, none⟩) sd.size cap) WY ∧ Below w.heap.size w WY ∧ w.heap.size < WY.heap.size ∧
    SlE WY (fun k => k = w.heap.size) (.slice (some ⟨w.heap.size, 0, none⟩) sd.size cap) (bvals sd.data.toList) ∧ sd.size ≤ cap ∧ cap ≤ maxLen := by
  have hr := run_bytes_of_string (P := Tryz.prog) w 9 23 5 sd Tryz.underlying9 Tryz.underlying23 Tryz.underlying5
  refine ⟨_, _, hr, (Below.refl _ w).drew.trans (bl1 w.drew _), by simp, ?_, grownCap_ge w _ _ _, grownCap_le_maxLen w _ _ _ (by unfold maxLen; omega)⟩
  have hsz : sd.data.toList.length = sd.size := by simp
  refine ⟨some ⟨w.heap.size, 0, none⟩, _, by rw [bvals_len, hsz], by rw [bvals_len, hsz]; exact grownCap_ge w _ _ _, grownCap_le_maxLen w _ _ _ (by unfold maxLen; omega), fun h0 => ⟨w.heap.size, 0, rfl, rfl, fun j u hu => ?_⟩⟩
  rw [Nat.zero_add]
  have hj : j < sd.data.size := by
    have := (List.getElem?_eq_some_iff.1 hu).1
    rw [bvals_len] at this
    simpa using this
  refine (World.cell?_alloc_mark w.drew _ _ _ j).trans ?_
  unfold bytesRow
  rw [Array.getElem?_append_left (by simpa using hj), Array.getElem?_map]
  unfold bvals at hu
  rw [List.getElem?_map] at hu
  rw [← hu]
  simp
/-- Cells of a block. -/
structure BoxC (w : World) (N : Nat) (cs : List Value) : Prop where
  lt : N < w.heap.size
  c : ∀ i v, cs[i]? = some v → w.cell? ⟨N, i, none⟩ = some v ∧ w.frozen? ⟨N, i, none⟩ = false
theorem BoxC.new (w : World) (cs : Array Value) (t : TypeId) : BoxC (w.alloc (.cells cs t)) w.heap.size cs.toList :=
  ⟨by simp, fun i v h => ⟨by rw [World.cell?_alloc_at _ _ _ _ rfl]; simpa using h, by simp [go_sem]⟩⟩
theorem BoxC.below {w w' : World} {N B : Nat} {cs : List Value} (h : BoxC w N cs) (hb : Below B w w') (hN : N < B) : BoxC w' N cs :=
  ⟨Nat.lt_of_lt_of_le h.lt hb.size, fun i v hv => ⟨cellK hb hN (h.c i v hv).1, frozenK hb hN (h.c i v hv).2⟩⟩
theorem BoxC.set {w : World} {N : Nat} {cs : List Value} (h : BoxC w N cs) (i : Nat) (hi : i < cs.length) (u : Value) : BoxC (w.setCell ⟨N, i, none⟩ u) N (cs.set i u) := by
  refine ⟨by simpa [World.setCell] using h.lt, fun j v hv => ?_⟩
  rcases Nat.decEq i j with hne | rfl
  · rw [List.getElem?_set_ne hne] at hv
    exact ⟨cell_beside hne (h.c j v hv).1, frozen_far (h.c j v hv).2⟩
  · rw [List.getElem?_set_self hi] at hv
    injection hv with hv
    subst hv
    exact ⟨cell_here (h.c i _ (List.getElem?_eq_getElem hi)).1, frozen_far (h.c i _ (List.getElem?_eq_getElem hi)).2⟩
theorem BoxC.upd {w w' : World} {N p : Nat} {cs : List Value} (h : BoxC w N cs) (hu : Upd p w w') (hp : p < w.heap.size) (hN : N ≠ p) : BoxC w' N cs :=
  ⟨Nat.lt_of_lt_of_le h.lt hu.size, fun i v hv => ⟨hu.cellAt h.lt hN (h.c i v hv).1, hu.frozenAt h.lt hN (h.c i v hv).2⟩⟩
/-- Five numbers. -/
def fiveR (l : List UInt8) : Nat → Nat → Int → List Int × Nat × Int
  | 0, a, e => ([], a, e)
  | k + 1, a, e => ((rInt l a e 0 1099511627776).1 :: (fiveR l k (rInt l a e 0 1099511627776).2.1 (rInt l a e 0 1099511627776).2.2).1, (fiveR l k (rInt l a e 0 1099511627776).2.1 (rInt l a e 0 1099511627776).2.2).2)
theorem five_step {l : List UInt8} {n j a : Nat} {e : Int} {acc : List Int} {T : List Int × Nat × Int} (hj : j < n) (h : T = (acc ++ (fiveR l (n - j) a e).1, (fiveR l (n - j) a e).2)) :
    T = ((acc ++ [(rInt l a e 0 1099511627776).1]) ++ (fiveR l (n - (j + 1)) (rInt l a e 0 1099511627776).2.1 (rInt l a e 0 1099511627776).2.2).1, (fiveR l (n - (j + 1)) (rInt l a e 0 1099511627776).2.1 (rInt l a e 0 1099511627776).2.2).2) := by
  obtain ⟨k, hk⟩ : ∃ k, n - j = k + 1 := ⟨n - j - 1, by omega⟩
  rw [h, hk, show n - (j + 1) = k by omega]
  show (acc ++ (_ :: _), _) = _
  rw [List.append_assoc]; rfl
theorem ent_step {l : List UInt8} {n j a : Nat} {e : Int} {acc : List EntX} {T : List EntX × Nat × Int} (hj : j < n) (h : T = (acc ++ (entsR l (n - j) a e).1, (entsR l (n - j) a e).2)) :
    T = ((acc ++ [(entR l a e).1]) ++ (entsR l (n - (j + 1)) (entR l a e).2.1 (entR l a e).2.2).1, (entsR l (n - (j + 1)) (entR l a e).2.1 (entR l a e).2.2).2) := by
  obtain ⟨k, hk⟩ : ∃ k, n - j = k + 1 := ⟨n - j - 1, by omega⟩
  rw [h, hk, show n - (j + 1) = k by omega]
  show (acc ++ (_ :: _), _) = _
  rw [List.append_assoc]; rfl
/-- The message's box while the five numbers are read. -/
def box5 (a b c : Value) (acc : List Int) : List Value := [a, b, c] ++ acc.map (Value.int .i64) ++ List.replicate (5 - acc.length) (.int .i64 0) ++ [.bool false, .int .i64 0, .int .i64 0, .slice none 0 0, .slice none 0 0]
theorem box5_at (a b c : Value) (acc : List Int) (h : acc.length < 5) : (box5 a b c acc)[3 + acc.length]? = some (.int .i64 0) := by
  unfold box5
  rw [List.append_assoc, List.getElem?_append_right (by simp only [List.length_append, List.length_map, List.length_cons, List.length_nil]; omega), List.length_append, List.length_map, show 3 + acc.length - ([a, b, c].length + acc.length) = 0 by show 3 + _ - (3 + _) = 0; omega]
  obtain ⟨k, hk⟩ : ∃ k, 5 - acc.length = k + 1 := ⟨5 - acc.length - 1, by omega⟩
  rw [hk]
  rfl
theorem box5_len (a b c : Value) (acc : List Int) (h : acc.length ≤ 5) : (box5 a b c acc).length = 13 := by
  unfold box5
  simp only [List.length_append, List.length_map, List.length_replicate, List.length_cons, List.length_nil]
  omega
theorem box5_set (a b c : Value) (acc : List Int) (z : Int) (h : acc.length < 5) : (box5 a b c acc).set (3 + acc.length) (.int .i64 z) = box5 a b c (acc ++ [z]) := by
  unfold box5
  obtain ⟨k, hk⟩ : ∃ k, 5 - acc.length = k + 1 := ⟨5 - acc.length - 1, by omega⟩
  rw [hk, List.append_assoc, List.set_append_right _ _ (by simp only [List.length_append, List.length_map, List.length_cons, List.length_nil]; omega), List.length_append, List.length_map, show 3 + acc.length - ([a, b, c].length + acc.length) = 0 by show 3 + _ - (3 + _) = 0; omega, List.map_append]
  rw [show 5 - (acc ++ [z]).length = k by rw [List.length_append]; show 5 - (_ + 1) = k; omega]
  rw [List.replicate_succ]
  show ([a, b, c] ++ acc.map (Value.int .i64)) ++ (Value.int .i64 z :: _) = _
  simp [List.append_assoc]
def ptr5 (N : Nat) : List Value := [.pointer (some ⟨N, 3, none⟩), .pointer (some ⟨N, 4, none⟩), .pointer (some ⟨N, 5, none⟩), .pointer (some ⟨N, 6, none⟩), .pointer (some ⟨N, 7, none⟩)]
theorem ptr5_at {N k : Nat} (h : k < 5) : (ptr5 N)[k]? = some (.pointer (some ⟨N, 3 + k, none⟩)) := by
  match k, h with
  | 0, _ => rfl
  | 1, _ => rfl
  | 2, _ => rfl
  | 3, _ => rfl
  | 4, _ => rfl
def FvRel (l : List UInt8) (B p N qp : Nat) (w : World) (a b c : Value) (T : List Int × Nat × Int) (i : Value) (wq : World) : Prop :=
  ∃ (j : Nat) (acc : List Int) (a2 : Nat) (e2 : Int), j ≤ 5 ∧ i = .int .i64 j ∧ j = acc.length ∧ BoxN w wq p N (box5 a b c acc) ∧ BoxN w wq p qp (ptr5 N) ∧ RW wq B p l a2 e2 ∧ T = (acc ++ (fiveR l (5 - j) a2 e2).1, (fiveR l (5 - j) a2 e2).2)
def MeRel (l : List UInt8) (B p N : Nat) (w : World) (hd : List Value) (D : Value) (base n : Nat) (T : List EntX × Nat × Int) (i : Value) (wq : World) : Prop :=
  ∃ (j : Nat) (acc : List EntX) (a2 : Nat) (e2 : Int) (E : Value), j ≤ n ∧ i = .int .i64 j ∧ j = acc.length ∧ BoxN w wq p N (hd ++ [E, D]) ∧ ERow wq base E acc ∧ RW wq B p l a2 e2 ∧ T = (acc ++ (entsR l (n - j) a2 e2).1, (entsR l (n - j) a2 e2).2)
theorem getMP_ways (l : List UInt8) (K : Nat) (b : List UInt8) (n : Nat) (er : Int) (h : frameG l = ((K, b), n, er)) :
    ((er != 0) = true ∧ getMP l = (msg0, er)) ∨ ((er != 0) = false ∧ n < l.length ∧ getMP l = (msg0, 2)) ∨ ((er != 0) = false ∧ ¬ n < l.length ∧ decide (1 ≤ (K : Int) ∧ (K : Int) ≤ 8) = false ∧ getMP l = (msg0, 2)) ∨
    ((er != 0) = false ∧ ¬ n < l.length ∧ decide (1 ≤ (K : Int) ∧ (K : Int) ≤ 8) = true ∧ ((rEnd b (msgBody 1 7 K b).2.1 (msgBody 1 7 K b).2.2 ≠ 0 ∨ (msgBody 1 7 K b).1.src = (msgBody 1 7 K b).1.dst) → getMP l = (msg0, 2)) ∧
      (rEnd b (msgBody 1 7 K b).2.1 (msgBody 1 7 K b).2.2 = 0 → (msgBody 1 7 K b).1.src ≠ (msgBody 1 7 K b).1.dst → getMP l = ((msgBody 1 7 K b).1, 0))) := by
  unfold getMP
  rw [h]
  simp only
  by_cases h1 : er = 0
  · rw [if_neg (by simpa using h1)]
    have e1 : (er != 0) = false := by simp [h1]
    by_cases h2 : n < l.length
    · exact .inr (.inl ⟨e1, h2, if_pos (.inl h2)⟩)
    · by_cases h3 : 1 ≤ (K : Int) ∧ (K : Int) ≤ 8
      · rw [if_neg (fun h => h.elim h2 (fun h => h h3))]
        exact .inr (.inr (.inr ⟨e1, h2, decide_eq_true h3, fun h => if_pos h, fun h g => if_neg (fun k => k.elim (fun x => x h) (fun x => g x))⟩))
      · exact .inr (.inr (.inl ⟨e1, h2, decide_eq_false h3, if_pos (.inr h3)⟩))
  · rw [if_pos h1]
    exact .inl ⟨by simpa using h1, rfl⟩
theorem tail_five (l : List UInt8) (kind src dst : Int) (a : Nat) (e : Int) : msgTail l kind src dst a e =
    (let T := fiveR l 5 a e
     let r6 := rInt l T.2.1 T.2.2 0 1
     let r7 := rInt l r6.2.1 r6.2.2 0 1099511627776
     let r8 := rInt l r7.2.1 r7.2.2 0 1099511627776
     let r9 := rInt l r8.2.1 r8.2.2 0 6
     let es := entsR l r9.1.toNat r9.2.1 r9.2.2
     let d := rText l es.2.1 es.2.2 160
     (⟨kind, src, dst, T.1.getD 0 0, T.1.getD 1 0, T.1.getD 2 0, T.1.getD 3 0, T.1.getD 4 0, r6.1 == 1, r7.1, r8.1, es.1, d.1⟩, d.2)) := by
  unfold msgTail
  simp only [fiveR, List.getD_cons_zero, List.getD_cons_succ]
theorem BoxN.beside {w wq : World} {p N N' i : Nat} {cs : List Value} (h : BoxN w wq p N cs) (hN : N' ≠ N) (hg : w.heap.size ≤ N') (u : Value) : BoxN w (wq.setCell ⟨N', i, none⟩ u) p N cs :=
  ⟨by simpa [World.setCell] using h.lt, h.ge, ⟨h.upd.os, h.upd.tape, h.upd.output, by simpa [World.setCell] using h.upd.size, fun g hgl hn => (Below.heap_setCell _ _ _ g (by simp; omega)).trans (h.upd.block g hgl hn)⟩, fun j v hv => ⟨cell_far hN (h.c j v hv).1, frozen_far (h.c j v hv).2⟩⟩
theorem len5 {l : List Int} (h : l.length = 5) : ∃ a b c d e, l = [a, b, c, d, e] := by
  match l, h with
  | [a, b, c, d, e], _ => exact ⟨a, b, c, d, e, rfl⟩
theorem five_len (l : List UInt8) : ∀ (k a : Nat) (e : Int), (fiveR l k a e).1.length = k := by
  intro k
  induction k with
  | zero => intro a e; rfl
  | succ k ih => intro a e; show (_ :: _).length = _; rw [List.length_cons, ih]
/-- What is got. -/
def GetP (r : MsgX × Int) (w : World) (e : Ending) (w' : World) : Prop :=
  ∃ A1 c1 A2 c2, e = .returned (.tuple #[.agg (msgCs r.1 (.slice A1 r.1.ents.length c1) (.slice A2 r.1.data.length c2)).toArray, .int .i64 r.2]) ∧ ERow w' w.heap.size (.slice A1 r.1.ents.length c1) r.1.ents ∧ Sl w' w'.heap.size (.slice A2 r.1.data.length c2) (bvals r.1.data) ∧ Below w.heap.size w w'
set_option maxRecDepth 100000 in
set_option maxHeartbeats 4000000 in
theorem getM_any (v : Value) (l : List UInt8) (w : World) (hv : Sl w w.heap.size v (bvals l)) (hl : l.length ≤ 1000000) (hm : MaxL w) : Calls Tryz.prog 10 #[v] w (GetP (getMP l) w) := by
  obtain ⟨A, c, e, hc1, hc2, -⟩ := id hv
  rw [bvals_len] at e hc1
  subst e
  unfold maxLen at hc2
  obtain ⟨W0, hW0⟩ : ∃ W, W = w.alloc (.cells #[(.int .i64 0), (.int .i64 0), (.int .i64 0), (.int .i64 0), (.int .i64 0), (.int .i64 0), (.int .i64 0), (.int .i64 0), (.bool false), (.int .i64 0), (.int .i64 0), (.slice none 0 0), (.slice none 0 0)] 25) := ⟨_, rfl⟩
  obtain ⟨q, hq⟩ : ∃ q, q = w.heap.size := ⟨_, rfl⟩
  have hb0 : Below w.heap.size w W0 := by rw [hW0]; exact bl1 _ _
  have F0 : BoxC W0 q [(.int .i64 0), (.int .i64 0), (.int .i64 0), (.int .i64 0), (.int .i64 0), (.int .i64 0), (.int .i64 0), (.int .i64 0), (.bool false), (.int .i64 0), (.int .i64 0), (.slice none 0 0), (.slice none 0 0)] := by rw [hW0, hq]; exact BoxC.new _ _ _
  have HFG := hid (frameG_any (.slice A l.length c) l W0 ((hv.below hb0).more hb0.size) hl)
  obtain ⟨⟨⟨K, bd⟩, n, er⟩, hfg⟩ : ∃ r, r = frameG l := ⟨_, rfl⟩
  have hways := getMP_ways l K bd n er hfg.symm
  have hbd : bd.length ≤ 1000000 := by
    have : bd = (frameG l).1.2 := by rw [← hfg]
    rw [this]
    unfold frameG
    split
    · simp
    · split
      · simp
      · split
        · simp
        · split
          · show ((l.drop 5).take _).length ≤ _; rw [List.length_take, List.length_drop]; omega
          · simp
  have hnl : (n : Int) ≤ 9223372036854775807 := by
    have : n = (frameG l).2.1 := by rw [← hfg]
    rw [this]
    unfold frameG
    split
    · simp
    · split
      · simp
      · split
        · simp
        · split
          · rename_i h1 h2 h3 h4; show ((nB l + 9 : Nat) : Int) ≤ _; omega
          · simp
  rw [← hfg] at HFG
  unfold FGetP at HFG
  simp only at HFG
  obtain ⟨r, hr⟩ : ∃ r, r = getMP l := ⟨_, rfl⟩
  rw [← hr] at hways ⊢
  have HF0 := hid F0; have HW0 := hid hW0; have HQ := hid hq; have HB0 := hid hb0; have HM := hid hm
  have hqW : q < W0.heap.size := F0.lt
  clear hfg hr hv hb0 F0 hW0 hm hq
  rcases hways with ⟨g1, hR⟩ | ⟨g1, g2, hR⟩ | ⟨g1, g2, g3, hR⟩ | ⟨g1, g2, g3, hR1, hR2⟩
  · have HR := hid hR
    go_enter Tryz.func10, Tryz.ntmps10
    go_upto_region 1 with (fail)
    rw [← HW0.out, ← HQ.out]
    go_wp2_with fail
    (with_reducible refine HFG.out.mono ?_)
    rintro en w1 ⟨Ab, cb, rfl, hob, hb1⟩
    have hF1 := HF0.out.below hb1 hqW
    have hB1 := HB0.out.trans (hb1.mono HB0.out.size)
    obtain ⟨W1, hW1⟩ : ∃ W, W = w1.alloc (.cells #[.int .i64 K, .slice Ab bd.length cb] 54) := ⟨_, rfl⟩
    have hb2 : Below w1.heap.size w1 W1 := by rw [hW1]; exact bl1 _ _
    have k0 : W1.cell? ⟨w1.heap.size, 0, none⟩ = some (.int .i64 K) := by rw [hW1]; simp [go_sem]
    have HF2 := hid (hF1.below hb2 hF1.lt)
    have HB2 := hid (hB1.trans (hb2.mono hB1.size))
    have HW1 := hid hW1
    clear hR hF1 hB1 hob hb1 hW1 hb2
    go_upto_region 2 with (fail)
    rw [← HW1.out]
    obtain ⟨d0, x0⟩ := HF2.out.c 0 _ rfl; obtain ⟨d1, x1⟩ := HF2.out.c 1 _ rfl; obtain ⟨d2, x2⟩ := HF2.out.c 2 _ rfl; obtain ⟨d3, x3⟩ := HF2.out.c 3 _ rfl; obtain ⟨d4, x4⟩ := HF2.out.c 4 _ rfl; obtain ⟨d5, x5⟩ := HF2.out.c 5 _ rfl; obtain ⟨d6, x6⟩ := HF2.out.c 6 _ rfl; obtain ⟨d7, x7⟩ := HF2.out.c 7 _ rfl; obtain ⟨d8, x8⟩ := HF2.out.c 8 _ rfl; obtain ⟨d9, x9⟩ := HF2.out.c 9 _ rfl; obtain ⟨d10, x10⟩ := HF2.out.c 10 _ rfl; obtain ⟨d11, x11⟩ := HF2.out.c 11 _ rfl; obtain ⟨d12, x12⟩ := HF2.out.c 12 _ rfl
    go_wp2
    obtain ⟨W8, hW8⟩ : ∃ W, W = (((((((((((((W1.setCell ⟨q, 0, none⟩ (.int .i64 0)).setCell ⟨q, 1, none⟩ (.int .i64 0)).setCell ⟨q, 2, none⟩ (.int .i64 0)).setCell ⟨q, 3, none⟩ (.int .i64 0)).setCell ⟨q, 4, none⟩ (.int .i64 0)).setCell ⟨q, 5, none⟩ (.int .i64 0)).setCell ⟨q, 6, none⟩ (.int .i64 0)).setCell ⟨q, 7, none⟩ (.int .i64 0)).setCell ⟨q, 8, none⟩ (.bool false)).setCell ⟨q, 9, none⟩ (.int .i64 0)).setCell ⟨q, 10, none⟩ (.int .i64 0)).setCell ⟨q, 11, none⟩ (.slice none 0 0)).setCell ⟨q, 12, none⟩ (.slice none 0 0)) := ⟨_, rfl⟩
    rw [← hW8]
    have F8 : BoxC W8 q [(.int .i64 0), (.int .i64 0), (.int .i64 0), (.int .i64 0), (.int .i64 0), (.int .i64 0), (.int .i64 0), (.int .i64 0), (.bool false), (.int .i64 0), (.int .i64 0), (.slice none 0 0), (.slice none 0 0)] := by rw [hW8]; exact (((((((((((((HF2.out.set 0 (by simp) _).set 1 (by simp) _).set 2 (by simp) _).set 3 (by simp) _).set 4 (by simp) _).set 5 (by simp) _).set 6 (by simp) _).set 7 (by simp) _).set 8 (by simp) _).set 9 (by simp) _).set 10 (by simp) _).set 11 (by simp) _).set 12 (by simp) _)
    have B8 : Below w.heap.size w W8 := by
      rw [hW8]
      have hqq := HQ.out
      exact (((((((((((((HB2.out.setCell (show w.heap.size ≤ q by omega) _).setCell (show w.heap.size ≤ q by omega) _).setCell (show w.heap.size ≤ q by omega) _).setCell (show w.heap.size ≤ q by omega) _).setCell (show w.heap.size ≤ q by omega) _).setCell (show w.heap.size ≤ q by omega) _).setCell (show w.heap.size ≤ q by omega) _).setCell (show w.heap.size ≤ q by omega) _).setCell (show w.heap.size ≤ q by omega) _).setCell (show w.heap.size ≤ q by omega) _).setCell (show w.heap.size ≤ q by omega) _).setCell (show w.heap.size ≤ q by omega) _).setCell (show w.heap.size ≤ q by omega) _)
    have s0 := (F8.c 0 _ rfl).1; have s1 := (F8.c 1 _ rfl).1; have s2 := (F8.c 2 _ rfl).1; have s3 := (F8.c 3 _ rfl).1; have s4 := (F8.c 4 _ rfl).1; have s5 := (F8.c 5 _ rfl).1; have s6 := (F8.c 6 _ rfl).1; have s7 := (F8.c 7 _ rfl).1; have s8 := (F8.c 8 _ rfl).1; have s9 := (F8.c 9 _ rfl).1; have s10 := (F8.c 10 _ rfl).1; have s11 := (F8.c 11 _ rfl).1; have s12 := (F8.c 12 _ rfl).1
    refine bodyPost_ret (v := .tuple #[.agg #[(.int .i64 0), (.int .i64 0), (.int .i64 0), (.int .i64 0), (.int .i64 0), (.int .i64 0), (.int .i64 0), (.int .i64 0), (.bool false), (.int .i64 0), (.int .i64 0), (.slice none 0 0), (.slice none 0 0)], .int .i64 er]) ?_ rfl ?_
    · simp [results, Tryz.results10, go_sem, s0, s1, s2, s3, s4, s5, s6, s7, s8, s9, s10, s11, s12]
    · rw [HR.out]
      exact ⟨none, 0, none, 0, rfl, ERow.nil_ _ _, Sl.nil_, B8⟩
  · have HR := hid hR
    go_enter Tryz.func10, Tryz.ntmps10
    go_upto_region 1 with (fail)
    rw [← HW0.out, ← HQ.out]
    go_wp2_with fail
    (with_reducible refine HFG.out.mono ?_)
    rintro en w1 ⟨Ab, cb, rfl, hob, hb1⟩
    have hF1 := HF0.out.below hb1 hqW
    have hB1 := HB0.out.trans (hb1.mono HB0.out.size)
    obtain ⟨W1, hW1⟩ : ∃ W, W = w1.alloc (.cells #[.int .i64 K, .slice Ab bd.length cb] 54) := ⟨_, rfl⟩
    have hb2 : Below w1.heap.size w1 W1 := by rw [hW1]; exact bl1 _ _
    have k0 : W1.cell? ⟨w1.heap.size, 0, none⟩ = some (.int .i64 K) := by rw [hW1]; simp [go_sem]
    have HF2 := hid (hF1.below hb2 hF1.lt)
    have HB2 := hid (hB1.trans (hb2.mono hB1.size))
    have HW1 := hid hW1
    clear hR hF1 hB1 hob hb1 hW1 hb2
    go_upto_region 2 with (fail)
    rw [← HW1.out]
    obtain ⟨d0, x0⟩ := HF2.out.c 0 _ rfl; obtain ⟨d1, x1⟩ := HF2.out.c 1 _ rfl; obtain ⟨d2, x2⟩ := HF2.out.c 2 _ rfl; obtain ⟨d3, x3⟩ := HF2.out.c 3 _ rfl; obtain ⟨d4, x4⟩ := HF2.out.c 4 _ rfl; obtain ⟨d5, x5⟩ := HF2.out.c 5 _ rfl; obtain ⟨d6, x6⟩ := HF2.out.c 6 _ rfl; obtain ⟨d7, x7⟩ := HF2.out.c 7 _ rfl; obtain ⟨d8, x8⟩ := HF2.out.c 8 _ rfl; obtain ⟨d9, x9⟩ := HF2.out.c 9 _ rfl; obtain ⟨d10, x10⟩ := HF2.out.c 10 _ rfl; obtain ⟨d11, x11⟩ := HF2.out.c 11 _ rfl; obtain ⟨d12, x12⟩ := HF2.out.c 12 _ rfl
    go_wp2
    obtain ⟨W8, hW8⟩ : ∃ W, W = (((((((((((((W1.setCell ⟨q, 0, none⟩ (.int .i64 0)).setCell ⟨q, 1, none⟩ (.int .i64 0)).setCell ⟨q, 2, none⟩ (.int .i64 0)).setCell ⟨q, 3, none⟩ (.int .i64 0)).setCell ⟨q, 4, none⟩ (.int .i64 0)).setCell ⟨q, 5, none⟩ (.int .i64 0)).setCell ⟨q, 6, none⟩ (.int .i64 0)).setCell ⟨q, 7, none⟩ (.int .i64 0)).setCell ⟨q, 8, none⟩ (.bool false)).setCell ⟨q, 9, none⟩ (.int .i64 0)).setCell ⟨q, 10, none⟩ (.int .i64 0)).setCell ⟨q, 11, none⟩ (.slice none 0 0)).setCell ⟨q, 12, none⟩ (.slice none 0 0)) := ⟨_, rfl⟩
    rw [← hW8]
    have F8 : BoxC W8 q [(.int .i64 0), (.int .i64 0), (.int .i64 0), (.int .i64 0), (.int .i64 0), (.int .i64 0), (.int .i64 0), (.int .i64 0), (.bool false), (.int .i64 0), (.int .i64 0), (.slice none 0 0), (.slice none 0 0)] := by rw [hW8]; exact (((((((((((((HF2.out.set 0 (by simp) _).set 1 (by simp) _).set 2 (by simp) _).set 3 (by simp) _).set 4 (by simp) _).set 5 (by simp) _).set 6 (by simp) _).set 7 (by simp) _).set 8 (by simp) _).set 9 (by simp) _).set 10 (by simp) _).set 11 (by simp) _).set 12 (by simp) _)
    have B8 : Below w.heap.size w W8 := by
      rw [hW8]
      have hqq := HQ.out
      exact (((((((((((((HB2.out.setCell (show w.heap.size ≤ q by omega) _).setCell (show w.heap.size ≤ q by omega) _).setCell (show w.heap.size ≤ q by omega) _).setCell (show w.heap.size ≤ q by omega) _).setCell (show w.heap.size ≤ q by omega) _).setCell (show w.heap.size ≤ q by omega) _).setCell (show w.heap.size ≤ q by omega) _).setCell (show w.heap.size ≤ q by omega) _).setCell (show w.heap.size ≤ q by omega) _).setCell (show w.heap.size ≤ q by omega) _).setCell (show w.heap.size ≤ q by omega) _).setCell (show w.heap.size ≤ q by omega) _).setCell (show w.heap.size ≤ q by omega) _)
    have s0 := (F8.c 0 _ rfl).1; have s1 := (F8.c 1 _ rfl).1; have s2 := (F8.c 2 _ rfl).1; have s3 := (F8.c 3 _ rfl).1; have s4 := (F8.c 4 _ rfl).1; have s5 := (F8.c 5 _ rfl).1; have s6 := (F8.c 6 _ rfl).1; have s7 := (F8.c 7 _ rfl).1; have s8 := (F8.c 8 _ rfl).1; have s9 := (F8.c 9 _ rfl).1; have s10 := (F8.c 10 _ rfl).1; have s11 := (F8.c 11 _ rfl).1; have s12 := (F8.c 12 _ rfl).1
    refine bodyPost_ret (v := .tuple #[.agg #[(.int .i64 0), (.int .i64 0), (.int .i64 0), (.int .i64 0), (.int .i64 0), (.int .i64 0), (.int .i64 0), (.int .i64 0), (.bool false), (.int .i64 0), (.int .i64 0), (.slice none 0 0), (.slice none 0 0)], .int .i64 2]) ?_ rfl ?_
    · simp [results, Tryz.results10, go_sem, s0, s1, s2, s3, s4, s5, s6, s7, s8, s9, s10, s11, s12]
    · rw [HR.out]
      exact ⟨none, 0, none, 0, rfl, ERow.nil_ _ _, Sl.nil_, B8⟩
  · have HR := hid hR
    go_enter Tryz.func10, Tryz.ntmps10
    go_upto_region 1 with (fail)
    rw [← HW0.out, ← HQ.out]
    go_wp2_with fail
    (with_reducible refine HFG.out.mono ?_)
    rintro en w1 ⟨Ab, cb, rfl, hob, hb1⟩
    have hF1 := HF0.out.below hb1 hqW
    have hB1 := HB0.out.trans (hb1.mono HB0.out.size)
    obtain ⟨W1, hW1⟩ : ∃ W, W = w1.alloc (.cells #[.int .i64 K, .slice Ab bd.length cb] 54) := ⟨_, rfl⟩
    have hb2 : Below w1.heap.size w1 W1 := by rw [hW1]; exact bl1 _ _
    have k0 : W1.cell? ⟨w1.heap.size, 0, none⟩ = some (.int .i64 K) := by rw [hW1]; simp [go_sem]
    have HF2 := hid (hF1.below hb2 hF1.lt)
    have HB2 := hid (hB1.trans (hb2.mono hB1.size))
    have HW1 := hid hW1
    clear hR hF1 hB1 hob hb1 hW1 hb2
    go_upto_region 2 with (fail)
    rw [← HW1.out]
    have HN := hid (number_eq K 1 8)
    rw [g3] at HN
    clear g3
    obtain ⟨d0, x0⟩ := HF2.out.c 0 _ rfl; obtain ⟨d1, x1⟩ := HF2.out.c 1 _ rfl; obtain ⟨d2, x2⟩ := HF2.out.c 2 _ rfl; obtain ⟨d3, x3⟩ := HF2.out.c 3 _ rfl; obtain ⟨d4, x4⟩ := HF2.out.c 4 _ rfl; obtain ⟨d5, x5⟩ := HF2.out.c 5 _ rfl; obtain ⟨d6, x6⟩ := HF2.out.c 6 _ rfl; obtain ⟨d7, x7⟩ := HF2.out.c 7 _ rfl; obtain ⟨d8, x8⟩ := HF2.out.c 8 _ rfl; obtain ⟨d9, x9⟩ := HF2.out.c 9 _ rfl; obtain ⟨d10, x10⟩ := HF2.out.c 10 _ rfl; obtain ⟨d11, x11⟩ := HF2.out.c 11 _ rfl; obtain ⟨d12, x12⟩ := HF2.out.c 12 _ rfl
    go_wp2_with fail
    refine (HN.out _).mono ?_
    rintro e w2 ⟨rfl, rfl⟩
    go_wp2
    obtain ⟨W8, hW8⟩ : ∃ W, W = (((((((((((((W1.setCell ⟨q, 0, none⟩ (.int .i64 0)).setCell ⟨q, 1, none⟩ (.int .i64 0)).setCell ⟨q, 2, none⟩ (.int .i64 0)).setCell ⟨q, 3, none⟩ (.int .i64 0)).setCell ⟨q, 4, none⟩ (.int .i64 0)).setCell ⟨q, 5, none⟩ (.int .i64 0)).setCell ⟨q, 6, none⟩ (.int .i64 0)).setCell ⟨q, 7, none⟩ (.int .i64 0)).setCell ⟨q, 8, none⟩ (.bool false)).setCell ⟨q, 9, none⟩ (.int .i64 0)).setCell ⟨q, 10, none⟩ (.int .i64 0)).setCell ⟨q, 11, none⟩ (.slice none 0 0)).setCell ⟨q, 12, none⟩ (.slice none 0 0)) := ⟨_, rfl⟩
    rw [← hW8]
    have F8 : BoxC W8 q [(.int .i64 0), (.int .i64 0), (.int .i64 0), (.int .i64 0), (.int .i64 0), (.int .i64 0), (.int .i64 0), (.int .i64 0), (.bool false), (.int .i64 0), (.int .i64 0), (.slice none 0 0), (.slice none 0 0)] := by rw [hW8]; exact (((((((((((((HF2.out.set 0 (by simp) _).set 1 (by simp) _).set 2 (by simp) _).set 3 (by simp) _).set 4 (by simp) _).set 5 (by simp) _).set 6 (by simp) _).set 7 (by simp) _).set 8 (by simp) _).set 9 (by simp) _).set 10 (by simp) _).set 11 (by simp) _).set 12 (by simp) _)
    have B8 : Below w.heap.size w W8 := by
      rw [hW8]
      have hqq := HQ.out
      exact (((((((((((((HB2.out.setCell (show w.heap.size ≤ q by omega) _).setCell (show w.heap.size ≤ q by omega) _).setCell (show w.heap.size ≤ q by omega) _).setCell (show w.heap.size ≤ q by omega) _).setCell (show w.heap.size ≤ q by omega) _).setCell (show w.heap.size ≤ q by omega) _).setCell (show w.heap.size ≤ q by omega) _).setCell (show w.heap.size ≤ q by omega) _).setCell (show w.heap.size ≤ q by omega) _).setCell (show w.heap.size ≤ q by omega) _).setCell (show w.heap.size ≤ q by omega) _).setCell (show w.heap.size ≤ q by omega) _).setCell (show w.heap.size ≤ q by omega) _)
    have s0 := (F8.c 0 _ rfl).1; have s1 := (F8.c 1 _ rfl).1; have s2 := (F8.c 2 _ rfl).1; have s3 := (F8.c 3 _ rfl).1; have s4 := (F8.c 4 _ rfl).1; have s5 := (F8.c 5 _ rfl).1; have s6 := (F8.c 6 _ rfl).1; have s7 := (F8.c 7 _ rfl).1; have s8 := (F8.c 8 _ rfl).1; have s9 := (F8.c 9 _ rfl).1; have s10 := (F8.c 10 _ rfl).1; have s11 := (F8.c 11 _ rfl).1; have s12 := (F8.c 12 _ rfl).1
    refine bodyPost_ret (v := .tuple #[.agg #[(.int .i64 0), (.int .i64 0), (.int .i64 0), (.int .i64 0), (.int .i64 0), (.int .i64 0), (.int .i64 0), (.int .i64 0), (.bool false), (.int .i64 0), (.int .i64 0), (.slice none 0 0), (.slice none 0 0)], .int .i64 2]) ?_ rfl ?_
    · simp [results, Tryz.results10, go_sem, s0, s1, s2, s3, s4, s5, s6, s7, s8, s9, s10, s11, s12]
    · rw [HR.out]
      exact ⟨none, 0, none, 0, rfl, ERow.nil_ _ _, Sl.nil_, B8⟩
  · go_enter Tryz.func10, Tryz.ntmps10
    go_upto_region 1 with (fail)
    rw [← HW0.out, ← HQ.out]
    go_wp2_with fail
    (with_reducible refine HFG.out.mono ?_)
    rintro en w1 ⟨Ab, cb, rfl, hob, hb1⟩
    have hF1 := HF0.out.below hb1 hqW
    have hB1 := HB0.out.trans (hb1.mono HB0.out.size)
    have hpl : Sl w1 w1.heap.size (.slice Ab bd.length cb) (bvals bd) := Own8.sl hob
    obtain ⟨W1, hW1⟩ : ∃ W, W = w1.alloc (.cells #[.int .i64 K, .slice Ab bd.length cb] 54) := ⟨_, rfl⟩
    have hb2 : Below w1.heap.size w1 W1 := by rw [hW1]; exact bl1 _ _
    have k0 : W1.cell? ⟨w1.heap.size, 0, none⟩ = some (.int .i64 K) := by rw [hW1]; simp [go_sem]
    have k1 : W1.cell? ⟨w1.heap.size, 1, none⟩ = some (.slice Ab bd.length cb) := by rw [hW1]; simp [go_sem]
    have hkl : w1.heap.size < W1.heap.size := by rw [hW1]; simp
    have HF2 := hid (hF1.below hb2 hF1.lt)
    have HB2 := hid (hB1.trans (hb2.mono hB1.size))
    have HNW := hid (new_any (.slice Ab bd.length cb) bd W1 ((hpl.below hb2).more hb2.size) (by omega))
    have HN := hid (number_eq K 1 8)
    rw [g3] at HN
    have HW1 := hid hW1; have HR1 := hid hR1; have HR2 := hid hR2
    clear hF1 hB1 hob hb1 hW1 hb2 g3 hpl hR1 hR2
    go_upto_region 2 with (fail)
    rw [← HW1.out]
    go_wp2_with fail
    refine (HN.out _).mono ?_
    rintro e w2 ⟨rfl, rfl⟩
    go_wp2_with fail
    (with_reducible refine HNW.out.mono ?_)
    rintro e w3 ⟨p, rfl, hrw3, hpge, hb3⟩
    have k0 := cellK hb3 hkl k0
    have hp3 := hrw3.lt
    have HB3 := hid (HB2.out.trans (hb3.mono HB2.out.size))
    have HF3 := hid (HF2.out.below hb3 HF2.out.lt)
    have hqp : q < p := Nat.lt_of_lt_of_le HF2.out.lt hpge
    have hpm : p ≠ 0 := by have h1 := HM.out.lt; have h2 := HQ.out; omega
    have HM3 := hid (HM.out.on HB3.out)
    have RW3 := hid hrw3
    clear hrw3 hpge hb3 hkl k1
    go_upto_region 8 with (fail)
    obtain ⟨N, hN⟩ : ∃ N, N = w3.heap.size := ⟨_, rfl⟩
    obtain ⟨W4, hW4⟩ : ∃ W, W = w3.alloc (.cells #[.int .i64 K, .int .i64 0, .int .i64 0, .int .i64 0, .int .i64 0, .int .i64 0, .int .i64 0, .int .i64 0, .bool false, .int .i64 0, .int .i64 0, .slice none 0 0, .slice none 0 0] 25) := ⟨_, rfl⟩
    rw [← hW4, ← hN]
    have hb4 : Below w3.heap.size w3 W4 := by rw [hW4]; exact bl1 _ _
    have HG4 := hid (show BoxN w3 W4 p N (box5 (.int .i64 K) (.int .i64 0) (.int .i64 0) []) by rw [hW4, hN]; exact BoxN.new (Upd.refl _ _) hp3)
    have RW4 := hid (RW3.out.keep (hb4.mono (by omega)))
    have hpN : p < N := by omega
    have HNN := hid hN
    obtain ⟨rs, hrs⟩ : ∃ rs, rs = rInt bd 0 0 1 7 := ⟨_, rfl⟩
    have HI1 := hid (readInt_any p p bd 0 0 1 7 W4 RW4.out)
    rw [← hrs] at HI1
    obtain ⟨s, a1, e1⟩ := rs
    obtain ⟨rd, hrd⟩ : ∃ rd, rd = rInt bd a1 e1 1 7 := ⟨_, rfl⟩
    have HI2 := hid (fun W (hW : RW W p p bd a1 e1) => readInt_any p p bd a1 e1 1 7 W hW)
    rw [← hrd] at HI2
    obtain ⟨d, a2, e2⟩ := rd
    have hmb : msgBody 1 7 K bd = msgTail bd K s d a2 e2 := by
      unfold msgBody
      simp only
      rw [← hrs]
      simp only
      rw [← hrd]
    have HMB := hid hmb
    unfold RIntPost at HI1 HI2
    simp only at HI1 HI2
    clear hN hW4 hb4 k0 hrs hrd hmb
    go_wp2_with fail
    (with_reducible refine HI1.out.mono ?_)
    rintro en w5 ⟨rfl, hrw, hu⟩
    have HG5 := hid (HG4.out.move hp3 hu); have RW5 := hid hrw
    clear hrw hu
    go_wp2_with fail
    refine (HI2.out w5 RW5.out).mono ?_
    rintro en w6 ⟨rfl, hrw, hu⟩
    have HG6 := hid (HG5.out.move hp3 hu); have RW6 := hid hrw
    obtain ⟨m1, y1⟩ := HG6.out.c 1 _ rfl; obtain ⟨m2, y2⟩ := HG6.out.c 2 _ rfl
    clear hrw hu
    go_upto_region 9 with (fail)
    obtain ⟨W7, hW7⟩ : ∃ W, W = (w6.setCell ⟨N, 1, none⟩ (.int .i64 s)).setCell ⟨N, 2, none⟩ (.int .i64 d) := ⟨_, rfl⟩
    rw [← hW7]
    have HG7 := hid (show BoxN w3 W7 p N (box5 (.int .i64 K) (.int .i64 s) (.int .i64 d) []) by rw [hW7]; exact (HG6.out.set 1 (by simp [box5]) _).set 2 (by simp [box5]) _)
    have RW7 := hid (show RW W7 p p bd a2 e2 by rw [hW7]; exact (RW6.out.set hpN _).set hpN _)
    clear hW7 m1 y1 m2 y2
    go_upto_region 10 with (fail)
    obtain ⟨qp, hqp'⟩ : ∃ qp, qp = W7.heap.size := ⟨_, rfl⟩
    obtain ⟨W8, hW8⟩ : ∃ W, W = W7.alloc (.cells #[.pointer (some ⟨N, 3, none⟩), .pointer (some ⟨N, 4, none⟩), .pointer (some ⟨N, 5, none⟩), .pointer (some ⟨N, 6, none⟩), .pointer (some ⟨N, 7, none⟩)] 59) := ⟨_, rfl⟩
    rw [← hW8, ← hqp']
    have hb8 : Below W7.heap.size W7 W8 := by rw [hW8]; exact bl1 _ _
    have HG8 := hid (HG7.out.over hp3 (hb8.mono (by have := HG7.out.lt; omega)))
    have HP8 := hid (show BoxN w3 W8 p qp (ptr5 N) by rw [hW8, hqp']; exact BoxN.new HG7.out.upd hp3)
    have RW8 := hid (RW7.out.keep (hb8.mono (by have := HG7.out.lt; omega)))
    have hNqp : N < qp := by have := HG7.out.lt; omega
    obtain ⟨T, hT⟩ : ∃ T, T = fiveR bd 5 a2 e2 := ⟨_, rfl⟩
    have HT := hid hT
    clear hW8 hqp' hb8 hT
    go_loopw [53] (fun i wq => FvRel bd p p N qp w3 (.int .i64 K) (.int .i64 s) (.int .i64 d) T i wq) (fun i _ => 5 - (intOf i).toNat)
    case atStart => exact ⟨0, [], a2, e2, by omega, rfl, rfl, HG8.out, HP8.out, RW8.out, by rw [HT.out]; simp⟩
    case round =>
    obtain ⟨j, acc, a3, e3, hj, rfl, hja, hbx, hbp, hrw, hTT⟩ := hrel
    have HBX := hid hbx; have HBP := hid hbp; have RWj := hid hrw; have HTT := hid hTT; have HJA := hid hja
    clear hbx hbp hrw hTT hja
    by_cases hlt : j < 5
    · obtain ⟨pk, -⟩ := HBP.out.c j _ (ptr5_at hlt)
      have HCI := hid (readInt_any p p bd a3 e3 0 1099511627776 wr RWj.out)
      have HST := hid (five_step hlt HTT.out)
      generalize rInt bd a3 e3 0 1099511627776 = r1 at *
      obtain ⟨z, a4, e4⟩ := r1
      unfold RIntPost at HCI
      simp only at HCI HST
      go_wp2_with fail
      (with_reducible refine HCI.out.mono ?_)
      rintro en w9 ⟨rfl, hrw, hu⟩
      have HBX9 := hid (HBX.out.move hp3 hu); have HBP9 := hid (HBP.out.move hp3 hu); have RW9 := hid hrw
      obtain ⟨mk, yk⟩ := HBX9.out.c (3 + j) _ (by rw [HJA.out]; exact box5_at _ _ _ acc (by have := HJA.out; omega))
      have hnx : FvRel bd p p N qp w3 (.int .i64 K) (.int .i64 s) (.int .i64 d) T (.int .i64 ((j : Int) + 1)) (w9.setCell ⟨N, 3 + j, none⟩ (.int .i64 z)) := by
        have hs := HBX9.out.set (3 + j) (by have := HJA.out; rw [box5_len _ _ _ _ (by omega)]; omega) (.int .i64 z)
        rw [show (box5 (.int .i64 K) (.int .i64 s) (.int .i64 d) acc).set (3 + j) (.int .i64 z) = box5 (.int .i64 K) (.int .i64 s) (.int .i64 d) (acc ++ [z]) by rw [HJA.out]; exact box5_set _ _ _ acc z (by have := HJA.out; omega)] at hs
        refine ⟨j + 1, acc ++ [z], a4, e4, by omega, by go_num, by rw [List.length_append, ← HJA.out]; rfl, hs, HBP9.out.beside (by omega) (by have := HNN.out; omega) _, RW9.out.set hpN _, HST.out⟩
      have HNX := hid hnx
      clear hrw hu hnx
      go_wp2
      go_roundw
      case rel => exact HNX.out
      case measure => simp [intOf]; omega
    · obtain rfl : j = 5 := by omega
      have hTe : T = (acc, a3, e3) := by rw [HTT.out, Nat.sub_self]; simp [fiveR]
      obtain ⟨x1, x2, x3, x4, x5, rfl⟩ := len5 HJA.out.symm
      have hgb : box5 (.int .i64 K) (.int .i64 s) (.int .i64 d) [x1, x2, x3, x4, x5] = [.int .i64 K, .int .i64 s, .int .i64 d, .int .i64 x1, .int .i64 x2, .int .i64 x3, .int .i64 x4, .int .i64 x5, .bool false, .int .i64 0, .int .i64 0, .slice none 0 0, .slice none 0 0] := rfl
      have HA := hid HBX.out
      rw [hgb] at HA
      have hmt := tail_five bd K s d a2 e2
      rw [← HT.out, hTe] at hmt
      simp only [List.getD_cons_zero, List.getD_cons_succ] at hmt
      have HI6 := hid (fun W (hW : RW W p p bd a3 e3) => readInt_any p p bd a3 e3 0 1 W hW)
      obtain ⟨r6, hr6⟩ : ∃ r6, r6 = rInt bd a3 e3 0 1 := ⟨_, rfl⟩
      rw [← hr6] at HI6 hmt
      obtain ⟨z6, a6, e6⟩ := r6
      simp only at hmt
      have HI7 := hid (fun W (hW : RW W p p bd a6 e6) => readInt_any p p bd a6 e6 0 1099511627776 W hW)
      obtain ⟨r7, hr7⟩ : ∃ r7, r7 = rInt bd a6 e6 0 1099511627776 := ⟨_, rfl⟩
      rw [← hr7] at HI7 hmt
      obtain ⟨z7, a7, e7⟩ := r7
      simp only at hmt
      have HI8 := hid (fun W (hW : RW W p p bd a7 e7) => readInt_any p p bd a7 e7 0 1099511627776 W hW)
      obtain ⟨r8, hr8⟩ : ∃ r8, r8 = rInt bd a7 e7 0 1099511627776 := ⟨_, rfl⟩
      rw [← hr8] at HI8 hmt
      obtain ⟨z8, a8, e8⟩ := r8
      simp only at hmt
      unfold RIntPost at HI6 HI7 HI8
      simp only at HI6 HI7 HI8
      have HMT := hid hmt
      clear hr6 hr7 hr8 hmt hTe hgb HTT HJA HT HBP hlt hj HG8 HP8 RW8 HBX
      go_wp2_with fail
      refine (HI6.out wr RWj.out).mono ?_
      rintro en w9 ⟨rfl, hrw, hu⟩
      have HA1 := hid (HA.out.move hp3 hu); have RW9 := hid hrw
      obtain ⟨m8, y8⟩ := HA1.out.c 8 _ rfl
      clear hrw hu
      go_upto_region 15 with (fail)
      obtain ⟨V1, hV⟩ : ∃ W, W = w9.setCell ⟨N, 8, none⟩ (.bool (z6 == 1)) := ⟨_, rfl⟩
      rw [← hV]
      have HA2 := hid (show BoxN w3 V1 p N [.int .i64 K, .int .i64 s, .int .i64 d, .int .i64 x1, .int .i64 x2, .int .i64 x3, .int .i64 x4, .int .i64 x5, .bool (z6 == 1), .int .i64 0, .int .i64 0, .slice none 0 0, .slice none 0 0] by rw [hV]; exact HA1.out.set 8 (by simp) _)
      have RV1 := hid (show RW V1 p p bd a6 e6 by rw [hV]; exact RW9.out.set hpN _)
      clear hV m8 y8 HA1 RW9
      go_wp2_with fail
      refine (HI7.out V1 RV1.out).mono ?_
      rintro en w10 ⟨rfl, hrw, hu⟩
      have HA3 := hid (HA2.out.move hp3 hu); have RW10 := hid hrw
      clear hrw hu
      go_wp2_with fail
      refine (HI8.out w10 RW10.out).mono ?_
      rintro en w11 ⟨rfl, hrw, hu⟩
      have HA4 := hid (HA3.out.move hp3 hu); have RW11 := hid hrw
      obtain ⟨m9, y9⟩ := HA4.out.c 9 _ rfl; obtain ⟨m10, y10⟩ := HA4.out.c 10 _ rfl
      clear hrw hu HA2 HA3 RV1 RW10
      go_upto_region 16 with (fail)
      obtain ⟨V2, hV⟩ : ∃ W, W = (w11.setCell ⟨N, 9, none⟩ (.int .i64 z7)).setCell ⟨N, 10, none⟩ (.int .i64 z8) := ⟨_, rfl⟩
      rw [← hV]
      obtain ⟨hd, hhd⟩ : ∃ hd : List Value, hd = [.int .i64 K, .int .i64 s, .int .i64 d, .int .i64 x1, .int .i64 x2, .int .i64 x3, .int .i64 x4, .int .i64 x5, .bool (z6 == 1), .int .i64 z7, .int .i64 z8] := ⟨_, rfl⟩
      have HA5 := hid (show BoxN w3 V2 p N (hd ++ [.slice none 0 0, .slice none 0 0]) by rw [hV, hhd]; exact (HA4.out.set 9 (by simp) _).set 10 (by simp) _)
      have RV2 := hid (show RW V2 p p bd a8 e8 by rw [hV]; exact (RW11.out.set hpN _).set hpN _)
      have hal8 : a8 ≤ bd.length := RV2.out.2.1
      obtain ⟨n9, a9, e9, hr9, hn6, -, -⟩ := rInt_in bd a8 e8 6 hal8
      have HI9 := hid (readInt_any p p bd a8 e8 0 6 V2 RV2.out)
      have hr9 : rInt bd a8 e8 0 6 = ((n9 : Int), a9, e9) := hr9
      rw [hr9] at HI9
      have hmt := HMT.out
      rw [hr9] at hmt
      simp only [Int.toNat_natCast] at hmt
      obtain ⟨U, hU⟩ : ∃ U, U = entsR bd n9 a9 e9 := ⟨_, rfl⟩
      rw [← hU] at hmt
      have HMU := hid hmt; have HU := hid hU; have HHD := hid hhd
      unfold RIntPost at HI9
      simp only at HI9
      clear hV m9 y9 m10 y10 HA4 RW11 hmt hU hhd hr9 HMT
      go_wp2_with fail
      (with_reducible refine HI9.out.mono ?_)
      rintro en w12 ⟨rfl, hrw, hu⟩
      have HA6 := hid (HA5.out.move hp3 hu); have RW12 := hid hrw
      clear hrw hu
      go_wp2
      go_loopw [74] (fun i wq => MeRel bd p p N w3 hd (.slice none 0 0) (N + 1) n9 U i wq) (fun i _ => n9 - (intOf i).toNat)
      case atStart => exact ⟨0, [], a9, e9, _, by omega, rfl, rfl, HA6.out, ERow.nil_ _ _, RW12.out, by rw [HU.out]; simp⟩
      case round =>
      obtain ⟨j, acc, a10, e10, E, hj, rfl, hja, hbx, her, hrw, hTT⟩ := hrel
      have HBX := hid hbx; have RWj := hid hrw; have HTT := hid hTT; have HJA := hid hja; have HER := hid her
      have hNl := hbx.lt
      have hhl : hd.length = 11 := by rw [HHD.out]; rfl
      have c11 : (hd ++ [E, .slice none 0 0])[11]? = some E := by rw [List.getElem?_append_right (by omega), hhl]; rfl
      obtain ⟨m11, y11⟩ := hbx.c 11 _ c11
      obtain ⟨es, he1, he2, he3⟩ := her
      obtain ⟨Ae, ce, rfl⟩ := own_formB he2
      have HE1 := hid he1; have HE2 := hid he2; have HE3 := hid he3
      have HHL := hid hhl
      have hmw := HM3.out.upd hbx.upd hpm
      have HMW := hid hmw
      clear hbx hrw hTT hja c11 he1 he2 he3 hhl hmw
      rw [← HJA.out] at m11 HE2
      by_cases hlt : j < n9
      · have HRE := hid (readEnt_any p p bd a10 e10 wr.drew (RWj.out.qu ⟨1, rfl⟩) (HMW.out.on ((Below.refl _ wr).drew)) hpm hbd)
        have HST := hid (ent_step hlt HTT.out)
        generalize entR bd a10 e10 = r1 at *
        obtain ⟨⟨i1, t1, o1, s1, q1, fs⟩, a11, e11⟩ := r1
        unfold EntP entVs at HRE
        simp only at HRE HST
        obtain ⟨ti, hi', hz0', hz1', hz2'⟩ := info_parts info_ent
        go_upto_region 18 with (fail)
        go_region_law (first
          | (refine step_append_lies _ (by rfl) (.tmp 77) (.tmp 80) 22 (by rfl) (N + 1) 49 ti (.agg #[.int .i64 0, .int .i64 0, .int .i64 0, .int .i64 0, .int .i64 0, .slice none 0 0]) 6 64 Tryz.underlying22 hi' hz0' hz1' hz2' rfl (by omega) _ j (es.flatMap ent6) (by rfl) (O5.out.alloc _) ⟨w5'.heap.size, 0, none⟩ 1 1 [.int .i64 i1, .int .i64 t1, .int .i64 o1, .int .i64 s1, .int .i64 q1, .slice Af fs.length kf] (by rfl) rfl (cells_new_at _ _ _ rfl) (by simp; exact ⟨rfl, rfl, rfl, rfl, rfl, rfl⟩) (by omega) (by unfold maxLen; omega) (by omega) (by simp; omega) (w5'.heap.size + 1) (by simp) ?_; intro g cap w6' ho6 hg6 hat6 hlt6; have b6 : Below (N + 1) (w5'.alloc (.cells #[.int .i64 i1, .int .i64 t1, .int .i64 o1, .int .i64 s1, .int .i64 q1, .slice Af fs.length kf] 49)) w6' := (Below.refl _ _).grown hg6 (by simp; omega) (fun j hj => (O5.out.lt j hj).1); have m3 := cellK b6 (show N < N + 1 by omega) k12; have m5 := frozenK b6 (show N < N + 1 by omega) (frozen_alloc (o := .cells #[.int .i64 i1, .int .i64 t1, .int .i64 o1, .int .i64 s1, .int .i64 q1, .slice Af fs.length kf] 49) (show N < w5'.heap.size by omega) z11))
          | (go_simp; go_at_call 29; refine HRE.out.mono ?_; rintro en w5' ⟨Af, kf, rfl, hc5, hrw5, hu5⟩; have U5 := hid (show Upd p wr w5' from (Upd.of_below (Below.refl wr.heap.size wr).drew).trans hu5); have HB5 := hid (HBX.out.move hp3 U5.out); have RW5' := hid hrw5; have HC5 := hid hc5; have O5 := hid (own_keepT HE2.out (KeepT.of_upd U5.out (by omega))); obtain ⟨k11, z11⟩ := HB5.out.c 11 _ (show (hd ++ [Value.slice Ae acc.length ce, Value.slice none 0 0])[11]? = some (Value.slice Ae acc.length ce) by rw [List.getElem?_append_right (by have := HHL.out; omega), HHL.out]; rfl); rw [← HJA.out] at k11; have z5 := U5.out.size; have k12 := cell_alloc (o := .cells #[.int .i64 i1, .int .i64 t1, .int .i64 o1, .int .i64 s1, .int .i64 q1, .slice Af fs.length kf] 49) (show N < w5'.heap.size by omega) k11; clear hu5 hrw5 hc5))
        all_goals
          have b56 : Below (N + 1) w5' w6' := ((Below.refl _ w5').alloc (by omega) _).trans b6
          have kU : ∀ e, KeepT e (N + 1) wr (w5'.alloc (.cells #[.int .i64 i1, .int .i64 t1, .int .i64 o1, .int .i64 s1, .int .i64 q1, .slice Af fs.length kf] 49)) := fun e => (KeepT.of_upd U5.out (by omega)).trans (KeepT.of_below (bl1 w5' _))
          have hge5 : N + 1 ≤ wr.drew.heap.size := by show N + 1 ≤ wr.heap.size; omega
          have her : ERow w6' (N + 1) (.slice (some ⟨g, 0, none⟩) (j + 1) cap) (acc ++ [(i1, t1, o1, s1, q1, fs)]) :=
            ERow.app (x := ((i1, t1, o1, s1, q1, fs), .slice Af fs.length kf)) HE1.out (by rw [← HJA.out]; exact O5.out.alloc _) (fun x hx => (HE3.out x hx).keepT kU) ((HC5.out.less hge5).on (bl1 w5' _)) (by rw [← HJA.out]; exact ho6) hg6
          have hbx6 := (HB5.out.over hp3 b56).set 11 (by simp [HHL.out]) (.slice (some ⟨g, 0, none⟩) (j + 1) cap)
          rw [show (hd ++ [Value.slice Ae acc.length ce, Value.slice none 0 0]).set 11 (.slice (some ⟨g, 0, none⟩) (j + 1) cap) = hd ++ [.slice (some ⟨g, 0, none⟩) (j + 1) cap, Value.slice none 0 0] by rw [List.set_append_right _ _ (by have := HHL.out; omega), HHL.out]; rfl] at hbx6
          have HNX := hid (show MeRel bd p p N w3 hd (.slice none 0 0) (N + 1) n9 U (.int .i64 ((j : Int) + 1)) (w6'.setCell ⟨N, 11, none⟩ (.slice (some ⟨g, 0, none⟩) (j + 1) cap)) from
            ⟨j + 1, acc ++ [(i1, t1, o1, s1, q1, fs)], a11, e11, _, by omega, by go_num, by rw [List.length_append, ← HJA.out]; rfl, hbx6, her.set (by omega) _, (RW5'.out.keep (b56.mono (by omega))).set hpN _, HST.out⟩)
          clear b56 kU her hbx6 ho6 hg6 hat6 hlt6 b6
          go_wp2
          go_roundw
          case rel => exact HNX.out
          case measure => simp [intOf]; omega
      · have hjn : j = n9 := by omega
        subst hjn
        have hmt := HMU.out
        rw [show U = (acc, a10, e10) by rw [HTT.out, Nat.sub_self]; simp [entsR]] at hmt
        simp only at hmt
        have HTX := hid (readText_any p p bd a10 e10 160 wr RWj.out)
        obtain ⟨r12, hr12⟩ : ∃ r12, r12 = rText bd a10 e10 160 := ⟨_, rfl⟩
        have htl : r12.1.length ≤ 160 := by rw [hr12]; exact rText_le bd a10 e10
        rw [← hr12] at HTX hmt
        obtain ⟨tx, a12, e12⟩ := r12
        unfold RTextPost at HTX
        simp only at HTX hmt htl
        have HMT := hid (HMB.out.trans hmt)
        obtain ⟨xm, hxm⟩ : ∃ xm, xm = tx.toArray := ⟨_, rfl⟩
        rw [← hxm] at HTX
        have HXM := hid hxm
        clear hmt hr12 hxm
        go_wp2_with fail
        (with_reducible refine HTX.out.mono ?_)
        rintro en w13 ⟨rfl, hrw, hu⟩
        obtain ⟨WY, cap, hWY, hbY, hltY, hsY, hcl, hcm⟩ := bytes_of w13 ⟨xm⟩ (by show xm.size ≤ _; rw [HXM.out]; simp; omega)
        have hsz : (⟨xm⟩ : ByteArray).size = tx.length := by show xm.size = _; rw [HXM.out]; simp
        have hdt : (⟨xm⟩ : ByteArray).data.toList = tx := by show xm.toList = _; rw [HXM.out]
        rw [hsz] at hWY hsY
        rw [hdt] at hsY
        have HB13 := hid ((HBX.out.move hp3 hu).over hp3 (hbY.mono (by have := hu.size; omega)))
        have RW13 := hid (hrw.keep (hbY.mono (by have := hu.size; omega)))
        have HE13 := hid (show ERow WY (N + 1) (.slice Ae acc.length ce) acc from ERow.keepT (w := wr) ⟨es, HE1.out, by rw [← HJA.out]; exact HE2.out, HE3.out⟩ (fun e => (KeepT.of_upd hu (by omega)).trans (KeepT.of_below hbY)))
        have HSY := hid hsY
        have hYN : N < w13.heap.size := by have := hu.size; omega
        obtain ⟨m12, y12⟩ := HB13.out.c 12 _ (show (hd ++ [Value.slice Ae acc.length ce, Value.slice none 0 0])[12]? = some (.slice none 0 0) by rw [List.getElem?_append_right (by have := HHL.out; omega), HHL.out]; rfl)
        obtain ⟨V4, hV4⟩ : ∃ W, W = WY.setCell ⟨N, 12, none⟩ (.slice (some ⟨w13.heap.size, 0, none⟩) tx.length cap) := ⟨_, rfl⟩
        have RV4 := hid (show RW V4 p p bd a12 e12 by rw [hV4]; exact RW13.out.set hpN _)
        have hb4 := HB13.out.set 12 (by simp [HHL.out]) (.slice (some ⟨w13.heap.size, 0, none⟩) tx.length cap)
        rw [show (hd ++ [Value.slice Ae acc.length ce, Value.slice none 0 0]).set 12 (.slice (some ⟨w13.heap.size, 0, none⟩) tx.length cap) = hd ++ [Value.slice Ae acc.length ce, .slice (some ⟨w13.heap.size, 0, none⟩) tx.length cap] by rw [List.set_append_right _ _ (by have := HHL.out; omega), HHL.out]; rfl, ← hV4] at hb4
        have HV4 := hid hb4
        have HE4 := hid (show ERow V4 (N + 1) (.slice Ae acc.length ce) acc by rw [hV4]; exact HE13.out.set (by omega) _)
        have hs4 : SlE V4 (fun k => k = w13.heap.size) (.slice (some ⟨w13.heap.size, 0, none⟩) tx.length cap) (bvals tx) := by
          rw [hV4]
          exact HSY.out.kept (fun k hk => (Below.heap_setCell _ _ _ k (by simp; omega)))
        have HS4 := hid hs4
        have HEND := hid (readEnd_any p p bd a12 e12 V4 RV4.out)
        obtain ⟨ee, hee⟩ : ∃ ee, ee = rEnd bd a12 e12 := ⟨_, rfl⟩
        rw [← hee] at HEND
        have hR1 := HR1.out
        have hR2 := HR2.out
        rw [HMT.out] at hR1 hR2
        simp only at hR1 hR2
        rw [← hee] at hR1 hR2
        have HR1' := hid hR1; have HR2' := hid hR2
        have HV4' := hid hV4
        clear hrw hu hsY hbY hb4 hs4 hee hR1 hR2 hV4
        go_upto_region 21 with (fail)
        rw [← HV4'.out]
        go_wp2_with fail
        (with_reducible refine HEND.out.mono ?_)
        rintro en w14 ⟨rfl, hq14⟩
        have HV5 := hid (HV4.out.over hp3 (hq14.below _)); have HE5 := hid (HE4.out.on (hq14.below _))
        have HS5 := hid (HS4.out.kept (E := fun k => k = w13.heap.size) (fun k hk => (hq14.below (k + 1)).block k (by omega)))
        clear hq14 m12 y12 hWY
        rw [HHD.out] at HV5
        obtain ⟨c0, -⟩ := HV5.out.c 0 _ rfl; obtain ⟨c1, -⟩ := HV5.out.c 1 _ rfl; obtain ⟨c2, -⟩ := HV5.out.c 2 _ rfl; obtain ⟨c3, -⟩ := HV5.out.c 3 _ rfl; obtain ⟨c4, -⟩ := HV5.out.c 4 _ rfl; obtain ⟨c5, -⟩ := HV5.out.c 5 _ rfl; obtain ⟨c6, -⟩ := HV5.out.c 6 _ rfl; obtain ⟨c7, -⟩ := HV5.out.c 7 _ rfl; obtain ⟨c8, -⟩ := HV5.out.c 8 _ rfl; obtain ⟨c9, -⟩ := HV5.out.c 9 _ rfl; obtain ⟨c10, -⟩ := HV5.out.c 10 _ rfl; obtain ⟨c11, -⟩ := HV5.out.c 11 _ rfl; obtain ⟨c12, -⟩ := HV5.out.c 12 _ rfl
        have F6 := HF3.out.upd HV5.out.upd hp3 (by omega)
        have B6 := HB3.out.trans (HV5.out.upd.below (B := w.heap.size) (by have := HQ.out; omega) hp3)
        have HF6 := hid F6; have HB6 := hid B6
        obtain ⟨d0, x0⟩ := F6.c 0 _ rfl; obtain ⟨d1, z1⟩ := F6.c 1 _ rfl; obtain ⟨d2, z2⟩ := F6.c 2 _ rfl; obtain ⟨d3, z3⟩ := F6.c 3 _ rfl; obtain ⟨d4, z4⟩ := F6.c 4 _ rfl; obtain ⟨d5, z5⟩ := F6.c 5 _ rfl; obtain ⟨d6, y6⟩ := F6.c 6 _ rfl; obtain ⟨d7, y7⟩ := F6.c 7 _ rfl; obtain ⟨d8, y8⟩ := F6.c 8 _ rfl; obtain ⟨d9, y9⟩ := F6.c 9 _ rfl; obtain ⟨d10, y10⟩ := F6.c 10 _ rfl; obtain ⟨d11, y11'⟩ := F6.c 11 _ rfl; obtain ⟨d12, y12⟩ := F6.c 12 _ rfl
        clear F6 B6 m11 y11
        by_cases he : ee = 0
        · by_cases hsd : s = d
          · have t1 : (ee != 0) = false := by simp [he]
            have t2 : (s == d) = true := by simpa using hsd
            have HR := hid (HR1'.out (.inr hsd))
            clear he hsd
            go_wp2
            obtain ⟨W8, hW8⟩ : ∃ W, W = (((((((((((((w14.setCell ⟨q, 0, none⟩ (.int .i64 0)).setCell ⟨q, 1, none⟩ (.int .i64 0)).setCell ⟨q, 2, none⟩ (.int .i64 0)).setCell ⟨q, 3, none⟩ (.int .i64 0)).setCell ⟨q, 4, none⟩ (.int .i64 0)).setCell ⟨q, 5, none⟩ (.int .i64 0)).setCell ⟨q, 6, none⟩ (.int .i64 0)).setCell ⟨q, 7, none⟩ (.int .i64 0)).setCell ⟨q, 8, none⟩ (.bool false)).setCell ⟨q, 9, none⟩ (.int .i64 0)).setCell ⟨q, 10, none⟩ (.int .i64 0)).setCell ⟨q, 11, none⟩ (.slice none 0 0)).setCell ⟨q, 12, none⟩ (.slice none 0 0)) := ⟨_, rfl⟩
            rw [← hW8]
            have F8 : BoxC W8 q [(.int .i64 0), (.int .i64 0), (.int .i64 0), (.int .i64 0), (.int .i64 0), (.int .i64 0), (.int .i64 0), (.int .i64 0), (.bool false), (.int .i64 0), (.int .i64 0), (.slice none 0 0), (.slice none 0 0)] := by rw [hW8]; exact (((((((((((((HF6.out.set 0 (by simp) _).set 1 (by simp) _).set 2 (by simp) _).set 3 (by simp) _).set 4 (by simp) _).set 5 (by simp) _).set 6 (by simp) _).set 7 (by simp) _).set 8 (by simp) _).set 9 (by simp) _).set 10 (by simp) _).set 11 (by simp) _).set 12 (by simp) _)
            have B8 : Below w.heap.size w W8 := by
              rw [hW8]
              have hqq := HQ.out
              exact (((((((((((((HB6.out.setCell (show w.heap.size ≤ q by omega) _).setCell (show w.heap.size ≤ q by omega) _).setCell (show w.heap.size ≤ q by omega) _).setCell (show w.heap.size ≤ q by omega) _).setCell (show w.heap.size ≤ q by omega) _).setCell (show w.heap.size ≤ q by omega) _).setCell (show w.heap.size ≤ q by omega) _).setCell (show w.heap.size ≤ q by omega) _).setCell (show w.heap.size ≤ q by omega) _).setCell (show w.heap.size ≤ q by omega) _).setCell (show w.heap.size ≤ q by omega) _).setCell (show w.heap.size ≤ q by omega) _).setCell (show w.heap.size ≤ q by omega) _)
            have s0 := (F8.c 0 _ rfl).1; have s1 := (F8.c 1 _ rfl).1; have s2 := (F8.c 2 _ rfl).1; have s3 := (F8.c 3 _ rfl).1; have s4 := (F8.c 4 _ rfl).1; have s5 := (F8.c 5 _ rfl).1; have s6 := (F8.c 6 _ rfl).1; have s7 := (F8.c 7 _ rfl).1; have s8 := (F8.c 8 _ rfl).1; have s9 := (F8.c 9 _ rfl).1; have s10 := (F8.c 10 _ rfl).1; have s11 := (F8.c 11 _ rfl).1; have s12 := (F8.c 12 _ rfl).1
            refine bodyPost_ret (v := .tuple #[.agg #[(.int .i64 0), (.int .i64 0), (.int .i64 0), (.int .i64 0), (.int .i64 0), (.int .i64 0), (.int .i64 0), (.int .i64 0), (.bool false), (.int .i64 0), (.int .i64 0), (.slice none 0 0), (.slice none 0 0)], .int .i64 2]) ?_ rfl ?_
            · simp [results, Tryz.results10, go_sem, s0, s1, s2, s3, s4, s5, s6, s7, s8, s9, s10, s11, s12]
            · rw [HR.out]
              exact ⟨none, 0, none, 0, rfl, ERow.nil_ _ _, Sl.nil_, B8⟩

          · have t1 : (ee != 0) = false := by simp [he]
            have t2 : (s == d) = false := by simpa using hsd
            have HR := hid (HR2'.out he hsd)
            clear he hsd
            go_wp2
            obtain ⟨W8, hW8⟩ : ∃ W, W = (((((((((((((w14.setCell ⟨q, 0, none⟩ (.int .i64 K)).setCell ⟨q, 1, none⟩ (.int .i64 s)).setCell ⟨q, 2, none⟩ (.int .i64 d)).setCell ⟨q, 3, none⟩ (.int .i64 x1)).setCell ⟨q, 4, none⟩ (.int .i64 x2)).setCell ⟨q, 5, none⟩ (.int .i64 x3)).setCell ⟨q, 6, none⟩ (.int .i64 x4)).setCell ⟨q, 7, none⟩ (.int .i64 x5)).setCell ⟨q, 8, none⟩ (.bool (z6 == 1))).setCell ⟨q, 9, none⟩ (.int .i64 z7)).setCell ⟨q, 10, none⟩ (.int .i64 z8)).setCell ⟨q, 11, none⟩ (.slice Ae acc.length ce)).setCell ⟨q, 12, none⟩ (.slice (some ⟨w13.heap.size, 0, none⟩) tx.length cap)) := ⟨_, rfl⟩
            rw [← hW8]
            have F8 : BoxC W8 q [(.int .i64 K), (.int .i64 s), (.int .i64 d), (.int .i64 x1), (.int .i64 x2), (.int .i64 x3), (.int .i64 x4), (.int .i64 x5), (.bool (z6 == 1)), (.int .i64 z7), (.int .i64 z8), (.slice Ae acc.length ce), (.slice (some ⟨w13.heap.size, 0, none⟩) tx.length cap)] := by rw [hW8]; exact (((((((((((((HF6.out.set 0 (by simp) _).set 1 (by simp) _).set 2 (by simp) _).set 3 (by simp) _).set 4 (by simp) _).set 5 (by simp) _).set 6 (by simp) _).set 7 (by simp) _).set 8 (by simp) _).set 9 (by simp) _).set 10 (by simp) _).set 11 (by simp) _).set 12 (by simp) _)
            have B8 : Below w.heap.size w W8 := by
              rw [hW8]
              have hqq := HQ.out
              exact (((((((((((((HB6.out.setCell (show w.heap.size ≤ q by omega) _).setCell (show w.heap.size ≤ q by omega) _).setCell (show w.heap.size ≤ q by omega) _).setCell (show w.heap.size ≤ q by omega) _).setCell (show w.heap.size ≤ q by omega) _).setCell (show w.heap.size ≤ q by omega) _).setCell (show w.heap.size ≤ q by omega) _).setCell (show w.heap.size ≤ q by omega) _).setCell (show w.heap.size ≤ q by omega) _).setCell (show w.heap.size ≤ q by omega) _).setCell (show w.heap.size ≤ q by omega) _).setCell (show w.heap.size ≤ q by omega) _).setCell (show w.heap.size ≤ q by omega) _)
            have E8 : ERow W8 (N + 1) (.slice Ae acc.length ce) acc := by
              rw [hW8]
              exact (((((((((((((HE5.out.set (show q < N + 1 by omega) _).set (show q < N + 1 by omega) _).set (show q < N + 1 by omega) _).set (show q < N + 1 by omega) _).set (show q < N + 1 by omega) _).set (show q < N + 1 by omega) _).set (show q < N + 1 by omega) _).set (show q < N + 1 by omega) _).set (show q < N + 1 by omega) _).set (show q < N + 1 by omega) _).set (show q < N + 1 by omega) _).set (show q < N + 1 by omega) _).set (show q < N + 1 by omega) _)
            have S8 : SlE W8 (fun k => k = w13.heap.size) (.slice (some ⟨w13.heap.size, 0, none⟩) tx.length cap) (bvals tx) := by
              rw [hW8]
              refine HS5.out.kept (fun k hk => ?_)
              have hkq : k ≠ q := by omega
              rw [Below.heap_setCell _ _ _ k (by simp; omega)]
              rw [Below.heap_setCell _ _ _ k (by simp; omega)]
              rw [Below.heap_setCell _ _ _ k (by simp; omega)]
              rw [Below.heap_setCell _ _ _ k (by simp; omega)]
              rw [Below.heap_setCell _ _ _ k (by simp; omega)]
              rw [Below.heap_setCell _ _ _ k (by simp; omega)]
              rw [Below.heap_setCell _ _ _ k (by simp; omega)]
              rw [Below.heap_setCell _ _ _ k (by simp; omega)]
              rw [Below.heap_setCell _ _ _ k (by simp; omega)]
              rw [Below.heap_setCell _ _ _ k (by simp; omega)]
              rw [Below.heap_setCell _ _ _ k (by simp; omega)]
              rw [Below.heap_setCell _ _ _ k (by simp; omega)]
              rw [Below.heap_setCell _ _ _ k (by simp; omega)]
            have s0 := (F8.c 0 _ rfl).1; have s1 := (F8.c 1 _ rfl).1; have s2 := (F8.c 2 _ rfl).1; have s3 := (F8.c 3 _ rfl).1; have s4 := (F8.c 4 _ rfl).1; have s5 := (F8.c 5 _ rfl).1; have s6 := (F8.c 6 _ rfl).1; have s7 := (F8.c 7 _ rfl).1; have s8 := (F8.c 8 _ rfl).1; have s9 := (F8.c 9 _ rfl).1; have s10 := (F8.c 10 _ rfl).1; have s11 := (F8.c 11 _ rfl).1; have s12 := (F8.c 12 _ rfl).1
            refine bodyPost_ret (v := .tuple #[.agg #[(.int .i64 K), (.int .i64 s), (.int .i64 d), (.int .i64 x1), (.int .i64 x2), (.int .i64 x3), (.int .i64 x4), (.int .i64 x5), (.bool (z6 == 1)), (.int .i64 z7), (.int .i64 z8), (.slice Ae acc.length ce), (.slice (some ⟨w13.heap.size, 0, none⟩) tx.length cap)], .int .i64 0]) ?_ rfl ?_
            · simp [results, Tryz.results10, go_sem, s0, s1, s2, s3, s4, s5, s6, s7, s8, s9, s10, s11, s12]
            · rw [HR.out]
              exact ⟨Ae, ce, some ⟨w13.heap.size, 0, none⟩, cap, rfl, E8.less (by have := HQ.out; omega), S8.sl, B8⟩

        · have t1 : (ee != 0) = true := by simpa using he
          have HR := hid (HR1'.out (.inl he))
          clear he
          go_wp2
          obtain ⟨W8, hW8⟩ : ∃ W, W = (((((((((((((w14.setCell ⟨q, 0, none⟩ (.int .i64 0)).setCell ⟨q, 1, none⟩ (.int .i64 0)).setCell ⟨q, 2, none⟩ (.int .i64 0)).setCell ⟨q, 3, none⟩ (.int .i64 0)).setCell ⟨q, 4, none⟩ (.int .i64 0)).setCell ⟨q, 5, none⟩ (.int .i64 0)).setCell ⟨q, 6, none⟩ (.int .i64 0)).setCell ⟨q, 7, none⟩ (.int .i64 0)).setCell ⟨q, 8, none⟩ (.bool false)).setCell ⟨q, 9, none⟩ (.int .i64 0)).setCell ⟨q, 10, none⟩ (.int .i64 0)).setCell ⟨q, 11, none⟩ (.slice none 0 0)).setCell ⟨q, 12, none⟩ (.slice none 0 0)) := ⟨_, rfl⟩
          rw [← hW8]
          have F8 : BoxC W8 q [(.int .i64 0), (.int .i64 0), (.int .i64 0), (.int .i64 0), (.int .i64 0), (.int .i64 0), (.int .i64 0), (.int .i64 0), (.bool false), (.int .i64 0), (.int .i64 0), (.slice none 0 0), (.slice none 0 0)] := by rw [hW8]; exact (((((((((((((HF6.out.set 0 (by simp) _).set 1 (by simp) _).set 2 (by simp) _).set 3 (by simp) _).set 4 (by simp) _).set 5 (by simp) _).set 6 (by simp) _).set 7 (by simp) _).set 8 (by simp) _).set 9 (by simp) _).set 10 (by simp) _).set 11 (by simp) _).set 12 (by simp) _)
          have B8 : Below w.heap.size w W8 := by
            rw [hW8]
            have hqq := HQ.out
            exact (((((((((((((HB6.out.setCell (show w.heap.size ≤ q by omega) _).setCell (show w.heap.size ≤ q by omega) _).setCell (show w.heap.size ≤ q by omega) _).setCell (show w.heap.size ≤ q by omega) _).setCell (show w.heap.size ≤ q by omega) _).setCell (show w.heap.size ≤ q by omega) _).setCell (show w.heap.size ≤ q by omega) _).setCell (show w.heap.size ≤ q by omega) _).setCell (show w.heap.size ≤ q by omega) _).setCell (show w.heap.size ≤ q by omega) _).setCell (show w.heap.size ≤ q by omega) _).setCell (show w.heap.size ≤ q by omega) _).setCell (show w.heap.size ≤ q by omega) _)
          have s0 := (F8.c 0 _ rfl).1; have s1 := (F8.c 1 _ rfl).1; have s2 := (F8.c 2 _ rfl).1; have s3 := (F8.c 3 _ rfl).1; have s4 := (F8.c 4 _ rfl).1; have s5 := (F8.c 5 _ rfl).1; have s6 := (F8.c 6 _ rfl).1; have s7 := (F8.c 7 _ rfl).1; have s8 := (F8.c 8 _ rfl).1; have s9 := (F8.c 9 _ rfl).1; have s10 := (F8.c 10 _ rfl).1; have s11 := (F8.c 11 _ rfl).1; have s12 := (F8.c 12 _ rfl).1
          refine bodyPost_ret (v := .tuple #[.agg #[(.int .i64 0), (.int .i64 0), (.int .i64 0), (.int .i64 0), (.int .i64 0), (.int .i64 0), (.int .i64 0), (.int .i64 0), (.bool false), (.int .i64 0), (.int .i64 0), (.slice none 0 0), (.slice none 0 0)], .int .i64 2]) ?_ rfl ?_
          · simp [results, Tryz.results10, go_sem, s0, s1, s2, s3, s4, s5, s6, s7, s8, s9, s10, s11, s12]
          · rw [HR.out]
            exact ⟨none, 0, none, 0, rfl, ERow.nil_ _ _, Sl.nil_, B8⟩

end Go.Proofs.YtkgifbnkkmeoiaaGreatDoor
