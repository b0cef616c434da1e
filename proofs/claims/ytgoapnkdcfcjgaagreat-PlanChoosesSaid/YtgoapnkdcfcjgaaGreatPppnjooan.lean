/- 5 texts of this claim, in build order. -/
import Derived.Test.YtgoapnkdcfcjgaaGreatPefggpapc
import Derived.Test.YtgoapnkdcfcjgaaGreatPflgpgfja
import Derived.Shelf.SlSortCmp.NoneTotal
import Derived.Test.YtgoapnkdcfcjgaaGreatProg
import Derived.Test.YtgoapnkdcfcjgaaGreatPcjenhmkf
set_option linter.unusedVariables false
set_option linter.unusedSimpArgs false
namespace Go.Proofs.YtgoapnkdcfcjgaaGreat
open Go.ChangeShapes Go.WideShapes Go.ChangeAt Go.RowKit Go.Sort
def CmRel (a b : List Int) (w : World) (i : Value) (wr : World) : Prop := ∃ k : Nat, k <= a.length /\ k <= b.length /\ i = .int .i64 k /\ a.take k = b.take k /\ Qu w wr
set_option maxRecDepth 100000 in
set_option maxHeartbeats 800000 in
theorem zow (v u : Value) (a b : List Int) (w : World) (B : Nat) (hv : Sl w B v (zk a)) (hu : Sl w B u (zk b)) :
  Calls Tryz.prog 141 #[v, u] w (za5 (.int .i64 (cmpL a b)) w) := by
 obtain ⟨A1, c1, rfl, hc1, hm1⟩ := hv.formI
 obtain ⟨A2, c2, rfl, hc2, hm2⟩ := hu.formI
 unfold maxLen at hm1 hm2
 have S1 := hid hv; have S2 := hid hu; clear hv hu
 go_enter Tryz.func141, Tryz.ntmps141
 go_wp2
 go_loopw [11] (fun i wr => CmRel a b w i wr) (fun i _ => a.length - (intOf i).toNat)
 case atStart => exact ⟨0, by omega, by omega, rfl, rfl, Qu.refl _⟩
 case round =>
  obtain ⟨k, hk, hk2, rfl, htk, hq⟩ := hrel
  have HT := hid htk; clear htk
  by_cases hlt : k < a.length
  ·obtain ⟨b1, o1, rfl, hb1, hx1⟩ := S1.out.int hlt
   have g1 : wr.cell? ⟨b1, o1 + k, none⟩ = _ := (hq.cell _).trans hx1
   clear hx1
   by_cases hlt2 : k < b.length
   ·obtain ⟨b2, o2, rfl, hb2, hx2⟩ := S2.out.int hlt2
    have g2 : wr.cell? ⟨b2, o2 + k, none⟩ = _ := (hq.cell _).trans hx2
    clear hx2
    have hne := zqY hlt hlt2 HT.out
    have heq := fun h => zf5 hlt hlt2 HT.out (ziE.1 h)
    generalize a.getD k 0 = x at *
    generalize b.getD k 0 = y at *
    have HNE := hid hne; have HEQ := hid heq; clear hne heq
    have HF := hid (fun W => zdn x y W)
    generalize cmpI x y = r at *
    by_cases hr : r = 0
    ·subst hr
     have HN := hid (HEQ.out rfl)
     clear HNE HEQ
     go_wp2_with fail
     refine (HF.out _).mono ?_
     rintro e w1 ⟨rfl, rfl⟩
     go_wp2
     go_roundw
     case rel => exact ⟨k + 1, by omega, by omega, by go_num, HN.out, hq⟩
     case measure => simp [intOf]; omega
    ·have t1 : (r != 0) = true := by simpa using hr
     have HR := hid (HNE.out hr)
     clear HNE HEQ
     go_wp2_with fail
     refine (HF.out _).mono ?_
     rintro e w1 ⟨rfl, rfl⟩
     go_wp2
     go_ret
     exact ⟨by rw [HR.out]; rfl, hq⟩
   ·have HR := hid (znu hlt (by omega) HT.out)
    have hge : ((b.length : Int) <= (k : Int)) := by omega
    go_wp2
    go_ret
    exact ⟨by rw [HR.out]; rfl, hq⟩
  ·have HR := hid (zoT (show a.length = k by omega) hk2 HT.out)
   by_cases hl : a.length < b.length
   ·have hr := HR.out
    rw [if_pos hl] at hr
    have HR := hid hr; clear hr
    go_wp2
    go_ret
    exact ⟨by rw [HR.out]; rfl, hq⟩
   ·have hr := HR.out
    rw [if_neg hl] at hr
    have HR := hid hr; clear hr
    go_wp2
    go_ret
    exact ⟨by rw [HR.out]; rfl, hq⟩
theorem sl3 {w : World} {B b : Nat} (x : T3) (hb : b < B) (h0 : w.cell? ⟨b, 0, none⟩ = some (.int .i64 x.1)) (h1 : w.cell? ⟨b, 1, none⟩ = some (.int .i64 x.2.1)) (h2 : w.cell? ⟨b, 2, none⟩ = some (.int .i64 x.2.2)) : Sl w B (.slice (some ⟨b, 0, none⟩) 3 3) (zk (l3 x)) := by
 refine ⟨_, _, rfl, by simp [zk, l3], by unfold maxLen; omega, fun _ => ⟨b, 0, rfl, hb, fun j u hu => ?_⟩⟩
 simp only [zk, l3, List.map_cons, List.map_nil] at hu
 match j, hu with
 | 0, hu => simp at hu; subst hu; simpa using h0
 | 1, hu => simp at hu; subst hu; simpa using h1
 | 2, hu => simp at hu; subst hu; simpa using h2
 | j + 3, hu => simp at hu
theorem zp1 (W : World) (a b : Obj) (q : Nat) : ((W.alloc a).alloc b).drewN q = grow (W.drewN q) #[a, b] := by
 rw [alloc_eq_grow, alloc_eq_grow, grow_grow]; rfl
set_option maxRecDepth 100000 in
set_option maxHeartbeats 800000 in
theorem zoM (x y : T3) (W : World) : Calls Tryz.prog 135 #[keyV x.1 x.2.1 x.2.2, keyV y.1 y.2.1 y.2.2] W fun e w' => e = .returned (.int .i64 (cmp3 x y)) /\ ∃ q os', w' = grow (W.drewN q) os' := by
 obtain ⟨W2, hW2⟩ : ∃ W2, W2 = (W.alloc (.cells #[.int .i64 x.1, .int .i64 x.2.1, .int .i64 x.2.2] 149)).alloc (.cells #[.int .i64 y.1, .int .i64 y.2.1, .int .i64 y.2.2] 149) := ⟨_, rfl⟩
 have s1 : Sl W2 W2.heap.size (.slice (some ⟨W.heap.size, 0, none⟩) 3 3) (zk (l3 x)) := by
  subst hW2
  exact sl3 x (by simp; omega) (by simp [go_sem]) (by simp [go_sem]) (by simp [go_sem])
 have s2 : Sl W2 W2.heap.size (.slice (some ⟨W.heap.size + 1, 0, none⟩) 3 3) (zk (l3 y)) := by
  subst hW2
  exact sl3 y (by simp) (by simp [go_sem]) (by simp [go_sem]) (by simp [go_sem])
 have HC := hid (fun W' (hq : Qu W2 W') => zow _ _ (l3 x) (l3 y) W' W2.heap.size (s1.qu' hq) (s2.qu' hq))
 unfold keyV
 have hcmp : cmpL (l3 x) (l3 y) = cmp3 x y := rfl
 rw [hcmp] at HC
 generalize cmp3 x y = r at *
 have HW2 := hid hW2
 clear hcmp s1 s2 hW2
 go_enter Tryz.func135, Tryz.ntmps135
 go_wp2
 rw [<- HW2.out]
 go_quiet (first | (go_at_call 141; exact Calls.quiet_of (HC.out _ ⟨_, rfl⟩)))
 go_wp2
 go_ret
 exact ⟨rfl, nq, _, by rw [HW2.out]; exact zp1 _ _ _ _⟩
end Go.Proofs.YtgoapnkdcfcjgaaGreat
namespace Go.Proofs.YtgoapnkdcfcjgaaGreat
open Go.Shelf
def znV : Go.Shelf.Ren := ⟨fun | 6 => 136 | 15 => 143 | 14 => 142 | 28 => 155 | 29 => 156 | 20 => 147 | 21 => 148 | 22 => 149 | 23 => 150 | 24 => 151 | 25 => 152 | 26 => 153 | 27 => 154 | 46 => 157 | 47 => 158 | 48 => 159 | 49 => 160 | 50 => 161 | 57 => 162 | n => n, fun | 22 => 166 | 24 => 149 | 25 => 186 | 3 => 3 | 39 => 181 | 0 => 0 | 53 => 206 | 55 => 208 | 4 => 4 | 46 => 200 | 45 => 199 | 50 => 151 | 5 => 5 | 9 => 9 | 66 => 209 | 70 => 213 | 76 => 215 | 77 => 216 | n => n, fun | n => n⟩
theorem laysK : Go.Proofs.SlLaysF0.n6 Tryz.prog znV := {
 mixed := by kernel_rfl
 f6 := ⟨Tryz.f136.name, by decide, Tryz.func136.trans (congrArg some (by kernel_rfl))⟩
 f14 := ⟨Tryz.f142.name, by decide, Tryz.func142.trans (congrArg some (by kernel_rfl))⟩
 f15 := Tryz.func143.trans (congrArg some (by kernel_rfl))
 f20 := ⟨Tryz.f147.name, by decide, Tryz.func147.trans (congrArg some (by kernel_rfl))⟩
 f21 := ⟨Tryz.f148.name, by decide, Tryz.func148.trans (congrArg some (by kernel_rfl))⟩
 f22 := ⟨Tryz.f149.name, by decide, Tryz.func149.trans (congrArg some (by kernel_rfl))⟩
 f23 := ⟨Tryz.f150.name, by decide, Tryz.func150.trans (congrArg some (by kernel_rfl))⟩
 f24 := ⟨Tryz.f151.name, by decide, Tryz.func151.trans (congrArg some (by kernel_rfl))⟩
 f25 := ⟨Tryz.f152.name, by decide, Tryz.func152.trans (congrArg some (by kernel_rfl))⟩
 f26 := ⟨Tryz.f153.name, by decide, Tryz.func153.trans (congrArg some (by kernel_rfl))⟩
 f27 := ⟨Tryz.f154.name, by decide, Tryz.func154.trans (congrArg some (by kernel_rfl))⟩
 f28 := Tryz.func155.trans (congrArg some (by kernel_rfl))
 f29 := Tryz.func156.trans (congrArg some (by kernel_rfl))
 f46 := ⟨Tryz.f157.name, by decide, Tryz.func157.trans (congrArg some (by kernel_rfl))⟩
 f47 := Tryz.func158.trans (congrArg some (by kernel_rfl))
 f48 := Tryz.func159.trans (congrArg some (by kernel_rfl))
 f49 := ⟨Tryz.f160.name, by decide, Tryz.func160.trans (congrArg some (by kernel_rfl))⟩
 f50 := ⟨Tryz.f161.name, by decide, Tryz.func161.trans (congrArg some (by kernel_rfl))⟩
 f57 := ⟨Tryz.f162.name, by decide, Tryz.func162.trans (congrArg some (by kernel_rfl))⟩
 t0 := Tryz.underlying0
 a0 := Tryz.isAgg0
 z0 := Tryz.sizeOf0
 v0 := Tryz.zeroValue0
 t3 := Tryz.underlying3
 a3 := Tryz.isAgg3
 z3 := Tryz.sizeOf3
 v3 := Tryz.zeroValue3
 t4 := Tryz.underlying4
 a4 := Tryz.isAgg4
 z4 := Tryz.sizeOf4
 v4 := Tryz.zeroValue4
 t5 := Tryz.underlying5
 a5 := Tryz.isAgg5
 z5 := Tryz.sizeOf5
 v5 := Tryz.zeroValue5
 t9 := Tryz.underlying9
 a9 := Tryz.isAgg9
 z9 := Tryz.sizeOf9
 v9 := Tryz.zeroValue9
 t22 := Tryz.underlying166
 a22 := Tryz.isAgg166
 z22 := Tryz.sizeOf166
 v22 := Tryz.zeroValue166
 t25 := Tryz.underlying186
 a25 := Tryz.isAgg186
 z25 := Tryz.sizeOf186
 v25 := Tryz.zeroValue186
 t39 := Tryz.underlying181
 a39 := Tryz.isAgg181
 z39 := Tryz.sizeOf181
 v39 := Tryz.zeroValue181
 t45 := Tryz.underlying199
 a45 := Tryz.isAgg199
 z45 := Tryz.sizeOf199
 v45 := Tryz.zeroValue199
 t46 := Tryz.underlying200
 a46 := Tryz.isAgg200
 z46 := Tryz.sizeOf200
 v46 := Tryz.zeroValue200
 t50 := Tryz.underlying151
 a50 := Tryz.isAgg151
 z50 := Tryz.sizeOf151
 v50 := Tryz.zeroValue151
 t53 := Tryz.underlying206
 a53 := Tryz.isAgg206
 z53 := Tryz.sizeOf206
 v53 := Tryz.zeroValue206
 t55 := Tryz.underlying208
 a55 := Tryz.isAgg208
 z55 := Tryz.sizeOf208
 v55 := Tryz.zeroValue208
 t66 := Tryz.underlying209
 a66 := Tryz.isAgg209
 z66 := Tryz.sizeOf209
 v66 := Tryz.zeroValue209
 t70 := Tryz.underlying213
 a70 := Tryz.isAgg213
 z70 := Tryz.sizeOf213
 v70 := Tryz.zeroValue213
 t76 := Tryz.underlying215
 a76 := Tryz.isAgg215
 z76 := Tryz.sizeOf215
 v76 := Tryz.zeroValue215
 t77 := Tryz.underlying216
 a77 := Tryz.isAgg216
 z77 := Tryz.sizeOf216
 v77 := Tryz.zeroValue216 }
end Go.Proofs.YtgoapnkdcfcjgaaGreat
namespace Go.Proofs.YtgoapnkdcfcjgaaGreat
open Go.ChangeShapes Go.WideShapes Go.ChangeAt Go.RowKit Go.Sort Go.Shelf
def zhz (V : List T3) : List Value := V.flatMap enc3
def z3 : T3 := (0, 0, 0)
theorem zlW (es : List T3) (x : T3) : zhz (es ++ [x]) = zhz es ++ enc3 x := by simp [zhz]
theorem zoN : ∀ {es : List T3} {k j : Nat}, k < es.length -> j < 3 -> (zhz es)[k * 3 + j]? = (enc3 (es.getD k z3))[j]? := by
 intro es
 induction es with
 | nil => intro k j hk; simp at hk
 | cons x es ih =>
   intro k j hk hj
   unfold zhz
   rw [List.flatMap_cons]
   cases k with
   | zero => rw [List.getElem?_append_left (by simp [enc3]; omega)]; simp
   | succ k =>
     rw [List.getElem?_append_right (by simp [enc3]; omega), show (k + 1) * 3 + j - (enc3 x).length = k * 3 + j by simp [enc3]; omega]
     have := ih (k := k) (j := j) (by simpa using hk) hj
     unfold zhz at this
     rw [this]
     simp
theorem getK3 {V : List T3} {i : Nat} (h : i < V.length) : V.toArray[i]! = V.getD i z3 := by
 simp [List.getD_eq_getElem?_getD, h]
theorem zqX (x : T3) {j : Nat} (h : j < 3) : (enc3 x)[j]? = some (enc3 x)[j]! := by
 obtain rfl | rfl | rfl : j = 0 \/ j = 1 \/ j = 2 := by omega
 ·rfl
 ·rfl
 ·rfl
theorem holds3 {w : World} {base g cap n : Nat} {V : List T3} (h : w.ownsRow base 149 3 (.slice (some ⟨g, 0, none⟩) n cap) n (zhz V)) (hn : V.length = n) : HoldsK enc3 3 w g 0 V.toArray := by
 intro j hj
 rw [size_flatK] at hj
 have hj' : j < V.length * 3 := by simpa using hj
 refine ⟨?_, ?_⟩
 ·rw [Nat.zero_add, h.cellAt j (by omega), get_flatK _ _ _ _ hj]
  have h3 : j % 3 < 3 := Nat.mod_lt _ (by omega)
  have hd : j / 3 < V.length := by omega
  have e : j / 3 * 3 + j % 3 = j := by omega
  have := zoN hd h3
  rw [e] at this
  rw [this, getK3 hd, zqX _ h3]
  rfl
 ·rcases h.2 with ⟨e, _⟩ | ⟨g', cap', cur, e, _, hg, _⟩
  ·cases e
  ·injection e with e1 _ _
   injection e1 with e1
   injection e1 with e1 _ _
   subst e1
   simp [World.frozen?, hg]
theorem zlc {w : World} {g n : Nat} {os : Array Obj} (d : Array T3) : Upd g w (sortWorldK enc3 3 w g 0 n d os) := by
 unfold sortWorldK putRowK
 refine ⟨rfl, rfl, rfl, by simp, fun k hk hne => ?_⟩
 rw [heap_grow_old _ _ (by simpa using hk)]
 have : g ≠ k := fun e => hne (by rw [e])
 simp [putRow, mapBlock, Sort.ahead, Array.getElem?_modify, this]
def SortP (g : Nat) (S : List T3) (w : World) (e : Ending) (w' : World) : Prop := e = .returned (.tuple #[]) /\ HoldsK enc3 3 w' g 0 S.toArray /\ Upd g w w'
theorem zpN (g cap n : Nat) (V S : List T3) (w : World) (hH : HoldsK enc3 3 w g 0 V.toArray) (hg : g < w.heap.size) (hn : V.length = n) (hsz : n < 4611686018427387904)
  (hS : S.Pairwise fun x y => lexB (l3 x) (l3 y) = true) (hd : V.Nodup) (hm : ∀ x, x ∈ V ↔ x ∈ S) :
  Calls Tryz.prog 136 #[.slice (some ⟨g, 0, none⟩) n cap, .func (.func 135) #[] #[]] w (SortP g S w) := by
 subst hn
 have eg : ∀ args w, (callFunc 135 args).run Tryz.prog w = .ok (.enter 135 args) w := za8 Tryz.func135 (by kernel_rfl) rfl
 have hV := sort3 hS hd hm
 have hlen : S.length = V.length := by rw [<- hV]; exact List.length_mergeSort V
 have hcmp : CmpLays Tryz.prog 135 #[] enc3 3 cmp3 g 0 V.toArray.size w := fun _ _ _ _ x y => zoM x y _
 have h := AnyQ.slices_SortFunc_total laysK 3 Tryz.isAgg149 Tryz.sizeOf149 enc3 (fun _ => rfl) (fun x v hv => by simp [enc3] at hv; rcases hv with rfl | rfl | rfl <;> rfl) cmp3 swo3 135 #[] g 0 cap V.toArray w eg hcmp hH hg (by simpa using hsz) tot3
 refine h.mono ?_
 rintro e w' ⟨rfl, m, os, rfl⟩
 have e1 : V.toArray.toList = V := rfl
 rw [e1, hV]
 exact ⟨rfl, holdsK_sortWorldK_c enc3 3 w g 0 V.toArray S.toArray m os hH hg (by simpa using hlen), zlc _⟩
theorem zm9 (w : World) : Calls Tryz.prog 136 #[.slice none 0 0, .func (.func 135) #[] #[]] w fun e w' => e = .returned (.tuple #[]) /\ w' = w :=
 AnyF.slices_SortFunc_none laysK none 0 _ w
def t3 (k : List Int) : T3 := (k.getD 0 0, k.getD 1 0, k.getD 2 0)
def kl3 (x : T3) : Lit := keyL x.1 x.2.1 x.2.2
theorem kl3_t3 (k : List Int) : kl3 (t3 k) = zcx k := rfl
theorem lex_t3 {W : Nat} : ∀ {k k' : List Int}, okK W k -> okK W k' -> W <= 3 -> lexB (l3 (t3 k)) (l3 (t3 k')) = lexB k k'
 | [], [], _, _, _ => by decide
 | [a], [b], _, _, _ => by simp [l3, t3, lexB]
 | [a, b], [c, d], _, _, _ => by simp [l3, t3, lexB]
 | [a, b, c], [d, e, f], _, _, _ => by simp [l3, t3, lexB]
 | [], _ :: _, h, h', _ => by have := h.1; have := h'.1; simp at *; omega
 | [_], [], h, h', _ => by have := h.1; have := h'.1; simp at *; omega
 | [_], _ :: _ :: _, h, h', _ => by have := h.1; have := h'.1; simp at *; omega
 | [_, _], [], h, h', _ => by have := h.1; have := h'.1; simp at *; omega
 | [_, _], [_], h, h', _ => by have := h.1; have := h'.1; simp at *; omega
 | [_, _], _ :: _ :: _ :: _, h, h', _ => by have := h.1; have := h'.1; simp at *; omega
 | [_, _, _], [], h, h', _ => by have := h.1; have := h'.1; simp at *; omega
 | [_, _, _], [_], h, h', _ => by have := h.1; have := h'.1; simp at *; omega
 | [_, _, _], [_, _], h, h', _ => by have := h.1; have := h'.1; simp at *; omega
 | [_, _, _], _ :: _ :: _ :: _ :: _, h, h', _ => by have := h.1; have := h'.1; simp at *; omega
 | _ :: _ :: _ :: _ :: _, _, h, _, h3 => by have := h.1; simp at *; omega
def zem (L : List KC) : List T3 := L.map fun x => t3 x.1
theorem ziS {W M : Nat} {L : List KC} (h : OkL W M L) (hW : W <= 3) : (zem L).Pairwise fun x y => lexB (l3 x) (l3 y) = true := by
 unfold zem
 rw [List.pairwise_map]
 refine List.Pairwise.imp_of_mem ?_ h.sort
 intro a b ha hb hab
 rw [lex_t3 (h.key a ha) (h.key b hb) hW]
 exact hab
def zp8 (w : World) (v : Value) (L : List KC) : Prop :=
 ∃ A cap, v = .slice A L.length cap /\ L.length <= cap /\ cap <= maxLen /\ (0 < L.length -> ∃ g, A = some ⟨g, 0, none⟩ /\ g < w.heap.size /\ ∀ i, i < L.length -> w.cell? ⟨g, i * 3, none⟩ = some (.int .i64 ((L.getD i zK).1.getD 0 0)) /\
  w.cell? ⟨g, i * 3 + 1, none⟩ = some (.int .i64 ((L.getD i zK).1.getD 1 0)) /\ w.cell? ⟨g, i * 3 + 2, none⟩ = some (.int .i64 ((L.getD i zK).1.getD 2 0)))
theorem zqm {w : World} {g cap : Nat} {L : List KC} (h : HoldsK enc3 3 w g 0 (zem L).toArray) (hg : g < w.heap.size) (h1 : L.length <= cap) (h2 : cap <= maxLen) : zp8 w (.slice (some ⟨g, 0, none⟩) L.length cap) L := by
 refine ⟨_, _, rfl, h1, h2, fun _ => ⟨g, rfl, hg, fun i hi => ?_⟩⟩
 have hi' : i < (zem L).length := by simpa [zem] using hi
 have e : (zem L).toArray[i]! = t3 (L.getD i zK).1 := by
  rw [getK3 hi']
  simp [zem, List.getD_eq_getElem?_getD, hi]
 have q : ∀ c, c < 3 -> w.cell? ⟨g, i * 3 + c, none⟩ = some (enc3 (t3 (L.getD i zK).1))[c]! := fun c hc => by
  have := (h.cell (i := i) (c := c) (by simpa using hi') hc).1
  rw [Nat.zero_add, e] at this
  exact this
 exact ⟨q 0 (by omega), q 1 (by omega), q 2 (by omega)⟩
end Go.Proofs.YtgoapnkdcfcjgaaGreat
namespace Go.Proofs.YtgoapnkdcfcjgaaGreat
open Go.ChangeShapes Go.WideShapes Go.ChangeAt Go.RowKit Go.Maps Go.Sort
theorem zo9 : (Tryz.prog.info? 149).map (fun i => (i.zero, i.size, i.bytes)) = some (some (.agg #[.int .i64 0, .int .i64 0, .int .i64 0]), 3, 24) := by kernel_rfl
def OrdRel (D : DataW Value) (S : List T3) (m n : Nat) (w : World) (l : Value) (wr : World) : Prop :=
 ∃ (V : List T3) (left : Lit -> Bool) (cnt : Nat), wr.ownsRow (w.heap.size + 1) 149 3 l V.length (zhz V) /\ wr.ranges Tryz.prog 149 zd7 m w.heap.size n D left cnt /\ V.Nodup /\ (∀ x ∈ V, x ∈ S) /\
  (∀ x ∈ S, left (kl3 x) = !decide (x ∈ V)) /\ (∀ kl, left kl = true -> ∃ x ∈ S, kl = kl3 x) /\ w.heap.size < wr.heap.size /\ Below w.heap.size w wr
def OrdP (L : List KC) (w : World) (e : Ending) (w' : World) : Prop := ∃ v, e = .returned v /\ zp8 w' v L /\ Below w.heap.size w w'
theorem zhq {V S : List T3} (h : V.Nodup) (hs : ∀ x ∈ V, x ∈ S) : V.length <= S.length := by
 induction V generalizing S with
 | nil => simp
 | cons x V ih =>
   obtain ⟨h1, h2⟩ := List.nodup_cons.1 h
   have hx := hs x List.mem_cons_self
   have := ih (S := S.erase x) h2 (fun y hy => (List.mem_erase_of_ne (fun e => by subst e; exact h1 hy)).2 (hs y (List.mem_cons_of_mem _ hy)))
   rw [List.length_erase_of_mem hx] at this
   have := List.length_pos_of_mem hx
   simp; omega
theorem zex {a : Lit} (h : WideAt.IsKeyLit a) : a.sameKey a = true := by
 cases a <;> first | (simp [Lit.sameKey]; done) | exact absurd h (by simp [WideAt.IsKeyLit])
theorem zoS (x : T3) : ∀ u ∈ enc3 x, u.oneCell' = true := by
 intro u hu
 simp [enc3] at hu
 rcases hu with rfl | rfl | rfl <;> rfl
theorem zna (w : World) (vs : Array Value) (t : TypeId) {N : Nat} (hN : w.heap.size = N) : ∀ j u, vs.toList[j]? = some u -> (w.alloc (.cells vs t)).cell? ((⟨N, 0, none⟩ : Addr).add j) = some u := by
 subst hN
 intro j u hu
 have e : (⟨w.heap.size, 0, none⟩ : Addr).add j = ⟨w.heap.size, j, none⟩ := by unfold Addr.add; split <;> simp_all
 rw [e, World.cell?_alloc_at _ _ _ _ rfl]
 rw [Array.getElem?_toList] at hu
 exact hu
set_option maxRecDepth 100000 in
set_option maxHeartbeats 3200000 in
theorem zou (D : Nat -> Prop) (p m W M : Nat) (L : List KC) (w : World) (hc : CubW w D p m W M L) (hs : OkL W M L) (hW : W <= 3) (hL : L.length <= 70000) :
  Calls Tryz.prog 112 #[.pointer (some ⟨p, 0, none⟩)] w (OrdP L w) := by
 obtain ⟨i0, hi, hz0, hz1, hz2⟩ := info_parts zo9
 have hpl := hc.2.2.2.1 p hc.1
 have hml := hc.2.2.2.1 m hc.2.1
 have y2 := hc.2.2.2.2.2.2.1
 obtain ⟨Dm, h1, h2, h3, h4, h5⟩ := hc.2.2.2.2.2.2.2
 have hS := ziS hs hW
 have hmem : ∀ kl, Maps.has Dm kl = true -> ∃ x ∈ zem L, kl = kl3 x := fun kl h => by
  obtain ⟨x, hx, rfl⟩ := h5 kl h
  exact ⟨t3 x.1, List.mem_map.2 ⟨x, hx, rfl⟩, rfl⟩
 have hall : ∀ x ∈ zem L, Maps.has Dm (kl3 x) = true := fun x hx => by
  obtain ⟨y, hy, rfl⟩ := List.mem_map.1 hx
  rw [kl3_t3, h3 _ (hs.key y hy), zba hs.sort hy]; rfl
 have hkey : ∀ x ∈ zem L, keyOf Tryz.prog 149 (keyV x.1 x.2.1 x.2.2) = some (kl3 x) := fun x hx => by
  obtain ⟨y, hy, rfl⟩ := List.mem_map.1 hx
  exact zck (hs.key y hy)
 have hlen : (zem L).length = L.length := by simp [zem]
 have HS := hid hS; have HMEM := hid hmem; have HALL := hid hall; have HKEY := hid hkey; have HLEN := hid hlen
 generalize hks : zem L = S at *
 have HKS := hid hks
 clear hks
 clear hS hmem hall hkey hlen hs hc h2 h3 h4 h5
 go_enter Tryz.func112, Tryz.ntmps112
 go_wp2_with (first
  | (at_range; refine wpList_range_own _ rfl _ 102 rfl 149 125 zbs Tryz.underlying102 _ m L.length Dm rfl h1 ?_; intro w0 hrg0 hg0 hs0)
  | go_in)
 go_frame
 go_loopw [3] (fun l wr => OrdRel Dm S m L.length w l wr) (fun _ wr => wr.rangeLeft m w.heap.size)
 case atStart =>
  exact ⟨[], _, _, World.ownsRow_nil _ _ _ _, hrg0, List.nodup_nil, (fun x hx => by cases hx), (fun x hx => by rw [HALL.out x hx]; rfl), HMEM.out, by omega, (Below.refl _ _).grown hg0 (Nat.le_refl _) (fun j hj => by cases hj)⟩
 case round =>
  obtain ⟨V, left, cnt, hown, hrg, hnd, hin, hlf, hlk, hwl, hbl⟩ := hrel
  go_wp2_with (first
   | (at_next; refine wpList_next_ranges _ rfl _ rfl 149 zbs zd7 (fun x : T3 => keyV x.1 x.2.1 x.2.2) (fun v : Value => v) (fun key kl h => by obtain ⟨a, b, c, e⟩ := zmQ h; exact ⟨(a, b, c), e⟩) (fun v y h => ⟨v, rfl⟩) m w.heap.size L.length Dm left cnt rfl hrg ?_ ?_)
   | go_in)
  ·intro hc0 hl0
   have hall : ∀ x, x ∈ V ↔ x ∈ S := fun x => ⟨hin x, fun hx => by
    have := hlf x hx
    rw [hl0] at this
    simpa using this⟩
   have hsn : S.Nodup := HS.out.imp (fun {a b} h e => by subst e; rw [za6] at h; cases h)
   have hvl : V.length = L.length := by
    have a1 := zhq hnd hin
    have a2 := zhq hsn (fun x hx => (hall x).2 hx)
    have := HLEN.out
    omega
   have hsl := hbl.size
   rcases hown.2 with ⟨rfl, h0⟩ | ⟨g, cap, cur, rfl, hbg, hgc, hnc, hcm, -, -⟩
   ·have hL0 : L.length = 0 := by omega
    have HBL := hid hbl
    have HSN := hid (fun W => zm9 W)
    clear hown hrg hnd hin hlf hlk hl0 hall hsn hbl
    go_wp2_with fail
    refine (HSN.out _).mono ?_
    rintro e w1 ⟨rfl, rfl⟩
    go_wp2
    go_ret
    exact ⟨_, rfl, ⟨none, 0, by rw [hL0]; rfl, by omega, by unfold maxLen; omega, fun h => by omega⟩, HBL.out⟩
   ·have hgl := (hown.lt g rfl).2
    have hsr := hid (zpN g cap V.length V S wr (holds3 hown rfl) hgl rfl (by omega) HS.out hnd hall)
    have HBL := hid hbl
    rw [hvl] at hsr hnc
    rw [hvl]
    clear hown hrg hnd hin hlf hlk hl0 hall hsn hbl
    go_wp2_with fail
    refine hsr.out.mono ?_
    rintro e w1 ⟨rfl, hH, hu⟩
    have hsu := hu.size
    rw [<- HKS.out] at hH
    have HH := hid hH; have HU := hid hu
    clear hH hu
    go_wp2
    go_ret
    exact ⟨_, rfl, zqm HH.out (by omega) hnc hcm, HBL.out.trans (HU.out.below (by omega) hgl)⟩
  ·intro x1 x2 x3 c kl yd yp w1 cnt1 hkl hlx hRv hat hrg1 hlt hg1 hs1 hen
   obtain ⟨z, hz, rfl⟩ := hlk kl hlx
   have hxz : (x1, x2, x3) = z := by
    have e := zbs.inj hkl (HKEY.out z hz)
    unfold keyV at e
    simp only [Value.agg.injEq, Array.mk.injEq, List.cons.injEq, Value.int.injEq, true_and, and_true] at e
    exact Prod.ext e.1 (Prod.ext e.2.1 e.2.2)
   subst hxz
   unfold keyV at hen
   have hxl := hlf _ hz
   rw [hlx] at hxl
   have hxv : (x1, x2, x3) ∉ V := by simpa using hxl.symm
   have hnd' : (V ++ [(x1, x2, x3)]).Nodup := by
    rw [List.nodup_append]
    exact ⟨hnd, by simp, fun a ha b hb => by simp at hb; subst hb; exact fun e => hxv (e ▸ ha)⟩
   have hin' : ∀ x ∈ V ++ [(x1, x2, x3)], x ∈ S := fun x hx => by
    rcases List.mem_append.1 hx with h | h
    ·exact hin x h
    ·simp at h; rw [h]; exact hz
   have hvn : V.length + 1 <= L.length := by
    have := zhq hnd' hin'
    rw [List.length_append, List.length_singleton] at this
    have := HLEN.out
    omega
   have hlf' : ∀ x ∈ S, (left (kl3 x) && !(kl3 x).sameKey (kl3 (x1, x2, x3))) = !decide (x ∈ V ++ [(x1, x2, x3)]) := fun x hx => by
    rw [hlf x hx]
    by_cases e : x = (x1, x2, x3)
    ·subst e
     rw [show (kl3 (x1, x2, x3)).sameKey (kl3 (x1, x2, x3)) = true from zex (zbs.key hkl)]
     simp
    ·have hne : kl3 x ≠ kl3 (x1, x2, x3) := fun h => e (by
      have e2 := zbs.inj (HKEY.out x hx) (by rw [h]; exact HKEY.out _ hz)
      unfold keyV at e2
      simp only [Value.agg.injEq, Array.mk.injEq, List.cons.injEq, Value.int.injEq, true_and, and_true] at e2
      exact Prod.ext e2.1 (Prod.ext e2.2.1 e2.2.2))
     rw [Maps.sameKey_ne hne]
     simp [e]
   have hlk' : ∀ kl, (left kl && !kl.sameKey (kl3 (x1, x2, x3))) = true -> ∃ x ∈ S, kl = kl3 x := fun kl h => hlk kl (by simp at h; exact h.1)
   have hown1 := zo hown (fun g hg => hg1.block g (hown.lt g hg).2 (fun e => by injection e with e; have := (hown.lt g hg).1; omega))
   have hb1 : Below w.heap.size w w1 := hbl.grown hg1 hbl.size (fun j hj => by cases hj; exact Nat.le_refl _)
   have hownA := zo hown1 (fun g hg => (((bl1 w1 (.cells #[.int .i64 x1, .int .i64 x2, .int .i64 x3] 149)).trans ((bl1 _ (.cells #[.int .i64 x1, .int .i64 x2, .int .i64 x3] 149)).mono (by simp))).block g (hown1.lt g hg).2))
   have hrgA := (hrg1.alloc (.cells #[.int .i64 x1, .int .i64 x2, .int .i64 x3] 149)).alloc (.cells #[.int .i64 x1, .int .i64 x2, .int .i64 x3] 149)
   have HLF := hid hlf'; have HLK := hid hlk'; have HND := hid hnd'; have HIN := hid hin'; have HOA := hid hownA; have HRA := hid hrgA; have HB1 := hid hb1; have HRG := hid hrg; have HML := hid (show m < w.heap.size from hml)
   clear hlf' hlk' hnd' hin' hownA hrgA hb1 hlf hlk hnd hin hown hown1 hrg hrg1 hxl hxv hbl hz
   go_wp2_with (at_builtin; refine zr ?_)
   refine zar ?_
   refine zN (.tmp 15) (.tmp 17) 166 166 rfl rfl (w.heap.size + 1) 149 i0 (.agg #[.int .i64 0, .int .i64 0, .int .i64 0]) 3 24 Tryz.underlying166 hi hz0 hz1 hz2 rfl (by decide) _ _ _ rfl HOA.out (.slice (some ⟨wr.heap.size + 1, 0, none⟩) 1 1) 1 (enc3 (x1, x2, x3)) rfl (Src.ofSlice _ Tryz.underlying166 _ 1 1 _ rfl (zna _ _ _ (by simp [hs1])) (zoS _)) (by simp only [maxLen]; omega) (by omega) (by simp only [World.size_alloc]; omega) ?_
   intro v2 w2 hown2 hg2 hb2 hat2
   rw [<- zlW] at hown2
   have hrg2 := HRA.out.kept hg2 (fun e => by have := (HOA.out.lt m e.symm).1; have := HML.out; omega) (fun e => by have := (HOA.out.lt _ e.symm).1; omega)
   have HO2 := hid hown2; have HR2 := hid hrg2
   have HB2 := hid (HB1.out.trans ((((bl1 w1 (.cells #[.int .i64 x1, .int .i64 x2, .int .i64 x3] 149)).trans ((bl1 _ (.cells #[.int .i64 x1, .int .i64 x2, .int .i64 x3] 149)).mono (by simp))).mono (by omega)).trans (hb2.mono (by omega))))
   have hs2 := HB2.out.size
   have hs2' : w.heap.size < w2.heap.size := by have := hg2.size; simp at this; omega
   clear hown2 hrg2 hg2 hb2 hat2
   go_wp2
   go_roundw
   case rel => exact ⟨V ++ [(x1, x2, x3)], _, cnt1, by rw [List.length_append, List.length_singleton]; exact HO2.out, HR2.out, HND.out, HIN.out, HLF.out, HLK.out, hs2', HB2.out⟩
   case measure => rw [HR2.out.left_eq, HRG.out.left_eq]; exact hlt
end Go.Proofs.YtgoapnkdcfcjgaaGreat
namespace Go.Proofs.YtgoapnkdcfcjgaaGreat
open Go.ChangeShapes Go.WideShapes Go.ChangeAt Go.RowKit
theorem zhM (w : World) (vs : Array Value) (t : TypeId) {N : Nat} (hN : w.heap.size = N) : ∀ j u, vs.toList[j]? = some u -> (w.alloc (.cells vs t)).cell? ((⟨N, 0, none⟩ : Addr).add j) = some u := by
 subst hN
 intro j u hu
 have e : (⟨w.heap.size, 0, none⟩ : Addr).add j = ⟨w.heap.size, j, none⟩ := by unfold Addr.add; split <;> simp_all
 rw [e, World.cell?_alloc_at _ _ _ _ rfl]
 rw [Array.getElem?_toList] at hu
 exact hu
theorem zeU {w : World} {base base' : Nat} {e : TypeId} {sz : Nat} {v : Value} {n : Nat} {xs : List Value} (h : w.ownsRow base e sz v n xs) (hb : base' <= base) : w.ownsRow base' e sz v n xs :=
 ⟨h.1, h.2.imp id (fun ⟨g, cap, cur, e, hg, r⟩ => ⟨g, cap, cur, e, Nat.le_trans hb hg, r⟩)⟩
theorem zh1 {L : List KC} {j : Nat} (hj : j < L.length) : L.take (j + 1) = L.take j ++ [L.getD j zK] := by
 rw [List.take_succ_eq_append_getElem hj, List.getD_eq_getElem?_getD, List.getElem?_eq_getElem hj]; rfl
end Go.Proofs.YtgoapnkdcfcjgaaGreat
