/- 3 texts of this claim, in build order. -/
import Derived.Test.YtclhnnidbhchnaaPghibehng
import Derived.Test.YtclhnnidbhchnaaPaeddjmei
import Derived.Test.YtclhnnidbhchnaaPddedoemk
import Derived.Sort.Grow
import Derived.Sort.Statements
import Derived.Shelf.SlSortCmp.Insertion
import Derived.Test.YtclhnnidbhchnaaPbchjgdcg
/- A cell is put to its group. -/
namespace Go.Proofs.Ytclhnnidbhchnaa
open Go.ChangeShapes Go.WideShapes Go.ChangeAt Go.RowKit Go.Maps
open Go.ChangeMaps Go.MapKept
set_option linter.unusedVariables false
set_option linter.unusedSimpArgs false

theorem flat4_snoc (es : List E4) (x : E4) : flat4 (es ++ [x]) = flat4 es ++ e4 x := by simp [flat4]
theorem MapG.link {w : World} {E : Nat → Prop} {H mg W : Nat} {P : List KC} {g : List Int} (h : MapG w E H mg W P) (hok : ∀ x ∈ P, okK W x.1) (hg : okK W g) (hW : W ≤ 3) (hP : P.length ≤ 100000) (hH : mg < H) (hHw : H ≤ w.heap.size) (hE : ∀ i, E i → i < H ∧ i ≠ mg) :
    ∃ (v0 : Value) (st : Nat) (w1 : World) (es : List E4), (Instr.mapEntry 95 (.map (some mg)) (keyT g)).run Try.prog w = .ok (.tuple #[v0, .int .i64 st]) w1 ∧ Upd mg w w1 ∧ w1.heap.size = w.heap.size ∧
      ∀ X, Upd mg w X → X.heap[mg]? = w1.heap[mg]? → X.ownsRow H 25 4 v0 (gcells P g).length (flat4 es) ∧
        ∀ (x : E4) (c : CellM) (g' cap : Nat) (w' : World), CellE w E (.agg #[.int .i64 x.1, x.2.1, x.2.2.1, x.2.2.2]) c → w'.ownsRow H 25 4 (.slice (some ⟨g', 0, none⟩) ((gcells P g).length + 1) cap) ((gcells P g).length + 1) (flat4 es ++ e4 x) →
          X.grownBy w' v0.ownBlock → (v0.ownBlock = some g' ∨ g' = X.heap.size) →
          ∃ w3, (Instr.entryStore 95 (.map (some mg)) (.int .i64 st) (.slice (some ⟨g', 0, none⟩) ((gcells P g).length + 1) cap)).run Try.prog w' = .ok () w3 ∧ MapG w3 E H mg W (P ++ [(g, c)]) ∧ w3.heap.size = w'.heap.size ∧
            ∀ wo, Upd mg wo w → wo.heap.size = H → Upd mg wo w3 := by
  obtain ⟨v0, st, w1, hrun, hu, hz, ⟨es, hrow, hre⟩, hst⟩ := h.entry hok hg hW hP hH hHw hE
  refine ⟨v0, st, w1, es, hrun, hu, hz, fun X hX hXm => ⟨own_kept hrow (fun b hb => hX.block b (hrow.lt b hb).2 (fun e => by injection e with e; have := (hrow.lt b hb).1; omega)), fun x c g' cap w' hce hown hgr hblk => ?_⟩⟩
  have hmX : mg < X.heap.size := Nat.lt_of_lt_of_le (Nat.lt_of_lt_of_le hH hHw) hX.size
  have hXs := hX.size
  have hgs := hgr.size
  have hEk : Kept E w w' := fun i hi => by
    obtain ⟨a, b⟩ := hE i hi
    rw [hgr.block i (by omega) (fun e => by have := (hrow.lt i e.symm).1; omega)]
    exact hX.block i (by omega) (fun e => b (by injection e))
  have hm' : w'.heap[mg]? = w1.heap[mg]? := by
    rw [hgr.block mg hmX (fun e => by have := (hrow.lt mg e.symm).1; omega)]
    exact hXm
  obtain ⟨w3, hrun3, hG, hu3, hz3⟩ := hst w' (.slice (some ⟨g', 0, none⟩) ((gcells P g).length + 1) cap) c hm' (by omega)
    (fun k hk hne hb => by
      rw [hgr.block k (by omega) (fun e => hb e.symm)]
      exact hX.block k hk (fun e => hne (by injection e)))
    ⟨es ++ [x], by rw [List.length_append, List.length_singleton, flat4_snoc]; exact hown, (hre.kept hEk).snoc (hce.kept hEk)⟩
    (hblk.imp (fun e => by rw [e]; rfl) (fun e b hb => by
      have hb' : g' = b := by simpa [Value.ownBlock] using hb
      omega))
  refine ⟨w3, hrun3, hG, hz3, fun wo hwo hwz => ?_⟩
  have h1 := hwo.trans hX
  refine ⟨(hu3.os.trans hgr.os).trans h1.os, (hu3.tape.trans hgr.tape).trans h1.tape, (hu3.output.trans hgr.output).trans h1.output, Nat.le_trans h1.size (by omega), fun k hk hne => ?_⟩
  have hkX : k < X.heap.size := Nat.lt_of_lt_of_le hk h1.size
  rw [hu3.block k (by omega) hne, hgr.block k hkX (fun e => by have := (hrow.lt k e.symm).1; omega)]
  exact h1.block k hk hne
/-- `m[k]`, in all worlds with this map. -/
theorem MapK.look2 {w : World} {E : Nat → Prop} {m W : Nat} {L : List KC} (h : MapK w E m W L) {k : List Int} (hk : okK W k) :
    ∃ v, CellE w E v (getC L k) ∧ ∀ w', w'.heap[m]? = w.heap[m]? → (Instr.lookup 92 (.map (some m)) (keyT k) false).run Try.prog w' = .ok v w' := by
  obtain ⟨D, h1, h2, h3, h4, h5⟩ := h
  have q : ∀ w', w'.heap[m]? = w.heap[m]? → ∃ v, (Instr.lookup 92 (.map (some m)) (keyT k) false).run Try.prog w' = .ok v w' ∧ DataW.held v = D.atKey (keyLk k) (.held (.agg #[.int .i64 0, .slice none 0 0, .slice none 0 0, .slice none 0 0])) := fun w' e => by
    have h1' : w'.ownsMap Try.prog 99 heldR m L.length D := by
      obtain ⟨es, clock, hb, r⟩ := h1
      exact ⟨es, clock, e.trans hb, r⟩
    obtain ⟨v, ps, hrun, hR⟩ := h1'.lookup key_law Try.underlying92 (zero_cellM w') (show heldR _ = some (.held _, []) from rfl) (key_of_k hk)
    refine ⟨v, hrun, ?_⟩
    unfold heldR at hR
    simpa using congrArg Prod.fst (Option.some.inj hR)
  obtain ⟨v, hrun, hv⟩ := q w rfl
  refine ⟨v, ?_, fun w' e => ?_⟩
  · cases hg : getK L k with
    | none =>
      rw [Maps.atKey_of_not_has (by rw [h3 k hk, hg]; rfl)] at hv
      have hv := DataW.held.inj hv
      subst hv
      unfold getC; rw [hg]; exact CellE.nil_
    | some c =>
      obtain ⟨u, hu, hce⟩ := h4 _ (getK_mem hg)
      rw [hu] at hv
      have hv := DataW.held.inj hv
      subst hv
      unfold getC; rw [hg]; exact hce
  · obtain ⟨v', hrun', hv'⟩ := q w' e
    have := DataW.held.inj (hv'.trans hv.symm)
    subst this
    exact hrun'
end Go.Proofs.Ytclhnnidbhchnaa
/- The order of a cuboid's keys, as the program tells it: slices.Compare at []int; key.compare. -/
namespace Go.Proofs.Ytclhnnidbhchnaa
open Go.ChangeShapes Go.WideShapes Go.ChangeAt Go.RowKit Go.Sort
set_option linter.unusedVariables false
set_option linter.unusedSimpArgs false

def cmpL : List Int → List Int → Int
  | [], [] => 0
  | [], _ :: _ => -1
  | _ :: _, [] => 1
  | a :: ar, b :: br => if a = b then cmpL ar br else cmpI a b
theorem cmpI_zero {a b : Int} : cmpI a b = 0 ↔ a = b := by
  unfold cmpI
  split
  · constructor
    · intro h; cases h
    · omega
  · split
    · constructor
      · intro h; cases h
      · omega
    · constructor
      · intro _; omega
      · intro _; rfl
theorem cmpL_drop : ∀ {k : Nat} {a b : List Int}, k ≤ a.length → k ≤ b.length → a.take k = b.take k → cmpL a b = cmpL (a.drop k) (b.drop k)
  | 0, _, _, _, _, _ => rfl
  | k + 1, [], _, h, _, _ => by simp at h
  | k + 1, _ :: _, [], _, h, _ => by simp at h
  | k + 1, x :: a, y :: b, h1, h2, h => by
    simp only [List.take_succ_cons, List.cons.injEq] at h
    obtain ⟨rfl, h⟩ := h
    conv => lhs; unfold cmpL
    rw [if_pos rfl]
    exact cmpL_drop (by simpa using h1) (by simpa using h2) h
theorem cmpL_ne {k : Nat} {a b : List Int} (h1 : k < a.length) (h2 : k < b.length) (h : a.take k = b.take k) (hne : cmpI (a.getD k 0) (b.getD k 0) ≠ 0) : cmpL a b = cmpI (a.getD k 0) (b.getD k 0) := by
  rw [cmpL_drop (by omega) (by omega) h, List.drop_eq_getElem_cons h1, List.drop_eq_getElem_cons h2]
  simp only [List.getD_eq_getElem?_getD, List.getElem?_eq_getElem h1, List.getElem?_eq_getElem h2, Option.getD_some] at hne ⊢
  conv => lhs; unfold cmpL
  rw [if_neg (fun e => hne (cmpI_zero.2 e))]
theorem cmpL_long {k : Nat} {a b : List Int} (h1 : k < a.length) (h2 : b.length = k) (h : a.take k = b.take k) : cmpL a b = 1 := by
  have e : b.drop k = [] := List.drop_eq_nil_of_le (by omega)
  rw [cmpL_drop (by omega) (by omega) h, List.drop_eq_getElem_cons h1, e]
  rfl
theorem cmpL_end {k : Nat} {a b : List Int} (h1 : a.length = k) (h2 : k ≤ b.length) (h : a.take k = b.take k) : cmpL a b = if a.length < b.length then -1 else 0 := by
  rw [cmpL_drop (by omega) (by omega) h, List.drop_eq_nil_of_le (by omega)]
  by_cases hl : a.length < b.length
  · rw [if_pos hl, List.drop_eq_getElem_cons (show k < b.length by omega)]; rfl
  · rw [if_neg hl, List.drop_eq_nil_of_le (by omega)]; rfl
theorem cmpL_lex : ∀ {a b : List Int}, (decide (cmpL a b < 0)) = lexB a b
  | [], [] => rfl
  | [], _ :: _ => rfl
  | _ :: _, [] => rfl
  | a :: ar, b :: br => by
    unfold cmpL lexB
    by_cases h : a = b
    · rw [if_pos h, if_pos h]; exact cmpL_lex
    · rw [if_neg h, if_neg h]
      unfold cmpI
      by_cases h1 : a < b
      · rw [if_pos h1, decide_eq_true h1]; rfl
      · rw [if_neg h1, if_pos (by omega), decide_eq_false h1]; rfl
/-- Three codes. -/
abbrev T3 := Int × Int × Int
def l3 (x : T3) : List Int := [x.1, x.2.1, x.2.2]
def enc3 (x : T3) : List Value := [.int .i64 x.1, .int .i64 x.2.1, .int .i64 x.2.2]
def cmp3 (x y : T3) : Int := cmpL (l3 x) (l3 y)
theorem lt3 (x y : T3) : ltOf cmp3 x y = lexB (l3 x) (l3 y) := cmpL_lex
theorem l3_inj {x y : T3} (h : l3 x = l3 y) : x = y := by
  obtain ⟨a, b, c⟩ := x; obtain ⟨d, e, f⟩ := y
  simp [l3] at h
  obtain ⟨rfl, rfl, rfl⟩ := h
  rfl
theorem lex_ntrans {a b c : List Int} (h1 : lexB a b = false) (h2 : lexB b c = false) : lexB a c = false := by
  cases h : lexB a c
  · rfl
  · by_cases hab : a = b
    · subst hab; rw [h] at h2; cases h2
    · have := lex_trans (lex_total hab h1) h
      rw [this] at h2; cases h2
theorem swo3 : SWO (ltOf cmp3) where
  irrefl x := by rw [lt3]; exact lex_irrefl _
  trans x y z h1 h2 := by rw [lt3] at *; exact lex_trans h1 h2
  ntrans x y z h1 h2 := by rw [lt3] at *; exact lex_ntrans h1 h2
theorem tot3 (x y : T3) (h1 : ltOf cmp3 x y = false) (h2 : ltOf cmp3 y x = false) : x = y := by
  rw [lt3] at h1 h2
  by_cases h : l3 x = l3 y
  · exact l3_inj h
  · rw [lex_total h h1] at h2; cases h2
/-- Two lists in strict order with the same members are one. -/
theorem sorted_ext {α : Type} {r : α → α → Prop} (hi : ∀ a, ¬ r a a) (ht : ∀ a b c, r a b → r b c → r a c) : ∀ {A B : List α}, A.Pairwise r → B.Pairwise r → (∀ x, x ∈ A ↔ x ∈ B) → A = B
  | [], [], _, _, _ => rfl
  | [], y :: B, _, _, h => by have := (h y).2 List.mem_cons_self; cases this
  | x :: A, [], _, _, h => by have := (h x).1 List.mem_cons_self; cases this
  | x :: A, y :: B, hA, hB, h => by
    obtain ⟨a1, a2⟩ := List.pairwise_cons.1 hA
    obtain ⟨b1, b2⟩ := List.pairwise_cons.1 hB
    have hxy : x = y := by
      rcases List.mem_cons.1 ((h x).1 List.mem_cons_self) with e | hx
      · exact e
      · rcases List.mem_cons.1 ((h y).2 List.mem_cons_self) with e | hy
        · exact e.symm
        · exact absurd (ht _ _ _ (a1 _ hy) (b1 _ hx)) (hi _)
    subst hxy
    congr 1
    refine sorted_ext hi ht a2 b2 fun z => ?_
    constructor
    · intro hz
      rcases List.mem_cons.1 ((h z).1 (List.mem_cons_of_mem _ hz)) with e | h'
      · subst e; exact absurd (a1 _ hz) (hi _)
      · exact h'
    · intro hz
      rcases List.mem_cons.1 ((h z).2 (List.mem_cons_of_mem _ hz)) with e | h'
      · subst e; exact absurd (b1 _ hz) (hi _)
      · exact h'
/-- What sorting gives: the keys in order. -/
theorem sort3 {V S : List T3} (hS : S.Pairwise fun x y => lexB (l3 x) (l3 y) = true) (hn : V.Nodup) (hm : ∀ x, x ∈ V ↔ x ∈ S) : (V.mergeSort fun x y => !(ltOf cmp3) y x) = S := by
  have hp := List.mergeSort_perm V fun x y => !(ltOf cmp3) y x
  have hs := List.pairwise_mergeSort (le := fun x y => !(ltOf cmp3) y x) (fun a b c h1 h2 => by
      simp only [Bool.not_eq_true'] at h1 h2 ⊢
      exact swo3.ntrans _ _ _ h2 h1) (fun a b => by
      cases h : ltOf cmp3 b a
      · simp
      · rw [lt3] at h
        have : ltOf cmp3 a b = false := by rw [lt3]; exact lex_asymm h
        simp [this]) V
  have hn' := hp.nodup_iff.2 hn
  refine sorted_ext (r := fun x y => lexB (l3 x) (l3 y) = true) (fun a h => by rw [lex_irrefl] at h; cases h) (fun a b c h1 h2 => lex_trans h1 h2) ?_ hS (fun x => (hp.mem_iff).trans (hm x))
  refine List.Pairwise.imp₂ ?_ hs hn'
  intro a b h1 h2
  simp only [Bool.not_eq_true'] at h1
  rw [lt3] at h1
  exact lex_total (fun e => h2 (l3_inj e).symm) h1
end Go.Proofs.Ytclhnnidbhchnaa
/- slices.Compare at []int; key.compare. -/
namespace Go.Proofs.Ytclhnnidbhchnaa
open Go.ChangeShapes Go.WideShapes Go.ChangeAt Go.RowKit Go.Sort
set_option linter.unusedVariables false
set_option linter.unusedSimpArgs false

def CmRel (a b : List Int) (w : World) (i : Value) (wr : World) : Prop := ∃ k : Nat, k ≤ a.length ∧ k ≤ b.length ∧ i = .int .i64 k ∧ a.take k = b.take k ∧ Qu w wr
set_option maxRecDepth 100000 in
set_option maxHeartbeats 800000 in
theorem cmpS_any (v u : Value) (a b : List Int) (w : World) (B : Nat) (hv : Sl w B v (ivals a)) (hu : Sl w B u (ivals b)) :
    Calls Try.prog 95 #[v, u] w (Stays (.int .i64 (cmpL a b)) w) := by
  obtain ⟨A1, c1, rfl, hc1, hm1⟩ := hv.formI
  obtain ⟨A2, c2, rfl, hc2, hm2⟩ := hu.formI
  unfold maxLen at hm1 hm2
  have S1 := hid hv; have S2 := hid hu; clear hv hu
  go_enter Try.func95, Try.ntmps95
  go_wp2
  go_loopw [11] (fun i wr => CmRel a b w i wr) (fun i _ => a.length - (intOf i).toNat)
  case atStart => exact ⟨0, by omega, by omega, rfl, rfl, Qu.refl _⟩
  case round =>
    obtain ⟨k, hk, hk2, rfl, htk, hq⟩ := hrel
    have HT := hid htk; clear htk
    by_cases hlt : k < a.length
    · obtain ⟨b1, o1, rfl, hb1, hx1⟩ := S1.out.int hlt
      have g1 : wr.cell? ⟨b1, o1 + k, none⟩ = _ := (hq.cell _).trans hx1
      clear hx1
      by_cases hlt2 : k < b.length
      · obtain ⟨b2, o2, rfl, hb2, hx2⟩ := S2.out.int hlt2
        have g2 : wr.cell? ⟨b2, o2 + k, none⟩ = _ := (hq.cell _).trans hx2
        clear hx2
        have hne := cmpL_ne hlt hlt2 HT.out
        have heq := fun h => take_succ_same hlt hlt2 HT.out (cmpI_zero.1 h)
        generalize a.getD k 0 = x at *
        generalize b.getD k 0 = y at *
        have HNE := hid hne; have HEQ := hid heq; clear hne heq
        have HF := hid (fun W => compare_any x y W)
        generalize cmpI x y = r at *
        by_cases hr : r = 0
        · subst hr
          have HN := hid (HEQ.out rfl)
          clear HNE HEQ
          go_wp2_with fail
          refine (HF.out _).mono ?_
          rintro e w1 ⟨rfl, rfl⟩
          go_wp2
          go_roundw
          case rel => exact ⟨k + 1, by omega, by omega, by go_num, HN.out, hq⟩
          case measure => simp [intOf]; omega
        · have t1 : (r != 0) = true := by simpa using hr
          have HR := hid (HNE.out hr)
          clear HNE HEQ
          go_wp2_with fail
          refine (HF.out _).mono ?_
          rintro e w1 ⟨rfl, rfl⟩
          go_wp2
          go_ret
          exact ⟨by rw [HR.out]; rfl, hq⟩
      · have HR := hid (cmpL_long hlt (by omega) HT.out)
        have hge : ((b.length : Int) ≤ (k : Int)) := by omega
        go_wp2
        go_ret
        exact ⟨by rw [HR.out]; rfl, hq⟩
    · have HR := hid (cmpL_end (show a.length = k by omega) hk2 HT.out)
      by_cases hl : a.length < b.length
      · have hr := HR.out
        rw [if_pos hl] at hr
        have HR := hid hr; clear hr
        go_wp2
        go_ret
        exact ⟨by rw [HR.out]; rfl, hq⟩
      · have hr := HR.out
        rw [if_neg hl] at hr
        have HR := hid hr; clear hr
        go_wp2
        go_ret
        exact ⟨by rw [HR.out]; rfl, hq⟩
theorem sl3 {w : World} {B b : Nat} (x : T3) (hb : b < B) (h0 : w.cell? ⟨b, 0, none⟩ = some (.int .i64 x.1)) (h1 : w.cell? ⟨b, 1, none⟩ = some (.int .i64 x.2.1)) (h2 : w.cell? ⟨b, 2, none⟩ = some (.int .i64 x.2.2)) : Sl w B (.slice (some ⟨b, 0, none⟩) 3 3) (ivals (l3 x)) := by
  refine ⟨_, _, rfl, by simp [ivals, l3], by unfold maxLen; omega, fun _ => ⟨b, 0, rfl, hb, fun j u hu => ?_⟩⟩
  simp only [ivals, l3, List.map_cons, List.map_nil] at hu
  match j, hu with
  | 0, hu => simp at hu; subst hu; simpa using h0
  | 1, hu => simp at hu; subst hu; simpa using h1
  | 2, hu => simp at hu; subst hu; simpa using h2
  | j + 3, hu => simp at hu
theorem grow_two (W : World) (a b : Obj) (q : Nat) : ((W.alloc a).alloc b).drewN q = grow (W.drewN q) #[a, b] := by
  rw [alloc_eq_grow, alloc_eq_grow, grow_grow]; rfl
set_option maxRecDepth 100000 in
set_option maxHeartbeats 800000 in
theorem cmpK_any (x y : T3) (W : World) : Calls Try.prog 66 #[keyV x.1 x.2.1 x.2.2, keyV y.1 y.2.1 y.2.2] W fun e w' => e = .returned (.int .i64 (cmp3 x y)) ∧ ∃ q os', w' = grow (W.drewN q) os' := by
  obtain ⟨W2, hW2⟩ : ∃ W2, W2 = (W.alloc (.cells #[.int .i64 x.1, .int .i64 x.2.1, .int .i64 x.2.2] 99)).alloc (.cells #[.int .i64 y.1, .int .i64 y.2.1, .int .i64 y.2.2] 99) := ⟨_, rfl⟩
  have s1 : Sl W2 W2.heap.size (.slice (some ⟨W.heap.size, 0, none⟩) 3 3) (ivals (l3 x)) := by
    subst hW2
    exact sl3 x (by simp; omega) (by simp [go_sem]) (by simp [go_sem]) (by simp [go_sem])
  have s2 : Sl W2 W2.heap.size (.slice (some ⟨W.heap.size + 1, 0, none⟩) 3 3) (ivals (l3 y)) := by
    subst hW2
    exact sl3 y (by simp) (by simp [go_sem]) (by simp [go_sem]) (by simp [go_sem])
  have HC := hid (fun W' (hq : Qu W2 W') => cmpS_any _ _ (l3 x) (l3 y) W' W2.heap.size (s1.qu' hq) (s2.qu' hq))
  unfold keyV
  have hcmp : cmpL (l3 x) (l3 y) = cmp3 x y := rfl
  rw [hcmp] at HC
  generalize cmp3 x y = r at *
  have HW2 := hid hW2
  clear hcmp s1 s2 hW2
  go_enter Try.func66, Try.ntmps66
  go_wp2
  rw [← HW2.out]
  go_quiet (first | (go_at_call 95; exact Calls.quiet_of (HC.out _ ⟨_, rfl⟩)))
  go_wp2
  go_ret
  exact ⟨rfl, nq, _, by rw [HW2.out]; exact grow_two _ _ _ _⟩
end Go.Proofs.Ytclhnnidbhchnaa
