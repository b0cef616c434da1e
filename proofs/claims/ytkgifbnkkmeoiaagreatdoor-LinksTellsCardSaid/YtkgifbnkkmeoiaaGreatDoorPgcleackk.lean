/- 2 texts of this claim, in build order. -/
import Derived.Test.YtkgifbnkkmeoiaaGreatDoorPcamabgjl
import Derived.Sort.LotA
import Derived.Test.YtkgifbnkkmeoiaaGreatDoorPgpomknba
/- slices.SortFunc at the links. -/
namespace Go.Proofs.YtkgifbnkkmeoiaaGreatDoor
open Go.ChangeShapes Go.WideShapes Go.ChangeAt Go.RowKit Go.Sort Go.Shelf
set_option linter.unusedVariables false
set_option linter.unusedSimpArgs false

abbrev GS := {x : G2 // inG x}
instance : Inhabited GS := ⟨⟨(1, 1), ⟨by decide, by decide⟩, by decide, by decide⟩⟩
def encS (x : GS) : Value := CV x.1
def cmS (x y : GS) : Int := cm2 x.1 y.1
def ltG (x y : G2) : Bool := decide (x.1 < y.1 ∨ (x.1 = y.1 ∧ x.2 < y.2))
theorem ltG_iff (x y : G2) : ltG x y = true ↔ x.1 < y.1 ∨ (x.1 = y.1 ∧ x.2 < y.2) := by unfold ltG; rw [decide_eq_true_eq]
theorem ltG_not (x y : G2) : ltG x y = false ↔ ¬ (x.1 < y.1 ∨ (x.1 = y.1 ∧ x.2 < y.2)) := by unfold ltG; rw [decide_eq_false_iff_not]
theorem ltS (x y : GS) : ltOf cmS x y = ltG x.1 y.1 := by
  obtain ⟨⟨x1, x2⟩, hx⟩ := x
  obtain ⟨⟨y1, y2⟩, hy⟩ := y
  unfold ltOf cmS cm2 cm1 ltG
  simp only
  by_cases h1 : x1 < y1
  · rw [if_pos h1, if_pos (by omega), decide_eq_true (by omega), decide_eq_true (by omega)]
  · rw [if_neg h1]
    by_cases h2 : y1 < x1
    · rw [if_pos h2, if_pos (by omega), decide_eq_false (by omega), decide_eq_false (by omega)]
    · rw [if_neg h2, if_neg (by simp)]
      by_cases h3 : x2 < y2
      · rw [if_pos h3, decide_eq_true (by omega), decide_eq_true (by omega)]
      · rw [if_neg h3]
        by_cases h4 : y2 < x2
        · rw [if_pos h4, decide_eq_false (by omega), decide_eq_false (by omega)]
        · rw [if_neg h4, decide_eq_false (by omega), decide_eq_false (by omega)]
theorem swoS : SWO (ltOf cmS) where
  irrefl x := by rw [ltS, ltG_not]; omega
  trans x y z h1 h2 := by rw [ltS, ltG_iff] at *; omega
  ntrans x y z h1 h2 := by rw [ltS, ltG_not] at *; omega
theorem totS (x y : GS) (h1 : ltOf cmS x y = false) (h2 : ltOf cmS y x = false) : x = y := by
  rw [ltS, ltG_not] at h1 h2
  exact Subtype.ext (Prod.ext (by omega) (by omega))
/-- Two lists in strict order with the same members are one. -/
theorem sorted_ext {α : Type} {r : α → α → Prop} (hi : ∀ a, ¬ r a a) (ht : ∀ a b c, r a b → r b c → r a c) : ∀ {A B : List α}, A.Pairwise r → B.Pairwise r → (∀ x, x ∈ A ↔ x ∈ B) → A = B
  | [], [], _, _, _ => rfl
  | [], y :: B, _, _, h => by have := (h y).2 List.mem_cons_self; cases this
  | x :: A, [], _, _, h => by have := (h x).1 List.mem_cons_self; cases this
  | x :: A, y :: B, hA, hB, h => by
    obtain ⟨a1, a2⟩ := List.pairwise_cons.1 hA
    obtain ⟨b1, b2⟩ := List.pairwise_cons.1 hB
    have hxy : x = y := by
      rcases List.mem_cons.1 ((h x).1 List.mem_cons_self) with e | hx
      · exact e
      · rcases List.mem_cons.1 ((h y).2 List.mem_cons_self) with e | hy
        · exact e.symm
        · exact absurd (ht _ _ _ (a1 _ hy) (b1 _ hx)) (hi _)
    subst hxy
    congr 1
    refine sorted_ext hi ht a2 b2 fun z => ?_
    constructor
    · intro hz
      rcases List.mem_cons.1 ((h z).1 (List.mem_cons_of_mem _ hz)) with e | h'
      · subst e; exact absurd (a1 _ hz) (hi _)
      · exact h'
    · intro hz
      rcases List.mem_cons.1 ((h z).2 (List.mem_cons_of_mem _ hz)) with e | h'
      · subst e; exact absurd (b1 _ hz) (hi _)
      · exact h'
/-- What sorting gives: the links in order. -/
theorem sortS {V S : List GS} (hS : S.Pairwise fun x y => ltG x.1 y.1 = true) (hn : V.Nodup) (hm : ∀ x, x ∈ V ↔ x ∈ S) : (V.mergeSort fun x y => !(ltOf cmS) y x) = S := by
  have hp := List.mergeSort_perm V fun x y => !(ltOf cmS) y x
  have hs := List.pairwise_mergeSort (le := fun x y => !(ltOf cmS) y x) (fun a b c h1 h2 => by
      simp only [Bool.not_eq_true'] at h1 h2 ⊢
      exact swoS.ntrans _ _ _ h2 h1) (fun a b => by
      cases h : ltOf cmS b a
      · simp
      · rw [ltS, ltG_iff] at h
        have : ltOf cmS a b = false := by rw [ltS, ltG_not]; omega
        simp [this]) V
  have hn' := hp.nodup_iff.2 hn
  refine sorted_ext (r := fun x y => ltG x.1 y.1 = true) (fun a h => by rw [ltG_iff] at h; omega) (fun a b c h1 h2 => by rw [ltG_iff] at *; omega) ?_ hS (fun x => (hp.mem_iff).trans (hm x))
  refine List.Pairwise.imp₂ ?_ hs hn'
  intro a b h1 h2
  simp only [Bool.not_eq_true'] at h1
  rw [ltS, ltG_not] at h1
  rw [ltG_iff]
  have hne : a.1 ≠ b.1 := fun e => h2 (Subtype.ext e)
  by_cases h3 : a.1.1 = b.1.1
  · have : a.1.2 ≠ b.1.2 := fun e => hne (Prod.ext h3 e)
    omega
  · omega
theorem holdsS {w : World} {base g cap n : Nat} {V : List GS} (h : w.ownsRow base 105 1 (.slice (some ⟨g, 0, none⟩) n cap) n (V.map encS)) (hn : V.length = n) : Holds encS w g 0 V.toArray := by
  intro j hj
  have hj' : j < V.length := by simpa using hj
  rw [Nat.zero_add]
  refine ⟨?_, h.frozenAt j⟩
  rw [h.cellAt j (by omega)]
  simp [hj']
theorem updS_sorted {w : World} {g n : Nat} {os : Array Obj} (d : Array GS) : Upd g w (sortWorld encS w g 0 n d os) := by
  unfold sortWorld putRow
  have hz : (mapBlock (Sort.ahead w n) g (putCells encS 0 d)).heap.size = w.heap.size := by simp [mapBlock, Sort.ahead]
  refine ⟨rfl, rfl, rfl, by simp [hz], fun k hk hne => ?_⟩
  rw [heap_grow_old _ _ (by rw [hz]; exact hk)]
  have : g ≠ k := fun e => hne (by rw [e])
  simp [mapBlock, Sort.ahead, Array.getElem?_modify, this]
theorem sortS_any (g cap n : Nat) (V S : List GS) (w : World) (hH : Holds encS w g 0 V.toArray) (hg : g < w.heap.size) (hn : V.length = n) (hsz : n < 4611686018427387904)
    (hS : S.Pairwise fun x y => ltG x.1 y.1 = true) (hd : V.Nodup) (hm : ∀ x, x ∈ V ↔ x ∈ S) :
    Calls Tryz.prog 62 #[.slice (some ⟨g, 0, none⟩) n cap, .func (.func 63) #[] #[]] w fun e w' => e = .returned (.tuple #[]) ∧ Holds encS w' g 0 S.toArray ∧ Upd g w w' := by
  subst hn
  have eg : ∀ args w, (callFunc 63 args).run Tryz.prog w = .ok (.enter 63 args) w := enters_of Tryz.func63 (by kernel_rfl) rfl
  have hV := sortS hS hd hm
  have hlen : S.length = V.length := by rw [← hV]; exact List.length_mergeSort V
  have hcmp : CmpLays1 Tryz.prog 63 #[] encS cmS g 0 V.toArray.size w := fun _ _ _ _ x y => cmpL_any x.2 y.2 _
  have h := Any.slices_SortFunc_total laysK1 encS (fun _ => rfl) cmS swoS 63 #[] g 0 cap V.toArray w eg hcmp hH hg (by simpa using hsz) totS
  refine h.mono ?_
  rintro e w' ⟨rfl, m, os, rfl⟩
  have e1 : V.toArray.toList = V := rfl
  rw [e1, hV]
  exact ⟨rfl, holds_sortWorld encS w g 0 m V.toArray S.toArray os hg hH (by simpa using hlen), updS_sorted _⟩
theorem sortS_none (w : World) : Calls Tryz.prog 62 #[.slice none 0 0, .func (.func 63) #[] #[]] w fun e w' => e = .returned (.tuple #[]) ∧ w' = w :=
  AnyF.slices_SortFunc_none laysK none 0 _ w
end Go.Proofs.YtkgifbnkkmeoiaaGreatDoor
/- The program's Busy. -/
namespace Go.Proofs.YtkgifbnkkmeoiaaGreatDoor
open Go.ChangeShapes Go.WideShapes Go.ChangeAt Go.RowKit Go.Sort
set_option linter.unusedVariables false
set_option linter.unusedSimpArgs false

def okP (p : PK) : Prop := 1 ≤ p.1 ∧ p.1 ≤ 7 ∧ 1 ≤ p.2.1 ∧ p.2.1 ≤ 7 ∧ p.1 ≠ p.2.1
def lnkG (p : PK) : G2 := (p.1.toNat, p.2.1.toNat)
theorem okP.inG {p : PK} (h : okP p) : inG (lnkG p) := by
  obtain ⟨h1, h2, h3, h4, -⟩ := h
  unfold Go.Proofs.YtkgifbnkkmeoiaaGreatDoor.inG lnkG
  simp only
  omega
def gridS : List GS := (List.range 49).map fun i => if h : i < 49 then ⟨(i / 7 + 1, i % 7 + 1), by unfold inG; simp only; omega⟩ else default
theorem gridS_sorted : gridS.Pairwise fun x y => ltG x.1 y.1 = true := by
  unfold gridS
  rw [List.pairwise_map]
  refine List.Pairwise.imp_of_mem ?_ List.pairwise_lt_range
  intro a b ha hb hab
  rw [List.mem_range] at ha hb
  rw [dif_pos ha, dif_pos hb, ltG_iff]
  simp only
  omega
theorem gridS_mem (x : GS) : x ∈ gridS := by
  obtain ⟨⟨a, b⟩, h⟩ := x
  have h' := h
  unfold inG at h'
  simp only at h'
  refine List.mem_map.2 ⟨(a - 1) * 7 + (b - 1), List.mem_range.2 (by omega), ?_⟩
  rw [dif_pos (by omega)]
  refine Subtype.ext (Prod.ext ?_ ?_)
  · show ((a - 1) * 7 + (b - 1)) / 7 + 1 = a
    omega
  · show ((a - 1) * 7 + (b - 1)) % 7 + 1 = b
    omega
def busyS (L : List PK) : List GS := gridS.filter fun x => decide (x.1 ∈ L.map lnkG)
theorem busyS_sorted (L : List PK) : (busyS L).Pairwise fun x y => ltG x.1 y.1 = true := gridS_sorted.filter _
theorem busyS_mem (L : List PK) (x : GS) : x ∈ busyS L ↔ x.1 ∈ L.map lnkG := by
  unfold busyS
  rw [List.mem_filter, decide_eq_true_eq]
  exact ⟨fun h => h.2, fun h => ⟨gridS_mem x, h⟩⟩
theorem busyS_len (L : List PK) : (busyS L).length ≤ 49 := by
  unfold busyS
  refine Nat.le_trans (List.length_filter_le _ _) ?_
  unfold gridS
  simp
set_option maxRecDepth 100000 in
theorem link_any (f t : Nat) (A : Option Addr) (n c : Nat) (w : World) (h : inG (f, t)) : Calls Tryz.prog 61 #[.agg #[.int .i64 f, .int .i64 t, .slice A n c]] w fun e w' => e = .returned (CV (f, t)) ∧ Below w.heap.size w w' := by
  have h1 := fun w => conv_to h.1.1 h.1.2 w
  have h2 := fun w => conv_to h.2.1 h.2.2 w
  unfold CV
  simp only at h1 h2 ⊢
  generalize FB f = a at *
  generalize FB t = b at *
  go_enter Tryz.func61, Tryz.ntmps61
  go_wp2_with (simp only [h1, h2])
  go_ret
  exact ⟨rfl, bl1 _ _⟩
end Go.Proofs.YtkgifbnkkmeoiaaGreatDoor
