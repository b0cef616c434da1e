/- 2 texts of this claim, in build order. -/
import Derived.Shelf.Strings.OnBuilder
import Derived.Test.YtkdpclllenbgfaaDoorProg
import Derived.Test.YtkdpclllenbgfaaDoorPgaaijehl
/- strings.Join off the shelf (the layings are the kit's own command's print, in plain words; shelf.py put names for numbers). -/
namespace Go.Proofs.YtkdpclllenbgfaaDoor
open Go.Shelf
def lays156_ren : Go.Shelf.Ren := ⟨fun | 156 => 55 | 165 => 72 | 166 => 73 | 169 => 74 | 240 => 82 | 241 => 83 | 276 => 88 | 277 => 89 | n => n, fun | 31 => 41 | 9 => 9 | 3 => 3 | 4 => 4 | 0 => 0 | 20 => 20 | 72 => 103 | 76 => 107 | 70 => 101 | 37 => 22 | 75 => 106 | 127 => 114 | 164 => 121 | 5 => 5 | 80 => 109 | n => n, fun | n => n⟩
theorem lays156 : Go.Proofs.Lays.n156 Tryd.prog lays156_ren := {
  mixed := by kernel_rfl
  f156 := Tryd.func55.trans (congrArg some (by kernel_rfl))
  f165 := Tryd.func72.trans (congrArg some (by kernel_rfl))
  f166 := Tryd.func73.trans (congrArg some (by kernel_rfl))
  f169 := Tryd.func74.trans (congrArg some (by kernel_rfl))
  f240 := Tryd.func82.trans (congrArg some (by kernel_rfl))
  f241 := Tryd.func83.trans (congrArg some (by kernel_rfl))
  f276 := Tryd.func88.trans (congrArg some (by kernel_rfl))
  f277 := Tryd.func89.trans (congrArg some (by kernel_rfl))
  t0 := Tryd.underlying0
  a0 := Tryd.isAgg0
  z0 := Tryd.sizeOf0
  v0 := Tryd.zeroValue0
  t3 := Tryd.underlying3
  a3 := Tryd.isAgg3
  z3 := Tryd.sizeOf3
  v3 := Tryd.zeroValue3
  t4 := Tryd.underlying4
  a4 := Tryd.isAgg4
  z4 := Tryd.sizeOf4
  v4 := Tryd.zeroValue4
  t9 := Tryd.underlying9
  a9 := Tryd.isAgg9
  z9 := Tryd.sizeOf9
  v9 := Tryd.zeroValue9
  t20 := Tryd.underlying20
  a20 := Tryd.isAgg20
  z20 := Tryd.sizeOf20
  v20 := Tryd.zeroValue20
  t31 := Tryd.underlying41
  a31 := Tryd.isAgg41
  z31 := Tryd.sizeOf41
  v31 := Tryd.zeroValue41
  t37 := Tryd.underlying22
  a37 := Tryd.isAgg22
  z37 := Tryd.sizeOf22
  v37 := Tryd.zeroValue22
  t70 := Tryd.underlying101
  a70 := Tryd.isAgg101
  z70 := Tryd.sizeOf101
  v70 := Tryd.zeroValue101
  t72 := Tryd.underlying103
  a72 := Tryd.isAgg103
  z72 := Tryd.sizeOf103
  v72 := Tryd.zeroValue103
  t75 := Tryd.underlying106
  a75 := Tryd.isAgg106
  z75 := Tryd.sizeOf106
  v75 := Tryd.zeroValue106
  t76 := Tryd.underlying107
  a76 := Tryd.isAgg107
  z76 := Tryd.sizeOf107
  v76 := Tryd.zeroValue107
  t127 := Tryd.underlying114
  a127 := Tryd.isAgg114
  z127 := Tryd.sizeOf114
  v127 := Tryd.zeroValue114
  t164 := Tryd.underlying121
  a164 := Tryd.isAgg121
  z164 := Tryd.sizeOf121
  v164 := Tryd.zeroValue121 }
theorem Builder_Extra_156 : Builder.Extra Tryd.prog lays156_ren := {
  sizeBuilder := by kernel_rfl
  liesBuilder := by kernel_rfl
  t5 := Tryd.underlying5
  a5 := Tryd.isAgg5
  z5 := Tryd.sizeOf5
  v5 := Tryd.zeroValue5
  infoByte := by kernel_rfl
  cellsByte := by kernel_rfl
  sizeByte := by kernel_rfl
  neB5 := by decide }
open Go.RowKit in
theorem strings_Join_none (a : Option Addr) (c : Nat) (sep : ByteArray) (w : World) :
    Calls Tryd.prog 55 #[.slice a 0 c, .string sep] w fun e w' => e = .returned (.string ⟨#[]⟩) ∧ w' = w := Any.strings_Join_none lays156 Builder_Extra_156 a c sep w
open Go.RowKit in
theorem strings_Join (bk o c : Nat) (xs : List ByteArray) (sep : ByteArray) (w : World) (hcells : ∀ (j : Nat) x, xs[j]? = some x → w.cell? ⟨bk, o + j, none⟩ = some (.string x)) (hbk : bk < w.heap.size) (hN : xs.length ≤ 140737488355328) (hcap : xs.length ≤ c) (hlen : (Lib.join (xs.map (·.data.toList)) sep.data.toList).length ≤ 140737488355328) :
    Calls Tryd.prog 55 #[.slice (some ⟨bk, o, none⟩) xs.length c, .string sep] w fun e w' => e = .returned (.string ⟨(Lib.join (xs.map (·.data.toList)) sep.data.toList).toArray⟩) ∧ Below w.heap.size w w' := Any.strings_Join lays156 Builder_Extra_156 bk o c xs sep w hcells hbk hN hcap hlen
end Go.Proofs.YtkdpclllenbgfaaDoor
/- A path's text: the program's and the reference's. -/
namespace Go.Proofs.YtkdpclllenbgfaaDoor
open Go.ChangeShapes Go.WideShapes Go.ChangeAt Go.RowKit
set_option linter.unusedVariables false
set_option linter.unusedSimpArgs false

def slash : ByteArray := ⟨#[47]⟩
def textL (p : List ByteArray) : List UInt8 := Lib.join (p.map (·.data.toList)) [47]
def textB (p : List ByteArray) : ByteArray := if p = [] then ⟨#[42]⟩ else ⟨(textL p).toArray⟩
/-- What Text tells: the text, and the error. -/
def textR (p : List ByteArray) : ByteArray × Int := if mayB p then (textB p, 0) else (⟨#[]⟩, 10)
def accT (p : List ByteArray) : Nat → ByteArray
  | 0 => ⟨#[]⟩
  | k + 1 => (if 0 < k then accT p k ++ slash else accT p k) ++ p.getD k ⟨#[]⟩
theorem mayB_size {p : List ByteArray} (h : mayB p = true) : p.length ≤ 3 ∧ ∀ s ∈ p, s.size ≤ 12 := by
  unfold mayB at h
  rw [Bool.and_eq_true] at h
  refine ⟨of_decide_eq_true h.1, fun s hs => ?_⟩
  have := List.all_eq_true.1 h.2 s hs
  unfold nameB at this
  exact (of_decide_eq_true this).2.1
theorem joinTail_len (r : List (List UInt8)) (h : ∀ x ∈ r, x.length ≤ 12) : (Lib.joinTail [47] r).length ≤ 13 * r.length := by
  induction r with
  | nil => simp [Lib.joinTail]
  | cons x r ih =>
    have h1 := h x List.mem_cons_self
    have h2 := ih (fun y hy => h y (List.mem_cons_of_mem _ hy))
    simp only [Lib.joinTail, List.map_cons, List.flatten_cons, List.length_append, List.length_cons, List.length_nil] at h2 ⊢
    omega
theorem textL_len {p : List ByteArray} (h : mayB p = true) : (textL p).length ≤ 38 := by
  obtain ⟨h1, h2⟩ := mayB_size h
  unfold textL
  cases p with
  | nil => simp [Lib.join_nil]
  | cons x r =>
    rw [List.map_cons, Lib.join_cons, List.length_append]
    have a := h2 x List.mem_cons_self
    have b := joinTail_len (r.map (·.data.toList)) (fun y hy => by
      obtain ⟨s, hs, rfl⟩ := List.mem_map.1 hy
      have := h2 s (List.mem_cons_of_mem _ hs)
      rw [Array.length_toList]
      exact this)
    rw [List.length_map] at b
    have : x.data.toList.length = x.size := by rw [Array.length_toList]; rfl
    simp only [List.length_cons] at h1
    omega
theorem textB_size {p : List ByteArray} (h : mayB p = true) : (textB p).size ≤ 38 := by
  unfold textB
  split
  · decide
  · show (textL p).toArray.size ≤ 38
    rw [List.size_toArray]
    exact textL_len h
theorem join_snoc (xs : List (List UInt8)) (x sep : List UInt8) (h : xs ≠ []) : Lib.join (xs ++ [x]) sep = Lib.join xs sep ++ sep ++ x := by
  cases xs with
  | nil => exact absurd rfl h
  | cons a r => rw [List.cons_append, Lib.join_cons, Lib.join_cons]; simp [Lib.joinTail]
theorem accT_eq (p : List ByteArray) (k : Nat) (hk : k ≤ p.length) : accT p k = ⟨(textL (p.take k)).toArray⟩ := by
  induction k with
  | zero => rfl
  | succ k ih =>
    have hlt : k < p.length := by omega
    unfold accT
    rw [ih (by omega), List.getD_eq_getElem?_getD, List.getElem?_eq_getElem hlt, Option.getD_some, List.take_succ_eq_append_getElem hlt]
    by_cases h0 : 0 < k
    · rw [if_pos h0]
      unfold textL
      rw [List.map_append, List.map_cons, List.map_nil, join_snoc _ _ _ (by intro h; have := congrArg List.length h; rw [List.length_map, List.length_take, List.length_nil] at this; omega)]
      apply ByteArray.ext
      simp [slash]
    · rw [if_neg h0]
      obtain rfl : k = 0 := by omega
      apply ByteArray.ext
      simp [textL, Lib.join_nil, Lib.join_one]
theorem accT_size {p : List ByteArray} (h : mayB p = true) (k : Nat) (hk : k ≤ p.length) : (accT p k).size ≤ 38 := by
  rw [accT_eq p k hk]
  have h2 : mayB (p.take k) = true := by
    unfold mayB at h ⊢
    rw [Bool.and_eq_true] at h ⊢
    have a := of_decide_eq_true h.1
    refine ⟨decide_eq_true (by rw [List.length_take]; omega), List.all_eq_true.2 fun s hs => List.all_eq_true.1 h.2 s (List.mem_of_mem_take hs)⟩
  show (textL (p.take k)).toArray.size ≤ 38
  rw [List.size_toArray]
  exact textL_len h2
def GivesT (r : ByteArray × Int) (w : World) (e : Ending) (w' : World) : Prop := e = .returned (.tuple #[.string r.1, .int .i64 r.2]) ∧ Below w.heap.size w w'
set_option maxHeartbeats 800000 in
theorem text_any (v : Value) (p : List ByteArray) (w : World) (hv : Sl w w.heap.size v (svals p)) (hs : StrOk p) (hl : p.length ≤ 9223372036854775807) :
    Calls Tryd.prog 35 #[v] w (GivesT (textR p) w) := by
  have HM := hid (mayN_any v p w hv hs hl)
  have HV := hid (fun W (hb : Below w.heap.size w W) => hv.below hb)
  obtain ⟨A, c, rfl, hc1, hc2, hA⟩ := hv
  simp only [svals_len] at hc1 hA HM HV ⊢
  unfold maxLen at hc2
  clear hA
  cases hm : mayB p
  · have HR := hid (show textR p = (⟨#[]⟩, 10) by unfold textR; rw [hm]; rfl)
    rw [hm] at HM
    clear hm HV
    go_enter Tryd.func35, Tryd.ntmps35
    go_wp2_with fail
    refine HM.out.mono ?_
    rintro e w1 ⟨rfl, hb⟩
    go_wp2
    go_ret2
    exact ⟨by rw [HR.out]; rfl, hb⟩
  · have hsz := textL_len hm
    have hlen3 := (mayB_size hm).1
    have hR : textR p = (textB p, 0) := by unfold textR; rw [hm]; rfl
    rw [hm] at HM
    clear hm
    by_cases h0 : p.length = 0
    · have HR := hid (show textR p = (⟨#[42]⟩, 0) by rw [hR]; unfold textB; rw [if_pos (List.eq_nil_of_length_eq_zero h0)])
      rw [h0] at HM ⊢
      clear hR HV hsz h0 hlen3
      go_enter Tryd.func35, Tryd.ntmps35
      go_wp2_with fail
      refine HM.out.mono ?_
      rintro e w1 ⟨rfl, hb⟩
      go_wp2
      go_ret2
      exact ⟨by rw [HR.out]; rfl, hb⟩
    · have HR := hid (show textR p = (⟨(textL p).toArray⟩, 0) by rw [hR]; unfold textB; rw [if_neg (by rintro rfl; exact h0 rfl)])
      have t1 : ((p.length : Int) == 0) = false := by rw [beq_eq_false_iff_ne]; omega
      have HSZ := hid hsz
      have H0 := hid h0
      clear hR hsz h0
      go_enter Tryd.func35, Tryd.ntmps35
      go_wp2_with fail
      refine HM.out.mono ?_
      rintro e w1 ⟨rfl, hb⟩
      have HB := hid hb
      obtain ⟨A', c', e, -, -, hA'⟩ := HV.out _ hb
      simp only [Value.slice.injEq, svals_len] at e hA'
      obtain ⟨rfl, -, rfl⟩ := e
      obtain ⟨b, off, rfl, hbl, hcell⟩ := hA' (by have := H0.out; omega)
      have HJ := hid (strings_Join b off c p ⟨#[47]⟩ w1 (fun j x hx => hcell j (.string x) (by simp [svals, hx])) (by have := hb.size; omega) (by omega) hc1 (Nat.le_trans (show _ ≤ 38 from HSZ.out) (by decide)))
      clear hb hA' hcell
      go_wp2_with fail
      refine HJ.out.mono ?_
      rintro e w2 ⟨rfl, hb2⟩
      have HB2 := hid (HB.out.trans (hb2.mono HB.out.size)); clear hb2
      go_wp2
      go_ret2
      exact ⟨by rw [HR.out]; rfl, HB2.out⟩
end Go.Proofs.YtkdpclllenbgfaaDoor
