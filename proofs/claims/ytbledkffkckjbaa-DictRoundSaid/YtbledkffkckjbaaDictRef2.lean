/- The reference's dictionary: Code, Up, Put. -/
import Derived.Test.YtbledkffkckjbaaDictRef
import Derived.Test.YtbledkffkckjbaaWireRefPut
namespace Go.Proofs.Ytbledkffkckjbaa
open Go.ChangeShapes Go.WideShapes Go.ChangeAt Go.RowKit
set_option linter.unusedVariables false

theorem svals_take (p : List ByteArray) (m : Nat) : svals (p.take m) = (svals p).take m := by simp [svals, List.map_take]
theorem Sl.formS {w : World} {B : Nat} {v : Value} {p : List ByteArray} (h : Sl w B v (svals p)) : ∃ A c, v = .slice A p.length c ∧ p.length ≤ c ∧ c ≤ maxLen := by
  obtain ⟨A, c, rfl, h1, h2, -⟩ := h
  rw [svals_len] at h1 ⊢
  exact ⟨A, c, rfl, h1, h2⟩
def Stay2 (a b : Int) (w : World) (e : Ending) (w' : World) : Prop := e = .returned (.tuple #[.int .i64 a, .int .i64 b]) ∧ Qu w w'
def codeR (pl : List (List ByteArray)) (p : List ByteArray) : Int × Int :=
  if mayB p = false then (0, 10) else if p = [] then (0, 0) else if code pl p = 0 then (0, 33) else (((code pl p : Nat) : Int), 0)
set_option maxHeartbeats 400000 in
theorem refCode_any (R : Nat → Prop) (r : Nat) (L : Int) (pl : List (List ByteArray)) (v : Value) (p : List ByteArray) (w : World) (h : RefW w R r L pl) (hpl : pl.length ≤ 1000) (hv : Sl w w.heap.size v (svals p)) :
    Calls Try.prog 10 #[.pointer (some ⟨r, 0, none⟩), v] w (Stay2 (codeR pl p).1 (codeR pl p).2 w) := by
  have hm := refMay_any v p w hv
  have hf := fun W (hq : Qu w W) => refFind_any R r L pl v p W (h.below (hq.below _)) hpl (by have := hv.qu' hq; rwa [Qu.size hq])
  have hcl := code_le pl p
  obtain ⟨A, c, rfl, hc1, hc2⟩ := hv.formS
  have HM := hid hm; have HF := hid hf; clear hm hf h hv
  have hcr : codeR pl p = if mayB p = false then (0, 10) else if p = [] then (0, 0) else if code pl p = 0 then (0, 33) else (((code pl p : Nat) : Int), 0) := rfl
  have HR := hid hcr; clear hcr
  go_enter Try.func10, Try.ntmps10
  go_wp2_with fail
  refine HM.out.mono ?_
  rintro e w1 ⟨rfl, hq1⟩
  have HQ1 := hid hq1; clear hq1
  cases hmb : mayB p with
  | false =>
    have hr := HR.out
    rw [if_pos hmb] at hr
    have HR2 := hid hr; clear hr hmb
    go_wp2
    go_ret2
    exact ⟨by rw [HR2.out]; rfl, HQ1.out⟩
  | true =>
    have hr := HR.out
    rw [if_neg (by rw [hmb]; decide)] at hr
    clear hmb
    by_cases hp : p = []
    · rw [if_pos hp] at hr
      have t0 : ((p.length : Int) == 0) = true := by simp [hp]
      have HR2 := hid hr; clear hr hp
      go_wp2
      go_ret2
      exact ⟨by rw [HR2.out]; rfl, HQ1.out⟩
    · rw [if_neg hp] at hr
      have t0 : ((p.length : Int) == 0) = false := by
        rw [beq_eq_false_iff_ne]; intro h; exact hp (List.eq_nil_of_length_eq_zero (by omega))
      clear hp
      generalize code pl p = n at *
      have HR2 := hid hr; clear hr
      go_wp2_with fail
      refine (HF.out _ HQ1.out).mono ?_
      rintro e w2 ⟨rfl, hq2⟩
      have HQ2 := hid (HQ1.out.trans hq2); clear hq2
      by_cases hn : n = 0
      · have hr := HR2.out
        rw [if_pos hn] at hr
        have t1 : ((n : Int) == 0) = true := by simp [hn]
        have HR3 := hid hr; clear hr hn
        go_wp2
        go_ret2
        exact ⟨by rw [HR3.out]; rfl, HQ2.out⟩
      · have hr := HR2.out
        rw [if_neg hn] at hr
        have t1 : ((n : Int) == 0) = false := by rw [beq_eq_false_iff_ne]; omega
        have HR3 := hid hr; clear hr hn
        go_wp2
        go_ret2
        exact ⟨by rw [HR3.out]; rfl, HQ2.out⟩
/-- The path that Path tells. -/
def pathR (pl : List (List ByteArray)) (c : Int) : List ByteArray := if c < 0 ∨ (pl.length : Int) < c ∨ c = 0 then [] else pl.getD (c.toNat - 1) []
def upR (pl : List (List ByteArray)) (c level : Int) : Int × Int :=
  if c < 0 ∨ (pl.length : Int) < c then (0, 33) else if level < 0 ∨ ((pathR pl c).length : Int) < level then (0, 1) else (((code pl ((pathR pl c).take level.toNat) : Nat) : Int), 0)
set_option maxHeartbeats 400000 in
theorem refUp_any (R : Nat → Prop) (r : Nat) (L : Int) (pl : List (List ByteArray)) (c level : Int) (w : World) (h : RefW w R r L pl) (hpl : pl.length ≤ 1000) :
    Calls Try.prog 34 #[.pointer (some ⟨r, 0, none⟩), .int .i64 c, .int .i64 level] w (Stay2 (upR pl c level).1 (upR pl c level).2 w) := by
  have hp := refPath_any R r L pl c w h hpl
  have hf := fun v q hv => refFind_any R r L pl v q w h hpl hv
  have hcl := fun q => code_le pl q
  have hur : upR pl c level = if c < 0 ∨ (pl.length : Int) < c then (0, 33) else if level < 0 ∨ ((pathR pl c).length : Int) < level then (0, 1) else (((code pl ((pathR pl c).take level.toNat) : Nat) : Int), 0) := rfl
  have HR := hid hur; clear hur
  have HP := hid hp; have HF := hid hf; have HCL := hid hcl; clear hp hf h hcl
  go_enter Try.func34, Try.ntmps34
  go_wp2_with fail
  refine HP.out.mono ?_
  rintro e w1 ⟨v, rfl, hv, rfl⟩
  by_cases hc : c < 0 ∨ (pl.length : Int) < c
  · have hr := HR.out
    rw [if_pos hc] at hr ⊢
    have HR2 := hid hr; clear hr hc hv
    go_wp2
    go_ret2
    exact ⟨by rw [HR2.out]; rfl, Qu.refl _⟩
  · have hr := HR.out
    rw [if_neg hc] at hr ⊢
    clear hc
    have hv' : Sl w w.heap.size v (svals (pathR pl c)) := hv
    clear hv
    generalize pathR pl c = q at *
    obtain ⟨A, cc, rfl, hc1, hc2⟩ := hv'.formS
    have HV := hid hv'; clear hv'
    unfold maxLen at hc2
    by_cases hl : level < 0 ∨ (q.length : Int) < level
    · rw [if_pos hl] at hr
      have HR2 := hid hr; clear hr
      rcases hl with hl | hl
      · go_wp2
        go_ret2
        exact ⟨by rw [HR2.out]; rfl, Qu.refl _⟩
      · by_cases hl0 : level < 0
        · go_wp2
          go_ret2
          exact ⟨by rw [HR2.out]; rfl, Qu.refl _⟩
        · go_wp2
          go_ret2
          exact ⟨by rw [HR2.out]; rfl, Qu.refl _⟩
    · rw [if_neg hl] at hr
      obtain ⟨m, rfl⟩ := Int.eq_ofNat_of_zero_le (show 0 ≤ level by omega)
      rw [Int.toNat_natCast] at hr
      have hm : m ≤ q.length := by omega
      have hsl := Sl.head m HV.out hm
      rw [← svals_take] at hsl
      have hfd := HF.out _ _ hsl
      have hcl := HCL.out (q.take m)
      generalize code pl (q.take m) = n at *
      have HR2 := hid hr; have HFD := hid hfd; clear hr hl hfd hsl
      go_wp2_with fail
      refine HFD.out.mono ?_
      rintro e w2 ⟨rfl, hq2⟩
      go_wp2
      go_ret2
      exact ⟨by rw [HR2.out]; rfl, hq2⟩
def itemR (pl : List (List ByteArray)) (p : List ByteArray) : List UInt8 :=
  putInt ((code pl (p.take (p.length - 1)) : Nat) : Int) ++ (putInt ((p.getD (p.length - 1) ByteArray.empty).size : Nat) ++ (p.getD (p.length - 1) ByteArray.empty).data.toList)
def putR (pl : List (List ByteArray)) : List UInt8 := putInt (pl.length : Nat) ++ pl.flatMap (itemR pl)
def PutSl (l : List UInt8) (w : World) (e : Ending) (w' : World) : Prop := ∃ v, e = .returned v ∧ Sl w' w'.heap.size v (bvals l) ∧ Below w.heap.size w w'
def PutRel (pl : List (List ByteArray)) (l : List UInt8) (w : World) (v i : Value) (wr : World) : Prop :=
  ∃ k : Nat, i = .int .i64 k ∧ k ≤ pl.length ∧ Sl wr wr.heap.size v (bvals (l ++ (putInt (pl.length : Nat) ++ (pl.take k).flatMap (itemR pl)))) ∧ Below w.heap.size w wr ∧ ((pl.take k).flatMap (itemR pl)).length ≤ k * 100
/-- Paths of names: none is empty, all names are short. -/
def PlOk (pl : List (List ByteArray)) : Prop := ∀ p ∈ pl, p ≠ [] ∧ ∀ s ∈ p, s.size ≤ 12
theorem item_len (pl : List (List ByteArray)) (p : List ByteArray) (h : ∀ s ∈ p, s.size ≤ 12) (hp : p ≠ []) : (itemR pl p).length ≤ 100 := by
  have hl : 0 < p.length := List.length_pos_iff.2 hp
  have e : p.getD (p.length - 1) ByteArray.empty = p[p.length - 1] := by rw [List.getD_eq_getElem?_getD, List.getElem?_eq_getElem (by omega)]; rfl
  have h1 := h _ (List.getElem_mem (show p.length - 1 < p.length by omega))
  unfold itemR
  rw [e]
  have h2 := putInt_le ((code pl (p.take (p.length - 1)) : Nat) : Int)
  have h3 := putInt_le ((p[p.length - 1].size : Nat) : Int)
  have h4 : p[p.length - 1].data.toList.length = p[p.length - 1].size := by rw [Array.length_toList]; rfl
  simp only [List.length_append]; omega
set_option maxRecDepth 100000 in
set_option maxHeartbeats 800000 in
theorem refDPut_any (R : Nat → Prop) (r : Nat) (L : Int) (pl : List (List ByteArray)) (v : Value) (l : List UInt8) (w : World) (h : RefW w R r L pl) (hpl : pl.length ≤ 1000) (hok : PlOk pl) (hv : Sl w w.heap.size v (bvals l)) (hl : l.length ≤ 1000000) :
    Calls Try.prog 36 #[.pointer (some ⟨r, 0, none⟩), v] w (PutSl (l ++ putR pl) w) := by
  obtain ⟨A, c, h5, hc1, hc2, hrow⟩ := h.row
  have hrl := h.2.1 r h.1
  have hp0 := putInt_le ((pl.length : Nat) : Int)
  have HP := hid (refPutInt_any v l ((pl.length : Nat) : Int) w hv (by omega) (by omega) (by omega))
  have HH := hid h; have HROW := hid hrow; have HOK := hid hok; clear h hrow hok hv
  unfold maxLen at hc2
  go_enter Try.func36, Try.ntmps36
  go_wp2_with fail
  refine HP.out.mono ?_
  rintro e w1 ⟨v1, rfl, hown1, hb1⟩
  have S1 := hid (Sl.of_own hown1); have B1 := hid hb1; clear hown1 hb1
  go_wp2
  go_loopw [5, 6, 7] (fun v i _ wr => PutRel pl l w v i wr) (fun _ i _ _ => pl.length - (intOf i).toNat)
  case atStart => exact ⟨0, rfl, by omega, by simpa using S1.out, B1.out, by simp⟩
  case round =>
    obtain ⟨k, rfl, hk, hs, hb, hlen⟩ := hrel
    have h5' : wr.cell? ⟨r, 1, none⟩ = _ := cellK hb hrl h5
    have HS := hid hs; have HB := hid hb; clear hs hb
    by_cases hlt : k < pl.length
    · obtain ⟨b, off, u, rfl, hcell, hsl⟩ := HROW.out k hlt
      have hbl := World.block_lt_of_cell? w _ hcell
      replace hcell := cellK HB.out hbl hcell
      have hslr : Sl wr wr.heap.size u (svals pl[k]) := (hsl.below HB.out).more HB.out.size
      obtain ⟨hne, hsz⟩ := HOK.out _ (List.getElem_mem hlt)
      have hil := item_len pl pl[k] hsz hne
      have e1 : (pl.take (k + 1)).flatMap (itemR pl) = (pl.take k).flatMap (itemR pl) ++ itemR pl pl[k] := by
        rw [List.take_succ_eq_append_getElem hlt, List.flatMap_append]; simp
      have hplen : 0 < pl[k].length := List.length_pos_iff.2 hne
      generalize pl[k] = q at *
      have hla : (l ++ (putInt ((pl.length : Nat) : Int) ++ (pl.take k).flatMap (itemR pl))).length ≤ 1200000 := by simp only [List.length_append]; omega
      obtain ⟨n, hn⟩ : ∃ n, q.length = n + 1 := ⟨q.length - 1, by omega⟩
      have hit : itemR pl q = putInt ((code pl (q.take n) : Nat) : Int) ++ (putInt ((q[n]'(by omega)).size : Nat) ++ (q[n]'(by omega)).data.toList) := by
        have e0 : q.length - 1 = n := by omega
        unfold itemR
        rw [e0, List.getD_eq_getElem?_getD, List.getElem?_eq_getElem (by omega)]; rfl
      have hlast := hsz _ (List.getElem_mem (show n < q.length by omega))
      obtain ⟨Aq, cq, rfl, hq1, hq2⟩ := hslr.formS
      have hcode := code_le pl (q.take n)
      have hsh := Sl.head n hslr (by omega)
      rw [← svals_take] at hsh
      have hf := refFind_any R r L pl _ _ wr (HH.out.below (HB.out.mono (Nat.le_refl _))) hpl hsh
      have hcell2 : ∃ b2 off2, Aq = some ⟨b2, off2, none⟩ ∧ b2 < wr.heap.size ∧ wr.cell? ⟨b2, off2 + n, none⟩ = some (.string (q[n]'(by omega))) := by
        obtain ⟨A', c', e, -, -, g4⟩ := hslr
        injection e with e _ _
        subst e
        exact Sl.str g4 (by omega)
      obtain ⟨b2, off2, rfl, hb2, hcell2⟩ := hcell2
      generalize q[n]'(by omega) = t at *
      generalize code pl (q.take n) = m at *
      have hs0 := HS.out
      generalize hacc : l ++ (putInt ((pl.length : Nat) : Int) ++ (pl.take k).flatMap (itemR pl)) = acc at *
      rw [hn] at hcell hq1
      have HS' := hid hs0
      have HACC := hid hacc; have HIT := hid hit; have HE1 := hid e1; have HF := hid hf
      clear hacc hit e1 hf hsh hslr hsl hne hsz hn hs0 HS hplen
      unfold maxLen at hq2
      go_wp2_with fail
      refine HF.out.mono ?_
      rintro e w2 ⟨rfl, hq2⟩
      have HQ2 := hid hq2; clear hq2
      have hz2 : w2.heap.size = wr.heap.size := Qu.size HQ2.out
      have hsl2 : Sl w2 w2.heap.size u5 (bvals acc) := by have := HS'.out.qu' HQ2.out; rwa [hz2]
      have hput := refPutInt_any u5 acc ((m : Nat) : Int) w2 hsl2 (by omega) (by omega) (by omega)
      have hcell3 : w2.cell? ⟨b2, off2 + n, none⟩ = _ := (HQ2.out.cell _).trans hcell2
      have HPT := hid hput; have HC3 := hid hcell3; clear hput hsl2 hcell3 hcell2
      go_wp2_with fail
      refine HPT.out.mono ?_
      rintro e w3 ⟨v3, rfl, hown3, hb3⟩
      have S3 := hid (Sl.of_own hown3); have B3 := hid hb3; clear hown3 hb3
      have hm10 := putInt_le ((m : Nat) : Int)
      have hcell4 := cellK B3.out (by omega) HC3.out
      have htx := refPutText_any v3 (acc ++ putInt ((m : Nat) : Int)) t w3 S3.out (by simp only [List.length_append]; omega)
      have HTX := hid htx; clear htx
      go_wp2_with fail
      refine HTX.out.mono ?_
      rintro e w4 ⟨v4, rfl, hown4, hb4⟩
      have S4 := hid (Sl.of_own hown4); have B4 := hid hb4; clear hown4 hb4
      have B5 := hid ((HB.out.trans (HQ2.out.below w.heap.size)).trans ((B3.out.mono (by rw [hz2]; exact HB.out.size)).trans (B4.out.mono (Nat.le_trans HB.out.size (by rw [← hz2]; exact B3.out.size)))))
      clear hcell4 hz2
      go_wp2
      go_roundw
      case rel =>
        refine ⟨k + 1, by go_num, by omega, ?_, B5.out, ?_⟩
        · have := S4.out
          rw [← HACC.out] at this
          rw [HE1.out, HIT.out]
          simpa [List.append_assoc] using this
        · rw [HE1.out, List.length_append]; omega
      case measure => simp [intOf]; omega
    · obtain rfl : k = pl.length := by omega
      go_wp2
      go_ret
      refine ⟨_, rfl, ?_, HB.out⟩
      have := HS.out
      rw [List.take_length] at this
      exact this
end Go.Proofs.Ytbledkffkckjbaa
