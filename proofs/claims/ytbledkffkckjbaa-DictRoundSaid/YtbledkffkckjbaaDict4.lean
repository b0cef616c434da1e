/- The program's dictionary: Code. -/
import Derived.Test.YtbledkffkckjbaaDict3
namespace Go.Proofs.Ytbledkffkckjbaa
open Go.ChangeShapes Go.WideShapes Go.ChangeAt Go.RowKit Go.Maps
set_option linter.unusedVariables false

theorem walkD_append (ns : List DNode) (up : Nat) (p q : List ByteArray) : walkD ns up (p ++ q) = (walkD ns up p).bind fun u => walkD ns u q := by
  induction p generalizing up with
  | nil => rfl
  | cons s p ih =>
    simp only [List.cons_append, walkD]
    split
    · rfl
    · exact ih _
theorem walkD_take_succ (ns : List DNode) (p : List ByteArray) (k u : Nat) (hk : k < p.length) (h : walkD ns 0 (p.take k) = some u) :
    walkD ns 0 (p.take (k + 1)) = if code ns (u, p[k]) = 0 then none else some (code ns (u, p[k])) := by
  rw [List.take_succ_eq_append_getElem hk, walkD_append, h]
  simp only [Option.bind_some, walkD]
theorem walkD_none (ns : List DNode) (p : List ByteArray) (k : Nat) (h : walkD ns 0 (p.take k) = none) : walkD ns 0 p = none := by
  conv => lhs; rw [← List.take_append_drop k p]
  rw [walkD_append, h]; rfl
theorem DictW.map {w : World} {D : Nat → Prop} {d : Nat} {L : Int} {ns : List DNode} (h : DictW w D d L ns) : ∃ m, w.cell? ⟨d, 2, none⟩ = some (.map (some m)) ∧ m < w.heap.size ∧ MapC w m ns := by
  obtain ⟨h1, h2, h3, h4, v, m, h5, h6, h7, h8, h9, h10, h11, h12⟩ := h
  exact ⟨m, h6, h2 m h7, h12⟩
/-- Names that are short. -/
theorem may_short {p : List ByteArray} (h : mayB p = true) : p.length ≤ 3 ∧ ∀ s ∈ p, 1 ≤ s.size ∧ s.size ≤ 12 := by
  unfold mayB at h
  rw [Bool.and_eq_true, decide_eq_true_eq, List.all_eq_true] at h
  refine ⟨h.1, fun s hs => ?_⟩
  have := h.2 s hs
  unfold nameB at this
  rw [decide_eq_true_eq] at this
  exact ⟨this.1, this.2.1⟩
def optD : Option Nat → Int × Int
  | none => (0, 33)
  | some u => ((u : Int), 0)
def codeDR (ns : List DNode) (p : List ByteArray) : Int × Int := if mayB p = false then (0, 10) else optD (walkD ns 0 p)
def CodeRel (ns : List DNode) (p : List ByteArray) (up i : Value) : Prop := ∃ k u : Nat, i = .int .i64 k ∧ up = .int .i64 (u : Int) ∧ k ≤ p.length ∧ walkD ns 0 (p.take k) = some u ∧ u ≤ ns.length
set_option maxHeartbeats 1600000 in
theorem codeD_any (D : Nat → Prop) (d : Nat) (L : Int) (ns : List DNode) (v : Value) (p : List ByteArray) (w : World) (h : DictW w D d L ns) (hi : DInv ns) (hl : ns.length ≤ 1000) (hv : Sl w w.heap.size v (svals p)) (hs : StrOk p) (hpl : p.length ≤ 9223372036854775807) :
    Calls Try.prog 9 #[.pointer (some ⟨d, 0, none⟩), v] w (Gives2 (codeDR ns p).1 (codeDR ns p).2 w) := by
  have HM := hid (may_any v p w hv hs hpl)
  have hcd : codeDR ns p = if mayB p = false then (0, 10) else optD (walkD ns 0 p) := rfl
  have hv' := hv
  obtain ⟨A, c, rfl, hc1, hc2, hA⟩ := hv
  simp only [svals_len] at hc1 HM hv' ⊢
  have hd := h.2.1 d h.1
  have HH := hid h; have HA := hid hA; have HC := hid hcd; have HI := hid hi
  clear hA h hcd hi hv'
  unfold maxLen at hc2
  go_enter Try.func9, Try.ntmps9
  go_wp2_with fail
  refine HM.out.mono ?_
  rintro e w1 ⟨rfl, hb1⟩
  have HB1 := hid hb1; clear hb1
  cases hmb : mayB p with
  | false =>
    have hr := HC.out
    rw [if_pos hmb] at hr
    have HR := hid hr; clear hr hmb
    go_wp2
    go_ret2
    exact ⟨by rw [HR.out]; rfl, HB1.out⟩
  | true =>
    have hr := HC.out
    rw [if_neg (by rw [hmb]; decide)] at hr
    obtain ⟨hp3, hshort⟩ := may_short hmb
    have HR := hid hr; have HSH := hid hshort; clear hr hmb hshort
    obtain ⟨m, hm, hmlt, hmap⟩ := (HH.out.below HB1.out).map
    obtain ⟨n, Dm, how, hn, hC⟩ := hmap
    have HOW := hid how; have HCM := hid hC; clear how hC
    go_wp2
    go_loop [6, 16] (fun up i => CodeRel ns p up i) (fun _ i => p.length - (intOf i).toNat)
    case atStart => exact ⟨0, 0, rfl, rfl, by omega, rfl, by omega⟩
    case round =>
      obtain ⟨k, u, rfl, rfl, hk, hwk, hu⟩ := hrel
      have HWK := hid hwk; clear hwk
      by_cases hlt : k < p.length
      · obtain ⟨b, off, rfl, hbl, hcell⟩ := Sl.str HA.out hlt
        replace hcell := cellK HB1.out hbl hcell
        have hss := HSH.out _ (List.getElem_mem hlt)
        have hws := walkD_take_succ ns p k u hlt HWK.out
        have hwn := walkD_none ns p (k + 1)
        generalize p[k] = s at *
        obtain ⟨kl, hkl⟩ := node_key (u, s) (by simp; omega) (by simp; omega)
        obtain ⟨hC1, hC2⟩ := HCM.out (u, s) kl hkl
        have hcl := code_le ns (u, s)
        generalize code ns (u, s) = x at *
        have HKL := hid hkl; have HC1 := hid hC1; have HC2 := hid hC2; have HWS := hid hws; have HWN := hid hwn
        clear hkl hC1 hC2 hws hwn hss
        go_wp2_with (at_lookup; refine stop_here ?_)
        refine go_on ?_
        refine wpList_lookup_own_ok_int _ rfl (.tmp 24) (.tmp 27) 63 rfl 67 3 .i64 node_law Try.underlying63 Try.underlying3 (zero_int _) m n Dm rfl HOW.out (nodeV (u, s)) kl rfl HKL.out ?_
        intro cc hat hwc
        rw [HC2.out] at hat
        obtain rfl : cc = (x : Int) := by injection hat with hat; injection hat with _ hat; exact hat.symm
        rw [HC1.out]
        clear hat hwc
        by_cases hx : x = 0
        · have hws := HWS.out
          rw [if_pos hx] at hws
          have hwp := HWN.out hws
          have hr := HR.out
          rw [hwp] at hr
          rw [decide_eq_false (by simp [hx])]
          have HR2 := hid hr; clear hr hx hws hwp
          go_wp2
          go_ret2
          exact ⟨by rw [HR2.out]; rfl, HB1.out⟩
        · have hws := HWS.out
          rw [if_neg hx] at hws
          rw [decide_eq_true (by simpa using hx)]
          have HWS2 := hid hws; clear hws hx
          go_wp2
          go_round
          case rel => exact ⟨k + 1, x, by go_num, rfl, by omega, HWS2.out, hcl⟩
          case measure => simp [intOf]; omega
      · have hr := HR.out
        have hwk := HWK.out
        rw [List.take_of_length_le (by omega)] at hwk
        rw [hwk] at hr
        have HR2 := hid hr; clear hr hwk
        go_wp2
        go_ret2
        exact ⟨by rw [HR2.out]; rfl, HB1.out⟩
end Go.Proofs.Ytbledkffkckjbaa
