/- 1 text of this claim, in build order. -/
import Derived.Test.YtkdpclllenbgfaaDoorPdcmacplk
import Derived.Test.YtkdpclllenbgfaaDoorPnpoaplpa
/- The laws' lives (layer 12): the document's examples. -/
namespace Go.Proofs.YtkdpclllenbgfaaDoor
open Go.ChangeShapes Go.WideShapes Go.ChangeAt Go.RowKit
set_option linter.unusedVariables false
set_option linter.unusedSimpArgs false

def sL : SchemaX := ([(⟨#[97]⟩, [⟨#[108]⟩, ⟨#[109]⟩]), (⟨#[98]⟩, [⟨#[108]⟩, ⟨#[109]⟩])], [⟨#[118]⟩], [])
def qL : QueryX := ([1, 0], [(1, 2, [[⟨#[97]⟩, ⟨#[120]⟩]])])
def p1L : List (List ByteArray) := [[⟨#[98]⟩, ⟨#[99]⟩], [⟨#[97]⟩, ⟨#[120]⟩]]
def p2L : List (List ByteArray) := [[⟨#[98]⟩, ⟨#[99]⟩], [⟨#[97]⟩, ⟨#[121]⟩]]
theorem ll1 : mayQ sL qL = 0 := by decide +kernel
theorem ll2 : needQ qL = [1, 2] := by decide +kernel
theorem ll3 : keyQ qL p1L = [[⟨#[98]⟩], []] := by decide +kernel
theorem ll4 : passesB qL p1L = true := by decide +kernel
theorem ll5 : passesB qL p2L = false := by decide +kernel
/-- The example's schema and query, as the literals lay them. -/
structure Ex (w : World) (N : Nat) : Prop where
  lt : N + 1 + 1 + 1 + 1 + 1 + 1 + 1 + 1 < w.heap.size
  s0 : w.cell? ⟨N + 1 + 1 + 1, 0, none⟩ = some (.slice (some ⟨N + 1, 0, none⟩) 2 2)
  s1 : w.cell? ⟨N + 1 + 1 + 1, 1, none⟩ = some (.slice (some ⟨N + 1 + 1, 0, none⟩) 1 1)
  s2 : w.cell? ⟨N + 1 + 1 + 1, 2, none⟩ = some (.slice none 0 0)
  q0 : w.cell? ⟨N + 1 + 1 + 1 + 1 + 1 + 1 + 1 + 1, 0, none⟩ = some (.slice (some ⟨N + 1 + 1 + 1 + 1, 0, none⟩) 2 2)
  q1 : w.cell? ⟨N + 1 + 1 + 1 + 1 + 1 + 1 + 1 + 1, 1, none⟩ = some (.slice (some ⟨N + 1 + 1 + 1 + 1 + 1 + 1 + 1, 0, none⟩) 1 1)
  sv : SchemaV w w.heap.size (.agg #[.slice (some ⟨N + 1, 0, none⟩) 2 2, .slice (some ⟨N + 1 + 1, 0, none⟩) 1 1, .slice none 0 0]) sL
  qv : QueryV w w.heap.size (.agg #[.slice (some ⟨N + 1 + 1 + 1 + 1, 0, none⟩) 2 2, .slice (some ⟨N + 1 + 1 + 1 + 1 + 1 + 1 + 1, 0, none⟩) 1 1]) qL
theorem Ex.on {w w' : World} {N : Nat} (h : Ex w N) (hb : Below w.heap.size w w') : Ex w' N :=
  ⟨Nat.lt_of_lt_of_le h.lt hb.size, cellK hb (by have := h.lt; omega) h.s0, cellK hb (by have := h.lt; omega) h.s1, cellK hb (by have := h.lt; omega) h.s2, cellK hb h.lt h.q0, cellK hb h.lt h.q1, h.sv.on hb, h.qv.on hb⟩
def pW (w : World) (a b c d : ByteArray) : World :=
  ((w.alloc (.cells #[.string a, .string b] 9)).alloc (.cells #[.string c, .string d] 9)).alloc (.cells #[.slice (some ⟨w.heap.size, 0, none⟩) 2 2, .slice (some ⟨w.heap.size + 1, 0, none⟩) 2 2] 41)
theorem pW_below (w : World) (a b c d : ByteArray) : Below w.heap.size w (pW w a b c d) := by
  unfold pW
  exact (by repeat' first | with_reducible exact Below.refl _ _ | assumption | (with_reducible refine Below.alloc ?_ ?_ _) | (with_reducible refine Below.setCell ?_ ?_ _) | (with_reducible refine Below.drew ?_) | (with_reducible refine below_drewN ?_ _) | (with_reducible refine Below.trans ?_ (Below.mono ‹_› ?_)) | omega | (with_reducible refine le_alloc ?_) | (with_reducible refine le_setCell ?_) | (with_reducible refine le_drew ?_) | (with_reducible refine le_drewN ?_) | (with_reducible refine Nat.le_trans ?_ (Below.size ‹_›)) | (simp <;> omega))
theorem pW_rd (w : World) (a b c d : ByteArray) (ha : a.size ≤ 1000) (hb : b.size ≤ 1000) (hc : c.size ≤ 1000) (hd : d.size ≤ 1000) : rdSlice 1 rdStrs (pW w a b c d) (pW w a b c d).heap.size [.slice (some ⟨w.heap.size + 1 + 1, 0, none⟩) 2 2] [[a, b], [c, d]] := by
  have e0 : (pW w a b c d).heap.size = w.heap.size + 1 + 1 + 1 := by simp [pW]
  have x1 : rdStrs (pW w a b c d) (pW w a b c d).heap.size [.slice (some ⟨w.heap.size, 0, none⟩) 2 2] [a, b] := strs2 (by omega) ha hb (by simp [pW, go_sem]) (by simp [pW, go_sem])
  have x2 : rdStrs (pW w a b c d) (pW w a b c d).heap.size [.slice (some ⟨w.heap.size + 1, 0, none⟩) 2 2] [c, d] := strs2 (by omega) hc hd (by simp [pW, go_sem]) (by simp [pW, go_sem])
  exact paths2 (by omega) (by simp [pW, go_sem]) (by simp [pW, go_sem]) x1 x2
def exW (w : World) : World :=
  ((((((((w.alloc (.cells #[.string ⟨#[108]⟩, .string ⟨#[109]⟩] 9)).alloc (.cells #[.string ⟨#[97]⟩, .slice (some ⟨w.heap.size, 0, none⟩) 2 2, .string ⟨#[98]⟩, .slice (some ⟨w.heap.size, 0, none⟩) 2 2] 64)).alloc
    (.cells #[.string ⟨#[118]⟩] 9)).alloc (.cells #[.slice (some ⟨w.heap.size + 1, 0, none⟩) 2 2, .slice (some ⟨w.heap.size + 1 + 1, 0, none⟩) 1 1, .slice none 0 0] 44)).alloc (.cells #[.int .i64 1, .int .i64 0] 3)).alloc
    (.cells #[.string ⟨#[97]⟩, .string ⟨#[120]⟩] 9)).alloc (.cells #[.slice (some ⟨w.heap.size + 1 + 1 + 1 + 1 + 1, 0, none⟩) 2 2] 41)).alloc (.cells #[.int .i64 1, .int .i64 2, .slice (some ⟨w.heap.size + 1 + 1 + 1 + 1 + 1 + 1, 0, none⟩) 1 1] 57)).alloc
    (.cells #[.slice (some ⟨w.heap.size + 1 + 1 + 1 + 1, 0, none⟩) 2 2, .slice (some ⟨w.heap.size + 1 + 1 + 1 + 1 + 1 + 1 + 1, 0, none⟩) 1 1] 32)
theorem exW_below (w : World) : Below w.heap.size w (exW w) := by
  unfold exW
  exact (by repeat' first | with_reducible exact Below.refl _ _ | assumption | (with_reducible refine Below.alloc ?_ ?_ _) | (with_reducible refine Below.setCell ?_ ?_ _) | (with_reducible refine Below.drew ?_) | (with_reducible refine below_drewN ?_ _) | (with_reducible refine Below.trans ?_ (Below.mono ‹_› ?_)) | omega | (with_reducible refine le_alloc ?_) | (with_reducible refine le_setCell ?_) | (with_reducible refine le_drew ?_) | (with_reducible refine le_drewN ?_) | (with_reducible refine Nat.le_trans ?_ (Below.size ‹_›)) | (simp <;> omega))
set_option maxHeartbeats 1600000 in
theorem exW_ex (w : World) : Ex (exW w) w.heap.size := by
  have e0 : (exW w).heap.size = w.heap.size + 1 + 1 + 1 + 1 + 1 + 1 + 1 + 1 + 1 := by simp [exW]
  have d : rdStrs (exW w) (exW w).heap.size [.slice (some ⟨w.heap.size, 0, none⟩) 2 2] [⟨#[108]⟩, ⟨#[109]⟩] := strs2 (by omega) (by decide) (by decide) (by simp [exW, go_sem]) (by simp [exW, go_sem])
  have f : rdStrs (exW w) (exW w).heap.size [.slice (some ⟨w.heap.size + 1 + 1 + 1 + 1 + 1, 0, none⟩) 2 2] [⟨#[97]⟩, ⟨#[120]⟩] := strs2 (by omega) (by decide) (by decide) (by simp [exW, go_sem]) (by simp [exW, go_sem])
  have m : rdSlice 1 rdStrs (exW w) (exW w).heap.size [.slice (some ⟨w.heap.size + 1 + 1 + 1 + 1 + 1 + 1, 0, none⟩) 1 1] [[⟨#[97]⟩, ⟨#[120]⟩]] := paths1 (by omega) (by simp [exW, go_sem]) f
  have g : rdInts (exW w) (exW w).heap.size [.slice (some ⟨w.heap.size + 1 + 1 + 1 + 1, 0, none⟩) 2 2] [1, 0] := ints2 (by omega) (by unfold InI64; omega) (by unfold InI64; omega) (by simp [exW, go_sem]) (by simp [exW, go_sem])
  have v : rdStrs (exW w) (exW w).heap.size [.slice (some ⟨w.heap.size + 1 + 1, 0, none⟩) 1 1] [⟨#[118]⟩] := strs1 (by omega) (by decide) (by simp [exW, go_sem])
  have fl : rdSlice 3 rdFilter (exW w) (exW w).heap.size [.slice (some ⟨w.heap.size + 1 + 1 + 1 + 1 + 1 + 1 + 1, 0, none⟩) 1 1] [(1, 2, [[⟨#[97]⟩, ⟨#[120]⟩]])] :=
    rd_lit rfl (by omega) (by omega) (fun i z hz => by
      obtain rfl : i = 0 := by have := (List.getElem?_eq_some_iff.1 hz).1; simp at this; omega
      simp at hz; subst hz
      refine ⟨[.int .i64 1, .int .i64 2, .slice (some ⟨w.heap.size + 1 + 1 + 1 + 1 + 1 + 1, 0, none⟩) 1 1], rfl, fun j u hu => ?_, rfl, ⟨rfl, show InI64 1 by unfold InI64; omega⟩, rfl, ⟨rfl, show InI64 2 by unfold InI64; omega⟩, m⟩
      rcases j with _ | _ | _ | j <;> simp at hu <;> subst hu <;> simp [exW, go_sem])
  have dm : rdSlice 2 rdDim (exW w) (exW w).heap.size [.slice (some ⟨w.heap.size + 1, 0, none⟩) 2 2] [(⟨#[97]⟩, [⟨#[108]⟩, ⟨#[109]⟩]), (⟨#[98]⟩, [⟨#[108]⟩, ⟨#[109]⟩])] :=
    rd_lit rfl (by omega) (by omega) (fun i z hz => by
      have : i = 0 ∨ i = 1 := by have := (List.getElem?_eq_some_iff.1 hz).1; simp at this; omega
      rcases this with rfl | rfl
      · simp at hz; subst hz
        refine ⟨[.string ⟨#[97]⟩, .slice (some ⟨w.heap.size, 0, none⟩) 2 2], rfl, fun j u hu => ?_, rfl, ⟨rfl, by decide⟩, d⟩
        rcases j with _ | _ | j <;> simp at hu <;> subst hu <;> simp [exW, go_sem]
      · simp at hz; subst hz
        refine ⟨[.string ⟨#[98]⟩, .slice (some ⟨w.heap.size, 0, none⟩) 2 2], rfl, fun j u hu => ?_, rfl, ⟨rfl, by decide⟩, d⟩
        rcases j with _ | _ | j <;> simp at hu <;> subst hu <;> simp [exW, go_sem])
  exact ⟨by omega, by simp [exW, go_sem], by simp [exW, go_sem], by simp [exW, go_sem], by simp [exW, go_sem], by simp [exW, go_sem], ⟨_, _, _, _, _, _, rfl, dm, v, rd_nil⟩, ⟨_, _, _, _, rfl, g, fl⟩⟩
set_option maxRecDepth 100000 in
set_option maxHeartbeats 3200000 in
theorem lives_true (w : World) : Calls Tryd.prog 12 #[] w (Gives (.bool true) w) := by
  have HND := hid (fun v x W hv hx => by
    have := need_any v x sL qL W hv hx (by decide) (by decide)
    rwa [ll1, ll2] at this)
  have HMY := hid (fun v x W hv hx => by
    have := mayQ_any v x sL qL W hv hx (by decide)
    rwa [ll1] at this)
  have HKY := hid (fun v x W hv hx => by
    have := key_any v x qL p1L W hv hx (by decide) (by decide)
    rwa [ll3] at this)
  have HP1 := hid (fun v x W hv hx => by
    have := passes_any v x qL p1L W hv hx
    rwa [ll4] at this)
  have HP2 := hid (fun v x W hv hx => by
    have := passes_any v x qL p2L W hv hx
    rwa [ll5] at this)
  go_enter Tryd.func12, Tryd.ntmps12
  have HEX := hid (exW_ex w); have HB0 := hid (exW_below w)
  obtain ⟨W0, hW0⟩ : ∃ W, W = exW w := ⟨_, rfl⟩
  rw [← hW0] at HEX HB0
  unfold exW at hW0
  have HW0 := hid hW0
  clear hW0
  go_wp2_with fail
  rw [← HW0.out]
  refine (HND.out _ _ _ HEX.out.sv HEX.out.qv).mono ?_
  rintro e w1 h
  rcases h with ⟨-, r, rfl, hr, hb1⟩ | ⟨h, -, -⟩
  case inr => exact absurd rfl h
  obtain ⟨A, c, rfl, -, -, h3⟩ := own_cells hr
  obtain ⟨g, rfl, hg1, hg2, -⟩ := h3 (by decide)
  have n0 : w1.cell? ⟨g, 0, none⟩ = some (.int .i64 1) := hr.cellAt (g := g) 0 (by decide)
  have n1 : w1.cell? ⟨g, 1, none⟩ = some (.int .i64 2) := hr.cellAt (g := g) 1 (by decide)
  have HX1 := hid (HEX.out.on hb1); have HB1 := hid (HB0.out.trans (hb1.mono HB0.out.size))
  have HN0 := hid n0; have HN1 := hid n1
  clear hb1 hr h3 HEX n0 n1
  obtain ⟨xl, xs0, xs1, xs2, xq0, xq1, -, -⟩ := HX1.out
  obtain ⟨W1, hW1⟩ : ∃ W, W = pW w1 ⟨#[98]⟩ ⟨#[99]⟩ ⟨#[97]⟩ ⟨#[120]⟩ := ⟨_, rfl⟩
  have hp1 := pW_rd w1 ⟨#[98]⟩ ⟨#[99]⟩ ⟨#[97]⟩ ⟨#[120]⟩ (by decide) (by decide) (by decide) (by decide)
  have hpb := pW_below w1 ⟨#[98]⟩ ⟨#[99]⟩ ⟨#[97]⟩ ⟨#[120]⟩
  rw [← hW1] at hp1 hpb
  unfold pW at hW1
  have HW1 := hid hW1; have HPR := hid hp1; have HPB := hid hpb
  clear hW1 hp1 hpb
  go_wp2_with fail
  rw [← HW1.out]
  refine (HKY.out _ _ _ (HX1.out.on HPB.out).qv HPR.out).mono ?_
  rintro e w2 ⟨r, rfl, hr, hb2⟩
  obtain ⟨vs, hvl, ho, hvs⟩ := hr
  obtain ⟨A, c2, rfl, -, -, h3⟩ := own_cells ho
  obtain ⟨g2, rfl, hg3, hg4, -⟩ := h3 (by decide)
  have v0 := (hvs 0 (by decide)).1
  have v1 := (hvs 1 (by decide)).1
  have e0 : vs[0]? = some (vs.getD 0 undef) := by
    have : 0 < vs.length := by rw [hvl]; decide
    rw [List.getD_eq_getElem?_getD, List.getElem?_eq_getElem this]; rfl
  have e1 : vs[1]? = some (vs.getD 1 undef) := by
    have : 1 < vs.length := by rw [hvl]; decide
    rw [List.getD_eq_getElem?_getD, List.getElem?_eq_getElem this]; rfl
  have k0 := ho.cellAt (g := g2) 0 (by decide)
  have k1 := ho.cellAt (g := g2) 1 (by decide)
  rw [e0] at k0; rw [e1] at k1
  generalize vs.getD 0 undef = u0 at *
  generalize vs.getD 1 undef = u1 at *
  obtain ⟨A0, c3, rfl, -, -, h4⟩ := own_cells v0
  obtain ⟨A1, c4, rfl, -, -, -⟩ := own_cells v1
  obtain ⟨g3, rfl, hg5, hg6, -⟩ := h4 (by decide)
  have k2 : w2.cell? ⟨g3, 0, none⟩ = some (.string ⟨#[98]⟩) := v0.cellAt (g := g3) 0 (by decide)
  have HX2 := hid ((HX1.out.on HPB.out).on hb2)
  have B12 := hid (HPB.out.trans (hb2.mono HPB.out.size))
  have HK0 := hid k0; have HK1 := hid k1; have HK2 := hid k2
  clear hvs v0 v1 e0 e1 k0 k1 k2 h3 h4 ho hvl hb2 xl xs0 xs1 xs2 xq0 xq1
  obtain ⟨xl, xs0, xs1, xs2, xq0, xq1, -, -⟩ := HX2.out
  go_wp2_with fail
  refine (HMY.out _ _ _ HX2.out.sv HX2.out.qv).mono ?_
  rintro e w3 ⟨rfl, hb3⟩
  have HX3 := hid (HX2.out.on hb3)
  have B13 := hid (B12.out.trans (hb3.mono B12.out.size))
  have B23 := hid hb3
  have n0 := cellK B13.out hg2 HN0.out
  have n1 := cellK B13.out hg2 HN1.out
  clear hb3 xl xs0 xs1 xs2 xq0 xq1
  obtain ⟨xl, xs0, xs1, xs2, xq0, xq1, -, -⟩ := HX3.out
  obtain ⟨W3, hW3⟩ : ∃ W, W = pW w3 ⟨#[98]⟩ ⟨#[99]⟩ ⟨#[97]⟩ ⟨#[120]⟩ := ⟨_, rfl⟩
  have hp1 := pW_rd w3 ⟨#[98]⟩ ⟨#[99]⟩ ⟨#[97]⟩ ⟨#[120]⟩ (by decide) (by decide) (by decide) (by decide)
  have hpb := pW_below w3 ⟨#[98]⟩ ⟨#[99]⟩ ⟨#[97]⟩ ⟨#[120]⟩
  rw [← hW3] at hp1 hpb
  unfold pW at hW3
  have HW3 := hid hW3; have HPR3 := hid hp1; have HPB3 := hid hpb
  clear hW3 hp1 hpb
  go_wp2_with fail
  rw [← HW3.out]
  refine (HP1.out _ _ _ (HX3.out.on HPB3.out).qv HPR3.out).mono ?_
  rintro e w4 ⟨rfl, hb4⟩
  have HX4 := hid ((HX3.out.on HPB3.out).on hb4)
  have B34 := hid (HPB3.out.trans (hb4.mono HPB3.out.size))
  clear hb4 xl xs0 xs1 xs2 xq0 xq1 n0 n1
  obtain ⟨xl, xs0, xs1, xs2, xq0, xq1, -, -⟩ := HX4.out
  obtain ⟨W4, hW4⟩ : ∃ W, W = pW w4 ⟨#[98]⟩ ⟨#[99]⟩ ⟨#[97]⟩ ⟨#[121]⟩ := ⟨_, rfl⟩
  have hp1 := pW_rd w4 ⟨#[98]⟩ ⟨#[99]⟩ ⟨#[97]⟩ ⟨#[121]⟩ (by decide) (by decide) (by decide) (by decide)
  have hpb := pW_below w4 ⟨#[98]⟩ ⟨#[99]⟩ ⟨#[97]⟩ ⟨#[121]⟩
  rw [← hW4] at hp1 hpb
  unfold pW at hW4
  have HW4 := hid hW4; have HPR4 := hid hp1; have HPB4 := hid hpb
  clear hW4 hp1 hpb
  go_wp2_with fail
  rw [← HW4.out]
  refine (HP2.out _ _ _ (HX4.out.on HPB4.out).qv HPR4.out).mono ?_
  rintro e w5 ⟨rfl, hb5⟩
  have B45 := hid (HPB4.out.trans (hb5.mono HPB4.out.size))
  have B25 := hid (B23.out.trans ((B34.out.trans (B45.out.mono B34.out.size)).mono B23.out.size))
  have k0 := cellK B25.out hg4 HK0.out
  have k1 := cellK B25.out hg4 HK1.out
  have k2 := cellK B25.out hg6 HK2.out
  clear hb5 xl xs0 xs1 xs2 xq0 xq1
  go_wp2
  go_ret
  exact ⟨rfl, HB1.out.trans ((B12.out.trans (B25.out.mono B12.out.size)).mono HB1.out.size)⟩
end Go.Proofs.YtkdpclllenbgfaaDoor
