/- The program's dictionary: next. -/
import Derived.Test.YtbledkffkckjbaaDictLaw
import Derived.BigQuiet
import Derived.Deep.QuietTactic
namespace Go.Proofs.Ytbledkffkckjbaa
open Go.ChangeShapes Go.WideShapes Go.ChangeAt Go.RowKit Go.Maps
set_option linter.unusedVariables false

theorem MapC.look {w : World} {m : Nat} {ns : List DNode} (h : MapC w m ns) (x : DNode) (h1 : x.1 ≤ 1000000) (h2 : x.2.size ≤ 9223372036854775807) :
    (Instr.lookup 63 (.map (some m)) (.agg #[.int .i64 (x.1 : Int), .string x.2]) true).run Try.prog w = .ok (.tuple #[.int .i64 (code ns x : Int), .bool (decide (code ns x ≠ 0))]) w := by
  obtain ⟨n, Dm, how, hn, hC⟩ := h
  obtain ⟨kl, hkl⟩ := node_key x h1 h2
  obtain ⟨c1, c2⟩ := hC x kl hkl
  obtain ⟨v, ps, hrun, hv⟩ := how.look_ok node_law Try.underlying63 (zero_int _) (plainElem_int Try.underlying3 (by decide : (Lit.int .i64 0).wf = true)) hkl
  obtain ⟨c, rfl, hc, hwc⟩ := plainElem_int_inv Try.underlying3 hv
  simp only [Prod.mk.injEq] at hc
  rw [c2] at hc
  have : c = (code ns x : Int) := by
    have := hc.1
    injection this with this
    injection this with _ this
    exact this.symm
  subst this
  rw [c1] at hrun
  exact hrun
/-- May this node come next? -/
def nextB (ns : List DNode) (L : Int) (up : Nat) (s : ByteArray) : Bool :=
  decide (code ns (up, s) = 0) && (nameB s && (decide (((pathOf ns up).length : Int) < L) && (decide (ns.length = 0) || (decide (((pathOf ns ns.length).length : Int) = L) || decide (up = ns.length)))))
set_option maxRecDepth 100000 in
set_option maxHeartbeats 1600000 in
theorem nextD_any (D : Nat → Prop) (d : Nat) (L : Int) (ns : List DNode) (up : Nat) (s : ByteArray) (w : World) (h : DictW w D d L ns) (hok : DOk ns) (hu : up ≤ ns.length) (hs : s.size ≤ 9223372036854775807) :
    Calls Try.prog 44 #[.pointer (some ⟨d, 0, none⟩), .agg #[.int .i64 (up : Int), .string s]] w (Gives (.bool (nextB ns L up s)) w) := by
  have hlen := hok.len
  have hL := h.2.2.2.1
  have hd := h.2.1 d h.1
  have HN := hid (fun W => name_any s W hs)
  have HS := hid (fun c W (hb : Below w.heap.size w W) hc => sizeD_any D d L ns c W (h.below hb) hok.inv (by omega) hc)
  have HLN := hid (fun W (hb : Below w.heap.size w W) => lenD_any D d L ns W (h.below hb))
  have HNB := hid (show nextB ns L up s = _ from rfl)
  have HH := hid h; clear h hok
  go_enter Try.func44, Try.ntmps44
  go_wp2_with fail
  refine (HLN.out _ (bl1 _ _)).mono ?_
  rintro e w1 ⟨rfl, hq1⟩
  have HB1 := hid ((bl1 w (.cells #[.int .i64 (up : Int), .string s] 67)).trans (hq1.below w.heap.size))
  have x0 : w1.cell? ⟨w.heap.size, 0, none⟩ = some (.int .i64 (up : Int)) := (hq1.cell _).trans (by simp [go_sem])
  have x1 : w1.cell? ⟨w.heap.size, 1, none⟩ = some (.string s) := (hq1.cell _).trans (by simp [go_sem])
  have hz1 : w1.heap.size = w.heap.size + 1 := by rw [Qu.size hq1]; simp
  obtain ⟨m, hmc, hml, hmap⟩ := (HH.out.below HB1.out).map
  have hrun := hmap.look (up, s) (by simp; omega) hs
  have hcl := code_le ns (up, s)
  have HL1 := cellK HB1.out hd hL
  have hlook : ∀ n, (Instr.lookup 63 (.map (some m)) (.agg #[.int .i64 (up : Int), .string s]) true).run Try.prog (w1.drewN n) = .ok (.tuple #[.int .i64 (code ns (up, s) : Int), .bool (decide (code ns (up, s) ≠ 0))]) (w1.drewN n) := fun n => (MapC.kept (w' := w1.drewN n) hmap rfl).look (up, s) (by simp; omega) hs
  have HNX := hid (show nextB ns L up s = (decide (code ns (up, s) = 0) && (nameB s && (decide (((pathOf ns up).length : Int) < L) && (decide (ns.length = 0) || (decide (((pathOf ns ns.length).length : Int) = L) || decide (up = ns.length)))))) from rfl)
  generalize code ns (up, s) = x at *
  clear hrun HNB
  by_cases hx : x = 0
  · subst hx
    rw [show decide ((0 : Nat) ≠ 0) = false from rfl] at hlook
    have hnx := HNX.out
    rw [decide_eq_true (rfl : (0 : Nat) = 0), Bool.true_and] at hnx
    clear HNX
    have HNX := hid hnx; clear hnx
    go_wp2
    go_quiet (fail)
    clear hlook
    have HB2 : Hid (Below w.heap.size w (w1.drewN nq)) := hid (below_drewN HB1.out nq)
    have y0 : (w1.drewN nq).cell? ⟨w.heap.size, 0, none⟩ = some (.int .i64 (up : Int)) := x0
    have y1 : (w1.drewN nq).cell? ⟨w.heap.size, 1, none⟩ = some (.string s) := x1
    have y2 : (w1.drewN nq).cell? ⟨d, 0, none⟩ = some (.int .i64 L) := HL1
    have hz2 : w.heap.size < (w1.drewN nq).heap.size := by show w.heap.size < w1.heap.size; omega
    clear x0 x1 HL1 hz1 hmc hml hmap
    go_wp2
    generalize w1.drewN nq = w2 at *
    cases hnm : nameB s with
    | false =>
      have hn := HN.out
      rw [hnm] at hn
      have HN2 := hid hn; clear hn
      have hnx := HNX.out
      rw [hnm, Bool.false_and] at hnx
      have HNX2 := hid hnx; clear hnx hnm
      refine wp_region_noPanic ?_
      refine wp_region_held_drew (S := fun w' => w'.cell? ⟨w.heap.size, 0, none⟩ = some (.int .i64 (up : Int)) ∧ w'.cell? ⟨w.heap.size, 1, none⟩ = some (.string s) ∧ w'.cell? ⟨d, 0, none⟩ = some (.int .i64 L)) (by kernel_rfl) ?_ (fun hHeld => ?_)
      · exact ⟨y0, y1, y2⟩
      refine' wpAnyH_take (i := 0) (oi := _) (v := _) ?h1x0 ?h2x0 ?h3x0 ?h4x0 ?h5x0 ?h6x0 (by assumption) ?h8x0
      case h1x0 => (set_option linter.unusedSimpArgs false in simp only [List.getElem?_toArray, List.getElem?_cons_zero, List.getElem?_cons_succ]; rfl)
      case h2x0 => kernel_rfl
      case h3x0 => kernel_rfl
      case h4x0 => kernel_rfl
      case h5x0 => exact fun _ _ _ h => False.elim h
      case h6x0 => (refine Or.inl ⟨by rfl, ?_⟩; intro w hSw; (try dsimp only at hSw); go_simp; (try with_reducible rfl))
      try set_option linter.unusedSimpArgs false in simp only [Act.put, List.setIfInBounds_toArray, List.set_cons_zero, List.set_cons_succ]
      refine' wpAnyH_take (i := 1) (oi := _) (v := _) ?h1x1 ?h2x1 ?h3x1 ?h4x1 ?h5x1 ?h6x1 (by assumption) ?h8x1
      case h1x1 => (set_option linter.unusedSimpArgs false in simp only [List.getElem?_toArray, List.getElem?_cons_zero, List.getElem?_cons_succ]; rfl)
      case h2x1 => kernel_rfl
      case h3x1 => kernel_rfl
      case h4x1 => kernel_rfl
      case h5x1 => exact fun _ _ _ h => False.elim h
      case h6x1 => (refine Or.inl ⟨by rfl, ?_⟩; intro w hSw; (try dsimp only at hSw); go_simp; (try with_reducible rfl))
      try set_option linter.unusedSimpArgs false in simp only [Act.put, List.setIfInBounds_toArray, List.set_cons_zero, List.set_cons_succ]
      refine' wpAnyH_take (i := 2) (oi := _) (v := _) ?h1x2 ?h2x2 ?h3x2 ?h4x2 ?h5x2 ?h6x2 (by assumption) ?h8x2
      case h1x2 => (set_option linter.unusedSimpArgs false in simp only [List.getElem?_toArray, List.getElem?_cons_zero, List.getElem?_cons_succ]; rfl)
      case h2x2 => kernel_rfl
      case h3x2 => kernel_rfl
      case h4x2 => kernel_rfl
      case h5x2 => exact fun _ _ _ h => False.elim h
      case h6x2 => (refine Or.inl ⟨by rfl, ?_⟩; intro w hSw; (try dsimp only at hSw); go_simp; (try with_reducible rfl))
      try set_option linter.unusedSimpArgs false in simp only [Act.put, List.setIfInBounds_toArray, List.set_cons_zero, List.set_cons_succ]
      refine' wpAnyH_take (i := 3) (oi := _) (v := _) ?h1x3 ?h2x3 ?h3x3 ?h4x3 ?h5x3 ?h6x3 (by assumption) ?h8x3
      case h1x3 => (set_option linter.unusedSimpArgs false in simp only [List.getElem?_toArray, List.getElem?_cons_zero, List.getElem?_cons_succ]; rfl)
      case h2x3 => kernel_rfl
      case h3x3 => kernel_rfl
      case h4x3 => kernel_rfl
      case h5x3 => exact fun _ _ _ h => False.elim h
      case h6x3 => (refine Or.inl ⟨by rfl, ?_⟩; intro w hSw; (try dsimp only at hSw); go_simp; (try with_reducible rfl))
      try set_option linter.unusedSimpArgs false in simp only [Act.put, List.setIfInBounds_toArray, List.set_cons_zero, List.set_cons_succ]
      refine wpAnyH_ready (rs := [4]) (by kernel_rfl) (by simp) ?_
      refine AllReadyH.cons rfl (fun K hK => ?_) AllReadyH.nil
      go_simp
      refine (HN2.out _).mono ?_; rintro e w3 ⟨rfl, hb3⟩; have z0 := cellK hb3 hz2 y0; have z1 := cellK hb3 hz2 y1; have z2 := cellK hb3 (World.block_lt_of_cell? w2 _ y2) y2; have HB3 := hid hb3; clear hb3; simp only []
      refine hK.out _ _ ?_ (fun hHeld => ?_)
      · exact ⟨z0, z1, z2⟩
      clear hK K
      try set_option linter.unusedSimpArgs false in simp only [Act.put, List.setIfInBounds_toArray, List.set_cons_zero, List.set_cons_succ]
      refine' wpAnyH_take (i := 5) (oi := _) (v := _) ?h1x5 ?h2x5 ?h3x5 ?h4x5 ?h5x5 ?h6x5 (by assumption) ?h8x5
      case h1x5 => (set_option linter.unusedSimpArgs false in simp only [List.getElem?_toArray, List.getElem?_cons_zero, List.getElem?_cons_succ]; rfl)
      case h2x5 => kernel_rfl
      case h3x5 => kernel_rfl
      case h4x5 => kernel_rfl
      case h5x5 => exact fun _ _ _ h => False.elim h
      case h6x5 => (refine Or.inl ⟨by rfl, ?_⟩; intro w hSw; (try dsimp only at hSw); go_simp; (try with_reducible rfl))
      try set_option linter.unusedSimpArgs false in simp only [Act.put, List.setIfInBounds_toArray, List.set_cons_zero, List.set_cons_succ]
      refine' wpAnyH_take (i := 6) (oi := _) (v := _) ?h1x6 ?h2x6 ?h3x6 ?h4x6 ?h5x6 ?h6x6 (by assumption) ?h8x6
      case h1x6 => (set_option linter.unusedSimpArgs false in simp only [List.getElem?_toArray, List.getElem?_cons_zero, List.getElem?_cons_succ]; rfl)
      case h2x6 => kernel_rfl
      case h3x6 => kernel_rfl
      case h4x6 => kernel_rfl
      case h5x6 => exact fun _ _ _ h => False.elim h
      case h6x6 => (refine Or.inl ⟨by rfl, ?_⟩; intro w hSw; (try dsimp only at hSw); go_simp; (try with_reducible rfl))
      try set_option linter.unusedSimpArgs false in simp only [Act.put, List.setIfInBounds_toArray, List.set_cons_zero, List.set_cons_succ]
      refine' wpAnyH_take (i := 7) (oi := _) (v := _) ?h1x7 ?h2x7 ?h3x7 ?h4x7 ?h5x7 ?h6x7 (by assumption) ?h8x7
      case h1x7 => (set_option linter.unusedSimpArgs false in simp only [List.getElem?_toArray, List.getElem?_cons_zero, List.getElem?_cons_succ]; rfl)
      case h2x7 => kernel_rfl
      case h3x7 => kernel_rfl
      case h4x7 => kernel_rfl
      case h5x7 => exact fun _ _ _ h => False.elim h
      case h6x7 => (refine Or.inl ⟨by rfl, ?_⟩; intro w hSw; (try dsimp only at hSw); go_simp; (try with_reducible rfl))
      try set_option linter.unusedSimpArgs false in simp only [Act.put, List.setIfInBounds_toArray, List.set_cons_zero, List.set_cons_succ]
      refine' wpAnyH_take (i := 8) (oi := _) (v := undef) ?h1x8 ?h2x8 ?h3x8 ?h4x8 ?h5x8 ?h6x8 (by assumption) ?h8x8
      case h1x8 => (set_option linter.unusedSimpArgs false in simp only [List.getElem?_toArray, List.getElem?_cons_zero, List.getElem?_cons_succ]; rfl)
      case h2x8 => kernel_rfl
      case h3x8 => kernel_rfl
      case h4x8 => kernel_rfl
      case h5x8 => exact fun _ _ _ h => False.elim h
      case h6x8 => exact Or.inr ⟨by kernel_rfl, rfl⟩
      try set_option linter.unusedSimpArgs false in simp only [Act.put, List.setIfInBounds_toArray, List.set_cons_zero, List.set_cons_succ]
      refine' wpAnyH_take (i := 9) (oi := _) (v := undef) ?h1x9 ?h2x9 ?h3x9 ?h4x9 ?h5x9 ?h6x9 (by assumption) ?h8x9
      case h1x9 => (set_option linter.unusedSimpArgs false in simp only [List.getElem?_toArray, List.getElem?_cons_zero, List.getElem?_cons_succ]; rfl)
      case h2x9 => kernel_rfl
      case h3x9 => kernel_rfl
      case h4x9 => kernel_rfl
      case h5x9 => exact fun _ _ _ h => False.elim h
      case h6x9 => exact Or.inr ⟨by kernel_rfl, rfl⟩
      try set_option linter.unusedSimpArgs false in simp only [Act.put, List.setIfInBounds_toArray, List.set_cons_zero, List.set_cons_succ]
      refine' wpAnyH_take (i := 10) (oi := _) (v := undef) ?h1x10 ?h2x10 ?h3x10 ?h4x10 ?h5x10 ?h6x10 (by assumption) ?h8x10
      case h1x10 => (set_option linter.unusedSimpArgs false in simp only [List.getElem?_toArray, List.getElem?_cons_zero, List.getElem?_cons_succ]; rfl)
      case h2x10 => kernel_rfl
      case h3x10 => kernel_rfl
      case h4x10 => kernel_rfl
      case h5x10 => exact fun _ _ _ h => False.elim h
      case h6x10 => exact Or.inr ⟨by kernel_rfl, rfl⟩
      try set_option linter.unusedSimpArgs false in simp only [Act.put, List.setIfInBounds_toArray, List.set_cons_zero, List.set_cons_succ]
      refine' wpAnyH_take (i := 11) (oi := _) (v := undef) ?h1x11 ?h2x11 ?h3x11 ?h4x11 ?h5x11 ?h6x11 (by assumption) ?h8x11
      case h1x11 => (set_option linter.unusedSimpArgs false in simp only [List.getElem?_toArray, List.getElem?_cons_zero, List.getElem?_cons_succ]; rfl)
      case h2x11 => kernel_rfl
      case h3x11 => kernel_rfl
      case h4x11 => kernel_rfl
      case h5x11 => exact fun _ _ _ h => False.elim h
      case h6x11 => exact Or.inr ⟨by kernel_rfl, rfl⟩
      try set_option linter.unusedSimpArgs false in simp only [Act.put, List.setIfInBounds_toArray, List.set_cons_zero, List.set_cons_succ]
      refine' wpAnyH_take (i := 12) (oi := _) (v := undef) ?h1x12 ?h2x12 ?h3x12 ?h4x12 ?h5x12 ?h6x12 (by assumption) ?h8x12
      case h1x12 => (set_option linter.unusedSimpArgs false in simp only [List.getElem?_toArray, List.getElem?_cons_zero, List.getElem?_cons_succ]; rfl)
      case h2x12 => kernel_rfl
      case h3x12 => kernel_rfl
      case h4x12 => kernel_rfl
      case h5x12 => exact fun _ _ _ h => False.elim h
      case h6x12 => exact Or.inr ⟨by kernel_rfl, rfl⟩
      try set_option linter.unusedSimpArgs false in simp only [Act.put, List.setIfInBounds_toArray, List.set_cons_zero, List.set_cons_succ]
      refine' wpAnyH_take (i := 13) (oi := _) (v := undef) ?h1x13 ?h2x13 ?h3x13 ?h4x13 ?h5x13 ?h6x13 (by assumption) ?h8x13
      case h1x13 => (set_option linter.unusedSimpArgs false in simp only [List.getElem?_toArray, List.getElem?_cons_zero, List.getElem?_cons_succ]; rfl)
      case h2x13 => kernel_rfl
      case h3x13 => kernel_rfl
      case h4x13 => kernel_rfl
      case h5x13 => exact fun _ _ _ h => False.elim h
      case h6x13 => exact Or.inr ⟨by kernel_rfl, rfl⟩
      try set_option linter.unusedSimpArgs false in simp only [Act.put, List.setIfInBounds_toArray, List.set_cons_zero, List.set_cons_succ]
      refine' wpAnyH_take (i := 14) (oi := _) (v := undef) ?h1x14 ?h2x14 ?h3x14 ?h4x14 ?h5x14 ?h6x14 (by assumption) ?h8x14
      case h1x14 => (set_option linter.unusedSimpArgs false in simp only [List.getElem?_toArray, List.getElem?_cons_zero, List.getElem?_cons_succ]; rfl)
      case h2x14 => kernel_rfl
      case h3x14 => kernel_rfl
      case h4x14 => kernel_rfl
      case h5x14 => exact fun _ _ _ h => False.elim h
      case h6x14 => exact Or.inr ⟨by kernel_rfl, rfl⟩
      try set_option linter.unusedSimpArgs false in simp only [Act.put, List.setIfInBounds_toArray, List.set_cons_zero, List.set_cons_succ]
      refine' wpAnyH_take (i := 15) (oi := _) (v := undef) ?h1x15 ?h2x15 ?h3x15 ?h4x15 ?h5x15 ?h6x15 (by assumption) ?h8x15
      case h1x15 => (set_option linter.unusedSimpArgs false in simp only [List.getElem?_toArray, List.getElem?_cons_zero, List.getElem?_cons_succ]; rfl)
      case h2x15 => kernel_rfl
      case h3x15 => kernel_rfl
      case h4x15 => kernel_rfl
      case h5x15 => exact fun _ _ _ h => False.elim h
      case h6x15 => exact Or.inr ⟨by kernel_rfl, rfl⟩
      try set_option linter.unusedSimpArgs false in simp only [Act.put, List.setIfInBounds_toArray, List.set_cons_zero, List.set_cons_succ]
      refine' wpAnyH_take (i := 16) (oi := _) (v := undef) ?h1x16 ?h2x16 ?h3x16 ?h4x16 ?h5x16 ?h6x16 (by assumption) ?h8x16
      case h1x16 => (set_option linter.unusedSimpArgs false in simp only [List.getElem?_toArray, List.getElem?_cons_zero, List.getElem?_cons_succ]; rfl)
      case h2x16 => kernel_rfl
      case h3x16 => kernel_rfl
      case h4x16 => kernel_rfl
      case h5x16 => exact fun _ _ _ h => False.elim h
      case h6x16 => exact Or.inr ⟨by kernel_rfl, rfl⟩
      try set_option linter.unusedSimpArgs false in simp only [Act.put, List.setIfInBounds_toArray, List.set_cons_zero, List.set_cons_succ]
      refine' wpAnyH_take (i := 17) (oi := _) (v := _) ?h1x17 ?h2x17 ?h3x17 ?h4x17 ?h5x17 ?h6x17 (by assumption) ?h8x17
      case h1x17 => (set_option linter.unusedSimpArgs false in simp only [List.getElem?_toArray, List.getElem?_cons_zero, List.getElem?_cons_succ]; rfl)
      case h2x17 => kernel_rfl
      case h3x17 => kernel_rfl
      case h4x17 => kernel_rfl
      case h5x17 => exact fun _ _ _ h => False.elim h
      case h6x17 => (refine Or.inl ⟨by rfl, ?_⟩; intro w hSw; (try dsimp only at hSw); go_simp; (try with_reducible rfl))
      try set_option linter.unusedSimpArgs false in simp only [Act.put, List.setIfInBounds_toArray, List.set_cons_zero, List.set_cons_succ]
      refine wpAnyH_done (by kernel_rfl) ?_ _
      refine NoPanic.normal ?_
      all_goals go_wp2
      go_ret
      exact ⟨by rw [HNX2.out]; rfl, HB2.out.trans (((Below.refl w.heap.size w2).drew).trans (HB3.out.mono (by have := HB2.out.size; simpa using this)))⟩
    | true =>
      have hn := HN.out
      rw [hnm] at hn
      have HN2 := hid hn; clear hn
      have hnx := HNX.out
      rw [hnm, Bool.true_and] at hnx
      have HNX2 := hid hnx; clear hnx hnm
      have HSU := hid (fun W hb => HS.out up W hb hu)
      refine wp_region_noPanic ?_
      refine wp_region_held_drew (S := fun w' => w'.cell? ⟨w.heap.size, 0, none⟩ = some (.int .i64 (up : Int)) ∧ w'.cell? ⟨w.heap.size, 1, none⟩ = some (.string s) ∧ w'.cell? ⟨d, 0, none⟩ = some (.int .i64 L)) (by kernel_rfl) ?_ (fun hHeld => ?_)
      · exact ⟨y0, y1, y2⟩
      refine' wpAnyH_take (i := 0) (oi := _) (v := _) ?h1y0 ?h2y0 ?h3y0 ?h4y0 ?h5y0 ?h6y0 (by assumption) ?h8y0
      case h1y0 => (set_option linter.unusedSimpArgs false in simp only [List.getElem?_toArray, List.getElem?_cons_zero, List.getElem?_cons_succ]; rfl)
      case h2y0 => kernel_rfl
      case h3y0 => kernel_rfl
      case h4y0 => kernel_rfl
      case h5y0 => exact fun _ _ _ h => False.elim h
      case h6y0 => (refine Or.inl ⟨by rfl, ?_⟩; intro w hSw; (try dsimp only at hSw); go_simp; (try with_reducible rfl))
      try set_option linter.unusedSimpArgs false in simp only [Act.put, List.setIfInBounds_toArray, List.set_cons_zero, List.set_cons_succ]
      refine' wpAnyH_take (i := 1) (oi := _) (v := _) ?h1y1 ?h2y1 ?h3y1 ?h4y1 ?h5y1 ?h6y1 (by assumption) ?h8y1
      case h1y1 => (set_option linter.unusedSimpArgs false in simp only [List.getElem?_toArray, List.getElem?_cons_zero, List.getElem?_cons_succ]; rfl)
      case h2y1 => kernel_rfl
      case h3y1 => kernel_rfl
      case h4y1 => kernel_rfl
      case h5y1 => exact fun _ _ _ h => False.elim h
      case h6y1 => (refine Or.inl ⟨by rfl, ?_⟩; intro w hSw; (try dsimp only at hSw); go_simp; (try with_reducible rfl))
      try set_option linter.unusedSimpArgs false in simp only [Act.put, List.setIfInBounds_toArray, List.set_cons_zero, List.set_cons_succ]
      refine' wpAnyH_take (i := 2) (oi := _) (v := _) ?h1y2 ?h2y2 ?h3y2 ?h4y2 ?h5y2 ?h6y2 (by assumption) ?h8y2
      case h1y2 => (set_option linter.unusedSimpArgs false in simp only [List.getElem?_toArray, List.getElem?_cons_zero, List.getElem?_cons_succ]; rfl)
      case h2y2 => kernel_rfl
      case h3y2 => kernel_rfl
      case h4y2 => kernel_rfl
      case h5y2 => exact fun _ _ _ h => False.elim h
      case h6y2 => (refine Or.inl ⟨by rfl, ?_⟩; intro w hSw; (try dsimp only at hSw); go_simp; (try with_reducible rfl))
      try set_option linter.unusedSimpArgs false in simp only [Act.put, List.setIfInBounds_toArray, List.set_cons_zero, List.set_cons_succ]
      refine' wpAnyH_take (i := 3) (oi := _) (v := _) ?h1y3 ?h2y3 ?h3y3 ?h4y3 ?h5y3 ?h6y3 (by assumption) ?h8y3
      case h1y3 => (set_option linter.unusedSimpArgs false in simp only [List.getElem?_toArray, List.getElem?_cons_zero, List.getElem?_cons_succ]; rfl)
      case h2y3 => kernel_rfl
      case h3y3 => kernel_rfl
      case h4y3 => kernel_rfl
      case h5y3 => exact fun _ _ _ h => False.elim h
      case h6y3 => (refine Or.inl ⟨by rfl, ?_⟩; intro w hSw; (try dsimp only at hSw); go_simp; (try with_reducible rfl))
      try set_option linter.unusedSimpArgs false in simp only [Act.put, List.setIfInBounds_toArray, List.set_cons_zero, List.set_cons_succ]
      refine wpAnyH_ready (rs := [4]) (by kernel_rfl) (by simp) ?_
      refine AllReadyH.cons rfl (fun K hK => ?_) AllReadyH.nil
      go_simp
      refine (HN2.out _).mono ?_; rintro e w3 ⟨rfl, hb3⟩; have z0 := cellK hb3 hz2 y0; have z1 := cellK hb3 hz2 y1; have z2 := cellK hb3 (World.block_lt_of_cell? w2 _ y2) y2; have HB3 := hid (HB2.out.trans (((Below.refl w.heap.size w2).drew).trans (hb3.mono (by have := HB2.out.size; simpa using this)))); clear hb3; simp only []
      refine hK.out _ _ ?_ (fun hHeld => ?_)
      · exact ⟨z0, z1, z2⟩
      clear hK K
      try set_option linter.unusedSimpArgs false in simp only [Act.put, List.setIfInBounds_toArray, List.set_cons_zero, List.set_cons_succ]
      refine' wpAnyH_take (i := 5) (oi := _) (v := _) ?h1y5 ?h2y5 ?h3y5 ?h4y5 ?h5y5 ?h6y5 (by assumption) ?h8y5
      case h1y5 => (set_option linter.unusedSimpArgs false in simp only [List.getElem?_toArray, List.getElem?_cons_zero, List.getElem?_cons_succ]; rfl)
      case h2y5 => kernel_rfl
      case h3y5 => kernel_rfl
      case h4y5 => kernel_rfl
      case h5y5 => exact fun _ _ _ h => False.elim h
      case h6y5 => (refine Or.inl ⟨by rfl, ?_⟩; intro w hSw; (try dsimp only at hSw); go_simp; (try with_reducible rfl))
      try set_option linter.unusedSimpArgs false in simp only [Act.put, List.setIfInBounds_toArray, List.set_cons_zero, List.set_cons_succ]
      refine' wpAnyH_take (i := 6) (oi := _) (v := _) ?h1y6 ?h2y6 ?h3y6 ?h4y6 ?h5y6 ?h6y6 (by assumption) ?h8y6
      case h1y6 => (set_option linter.unusedSimpArgs false in simp only [List.getElem?_toArray, List.getElem?_cons_zero, List.getElem?_cons_succ]; rfl)
      case h2y6 => kernel_rfl
      case h3y6 => kernel_rfl
      case h4y6 => kernel_rfl
      case h5y6 => exact fun _ _ _ h => False.elim h
      case h6y6 => (refine Or.inl ⟨by rfl, ?_⟩; intro w hSw; (try dsimp only at hSw); go_simp; (try with_reducible rfl))
      try set_option linter.unusedSimpArgs false in simp only [Act.put, List.setIfInBounds_toArray, List.set_cons_zero, List.set_cons_succ]
      refine' wpAnyH_take (i := 7) (oi := _) (v := _) ?h1y7 ?h2y7 ?h3y7 ?h4y7 ?h5y7 ?h6y7 (by assumption) ?h8y7
      case h1y7 => (set_option linter.unusedSimpArgs false in simp only [List.getElem?_toArray, List.getElem?_cons_zero, List.getElem?_cons_succ]; rfl)
      case h2y7 => kernel_rfl
      case h3y7 => kernel_rfl
      case h4y7 => kernel_rfl
      case h5y7 => exact fun _ _ _ h => False.elim h
      case h6y7 => (refine Or.inl ⟨by rfl, ?_⟩; intro w hSw; (try dsimp only at hSw); go_simp; (try with_reducible rfl))
      try set_option linter.unusedSimpArgs false in simp only [Act.put, List.setIfInBounds_toArray, List.set_cons_zero, List.set_cons_succ]
      refine' wpAnyH_take (i := 8) (oi := _) (v := _) ?h1y8 ?h2y8 ?h3y8 ?h4y8 ?h5y8 ?h6y8 (by assumption) ?h8y8
      case h1y8 => (set_option linter.unusedSimpArgs false in simp only [List.getElem?_toArray, List.getElem?_cons_zero, List.getElem?_cons_succ]; rfl)
      case h2y8 => kernel_rfl
      case h3y8 => kernel_rfl
      case h4y8 => kernel_rfl
      case h5y8 => exact fun _ _ _ h => False.elim h
      case h6y8 => (refine Or.inl ⟨by rfl, ?_⟩; intro w hSw; (try dsimp only at hSw); go_simp; (try with_reducible rfl))
      try set_option linter.unusedSimpArgs false in simp only [Act.put, List.setIfInBounds_toArray, List.set_cons_zero, List.set_cons_succ]
      refine' wpAnyH_take (i := 9) (oi := _) (v := _) ?h1y9 ?h2y9 ?h3y9 ?h4y9 ?h5y9 ?h6y9 (by assumption) ?h8y9
      case h1y9 => (set_option linter.unusedSimpArgs false in simp only [List.getElem?_toArray, List.getElem?_cons_zero, List.getElem?_cons_succ]; rfl)
      case h2y9 => kernel_rfl
      case h3y9 => kernel_rfl
      case h4y9 => kernel_rfl
      case h5y9 => exact fun _ _ _ h => False.elim h
      case h6y9 => (refine Or.inl ⟨by rfl, ?_⟩; intro w hSw; (try dsimp only at hSw); go_simp; (try with_reducible rfl))
      try set_option linter.unusedSimpArgs false in simp only [Act.put, List.setIfInBounds_toArray, List.set_cons_zero, List.set_cons_succ]
      refine' wpAnyH_take (i := 10) (oi := _) (v := _) ?h1y10 ?h2y10 ?h3y10 ?h4y10 ?h5y10 ?h6y10 (by assumption) ?h8y10
      case h1y10 => (set_option linter.unusedSimpArgs false in simp only [List.getElem?_toArray, List.getElem?_cons_zero, List.getElem?_cons_succ]; rfl)
      case h2y10 => kernel_rfl
      case h3y10 => kernel_rfl
      case h4y10 => kernel_rfl
      case h5y10 => exact fun _ _ _ h => False.elim h
      case h6y10 => (refine Or.inl ⟨by rfl, ?_⟩; intro w hSw; (try dsimp only at hSw); go_simp; (try with_reducible rfl))
      try set_option linter.unusedSimpArgs false in simp only [Act.put, List.setIfInBounds_toArray, List.set_cons_zero, List.set_cons_succ]
      refine' wpAnyH_take (i := 12) (oi := _) (v := _) ?h1y12 ?h2y12 ?h3y12 ?h4y12 ?h5y12 ?h6y12 (by assumption) ?h8y12
      case h1y12 => (set_option linter.unusedSimpArgs false in simp only [List.getElem?_toArray, List.getElem?_cons_zero, List.getElem?_cons_succ]; rfl)
      case h2y12 => kernel_rfl
      case h3y12 => kernel_rfl
      case h4y12 => kernel_rfl
      case h5y12 => exact fun _ _ _ h => False.elim h
      case h6y12 => (refine Or.inl ⟨by rfl, ?_⟩; intro w hSw; (try dsimp only at hSw); go_simp; (try with_reducible rfl))
      try set_option linter.unusedSimpArgs false in simp only [Act.put, List.setIfInBounds_toArray, List.set_cons_zero, List.set_cons_succ]
      refine' wpAnyH_take (i := 13) (oi := _) (v := _) ?h1y13 ?h2y13 ?h3y13 ?h4y13 ?h5y13 ?h6y13 (by assumption) ?h8y13
      case h1y13 => (set_option linter.unusedSimpArgs false in simp only [List.getElem?_toArray, List.getElem?_cons_zero, List.getElem?_cons_succ]; rfl)
      case h2y13 => kernel_rfl
      case h3y13 => kernel_rfl
      case h4y13 => kernel_rfl
      case h5y13 => exact fun _ _ _ h => False.elim h
      case h6y13 => (refine Or.inl ⟨by rfl, ?_⟩; intro w hSw; (try dsimp only at hSw); go_simp; (try with_reducible rfl))
      try set_option linter.unusedSimpArgs false in simp only [Act.put, List.setIfInBounds_toArray, List.set_cons_zero, List.set_cons_succ]
      refine' wpAnyH_take (i := 14) (oi := _) (v := _) ?h1y14 ?h2y14 ?h3y14 ?h4y14 ?h5y14 ?h6y14 (by assumption) ?h8y14
      case h1y14 => (set_option linter.unusedSimpArgs false in simp only [List.getElem?_toArray, List.getElem?_cons_zero, List.getElem?_cons_succ]; rfl)
      case h2y14 => kernel_rfl
      case h3y14 => kernel_rfl
      case h4y14 => kernel_rfl
      case h5y14 => exact fun _ _ _ h => False.elim h
      case h6y14 => (refine Or.inl ⟨by rfl, ?_⟩; intro w hSw; (try dsimp only at hSw); go_simp; (try with_reducible rfl))
      try set_option linter.unusedSimpArgs false in simp only [Act.put, List.setIfInBounds_toArray, List.set_cons_zero, List.set_cons_succ]
      refine' wpAnyH_take (i := 15) (oi := _) (v := _) ?h1y15 ?h2y15 ?h3y15 ?h4y15 ?h5y15 ?h6y15 (by assumption) ?h8y15
      case h1y15 => (set_option linter.unusedSimpArgs false in simp only [List.getElem?_toArray, List.getElem?_cons_zero, List.getElem?_cons_succ]; rfl)
      case h2y15 => kernel_rfl
      case h3y15 => kernel_rfl
      case h4y15 => kernel_rfl
      case h5y15 => exact fun _ _ _ h => False.elim h
      case h6y15 => (refine Or.inl ⟨by rfl, ?_⟩; intro w hSw; (try dsimp only at hSw); go_simp; (try with_reducible rfl))
      try set_option linter.unusedSimpArgs false in simp only [Act.put, List.setIfInBounds_toArray, List.set_cons_zero, List.set_cons_succ]
      refine wpAnyH_ready (rs := [11]) (by kernel_rfl) (by simp) ?_
      refine AllReadyH.cons rfl (fun K hK => ?_) AllReadyH.nil
      go_simp
      refine (HSU.out _ HB3.out).mono ?_; rintro e w4 ⟨rfl, hb4⟩; have v0 := cellK hb4 (World.block_lt_of_cell? w3 _ z0) z0; have v1 := cellK hb4 (World.block_lt_of_cell? w3 _ z1) z1; have v2 := cellK hb4 (World.block_lt_of_cell? w3 _ z2) z2; have HB4 := hid (HB3.out.trans (hb4.mono HB3.out.size)); clear hb4; simp only []
      refine hK.out _ _ ?_ (fun hHeld => ?_)
      · exact ⟨v0, v1, v2⟩
      clear hK K
      try set_option linter.unusedSimpArgs false in simp only [Act.put, List.setIfInBounds_toArray, List.set_cons_zero, List.set_cons_succ]
      refine' wpAnyH_take (i := 16) (oi := _) (v := _) ?h1y16 ?h2y16 ?h3y16 ?h4y16 ?h5y16 ?h6y16 (by assumption) ?h8y16
      case h1y16 => (set_option linter.unusedSimpArgs false in simp only [List.getElem?_toArray, List.getElem?_cons_zero, List.getElem?_cons_succ]; rfl)
      case h2y16 => kernel_rfl
      case h3y16 => kernel_rfl
      case h4y16 => kernel_rfl
      case h5y16 => exact fun _ _ _ h => False.elim h
      case h6y16 => (refine Or.inl ⟨by rfl, ?_⟩; intro w hSw; (try dsimp only at hSw); go_simp; (try with_reducible rfl))
      try set_option linter.unusedSimpArgs false in simp only [Act.put, List.setIfInBounds_toArray, List.set_cons_zero, List.set_cons_succ]
      refine' wpAnyH_take (i := 17) (oi := _) (v := _) ?h1y17 ?h2y17 ?h3y17 ?h4y17 ?h5y17 ?h6y17 (by assumption) ?h8y17
      case h1y17 => (set_option linter.unusedSimpArgs false in simp only [List.getElem?_toArray, List.getElem?_cons_zero, List.getElem?_cons_succ]; rfl)
      case h2y17 => kernel_rfl
      case h3y17 => kernel_rfl
      case h4y17 => kernel_rfl
      case h5y17 => exact fun _ _ _ h => False.elim h
      case h6y17 => (refine Or.inl ⟨by rfl, ?_⟩; intro w hSw; (try dsimp only at hSw); go_simp; (try with_reducible rfl))
      try set_option linter.unusedSimpArgs false in simp only [Act.put, List.setIfInBounds_toArray, List.set_cons_zero, List.set_cons_succ]
      refine wpAnyH_done (by kernel_rfl) ?_ _
      refine NoPanic.normal ?_
      by_cases hge : L ≤ ((pathOf ns up).length : Int)
      · have hnx := HNX2.out
        rw [decide_eq_false (by omega), Bool.false_and] at hnx
        have HNX3 := hid hnx; clear hnx
        go_wp2
        go_ret
        exact ⟨by rw [HNX3.out]; rfl, HB4.out⟩
      · have hnx := HNX2.out
        rw [decide_eq_true (by omega), Bool.true_and] at hnx
        have HNX3 := hid hnx; clear hnx
        go_wp2
        by_cases h0 : ns.length = 0
        · have hnx := HNX3.out
          rw [decide_eq_true h0, Bool.true_or] at hnx
          have HNX4 := hid hnx; clear hnx
          have t0 : ((ns.length : Int) == 0) = true := by rw [beq_iff_eq]; omega
          clear h0
          refine wp_region_noPanic ?_
          refine wp_region_held_drew (S := fun w' => w'.cell? ⟨w.heap.size, 0, none⟩ = some (.int .i64 (up : Int)) ∧ w'.cell? ⟨w.heap.size, 1, none⟩ = some (.string s) ∧ w'.cell? ⟨d, 0, none⟩ = some (.int .i64 L)) (by kernel_rfl) ?_ (fun hHeld => ?_)
          · exact ⟨v0, v1, v2⟩
          refine' wpAnyH_take (i := 0) (oi := _) (v := _) ?h1a0 ?h2a0 ?h3a0 ?h4a0 ?h5a0 ?h6a0 (by assumption) ?h8a0
          case h1a0 => (set_option linter.unusedSimpArgs false in simp only [List.getElem?_toArray, List.getElem?_cons_zero, List.getElem?_cons_succ]; rfl)
          case h2a0 => kernel_rfl
          case h3a0 => kernel_rfl
          case h4a0 => kernel_rfl
          case h5a0 => exact fun _ _ _ h => False.elim h
          case h6a0 => (refine Or.inl ⟨by rfl, ?_⟩; intro w hSw; (try dsimp only at hSw); go_simp; (try with_reducible rfl))
          try set_option linter.unusedSimpArgs false in simp only [Act.put, List.setIfInBounds_toArray, List.set_cons_zero, List.set_cons_succ]
          refine' wpAnyH_take (i := 1) (oi := _) (v := _) ?h1a1 ?h2a1 ?h3a1 ?h4a1 ?h5a1 ?h6a1 (by assumption) ?h8a1
          case h1a1 => (set_option linter.unusedSimpArgs false in simp only [List.getElem?_toArray, List.getElem?_cons_zero, List.getElem?_cons_succ]; rfl)
          case h2a1 => kernel_rfl
          case h3a1 => kernel_rfl
          case h4a1 => kernel_rfl
          case h5a1 => exact fun _ _ _ h => False.elim h
          case h6a1 => (refine Or.inl ⟨by rfl, ?_⟩; intro w hSw; (try dsimp only at hSw); go_simp; (try with_reducible rfl))
          try set_option linter.unusedSimpArgs false in simp only [Act.put, List.setIfInBounds_toArray, List.set_cons_zero, List.set_cons_succ]
          refine' wpAnyH_take (i := 2) (oi := _) (v := _) ?h1a2 ?h2a2 ?h3a2 ?h4a2 ?h5a2 ?h6a2 (by assumption) ?h8a2
          case h1a2 => (set_option linter.unusedSimpArgs false in simp only [List.getElem?_toArray, List.getElem?_cons_zero, List.getElem?_cons_succ]; rfl)
          case h2a2 => kernel_rfl
          case h3a2 => kernel_rfl
          case h4a2 => kernel_rfl
          case h5a2 => exact fun _ _ _ h => False.elim h
          case h6a2 => (refine Or.inl ⟨by rfl, ?_⟩; intro w hSw; (try dsimp only at hSw); go_simp; (try with_reducible rfl))
          try set_option linter.unusedSimpArgs false in simp only [Act.put, List.setIfInBounds_toArray, List.set_cons_zero, List.set_cons_succ]
          refine' wpAnyH_take (i := 3) (oi := _) (v := undef) ?h1a3 ?h2a3 ?h3a3 ?h4a3 ?h5a3 ?h6a3 (by assumption) ?h8a3
          case h1a3 => (set_option linter.unusedSimpArgs false in simp only [List.getElem?_toArray, List.getElem?_cons_zero, List.getElem?_cons_succ]; rfl)
          case h2a3 => kernel_rfl
          case h3a3 => kernel_rfl
          case h4a3 => kernel_rfl
          case h5a3 => exact fun _ _ _ h => False.elim h
          case h6a3 => exact Or.inr ⟨by kernel_rfl, rfl⟩
          try set_option linter.unusedSimpArgs false in simp only [Act.put, List.setIfInBounds_toArray, List.set_cons_zero, List.set_cons_succ]
          refine' wpAnyH_take (i := 4) (oi := _) (v := undef) ?h1a4 ?h2a4 ?h3a4 ?h4a4 ?h5a4 ?h6a4 (by assumption) ?h8a4
          case h1a4 => (set_option linter.unusedSimpArgs false in simp only [List.getElem?_toArray, List.getElem?_cons_zero, List.getElem?_cons_succ]; rfl)
          case h2a4 => kernel_rfl
          case h3a4 => kernel_rfl
          case h4a4 => kernel_rfl
          case h5a4 => exact fun _ _ _ h => False.elim h
          case h6a4 => exact Or.inr ⟨by kernel_rfl, rfl⟩
          try set_option linter.unusedSimpArgs false in simp only [Act.put, List.setIfInBounds_toArray, List.set_cons_zero, List.set_cons_succ]
          refine' wpAnyH_take (i := 5) (oi := _) (v := undef) ?h1a5 ?h2a5 ?h3a5 ?h4a5 ?h5a5 ?h6a5 (by assumption) ?h8a5
          case h1a5 => (set_option linter.unusedSimpArgs false in simp only [List.getElem?_toArray, List.getElem?_cons_zero, List.getElem?_cons_succ]; rfl)
          case h2a5 => kernel_rfl
          case h3a5 => kernel_rfl
          case h4a5 => kernel_rfl
          case h5a5 => exact fun _ _ _ h => False.elim h
          case h6a5 => exact Or.inr ⟨by kernel_rfl, rfl⟩
          try set_option linter.unusedSimpArgs false in simp only [Act.put, List.setIfInBounds_toArray, List.set_cons_zero, List.set_cons_succ]
          refine' wpAnyH_take (i := 6) (oi := _) (v := undef) ?h1a6 ?h2a6 ?h3a6 ?h4a6 ?h5a6 ?h6a6 (by assumption) ?h8a6
          case h1a6 => (set_option linter.unusedSimpArgs false in simp only [List.getElem?_toArray, List.getElem?_cons_zero, List.getElem?_cons_succ]; rfl)
          case h2a6 => kernel_rfl
          case h3a6 => kernel_rfl
          case h4a6 => kernel_rfl
          case h5a6 => exact fun _ _ _ h => False.elim h
          case h6a6 => exact Or.inr ⟨by kernel_rfl, rfl⟩
          try set_option linter.unusedSimpArgs false in simp only [Act.put, List.setIfInBounds_toArray, List.set_cons_zero, List.set_cons_succ]
          refine' wpAnyH_take (i := 7) (oi := _) (v := undef) ?h1a7 ?h2a7 ?h3a7 ?h4a7 ?h5a7 ?h6a7 (by assumption) ?h8a7
          case h1a7 => (set_option linter.unusedSimpArgs false in simp only [List.getElem?_toArray, List.getElem?_cons_zero, List.getElem?_cons_succ]; rfl)
          case h2a7 => kernel_rfl
          case h3a7 => kernel_rfl
          case h4a7 => kernel_rfl
          case h5a7 => exact fun _ _ _ h => False.elim h
          case h6a7 => exact Or.inr ⟨by kernel_rfl, rfl⟩
          try set_option linter.unusedSimpArgs false in simp only [Act.put, List.setIfInBounds_toArray, List.set_cons_zero, List.set_cons_succ]
          refine' wpAnyH_take (i := 8) (oi := _) (v := undef) ?h1a8 ?h2a8 ?h3a8 ?h4a8 ?h5a8 ?h6a8 (by assumption) ?h8a8
          case h1a8 => (set_option linter.unusedSimpArgs false in simp only [List.getElem?_toArray, List.getElem?_cons_zero, List.getElem?_cons_succ]; rfl)
          case h2a8 => kernel_rfl
          case h3a8 => kernel_rfl
          case h4a8 => kernel_rfl
          case h5a8 => exact fun _ _ _ h => False.elim h
          case h6a8 => exact Or.inr ⟨by kernel_rfl, rfl⟩
          try set_option linter.unusedSimpArgs false in simp only [Act.put, List.setIfInBounds_toArray, List.set_cons_zero, List.set_cons_succ]
          refine' wpAnyH_take (i := 9) (oi := _) (v := undef) ?h1a9 ?h2a9 ?h3a9 ?h4a9 ?h5a9 ?h6a9 (by assumption) ?h8a9
          case h1a9 => (set_option linter.unusedSimpArgs false in simp only [List.getElem?_toArray, List.getElem?_cons_zero, List.getElem?_cons_succ]; rfl)
          case h2a9 => kernel_rfl
          case h3a9 => kernel_rfl
          case h4a9 => kernel_rfl
          case h5a9 => exact fun _ _ _ h => False.elim h
          case h6a9 => exact Or.inr ⟨by kernel_rfl, rfl⟩
          try set_option linter.unusedSimpArgs false in simp only [Act.put, List.setIfInBounds_toArray, List.set_cons_zero, List.set_cons_succ]
          refine' wpAnyH_take (i := 10) (oi := _) (v := undef) ?h1a10 ?h2a10 ?h3a10 ?h4a10 ?h5a10 ?h6a10 (by assumption) ?h8a10
          case h1a10 => (set_option linter.unusedSimpArgs false in simp only [List.getElem?_toArray, List.getElem?_cons_zero, List.getElem?_cons_succ]; rfl)
          case h2a10 => kernel_rfl
          case h3a10 => kernel_rfl
          case h4a10 => kernel_rfl
          case h5a10 => exact fun _ _ _ h => False.elim h
          case h6a10 => exact Or.inr ⟨by kernel_rfl, rfl⟩
          try set_option linter.unusedSimpArgs false in simp only [Act.put, List.setIfInBounds_toArray, List.set_cons_zero, List.set_cons_succ]
          refine' wpAnyH_take (i := 11) (oi := _) (v := _) ?h1a11 ?h2a11 ?h3a11 ?h4a11 ?h5a11 ?h6a11 (by assumption) ?h8a11
          case h1a11 => (set_option linter.unusedSimpArgs false in simp only [List.getElem?_toArray, List.getElem?_cons_zero, List.getElem?_cons_succ]; rfl)
          case h2a11 => kernel_rfl
          case h3a11 => kernel_rfl
          case h4a11 => kernel_rfl
          case h5a11 => exact fun _ _ _ h => False.elim h
          case h6a11 => (refine Or.inl ⟨by rfl, ?_⟩; intro w hSw; (try dsimp only at hSw); go_simp; (try with_reducible rfl))
          try set_option linter.unusedSimpArgs false in simp only [Act.put, List.setIfInBounds_toArray, List.set_cons_zero, List.set_cons_succ]
          refine' wpAnyH_take (i := 12) (oi := _) (v := _) ?h1a12 ?h2a12 ?h3a12 ?h4a12 ?h5a12 ?h6a12 (by assumption) ?h8a12
          case h1a12 => (set_option linter.unusedSimpArgs false in simp only [List.getElem?_toArray, List.getElem?_cons_zero, List.getElem?_cons_succ]; rfl)
          case h2a12 => kernel_rfl
          case h3a12 => kernel_rfl
          case h4a12 => kernel_rfl
          case h5a12 => exact fun _ _ _ h => False.elim h
          case h6a12 => (refine Or.inl ⟨by rfl, ?_⟩; intro w hSw; (try dsimp only at hSw); go_simp; (try with_reducible rfl))
          try set_option linter.unusedSimpArgs false in simp only [Act.put, List.setIfInBounds_toArray, List.set_cons_zero, List.set_cons_succ]
          refine' wpAnyH_take (i := 13) (oi := _) (v := undef) ?h1a13 ?h2a13 ?h3a13 ?h4a13 ?h5a13 ?h6a13 (by assumption) ?h8a13
          case h1a13 => (set_option linter.unusedSimpArgs false in simp only [List.getElem?_toArray, List.getElem?_cons_zero, List.getElem?_cons_succ]; rfl)
          case h2a13 => kernel_rfl
          case h3a13 => kernel_rfl
          case h4a13 => kernel_rfl
          case h5a13 => exact fun _ _ _ h => False.elim h
          case h6a13 => exact Or.inr ⟨by kernel_rfl, rfl⟩
          try set_option linter.unusedSimpArgs false in simp only [Act.put, List.setIfInBounds_toArray, List.set_cons_zero, List.set_cons_succ]
          refine' wpAnyH_take (i := 14) (oi := _) (v := undef) ?h1a14 ?h2a14 ?h3a14 ?h4a14 ?h5a14 ?h6a14 (by assumption) ?h8a14
          case h1a14 => (set_option linter.unusedSimpArgs false in simp only [List.getElem?_toArray, List.getElem?_cons_zero, List.getElem?_cons_succ]; rfl)
          case h2a14 => kernel_rfl
          case h3a14 => kernel_rfl
          case h4a14 => kernel_rfl
          case h5a14 => exact fun _ _ _ h => False.elim h
          case h6a14 => exact Or.inr ⟨by kernel_rfl, rfl⟩
          try set_option linter.unusedSimpArgs false in simp only [Act.put, List.setIfInBounds_toArray, List.set_cons_zero, List.set_cons_succ]
          refine' wpAnyH_take (i := 15) (oi := _) (v := undef) ?h1a15 ?h2a15 ?h3a15 ?h4a15 ?h5a15 ?h6a15 (by assumption) ?h8a15
          case h1a15 => (set_option linter.unusedSimpArgs false in simp only [List.getElem?_toArray, List.getElem?_cons_zero, List.getElem?_cons_succ]; rfl)
          case h2a15 => kernel_rfl
          case h3a15 => kernel_rfl
          case h4a15 => kernel_rfl
          case h5a15 => exact fun _ _ _ h => False.elim h
          case h6a15 => exact Or.inr ⟨by kernel_rfl, rfl⟩
          try set_option linter.unusedSimpArgs false in simp only [Act.put, List.setIfInBounds_toArray, List.set_cons_zero, List.set_cons_succ]
          refine' wpAnyH_take (i := 16) (oi := _) (v := undef) ?h1a16 ?h2a16 ?h3a16 ?h4a16 ?h5a16 ?h6a16 (by assumption) ?h8a16
          case h1a16 => (set_option linter.unusedSimpArgs false in simp only [List.getElem?_toArray, List.getElem?_cons_zero, List.getElem?_cons_succ]; rfl)
          case h2a16 => kernel_rfl
          case h3a16 => kernel_rfl
          case h4a16 => kernel_rfl
          case h5a16 => exact fun _ _ _ h => False.elim h
          case h6a16 => exact Or.inr ⟨by kernel_rfl, rfl⟩
          try set_option linter.unusedSimpArgs false in simp only [Act.put, List.setIfInBounds_toArray, List.set_cons_zero, List.set_cons_succ]
          refine' wpAnyH_take (i := 17) (oi := _) (v := _) ?h1a17 ?h2a17 ?h3a17 ?h4a17 ?h5a17 ?h6a17 (by assumption) ?h8a17
          case h1a17 => (set_option linter.unusedSimpArgs false in simp only [List.getElem?_toArray, List.getElem?_cons_zero, List.getElem?_cons_succ]; rfl)
          case h2a17 => kernel_rfl
          case h3a17 => kernel_rfl
          case h4a17 => kernel_rfl
          case h5a17 => exact fun _ _ _ h => False.elim h
          case h6a17 => (refine Or.inl ⟨by rfl, ?_⟩; intro w hSw; (try dsimp only at hSw); go_simp; (try with_reducible rfl))
          try set_option linter.unusedSimpArgs false in simp only [Act.put, List.setIfInBounds_toArray, List.set_cons_zero, List.set_cons_succ]
          refine' wpAnyH_take (i := 18) (oi := _) (v := _) ?h1a18 ?h2a18 ?h3a18 ?h4a18 ?h5a18 ?h6a18 (by assumption) ?h8a18
          case h1a18 => (set_option linter.unusedSimpArgs false in simp only [List.getElem?_toArray, List.getElem?_cons_zero, List.getElem?_cons_succ]; rfl)
          case h2a18 => kernel_rfl
          case h3a18 => kernel_rfl
          case h4a18 => kernel_rfl
          case h5a18 => exact fun _ _ _ h => False.elim h
          case h6a18 => (refine Or.inl ⟨by rfl, ?_⟩; intro w hSw; (try dsimp only at hSw); go_simp; (try with_reducible rfl))
          try set_option linter.unusedSimpArgs false in simp only [Act.put, List.setIfInBounds_toArray, List.set_cons_zero, List.set_cons_succ]
          refine wpAnyH_done (by kernel_rfl) ?_ _
          refine NoPanic.normal ?_
          go_wp2
          go_ret
          exact ⟨by rw [HNX4.out]; rfl, HB4.out.trans ((Below.refl _ _).drew)⟩
        · have hnx := HNX3.out
          rw [decide_eq_false h0, Bool.false_or] at hnx
          have HNX4 := hid hnx; clear hnx
          have t0 : ((ns.length : Int) == 0) = false := by rw [beq_eq_false_iff_ne]; omega
          have HSL := hid (fun W hb => HS.out ns.length W hb (Nat.le_refl _))
          clear h0
          generalize pathOf ns ns.length = pp at *
          by_cases hpe : (pp.length : Int) = L
          · have hnx := HNX4.out
            rw [decide_eq_true hpe, Bool.true_or] at hnx
            have HNX5 := hid hnx; clear hnx
            have t1 : ((pp.length : Int) == L) = true := by rw [beq_iff_eq]; exact hpe
            clear hpe
            refine wp_region_noPanic ?_
            refine wp_region_held_drew (S := fun w' => w'.cell? ⟨w.heap.size, 0, none⟩ = some (.int .i64 (up : Int)) ∧ w'.cell? ⟨w.heap.size, 1, none⟩ = some (.string s) ∧ w'.cell? ⟨d, 0, none⟩ = some (.int .i64 L)) (by kernel_rfl) ?_ (fun hHeld => ?_)
            · exact ⟨v0, v1, v2⟩
            refine' wpAnyH_take (i := 0) (oi := _) (v := _) ?h1b0 ?h2b0 ?h3b0 ?h4b0 ?h5b0 ?h6b0 (by assumption) ?h8b0
            case h1b0 => (set_option linter.unusedSimpArgs false in simp only [List.getElem?_toArray, List.getElem?_cons_zero, List.getElem?_cons_succ]; rfl)
            case h2b0 => kernel_rfl
            case h3b0 => kernel_rfl
            case h4b0 => kernel_rfl
            case h5b0 => exact fun _ _ _ h => False.elim h
            case h6b0 => (refine Or.inl ⟨by rfl, ?_⟩; intro w hSw; (try dsimp only at hSw); go_simp; (try with_reducible rfl))
            try set_option linter.unusedSimpArgs false in simp only [Act.put, List.setIfInBounds_toArray, List.set_cons_zero, List.set_cons_succ]
            refine' wpAnyH_take (i := 1) (oi := _) (v := _) ?h1b1 ?h2b1 ?h3b1 ?h4b1 ?h5b1 ?h6b1 (by assumption) ?h8b1
            case h1b1 => (set_option linter.unusedSimpArgs false in simp only [List.getElem?_toArray, List.getElem?_cons_zero, List.getElem?_cons_succ]; rfl)
            case h2b1 => kernel_rfl
            case h3b1 => kernel_rfl
            case h4b1 => kernel_rfl
            case h5b1 => exact fun _ _ _ h => False.elim h
            case h6b1 => (refine Or.inl ⟨by rfl, ?_⟩; intro w hSw; (try dsimp only at hSw); go_simp; (try with_reducible rfl))
            try set_option linter.unusedSimpArgs false in simp only [Act.put, List.setIfInBounds_toArray, List.set_cons_zero, List.set_cons_succ]
            refine' wpAnyH_take (i := 2) (oi := _) (v := _) ?h1b2 ?h2b2 ?h3b2 ?h4b2 ?h5b2 ?h6b2 (by assumption) ?h8b2
            case h1b2 => (set_option linter.unusedSimpArgs false in simp only [List.getElem?_toArray, List.getElem?_cons_zero, List.getElem?_cons_succ]; rfl)
            case h2b2 => kernel_rfl
            case h3b2 => kernel_rfl
            case h4b2 => kernel_rfl
            case h5b2 => exact fun _ _ _ h => False.elim h
            case h6b2 => (refine Or.inl ⟨by rfl, ?_⟩; intro w hSw; (try dsimp only at hSw); go_simp; (try with_reducible rfl))
            try set_option linter.unusedSimpArgs false in simp only [Act.put, List.setIfInBounds_toArray, List.set_cons_zero, List.set_cons_succ]
            refine' wpAnyH_take (i := 3) (oi := _) (v := _) ?h1b3 ?h2b3 ?h3b3 ?h4b3 ?h5b3 ?h6b3 (by assumption) ?h8b3
            case h1b3 => (set_option linter.unusedSimpArgs false in simp only [List.getElem?_toArray, List.getElem?_cons_zero, List.getElem?_cons_succ]; rfl)
            case h2b3 => kernel_rfl
            case h3b3 => kernel_rfl
            case h4b3 => kernel_rfl
            case h5b3 => exact fun _ _ _ h => False.elim h
            case h6b3 => (refine Or.inl ⟨by rfl, ?_⟩; intro w hSw; (try dsimp only at hSw); go_simp; (try with_reducible rfl))
            try set_option linter.unusedSimpArgs false in simp only [Act.put, List.setIfInBounds_toArray, List.set_cons_zero, List.set_cons_succ]
            refine' wpAnyH_take (i := 4) (oi := _) (v := _) ?h1b4 ?h2b4 ?h3b4 ?h4b4 ?h5b4 ?h6b4 (by assumption) ?h8b4
            case h1b4 => (set_option linter.unusedSimpArgs false in simp only [List.getElem?_toArray, List.getElem?_cons_zero, List.getElem?_cons_succ]; rfl)
            case h2b4 => kernel_rfl
            case h3b4 => kernel_rfl
            case h4b4 => kernel_rfl
            case h5b4 => exact fun _ _ _ h => False.elim h
            case h6b4 => (refine Or.inl ⟨by rfl, ?_⟩; intro w hSw; (try dsimp only at hSw); go_simp; (try with_reducible rfl))
            try set_option linter.unusedSimpArgs false in simp only [Act.put, List.setIfInBounds_toArray, List.set_cons_zero, List.set_cons_succ]
            refine' wpAnyH_take (i := 6) (oi := _) (v := _) ?h1b6 ?h2b6 ?h3b6 ?h4b6 ?h5b6 ?h6b6 (by assumption) ?h8b6
            case h1b6 => (set_option linter.unusedSimpArgs false in simp only [List.getElem?_toArray, List.getElem?_cons_zero, List.getElem?_cons_succ]; rfl)
            case h2b6 => kernel_rfl
            case h3b6 => kernel_rfl
            case h4b6 => kernel_rfl
            case h5b6 => exact fun _ _ _ h => False.elim h
            case h6b6 => (refine Or.inl ⟨by rfl, ?_⟩; intro w hSw; (try dsimp only at hSw); go_simp; (try with_reducible rfl))
            try set_option linter.unusedSimpArgs false in simp only [Act.put, List.setIfInBounds_toArray, List.set_cons_zero, List.set_cons_succ]
            refine' wpAnyH_take (i := 7) (oi := _) (v := _) ?h1b7 ?h2b7 ?h3b7 ?h4b7 ?h5b7 ?h6b7 (by assumption) ?h8b7
            case h1b7 => (set_option linter.unusedSimpArgs false in simp only [List.getElem?_toArray, List.getElem?_cons_zero, List.getElem?_cons_succ]; rfl)
            case h2b7 => kernel_rfl
            case h3b7 => kernel_rfl
            case h4b7 => kernel_rfl
            case h5b7 => exact fun _ _ _ h => False.elim h
            case h6b7 => (refine Or.inl ⟨by rfl, ?_⟩; intro w hSw; (try dsimp only at hSw); go_simp; (try with_reducible rfl))
            try set_option linter.unusedSimpArgs false in simp only [Act.put, List.setIfInBounds_toArray, List.set_cons_zero, List.set_cons_succ]
            refine' wpAnyH_take (i := 8) (oi := _) (v := _) ?h1b8 ?h2b8 ?h3b8 ?h4b8 ?h5b8 ?h6b8 (by assumption) ?h8b8
            case h1b8 => (set_option linter.unusedSimpArgs false in simp only [List.getElem?_toArray, List.getElem?_cons_zero, List.getElem?_cons_succ]; rfl)
            case h2b8 => kernel_rfl
            case h3b8 => kernel_rfl
            case h4b8 => kernel_rfl
            case h5b8 => exact fun _ _ _ h => False.elim h
            case h6b8 => (refine Or.inl ⟨by rfl, ?_⟩; intro w hSw; (try dsimp only at hSw); go_simp; (try with_reducible rfl))
            try set_option linter.unusedSimpArgs false in simp only [Act.put, List.setIfInBounds_toArray, List.set_cons_zero, List.set_cons_succ]
            refine' wpAnyH_take (i := 9) (oi := _) (v := _) ?h1b9 ?h2b9 ?h3b9 ?h4b9 ?h5b9 ?h6b9 (by assumption) ?h8b9
            case h1b9 => (set_option linter.unusedSimpArgs false in simp only [List.getElem?_toArray, List.getElem?_cons_zero, List.getElem?_cons_succ]; rfl)
            case h2b9 => kernel_rfl
            case h3b9 => kernel_rfl
            case h4b9 => kernel_rfl
            case h5b9 => exact fun _ _ _ h => False.elim h
            case h6b9 => (refine Or.inl ⟨by rfl, ?_⟩; intro w hSw; (try dsimp only at hSw); go_simp; (try with_reducible rfl))
            try set_option linter.unusedSimpArgs false in simp only [Act.put, List.setIfInBounds_toArray, List.set_cons_zero, List.set_cons_succ]
            refine wpAnyH_ready (rs := [5]) (by kernel_rfl) (by simp) ?_
            refine AllReadyH.cons rfl (fun K hK => ?_) AllReadyH.nil
            go_simp
            refine (HSL.out _ (HB4.out.trans ((Below.refl _ _).drew))).mono ?_; rintro e w5 ⟨rfl, hb5⟩; have r0 := cellK hb5 (World.block_lt_of_cell? w4 _ v0) v0; have r1 := cellK hb5 (World.block_lt_of_cell? w4 _ v1) v1; have r2 := cellK hb5 (World.block_lt_of_cell? w4 _ v2) v2; have HB5 := hid ((HB4.out.trans ((Below.refl w.heap.size w4).drew)).trans (hb5.mono HB4.out.size)); clear hb5; simp only []
            refine hK.out _ _ ?_ (fun hHeld => ?_)
            · exact ⟨r0, r1, r2⟩
            clear hK K
            try set_option linter.unusedSimpArgs false in simp only [Act.put, List.setIfInBounds_toArray, List.set_cons_zero, List.set_cons_succ]
            refine' wpAnyH_take (i := 10) (oi := _) (v := _) ?h1b10 ?h2b10 ?h3b10 ?h4b10 ?h5b10 ?h6b10 (by assumption) ?h8b10
            case h1b10 => (set_option linter.unusedSimpArgs false in simp only [List.getElem?_toArray, List.getElem?_cons_zero, List.getElem?_cons_succ]; rfl)
            case h2b10 => kernel_rfl
            case h3b10 => kernel_rfl
            case h4b10 => kernel_rfl
            case h5b10 => exact fun _ _ _ h => False.elim h
            case h6b10 => (refine Or.inl ⟨by rfl, ?_⟩; intro w hSw; (try dsimp only at hSw); go_simp; (try with_reducible rfl))
            try set_option linter.unusedSimpArgs false in simp only [Act.put, List.setIfInBounds_toArray, List.set_cons_zero, List.set_cons_succ]
            refine' wpAnyH_take (i := 11) (oi := _) (v := _) ?h1b11 ?h2b11 ?h3b11 ?h4b11 ?h5b11 ?h6b11 (by assumption) ?h8b11
            case h1b11 => (set_option linter.unusedSimpArgs false in simp only [List.getElem?_toArray, List.getElem?_cons_zero, List.getElem?_cons_succ]; rfl)
            case h2b11 => kernel_rfl
            case h3b11 => kernel_rfl
            case h4b11 => kernel_rfl
            case h5b11 => exact fun _ _ _ h => False.elim h
            case h6b11 => (refine Or.inl ⟨by rfl, ?_⟩; intro w hSw; (try dsimp only at hSw); go_simp; (try with_reducible rfl))
            try set_option linter.unusedSimpArgs false in simp only [Act.put, List.setIfInBounds_toArray, List.set_cons_zero, List.set_cons_succ]
            refine' wpAnyH_take (i := 12) (oi := _) (v := _) ?h1b12 ?h2b12 ?h3b12 ?h4b12 ?h5b12 ?h6b12 (by assumption) ?h8b12
            case h1b12 => (set_option linter.unusedSimpArgs false in simp only [List.getElem?_toArray, List.getElem?_cons_zero, List.getElem?_cons_succ]; rfl)
            case h2b12 => kernel_rfl
            case h3b12 => kernel_rfl
            case h4b12 => kernel_rfl
            case h5b12 => exact fun _ _ _ h => False.elim h
            case h6b12 => (refine Or.inl ⟨by rfl, ?_⟩; intro w hSw; (try dsimp only at hSw); go_simp; (try with_reducible rfl))
            try set_option linter.unusedSimpArgs false in simp only [Act.put, List.setIfInBounds_toArray, List.set_cons_zero, List.set_cons_succ]
            refine' wpAnyH_take (i := 13) (oi := _) (v := undef) ?h1b13 ?h2b13 ?h3b13 ?h4b13 ?h5b13 ?h6b13 (by assumption) ?h8b13
            case h1b13 => (set_option linter.unusedSimpArgs false in simp only [List.getElem?_toArray, List.getElem?_cons_zero, List.getElem?_cons_succ]; rfl)
            case h2b13 => kernel_rfl
            case h3b13 => kernel_rfl
            case h4b13 => kernel_rfl
            case h5b13 => exact fun _ _ _ h => False.elim h
            case h6b13 => exact Or.inr ⟨by kernel_rfl, rfl⟩
            try set_option linter.unusedSimpArgs false in simp only [Act.put, List.setIfInBounds_toArray, List.set_cons_zero, List.set_cons_succ]
            refine' wpAnyH_take (i := 14) (oi := _) (v := undef) ?h1b14 ?h2b14 ?h3b14 ?h4b14 ?h5b14 ?h6b14 (by assumption) ?h8b14
            case h1b14 => (set_option linter.unusedSimpArgs false in simp only [List.getElem?_toArray, List.getElem?_cons_zero, List.getElem?_cons_succ]; rfl)
            case h2b14 => kernel_rfl
            case h3b14 => kernel_rfl
            case h4b14 => kernel_rfl
            case h5b14 => exact fun _ _ _ h => False.elim h
            case h6b14 => exact Or.inr ⟨by kernel_rfl, rfl⟩
            try set_option linter.unusedSimpArgs false in simp only [Act.put, List.setIfInBounds_toArray, List.set_cons_zero, List.set_cons_succ]
            refine' wpAnyH_take (i := 15) (oi := _) (v := undef) ?h1b15 ?h2b15 ?h3b15 ?h4b15 ?h5b15 ?h6b15 (by assumption) ?h8b15
            case h1b15 => (set_option linter.unusedSimpArgs false in simp only [List.getElem?_toArray, List.getElem?_cons_zero, List.getElem?_cons_succ]; rfl)
            case h2b15 => kernel_rfl
            case h3b15 => kernel_rfl
            case h4b15 => kernel_rfl
            case h5b15 => exact fun _ _ _ h => False.elim h
            case h6b15 => exact Or.inr ⟨by kernel_rfl, rfl⟩
            try set_option linter.unusedSimpArgs false in simp only [Act.put, List.setIfInBounds_toArray, List.set_cons_zero, List.set_cons_succ]
            refine' wpAnyH_take (i := 16) (oi := _) (v := undef) ?h1b16 ?h2b16 ?h3b16 ?h4b16 ?h5b16 ?h6b16 (by assumption) ?h8b16
            case h1b16 => (set_option linter.unusedSimpArgs false in simp only [List.getElem?_toArray, List.getElem?_cons_zero, List.getElem?_cons_succ]; rfl)
            case h2b16 => kernel_rfl
            case h3b16 => kernel_rfl
            case h4b16 => kernel_rfl
            case h5b16 => exact fun _ _ _ h => False.elim h
            case h6b16 => exact Or.inr ⟨by kernel_rfl, rfl⟩
            try set_option linter.unusedSimpArgs false in simp only [Act.put, List.setIfInBounds_toArray, List.set_cons_zero, List.set_cons_succ]
            refine' wpAnyH_take (i := 17) (oi := _) (v := _) ?h1b17 ?h2b17 ?h3b17 ?h4b17 ?h5b17 ?h6b17 (by assumption) ?h8b17
            case h1b17 => (set_option linter.unusedSimpArgs false in simp only [List.getElem?_toArray, List.getElem?_cons_zero, List.getElem?_cons_succ]; rfl)
            case h2b17 => kernel_rfl
            case h3b17 => kernel_rfl
            case h4b17 => kernel_rfl
            case h5b17 => exact fun _ _ _ h => False.elim h
            case h6b17 => (refine Or.inl ⟨by rfl, ?_⟩; intro w hSw; (try dsimp only at hSw); go_simp; (try with_reducible rfl))
            try set_option linter.unusedSimpArgs false in simp only [Act.put, List.setIfInBounds_toArray, List.set_cons_zero, List.set_cons_succ]
            refine' wpAnyH_take (i := 18) (oi := _) (v := _) ?h1b18 ?h2b18 ?h3b18 ?h4b18 ?h5b18 ?h6b18 (by assumption) ?h8b18
            case h1b18 => (set_option linter.unusedSimpArgs false in simp only [List.getElem?_toArray, List.getElem?_cons_zero, List.getElem?_cons_succ]; rfl)
            case h2b18 => kernel_rfl
            case h3b18 => kernel_rfl
            case h4b18 => kernel_rfl
            case h5b18 => exact fun _ _ _ h => False.elim h
            case h6b18 => (refine Or.inl ⟨by rfl, ?_⟩; intro w hSw; (try dsimp only at hSw); go_simp; (try with_reducible rfl))
            try set_option linter.unusedSimpArgs false in simp only [Act.put, List.setIfInBounds_toArray, List.set_cons_zero, List.set_cons_succ]
            refine wpAnyH_done (by kernel_rfl) ?_ _
            refine NoPanic.normal ?_
            go_wp2
            go_ret
            exact ⟨by rw [HNX5.out]; rfl, HB5.out⟩
          · have hnx := HNX4.out
            rw [decide_eq_false hpe, Bool.false_or] at hnx
            have HNX5 := hid hnx; clear hnx
            have t1 : ((pp.length : Int) == L) = false := by rw [beq_eq_false_iff_ne]; exact hpe
            have t2 : ((up : Int) == (ns.length : Int)) = decide (up = ns.length) := by
              by_cases h : up = ns.length
              · rw [decide_eq_true h, beq_iff_eq]; omega
              · rw [decide_eq_false h, beq_eq_false_iff_ne]; omega
            clear hpe
            refine wp_region_noPanic ?_
            refine wp_region_held_drew (S := fun w' => w'.cell? ⟨w.heap.size, 0, none⟩ = some (.int .i64 (up : Int)) ∧ w'.cell? ⟨w.heap.size, 1, none⟩ = some (.string s) ∧ w'.cell? ⟨d, 0, none⟩ = some (.int .i64 L)) (by kernel_rfl) ?_ (fun hHeld => ?_)
            · exact ⟨v0, v1, v2⟩
            refine' wpAnyH_take (i := 0) (oi := _) (v := _) ?h1c0 ?h2c0 ?h3c0 ?h4c0 ?h5c0 ?h6c0 (by assumption) ?h8c0
            case h1c0 => (set_option linter.unusedSimpArgs false in simp only [List.getElem?_toArray, List.getElem?_cons_zero, List.getElem?_cons_succ]; rfl)
            case h2c0 => kernel_rfl
            case h3c0 => kernel_rfl
            case h4c0 => kernel_rfl
            case h5c0 => exact fun _ _ _ h => False.elim h
            case h6c0 => (refine Or.inl ⟨by rfl, ?_⟩; intro w hSw; (try dsimp only at hSw); go_simp; (try with_reducible rfl))
            try set_option linter.unusedSimpArgs false in simp only [Act.put, List.setIfInBounds_toArray, List.set_cons_zero, List.set_cons_succ]
            refine' wpAnyH_take (i := 1) (oi := _) (v := _) ?h1c1 ?h2c1 ?h3c1 ?h4c1 ?h5c1 ?h6c1 (by assumption) ?h8c1
            case h1c1 => (set_option linter.unusedSimpArgs false in simp only [List.getElem?_toArray, List.getElem?_cons_zero, List.getElem?_cons_succ]; rfl)
            case h2c1 => kernel_rfl
            case h3c1 => kernel_rfl
            case h4c1 => kernel_rfl
            case h5c1 => exact fun _ _ _ h => False.elim h
            case h6c1 => (refine Or.inl ⟨by rfl, ?_⟩; intro w hSw; (try dsimp only at hSw); go_simp; (try with_reducible rfl))
            try set_option linter.unusedSimpArgs false in simp only [Act.put, List.setIfInBounds_toArray, List.set_cons_zero, List.set_cons_succ]
            refine' wpAnyH_take (i := 2) (oi := _) (v := _) ?h1c2 ?h2c2 ?h3c2 ?h4c2 ?h5c2 ?h6c2 (by assumption) ?h8c2
            case h1c2 => (set_option linter.unusedSimpArgs false in simp only [List.getElem?_toArray, List.getElem?_cons_zero, List.getElem?_cons_succ]; rfl)
            case h2c2 => kernel_rfl
            case h3c2 => kernel_rfl
            case h4c2 => kernel_rfl
            case h5c2 => exact fun _ _ _ h => False.elim h
            case h6c2 => (refine Or.inl ⟨by rfl, ?_⟩; intro w hSw; (try dsimp only at hSw); go_simp; (try with_reducible rfl))
            try set_option linter.unusedSimpArgs false in simp only [Act.put, List.setIfInBounds_toArray, List.set_cons_zero, List.set_cons_succ]
            refine' wpAnyH_take (i := 3) (oi := _) (v := _) ?h1c3 ?h2c3 ?h3c3 ?h4c3 ?h5c3 ?h6c3 (by assumption) ?h8c3
            case h1c3 => (set_option linter.unusedSimpArgs false in simp only [List.getElem?_toArray, List.getElem?_cons_zero, List.getElem?_cons_succ]; rfl)
            case h2c3 => kernel_rfl
            case h3c3 => kernel_rfl
            case h4c3 => kernel_rfl
            case h5c3 => exact fun _ _ _ h => False.elim h
            case h6c3 => (refine Or.inl ⟨by rfl, ?_⟩; intro w hSw; (try dsimp only at hSw); go_simp; (try with_reducible rfl))
            try set_option linter.unusedSimpArgs false in simp only [Act.put, List.setIfInBounds_toArray, List.set_cons_zero, List.set_cons_succ]
            refine' wpAnyH_take (i := 4) (oi := _) (v := _) ?h1c4 ?h2c4 ?h3c4 ?h4c4 ?h5c4 ?h6c4 (by assumption) ?h8c4
            case h1c4 => (set_option linter.unusedSimpArgs false in simp only [List.getElem?_toArray, List.getElem?_cons_zero, List.getElem?_cons_succ]; rfl)
            case h2c4 => kernel_rfl
            case h3c4 => kernel_rfl
            case h4c4 => kernel_rfl
            case h5c4 => exact fun _ _ _ h => False.elim h
            case h6c4 => (refine Or.inl ⟨by rfl, ?_⟩; intro w hSw; (try dsimp only at hSw); go_simp; (try with_reducible rfl))
            try set_option linter.unusedSimpArgs false in simp only [Act.put, List.setIfInBounds_toArray, List.set_cons_zero, List.set_cons_succ]
            refine' wpAnyH_take (i := 6) (oi := _) (v := _) ?h1c6 ?h2c6 ?h3c6 ?h4c6 ?h5c6 ?h6c6 (by assumption) ?h8c6
            case h1c6 => (set_option linter.unusedSimpArgs false in simp only [List.getElem?_toArray, List.getElem?_cons_zero, List.getElem?_cons_succ]; rfl)
            case h2c6 => kernel_rfl
            case h3c6 => kernel_rfl
            case h4c6 => kernel_rfl
            case h5c6 => exact fun _ _ _ h => False.elim h
            case h6c6 => (refine Or.inl ⟨by rfl, ?_⟩; intro w hSw; (try dsimp only at hSw); go_simp; (try with_reducible rfl))
            try set_option linter.unusedSimpArgs false in simp only [Act.put, List.setIfInBounds_toArray, List.set_cons_zero, List.set_cons_succ]
            refine' wpAnyH_take (i := 7) (oi := _) (v := _) ?h1c7 ?h2c7 ?h3c7 ?h4c7 ?h5c7 ?h6c7 (by assumption) ?h8c7
            case h1c7 => (set_option linter.unusedSimpArgs false in simp only [List.getElem?_toArray, List.getElem?_cons_zero, List.getElem?_cons_succ]; rfl)
            case h2c7 => kernel_rfl
            case h3c7 => kernel_rfl
            case h4c7 => kernel_rfl
            case h5c7 => exact fun _ _ _ h => False.elim h
            case h6c7 => (refine Or.inl ⟨by rfl, ?_⟩; intro w hSw; (try dsimp only at hSw); go_simp; (try with_reducible rfl))
            try set_option linter.unusedSimpArgs false in simp only [Act.put, List.setIfInBounds_toArray, List.set_cons_zero, List.set_cons_succ]
            refine' wpAnyH_take (i := 8) (oi := _) (v := _) ?h1c8 ?h2c8 ?h3c8 ?h4c8 ?h5c8 ?h6c8 (by assumption) ?h8c8
            case h1c8 => (set_option linter.unusedSimpArgs false in simp only [List.getElem?_toArray, List.getElem?_cons_zero, List.getElem?_cons_succ]; rfl)
            case h2c8 => kernel_rfl
            case h3c8 => kernel_rfl
            case h4c8 => kernel_rfl
            case h5c8 => exact fun _ _ _ h => False.elim h
            case h6c8 => (refine Or.inl ⟨by rfl, ?_⟩; intro w hSw; (try dsimp only at hSw); go_simp; (try with_reducible rfl))
            try set_option linter.unusedSimpArgs false in simp only [Act.put, List.setIfInBounds_toArray, List.set_cons_zero, List.set_cons_succ]
            refine' wpAnyH_take (i := 9) (oi := _) (v := _) ?h1c9 ?h2c9 ?h3c9 ?h4c9 ?h5c9 ?h6c9 (by assumption) ?h8c9
            case h1c9 => (set_option linter.unusedSimpArgs false in simp only [List.getElem?_toArray, List.getElem?_cons_zero, List.getElem?_cons_succ]; rfl)
            case h2c9 => kernel_rfl
            case h3c9 => kernel_rfl
            case h4c9 => kernel_rfl
            case h5c9 => exact fun _ _ _ h => False.elim h
            case h6c9 => (refine Or.inl ⟨by rfl, ?_⟩; intro w hSw; (try dsimp only at hSw); go_simp; (try with_reducible rfl))
            try set_option linter.unusedSimpArgs false in simp only [Act.put, List.setIfInBounds_toArray, List.set_cons_zero, List.set_cons_succ]
            refine wpAnyH_ready (rs := [5]) (by kernel_rfl) (by simp) ?_
            refine AllReadyH.cons rfl (fun K hK => ?_) AllReadyH.nil
            go_simp
            refine (HSL.out _ (HB4.out.trans ((Below.refl _ _).drew))).mono ?_; rintro e w5 ⟨rfl, hb5⟩; have r0 := cellK hb5 (World.block_lt_of_cell? w4 _ v0) v0; have r1 := cellK hb5 (World.block_lt_of_cell? w4 _ v1) v1; have r2 := cellK hb5 (World.block_lt_of_cell? w4 _ v2) v2; have HB5 := hid ((HB4.out.trans ((Below.refl w.heap.size w4).drew)).trans (hb5.mono HB4.out.size)); clear hb5; simp only []
            refine hK.out _ _ ?_ (fun hHeld => ?_)
            · exact ⟨r0, r1, r2⟩
            clear hK K
            try set_option linter.unusedSimpArgs false in simp only [Act.put, List.setIfInBounds_toArray, List.set_cons_zero, List.set_cons_succ]
            refine' wpAnyH_take (i := 10) (oi := _) (v := _) ?h1c10 ?h2c10 ?h3c10 ?h4c10 ?h5c10 ?h6c10 (by assumption) ?h8c10
            case h1c10 => (set_option linter.unusedSimpArgs false in simp only [List.getElem?_toArray, List.getElem?_cons_zero, List.getElem?_cons_succ]; rfl)
            case h2c10 => kernel_rfl
            case h3c10 => kernel_rfl
            case h4c10 => kernel_rfl
            case h5c10 => exact fun _ _ _ h => False.elim h
            case h6c10 => (refine Or.inl ⟨by rfl, ?_⟩; intro w hSw; (try dsimp only at hSw); go_simp; (try with_reducible rfl))
            try set_option linter.unusedSimpArgs false in simp only [Act.put, List.setIfInBounds_toArray, List.set_cons_zero, List.set_cons_succ]
            refine' wpAnyH_take (i := 11) (oi := _) (v := _) ?h1c11 ?h2c11 ?h3c11 ?h4c11 ?h5c11 ?h6c11 (by assumption) ?h8c11
            case h1c11 => (set_option linter.unusedSimpArgs false in simp only [List.getElem?_toArray, List.getElem?_cons_zero, List.getElem?_cons_succ]; rfl)
            case h2c11 => kernel_rfl
            case h3c11 => kernel_rfl
            case h4c11 => kernel_rfl
            case h5c11 => exact fun _ _ _ h => False.elim h
            case h6c11 => (refine Or.inl ⟨by rfl, ?_⟩; intro w hSw; (try dsimp only at hSw); go_simp; (try with_reducible rfl))
            try set_option linter.unusedSimpArgs false in simp only [Act.put, List.setIfInBounds_toArray, List.set_cons_zero, List.set_cons_succ]
            refine' wpAnyH_take (i := 12) (oi := _) (v := _) ?h1c12 ?h2c12 ?h3c12 ?h4c12 ?h5c12 ?h6c12 (by assumption) ?h8c12
            case h1c12 => (set_option linter.unusedSimpArgs false in simp only [List.getElem?_toArray, List.getElem?_cons_zero, List.getElem?_cons_succ]; rfl)
            case h2c12 => kernel_rfl
            case h3c12 => kernel_rfl
            case h4c12 => kernel_rfl
            case h5c12 => exact fun _ _ _ h => False.elim h
            case h6c12 => (refine Or.inl ⟨by rfl, ?_⟩; intro w hSw; (try dsimp only at hSw); go_simp; (try with_reducible rfl))
            try set_option linter.unusedSimpArgs false in simp only [Act.put, List.setIfInBounds_toArray, List.set_cons_zero, List.set_cons_succ]
            refine' wpAnyH_take (i := 13) (oi := _) (v := _) ?h1c13 ?h2c13 ?h3c13 ?h4c13 ?h5c13 ?h6c13 (by assumption) ?h8c13
            case h1c13 => (set_option linter.unusedSimpArgs false in simp only [List.getElem?_toArray, List.getElem?_cons_zero, List.getElem?_cons_succ]; rfl)
            case h2c13 => kernel_rfl
            case h3c13 => kernel_rfl
            case h4c13 => kernel_rfl
            case h5c13 => exact fun _ _ _ h => False.elim h
            case h6c13 => (refine Or.inl ⟨by rfl, ?_⟩; intro w hSw; (try dsimp only at hSw); go_simp; (try with_reducible rfl))
            try set_option linter.unusedSimpArgs false in simp only [Act.put, List.setIfInBounds_toArray, List.set_cons_zero, List.set_cons_succ]
            refine' wpAnyH_take (i := 14) (oi := _) (v := _) ?h1c14 ?h2c14 ?h3c14 ?h4c14 ?h5c14 ?h6c14 (by assumption) ?h8c14
            case h1c14 => (set_option linter.unusedSimpArgs false in simp only [List.getElem?_toArray, List.getElem?_cons_zero, List.getElem?_cons_succ]; rfl)
            case h2c14 => kernel_rfl
            case h3c14 => kernel_rfl
            case h4c14 => kernel_rfl
            case h5c14 => exact fun _ _ _ h => False.elim h
            case h6c14 => (refine Or.inl ⟨by rfl, ?_⟩; intro w hSw; (try dsimp only at hSw); go_simp; (try with_reducible rfl))
            try set_option linter.unusedSimpArgs false in simp only [Act.put, List.setIfInBounds_toArray, List.set_cons_zero, List.set_cons_succ]
            refine' wpAnyH_take (i := 15) (oi := _) (v := _) ?h1c15 ?h2c15 ?h3c15 ?h4c15 ?h5c15 ?h6c15 (by assumption) ?h8c15
            case h1c15 => (set_option linter.unusedSimpArgs false in simp only [List.getElem?_toArray, List.getElem?_cons_zero, List.getElem?_cons_succ]; rfl)
            case h2c15 => kernel_rfl
            case h3c15 => kernel_rfl
            case h4c15 => kernel_rfl
            case h5c15 => exact fun _ _ _ h => False.elim h
            case h6c15 => (refine Or.inl ⟨by rfl, ?_⟩; intro w hSw; (try dsimp only at hSw); go_simp; (try with_reducible rfl))
            try set_option linter.unusedSimpArgs false in simp only [Act.put, List.setIfInBounds_toArray, List.set_cons_zero, List.set_cons_succ]
            refine' wpAnyH_take (i := 16) (oi := _) (v := _) ?h1c16 ?h2c16 ?h3c16 ?h4c16 ?h5c16 ?h6c16 (by assumption) ?h8c16
            case h1c16 => (set_option linter.unusedSimpArgs false in simp only [List.getElem?_toArray, List.getElem?_cons_zero, List.getElem?_cons_succ]; rfl)
            case h2c16 => kernel_rfl
            case h3c16 => kernel_rfl
            case h4c16 => kernel_rfl
            case h5c16 => exact fun _ _ _ h => False.elim h
            case h6c16 => (refine Or.inl ⟨by rfl, ?_⟩; intro w hSw; (try dsimp only at hSw); go_simp; (try with_reducible rfl))
            try set_option linter.unusedSimpArgs false in simp only [Act.put, List.setIfInBounds_toArray, List.set_cons_zero, List.set_cons_succ]
            refine' wpAnyH_take (i := 17) (oi := _) (v := _) ?h1c17 ?h2c17 ?h3c17 ?h4c17 ?h5c17 ?h6c17 (by assumption) ?h8c17
            case h1c17 => (set_option linter.unusedSimpArgs false in simp only [List.getElem?_toArray, List.getElem?_cons_zero, List.getElem?_cons_succ]; rfl)
            case h2c17 => kernel_rfl
            case h3c17 => kernel_rfl
            case h4c17 => kernel_rfl
            case h5c17 => exact fun _ _ _ h => False.elim h
            case h6c17 => (refine Or.inl ⟨by rfl, ?_⟩; intro w hSw; (try dsimp only at hSw); go_simp; (try with_reducible rfl))
            try set_option linter.unusedSimpArgs false in simp only [Act.put, List.setIfInBounds_toArray, List.set_cons_zero, List.set_cons_succ]
            refine' wpAnyH_take (i := 18) (oi := _) (v := _) ?h1c18 ?h2c18 ?h3c18 ?h4c18 ?h5c18 ?h6c18 (by assumption) ?h8c18
            case h1c18 => (set_option linter.unusedSimpArgs false in simp only [List.getElem?_toArray, List.getElem?_cons_zero, List.getElem?_cons_succ]; rfl)
            case h2c18 => kernel_rfl
            case h3c18 => kernel_rfl
            case h4c18 => kernel_rfl
            case h5c18 => exact fun _ _ _ h => False.elim h
            case h6c18 => (refine Or.inl ⟨by rfl, ?_⟩; intro w hSw; (try dsimp only at hSw); go_simp; (try with_reducible rfl))
            try set_option linter.unusedSimpArgs false in simp only [Act.put, List.setIfInBounds_toArray, List.set_cons_zero, List.set_cons_succ]
            refine wpAnyH_done (by kernel_rfl) ?_ _
            refine NoPanic.normal ?_
            go_wp2
            go_ret
            exact ⟨by rw [HNX5.out]; rfl, HB5.out⟩
  · rw [show decide (x ≠ 0) = true by simpa using hx] at hlook
    have hnx := HNX.out
    rw [decide_eq_false hx, Bool.false_and] at hnx
    clear HNX
    have HNX := hid hnx; clear hnx
    go_wp2
    go_quiet (fail)
    go_wp2
    go_quiet (fail)
    go_wp2
    go_ret
    exact ⟨by rw [HNX.out]; rfl, (by repeat' first | with_reducible exact Below.refl _ _ | assumption | (with_reducible refine Below.alloc ?_ ?_ _) | (with_reducible refine Below.setCell ?_ ?_ _) | (with_reducible refine Below.drew ?_) | (with_reducible refine below_drewN ?_ _) | (with_reducible refine Below.trans ?_ (Below.mono ‹_› ?_)) | omega | (with_reducible refine le_alloc ?_) | (with_reducible refine le_setCell ?_) | (with_reducible refine le_drew ?_) | (with_reducible refine le_drewN ?_) | (with_reducible refine Nat.le_trans ?_ (Below.size ‹_›)) | (simp <;> omega))⟩
end Go.Proofs.Ytbledkffkckjbaa
