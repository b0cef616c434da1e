/- The walk of WireOwns. -/
import Derived.Test.YtekngocjojfomaaWireWalks2
namespace Go.Proofs.Ytekngocjojfomaa
open Go.ChangeShapes Go.WideShapes Go.ChangeAt Go.RowKit
set_option linter.unusedVariables false

theorem RW.below {w w' : World} {B p a : Nat} {l : List UInt8} {e : Int} (h : RW w B p l a e) (hb : Below w.heap.size w w') : RW w' B p l a e := by
  have hlt := h.lt
  obtain ⟨h1, h2, h3, h4, s, h5, h6, h7, h8⟩ := h
  exact ⟨h1, h2, h3, fun i hi => frozenK hb hlt (h4 i hi), s, cellK hb hlt h5, cellK hb hlt h6, cellK hb hlt h7, h8.below (hb.mono (by omega))⟩
/-- The reader's bytes lie from N on. -/
def Apart (w : World) (p N : Nat) : Prop := ∀ b off n c, w.cell? ⟨p, 0, none⟩ = some (.slice (some ⟨b, off, none⟩) n c) → N ≤ b
theorem RW.apart {w w' : World} {B p q N a : Nat} {l : List UInt8} {e : Int} (h : RW w B p l a e) (ha : Apart w p N) (hu : Upd q w w') (hne : p ≠ q) (hq : q < N) : RW w' B p l a e := by
  have hlt := h.lt
  obtain ⟨h1, h2, h3, h4, s, h5, h6, h7, h8⟩ := h
  have hc : ∀ b i, b < w.heap.size → b ≠ q → w'.cell? ⟨b, i, none⟩ = w.cell? ⟨b, i, none⟩ := fun b i hb hbq => World.grownBy.cell_far hu _ hb (fun h => hbq (by injection h))
  refine ⟨h1, h2, h3, fun i hi => ?_, s, (hc _ _ hlt hne).trans h5, (hc _ _ hlt hne).trans h6, (hc _ _ hlt hne).trans h7, ?_⟩
  · rw [World.grownBy.frozen_far hu _ hlt (fun h => hne (by injection h))]; exact h4 i hi
  · obtain ⟨A, c, g1, g2, g3, g4⟩ := h8
    subst g1
    refine ⟨A, c, rfl, g2, g3, fun h0 => ?_⟩
    obtain ⟨b, off, g5, g6, g7⟩ := g4 h0
    subst g5
    have := ha b off _ _ h5
    exact ⟨b, off, rfl, g6, fun j u hj => (hc _ _ (by omega) (by omega)).trans (g7 j u hj)⟩
theorem Apart.upd {w w' : World} {p q N : Nat} (ha : Apart w p N) (hp : p < w.heap.size) (hu : Upd q w w') (hne : p ≠ q) : Apart w' p N := by
  intro b off n c h
  rw [World.grownBy.cell_far hu _ hp (fun h => hne (by injection h))] at h
  exact ha b off n c h
theorem Apart.below {w w' : World} {p N : Nat} (ha : Apart w p N) (hp : p < w.heap.size) (hb : Below w.heap.size w w') : Apart w' p N := by
  intro b off n c h
  rw [hb.cell (p := ⟨p, 0, none⟩) hp] at h
  exact ha b off n c h
def NewPost2 (l : List UInt8) (w : World) (e : Ending) (w' : World) : Prop := ∃ p, e = .returned (.pointer (some ⟨p, 0, none⟩)) ∧ RW w' p p l 0 0 ∧ w.heap.size ≤ p ∧ Apart w' p w.heap.size ∧ Below w.heap.size w w'
set_option maxHeartbeats 400000 in
theorem new2_any (v : Value) (l : List UInt8) (w : World) (hv : Sl w w.heap.size v (bvals l)) (hl : l.length ≤ 140737488355328) :
    Calls Try.prog 41 #[v] w (NewPost2 l w) := by
  have hc := clone_any v l w hv hl
  have HC := hid hc
  clear hc hv
  go_enter Try.func41, Try.ntmps41
  go_wp2_with fail
  refine HC.out.mono ?_
  rintro e w1 ⟨v1, rfl, hown, hb⟩
  have hs := Sl.of_bytes hown
  have hap : ∀ b off n c, v1 = .slice (some ⟨b, off, none⟩) n c → w.heap.size ≤ b := by
    rintro b off n c rfl
    exact (hown.lt b rfl).1
  obtain ⟨A, c, rfl, -, -, -⟩ := id hs
  simp only [bvals_len] at hs
  have HS := hid hs; have HB := hid hb; have HAP := hid hap
  clear hs hb hown hap
  go_wp2
  go_ret
  refine ⟨w1.heap.size, rfl, ?_, HB.out.size, ?_, HB.out.trans (bl1' HB.out.size _)⟩
  · refine ⟨Nat.le_refl _, by omega, hl, fun i hi => ?_, .slice A (bvals l).length c, by simp [go_sem], by simp [go_sem], by simp [go_sem], ?_⟩
    · simp [go_sem]
    · rw [bvals_len]; exact Sl.below HS.out (bl1 w1 _)
  · intro b off n c' h
    simp [go_sem] at h
    exact HAP.out b off _ _ (by rw [h.1])
/-- While the handed-in bytes are written over. -/
def OverRel (s : List UInt8) (A : Option Addr) (H N p q : Nat) (w : World) (i : Value) (wr : World) : Prop :=
  ∃ k : Nat, k ≤ s.length ∧ i = .int .i64 k ∧ RW wr p p s 0 0 ∧ RW wr H q s 0 0 ∧ Apart wr p N ∧ Below H w wr ∧ N ≤ wr.heap.size ∧
    (0 < s.length → ∃ g, A = some ⟨g, 0, none⟩ ∧ H ≤ g ∧ g < N ∧ ∀ j, j < s.length → (∃ u, wr.cell? ⟨g, j, none⟩ = some u) ∧ wr.frozen? ⟨g, j, none⟩ = false)
theorem own_cells {w : World} {base : Nat} {e : TypeId} {v : Value} {n : Nat} {xs : List Value} (h : w.ownsRow base e 1 v n xs) :
    ∃ A c, v = .slice A n c ∧ n ≤ c ∧ c ≤ maxLen ∧ (0 < n → ∃ g, A = some ⟨g, 0, none⟩ ∧ base ≤ g ∧ g < w.heap.size ∧ ∀ j, j < n → (∃ u, w.cell? ⟨g, j, none⟩ = some u) ∧ w.frozen? ⟨g, j, none⟩ = false) := by
  have hown := h
  obtain ⟨h1, h2⟩ := h
  rcases h2 with ⟨rfl, rfl⟩ | ⟨g, cap, cur, rfl, hbg, hg, hnc, hcm, hcs, htk⟩
  · exact ⟨none, 0, rfl, by omega, by simp [maxLen], fun h => by omega⟩
  · refine ⟨_, cap, rfl, hnc, hcm, fun h0 => ⟨g, rfl, hbg, (hown.lt g rfl).2, fun j hj => ?_⟩⟩
    have hc := hown.cellAt (g := g) j (by omega)
    refine ⟨⟨xs[j]'(by omega), by rw [hc]; exact List.getElem?_eq_getElem (by omega)⟩, ?_⟩
    exact hown.frozenAt j
/-- While nines are put behind. -/
def NineRel (s : List UInt8) (w : World) (v i : Value) (wr : World) : Prop :=
  ∃ k : Nat, k ≤ 30 ∧ i = .int .i64 k ∧ wr.ownsRow w.heap.size 5 1 v (s.length + k) (bvals (s ++ List.replicate k 9)) ∧ Below w.heap.size w wr
theorem nine_succ (s : List UInt8) (k : Nat) : bvals (s ++ List.replicate (k + 1) 9) = bvals (s ++ List.replicate k 9) ++ [.int .u8 9] := by
  rw [List.replicate_succ', ← List.append_assoc, bvals_app]; rfl
theorem nine_at (s : List UInt8) (k : Nat) (h1 : s.length ≤ k) (h2 : k < s.length + 30) : (bvals (s ++ List.replicate 30 9))[k]? = some (.int .u8 9) := by
  simp only [bvals, List.getElem?_map]
  rw [List.getElem?_append_right h1, List.getElem?_replicate, if_pos (by omega)]; rfl
theorem rw_mk {w : World} {H n c : Nat} {A : Option Addr} {s : List UInt8} {t : TypeId} (h : Sl w H (.slice A n c) (bvals s)) (hH : H ≤ w.heap.size) (hl : s.length ≤ 140737488355328) :
    RW (w.alloc (.cells #[.slice A n c, .int .i64 0, .int .i64 0] t)) H w.heap.size s 0 0 := by
  refine ⟨hH, by omega, hl, fun i hi => by simp [go_sem], _, by simp [go_sem]; rfl, by simp [go_sem], by simp [go_sem], ?_⟩
  exact Sl.below h ((Below.refl H w).alloc hH _)
set_option maxRecDepth 100000 in
set_option maxHeartbeats 1600000 in
theorem walk_WireOwns (w : World) (v : Value) (l : List UInt8) (hv : Sl w w.heap.size v (bvals l)) (hz : l.length ≤ maxLen) (n : Int) (hn : -9223372036854775808 ≤ n ∧ n ≤ 9223372036854775807) :
    Calls Try.prog 14 #[v, .int .i64 n] w (Gives (.bool true) w) := by
  obtain ⟨i0, hi, hz0, hz1, hz2⟩ := info_parts info_byte
  have hl : (l.take 60).length ≤ 60 := by rw [List.length_take]; omega
  have f1 := few_any v l 60 w (by omega) hv
  unfold FewPost at f1
  generalize l.take 60 = s at *
  have n1 := fun v W h => new2_any v s W h (by omega)
  have F1 := hid f1; have N1 := hid n1; clear f1 n1 hv hz
  go_enter Try.func14, Try.ntmps14
  go_wp2_with fail
  refine F1.out.mono ?_
  rintro en w1 ⟨v1, rfl, h1, rfl⟩
  obtain ⟨A1, c1, rfl, hc1, hcm1⟩ := h1.form
  have H1 := hid h1; clear h1
  unfold maxLen at hcm1
  go_wp2_with (at_builtin; refine stop_here ?_)
  refine go_on ?_
  refine app_own (.tmp 15) (.tmp 16) 49 49 rfl rfl w.heap.size 5 i0 (.int .u8 0) 1 1 Try.underlying49 hi hz0 hz1 hz2 rfl (by omega) _ 0 [] rfl (World.ownsRow_nil _ _ _ _) _ s.length (bvals s) rfl (by have := src_sl _ Try.underlying49 H1.out (bvals_one s); rwa [bvals_len] at this) (by simp [maxLen]; omega) (by omega) (Nat.le_refl _) ?_
  intro vo w1 ho1 hg1 hb1
  rw [Nat.zero_add, List.nil_append] at ho1
  have hs1 := Sl.of_own ho1
  obtain ⟨A, c, rfl, hc, hcm, hA⟩ := own_cells ho1
  unfold maxLen at hcm
  have HA := hid hA; have S1 := hid hs1; have B1 := hid hb1; clear hA hs1 ho1 hg1 hb1
  go_wp2_with fail
  refine (N1.out _ _ S1.out).mono ?_
  rintro en w2 ⟨p, rfl, hr, hp, hap, hb2⟩
  have hpl := hr.lt
  have HR := hid hr; have HAP := hid hap; have B2 := hid hb2; clear hr hap hb2
  have hH1 := B1.out.size
  have hR1 := hid (HR.out.below (bl1 w2 (.cells #[.slice A1 s.length c1, .int .i64 0, .int .i64 0] 62)))
  have hH2 : w.heap.size ≤ w2.heap.size := by omega
  have hX1 := hid (rw_mk (t := 62) ((H1.out.below B1.out).below (B2.out.mono hH1)) hH2 (by omega))
  have hAP1 := hid (HAP.out.below hpl (bl1 w2 (.cells #[.slice A1 s.length c1, .int .i64 0, .int .i64 0] 62)))
  have hB2 := hid ((B1.out.trans (B2.out.mono hH1)).alloc hH2 (.cells #[.slice A1 s.length c1, .int .i64 0, .int .i64 0] 62))
  have hCL := hid (show 0 < s.length → ∃ g, A = some ⟨g, 0, none⟩ ∧ w.heap.size ≤ g ∧ g < w1.heap.size ∧ ∀ j, j < s.length → (∃ u, (w2.alloc (.cells #[.slice A1 s.length c1, .int .i64 0, .int .i64 0] 62)).cell? ⟨g, j, none⟩ = some u) ∧ (w2.alloc (.cells #[.slice A1 s.length c1, .int .i64 0, .int .i64 0] 62)).frozen? ⟨g, j, none⟩ = false by
    intro h0
    obtain ⟨g, e1, e2, e3, e4⟩ := HA.out h0
    refine ⟨g, e1, e2, e3, fun j hj => ?_⟩
    obtain ⟨⟨u, hu⟩, hf⟩ := e4 j hj
    exact ⟨⟨u, cell_alloc (by omega) (cellK B2.out e3 hu)⟩, frozen_alloc (by omega) (frozenK B2.out e3 hf)⟩)
  clear HR HAP
  go_wp2
  go_loopw [8] (fun i wr => OverRel s A w.heap.size w1.heap.size p w2.heap.size w i wr) (fun i _ => s.length - (intOf i).toNat)
  case atStart => exact ⟨0, by omega, rfl, hR1.out, hX1.out, hAP1.out, hB2.out, by simp; omega, hCL.out⟩
  case round =>
    obtain ⟨k, hk, rfl, hr, hx, hap, hbw, hsz, hcl⟩ := hrel
    have HR := hid hr; have HX := hid hx; have HAP := hid hap; have HBW := hid hbw; have HCL := hid hcl
    have hpw := hr.lt
    clear hr hx hap hbw hcl
    by_cases hlt : k < s.length
    · obtain ⟨g, rfl, hg1, hg2, hcl⟩ := HCL.out (by omega)
      obtain ⟨⟨u, hcell⟩, hfr⟩ := hcl k hlt
      have HC := hid hcl; clear hcl
      go_wp2
      go_roundw
      case rel =>
        have hu := Upd.setCell g k wr (.int .u8 7)
        refine ⟨k + 1, by omega, by go_num, HR.out.apart HAP.out hu (by omega) hg2, HX.out.far hu hg1 (by omega), HAP.out.upd hpw hu (by omega), HBW.out.setCell hg1 _, le_setCell hsz, fun h0 => ⟨g, rfl, hg1, hg2, fun j hj => ?_⟩⟩
        obtain ⟨⟨u', h1⟩, h2⟩ := HC.out j hj
        refine ⟨?_, frozen_far h2⟩
        by_cases hjk : k = j
        · subst hjk; exact ⟨_, cell_here h1⟩
        · exact ⟨_, cell_beside hjk h1⟩
      case measure => simp [intOf]; omega
    · obtain ⟨wo, rfl⟩ : ∃ wo : World, wo = wr := ⟨_, rfl⟩
      have hH3 : w.heap.size ≤ wo.heap.size := by omega
      go_wp2_with (at_builtin; refine stop_here ?_)
      refine go_on ?_
      refine app_own (.tmp 34) (.tmp 35) 49 49 rfl rfl wo.heap.size 5 i0 (.int .u8 0) 1 1 Try.underlying49 hi hz0 hz1 hz2 rfl (by omega) _ 0 [] rfl (World.ownsRow_nil _ _ _ _) _ s.length (bvals s) rfl (by have := src_sl _ Try.underlying49 (H1.out.below HBW.out) (bvals_one s); rwa [bvals_len] at this) (by simp [maxLen]; omega) (by omega) (Nat.le_refl _) ?_
      intro vl w3 hol hgl hbl
      rw [Nat.zero_add, List.nil_append] at hol
      have HOL := hid hol; have HBL := hid hbl; clear hol hgl hbl
      go_wp2
      go_loopw [9, 10] (fun v i wr => NineRel s wo v i wr) (fun _ i _ => 30 - (intOf i).toNat)
      case atStart => exact ⟨0, by omega, rfl, by simpa using HOL.out, HBL.out⟩
      case round =>
        obtain ⟨m, hm, rfl, how, hbx⟩ := hrel
        have HOX := hid how; have HBX := hid hbx; clear how hbx
        by_cases hlm : m < 30
        · go_wp2_with (at_builtin; refine stop_here ?_)
          refine go_on ?_
          refine app_own (.tmp 41) (.tmp 42) 49 49 rfl rfl wo.heap.size 5 i0 (.int .u8 0) 1 1 Try.underlying49 hi hz0 hz1 hz2 rfl (by omega) _ _ _ rfl (HOX.out.alloc _) (.slice (some ⟨wr.heap.size, 0, none⟩) 1 1) 1 [_] rfl (Src.ofSlice _ Try.underlying49 _ 1 1 _ rfl (cell_one_new _ _ _) (by simp; rfl)) (by unfold maxLen; omega) (by omega) (by have := HBX.out.size; simp; omega) ?_
          intro v4 w4 ho4 hg4 hb4
          have HO4 := hid ho4; have HB4 := hid ((HBX.out.alloc HBX.out.size _).trans hb4); clear ho4 hg4 hb4
          go_wp2
          go_roundw
          case rel => exact ⟨m + 1, by omega, by go_num, by rw [nine_succ]; exact HO4.out, HB4.out⟩
          case measure => simp [intOf]; omega
        · obtain rfl : m = 30 := by omega
          have hsl := Sl.of_own HOX.out
          have hn30 := nine_at s
          obtain ⟨Al, cl, hvl, hcl1, hcl2, hAl⟩ := id hsl
          subst hvl
          have hll : (bvals (s ++ List.replicate 30 9)).length = s.length + 30 := by simp [bvals]
          rw [hll] at hsl hcl1 hAl ⊢
          have hsp := Sl.head s.length hsl (by omega)
          rw [show (bvals (s ++ List.replicate 30 9)).take s.length = bvals s by
            rw [bvals_app, List.take_left' (bvals_len s)]] at hsp
          generalize List.replicate 30 (9 : UInt8) = nines at *
          have p1 := putInt_any _ s n wr hsp (by omega) hn.1 hn.2
          have p2 := fun W h => putText_any (.slice Al s.length cl) s ⟨#[97, 98]⟩ W h (by show s.length + 2 + 10 ≤ _; omega)
          have P1 := hid p1; have P2 := hid p2; have HSP := hid hsp; have HAL := hid hAl; have HN30 := hid hn30
          clear p1 p2 hsp hAl hn30 hsl hn hll
          have RX := hid ((HR.out.below (HBX.out.mono (Nat.le_refl _))))
          have XX := hid ((HX.out.below (HBX.out.mono (Nat.le_refl _))))
          unfold maxLen at hcl2
          go_wp2_with fail
          refine P1.out.mono ?_
          rintro en w5 ⟨v5, rfl, -, hb5⟩
          have B5 := hid hb5; clear hb5
          go_wp2_with fail
          refine (P2.out _ ((HSP.out.below B5.out).more B5.out.size)).mono ?_
          rintro en w6 ⟨v6, rfl, -, hb6⟩
          have B6 := hid (B5.out.trans (hb6.mono B5.out.size)); clear hb6
          have RY := hid (RX.out.below B6.out)
          have XY := hid (XX.out.below B6.out)
          have T1 := hid (readText_any p p s 0 0 100 w6 RY.out)
          have T2 := hid (fun W h => refReadText_any w.heap.size w2.heap.size s 0 0 100 W h)
          have hqp : w2.heap.size ≠ p := by omega
          unfold RTextPost at T1 T2
          generalize (rText s 0 0 100).1.toArray = tb at *
          go_wp2
          go_loop [12] (fun i => ∃ k : Nat, s.length ≤ k ∧ k ≤ s.length + 30 ∧ i = .int .i64 k) (fun i => s.length + 30 - (intOf i).toNat)
          case atStart => exact ⟨s.length, by omega, by omega, rfl⟩
          case round =>
            obtain ⟨k, hk1, hk2, rfl⟩ := hrel
            by_cases hkl : k < s.length + 30
            · obtain ⟨b, off, rfl, hbl, hcl⟩ := HAL.out (by omega)
              have hcell := cellK B6.out hbl (hcl k _ (HN30.out k hk1 hkl))
              clear hcl
              go_wp2
              go_round
              case rel => exact ⟨k + 1, by omega, by omega, by go_num⟩
              case measure => simp [intOf]; omega
            · go_wp2_with fail
              refine T1.out.mono ?_
              rintro en w7 ⟨rfl, -, hu7⟩
              have U7 := hid hu7; clear hu7
              go_wp2_with fail
              refine (T2.out _ (XY.out.far U7.out (by omega) hqp)).mono ?_
              rintro en w8 ⟨rfl, -, hu8⟩
              have U8 := hid hu8; clear hu8
              go_wp2_with fail
              refine (livesW_true _).mono ?_
              rintro en w9 ⟨rfl, hb9⟩
              go_wp2
              go_ret
              have k1 := hid (HBW.out.trans (HBX.out.mono hH3))
              have k2 := k1.out.trans (B6.out.mono k1.out.size)
              have k3 := k2.trans (U7.out.below (B := w.heap.size) (by omega) RY.out.lt)
              have k4 := k3.trans (U8.out.below (B := w.heap.size) hH2 (XY.out.far U7.out (by omega) hqp).lt)
              exact ⟨rfl, k4.trans (hb9.mono k4.size)⟩
end Go.Proofs.Ytekngocjojfomaa
