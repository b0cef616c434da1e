/- The program's dictionary: Path whatever the number, size, Up, Code. -/
import Derived.Test.YtbledkffkckjbaaDict2
namespace Go.Proofs.Ytbledkffkckjbaa
open Go.ChangeShapes Go.WideShapes Go.ChangeAt Go.RowKit Go.Maps
set_option linter.unusedVariables false

theorem pathD_out (D : Nat → Prop) (d : Nat) (L : Int) (ns : List DNode) (c : Int) (w : World) (h : DictW w D d L ns) (hc : c < 0 ∨ (ns.length : Int) < c) :
    Calls Try.prog 18 #[.pointer (some ⟨d, 0, none⟩), .int .i64 c] w (PathDPost [] 33 w) := by
  have HL := hid (lenD_any D d L ns w h)
  by_cases h0 : c < 0
  · clear hc h
    go_enter Try.func18, Try.ntmps18
    go_wp2_with fail
    refine wp_scope_jumps 0 (fun _ _ => False) (fun _ _ => 0) rfl ?_ (fun _ _ h => h.elim)
    go_wp2
    simp only [Exit.jump]
    go_ret2
    exact ⟨_, rfl, World.ownsRow_nil _ _ _ _, Below.refl _ _⟩
  · have h1 : (ns.length : Int) < c := by omega
    clear hc h
    go_enter Try.func18, Try.ntmps18
    go_wp2_with fail
    refine wp_scope_jumps 0 (fun _ _ => False) (fun _ _ => 0) rfl ?_ (fun _ _ h => h.elim)
    go_wp2_with fail
    refine HL.out.mono ?_
    rintro e w1 ⟨rfl, hq1⟩
    go_wp2
    simp only [Exit.jump]
    go_ret2
    exact ⟨_, rfl, World.ownsRow_nil _ _ _ _, hq1.below _⟩
/-- The path and the error that Path tells. -/
def pathDR (ns : List DNode) (c : Int) : List ByteArray × Int := if c < 0 ∨ (ns.length : Int) < c then ([], 33) else (pathOf ns c.toNat, 0)
theorem pathD_any (D : Nat → Prop) (d : Nat) (L : Int) (ns : List DNode) (c : Int) (w : World) (h : DictW w D d L ns) (hi : DInv ns) (hl : ns.length ≤ 1000) :
    Calls Try.prog 18 #[.pointer (some ⟨d, 0, none⟩), .int .i64 c] w (PathDPost (pathDR ns c).1 (pathDR ns c).2 w) := by
  by_cases hc : c < 0 ∨ (ns.length : Int) < c
  · unfold pathDR; rw [if_pos hc]; exact pathD_out D d L ns c w h hc
  · unfold pathDR; rw [if_neg hc]
    obtain ⟨k, rfl⟩ := Int.eq_ofNat_of_zero_le (show 0 ≤ c by omega)
    exact pathD_in D d L ns k w h hi hl (by omega)
theorem sizeD_any (D : Nat → Prop) (d : Nat) (L : Int) (ns : List DNode) (c : Nat) (w : World) (h : DictW w D d L ns) (hi : DInv ns) (hl : ns.length ≤ 1000) (hc : c ≤ ns.length) :
    Calls Try.prog 46 #[.pointer (some ⟨d, 0, none⟩), .int .i64 (c : Int)] w (Gives (.int .i64 ((pathOf ns c).length : Nat)) w) := by
  have HP := hid (pathD_in D d L ns c w h hi hl hc)
  clear h hi hc
  go_enter Try.func46, Try.ntmps46
  go_wp2_with fail
  refine HP.out.mono ?_
  rintro e w1 ⟨v, rfl, hown, hb⟩
  obtain ⟨A, cc, rfl, -, -, -⟩ := own_cells hown
  clear hown
  go_wp2
  go_ret
  exact ⟨rfl, hb⟩
theorem upsD_succ (ns : List DNode) (k c : Nat) : upsD ns (k + 1) c = upD ns (upsD ns k c) := by
  induction k generalizing c with
  | zero => rfl
  | succ k ih => rw [upsD, ih, upsD]
theorem path_len_le {ns : List DNode} (hi : DInv ns) (c : Nat) (hc : c ≤ ns.length) : (pathOf ns c).length ≤ c := by
  induction c using Nat.strongRecOn with
  | _ c ih =>
    by_cases h0 : c = 0
    · subst h0; simp [pathOf_zero]
    · obtain ⟨e, x, rfl, hx⟩ := get_of_le h0 hc
      have hu := hi.up e x hx
      rw [pathOf_succ hi hx, List.length_append, List.length_singleton]
      have := ih x.1 (by omega) (by omega)
      omega
def upDR (ns : List DNode) (c level : Int) : Int × Int :=
  if c < 0 ∨ (ns.length : Int) < c then (0, 33) else if level < 0 ∨ ((pathOf ns c.toNat).length : Int) < level then (0, 1) else (((upsD ns ((pathOf ns c.toNat).length - level.toNat) c.toNat : Nat) : Int), 0)
def Gives2 (a b : Int) (w : World) (e : Ending) (w' : World) : Prop := e = .returned (.tuple #[.int .i64 a, .int .i64 b]) ∧ Below w.heap.size w w'
set_option maxHeartbeats 800000 in
theorem upD_any (D : Nat → Prop) (d : Nat) (L : Int) (ns : List DNode) (c level : Int) (w : World) (h : DictW w D d L ns) (hi : DInv ns) (hl : ns.length ≤ 1000) :
    Calls Try.prog 33 #[.pointer (some ⟨d, 0, none⟩), .int .i64 c, .int .i64 level] w (Gives2 (upDR ns c level).1 (upDR ns c level).2 w) := by
  have HL := hid (lenD_any D d L ns w h)
  have hur : upDR ns c level = if c < 0 ∨ (ns.length : Int) < c then (0, 33) else if level < 0 ∨ ((pathOf ns c.toNat).length : Int) < level then (0, 1) else (((upsD ns ((pathOf ns c.toNat).length - level.toNat) c.toNat : Nat) : Int), 0) := rfl
  by_cases hc : c < 0 ∨ (ns.length : Int) < c
  · rw [if_pos hc] at hur
    rw [hur]
    by_cases h0 : c < 0
    · clear hc h hur
      go_enter Try.func33, Try.ntmps33
      go_wp2
      go_ret2
      exact ⟨rfl, Below.refl _ _⟩
    · have h1 : (ns.length : Int) < c := by omega
      clear hc h hur
      go_enter Try.func33, Try.ntmps33
      go_wp2_with fail
      refine HL.out.mono ?_
      rintro e w1 ⟨rfl, hq1⟩
      go_wp2
      go_ret2
      exact ⟨rfl, hq1.below _⟩
  · rw [if_neg hc] at hur
    obtain ⟨k, rfl⟩ := Int.eq_ofNat_of_zero_le (show 0 ≤ c by omega)
    have hk : k ≤ ns.length := by omega
    rw [Int.toNat_natCast] at hur
    have HS := hid (fun W (hw : Below w.heap.size w W) => sizeD_any D d L ns k W (h.below hw) hi hl hk)
    have hpl := path_len_le hi k hk
    have hup := fun j hj => upsD_path hi j k hk hj
    have hpp := fun x hx h => path_pos hi x hx h
    obtain ⟨A, cc, h5, hc1, hc2, hrows⟩ := h.rows
    have hd := h.2.1 d h.1
    unfold maxLen at hc2
    generalize hn : (pathOf ns k).length = n at *
    have HUP := hid hup; have HPP := hid hpp; have HROW := hid hrows; have HN := hid hn; clear hup hpp hrows hn h hc
    by_cases hv : level < 0 ∨ (n : Int) < level
    · rw [if_pos hv] at hur
      rw [hur]; clear hur
      have hcase : level < 0 ∨ (0 ≤ level ∧ (n : Int) < level) := by omega
      clear hv
      rcases hcase with h0 | ⟨h0, h1⟩
      all_goals
        go_enter Try.func33, Try.ntmps33
        go_wp2_with fail
        refine HL.out.mono ?_
        rintro e w1 ⟨rfl, hq1⟩
        have HB1 := hid (hq1.below w.heap.size); clear hq1
        go_wp2_with fail
        refine (HS.out _ HB1.out).mono ?_
        rintro e w2 ⟨rfl, hb2⟩
        have HB2 := hid (HB1.out.trans (hb2.mono HB1.out.size)); clear hb2
        go_wp2
        go_ret2
        exact ⟨rfl, HB2.out⟩
    · rw [if_neg hv] at hur
      obtain ⟨m, rfl⟩ := Int.eq_ofNat_of_zero_le (show 0 ≤ level by omega)
      rw [Int.toNat_natCast] at hur
      have hm : m ≤ n := by omega
      rw [hur]; clear hur hv
      obtain ⟨r, hr⟩ : ∃ r, r = n - m := ⟨_, rfl⟩
      have er : (n : Int) - (m : Int) = (r : Int) := by omega
      rw [← hr]
      have HRR := hid hr; have HER := hid er; clear hr er
      go_enter Try.func33, Try.ntmps33
      go_wp2_with fail
      refine HL.out.mono ?_
      rintro e w1 ⟨rfl, hq1⟩
      have HB1 := hid (hq1.below w.heap.size); clear hq1
      go_wp2_with fail
      refine (HS.out _ HB1.out).mono ?_
      rintro e w2 ⟨rfl, hb2⟩
      have HB2 := hid (HB1.out.trans (hb2.mono HB1.out.size)); clear hb2
      replace h5 := cellK HB2.out hd h5
      have er := HER.out
      go_wp2
      clear er
      go_loop [1, 30] (fun c i => ∃ j : Nat, j ≤ r ∧ i = .int .i64 j ∧ c = .int .i64 ((upsD ns j k : Nat) : Int)) (fun _ i => r - (intOf i).toNat)
      case atStart => exact ⟨0, by omega, rfl, rfl⟩
      case round =>
        obtain ⟨j, hj, rfl, rfl⟩ := hrel
        by_cases hlt : j < r
        · have hrr := HRR.out
          obtain ⟨u1, u2⟩ := HUP.out j (by omega)
          have u3 : upsD ns j k ≠ 0 := HPP.out _ u1 (by have hnn := HN.out; rw [u2, List.length_take]; omega)
          have hsu := upsD_succ ns j k
          generalize upsD ns j k = u at *
          obtain ⟨e, rfl⟩ : ∃ e, u = e + 1 := ⟨u - 1, by omega⟩
          obtain ⟨g, rfl, hg, q1, q2⟩ := HROW.out e (by omega)
          replace q1 := cellK HB2.out hg q1
          have hupd : upD ns (e + 1) = ns[e].1 := by
            unfold upD; rw [Nat.add_sub_cancel, List.getElem?_eq_getElem (by omega)]
          rw [hupd] at hsu
          have HSU := hid hsu; clear hsu hupd u2 q2 u3
          have ee : ((e + 1 : Nat) : Int) = (e : Int) + 1 := by omega
          rw [ee]; clear ee
          go_wp2
          go_round
          case rel => exact ⟨j + 1, by omega, by go_num, by rw [HSU.out]⟩
          case measure => simp [intOf]; omega
        · obtain rfl : j = r := by omega
          go_wp2
          go_ret2
          exact ⟨rfl, HB2.out⟩
end Go.Proofs.Ytbledkffkckjbaa
