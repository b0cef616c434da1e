/- 2 texts of this claim, in build order. -/
import Derived.Test.YtclhnnidbhchnaaPincncman
import Derived.Test.YtclhnnidbhchnaaPipilkmim
/- The document's examples of layer 10. -/
namespace Go.Proofs.Ytclhnnidbhchnaa
open Go.ChangeShapes Go.WideShapes Go.ChangeAt Go.RowKit Go.Maps
set_option linter.unusedVariables false
set_option linter.unusedSimpArgs false

def liv1 : List KC := [([1, 2], oneC 5)]
def liv2 : List KC := [([1, 2], oneC 5), ([1, 3], oneC 7)]
def liv3 : List KC := [([1, 2], ⟨2, [4], [-1], [5]⟩), ([1, 3], oneC 7)]
def liv4 : List KC := [([1, 0], ⟨3, [11], [-1], [7]⟩)]
def livU : List (List Int) := [[0, 1], [0, 0, 0, 0]]
theorem liv_a1 : addK 2 1 [] [1, 2] (oneC 5) = (liv1, 0) := by kernel_rfl
theorem liv_a2 : addK 2 1 liv1 [1, 3] (oneC 7) = (liv2, 0) := by kernel_rfl
theorem liv_a3 : addK 2 1 liv2 [1, 2] (oneC (-1)) = (liv3, 0) := by kernel_rfl
theorem liv_g3 : getK liv3 [1, 2] = some ⟨2, [4], [-1], [5]⟩ := by kernel_rfl
theorem liv_e : rollE 2 livU liv3 = 0 := by kernel_rfl
theorem liv_r : rollL (rollP livU liv3) = liv4 := by kernel_rfl
theorem liv_g4 : getK liv4 [1, 0] = some ⟨3, [11], [-1], [7]⟩ := by kernel_rfl
theorem liv_ok1 : OkL 2 1 liv1 := by have := addK_ok (OkL.nil_ 2 1) [1, 2] (oneC 5); rw [liv_a1] at this; exact this
theorem liv_ok2 : OkL 2 1 liv2 := by have := addK_ok liv_ok1 [1, 3] (oneC 7); rw [liv_a2] at this; exact this
theorem liv_ok3 : OkL 2 1 liv3 := by have := addK_ok liv_ok2 [1, 2] (oneC (-1)); rw [liv_a3] at this; exact this
theorem liv_ok4 : OkL 2 1 liv4 := (OkL.nil_ 2 1).set (k := [1, 0]) (c := ⟨3, [11], [-1], [7]⟩) (by decide) (mayC_iff.1 (by kernel_rfl)) (by decide) rfl
theorem liv_c3 : getC liv3 [1, 2] = ⟨2, [4], [-1], [5]⟩ := by kernel_rfl
theorem liv_s3 : (getK liv3 [1, 2]).isSome = true := by kernel_rfl
theorem liv_c4 : getC liv4 [1, 0] = ⟨3, [11], [-1], [7]⟩ := by kernel_rfl
theorem liv_s4 : (getK liv4 [1, 0]).isSome = true := by kernel_rfl
/-- A cell of one measure of the call's own. -/
theorem liv_lit {w : World} {H : Nat} {v : Value} {n s l h : Int} (ho : OwnC w H v ⟨n, [s], [l], [h]⟩) :
    ∃ g1 c1 A2 c2 A3 c3, v = .agg #[.int .i64 n, .slice (some ⟨g1, 0, none⟩) 1 c1, .slice A2 1 c2, .slice A3 1 c3] ∧ g1 < w.heap.size ∧ w.cell? ⟨g1, 0, none⟩ = some (.int .i64 s) := by
  obtain ⟨v1, v2, v3, rfl, h1, h2, h3, -, -⟩ := ho
  have h1' := h1
  obtain ⟨A1, c1, rfl, -, -, hg⟩ := own_cells h1
  obtain ⟨A2, c2, rfl, -, -, -⟩ := own_cells h2
  obtain ⟨A3, c3, rfl, -, -, -⟩ := own_cells h3
  obtain ⟨g, rfl, -, hgl, -⟩ := hg (by simp)
  exact ⟨g, c1, A2, c2, A3, c3, rfl, hgl, h1'.cellAt 0 (by simp)⟩
theorem own_lit {w : World} (xs : List Int) {base N n : Nat} (hN : w.heap.size = N) (hb : base ≤ N) (hn : xs.length = n) (hm : n ≤ 1000) : (w.alloc (.cells (ivals xs).toArray 3)).ownsRow base 3 1 (.slice (some ⟨N, 0, none⟩) n n) n (ivals xs) := by
  subst hN; subst hn
  exact World.ownsRow_lit w (ivals xs).toArray xs.length hb (by simp only [maxLen]; omega) (by simp [ivals])
def LivP (w : World) (e : Ending) (w' : World) : Prop := e = .returned (.bool true) ∧ Below w.heap.size w w'
set_option maxRecDepth 100000 in
set_option maxHeartbeats 3200000 in
theorem lives_any (w : World) : Calls Try.prog 18 #[] w (LivP w) := by
  have HN := hid (show Calls Try.prog 21 #[.int .i64 2, .int .i64 1] w (NewCP 2 1 w) from newC_yes 2 1 w (by omega) (by omega) (by omega) (by omega))
  go_enter Try.func18, Try.ntmps18
  go_wp2_with fail
  refine HN.out.mono ?_
  rintro e w1 ⟨p, m, D1, rfl, hc1, hd1, hb1⟩
  have hml : w.heap.size ≤ m := hd1 m hc1.2.1
  have hmw : m < w1.heap.size := hc1.2.2.2.1 m hc1.2.1
  have HCw1 := hid hc1; have HBw1 := hid hb1
  clear hc1 hd1 hb1
  obtain ⟨ka, hka⟩ : ∃ W', W' = w1.alloc (.cells #[.int .i64 1, .int .i64 2] 3) := ⟨_, rfl⟩
  have hska : Sl ka ka.heap.size (.slice (some ⟨w1.heap.size, 0, none⟩) 2 2) (ivals [1, 2]) := by rw [hka]; exact Sl.two w1 1 2 rfl
  have hbka : Below w1.heap.size w1 ka := by rw [hka]; exact bl1 _ _
  have hzka := hbka.size
  have HKa := hid hka; have HBKa := hid hbka; have HSKa := hid hska
  clear hka hbka hska
  go_wp2_with fail
  rw [← HKa.out]
  refine (one_any 5 ka).mono ?_
  rintro e oa ⟨xa, rfl, hoa, hboa⟩
  have hzoa := hboa.size
  have hba := HBKa.out.trans (hboa.mono hzka)
  have HAa := hid (addC_any D1 p m 2 1 [] (.slice (some ⟨w1.heap.size, 0, none⟩) 2 2) xa [1, 2] (oneC 5) oa (HCw1.out.below hba) (OkL.nil_ 2 1) (by omega) (by omega) (by omega) (by decide) ((HSKa.out.below hboa).more hzoa) hoa.read)
  rw [liv_a1] at HAa
  have HBa := hid (HBw1.out.trans (hba.mono HBw1.out.size))
  clear hoa hboa hba
  go_wp2_with fail
  refine HAa.out.mono ?_
  rintro e w2 ⟨D2, rfl, hca, hga, hua⟩
  have hzw2 := hua.size
  have HBw2 := hid (HBa.out.trans (hua.below hml (by omega)))
  have HCw2 := hid hca
  clear hca hga hua
  obtain ⟨kb, hkb⟩ : ∃ W', W' = w2.alloc (.cells #[.int .i64 1, .int .i64 3] 3) := ⟨_, rfl⟩
  have hskb : Sl kb kb.heap.size (.slice (some ⟨w2.heap.size, 0, none⟩) 2 2) (ivals [1, 3]) := by rw [hkb]; exact Sl.two w2 1 3 rfl
  have hbkb : Below w2.heap.size w2 kb := by rw [hkb]; exact bl1 _ _
  have hzkb := hbkb.size
  have HKb := hid hkb; have HBKb := hid hbkb; have HSKb := hid hskb
  clear hkb hbkb hskb
  go_wp2_with fail
  rw [← HKb.out]
  refine (one_any 7 kb).mono ?_
  rintro e ob ⟨xb, rfl, hob, hbob⟩
  have hzob := hbob.size
  have hbb := HBKb.out.trans (hbob.mono hzkb)
  have HAb := hid (addC_any D2 p m 2 1 liv1 (.slice (some ⟨w2.heap.size, 0, none⟩) 2 2) xb [1, 3] (oneC 7) ob (HCw2.out.below hbb) liv_ok1 (by omega) (by omega) (by omega) (by decide) ((HSKb.out.below hbob).more hzob) hob.read)
  rw [liv_a2] at HAb
  have HBb := hid (HBw2.out.trans (hbb.mono HBw2.out.size))
  clear hob hbob hbb
  go_wp2_with fail
  refine HAb.out.mono ?_
  rintro e w3 ⟨D3, rfl, hcb, hgb, hub⟩
  have hzw3 := hub.size
  have HBw3 := hid (HBb.out.trans (hub.below hml (by omega)))
  have HCw3 := hid hcb
  clear hcb hgb hub
  obtain ⟨kc, hkc⟩ : ∃ W', W' = w3.alloc (.cells #[.int .i64 1, .int .i64 2] 3) := ⟨_, rfl⟩
  have hskc : Sl kc kc.heap.size (.slice (some ⟨w3.heap.size, 0, none⟩) 2 2) (ivals [1, 2]) := by rw [hkc]; exact Sl.two w3 1 2 rfl
  have hbkc : Below w3.heap.size w3 kc := by rw [hkc]; exact bl1 _ _
  have hzkc := hbkc.size
  have HKc := hid hkc; have HBKc := hid hbkc; have HSKc := hid hskc
  clear hkc hbkc hskc
  go_wp2_with fail
  rw [← HKc.out]
  refine (one_any (-1) kc).mono ?_
  rintro e oc ⟨xc, rfl, hoc, hboc⟩
  have hzoc := hboc.size
  have hbc := HBKc.out.trans (hboc.mono hzkc)
  have HAc := hid (addC_any D3 p m 2 1 liv2 (.slice (some ⟨w3.heap.size, 0, none⟩) 2 2) xc [1, 2] (oneC (-1)) oc (HCw3.out.below hbc) liv_ok2 (by omega) (by omega) (by omega) (by decide) ((HSKc.out.below hboc).more hzoc) hoc.read)
  rw [liv_a3] at HAc
  have HBc := hid (HBw3.out.trans (hbc.mono HBw3.out.size))
  clear hoc hboc hbc
  go_wp2_with fail
  refine HAc.out.mono ?_
  rintro e w4 ⟨D4, rfl, hcc, hgc, huc⟩
  have hzw4 := huc.size
  have HBw4 := hid (HBc.out.trans (huc.below hml (by omega)))
  have HCw4 := hid hcc
  clear hcc hgc huc
  obtain ⟨k4, hk4⟩ : ∃ W', W' = w4.alloc (.cells #[.int .i64 1, .int .i64 2] 3) := ⟨_, rfl⟩
  have hsk4 : Sl k4 k4.heap.size (.slice (some ⟨w4.heap.size, 0, none⟩) 2 2) (ivals [1, 2]) := by rw [hk4]; exact Sl.two w4 1 2 rfl
  have hbk4 : Below w4.heap.size w4 k4 := by rw [hk4]; exact bl1 _ _
  have HK4 := hid hk4
  have HG4 := hid (getC_yes D4 p m 2 1 liv3 _ [1, 2] k4 (HCw4.out.below hbk4) liv_ok3 hsk4 (by omega) (by omega) (by omega) (by decide))
  rw [liv_c3, liv_s3] at HG4
  have HBk4 := hid (HBw4.out.trans (hbk4.mono HBw4.out.size))
  have HCk4 := hid (HCw4.out.below hbk4)
  clear hk4 hsk4 hbk4
  go_wp2_with fail
  rw [← HK4.out]
  refine HG4.out.mono ?_
  rintro e w5 ⟨xv, rfl, ho5, hb5⟩
  obtain ⟨g1, f1, A2, f2, A3, f3, rfl, hg1, hv1⟩ := liv_lit ho5
  have HC5 := hid (HCk4.out.below hb5)
  have HB5 := hid (HBk4.out.trans (hb5.mono HBk4.out.size))
  clear ho5 hb5
  obtain ⟨W5, hW5⟩ : ∃ W', W' = w5.alloc (.cells #[.int .i64 2, .slice (some ⟨g1, 0, none⟩) 1 f1, .slice A2 1 f2, .slice A3 1 f3] 25) := ⟨_, rfl⟩
  have hbW5 : Below w5.heap.size w5 W5 := by rw [hW5]; exact bl1 _ _
  have hzW5 : W5.heap.size = w5.heap.size + 1 := by rw [hW5]; simp
  have bx : Blk W5 w5.heap.size (.int .i64 2) (.slice (some ⟨g1, 0, none⟩) 1 f1) (.slice A2 1 f2) (.slice A3 1 f3) := by rw [hW5]; exact Blk.new _ _ _ _ _ _
  have hv1 := cellK hbW5 hg1 hv1
  obtain ⟨W6, hW6⟩ : ∃ W', W' = ((W5.alloc (.cells #[.int .i64 0, .int .i64 1] 3)).alloc (.cells #[.int .i64 0, .int .i64 0, .int .i64 0, .int .i64 0] 3)).alloc (.cells #[.slice (some ⟨w5.heap.size + 1, 0, none⟩) 2 2, .slice (some ⟨w5.heap.size + 1 + 1, 0, none⟩) 4 4] 23) := ⟨_, rfl⟩
  have hbW6 : Below W5.heap.size W5 W6 := by rw [hW6]; exact ((bl1 _ _).trans ((bl1 _ _).mono (by simp))).trans ((bl1 _ _).mono (by simp; omega))
  have hzW6 : W6.heap.size = W5.heap.size + 3 := by rw [hW6]; simp
  have hro : RowsI W6 W6.heap.size (.slice (some ⟨w5.heap.size + 1 + 1 + 1, 0, none⟩) 2 2) livU := by
    have o1 := Sl.of_own ((own_lit (w := W5) [0, 1] (base := 0) (N := w5.heap.size + 1) (n := 2) hzW5 (by omega) rfl (by omega)).alloc (.cells #[.int .i64 0, .int .i64 0, .int .i64 0, .int .i64 0] 3) |>.alloc (.cells #[.slice (some ⟨w5.heap.size + 1, 0, none⟩) 2 2, .slice (some ⟨w5.heap.size + 1 + 1, 0, none⟩) 4 4] 23))
    have o2 := Sl.of_own ((own_lit (w := W5.alloc (.cells #[.int .i64 0, .int .i64 1] 3)) [0, 0, 0, 0] (base := 0) (N := w5.heap.size + 1 + 1) (n := 4) (by simp [hzW5]) (by omega) rfl (by omega)).alloc (.cells #[.slice (some ⟨w5.heap.size + 1, 0, none⟩) 2 2, .slice (some ⟨w5.heap.size + 1 + 1, 0, none⟩) 4 4] 23))
    have hW6' : W6 = ((W5.alloc (.cells (ivals [0, 1]).toArray 3)).alloc (.cells #[.int .i64 0, .int .i64 0, .int .i64 0, .int .i64 0] 3)).alloc (.cells #[.slice (some ⟨w5.heap.size + 1, 0, none⟩) 2 2, .slice (some ⟨w5.heap.size + 1 + 1, 0, none⟩) 4 4] 23) := hW6
    have hW6'' : W6 = ((W5.alloc (.cells #[.int .i64 0, .int .i64 1] 3)).alloc (.cells (ivals [0, 0, 0, 0]).toArray 3)).alloc (.cells #[.slice (some ⟨w5.heap.size + 1, 0, none⟩) 2 2, .slice (some ⟨w5.heap.size + 1 + 1, 0, none⟩) 4 4] 23) := hW6
    rw [← hW6'] at o1
    rw [← hW6''] at o2
    refine ⟨_, 2, rfl, by decide, by simp [maxLen], fun i hi => ?_⟩
    have hi2 : i < 2 := hi
    obtain rfl | rfl : i = 0 ∨ i = 1 := by omega
    · exact ⟨w5.heap.size + 1 + 1 + 1, 0, _, rfl, by omega, by rw [hW6]; simp [go_sem, hzW5], o1⟩
    · exact ⟨w5.heap.size + 1 + 1 + 1, 0, _, rfl, by omega, by rw [hW6]; simp [go_sem, hzW5], o2⟩
  have hb56 := hbW5.trans (hbW6.mono (by omega))
  have HB6 := hid (HB5.out.trans (hb56.mono HB5.out.size))
  have HC6 := hid (HC5.out.below hb56)
  have HRL := hid (roll_any D4 p m 2 1 liv3 _ livU W6 HC6.out liv_ok3 (by omega) (by omega) (by omega) (by omega) (by decide) hro)
  have bx6 := bx.below hbW6 (by omega)
  have hv1 := cellK hbW6 (by omega) hv1
  have HW5 := hid hW5; have HW6 := hid hW6; have HBX := hid bx6; have HV1 := hid hv1
  clear hW5 hbW5 bx hW6 hbW6 hro hb56 bx6 hv1
  go_wp2_with fail
  rw [← HW5.out, ← HW6.out]
  refine HRL.out.mono ?_
  rintro e w7 (⟨hne, -⟩ | ⟨-, p4, m4, D5, rfl, hc7, hd7, hb7⟩)
  · exact absurd liv_e hne
  · rw [liv_r] at hc7
    have hz7 := hb7.size
    have HC7 := hid hc7
    have HB7 := hid (HB6.out.trans (hb7.mono HB6.out.size))
    have bx7 := HBX.out.below hb7 (by omega)
    have hv7 := cellK hb7 (by omega) HV1.out
    have HC67 := hid (HC6.out.below hb7)
    obtain ⟨k7, hk7⟩ : ∃ W', W' = w7.alloc (.cells #[.int .i64 1, .int .i64 0] 3) := ⟨_, rfl⟩
    have hsk7 : Sl k7 k7.heap.size (.slice (some ⟨w7.heap.size, 0, none⟩) 2 2) (ivals [1, 0]) := by rw [hk7]; exact Sl.two w7 1 0 rfl
    have hbk7 : Below w7.heap.size w7 k7 := by rw [hk7]; exact bl1 _ _
    have HK7 := hid hk7
    have HG7 := hid (getC_yes D5 p4 m4 2 1 liv4 _ [1, 0] k7 (HC7.out.below hbk7) liv_ok4 hsk7 (by omega) (by omega) (by omega) (by decide))
    rw [liv_c4, liv_s4] at HG7
    have HBk7 := hid (HB7.out.trans (hbk7.mono HB7.out.size))
    have bk7 := bx7.below hbk7 (by omega)
    have hv7 := cellK hbk7 (by omega) hv7
    have HCk7 := hid (HC67.out.below hbk7)
    have hzk7 := hbk7.size
    clear hk7 hsk7 hbk7 hc7 hd7 hb7 bx7
    go_wp2_with fail
    rw [← HK7.out]
    refine HG7.out.mono ?_
    rintro e w8 ⟨yv, rfl, ho8, hb8⟩
    obtain ⟨g2, e1, B2, e2, B3, e3, rfl, hg2, hv8⟩ := liv_lit ho8
    have hz8 := hb8.size
    have HB8 := hid (HBk7.out.trans (hb8.mono HBk7.out.size))
    have bx8 := bk7.below hb8 (by omega)
    have hv1 := cellK hb8 (by omega) hv7
    have HC8 := hid (HCk7.out.below hb8)
    clear ho8 hb8 bk7 hv7
    obtain ⟨W8, hW8⟩ : ∃ W', W' = w8.alloc (.cells #[.int .i64 3, .slice (some ⟨g2, 0, none⟩) 1 e1, .slice B2 1 e2, .slice B3 1 e3] 25) := ⟨_, rfl⟩
    have hbW8 : Below w8.heap.size w8 W8 := by rw [hW8]; exact bl1 _ _
    have by8 : Blk W8 w8.heap.size (.int .i64 3) (.slice (some ⟨g2, 0, none⟩) 1 e1) (.slice B2 1 e2) (.slice B3 1 e3) := by rw [hW8]; exact Blk.new _ _ _ _ _ _
    obtain ⟨a0, a1, -, -, -, -, -, -⟩ := bx8.below hbW8 (by omega)
    obtain ⟨b0, b1, -, -, -, -, -, -⟩ := by8
    have hv1 := cellK hbW8 (by omega) hv1
    have hv2 := cellK hbW8 hg2 hv8
    have HLN := hid (show Calls Try.prog 56 #[.pointer (some ⟨p, 0, none⟩)] W8 (Stays (.int .i64 2) W8) from len_any D4 p m 2 1 liv3 W8 (HC8.out.below hbW8))
    have HBW8 := hid (HB8.out.trans (hbW8.mono HB8.out.size))
    have HW8 := hid hW8
    clear hW8 hbW8 bx8 hv8
    go_wp2_with fail
    rw [← HW8.out]
    refine HLN.out.mono ?_
    rintro e w9 ⟨rfl, hq⟩
    have a0 : w9.cell? _ = _ := (hq.cell _).trans a0
    have a1 : w9.cell? _ = _ := (hq.cell _).trans a1
    have b0 : w9.cell? _ = _ := (hq.cell _).trans b0
    have b1 : w9.cell? _ = _ := (hq.cell _).trans b1
    have hv1 : w9.cell? _ = _ := (hq.cell _).trans hv1
    have hv2 : w9.cell? _ = _ := (hq.cell _).trans hv2
    have HB9 := hid (HBW8.out.trans (hq.below _))
    clear hq
    go_wp2
    go_ret
    exact ⟨rfl, HB9.out⟩
end Go.Proofs.Ytclhnnidbhchnaa
/- Laws behind wire's get and the reference's put. -/
namespace Go.Proofs.Ytclhnnidbhchnaa
open Go.ChangeShapes Go.WideShapes Go.ChangeAt Go.RowKit
set_option linter.unusedVariables false

theorem and127 : ∀ x : Fin 256, (x.val &&& 127) = x.val % 128 := by decide +kernel
theorem u8_and127 (c : Nat) (h : c < 256) : Go.bits .and .u8 (c : Int) 127 = ((c % 128 : Nat) : Int) := by
  show IntKind.u8.wrap ((BitVec.ofInt 8 (c : Int) &&& BitVec.ofInt 8 127).toNat : Int) = _
  have e1 : (BitVec.ofInt 8 (c : Int)).toNat = c := by rw [BitVec.ofInt_natCast, BitVec.toNat_ofNat]; omega
  have e2 : (BitVec.ofInt 8 127).toNat = 127 := rfl
  rw [BitVec.toNat_and, e1, e2, IntKind.wrap_u8]
  have := and127 ⟨c, h⟩
  simp only at this
  rw [this]
  omega
theorem u64_or_shift (x a i : Nat) (hx : x < 2 ^ i) (hs : x + a * 2 ^ i < 18446744073709551616) : Go.bits .or .u64 (x : Int) (IntKind.u64.wrap (IntKind.u64.wrap (a : Int) * 2 ^ i)) = ((x + a * 2 ^ i : Nat) : Int) := by
  have hpos : 0 < 2 ^ i := Nat.pow_pos (by omega)
  have h1 : a ≤ a * 2 ^ i := Nat.le_mul_of_pos_right _ hpos
  have w1 : IntKind.u64.wrap (a : Int) = a := by rw [IntKind.wrap_u64]; omega
  have e0 : ((a * 2 ^ i : Nat) : Int) = (a : Int) * 2 ^ i := by simp
  have w2 : IntKind.u64.wrap ((a : Int) * 2 ^ i) = ((a * 2 ^ i : Nat) : Int) := by rw [← e0, IntKind.wrap_u64]; omega
  rw [w1, w2]
  show IntKind.u64.wrap ((BitVec.ofInt 64 (x : Int) ||| BitVec.ofInt 64 ((a * 2 ^ i : Nat) : Int)).toNat : Int) = _
  have e1 : (BitVec.ofInt 64 (x : Int)).toNat = x := by rw [BitVec.ofInt_natCast, BitVec.toNat_ofNat]; omega
  have e2 : (BitVec.ofInt 64 ((a * 2 ^ i : Nat) : Int)).toNat = a * 2 ^ i := by rw [BitVec.ofInt_natCast, BitVec.toNat_ofNat]; omega
  rw [BitVec.toNat_or, e1, e2, Nat.or_comm, Nat.mul_comm a, ← Nat.two_pow_add_eq_or_of_lt hx, IntKind.wrap_u64]
  rw [Nat.mul_comm a] at hs
  omega
theorem i64_not (h : Int) (h1 : -9223372036854775808 ≤ h) (h2 : h ≤ 9223372036854775807) : Go.bits .xor .i64 (-1) h = -h - 1 := by
  show IntKind.i64.wrap ((BitVec.ofInt 64 (-1) ^^^ BitVec.ofInt 64 h).toNat : Int) = _
  have e1 : BitVec.ofInt 64 (-1) = BitVec.allOnes 64 := by decide
  rw [e1, BitVec.allOnes_xor, BitVec.toNat_not, BitVec.toNat_ofInt, IntKind.wrap_i64]
  omega
/-- What the code reckons of a u. -/
theorem u_parts (y : Nat) (hy : y < 18446744073709551616) : Go.bits .and .u64 (y : Int) 1 = ((y % 2 : Nat) : Int) ∧ wrap64 ((y : Int) / 2) = ((y / 2 : Nat) : Int) ∧ Go.bits .xor .i64 (-1) ((y / 2 : Nat) : Int) = -((y / 2 : Nat) : Int) - 1 := by
  refine ⟨?_, ?_, i64_not _ (by omega) (by omega)⟩
  · rw [and_one_u64 _ (by omega) (by omega)]; omega
  · rw [wrap64_eq, IntKind.wrap_i64]; omega
def Got (r : Int × Int × Int) (w : World) (e : Ending) (w' : World) : Prop := e = .returned (.tuple #[.int .i64 r.1, .int .i64 r.2.1, .int .i64 r.2.2]) ∧ w = w'
def GetRelI (l : List UInt8) (u i : Value) : Prop := ∃ k x : Nat, k ≤ l.length ∧ k ≤ 9 ∧ i = .int .i64 k ∧ u = .int .u64 x ∧ x < 2 ^ (7 * k) ∧ getInt l = getF (l.drop k) k x
theorem Sl.byte {w : World} {B : Nat} {A : Option Addr} {l : List UInt8} {k : Nat} (h : 0 < (bvals l).length → ∃ b off, A = some ⟨b, off, none⟩ ∧ b < B ∧ ∀ j u, (bvals l)[j]? = some u → w.cell? ⟨b, off + j, none⟩ = some u) (hk : k < l.length) :
    ∃ b off, A = some ⟨b, off, none⟩ ∧ b < B ∧ w.cell? ⟨b, off + k, none⟩ = some (.int .u8 (l[k].toNat : Int)) := by
  obtain ⟨b, off, e, hb, hc⟩ := h (by rw [bvals_len]; omega)
  exact ⟨b, off, e, hb, hc k _ (by simp [bvals, List.getElem?_eq_getElem hk])⟩
theorem bvals_take (l : List UInt8) (m : Nat) : bvals (l.take m) = (bvals l).take m := by simp [bvals, List.map_take]
end Go.Proofs.Ytclhnnidbhchnaa
