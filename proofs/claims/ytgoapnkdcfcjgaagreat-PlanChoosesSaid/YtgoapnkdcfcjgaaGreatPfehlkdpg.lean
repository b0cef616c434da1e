/- 7 texts of this claim, in build order. -/
import Derived.Test.YtgoapnkdcfcjgaaGreatPccebdibo
import Derived.Test.YtgoapnkdcfcjgaaGreatPbngnclea
import Derived.Test.YtgoapnkdcfcjgaaGreatPmkcmjhip
import Derived.Test.YtgoapnkdcfcjgaaGreatPefggpapc
import Derived.Test.YtgoapnkdcfcjgaaGreatPplomcpim
import Derived.Test.YtgoapnkdcfcjgaaGreatPcmncjimi
import Derived.BigQuiet
set_option linter.unusedVariables false
set_option linter.unusedSimpArgs false
namespace Go.Proofs.YtgoapnkdcfcjgaaGreat
open Go.ChangeShapes Go.WideShapes Go.ChangeAt Go.RowKit
def sqW (w : World) : World :=
 ((((((((w.alloc (.cells #[.string ⟨#[108]⟩, .string ⟨#[109]⟩] 9)).alloc (.cells #[.string ⟨#[100]⟩, .slice (some ⟨w.heap.size, 0, none⟩) 2 2] 54)).alloc (.cells #[.string ⟨#[118]⟩] 9)).alloc
   (.cells #[.int .i64 1] 3)).alloc (.cells #[.int .i64 0] 3)).alloc (.cells #[.slice (some ⟨w.heap.size + 1 + 1 + 1, 0, none⟩) 1 1, .slice (some ⟨w.heap.size + 1 + 1 + 1 + 1, 0, none⟩) 1 1] 27)).alloc
   (.cells #[.slice (some ⟨w.heap.size + 1, 0, none⟩) 1 1, .slice (some ⟨w.heap.size + 1 + 1, 0, none⟩) 1 1, .slice (some ⟨w.heap.size + 1 + 1 + 1 + 1 + 1, 0, none⟩) 2 2] 26)).alloc
   (.cells #[.int .i64 1] 3)).alloc (.cells #[.slice (some ⟨w.heap.size + 1 + 1 + 1 + 1 + 1 + 1 + 1, 0, none⟩) 1 1, .slice none 0 0] 30)
theorem zod (w : World) : Below w.heap.size w (sqW w) := by
 unfold sqW
 exact zI
theorem zg0 (w : World) : (sqW w).heap.size = w.heap.size + 1 + 1 + 1 + 1 + 1 + 1 + 1 + 1 + 1 := by simp [sqW]
theorem zqw (w : World) : (sqW w).cell? ⟨w.heap.size + 1 + 1 + 1 + 1 + 1 + 1, 0, none⟩ = some (.slice (some ⟨w.heap.size + 1, 0, none⟩) 1 1) /\ (sqW w).cell? ⟨w.heap.size + 1 + 1 + 1 + 1 + 1 + 1, 1, none⟩ = some (.slice (some ⟨w.heap.size + 1 + 1, 0, none⟩) 1 1) /\
  (sqW w).cell? ⟨w.heap.size + 1 + 1 + 1 + 1 + 1 + 1, 2, none⟩ = some (.slice (some ⟨w.heap.size + 1 + 1 + 1 + 1 + 1, 0, none⟩) 2 2) /\ (sqW w).cell? ⟨w.heap.size + 1 + 1 + 1 + 1 + 1 + 1 + 1 + 1, 0, none⟩ = some (.slice (some ⟨w.heap.size + 1 + 1 + 1 + 1 + 1 + 1 + 1, 0, none⟩) 1 1) /\
  (sqW w).cell? ⟨w.heap.size + 1 + 1 + 1 + 1 + 1 + 1 + 1 + 1, 1, none⟩ = some (.slice none 0 0) := by
 refine ⟨?_, ?_, ?_, ?_, ?_⟩ <;> simp [sqW, go_sem]
theorem sqW_s (w : World) : zD (sqW w) (sqW w).heap.size (.agg #[.slice (some ⟨w.heap.size + 1, 0, none⟩) 1 1, .slice (some ⟨w.heap.size + 1 + 1, 0, none⟩) 1 1, .slice (some ⟨w.heap.size + 1 + 1 + 1 + 1 + 1, 0, none⟩) 2 2]) sP := by
 have e0 := zg0 w
 have d : zO (sqW w) (sqW w).heap.size [.slice (some ⟨w.heap.size, 0, none⟩) 2 2] [⟨#[108]⟩, ⟨#[109]⟩] := zqo (by omega) (by decide) (by decide) (by simp [sqW, go_sem]) (by simp [sqW, go_sem])
 have v : zO (sqW w) (sqW w).heap.size [.slice (some ⟨w.heap.size + 1 + 1, 0, none⟩) 1 1] [⟨#[118]⟩] := strs1 (by omega) (by decide) (by simp [sqW, go_sem])
 have i1 : zC (sqW w) (sqW w).heap.size [.slice (some ⟨w.heap.size + 1 + 1 + 1, 0, none⟩) 1 1] [1] := zpX (by omega) (by unfold za4; omega) (by simp [sqW, go_sem])
 have i0 : zC (sqW w) (sqW w).heap.size [.slice (some ⟨w.heap.size + 1 + 1 + 1 + 1, 0, none⟩) 1 1] [0] := zpX (by omega) (by unfold za4; omega) (by simp [sqW, go_sem])
 have vw : zj 1 zC (sqW w) (sqW w).heap.size [.slice (some ⟨w.heap.size + 1 + 1 + 1 + 1 + 1, 0, none⟩) 2 2] [[1], [0]] :=
  zfs rfl (by omega) (by omega) (fun i z hz => by
   have : i = 0 \/ i = 1 := by have := (List.getElem?_eq_some_iff.1 hz).1; simp at this; omega
   rcases this with rfl | rfl
   ·simp at hz; subst hz
    refine ⟨[.slice (some ⟨w.heap.size + 1 + 1 + 1, 0, none⟩) 1 1], rfl, fun j u hu => ?_, i1⟩
    rcases j with _ | j <;> simp at hu <;> subst hu <;> simp [sqW, go_sem]
   ·simp at hz; subst hz
    refine ⟨[.slice (some ⟨w.heap.size + 1 + 1 + 1 + 1, 0, none⟩) 1 1], rfl, fun j u hu => ?_, i0⟩
    rcases j with _ | j <;> simp at hu <;> subst hu <;> simp [sqW, go_sem])
 have dm : zj 2 zee (sqW w) (sqW w).heap.size [.slice (some ⟨w.heap.size + 1, 0, none⟩) 1 1] [(⟨#[100]⟩, [⟨#[108]⟩, ⟨#[109]⟩])] :=
  zfs rfl (by omega) (by omega) (fun i z hz => by
   obtain rfl : i = 0 := by have := (List.getElem?_eq_some_iff.1 hz).1; simp at this; omega
   simp at hz; subst hz
   refine ⟨[.string ⟨#[100]⟩, .slice (some ⟨w.heap.size, 0, none⟩) 2 2], rfl, fun j u hu => ?_, rfl, ⟨rfl, by decide⟩, d⟩
   rcases j with _ | _ | j <;> simp at hu <;> subst hu <;> simp [sqW, go_sem])
 exact ⟨_, _, _, _, _, _, rfl, dm, v, vw⟩
theorem sqW_q (w : World) : zaH (sqW w) (sqW w).heap.size (.agg #[.slice (some ⟨w.heap.size + 1 + 1 + 1 + 1 + 1 + 1 + 1, 0, none⟩) 1 1, .slice none 0 0]) qP := by
 have e0 := zg0 w
 have i1 : zC (sqW w) (sqW w).heap.size [.slice (some ⟨w.heap.size + 1 + 1 + 1 + 1 + 1 + 1 + 1, 0, none⟩) 1 1] [1] := zpX (by omega) (by unfold za4; omega) (by simp [sqW, go_sem])
 exact ⟨_, _, _, _, rfl, i1, rd_nil⟩
def fW (w : World) : World :=
 (((((((((w.alloc (.cells #[.string ⟨#[97]⟩, .string ⟨#[120]⟩] 9)).alloc (.cells #[.slice (some ⟨w.heap.size, 0, none⟩) 2 2] 23)).alloc (.cells #[.int .i64 5] 3)).alloc
   (.cells #[.string ⟨#[97]⟩, .string ⟨#[121]⟩] 9)).alloc (.cells #[.slice (some ⟨w.heap.size + 1 + 1 + 1, 0, none⟩) 2 2] 23)).alloc (.cells #[.int .i64 7] 3)).alloc
   (.cells #[.string ⟨#[98]⟩, .string ⟨#[120]⟩] 9)).alloc (.cells #[.slice (some ⟨w.heap.size + 1 + 1 + 1 + 1 + 1 + 1, 0, none⟩) 2 2] 23)).alloc (.cells #[.int .i64 1] 3)).alloc
   (.cells #[.slice (some ⟨w.heap.size + 1, 0, none⟩) 1 1, .slice (some ⟨w.heap.size + 1 + 1, 0, none⟩) 1 1, .slice (some ⟨w.heap.size + 1 + 1 + 1 + 1, 0, none⟩) 1 1, .slice (some ⟨w.heap.size + 1 + 1 + 1 + 1 + 1, 0, none⟩) 1 1,
     .slice (some ⟨w.heap.size + 1 + 1 + 1 + 1 + 1 + 1 + 1, 0, none⟩) 1 1, .slice (some ⟨w.heap.size + 1 + 1 + 1 + 1 + 1 + 1 + 1 + 1, 0, none⟩) 1 1] 60)
theorem zpT (w : World) : Below w.heap.size w (fW w) := by
 unfold fW
 exact zI
theorem zmN (w : World) : (fW w).heap.size = w.heap.size + 1 + 1 + 1 + 1 + 1 + 1 + 1 + 1 + 1 + 1 := by simp [fW]
structure OneF (w : World) (N M : Nat) (x y : ByteArray) (n : Int) (i : Nat) : Prop where
 a : w.cell? ⟨N, 0, none⟩ = some (.string x)
 b : w.cell? ⟨N, 1, none⟩ = some (.string y)
 c : w.cell? ⟨N + 1, 0, none⟩ = some (.slice (some ⟨N, 0, none⟩) 2 2)
 d : w.cell? ⟨N + 1 + 1, 0, none⟩ = some (.int .i64 n)
 e : w.cell? ⟨M, i, none⟩ = some (.slice (some ⟨N + 1, 0, none⟩) 1 1)
 f : w.cell? ⟨M, i + 1, none⟩ = some (.slice (some ⟨N + 1 + 1, 0, none⟩) 1 1)
theorem OneF.rd {w : World} {N M B i : Nat} {x y : ByteArray} {n : Int} (h : OneF w N M x y n i) (hN : N + 1 + 1 < B) (hx : x.size <= 1000) (hy : y.size <= 1000) (hn : za4 n) :
  za7 w B [.slice (some ⟨N + 1, 0, none⟩) 1 1, .slice (some ⟨N + 1 + 1, 0, none⟩) 1 1] ([[x, y]], [n]) :=
 ⟨rfl, paths1 (by omega) h.c (zqo (by omega) hx hy h.a h.b), zpX (by omega) hn h.d⟩
theorem OneF.path {w : World} {N M i : Nat} {x y : ByteArray} {n : Int} {E : Nat -> Prop} (h : OneF w N M x y n i) (e0 : E N) (e1 : E (N + 1)) (hx : x.size <= 1000) (hy : y.size <= 1000) : zfC w E (some ⟨N + 1, 0, none⟩) 1 [[x, y]] := by
 refine ⟨Nat.le_refl _, by unfold maxLen; omega, fun j hj => ?_⟩
 obtain rfl : j = 0 := by simp at hj; omega
 obtain ⟨s1, s2⟩ := zbP (w := w) (B := N + 1) (zqo (by omega) hx hy h.a h.b)
 refine ⟨N + 1, 0, some ⟨N, 0, none⟩, 2, rfl, e1, h.c, ⟨_, _, rfl, by simp [zL], by unfold maxLen; omega, fun _ => ⟨N, 0, rfl, e0, fun j u hu => ?_⟩⟩, s2⟩
 rcases j with _ | _ | j
 ·simp [zL] at hu; subst hu; exact h.a
 ·simp [zL] at hu; subst hu; exact h.b
 ·simp [zL] at hu
theorem OneF.kept {w w' : World} {N M i : Nat} {x y : ByteArray} {n : Int} {E : Nat -> Prop} (h : OneF w N M x y n i) (k : Kept E w w') (e0 : E N) (e1 : E (N + 1)) (e2 : E (N + 1 + 1)) (e3 : E M) : OneF w' N M x y n i :=
 ⟨k.cell e0 h.a, k.cell e0 h.b, k.cell e1 h.c, k.cell e2 h.d, k.cell e3 h.e, k.cell e3 h.f⟩
theorem zpM (w : World) : zde (fW w) (fun g => w.heap.size <= g /\ g < w.heap.size + 10) (.slice (some ⟨w.heap.size + 1 + 1 + 1 + 1 + 1 + 1 + 1 + 1 + 1, 0, none⟩) 3 3) fP := by
 have a0 : OneF (fW w) w.heap.size (w.heap.size + 1 + 1 + 1 + 1 + 1 + 1 + 1 + 1 + 1) ⟨#[97]⟩ ⟨#[120]⟩ 5 0 := by constructor <;> simp [fW, go_sem]
 have a1 : OneF (fW w) (w.heap.size + 1 + 1 + 1) (w.heap.size + 1 + 1 + 1 + 1 + 1 + 1 + 1 + 1 + 1) ⟨#[97]⟩ ⟨#[121]⟩ 7 2 := by constructor <;> simp [fW, go_sem]
 have a2 : OneF (fW w) (w.heap.size + 1 + 1 + 1 + 1 + 1 + 1) (w.heap.size + 1 + 1 + 1 + 1 + 1 + 1 + 1 + 1 + 1) ⟨#[98]⟩ ⟨#[120]⟩ 1 4 := by constructor <;> simp [fW, go_sem]
 have z := zmN w
 generalize fW w = W at *
 generalize w.heap.size = N at *
 intro w' k
 have b0 := a0.kept k.kept (by constructor <;> omega) (by constructor <;> omega) (by constructor <;> omega) (by constructor <;> omega)
 have b1 := a1.kept k.kept (by constructor <;> omega) (by constructor <;> omega) (by constructor <;> omega) (by constructor <;> omega)
 have b2 := a2.kept k.kept (by constructor <;> omega) (by constructor <;> omega) (by constructor <;> omega) (by constructor <;> omega)
 have hs := k.size
 refine ⟨zfs rfl (by omega) (by omega) (fun i q hq => ?_), fun j hj => ?_⟩
 ·have : i = 0 \/ i = 1 \/ i = 2 := by have := (List.getElem?_eq_some_iff.1 hq).1; simp [fP] at this; omega
  rcases this with rfl | rfl | rfl
  ·simp [fP] at hq; subst hq
   refine ⟨_, rfl, fun j u hu => ?_, b0.rd (by omega) (by decide) (by decide) (by unfold za4; omega)⟩
   rcases j with _ | _ | j <;> simp at hu <;> subst hu
   ·exact b0.e
   ·exact b0.f
  ·simp [fP] at hq; subst hq
   refine ⟨_, rfl, fun j u hu => ?_, b1.rd (by omega) (by decide) (by decide) (by unfold za4; omega)⟩
   rcases j with _ | _ | j <;> simp at hu <;> subst hu
   ·exact b1.e
   ·exact b1.f
  ·simp [fP] at hq; subst hq
   refine ⟨_, rfl, fun j u hu => ?_, b2.rd (by omega) (by decide) (by decide) (by unfold za4; omega)⟩
   rcases j with _ | _ | j <;> simp at hu <;> subst hu
   ·exact b2.e
   ·exact b2.f
 ·have : j = 0 \/ j = 1 \/ j = 2 := by simp [fP] at hj; omega
  rcases this with rfl | rfl | rfl
  ·exact ⟨_, 0, 3, _, 1, _, 1, rfl, by constructor <;> omega, b0.e, b0.f, b0.path (by constructor <;> omega) (by constructor <;> omega) (by decide) (by decide)⟩
  ·exact ⟨_, 0, 3, _, 1, _, 1, rfl, by constructor <;> omega, b1.e, b1.f, b1.path (by constructor <;> omega) (by constructor <;> omega) (by decide) (by decide)⟩
  ·exact ⟨_, 0, 3, _, 1, _, 1, rfl, by constructor <;> omega, b2.e, b2.f, b2.path (by constructor <;> omega) (by constructor <;> omega) (by decide) (by decide)⟩
theorem zqO {w : World} {H p : Nat} {Y : Lay} {l : LatX} (h : LatW w H p Y l) (hR : ∀ g, Y.R g -> H <= g) {g : Nat} (hg : LatO p Y l.ds.length g) : H <= g := by
 rcases hg with hg | hg | hg
 ·exact hR g hg
 ·exact (h.ds.lt g hg).1
 ·exact (zcj h hg).1
theorem zqz : covX sP qP = ([0, 1], 0) := by
 unfold covX
 rw [if_pos pl_q, pl_cov]
theorem zq6 : ∀ v, ((zao (lat0 sP) fP).1.cs.getD v []).length <= 3 := by
 intro v
 have h := zqe
 have e : ((zao (lat0 sP) fP).1.cs.getD v []).length = ((zao (lat0 sP) fP).1.cs.map List.length).getD v 0 := by
  rw [List.getD_eq_getElem?_getD, List.getD_eq_getElem?_getD, List.getElem?_map]
  cases (zao (lat0 sP) fP).1.cs[v]? <;> rfl
 rw [e, h]
 rcases v with _ | _ | _ | v <;> simp
theorem zpR : (zao (lat0 sP) fP).1.cs.length = 3 := by
 have := congrArg List.length zqe
 rwa [List.length_map] at this
theorem ziL (s : ze) (v : Nat) : (lat0 s).cs.getD v [] = [] := by
 unfold lat0
 simp only
 rw [List.getD_eq_getElem?_getD, List.getElem?_map]
 cases (zh s)[v]? <;> rfl
set_option maxRecDepth 100000 in
set_option maxHeartbeats 800000 in
theorem zjI (x : Value) (q : zX) (w : World) (hx : zaH w w.heap.size x q) : Calls Tryz.prog 14 #[.pointer none, x] w (ChoP (0, 1) w) := by
 obtain ⟨X1, d1, X2, d2, rfl, -, -⟩ := hx
 go_enter Tryz.func14, Tryz.ntmps14
 go_wp2
 go_ret2
 exact ⟨rfl, zI⟩
set_option maxRecDepth 100000 in
set_option maxHeartbeats 3200000 in
theorem zgo (w : World) : Calls Tryz.prog 12 #[] w (zY (.bool true) w) := by
 have HCOV := hid (fun v x W hv hx => by
  have := zeu v x sP qP W hv hx (by decide) (by decide)
  rwa [zqz] at this)
 have HNEW := hid (fun v W hv => zkF v sP W hv zhU)
 have HCH0 := hid (fun H p Y x W h hx => by
  have := zdi H p Y (lat0 sP) x qP W h zhU rfl hx (by decide) (fun v => by unfold lenV; rw [ziL]; simp)
  rwa [pl_ch0] at this)
 have hl1 := zdP (zhl zhU) fP
 have HAPP := hid (fun H p Y xf E W h hf hE => by
  have := zgj H p Y (lat0 sP) xf fP E W h (zhl zhU) (fun v => by rw [ziL]; exact Nat.zero_le _) hf hE
  unfold ApyP at this
  rwa [pl_app] at this)
 have HCH1 := hid (fun H p Y x W h hx => by
  have := zdi H p Y (zao (lat0 sP) fP).1 x qP W h (by rw [hl1.2.1]; exact zhU) (by rw [zpR, hl1.2.1]; rfl) hx (by decide) (fun v => by unfold lenV; have := zq6 v; omega)
  rwa [pl_ch1] at this)
 clear hl1
 generalize (zao (lat0 sP) fP).1 = l1 at *
 have hsb := zqw w
 have hss := sqW_s w
 have hsq := sqW_q w
 have hsw := zod w
 have hsz := zg0 w
 go_enter Tryz.func12, Tryz.ntmps12
 obtain ⟨W0, hW0⟩ : ∃ W, W = sqW w := ⟨_, rfl⟩
 rw [<- hW0] at hsb hss hsq hsw hsz
 unfold sqW at hW0
 obtain ⟨s0, s1, s2, q0, q1⟩ := hsb
 obtain ⟨K, hK⟩ : ∃ K, K = W0.heap.size := ⟨_, rfl⟩
 rw [<- hK] at hss hsq
 have hKz : K = w.heap.size + 1 + 1 + 1 + 1 + 1 + 1 + 1 + 1 + 1 := by omega
 have hk0 : K <= W0.heap.size := by omega
 have hk1 : W0.heap.size <= K := by omega
 have HW0 := hid hW0; have HS := hid hss; have HQ := hid hsq; have HB := hid hsw
 clear hsw hW0 hss hsq hsz hK
 go_upto_region 3 with (fail)
 rw [<- HW0.out]
 have HC0 := hid (HCOV.out _ _ W0 (HS.out.more hk0) (HQ.out.more hk0))
 go_wp2_with fail
 refine HC0.out.mono ?_
 rintro e w1 ⟨v1, rfl, ho1, hb1⟩
 have ho1 : w1.ownsRow W0.heap.size 3 1 v1 2 (zk [0, 1]) := ho1
 obtain ⟨A1, c1, rfl, hcc, hcm, h3⟩ := zaa ho1
 obtain ⟨g, rfl, hg1, hg2, -, hcell⟩ := h3 (by omega)
 have k1 : w1.cell? ⟨g, 1, none⟩ = some (.int .i64 1) := hcell 1 (by omega)
 have z1 := hb1.size
 have B1 := hid (show Below K W0 w1 from hb1.mono hk0)
 have s01 := zc hb1 (by omega) s0
 have s11 := zc hb1 (by omega) s1
 have s21 := zc hb1 (by omega) s2
 have q01 := zc hb1 (by omega) q0
 have q11 := zc hb1 (by omega) q1
 have HN1 := hid (HNEW.out _ w1 ((HS.out.below B1.out).more (by omega)))
 have HQ1 := hid ((HQ.out.below B1.out).more (show K <= w1.heap.size by omega))
 have HB1 := hid (HB.out.trans (B1.out.mono (by omega)))
 clear hcell h3 ho1 hb1 s0 s1 s2 q0 q1
 go_wp2_with fail
 refine HN1.out.mono ?_
 rintro e w2 ⟨p, Y, rfl, hl2, hR2, hb2⟩
 have z2 := hb2.size
 have HL2 := hid hl2; have B2 := hid hb2
 have HGE := hid (fun g (hg : LatO p Y (lat0 sP).ds.length g) => zqO hl2 hR2 hg)
 have q02 := zc hb2 (by omega) q01
 have q12 := zc hb2 (by omega) q11
 have HC2 := hid (HCH0.out _ p Y _ w2 hl2 (HQ1.out.on hb2))
 clear hl2 hR2 hb2
 go_wp2_with fail
 refine HC2.out.mono ?_
 rintro e w3 ⟨rfl, hb3⟩
 have z3 := hb3.size
 have hfk := zpM w3
 have hfb := zpT w3
 have hfz := zmN w3
 obtain ⟨W4, hW4⟩ : ∃ W, W = fW w3 := ⟨_, rfl⟩
 rw [<- hW4] at hfk hfb hfz
 unfold fW at hW4
 have HW4 := hid hW4
 have B4 := hid (B2.out.trans ((hb3.trans (hfb.mono z3)).mono z2))
 have HAP := hid (HAPP.out _ p Y _ _ W4 (HL2.out.on (hb3.trans (hfb.mono z3))) hfk (fun g hg => ⟨by have := hg.2; omega, fun hO => by have := zct HL2.out hO; have := hg.1; omega⟩))
 clear hfk hfb hW4 hb3 q02 q12
 go_wp2_with fail
 rw [<- HW4.out]
 refine HAP.out.mono ?_
 rintro e w5 ⟨Y', rfl, hl5, hc5, -⟩
 have z5 := hc5.size
 have B5 := hid (B4.out.trans (hc5.below (B := w1.heap.size) (by omega) (fun k hk => HGE.out k hk)))
 have q05 := zc B5.out (by omega) q01
 have q15 := zc B5.out (by omega) q11
 have HC5 := hid (HCH1.out _ p Y' _ w5 hl5 (HQ1.out.on B5.out))
 clear hl5 hc5
 go_wp2_with fail
 refine HC5.out.mono ?_
 rintro e w6 ⟨rfl, hb6⟩
 have z6 := hb6.size
 have B6 := hid (B5.out.trans (hb6.mono B5.out.size))
 have q06 := zc B6.out (by omega) q01
 have q16 := zc B6.out (by omega) q11
 have HC6 := hid (zjI _ qP w6 (HQ1.out.on B6.out))
 clear hb6 q05 q15
 go_wp2_with fail
 refine HC6.out.mono ?_
 rintro e w7 ⟨rfl, hb7⟩
 have B7 := hid (B6.out.trans (hb7.mono B6.out.size))
 have k17 := zc B7.out hg2 k1
 clear hb7 q06 q16 k1
 go_wp2
 go_ret
 exact ⟨by simp, HB1.out.trans (B7.out.mono (by have := HB1.out.size; omega))⟩
def zdf (s : ze) : ze := (s.1.take 6, s.2.1.take 6, s.2.2.take 9)
def zic (s : ze) (B : Nat) (w : World) (e : Ending) (w' : World) : Prop :=
 ∃ A1 c1 A2 c2 A3 c3, e = .returned (.agg #[.slice A1 s.1.length c1, .slice A2 s.2.1.length c2, .slice A3 s.2.2.length c3]) /\ zD w' B (.agg #[.slice A1 s.1.length c1, .slice A2 s.2.1.length c2, .slice A3 s.2.2.length c3]) s /\ Below w.heap.size w w'
set_option maxRecDepth 100000 in
set_option maxHeartbeats 3200000 in
theorem zmR (v : Value) (s : ze) (w : World) (B : Nat) (hB : B <= w.heap.size) (hv : zD w B v s) :
  Calls Tryz.prog 7 #[v] w (zic (zdf s) B w) := by
 obtain ⟨A1, c1, A2, c2, A3, c3, rfl, h1, h2, h3⟩ := hv
 obtain ⟨hc1, hm1⟩ := h1.cap
 obtain ⟨hc2, hm2⟩ := h2.cap
 obtain ⟨hc3, hm3⟩ := h3.cap
 obtain ⟨n1, e1, r1, w1⟩ := zdG (m := 6) h1
 obtain ⟨n2, e2, r2, w2⟩ := zdG (m := 6) h2
 obtain ⟨n3, e3, r3, w3⟩ := zdG (m := 9) h3
 have hfin : ∀ W', Below w.heap.size w W' -> zic (zdf s) B w (.returned (.agg #[.slice A1 n1 c1, .slice A2 n2 c2, .slice A3 n3 c3])) W' := fun W' hb => by
  refine ⟨A1, c1, A2, c2, A3, c3, ?_, ?_, hb⟩
  ·unfold zdf; rw [<- e1, <- e2, <- e3]
  ·refine ⟨A1, c1, A2, c2, A3, c3, rfl, ?_, ?_, ?_⟩
   ·have := zam.stays r1 (hb.mono hB); unfold zdf; rwa [<- e1]
   ·have := zQ.stays r2 (hb.mono hB); unfold zdf; rwa [<- e2]
   ·have := zaw.stays r3 (hb.mono hB); unfold zdf; rwa [<- e3]
 have HFIN := hid hfin
 generalize s.1.length = k1 at *
 generalize s.2.1.length = k2 at *
 generalize s.2.2.length = k3 at *
 clear h1 h2 h3 e1 e2 e3 r1 r2 r3 hfin
 go_enter Tryz.func7, Tryz.ntmps7
 rcases w1 with ⟨a1, b1, rfl⟩ | ⟨a1, rfl⟩ <;> rcases w2 with ⟨a2, b2, rfl⟩ | ⟨a2, rfl⟩ <;> rcases w3 with ⟨a3, b3, rfl⟩ | ⟨a3, rfl⟩
 all_goals
  go_wp2
  exact bodyPost_ret (by simp [results, Tryz.results7, go_sem]; done) rfl (HFIN.out _ ((bl1 w _).alloc (by simp) _))
def zd0 (q : zX) : zX := (q.1.take 6, q.2.take 5)
def zmD (q : zX) (B : Nat) (w : World) (e : Ending) (w' : World) : Prop :=
 ∃ A1 c1 A2 c2, e = .returned (.agg #[.slice A1 q.1.length c1, .slice A2 q.2.length c2]) /\ zaH w' B (.agg #[.slice A1 q.1.length c1, .slice A2 q.2.length c2]) q /\ Below w.heap.size w w'
set_option maxRecDepth 100000 in
set_option maxHeartbeats 3200000 in
theorem zmv (v : Value) (q : zX) (w : World) (B : Nat) (hB : B <= w.heap.size) (hv : zaH w B v q) :
  Calls Tryz.prog 8 #[v] w (zmD (zd0 q) B w) := by
 obtain ⟨A1, c1, A2, c2, rfl, h1, h2⟩ := hv
 obtain ⟨hc1, hm1⟩ := h1.cap
 obtain ⟨hc2, hm2⟩ := h2.cap
 obtain ⟨n1, e1, r1, w1⟩ := zdG (m := 6) h1
 obtain ⟨n2, e2, r2, w2⟩ := zdG (m := 5) h2
 have hfin : ∀ W', Below w.heap.size w W' -> zmD (zd0 q) B w (.returned (.agg #[.slice A1 n1 c1, .slice A2 n2 c2])) W' := fun W' hb => by
  refine ⟨A1, c1, A2, c2, ?_, ?_, hb⟩
  ·unfold zd0; rw [<- e1, <- e2]
  ·refine ⟨A1, c1, A2, c2, rfl, ?_, ?_⟩
   ·have := zm.stays r1 (hb.mono hB); unfold zd0; rwa [<- e1]
   ·have := zag.stays r2 (hb.mono hB); unfold zd0; rwa [<- e2]
 have HFIN := hid hfin
 generalize q.1.length = k1 at *
 generalize q.2.length = k2 at *
 clear h1 h2 e1 e2 r1 r2 hfin
 go_enter Tryz.func8, Tryz.ntmps8
 rcases w1 with ⟨a1, b1, rfl⟩ | ⟨a1, rfl⟩ <;> rcases w2 with ⟨a2, b2, rfl⟩ | ⟨a2, rfl⟩
 all_goals
  go_wp2
  exact bodyPost_ret (by simp [results, Tryz.results8, go_sem]; done) rfl (HFIN.out _ ((bl1 w _).alloc (by simp) _))
structure Two (w W : World) (s : ze) (q : zX) (S1 S2 S3 Q1 Q2 : Value) : Prop where
 lt : w.heap.size + 1 < W.heap.size
 b : Below w.heap.size w W
 s0 : W.cell? ⟨w.heap.size, 0, none⟩ = some S1
 s1 : W.cell? ⟨w.heap.size, 1, none⟩ = some S2
 s2 : W.cell? ⟨w.heap.size, 2, none⟩ = some S3
 q0 : W.cell? ⟨w.heap.size + 1, 0, none⟩ = some Q1
 q1 : W.cell? ⟨w.heap.size + 1, 1, none⟩ = some Q2
 sv : zD W W.heap.size (.agg #[S1, S2, S3]) s
 qv : zaH W W.heap.size (.agg #[Q1, Q2]) q
theorem zi2 (s : ze) : (zdf s).1.length <= 6 /\ (zdf s).2.2.length <= 9 := by unfold zdf; simp only [List.length_take]; omega
theorem zmT (q : zX) : (zd0 q).1.length <= 6 /\ (zd0 q).2.length <= 5 := by unfold zd0; simp only [List.length_take]; omega
theorem zqW {s : ze} {q : zX} (h : s.2.2.length <= 9) : ∀ n ∈ (covX s q).1, za4 n := by
 intro n hn
 unfold covX at hn
 split at hn
 ·rw [zgJ] at hn
  obtain ⟨m, hm, rfl⟩ := List.mem_map.1 hn
  unfold zbV at hm
  have := List.mem_range.1 (List.mem_filter.1 hm).1
  unfold zh at this
  rw [List.length_cons] at this
  unfold za4
  omega
 ·cases hn
theorem zn1 (l : List UInt8) : Op.bytesLess l l = false := by
 induction l with
 | nil => rfl
 | cons c l ih => unfold Op.bytesLess; simp [ih]
theorem zlG (a b : UInt8) (l r : List UInt8) : Op.bytesLess (a :: l) (b :: r) = true ↔ a < b \/ (a = b /\ Op.bytesLess l r = true) := by
 rw [Op.bytesLess, Bool.or_eq_true, Bool.and_eq_true, decide_eq_true_iff, beq_iff_eq]
theorem zjJ : ∀ l r : List UInt8, Op.bytesLess l r = false -> Op.bytesLess r l = false -> l = r := by
 intro l
 induction l with
 | nil => intro r h1 h2; cases r with
   | nil => rfl
   | cons b r => cases h1
 | cons a l ih =>
   intro r h1 h2
   cases r with
   | nil => cases h2
   | cons b r =>
     rw [Bool.eq_false_iff] at h1 h2
     rw [ne_eq, zlG] at h1 h2
     have hab : a = b := by
      have h3 : ¬ a < b := fun h => h1 (.inl h)
      have h4 : ¬ b < a := fun h => h2 (.inl h)
      rw [UInt8.lt_iff_toNat_lt] at h3 h4
      exact UInt8.toNat_inj.1 (by omega)
     subst hab
     rw [ih r (Bool.eq_false_iff.2 (fun h => h1 (.inr ⟨rfl, h⟩))) (Bool.eq_false_iff.2 (fun h => h2 (.inr ⟨rfl, h⟩)))]
def zbQ (x y : ByteArray) : Bool := Op.bytesLess x.toList y.toList
theorem toList_inj {x y : ByteArray} (h : x.toList = y.toList) : x = y := by
 rw [ByteArray.toList_eq, ByteArray.toList_eq] at h
 apply ByteArray.ext
 exact Array.toList_inj.1 h
theorem zfF (x : ByteArray) : zbQ x x = false := zn1 _
theorem ze8 {x y : ByteArray} (h : zbQ x y = false) (k : zbQ y x = false) : x = y := toList_inj (zjJ _ _ h k)
def cmpS : List ByteArray -> List ByteArray -> Int
 | [], [] => 0
 | [], _ :: _ => -1
 | _ :: _, [] => 1
 | x :: p, y :: q => if zbQ x y then -1 else if zbQ y x then 1 else cmpS p q
theorem ziH (x y : ByteArray) (p q : List ByteArray) : cmpS (x :: p) (y :: q) = if zbQ x y then -1 else if zbQ y x then 1 else cmpS p q := rfl
def cmpT (x y : ByteArray) : Int := if zbQ x y then -1 else if zbQ y x then 1 else 0
theorem zjh (x y : ByteArray) : (x.toList == y.toList) = (!zbQ x y && !zbQ y x) := by
 rw [zha]
 by_cases h : x = y
 ·subst h; rw [zfF]; simp
 ·rw [decide_eq_false h]
  cases h1 : zbQ x y
  ·cases h2 : zbQ y x
   ·exact absurd (ze8 h1 h2) h
   ·rfl
  ·rfl
theorem zgc (x y : ByteArray) (p q : List ByteArray) : cmpS (x :: p) (y :: q) = if cmpT x y = 0 then cmpS p q else cmpT x y := by
 rw [ziH]
 unfold cmpT
 cases zbQ x y
 ·cases zbQ y x <;> simp
 ·simp
theorem zib {x y : ByteArray} (h : cmpT x y = 0) : x = y := by
 unfold cmpT at h
 split at h
 ·cases h
 ·split at h
  ·cases h
  ·rename_i h1 h2
   exact ze8 (by simpa using h1) (by simpa using h2)
theorem zid : ∀ (k : Nat) (p q : List ByteArray), k <= p.length -> k <= q.length -> p.take k = q.take k -> cmpS p q = cmpS (p.drop k) (q.drop k) := by
 intro k
 induction k with
 | zero => intro p q _ _ _; rfl
 | succ k ih =>
   intro p q h1 h2 h3
   cases p with
   | nil => simp at h1
   | cons x p =>
     cases q with
     | nil => simp at h2
     | cons y q =>
       simp only [List.take_succ_cons, List.cons.injEq] at h3
       obtain ⟨rfl, h3⟩ := h3
       rw [ziH, zfF]
       simp only [Bool.false_eq_true, if_false, List.drop_succ_cons]
       exact ih p q (by simpa using h1) (by simpa using h2) h3
def CmRelN (p q : List ByteArray) (w : World) (i : Value) (wr : World) : Prop := ∃ k : Nat, k <= p.length /\ k <= q.length /\ i = .int .i64 k /\ p.take k = q.take k /\ Qu w wr
theorem zqH {p q : List ByteArray} {k : Nat} (h1 : k < p.length) (h2 : k < q.length) (h : p.take k = q.take k) (he : p[k] = q[k]) : p.take (k + 1) = q.take (k + 1) := by
 rw [List.take_succ_eq_append_getElem h1, List.take_succ_eq_append_getElem h2, h, he]
theorem cm_now {p q : List ByteArray} {k : Nat} (h1 : k < p.length) (h2 : k < q.length) (h : p.take k = q.take k) (hne : cmpT p[k] q[k] ≠ 0) : cmpS p q = cmpT p[k] q[k] := by
 rw [zid k p q (by omega) (by omega) h, List.drop_eq_getElem_cons h1, List.drop_eq_getElem_cons h2, zgc, if_neg hne]
theorem cm_end {p q : List ByteArray} {k : Nat} (h1 : k <= p.length) (h2 : k <= q.length) (h : p.take k = q.take k) (hx : p.length = k \/ q.length = k) : cmpS p q = if p.length < q.length then -1 else if q.length < p.length then 1 else 0 := by
 rw [zid k p q h1 h2 h]
 rcases hx with hx | hx
 ·rw [List.drop_eq_nil_of_le (by omega : p.length <= k)]
  by_cases hlt : k < q.length
  ·rw [List.drop_eq_getElem_cons hlt, if_pos (by omega)]; rfl
  ·rw [List.drop_eq_nil_of_le (by omega), if_neg (by omega), if_neg (by omega)]; rfl
 ·rw [List.drop_eq_nil_of_le (by omega : q.length <= k)]
  by_cases hlt : k < p.length
  ·rw [List.drop_eq_getElem_cons hlt, if_neg (by omega), if_pos (by omega)]; rfl
  ·rw [List.drop_eq_nil_of_le (by omega), if_neg (by omega), if_neg (by omega)]; rfl
theorem zlu (x y : ByteArray) : (cmpT x y = -1 /\ zbQ x y = true) \/ (cmpT x y = 1 /\ zbQ x y = false /\ (x.toList == y.toList) = false) \/ (cmpT x y = 0 /\ zbQ x y = false /\ (x.toList == y.toList) = true) := by
 rw [zjh]
 unfold cmpT
 cases h1 : zbQ x y
 ·cases h2 : zbQ y x <;> simp
 ·simp
set_option maxRecDepth 100000 in
set_option maxHeartbeats 1600000 in
theorem zkW (v x : Value) (p q : List ByteArray) (w : World) (hv : zO w w.heap.size [v] p) (hx : zO w w.heap.size [x] q) :
  Calls Tryz.prog 116 #[v, x] w (za5 (.int .i64 (cmpS p q)) w) := by
 obtain ⟨A1, c1, e, hc1, hm1⟩ := hv.open_
 simp only [List.cons.injEq, and_true] at e
 subst e
 obtain ⟨A2, c2, e, hc2, hm2⟩ := hx.open_
 simp only [List.cons.injEq, and_true] at e
 subst e
 have S1 := hid hv; have S2 := hid hx; clear hv hx
 have hnow : ∀ (k : Nat) (h1 : k < p.length) (h2 : k < q.length), p.take k = q.take k -> cmpT p[k] q[k] ≠ 0 -> cmpS p q = cmpT p[k] q[k] := fun k h1 h2 h hne => cm_now h1 h2 h hne
 have hend : ∀ (k : Nat), k <= p.length -> k <= q.length -> p.take k = q.take k -> (p.length = k \/ q.length = k) -> cmpS p q = if p.length < q.length then -1 else if q.length < p.length then 1 else 0 := fun k h1 h2 h hx => cm_end h1 h2 h hx
 have HNOW := hid hnow; have HEND := hid hend
 clear hnow hend
 generalize cmpS p q = res at *
 go_enter Tryz.func116, Tryz.ntmps116
 go_wp2
 go_loopw [5] (fun i wr => CmRelN p q w i wr) (fun i _ => p.length - (intOf i).toNat)
 case atStart => exact ⟨0, by omega, by omega, rfl, rfl, Qu.refl _⟩
 case round =>
  obtain ⟨k, hk, hk2, rfl, hsame, hq⟩ := hrel
  have HS := hid hsame; clear hsame
  by_cases hlt : k < p.length
  ·have d1 : decide ((k : Int) < (p.length : Int)) = true := by rw [decide_eq_true_eq]; omega
   obtain ⟨b1, o1, rfl, hb1, hx1, -⟩ := zfK S1.out hlt
   have g1 : wr.cell? ⟨b1, o1 + k, none⟩ = _ := (hq.cell _).trans hx1
   by_cases hlt2 : k < q.length
   ·have d2 : decide ((k : Int) < (q.length : Int)) = true := by rw [decide_eq_true_eq]; omega
    obtain ⟨b2, o2, rfl, hb2, hx2, -⟩ := zfK S2.out hlt2
    have g2 : wr.cell? ⟨b2, o2 + k, none⟩ = _ := (hq.cell _).trans hx2
    have hn := HNOW.out k hlt hlt2 HS.out
    have hst := zqH hlt hlt2 HS.out
    have hz := @zib p[k] q[k]
    have hpt := zlu p[k] q[k]
    generalize p[k] = s1 at *
    generalize q[k] = s2 at *
    have hbl : Op.bytesLess s1.toList s2.toList = zbQ s1 s2 := rfl
    generalize zbQ s1 s2 = bl at *
    have HN := hid hn; have HST := hid (fun h => hst (hz h))
    generalize cmpT s1 s2 = ct at *
    clear hn hst hz hx1 hx2
    rcases hpt with ⟨hc, rfl⟩ | ⟨hc, rfl, heq⟩ | ⟨hc, rfl, heq⟩
    ·have HR := hid (show res = -1 by rw [HN.out (by omega), hc])
     clear hc
     go_wp2
     go_quiet (fail)
     go_wp2
     go_ret
     exact ⟨by rw [HR.out]; rfl, hq.drewN _⟩
    ·have HR := hid (show res = 1 by rw [HN.out (by omega), hc])
     clear hc
     go_wp2
     go_quiet (fail)
     go_wp2
     go_quiet (fail)
     go_wp2
     go_ret
     exact ⟨by rw [HR.out]; rfl, by first | exact hq.drewN _ | exact (hq.drewN _).drewN _⟩
    ·have HS' := hid (HST.out hc)
     clear hc
     go_wp2
     go_quiet (fail)
     go_wp2
     go_quiet (fail)
     go_wp2
     go_roundw
     case rel => exact ⟨k + 1, by omega, by omega, by go_num, HS'.out, hq.drewN _⟩
     case measure => simp [intOf]; omega
   ·have d2 : decide ((k : Int) < (q.length : Int)) = false := by rw [decide_eq_false_iff_not]; omega
    have HR := hid (HEND.out k hk hk2 HS.out (.inr (by omega)))
    have HR2 := hid (show res = 1 by rw [HR.out, if_neg (by omega), if_pos (by omega)])
    clear hx1
    go_wp2
    go_ret
    exact ⟨by rw [HR2.out]; rfl, hq⟩
  ·have d1 : decide ((k : Int) < (p.length : Int)) = false := by rw [decide_eq_false_iff_not]; omega
   have HR := hid (HEND.out k hk hk2 HS.out (.inl (by omega)))
   by_cases hpq : p.length < q.length
   ·have HR2 := hid (show res = -1 by rw [HR.out, if_pos hpq])
    go_wp2
    go_ret
    exact ⟨by rw [HR2.out]; rfl, hq⟩
   ·have HR2 := hid (show res = 0 by rw [HR.out, if_neg hpq, if_neg (by omega)])
    go_wp2
    go_ret
    exact ⟨by rw [HR2.out]; rfl, hq⟩
end Go.Proofs.YtgoapnkdcfcjgaaGreat
