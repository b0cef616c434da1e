/- The walk of the law WideOrder: numbers added one by one, from any place on. -/
import Derived.Test.YtekngocjojfomaaWideWalks2
import Derived.Deep.Cut
import Derived.Deep.DeepCutAuto
namespace Go.Proofs.Ytekngocjojfomaa
open Go.ChangeShapes Go.WideShapes Go.ChangeAt Go.RowKit
set_option linter.unusedVariables false

/-- The first k of l, turned round from place r on. -/
def turned (l : List Int) (r k : Nat) : List Int := (List.range k).map fun j => l.getD ((j + r) % l.length) 0
theorem turned_succ (l : List Int) (r k : Nat) : (turned l r (k + 1)).sum = (turned l r k).sum + l.getD ((k + r) % l.length) 0 := by
  unfold turned
  rw [List.range_succ, List.map_append, List.sum_append]
  simp
theorem turned_mem (l : List Int) (r k : Nat) (hl : 0 < l.length) : ∀ x ∈ turned l r k, x ∈ l := by
  intro x hx
  unfold turned at hx
  obtain ⟨j, _, rfl⟩ := List.mem_map.1 hx
  have : (j + r) % l.length < l.length := Nat.mod_lt _ hl
  rw [List.getD_eq_getElem?_getD, List.getElem?_eq_getElem this]
  exact List.getElem_mem _
theorem turned_all (l : List Int) (r : Nat) (hr : r ≤ l.length) : (turned l r l.length).sum = l.sum := by
  have e : turned l r l.length = l.drop r ++ l.take r := by
    apply List.ext_getElem?
    intro i
    unfold turned
    rw [List.getElem?_map]
    by_cases h : i < l.length
    · rw [List.getElem?_range h, Option.map_some]
      by_cases h2 : i < l.length - r
      · rw [List.getElem?_append_left (by rw [List.length_drop]; exact h2), List.getElem?_drop, Nat.mod_eq_of_lt (by omega), List.getD_eq_getElem?_getD, Nat.add_comm]
        rw [List.getElem?_eq_getElem (by omega)]; rfl
      · rw [List.getElem?_append_right (by rw [List.length_drop]; omega), List.length_drop, List.getElem?_take]
        rw [if_pos (by omega), Nat.mod_eq_sub_mod (by omega), Nat.mod_eq_of_lt (by omega), List.getD_eq_getElem?_getD]
        rw [show i - (l.length - r) = i + r - l.length by omega, List.getElem?_eq_getElem (by omega)]; rfl
    · rw [List.getElem?_eq_none (by simp; omega), List.getElem?_eq_none (by simp; omega)]
      rfl
  rw [e, List.sum_append, Int.add_comm, ← List.sum_append, List.take_append_drop]

theorem cell_alloc {w : World} {o : Obj} {b i : Nat} {v : Value} (hb : b < w.heap.size) (h : w.cell? ⟨b, i, none⟩ = some v) : (w.alloc o).cell? ⟨b, i, none⟩ = some v := by
  rw [World.cell?_alloc_past _ _ _ hb]; exact h
theorem frozen_alloc {w : World} {o : Obj} {b i : Nat} {v : Bool} (hb : b < w.heap.size) (h : w.frozen? ⟨b, i, none⟩ = v) : (w.alloc o).frozen? ⟨b, i, none⟩ = v := by
  rw [World.frozen?_alloc_past _ _ _ hb]; exact h
theorem cell_far {w : World} {B i b j : Nat} {u v : Value} (hne : B ≠ b) (h : w.cell? ⟨b, j, none⟩ = some v) : (w.setCell ⟨B, i, none⟩ u).cell? ⟨b, j, none⟩ = some v := by
  rw [World.cell?_setCell_other _ _ _ _ (fun e => hne (by injection e))]; exact h
theorem cell_here {w : World} {b j : Nat} {u v : Value} (h : w.cell? ⟨b, j, none⟩ = some v) : (w.setCell ⟨b, j, none⟩ u).cell? ⟨b, j, none⟩ = some u := World.cell?_setCell_same _ _ _ h
theorem cell_beside {w : World} {b i j : Nat} {u v : Value} (hne : i ≠ j) (h : w.cell? ⟨b, j, none⟩ = some v) : (w.setCell ⟨b, i, none⟩ u).cell? ⟨b, j, none⟩ = some v := by
  rw [World.cell?_setCell_other _ _ _ _ (fun e => hne (by injection e))]; exact h
theorem frozen_far {w : World} {B i b j : Nat} {u : Value} {v : Bool} (h : w.frozen? ⟨b, j, none⟩ = v) : (w.setCell ⟨B, i, none⟩ u).frozen? ⟨b, j, none⟩ = v := by
  rw [World.frozen?_setCell]; exact h
theorem lt_alloc {w : World} {o : Obj} {b : Nat} (hb : b < w.heap.size) : b < (w.alloc o).heap.size := by simp; omega
/-- What is known of a box of a wide number that was just laid. -/
def Box (w : World) (B : Nat) (x y : Int) : Prop := B < w.heap.size ∧ w.cell? ⟨B, 0, none⟩ = some (.int .i64 x) ∧ w.cell? ⟨B, 1, none⟩ = some (.int .i64 y) ∧ w.frozen? ⟨B, 0, none⟩ = false ∧ w.frozen? ⟨B, 1, none⟩ = false
theorem Box.below {w w' : World} {B : Nat} {x y : Int} (h : Box w B x y) (hb : Below w.heap.size w w') : Box w' B x y :=
  ⟨lt_of_below hb h.1, cellK hb h.1 h.2.1, cellK hb h.1 h.2.2.1, frozenK hb h.1 h.2.2.2.1, frozenK hb h.1 h.2.2.2.2⟩
theorem Box.new (w : World) (x y : Int) (t : TypeId) : Box (w.alloc (.cells #[.int .i64 x, .int .i64 y] t)) w.heap.size x y := ⟨by simp, by simp [go_sem], by simp [go_sem], by simp [go_sem], by simp [go_sem]⟩
def OrdRel (l : List Int) (r : Nat) (w w0 : World) (a b : Int) (bw : Nat) (i : Value) (wr : World) : Prop :=
  ∃ k : Nat, k ≤ l.length ∧ i = .int .i64 k ∧ wr.cell? ⟨bw + 1, 0, none⟩ = some (.int .i64 ((turned l r k).sum / 4294967296)) ∧ wr.cell? ⟨bw + 1, 1, none⟩ = some (.int .i64 ((turned l r k).sum % 4294967296)) ∧
    wr.frozen? ⟨bw + 1, 0, none⟩ = false ∧ wr.frozen? ⟨bw + 1, 1, none⟩ = false ∧ wr.cell? ⟨bw, 0, none⟩ = some (.int .i64 a) ∧ wr.cell? ⟨bw, 1, none⟩ = some (.int .i64 b) ∧ bw + 1 < wr.heap.size ∧ Below bw w0 wr ∧ Below w.heap.size w wr

/-- The sum's box C and the total's box D, as they are in a world. -/
structure Held (w : World) (D : Nat) (s t a b : Int) : Prop where
  c0 : w.cell? ⟨D + 1, 0, none⟩ = some (.int .i64 s)
  c1 : w.cell? ⟨D + 1, 1, none⟩ = some (.int .i64 t)
  f0 : w.frozen? ⟨D + 1, 0, none⟩ = false
  f1 : w.frozen? ⟨D + 1, 1, none⟩ = false
  d0 : w.cell? ⟨D, 0, none⟩ = some (.int .i64 a)
  d1 : w.cell? ⟨D, 1, none⟩ = some (.int .i64 b)
  lt : D + 1 < w.heap.size
theorem held_of {wr w3 : World} {D : Nat} {s t a b : Int} (hl : D < wr.heap.size) (hz : D + 1 < w3.heap.size) (hB : Below wr.heap.size wr w3) (x0 : w3.cell? ⟨D + 1, 0, none⟩ = some (.int .i64 s)) (x1 : w3.cell? ⟨D + 1, 1, none⟩ = some (.int .i64 t))
    (i0 : w3.frozen? ⟨D + 1, 0, none⟩ = false) (i1 : w3.frozen? ⟨D + 1, 1, none⟩ = false) (p0 : wr.cell? ⟨D, 0, none⟩ = some (.int .i64 a)) (p1 : wr.cell? ⟨D, 1, none⟩ = some (.int .i64 b)) : Held w3 D s t a b :=
  ⟨x0, x1, i0, i1, cellK hB hl p0, cellK hB hl p1, hz⟩
theorem set2 {w : World} {D : Nat} {s t a b s' t' : Int} (h : Held w D s t a b) : Held ((w.setCell ⟨D + 1, 0, none⟩ (.int .i64 s')).setCell ⟨D + 1, 1, none⟩ (.int .i64 t')) D s' t' a b :=
  ⟨cell_beside (by omega) (cell_here h.c0), cell_here (cell_beside (by omega) h.c1), frozen_far (frozen_far h.f0), frozen_far (frozen_far h.f1), cell_far (by omega) (cell_far (by omega) h.d0), cell_far (by omega) (cell_far (by omega) h.d1), by simpa [World.setCell] using h.lt⟩
theorem setFar {w : World} {D B i : Nat} {s t a b : Int} {v : Value} (h : Held w D s t a b) (h1 : B ≠ D + 1) (h2 : B ≠ D) : Held (w.setCell ⟨B, i, none⟩ v) D s t a b :=
  ⟨cell_far h1 h.c0, cell_far h1 h.c1, frozen_far h.f0, frozen_far h.f1, cell_far h2 h.d0, cell_far h2 h.d1, by simpa [World.setCell] using h.lt⟩
theorem setNew {w : World} {D : Nat} {s t a b : Int} {o : Obj} (h : Held w D s t a b) : Held (w.alloc o) D s t a b :=
  ⟨cell_alloc h.lt h.c0, cell_alloc h.lt h.c1, frozen_alloc h.lt h.f0, frozen_alloc h.lt h.f1, cell_alloc (by have := h.lt; omega) h.d0, cell_alloc (by have := h.lt; omega) h.d1, lt_alloc h.lt⟩
/-- The round's last world: held, and what was below the total's box is as it was. -/
def Ends (w3 wf : World) (D : Nat) (s t a b : Int) : Prop := Held wf D s t a b ∧ ∀ B, B ≤ D → Below B w3 wf
theorem shape_new {w3 : World} {D : Nat} {s t a b : Int} (h : Held w3 D s t a b) (s' t' : Int) (o : Obj) :
    Ends w3 (((w3.setCell ⟨D + 1, 0, none⟩ (.int .i64 s')).setCell ⟨D + 1, 1, none⟩ (.int .i64 t')).alloc o) D s' t' a b :=
  ⟨setNew (set2 h), fun B hB => (((Below.refl _ _).setCell (by show B ≤ D + 1; omega) _).setCell (by show B ≤ D + 1; omega) _).alloc (by have := h.lt; simp [World.setCell]; omega) _⟩
theorem shape_old {w3 : World} {D B : Nat} {s t a b : Int} (h : Held w3 D s t a b) (h1 : D + 1 < B) (h2 : D < B) (s' t' : Int) (u v : Value) :
    Ends w3 ((((w3.setCell ⟨B, 0, none⟩ u).setCell ⟨B, 1, none⟩ v).setCell ⟨D + 1, 0, none⟩ (.int .i64 s')).setCell ⟨D + 1, 1, none⟩ (.int .i64 t')) D s' t' a b :=
  ⟨set2 (setFar (setFar h (by omega) (by omega)) (by omega) (by omega)), fun C hC => ((((Below.refl _ _).setCell (by show C ≤ B; omega) _).setCell (by show C ≤ B; omega) _).setCell (by show C ≤ D + 1; omega) _).setCell (by show C ≤ D + 1; omega) _⟩
theorem ord_next {l : List Int} {r k D : Nat} {w w0 wr w3 wf : World} {a b s' sh' sl' : Int} (hlt : k < l.length) (hS : (turned l r (k + 1)).sum = s') (h1 : s' / 4294967296 = sh') (h2 : s' % 4294967296 = sl')
    (hb0 : Below D w0 wr) (hb : Below w.heap.size w wr) (hsz : D + 1 < wr.heap.size) (hB3 : Below wr.heap.size wr w3) (hwD : w.heap.size ≤ D) (h : Ends w3 wf D sh' sl' a b) : OrdRel l r w w0 a b D (.int .i64 ((k : Int) + 1)) wf :=
  ⟨k + 1, by omega, by go_num, by rw [hS, h1]; exact h.1.c0, by rw [hS, h2]; exact h.1.c1, h.1.f0, h.1.f1, h.1.d0, h.1.d1, h.1.lt,
    (hb0.trans (hB3.mono (by omega))).trans (h.2 D (Nat.le_refl _)), (hb.trans (hB3.mono hb.size)).trans (h.2 _ hwD)⟩
set_option maxHeartbeats 1600000 in
/-- The law behind the cut and the turn of 'from': numbers l (at most 40), from place f on. -/
theorem order_core (w : World) (A : Option Addr) (c N : Nat) (F : Int) (l : List Int) (f : Int) (hN : (N ≤ 40 ∧ l.length = N) ∨ (40 < N ∧ l.length = 40 ∧ ∃ b off, A = some ⟨b, off, none⟩)) (hF : (0 ≤ F ∧ f = F) ∨ (F < 0 ∧ f = -(F + 1))) (hNc : N ≤ c) (hF1 : -9223372036854775808 ≤ F) (hF2 : F ≤ 9223372036854775807)
    (hv : Sl w w.heap.size (.slice A l.length c) (ivals l)) (hr : ∀ x ∈ l, -9223372036854775808 ≤ x ∧ x ≤ 9223372036854775807) :
    Calls Try.prog 7 #[.slice A N c, .int .i64 F] w (Gives (.bool true) w) := by
  have hl : l.length ≤ 40 := by omega
  have hf : 0 ≤ f := by omega
  have hf' : f ≤ 9223372036854775807 := by omega
  obtain ⟨r, hr0, hrn⟩ : ∃ r : Nat, r ≤ l.length ∧ f % ((l.length : Int) + 1) = r := ⟨(f % ((l.length : Int) + 1)).toNat, by
    have := Int.emod_lt_of_pos f (show (0 : Int) < (l.length : Int) + 1 by omega); omega, by
    have := Int.emod_nonneg f (show (l.length : Int) + 1 ≠ 0 by omega); omega⟩
  obtain ⟨s1, s2, s3⟩ := small_sum l 40 hl (by omega) hr
  have ht := fun W h => wideTotal_any (.slice A l.length c) l W (by omega) h hr
  unfold FitsV at ht
  simp only [s3, if_true] at ht
  have hta := turned_all l r hr0
  obtain ⟨A', c', e, hc1, hc2, hA⟩ := id hv
  injection e with e1 e2 e3
  subst e1; subst e3
  clear e2
  rw [ivals_len] at hc1 hA
  generalize hSa : l.sum / 4294967296 = a at *
  generalize hSb : l.sum % 4294967296 = b at *
  unfold wval at ht
  have HV := hid hv; have HT := hid ht; have HA := hid hA; have HR := hid hr; have HRN := hid hrn; have HSa := hid hSa; have HSb := hid hSb; have HTA := hid hta; have HN := hid hN; have HF := hid hF
  clear hv hA s1 s2 s3 ht hr hrn hSa hSb hta hN hF
  go_enter Try.func7, Try.ntmps7
  go_upto_if 13 with (fail)
  go_cut [0] (fun s0 wx => s0 = .slice A l.length c ∧ w = wx)
  case first =>
    rcases HN.out with ⟨h, h'⟩ | ⟨h, h', b, off, rfl⟩
    · have H' := hid h'; clear h'
      go_wp2
      go_meet
      case rel => exact ⟨by rw [H'.out], rfl⟩
    · have H' := hid h'; clear h'
      go_wp2
      go_meet
      case rel => exact ⟨by rw [H'.out], rfl⟩
  case rest =>
  obtain ⟨rfl, rfl⟩ := hcut
  go_upto_if 17 with (fail)
  go_cut [1] (fun s1 wx => s1 = .int .i64 f ∧ w = wx)
  case first =>
    rcases HF.out with ⟨h, h'⟩ | ⟨h, h'⟩
    · have H' := hid h'; clear h'
      go_wp2
      go_meet
      case rel => exact ⟨by rw [H'.out], rfl⟩
    · have H' := hid h'; clear h'
      go_wp2
      go_meet
      case rel => exact ⟨by rw [H'.out], rfl⟩
  case rest =>
  obtain ⟨rfl, rfl⟩ := hcut
  go_wp2_with fail
  refine (HT.out _ HV.out).mono ?_
  rintro e w1 ⟨rfl, hb1⟩
  go_wp2
  have hW0 : Below w.heap.size w ((w1.alloc (.cells #[.int .i64 a, .int .i64 b] 23)).alloc (.cells #[.int .i64 0, .int .i64 0] 23)) := (by repeat' first | with_reducible exact Below.refl _ _ | assumption | (with_reducible refine Below.alloc ?_ ?_ _) | (with_reducible refine Below.setCell ?_ ?_ _) | (with_reducible refine Below.drew ?_) | (with_reducible refine below_drewN ?_ _) | (with_reducible refine Below.trans ?_ (Below.mono ‹_› ?_)) | omega | (with_reducible refine le_alloc ?_) | (with_reducible refine le_setCell ?_) | (with_reducible refine le_drew ?_) | (with_reducible refine le_drewN ?_) | (with_reducible refine Nat.le_trans ?_ (Below.size ‹_›)) | (simp <;> omega))
  go_loopw [8] (fun i wr => OrdRel l r w ((w1.alloc (.cells #[.int .i64 a, .int .i64 b] 23)).alloc (.cells #[.int .i64 0, .int .i64 0] 23)) a b w1.heap.size i wr) (fun i _ => l.length - (intOf i).toNat)
  case atStart => exact ⟨0, by omega, rfl, by simp [go_sem, turned], by simp [go_sem, turned], by simp [go_sem], by simp [go_sem], by simp [go_sem], by simp [go_sem], by simp, Below.refl _ _, hW0⟩
  case round =>
    obtain ⟨k, hk, rfl, q0, q1, f0, f1, p0, p1, hsz, hb0, hb⟩ := hrel
    have hl1 : w1.heap.size < wr.heap.size := by omega
    by_cases hlt : k < l.length
    · obtain ⟨b', off, rfl, hbl, hcell⟩ := HA.out (by omega)
      have hx0 := HR.out (l.getD ((k + r) % l.length) 0) (by
        have : (k + r) % l.length < l.length := Nat.mod_lt _ (by omega)
        rw [List.getD_eq_getElem?_getD, List.getElem?_eq_getElem this]; simp)
      have hts := turned_succ l r k
      have hbd := small_sum (turned l r k) 40 (by simp [turned]; omega) (by omega) (fun x hx => HR.out x (turned_mem l r k (by omega) x hx))
      have hbd' := small_sum (turned l r (k + 1)) 40 (by simp [turned]; omega) (by omega) (fun x hx => HR.out x (turned_mem l r (k + 1) (by omega) x hx))
      have hpos : (k + r) % l.length < l.length := Nat.mod_lt _ (by omega)
      have g1 : wr.cell? ⟨b', off + (k + r) % l.length, none⟩ = some (.int .i64 (l.getD ((k + r) % l.length) 0)) := by
        refine cellK hb hbl (hcell _ _ ?_)
        simp [ivals, List.getElem?_eq_getElem hpos]
      have hst := wide_step (turned l r k).sum (l.getD ((k + r) % l.length) 0)
      rw [← hts] at hst
      have hmx : MayB (l.getD ((k + r) % l.length) 0 / 4294967296) (l.getD ((k + r) % l.length) 0 % 4294967296) = true := by unfold MayB; rw [decide_eq_true_eq]; omega
      have hadd := fun W => wideAdd_ok ((turned l r k).sum / 4294967296) ((turned l r k).sum % 4294967296) (l.getD ((k + r) % l.length) 0 / 4294967296) (l.getD ((k + r) % l.length) 0 % 4294967296) W hbd.2.2 hmx
      rw [hst.1, hst.2] at hadd
      unfold FitsV at hadd
      simp only [hbd'.2.2, if_true] at hadd
      have hof := wideOf_any (l.getD ((k + r) % l.length) 0)
      unfold wval at hadd hof
      have hidx : (((k + r) % l.length : Nat) : Int) = ((k : Int) + (r : Int)) % (l.length : Int) := by simp
      have hrn : f % ((l.length : Int) + 1) = (r : Int) := HRN.out
      have hidx' : ((k : Int) + (r : Int)) % (l.length : Int) = (((k + r) % l.length : Nat) : Int) := hidx.symm
      generalize l.getD ((k + r) % l.length) 0 = x at *
      generalize hS : (turned l r (k + 1)).sum = s' at *
      generalize (turned l r k).sum = s at *
      generalize s / 4294967296 = sh at *
      generalize s % 4294967296 = sl at *
      generalize hS1 : s' / 4294967296 = sh' at *
      generalize hS2 : s' % 4294967296 = sl' at *
      generalize x / 4294967296 = xh at *
      generalize x % 4294967296 = xl at *
      generalize (k + r) % l.length = m at *
      have HO := hid hof; have HAD := hid hadd; have HS := hid hS; have HS1 := hid hS1; have HS2 := hid hS2
      clear hof hadd hS hS1 hS2 hst hts hx0 hbd hbd' hidx hmx hcell
      have t1 : IntKind.i64.wrap ((l.length : Int) + 1) = (l.length : Int) + 1 := IntWalk.i64_in _ (by omega)
      have t2 : f.tmod ((l.length : Int) + 1) = (r : Int) := by rw [Int.tmod_eq_emod_of_nonneg hf]; exact hrn
      have t3 : IntKind.i64.wrap ((k : Int) + (r : Int)) = (k : Int) + (r : Int) := IntWalk.i64_in _ (by omega)
      have t4 : ((k : Int) + (r : Int)).tmod (l.length : Int) = (m : Int) := by rw [Int.tmod_eq_emod_of_nonneg (by omega)]; exact hidx'
      have t5 : ((l.length : Int) + 1 == 0) = false := by rw [beq_eq_false_iff_ne]; omega
      have t6 : ((l.length : Int) == 0) = false := by rw [beq_eq_false_iff_ne]; omega
      have t7 : (0 : Int) ≤ (m : Int) := by omega
      have t8 : (m : Int) < (l.length : Int) := by omega
      have hl2 : b' < wr.heap.size := by have := hb.size; omega
      have t9 : ¬ l = [] := by rintro rfl; simp at hlt
      have t10 : ¬ ((l.length : Int) = 0) := by omega
      have t11 : ¬ (l.length = 0) := by omega
      have m1 := Nat.ne_of_gt hsz; have m2 := Nat.ne_of_lt hsz; have m3 := Nat.ne_of_gt hl2; have m4 := Nat.ne_of_lt hl2
      have t12 : ¬ ((l.length : Int) + 1 = 0) := by omega
      have t13 : ¬ ((l.length : Int) = -1) := by omega
      clear hrn hidx'
      go_wp2
      go_region_held3 (fun w' => w'.cell? ⟨w1.heap.size + 1, 0, none⟩ = some (.int .i64 sh) ∧ w'.cell? ⟨w1.heap.size + 1, 1, none⟩ = some (.int .i64 sl) ∧ w'.cell? ⟨b', off + m, none⟩ = some (.int .i64 x)) (go_keep)
        (first
          | (go_at_call 16; (with_reducible refine (HO.out wr.drew).mono ?_); rintro e w2 ⟨rfl, hb2⟩; have hz2 : w1.heap.size + 1 < w2.heap.size := lt_of_below hb2 hsz; have hz3 : b' < w2.heap.size := lt_of_below hb2 hl2; have n1 := Nat.ne_of_gt hz2; have n2 := Nat.ne_of_lt hz2; have n3 := Nat.ne_of_gt hz3; have n4 := Nat.ne_of_lt hz3; have y0 := cellK hb2 hsz q0; have y1 := cellK hb2 hsz q1; have y2 := cellK hb2 hl2 g1; have e0 := frozenK hb2 hsz f0; have e1 := frozenK hb2 hsz f1; have hB2 : Below wr.heap.size wr w2 := (Below.refl _ _).drew.trans hb2)
          | (go_at_call 16; (with_reducible refine (HO.out ((wr.alloc (.cells #[.int .i64 0, .int .i64 0] 23)).drew)).mono ?_); rintro e w2 ⟨rfl, hb2⟩; have hz2 : w1.heap.size + 1 < w2.heap.size := lt_of_below hb2 (lt_alloc hsz); have hz3 : b' < w2.heap.size := lt_of_below hb2 (lt_alloc hl2); have n1 := Nat.ne_of_gt hz2; have n2 := Nat.ne_of_lt hz2; have n3 := Nat.ne_of_gt hz3; have n4 := Nat.ne_of_lt hz3; have y0 := cellK hb2 (lt_alloc hsz) (cell_alloc hsz q0); have y1 := cellK hb2 (lt_alloc hsz) (cell_alloc hsz q1); have y2 := cellK hb2 (lt_alloc hl2) (cell_alloc hl2 g1); have e0 := frozenK hb2 (lt_alloc hsz) (frozen_alloc hsz f0); have e1 := frozenK hb2 (lt_alloc hsz) (frozen_alloc hsz f1); have hbx : Box w2 wr.heap.size 0 0 := (show Box ((wr.alloc (.cells #[.int .i64 0, .int .i64 0] 23)).drew) wr.heap.size 0 0 from Box.new wr 0 0 23).below hb2; have hB2 : Below wr.heap.size wr w2 := (((Below.refl _ _).alloc (Nat.le_refl _) _).drew).trans (hb2.mono (le_drew (le_alloc (Nat.le_refl _)))))
          | (go_at_call 28; (with_reducible refine (HAD.out w2).mono ?_); rintro e w3 ⟨rfl, hb3⟩; have x0 := cellK hb3 hz2 y0; have x1 := cellK hb3 hz2 y1; have x2 := cellK hb3 hz3 y2; have i0 := frozenK hb3 hz2 e0; have i1 := frozenK hb3 hz2 e1; have hz5 : w1.heap.size + 1 < w3.heap.size := lt_of_below hb3 hz2; have n5 := Nat.ne_of_gt hz5; have n6 := Nat.ne_of_lt hz5; have hby : Box w3 wr.heap.size 0 0 := hbx.below hb3; have hc0 := hby.2.1; have hc1 := hby.2.2.1; have hc2 := hby.2.2.2.1; have hc3 := hby.2.2.2.2; have hB3 : Below wr.heap.size wr w3 := hB2.trans (hb3.mono hB2.size))
          | (go_at_call 28; (with_reducible refine (HAD.out w2).mono ?_); rintro e w3 ⟨rfl, hb3⟩; have x0 := cellK hb3 hz2 y0; have x1 := cellK hb3 hz2 y1; have x2 := cellK hb3 hz3 y2; have i0 := frozenK hb3 hz2 e0; have i1 := frozenK hb3 hz2 e1; have hz5 : w1.heap.size + 1 < w3.heap.size := lt_of_below hb3 hz2; have n5 := Nat.ne_of_gt hz5; have n6 := Nat.ne_of_lt hz5; have hB3 : Below wr.heap.size wr w3 := hB2.trans (hb3.mono hB2.size))
          | (go_at_call 28; (with_reducible refine (HAD.out (w2.alloc (.cells #[.int .i64 0, .int .i64 0] 23))).mono ?_); rintro e w3 ⟨rfl, hb3⟩; have x0 := cellK hb3 (lt_alloc hz2) (cell_alloc hz2 y0); have x1 := cellK hb3 (lt_alloc hz2) (cell_alloc hz2 y1); have x2 := cellK hb3 (lt_alloc hz3) (cell_alloc hz3 y2); have i0 := frozenK hb3 (lt_alloc hz2) (frozen_alloc hz2 e0); have i1 := frozenK hb3 (lt_alloc hz2) (frozen_alloc hz2 e1); have hz5 : w1.heap.size + 1 < w3.heap.size := lt_of_below hb3 (lt_alloc hz2); have n5 := Nat.ne_of_gt hz5; have n6 := Nat.ne_of_lt hz5; have hby : Box w3 w2.heap.size 0 0 := (Box.new w2 0 0 23).below hb3; have hc0 := hby.2.1; have hc1 := hby.2.2.1; have hc2 := hby.2.2.2.1; have hc3 := hby.2.2.2.2; have hB3 : Below wr.heap.size wr w3 := (hB2.alloc hB2.size _).trans (hb3.mono (le_alloc hB2.size))))
      all_goals go_wp2
      all_goals
        have hs := held_of hl1 hz5 hB3 x0 x1 i0 i1 p0 p1
        refine ⟨ord_next hlt HS.out HS1.out HS2.out hb0 hb hsz hB3 hb1.size ?_, by simp [intOf]; omega⟩
        first | exact shape_new hs _ _ _ | exact shape_old hs (by omega) (by omega) _ _ _ _
    · obtain rfl : k = l.length := by omega
      have e1 : (turned l r l.length).sum / 4294967296 = a := by rw [HTA.out, HSa.out]
      have e2 : (turned l r l.length).sum % 4294967296 = b := by rw [HTA.out, HSb.out]
      rw [e1] at q0
      rw [e2] at q1
      clear e1 e2
      go_wp2_with fail
      refine (lives_true _).mono ?_
      rintro e w6 ⟨rfl, hb6⟩
      go_wp2
      go_ret
      exact ⟨rfl, (by repeat' first | with_reducible exact Below.refl _ _ | assumption | (with_reducible refine Below.alloc ?_ ?_ _) | (with_reducible refine Below.setCell ?_ ?_ _) | (with_reducible refine Below.drew ?_) | (with_reducible refine below_drewN ?_ _) | (with_reducible refine Below.trans ?_ (Below.mono ‹_› ?_)) | omega | (with_reducible refine le_alloc ?_) | (with_reducible refine le_setCell ?_) | (with_reducible refine le_drew ?_) | (with_reducible refine le_drewN ?_) | (with_reducible refine Nat.le_trans ?_ (Below.size ‹_›)) | (simp <;> omega))⟩
theorem walk_WideOrder (w : World) (v : Value) (l : List Int) (hv : Sl w w.heap.size v (ivals l)) (hr : ∀ x ∈ l, -9223372036854775808 ≤ x ∧ x ≤ 9223372036854775807) (F : Int) (hF : -9223372036854775808 ≤ F ∧ F ≤ 9223372036854775807) :
    Calls Try.prog 7 #[v, .int .i64 F] w (Gives (.bool true) w) := by
  have hv0 := hv
  obtain ⟨A, c, rfl, hc1, hc2, hA⟩ := hv
  rw [ivals_len] at hv0 hA hc1 ⊢
  have hff : ∃ f : Int, (0 ≤ F ∧ f = F) ∨ (F < 0 ∧ f = -(F + 1)) := by
    rcases Int.lt_or_le F 0 with h | h
    · exact ⟨_, .inr ⟨h, rfl⟩⟩
    · exact ⟨_, .inl ⟨h, rfl⟩⟩
  obtain ⟨f, hf⟩ := hff
  rcases Nat.lt_or_ge 40 l.length with h | h
  · have hl : (l.take 40).length = 40 := by rw [List.length_take]; omega
    obtain ⟨b, off, hA', _⟩ := hA (by omega)
    exact order_core w A c l.length F (l.take 40) f (.inr ⟨h, hl, b, off, hA'⟩) hf hc1 hF.1 hF.2 (by rw [hl]; exact hv0.front (by omega)) (fun x hx => hr x (List.mem_of_mem_take hx))
  · exact order_core w A c l.length F l f (.inl ⟨h, rfl⟩) hf hc1 hF.1 hF.2 hv0 hr
end Go.Proofs.Ytekngocjojfomaa
