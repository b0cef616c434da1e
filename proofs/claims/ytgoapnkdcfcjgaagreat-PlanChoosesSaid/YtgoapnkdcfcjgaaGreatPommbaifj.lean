/- 21 texts of this claim, in build order. -/
import Derived.Test.YtgoapnkdcfcjgaaGreatPbdfgmcpj
import Derived.Test.YtgoapnkdcfcjgaaGreatPkkdpconn
import Derived.Laws.RangeString
import Derived.Laws.RangeAny
import Derived.ScopeJumps
import Derived.WalkMore
import Derived.Deep.Cut
import Derived.Deep.DeepCutAuto
import Derived.Laws.BytesArg
import Derived.Deep.AppendLies
set_option linter.unusedVariables false
set_option linter.unusedSimpArgs false
namespace Go.Proofs.YtgoapnkdcfcjgaaGreat
open Go.ChangeShapes Go.WideShapes Go.ChangeAt Go.RowKit
def okN (n : Nat) : Prop := (97 <= n /\ n <= 122) \/ (48 <= n /\ n <= 57) \/ n = 45 \/ n = 95
instance (n : Nat) : Decidable (okN n) := by unfold okN; infer_instance
def zez (s : ByteArray) : Prop := 1 <= s.size /\ s.size <= 12 /\ ∀ j (h : j < s.size), okN (s[j]'h).toNat
instance (s : ByteArray) : Decidable (zez s) := by unfold zez; infer_instance
def zaq (s : ByteArray) : Bool := decide (zez s)
theorem zqN (s : ByteArray) : s.toList.isEmpty = decide (s.size = 0) := by
 rw [ByteArray.toList_eq]
 show s.data.toList.isEmpty = decide (s.data.size = 0)
 cases h : s.data with | mk l => cases l <;> simp
def znL (s : ByteArray) (w wr : World) : Prop := ∃ pos : Nat, wr = w.iter s pos /\ pos <= s.size /\ ∀ j (h : j < s.size), j < pos -> okN (s[j]'h).toNat
theorem zmS {s : ByteArray} {pos : Nat} (hp : pos < s.size) (h : ¬ okN (s[pos]'hp).toNat) : zaq s = false := by
 unfold zaq; rw [decide_eq_false_iff_not]; intro hn; exact h (hn.2.2 pos hp)
set_option maxHeartbeats 800000 in
theorem zkK (s : ByteArray) (w : World) (hs : s.size <= 9223372036854775807) :
  Calls Tryz.prog 88 #[.string s] w (zY (.bool (zaq s)) w) := by
 go_enter Tryz.func88, Tryz.ntmps88
 go_wp2
 go_loopw [4] (fun _ wr => znL s w wr) (fun _ wr => s.size - wr.iterPos w.heap.size)
 case atStart => exact ⟨0, rfl, by omega, fun j h h' => by omega⟩
 case round =>
  obtain ⟨pos, rfl, hp, hok⟩ := hrel
  have HOK := hid hok; clear hok
  by_cases hlt : pos < s.size
  ·have hno := fun h => zmS (s := s) hlt h
   have HNO := hid hno; clear hno
   by_cases ha : (s[pos]'hlt).toNat < 128
   ·have hnx : ∀ ty, (Instr.next (.pointer (some ⟨w.heap.size, 0, none⟩)) true ty).run Tryz.prog (w.iter s pos) = _ := fun ty => run_next_ascii w s pos ty hlt ha
    generalize hn : (s[pos]'hlt).toNat = n at *
    have HN := hid hn; clear hn
    by_cases hok : okN n
    ·have hok' := hok
     unfold okN at hok'
     have HO := hid hok; clear hok
     have hrel1 : znL s w (w.iter s (pos + 1)) := ⟨pos + 1, rfl, by omega, fun j h hj => by
      by_cases e : j = pos
      ·subst e; rw [HN.out]; exact HO.out
      ·exact HOK.out j h (by omega)⟩
     have HR := hid hrel1; clear hrel1
     rcases hok' with ⟨h1, h2⟩ | ⟨h1, h2⟩ | rfl | rfl
     all_goals
      go_wp2
      go_roundw
      case rel => exact HR.out
      case measure => simp; omega
    ·have hno := HNO.out hok
     unfold okN at hok
     have HNB := hid hno
     have h45 : ((n : Int) == 45) = false := by rw [beq_eq_false_iff_ne]; omega
     have h95 : ((n : Int) == 95) = false := by rw [beq_eq_false_iff_ne]; omega
     have hcase : ((122 < n) \/ (57 < n /\ n < 97) \/ (n < 48)) := by omega
     clear hno hok
     rcases hcase with h | ⟨h, h'⟩ | h
     all_goals
      go_wp2
      all_goals first | (go_ret; exact ⟨by rw [HNB.out]; rfl, (Below.refl _ _).alloc (Nat.le_refl _) _⟩) | (exfalso; rename_i hh; simp at hh; omega)
   ·have hnx : ∀ ty, (Instr.next (.pointer (some ⟨w.heap.size, 0, none⟩)) true ty).run Tryz.prog (w.iter s pos) = _ := fun ty => run_next_any w s pos ty hlt
    have hd := (decode_high s pos hlt (by omega)).1
    have hle := decode_le s pos
    have hno := HNO.out (by unfold okN; omega)
    have HNB := hid hno; clear hno
    generalize Utf8.decode s pos = d at *
    obtain ⟨r, k⟩ := d
    simp only at hd hle hnx
    have h45 : ((r : Int) == 45) = false := by rw [beq_eq_false_iff_ne]; omega
    have h95 : ((r : Int) == 95) = false := by rw [beq_eq_false_iff_ne]; omega
    go_wp2
    all_goals first | (go_ret; exact ⟨by rw [HNB.out]; rfl, (Below.refl _ _).alloc (Nat.le_refl _) _⟩) | (exfalso; rename_i hh; simp at hh; omega)
  ·have hnx : ∀ ty, (Instr.next (.pointer (some ⟨w.heap.size, 0, none⟩)) true ty).run Tryz.prog (w.iter s pos) = _ := fun ty => run_next_end w s pos ty hlt
   have hB : zaq s = decide (1 <= s.size /\ s.size <= 12) := by
    unfold zaq; rw [decide_eq_decide]
    exact ⟨fun h => ⟨h.1, h.2.1⟩, fun h => ⟨h.1, h.2, fun j hj => HOK.out j hj (by omega)⟩⟩
   have HB := hid hB; clear hB
   have hemp := zqN s
   by_cases h1 : 1 <= s.size
   ·have he : s.toList.isEmpty = false := by rw [hemp, decide_eq_false_iff_not]; omega
    clear hemp
    by_cases h12 : s.size <= 12
    ·have hB : zaq s = true := by rw [HB.out, decide_eq_true_eq]; exact ⟨h1, h12⟩
     have HB2 := hid hB; clear hB
     have d1 : decide ((s.size : Int) <= 12) = true := by rw [decide_eq_true_eq]; omega
     go_wp2
     go_ret
     exact ⟨by rw [HB2.out]; rfl, (Below.refl _ _).alloc (Nat.le_refl _) _⟩
    ·have hB : zaq s = false := by rw [HB.out, decide_eq_false_iff_not]; omega
     have HB2 := hid hB; clear hB
     have d1 : decide ((s.size : Int) <= 12) = false := by rw [decide_eq_false_iff_not]; omega
     go_wp2
     go_ret
     exact ⟨by rw [HB2.out]; rfl, (Below.refl _ _).alloc (Nat.le_refl _) _⟩
   ·have he : s.toList.isEmpty = true := by rw [hemp, decide_eq_true_eq]; omega
    clear hemp
    have hB : zaq s = false := by rw [HB.out, decide_eq_false_iff_not]; omega
    have HB2 := hid hB; clear hB
    go_wp2
    go_ret
    exact ⟨by rw [HB2.out]; rfl, (Below.refl _ _).alloc (Nat.le_refl _) _⟩
def zL (p : List ByteArray) : List Value := p.map Value.string
theorem zat (p : List ByteArray) : (zL p).length = p.length := by simp [zL]
def zi6 (p : List ByteArray) : Prop := ∀ s ∈ p, s.size <= 9223372036854775807
theorem Sl.str {w : World} {B : Nat} {A : Option Addr} {p : List ByteArray} {k : Nat} (h : 0 < (zL p).length -> ∃ b off, A = some ⟨b, off, none⟩ /\ b < B /\ ∀ j u, (zL p)[j]? = some u -> w.cell? ⟨b, off + j, none⟩ = some u) (hk : k < p.length) :
  ∃ b off, A = some ⟨b, off, none⟩ /\ b < B /\ w.cell? ⟨b, off + k, none⟩ = some (.string p[k]) := by
 obtain ⟨b, off, e, hb, hc⟩ := h (by rw [zat]; omega)
 exact ⟨b, off, e, hb, hc k _ (by simp [zL, List.getElem?_eq_getElem hk])⟩
theorem zi7 (s : ByteArray) (w : World) (hs : s.size <= 9223372036854775807) :
  Calls Tryz.prog 120 #[.string s] w (zY (.bool (!zaq s)) w) := by
 have hn := fun W => zkK s W hs
 have HN := hid hn; clear hn
 go_enter Tryz.func120, Tryz.ntmps120
 go_wp2_with fail
 refine (HN.out _).mono ?_
 rintro e w1 ⟨rfl, hb⟩
 go_wp2
 go_ret
 exact ⟨rfl, hb⟩
def mayB (p : List ByteArray) : Bool := decide (p.length <= 3) && p.all zaq
def IdxRel (p : List ByteArray) (w : World) (i : Value) (wr : World) : Prop := ∃ k : Nat, i = .int .i64 k /\ k <= p.length /\ (p.take k).all zaq = true /\ Below w.heap.size w wr
def zrc (p : List ByteArray) (w : World) (e : Ending) (w' : World) : Prop := ∃ i : Int, e = .returned (.int .i64 i) /\ (decide (0 <= i) = !p.all zaq) /\ Below w.heap.size w w'
set_option maxHeartbeats 400000 in
theorem zi8 (v : Value) (p : List ByteArray) (w : World) (hv : Sl w w.heap.size v (zL p)) (hs : zi6 p) (hl : p.length <= 9223372036854775807) :
  Calls Tryz.prog 121 #[v, .func (Fn.func 120) #[] #[]] w (zrc p w) := by
 obtain ⟨A, c, rfl, hc1, hc2, hA⟩ := hv
 simp only [zat] at hc1 ⊢
 have HA := hid hA; clear hA
 have HS := hid hs; clear hs
 go_enter Tryz.func121, Tryz.ntmps121
 go_wp2
 go_loopw [8] (fun i wr => IdxRel p w i wr) (fun i _ => p.length - (intOf i).toNat)
 case atStart => exact ⟨0, rfl, by omega, by simp, Below.refl _ _⟩
 case round =>
  obtain ⟨k, rfl, hk, hall, hb⟩ := hrel
  have HALL := hid hall; have HB := hid hb; clear hall hb
  by_cases hlt : k < p.length
  ·obtain ⟨b, off, rfl, hbl, hcell⟩ := Sl.str HA.out hlt
   have hcell := zc HB.out hbl hcell
   have hsz := HS.out _ (List.getElem_mem hlt)
   have e1 : (p.take (k + 1)).all zaq = ((p.take k).all zaq && zaq p[k]) := by
    rw [List.take_succ_eq_append_getElem hlt, List.all_append]; simp
   have e2 : zaq p[k] = false -> p.all zaq = false := fun h => by
    rw [List.all_eq_false]; exact ⟨_, List.getElem_mem hlt, by rw [h]; simp⟩
   generalize p[k] = s at *
   have hn := fun W => zi7 s W hsz
   have HN := hid hn; have E1 := hid e1; have E2 := hid e2; clear hn e1 e2
   go_wp2_with fail
   refine (HN.out _).mono ?_
   rintro e w1 ⟨rfl, hb1⟩
   have HB1 := hid (HB.out.trans (hb1.mono HB.out.size)); clear hb1
   cases hnb : zaq s with
   | true =>
     have HNB := hid hnb; clear hnb
     simp only [Bool.not_true]
     go_wp2
     go_roundw
     case rel => exact ⟨k + 1, by go_num, by omega, by rw [E1.out, HALL.out, HNB.out]; rfl, HB1.out⟩
     case measure => simp [intOf]; omega
   | false =>
     have HNB := hid (E2.out hnb); clear hnb
     simp only [Bool.not_false]
     go_wp2
     go_ret
     exact ⟨(k : Int), rfl, by rw [HNB.out]; simp, HB1.out⟩
  ·have hall : p.all zaq = true := by
    have := HALL.out
    rwa [List.take_of_length_le (by omega)] at this
   have HP := hid hall; clear hall
   go_wp2
   go_ret
   exact ⟨-1, rfl, by rw [HP.out]; decide, HB.out⟩
theorem zjW (v : Value) (p : List ByteArray) (w : World) (hv : Sl w w.heap.size v (zL p)) (hs : zi6 p) (hl : p.length <= 9223372036854775807) :
  Calls Tryz.prog 89 #[v, .func (Fn.func 120) #[] #[]] w (zY (.bool (!p.all zaq)) w) := by
 have hi := zi8 v p w hv hs hl
 have HI := hid hi; clear hi hv
 go_enter Tryz.func89, Tryz.ntmps89
 go_wp2_with fail
 refine HI.out.mono ?_
 rintro e w1 ⟨i, rfl, hi, hb⟩
 go_wp2
 go_ret
 exact ⟨rfl, hb⟩
set_option maxHeartbeats 400000 in
theorem zeL (v : Value) (p : List ByteArray) (w : World) (hv : Sl w w.heap.size v (zL p)) (hs : zi6 p) (hl : p.length <= 9223372036854775807) :
  Calls Tryz.prog 84 #[v] w (zY (.bool (mayB p)) w) := by
 have hi := zjW v p w hv hs hl
 obtain ⟨A, c, rfl, hc1, hc2, hA⟩ := hv
 simp only [zat] at hc1 hi ⊢
 clear hA
 by_cases h3 : p.length <= 3
 ·have hm : mayB p = p.all zaq := by unfold mayB; rw [decide_eq_true h3]; rfl
  rw [hm]
  have HI := hid hi; clear hi hm
  have d1 : decide ((p.length : Int) <= 3) = true := by rw [decide_eq_true_eq]; omega
  go_enter Tryz.func84, Tryz.ntmps84
  go_wp2_with fail
  refine HI.out.mono ?_
  rintro e w1 ⟨rfl, hb⟩
  go_wp2
  go_ret
  exact ⟨by simp, hb⟩
 ·have hm : mayB p = false := by unfold mayB; rw [decide_eq_false h3]; rfl
  have HM := hid hm; clear hm hi
  have d1 : decide ((p.length : Int) <= 3) = false := by rw [decide_eq_false_iff_not]; omega
  go_enter Tryz.func84, Tryz.ntmps84
  go_wp2
  go_ret
  exact ⟨by rw [HM.out]; rfl, Below.refl _ _⟩
theorem zha (p q : ByteArray) : (p.toList == q.toList) = decide (p = q) := by
 rw [Bool.eq_iff_iff, beq_iff_eq, decide_eq_true_eq, ByteArray.toList_eq, ByteArray.toList_eq]
 exact ⟨fun h => ByteArray.ext (Array.toList_inj.1 h), fun h => by rw [h]⟩
def zpO (l r : List ByteArray) (w : World) (i : Value) (wr : World) : Prop := ∃ k : Nat, k <= l.length /\ i = .int .i64 k /\ l.take k = r.take k /\ Qu w wr
set_option maxRecDepth 100000 in
set_option maxHeartbeats 400000 in
theorem zne (v x : Value) (l r : List ByteArray) (w : World) (hv : Sl w w.heap.size v (zL l)) (hx : Sl w w.heap.size x (zL r)) :
  Calls Tryz.prog 114 #[v, x] w (za5 (.bool (decide (l = r))) w) := by
 obtain ⟨A, c, rfl, hc1, hc2, hA⟩ := hv
 obtain ⟨A', c', rfl, hc1', hc2', hA'⟩ := hx
 simp only [zat] at hc1 hc1' ⊢
 unfold maxLen at hc2 hc2'
 have HA := hid hA; have HA' := hid hA'
 clear hA hA'
 go_enter Tryz.func114, Tryz.ntmps114
 by_cases hlen : l.length = r.length
 ·have t1 : ((l.length : Int) != (r.length : Int)) = false := by simp [hlen]
  have HL := hid hlen; clear hlen
  go_wp2
  go_loopw [5] (fun i wr => zpO l r w i wr) (fun i _ => l.length - (intOf i).toNat)
  case atStart => exact ⟨0, by omega, rfl, rfl, Qu.refl _⟩
  case round =>
   obtain ⟨k, hk, rfl, hsame, hq⟩ := hrel
   have HS := hid hsame; clear hsame
   by_cases hlt : k < l.length
   ·have hlt' : k < r.length := by have := HL.out; omega
    obtain ⟨b, off, rfl, hbl, hcell⟩ := Sl.str HA.out hlt
    obtain ⟨b', off', rfl, hbl', hcell'⟩ := Sl.str HA'.out hlt'
    have g1 : wr.cell? ⟨b, off + k, none⟩ = _ := (hq.cell _).trans hcell
    have g2 : wr.cell? ⟨b', off' + k, none⟩ = _ := (hq.cell _).trans hcell'
    clear hcell hcell'
    have e1 : l.take (k + 1) = l.take k ++ [l[k]] := List.take_succ_eq_append_getElem hlt
    have e2 : r.take (k + 1) = r.take k ++ [r[k]] := List.take_succ_eq_append_getElem hlt'
    by_cases he : l[k] = r[k]
    ·have hs' : l.take (k + 1) = r.take (k + 1) := by rw [e1, e2, HS.out, he]
     rw [<- he] at g2
     have HS' := hid hs'
     clear e1 e2 he hs'
     generalize l[k] = p at *
     have t2 : (p.toList == p.toList) = true := by simp
     go_wp2
     go_quiet (fail)
     go_wp2
     go_roundw
     case rel => exact ⟨k + 1, by omega, by go_num, HS'.out, hq.drewN _⟩
     case measure => simp [intOf]; omega
    ·have hne : decide (l = r) = false := by
      rw [decide_eq_false_iff_not]; intro h; subst h; exact he rfl
     have t2 : (l[k].toList == r[k].toList) = false := by
      rw [zha, decide_eq_false_iff_not]; exact he
     have HN := hid hne
     clear e1 e2 he hne
     generalize l[k] = p at *
     generalize r[k] = q at *
     go_wp2
     go_quiet (fail)
     go_wp2
     go_ret
     exact ⟨by rw [HN.out]; rfl, hq.drewN _⟩
   ·have heq : decide (l = r) = true := by
     have hl := HL.out
     have := HS.out
     rw [List.take_of_length_le (by omega), List.take_of_length_le (by omega)] at this
     rw [this]; simp
    have HE := hid heq; clear heq
    go_wp2
    go_ret
    exact ⟨by rw [HE.out]; rfl, hq⟩
 ·have t1 : ((l.length : Int) != (r.length : Int)) = true := by simp; omega
  have hne : decide (l = r) = false := by
   rw [decide_eq_false_iff_not]; intro h; exact hlen (by rw [h])
  have HN := hid hne; clear hne
  have HL := hid hlen; clear hlen
  go_wp2
  go_ret
  exact ⟨by rw [HN.out]; rfl, Qu.refl _⟩
def zoU (s : ByteArray) (i : Value) : Prop := ∃ k : Nat, i = .int .i64 k /\ k <= s.size /\ ∀ j (h : j < s.size), j < k -> okN (s[j]'h).toNat
set_option maxHeartbeats 800000 in
theorem zeX (s : ByteArray) (w : World) :
  Calls Tryz.prog 57 #[.string s] w (za5 (.bool (zaq s)) w) := by
 by_cases hsz : 1 <= s.size /\ s.size <= 12
 ·obtain ⟨h1, h12⟩ := hsz
  go_enter Tryz.func57, Tryz.ntmps57
  go_wp2
  go_loop [3] (fun i => zoU s i) (fun i => s.size - (intOf i).toNat)
  case atStart => exact ⟨0, rfl, by omega, fun j h h' => by omega⟩
  case round =>
   obtain ⟨k, rfl, hk, hok⟩ := hrel
   have HOK := hid hok; clear hok
   by_cases hlt : k < s.size
   ·have hno := fun h => zmS (s := s) hlt h
    have HNO := hid hno; clear hno
    have hnb : (s[k]'hlt).toNat < 256 := UInt8.toNat_lt _
    generalize hn : (s[k]'hlt).toNat = n at *
    have HN := hid hn
    by_cases hok : okN n
    ·have hok' := hok
     unfold okN at hok'
     have HO := hid hok; clear hok
     have hrel1 : ∀ j (h : j < s.size), j < k + 1 -> okN (s[j]'h).toNat := fun j h hj => by
          by_cases e : j = k
          ·subst e; rw [HN.out]; exact HO.out
          ·exact HOK.out j h (by omega)
     have HR := hid hrel1; clear hrel1
     rcases hok' with ⟨h1, h2⟩ | ⟨h1, h2⟩ | rfl | rfl
     ·have d1 : decide ((97 : Int) <= (n : Int)) = true := by rw [decide_eq_true_eq]; omega
      have d2 : decide ((n : Int) <= 122) = true := by rw [decide_eq_true_eq]; omega
      have d3 : decide ((48 : Int) <= (n : Int)) = true := by rw [decide_eq_true_eq]; omega
      have d4 : decide ((n : Int) <= 57) = false := by rw [decide_eq_false_iff_not]; omega
      go_wp2
      go_round
      case rel => exact ⟨k + 1, by go_num, by omega, HR.out⟩
      case measure => simp [intOf]; omega
     ·have d1 : decide ((97 : Int) <= (n : Int)) = false := by rw [decide_eq_false_iff_not]; omega
      have d2 : decide ((n : Int) <= 122) = true := by rw [decide_eq_true_eq]; omega
      have d3 : decide ((48 : Int) <= (n : Int)) = true := by rw [decide_eq_true_eq]; omega
      have d4 : decide ((n : Int) <= 57) = true := by rw [decide_eq_true_eq]; omega
      go_wp2
      go_round
      case rel => exact ⟨k + 1, by go_num, by omega, HR.out⟩
      case measure => simp [intOf]; omega
     ·go_wp2
      go_round
      case rel => exact ⟨k + 1, by go_num, by omega, HR.out⟩
      case measure => simp [intOf]; omega
     ·go_wp2
      go_round
      case rel => exact ⟨k + 1, by go_num, by omega, HR.out⟩
      case measure => simp [intOf]; omega
    ·have hno := HNO.out hok
     unfold okN at hok
     have HNB := hid hno
     have h45 : ((n : Int) != 45) = true := by rw [bne_iff_ne]; omega
     have h95 : ((n : Int) != 95) = true := by rw [bne_iff_ne]; omega
     have hcase : ((122 < n) \/ (57 < n /\ n < 97) \/ (n < 48)) := by omega
     clear hno hok
     rcases hcase with h | ⟨h, h'⟩ | h
     ·have d1 : decide ((97 : Int) <= (n : Int)) = true := by rw [decide_eq_true_eq]; omega
      have d2 : decide ((n : Int) <= 122) = false := by rw [decide_eq_false_iff_not]; omega
      have d3 : decide ((48 : Int) <= (n : Int)) = true := by rw [decide_eq_true_eq]; omega
      have d4 : decide ((n : Int) <= 57) = false := by rw [decide_eq_false_iff_not]; omega
      go_wp2
      go_ret
      exact ⟨by rw [HNB.out]; rfl, Qu.refl _⟩
     ·have d1 : decide ((97 : Int) <= (n : Int)) = false := by rw [decide_eq_false_iff_not]; omega
      have d2 : decide ((n : Int) <= 122) = true := by rw [decide_eq_true_eq]; omega
      have d3 : decide ((48 : Int) <= (n : Int)) = true := by rw [decide_eq_true_eq]; omega
      have d4 : decide ((n : Int) <= 57) = false := by rw [decide_eq_false_iff_not]; omega
      go_wp2
      go_ret
      exact ⟨by rw [HNB.out]; rfl, Qu.refl _⟩
     ·have d1 : decide ((97 : Int) <= (n : Int)) = false := by rw [decide_eq_false_iff_not]; omega
      have d2 : decide ((n : Int) <= 122) = true := by rw [decide_eq_true_eq]; omega
      have d3 : decide ((48 : Int) <= (n : Int)) = false := by rw [decide_eq_false_iff_not]; omega
      have d4 : decide ((n : Int) <= 57) = true := by rw [decide_eq_true_eq]; omega
      go_wp2
      go_ret
      exact ⟨by rw [HNB.out]; rfl, Qu.refl _⟩
   ·have hB : zaq s = true := by
     unfold zaq; rw [decide_eq_true_eq]
     exact ⟨h1, h12, fun j hj => HOK.out j hj (by omega)⟩
    have HB := hid hB; clear hB
    go_wp2
    go_ret
    exact ⟨by rw [HB.out]; rfl, Qu.refl _⟩
 ·have hB : zaq s = false := by
   unfold zaq; rw [decide_eq_false_iff_not]; rintro ⟨h1, h2, _⟩; exact hsz ⟨h1, h2⟩
  have HB := hid hB; clear hB
  have hcase : s.size < 1 \/ (1 <= s.size /\ 12 < s.size) := by omega
  clear hsz
  go_enter Tryz.func57, Tryz.ntmps57
  rcases hcase with h | ⟨h, h'⟩
  all_goals
   go_wp2
   go_ret
   exact ⟨by rw [HB.out]; rfl, Qu.refl _⟩
def zqr (p : List ByteArray) (w : World) (i : Value) (wr : World) : Prop := ∃ k : Nat, i = .int .i64 k /\ k <= p.length /\ (p.take k).all zaq = true /\ Qu w wr
set_option maxHeartbeats 400000 in
theorem zci (v : Value) (p : List ByteArray) (w : World) (hv : Sl w w.heap.size v (zL p)) :
  Calls Tryz.prog 38 #[v] w (za5 (.bool (mayB p)) w) := by
 obtain ⟨A, c, rfl, hc1, hc2, hA⟩ := hv
 simp only [zat] at hc1 ⊢
 unfold maxLen at hc2
 have HA := hid hA; clear hA
 by_cases h3 : p.length <= 3
 ·have hm : mayB p = p.all zaq := by unfold mayB; rw [decide_eq_true h3]; rfl
  rw [hm]; clear hm
  go_enter Tryz.func38, Tryz.ntmps38
  go_wp2
  go_loopw [3] (fun i wr => zqr p w i wr) (fun i _ => p.length - (intOf i).toNat)
  case atStart => exact ⟨0, rfl, by omega, by simp, Qu.refl _⟩
  case round =>
   obtain ⟨k, rfl, hk, hall, hq⟩ := hrel
   have HALL := hid hall; have HQ := hid hq; clear hall hq
   by_cases hlt : k < p.length
   ·obtain ⟨b, off, rfl, hbl, hcell⟩ := Sl.str HA.out hlt
    replace hcell : wr.cell? ⟨b, off + k, none⟩ = _ := (HQ.out.cell _).trans hcell
    have e1 : (p.take (k + 1)).all zaq = ((p.take k).all zaq && zaq p[k]) := by
     rw [List.take_succ_eq_append_getElem hlt, List.all_append]; simp
    have e2 : zaq p[k] = false -> p.all zaq = false := fun h => by
     rw [List.all_eq_false]; exact ⟨_, List.getElem_mem hlt, by rw [h]; simp⟩
    generalize p[k] = s at *
    have E1 := hid e1; have E2 := hid e2; clear e1 e2
    go_wp2_with fail
    refine (zeX s _).mono ?_
    rintro e w1 ⟨rfl, hq1⟩
    have HQ1 := hid (HQ.out.trans hq1); clear hq1
    cases hnb : zaq s with
    | true =>
      have HNB := hid hnb; clear hnb
      go_wp2
      go_roundw
      case rel => exact ⟨k + 1, by go_num, by omega, by rw [E1.out, HALL.out, HNB.out]; rfl, HQ1.out⟩
      case measure => simp [intOf]; omega
    | false =>
      have HNB := hid (E2.out hnb); clear hnb
      go_wp2
      go_ret
      exact ⟨by rw [HNB.out]; rfl, HQ1.out⟩
   ·have hall : p.all zaq = true := by
     have := HALL.out
     rwa [List.take_of_length_le (by omega)] at this
    have HP := hid hall; clear hall
    go_wp2
    go_ret
    exact ⟨by rw [HP.out]; rfl, HQ.out⟩
 ·have hm : mayB p = false := by unfold mayB; rw [decide_eq_false h3]; rfl
  have HM := hid hm; clear hm
  go_enter Tryz.func38, Tryz.ntmps38
  go_wp2
  go_ret
  exact ⟨by rw [HM.out]; rfl, Qu.refl _⟩
end Go.Proofs.YtgoapnkdcfcjgaaGreat
namespace Go.Proofs.YtgoapnkdcfcjgaaGreat
end Go.Proofs.YtgoapnkdcfcjgaaGreat
namespace Go.Proofs.YtgoapnkdcfcjgaaGreat
open Go.ChangeShapes Go.WideShapes Go.ChangeAt Go.RowKit
end Go.Proofs.YtgoapnkdcfcjgaaGreat
namespace Go.Proofs.YtgoapnkdcfcjgaaGreat
end Go.Proofs.YtgoapnkdcfcjgaaGreat
namespace Go.Proofs.YtgoapnkdcfcjgaaGreat
open Go.ChangeShapes Go.WideShapes Go.ChangeAt Go.RowKit
end Go.Proofs.YtgoapnkdcfcjgaaGreat
