/- 2 texts of this claim, in build order. -/
import Derived.Test.YtkgifbnkkmeoiaaGreatDoorPdhonageh
import Derived.Test.YtkgifbnkkmeoiaaGreatDoorPcononjpe
import Derived.Laws.RangeString
import Derived.Laws.RangeAny
import Derived.Shelf.Strings.OnBuilder
import Derived.Test.YtkgifbnkkmeoiaaGreatDoorProg
/- Names: which texts are names (names.Name, the reference's Name), which lists of texts are paths (names.May, the reference's May), and the reference's Same of texts. -/
namespace Go.Proofs.YtkgifbnkkmeoiaaGreatDoor
open Go.ChangeShapes Go.WideShapes Go.ChangeAt Go.RowKit
set_option linter.unusedVariables false

def okN (n : Nat) : Prop := (97 ≤ n ∧ n ≤ 122) ∨ (48 ≤ n ∧ n ≤ 57) ∨ n = 45 ∨ n = 95
instance (n : Nat) : Decidable (okN n) := by unfold okN; infer_instance
/-- A name: 1 to 12 signs, each a small letter, a digit, '-' or '_'. -/
def NameOk (s : ByteArray) : Prop := 1 ≤ s.size ∧ s.size ≤ 12 ∧ ∀ j (h : j < s.size), okN (s[j]'h).toNat
instance (s : ByteArray) : Decidable (NameOk s) := by unfold NameOk; infer_instance
def nameB (s : ByteArray) : Bool := decide (NameOk s)
theorem emp_dec (s : ByteArray) : s.toList.isEmpty = decide (s.size = 0) := by
  rw [ByteArray.toList_eq]
  show s.data.toList.isEmpty = decide (s.data.size = 0)
  cases h : s.data with | mk l => cases l <;> simp
def NameRel (s : ByteArray) (w wr : World) : Prop := ∃ pos : Nat, wr = w.iter s pos ∧ pos ≤ s.size ∧ ∀ j (h : j < s.size), j < pos → okN (s[j]'h).toNat
theorem name_no {s : ByteArray} {pos : Nat} (hp : pos < s.size) (h : ¬ okN (s[pos]'hp).toNat) : nameB s = false := by
  unfold nameB; rw [decide_eq_false_iff_not]; intro hn; exact h (hn.2.2 pos hp)
set_option maxHeartbeats 800000 in
theorem name_any (s : ByteArray) (w : World) (hs : s.size ≤ 9223372036854775807) :
    Calls Tryz.prog 124 #[.string s] w (Gives (.bool (nameB s)) w) := by
  go_enter Tryz.func124, Tryz.ntmps124
  go_wp2
  go_loopw [4] (fun _ wr => NameRel s w wr) (fun _ wr => s.size - wr.iterPos w.heap.size)
  case atStart => exact ⟨0, rfl, by omega, fun j h h' => by omega⟩
  case round =>
    obtain ⟨pos, rfl, hp, hok⟩ := hrel
    have HOK := hid hok; clear hok
    by_cases hlt : pos < s.size
    · have hno := fun h => name_no (s := s) hlt h
      have HNO := hid hno; clear hno
      by_cases ha : (s[pos]'hlt).toNat < 128
      · have hnx : ∀ ty, (Instr.next (.pointer (some ⟨w.heap.size, 0, none⟩)) true ty).run Tryz.prog (w.iter s pos) = _ := fun ty => run_next_ascii w s pos ty hlt ha
        generalize hn : (s[pos]'hlt).toNat = n at *
        have HN := hid hn; clear hn
        by_cases hok : okN n
        · have hok' := hok
          unfold okN at hok'
          have HO := hid hok; clear hok
          have hrel1 : NameRel s w (w.iter s (pos + 1)) := ⟨pos + 1, rfl, by omega, fun j h hj => by
            by_cases e : j = pos
            · subst e; rw [HN.out]; exact HO.out
            · exact HOK.out j h (by omega)⟩
          have HR := hid hrel1; clear hrel1
          rcases hok' with ⟨h1, h2⟩ | ⟨h1, h2⟩ | rfl | rfl
          all_goals
            go_wp2
            go_roundw
            case rel => exact HR.out
            case measure => simp; omega
        · have hno := HNO.out hok
          unfold okN at hok
          have HNB := hid hno
          have h45 : ((n : Int) == 45) = false := by rw [beq_eq_false_iff_ne]; omega
          have h95 : ((n : Int) == 95) = false := by rw [beq_eq_false_iff_ne]; omega
          have hcase : ((122 < n) ∨ (57 < n ∧ n < 97) ∨ (n < 48)) := by omega
          clear hno hok
          rcases hcase with h | ⟨h, h'⟩ | h
          all_goals
            go_wp2
            all_goals first | (go_ret; exact ⟨by rw [HNB.out]; rfl, (Below.refl _ _).alloc (Nat.le_refl _) _⟩) | (exfalso; rename_i hh; simp at hh; omega)
      · have hnx : ∀ ty, (Instr.next (.pointer (some ⟨w.heap.size, 0, none⟩)) true ty).run Tryz.prog (w.iter s pos) = _ := fun ty => run_next_any w s pos ty hlt
        have hd := (decode_high s pos hlt (by omega)).1
        have hle := decode_le s pos
        have hno := HNO.out (by unfold okN; omega)
        have HNB := hid hno; clear hno
        generalize Utf8.decode s pos = d at *
        obtain ⟨r, k⟩ := d
        simp only at hd hle hnx
        have h45 : ((r : Int) == 45) = false := by rw [beq_eq_false_iff_ne]; omega
        have h95 : ((r : Int) == 95) = false := by rw [beq_eq_false_iff_ne]; omega
        go_wp2
        all_goals first | (go_ret; exact ⟨by rw [HNB.out]; rfl, (Below.refl _ _).alloc (Nat.le_refl _) _⟩) | (exfalso; rename_i hh; simp at hh; omega)
    · have hnx : ∀ ty, (Instr.next (.pointer (some ⟨w.heap.size, 0, none⟩)) true ty).run Tryz.prog (w.iter s pos) = _ := fun ty => run_next_end w s pos ty hlt
      have hB : nameB s = decide (1 ≤ s.size ∧ s.size ≤ 12) := by
        unfold nameB; rw [decide_eq_decide]
        exact ⟨fun h => ⟨h.1, h.2.1⟩, fun h => ⟨h.1, h.2, fun j hj => HOK.out j hj (by omega)⟩⟩
      have HB := hid hB; clear hB
      have hemp := emp_dec s
      by_cases h1 : 1 ≤ s.size
      · have he : s.toList.isEmpty = false := by rw [hemp, decide_eq_false_iff_not]; omega
        clear hemp
        by_cases h12 : s.size ≤ 12
        · have hB : nameB s = true := by rw [HB.out, decide_eq_true_eq]; exact ⟨h1, h12⟩
          have HB2 := hid hB; clear hB
          have d1 : decide ((s.size : Int) ≤ 12) = true := by rw [decide_eq_true_eq]; omega
          go_wp2
          go_ret
          exact ⟨by rw [HB2.out]; rfl, (Below.refl _ _).alloc (Nat.le_refl _) _⟩
        · have hB : nameB s = false := by rw [HB.out, decide_eq_false_iff_not]; omega
          have HB2 := hid hB; clear hB
          have d1 : decide ((s.size : Int) ≤ 12) = false := by rw [decide_eq_false_iff_not]; omega
          go_wp2
          go_ret
          exact ⟨by rw [HB2.out]; rfl, (Below.refl _ _).alloc (Nat.le_refl _) _⟩
      · have he : s.toList.isEmpty = true := by rw [hemp, decide_eq_true_eq]; omega
        clear hemp
        have hB : nameB s = false := by rw [HB.out, decide_eq_false_iff_not]; omega
        have HB2 := hid hB; clear hB
        go_wp2
        go_ret
        exact ⟨by rw [HB2.out]; rfl, (Below.refl _ _).alloc (Nat.le_refl _) _⟩
def svals (p : List ByteArray) : List Value := p.map Value.string
theorem svals_len (p : List ByteArray) : (svals p).length = p.length := by simp [svals]
/-- Texts that Go can hold. -/
def StrOk (p : List ByteArray) : Prop := ∀ s ∈ p, s.size ≤ 9223372036854775807
theorem Sl.str {w : World} {B : Nat} {A : Option Addr} {p : List ByteArray} {k : Nat} (h : 0 < (svals p).length → ∃ b off, A = some ⟨b, off, none⟩ ∧ b < B ∧ ∀ j u, (svals p)[j]? = some u → w.cell? ⟨b, off + j, none⟩ = some u) (hk : k < p.length) :
    ∃ b off, A = some ⟨b, off, none⟩ ∧ b < B ∧ w.cell? ⟨b, off + k, none⟩ = some (.string p[k]) := by
  obtain ⟨b, off, e, hb, hc⟩ := h (by rw [svals_len]; omega)
  exact ⟨b, off, e, hb, hc k _ (by simp [svals, List.getElem?_eq_getElem hk])⟩
theorem nameNot_any (s : ByteArray) (w : World) (hs : s.size ≤ 9223372036854775807) :
    Calls Tryz.prog 123 #[.string s] w (Gives (.bool (!nameB s)) w) := by
  have hn := fun W => name_any s W hs
  have HN := hid hn; clear hn
  go_enter Tryz.func123, Tryz.ntmps123
  go_wp2_with fail
  refine (HN.out _).mono ?_
  rintro e w1 ⟨rfl, hb⟩
  go_wp2
  go_ret
  exact ⟨rfl, hb⟩
def mayB (p : List ByteArray) : Bool := decide (p.length ≤ 3) && p.all nameB
/-- The first text that is no name; none: below 0. -/
def IdxRel (p : List ByteArray) (w : World) (i : Value) (wr : World) : Prop := ∃ k : Nat, i = .int .i64 k ∧ k ≤ p.length ∧ (p.take k).all nameB = true ∧ Below w.heap.size w wr
def IdxPost (p : List ByteArray) (w : World) (e : Ending) (w' : World) : Prop := ∃ i : Int, e = .returned (.int .i64 i) ∧ (decide (0 ≤ i) = !p.all nameB) ∧ Below w.heap.size w w'
set_option maxHeartbeats 400000 in
theorem idxName_any (v : Value) (p : List ByteArray) (w : World) (hv : Sl w w.heap.size v (svals p)) (hs : StrOk p) (hl : p.length ≤ 9223372036854775807) :
    Calls Tryz.prog 133 #[v, .func (Fn.func 123) #[] #[]] w (IdxPost p w) := by
  obtain ⟨A, c, rfl, hc1, hc2, hA⟩ := hv
  simp only [svals_len] at hc1 ⊢
  have HA := hid hA; clear hA
  have HS := hid hs; clear hs
  go_enter Tryz.func133, Tryz.ntmps133
  go_wp2
  go_loopw [8] (fun i wr => IdxRel p w i wr) (fun i _ => p.length - (intOf i).toNat)
  case atStart => exact ⟨0, rfl, by omega, by simp, Below.refl _ _⟩
  case round =>
    obtain ⟨k, rfl, hk, hall, hb⟩ := hrel
    have HALL := hid hall; have HB := hid hb; clear hall hb
    by_cases hlt : k < p.length
    · obtain ⟨b, off, rfl, hbl, hcell⟩ := Sl.str HA.out hlt
      have hcell := cellK HB.out hbl hcell
      have hsz := HS.out _ (List.getElem_mem hlt)
      have e1 : (p.take (k + 1)).all nameB = ((p.take k).all nameB && nameB p[k]) := by
        rw [List.take_succ_eq_append_getElem hlt, List.all_append]; simp
      have e2 : nameB p[k] = false → p.all nameB = false := fun h => by
        rw [List.all_eq_false]; exact ⟨_, List.getElem_mem hlt, by rw [h]; simp⟩
      generalize p[k] = s at *
      have hn := fun W => nameNot_any s W hsz
      have HN := hid hn; have E1 := hid e1; have E2 := hid e2; clear hn e1 e2
      go_wp2_with fail
      refine (HN.out _).mono ?_
      rintro e w1 ⟨rfl, hb1⟩
      have HB1 := hid (HB.out.trans (hb1.mono HB.out.size)); clear hb1
      cases hnb : nameB s with
      | true =>
        have HNB := hid hnb; clear hnb
        simp only [Bool.not_true]
        go_wp2
        go_roundw
        case rel => exact ⟨k + 1, by go_num, by omega, by rw [E1.out, HALL.out, HNB.out]; rfl, HB1.out⟩
        case measure => simp [intOf]; omega
      | false =>
        have HNB := hid (E2.out hnb); clear hnb
        simp only [Bool.not_false]
        go_wp2
        go_ret
        exact ⟨(k : Int), rfl, by rw [HNB.out]; simp, HB1.out⟩
    · have hall : p.all nameB = true := by
        have := HALL.out
        rwa [List.take_of_length_le (by omega)] at this
      have HP := hid hall; clear hall
      go_wp2
      go_ret
      exact ⟨-1, rfl, by rw [HP.out]; decide, HB.out⟩
theorem hasName_any (v : Value) (p : List ByteArray) (w : World) (hv : Sl w w.heap.size v (svals p)) (hs : StrOk p) (hl : p.length ≤ 9223372036854775807) :
    Calls Tryz.prog 122 #[v, .func (Fn.func 123) #[] #[]] w (Gives (.bool (!p.all nameB)) w) := by
  have hi := idxName_any v p w hv hs hl
  have HI := hid hi; clear hi hv
  go_enter Tryz.func122, Tryz.ntmps122
  go_wp2_with fail
  refine HI.out.mono ?_
  rintro e w1 ⟨i, rfl, hi, hb⟩
  go_wp2
  go_ret
  exact ⟨rfl, hb⟩
set_option maxHeartbeats 400000 in
theorem mayN_any (v : Value) (p : List ByteArray) (w : World) (hv : Sl w w.heap.size v (svals p)) (hs : StrOk p) (hl : p.length ≤ 9223372036854775807) :
    Calls Tryz.prog 106 #[v] w (Gives (.bool (mayB p)) w) := by
  have hi := hasName_any v p w hv hs hl
  obtain ⟨A, c, rfl, hc1, hc2, hA⟩ := hv
  simp only [svals_len] at hc1 hi ⊢
  clear hA
  by_cases h3 : p.length ≤ 3
  · have hm : mayB p = p.all nameB := by unfold mayB; rw [decide_eq_true h3]; rfl
    rw [hm]
    have HI := hid hi; clear hi hm
    have d1 : decide ((p.length : Int) ≤ 3) = true := by rw [decide_eq_true_eq]; omega
    go_enter Tryz.func106, Tryz.ntmps106
    go_wp2_with fail
    refine HI.out.mono ?_
    rintro e w1 ⟨rfl, hb⟩
    go_wp2
    go_ret
    exact ⟨by simp, hb⟩
  · have hm : mayB p = false := by unfold mayB; rw [decide_eq_false h3]; rfl
    have HM := hid hm; clear hm hi
    have d1 : decide ((p.length : Int) ≤ 3) = false := by rw [decide_eq_false_iff_not]; omega
    go_enter Tryz.func106, Tryz.ntmps106
    go_wp2
    go_ret
    exact ⟨by rw [HM.out]; rfl, Below.refl _ _⟩
theorem str_beq (p q : ByteArray) : (p.toList == q.toList) = decide (p = q) := by
  rw [Bool.eq_iff_iff, beq_iff_eq, decide_eq_true_eq, ByteArray.toList_eq, ByteArray.toList_eq]
  exact ⟨fun h => ByteArray.ext (Array.toList_inj.1 h), fun h => by rw [h]⟩
def SameSRel (l r : List ByteArray) (w : World) (i : Value) (wr : World) : Prop := ∃ k : Nat, k ≤ l.length ∧ i = .int .i64 k ∧ l.take k = r.take k ∧ Qu w wr
set_option maxRecDepth 100000 in
set_option maxHeartbeats 400000 in
theorem sameS_any (v x : Value) (l r : List ByteArray) (w : World) (hv : Sl w w.heap.size v (svals l)) (hx : Sl w w.heap.size x (svals r)) :
    Calls Tryz.prog 115 #[v, x] w (Stays (.bool (decide (l = r))) w) := by
  obtain ⟨A, c, rfl, hc1, hc2, hA⟩ := hv
  obtain ⟨A', c', rfl, hc1', hc2', hA'⟩ := hx
  simp only [svals_len] at hc1 hc1' ⊢
  unfold maxLen at hc2 hc2'
  have HA := hid hA; have HA' := hid hA'
  clear hA hA'
  go_enter Tryz.func115, Tryz.ntmps115
  by_cases hlen : l.length = r.length
  · have t1 : ((l.length : Int) != (r.length : Int)) = false := by simp [hlen]
    have HL := hid hlen; clear hlen
    go_wp2
    go_loopw [5] (fun i wr => SameSRel l r w i wr) (fun i _ => l.length - (intOf i).toNat)
    case atStart => exact ⟨0, by omega, rfl, rfl, Qu.refl _⟩
    case round =>
      obtain ⟨k, hk, rfl, hsame, hq⟩ := hrel
      have HS := hid hsame; clear hsame
      by_cases hlt : k < l.length
      · have hlt' : k < r.length := by have := HL.out; omega
        obtain ⟨b, off, rfl, hbl, hcell⟩ := Sl.str HA.out hlt
        obtain ⟨b', off', rfl, hbl', hcell'⟩ := Sl.str HA'.out hlt'
        have g1 : wr.cell? ⟨b, off + k, none⟩ = _ := (hq.cell _).trans hcell
        have g2 : wr.cell? ⟨b', off' + k, none⟩ = _ := (hq.cell _).trans hcell'
        clear hcell hcell'
        have e1 : l.take (k + 1) = l.take k ++ [l[k]] := List.take_succ_eq_append_getElem hlt
        have e2 : r.take (k + 1) = r.take k ++ [r[k]] := List.take_succ_eq_append_getElem hlt'
        by_cases he : l[k] = r[k]
        · have hs' : l.take (k + 1) = r.take (k + 1) := by rw [e1, e2, HS.out, he]
          rw [← he] at g2
          have HS' := hid hs'
          clear e1 e2 he hs'
          generalize l[k] = p at *
          have t2 : (p.toList == p.toList) = true := by simp
          go_wp2
          go_quiet (fail)
          go_wp2
          go_roundw
          case rel => exact ⟨k + 1, by omega, by go_num, HS'.out, hq.drewN _⟩
          case measure => simp [intOf]; omega
        · have hne : decide (l = r) = false := by
            rw [decide_eq_false_iff_not]; intro h; subst h; exact he rfl
          have t2 : (l[k].toList == r[k].toList) = false := by
            rw [str_beq, decide_eq_false_iff_not]; exact he
          have HN := hid hne
          clear e1 e2 he hne
          generalize l[k] = p at *
          generalize r[k] = q at *
          go_wp2
          go_quiet (fail)
          go_wp2
          go_ret
          exact ⟨by rw [HN.out]; rfl, hq.drewN _⟩
      · have heq : decide (l = r) = true := by
          have hl := HL.out
          have := HS.out
          rw [List.take_of_length_le (by omega), List.take_of_length_le (by omega)] at this
          rw [this]; simp
        have HE := hid heq; clear heq
        go_wp2
        go_ret
        exact ⟨by rw [HE.out]; rfl, hq⟩
  · have t1 : ((l.length : Int) != (r.length : Int)) = true := by simp; omega
    have hne : decide (l = r) = false := by
      rw [decide_eq_false_iff_not]; intro h; exact hlen (by rw [h])
    have HN := hid hne; clear hne
    have HL := hid hlen; clear hlen
    go_wp2
    go_ret
    exact ⟨by rw [HN.out]; rfl, Qu.refl _⟩
end Go.Proofs.YtkgifbnkkmeoiaaGreatDoor
/- strings.Join off the shelf (the layings are the kit's own command's print, in plain words; shelf.py put names for numbers). -/
namespace Go.Proofs.YtkgifbnkkmeoiaaGreatDoor
open Go.Shelf
def lays156_ren : Go.Shelf.Ren := ⟨fun | 156 => 110 | 165 => 126 | 166 => 127 | 169 => 128 | 240 => 134 | 241 => 135 | 276 => 139 | 277 => 140 | n => n, fun | 31 => 129 | 9 => 9 | 3 => 3 | 4 => 4 | 0 => 0 | 20 => 20 | 72 => 169 | 76 => 172 | 70 => 167 | 37 => 23 | 75 => 171 | 127 => 180 | 164 => 183 | 5 => 5 | 80 => 174 | n => n, fun | n => n⟩
theorem lays156 : Go.Proofs.Lays.n156 Tryz.prog lays156_ren := {
  mixed := by kernel_rfl
  f156 := Tryz.func110.trans (congrArg some (by kernel_rfl))
  f165 := Tryz.func126.trans (congrArg some (by kernel_rfl))
  f166 := Tryz.func127.trans (congrArg some (by kernel_rfl))
  f169 := Tryz.func128.trans (congrArg some (by kernel_rfl))
  f240 := Tryz.func134.trans (congrArg some (by kernel_rfl))
  f241 := Tryz.func135.trans (congrArg some (by kernel_rfl))
  f276 := Tryz.func139.trans (congrArg some (by kernel_rfl))
  f277 := Tryz.func140.trans (congrArg some (by kernel_rfl))
  t0 := Tryz.underlying0
  a0 := Tryz.isAgg0
  z0 := Tryz.sizeOf0
  v0 := Tryz.zeroValue0
  t3 := Tryz.underlying3
  a3 := Tryz.isAgg3
  z3 := Tryz.sizeOf3
  v3 := Tryz.zeroValue3
  t4 := Tryz.underlying4
  a4 := Tryz.isAgg4
  z4 := Tryz.sizeOf4
  v4 := Tryz.zeroValue4
  t9 := Tryz.underlying9
  a9 := Tryz.isAgg9
  z9 := Tryz.sizeOf9
  v9 := Tryz.zeroValue9
  t20 := Tryz.underlying20
  a20 := Tryz.isAgg20
  z20 := Tryz.sizeOf20
  v20 := Tryz.zeroValue20
  t31 := Tryz.underlying129
  a31 := Tryz.isAgg129
  z31 := Tryz.sizeOf129
  v31 := Tryz.zeroValue129
  t37 := Tryz.underlying23
  a37 := Tryz.isAgg23
  z37 := Tryz.sizeOf23
  v37 := Tryz.zeroValue23
  t70 := Tryz.underlying167
  a70 := Tryz.isAgg167
  z70 := Tryz.sizeOf167
  v70 := Tryz.zeroValue167
  t72 := Tryz.underlying169
  a72 := Tryz.isAgg169
  z72 := Tryz.sizeOf169
  v72 := Tryz.zeroValue169
  t75 := Tryz.underlying171
  a75 := Tryz.isAgg171
  z75 := Tryz.sizeOf171
  v75 := Tryz.zeroValue171
  t76 := Tryz.underlying172
  a76 := Tryz.isAgg172
  z76 := Tryz.sizeOf172
  v76 := Tryz.zeroValue172
  t127 := Tryz.underlying180
  a127 := Tryz.isAgg180
  z127 := Tryz.sizeOf180
  v127 := Tryz.zeroValue180
  t164 := Tryz.underlying183
  a164 := Tryz.isAgg183
  z164 := Tryz.sizeOf183
  v164 := Tryz.zeroValue183 }
theorem Builder_Extra_156 : Builder.Extra Tryz.prog lays156_ren := {
  sizeBuilder := by kernel_rfl
  liesBuilder := by kernel_rfl
  t5 := Tryz.underlying5
  a5 := Tryz.isAgg5
  z5 := Tryz.sizeOf5
  v5 := Tryz.zeroValue5
  infoByte := by kernel_rfl
  cellsByte := by kernel_rfl
  sizeByte := by kernel_rfl
  neB5 := by decide }
open Go.RowKit in
theorem strings_Join_none (a : Option Addr) (c : Nat) (sep : ByteArray) (w : World) :
    Calls Tryz.prog 110 #[.slice a 0 c, .string sep] w fun e w' => e = .returned (.string ⟨#[]⟩) ∧ w' = w := Any.strings_Join_none lays156 Builder_Extra_156 a c sep w
open Go.RowKit in
theorem strings_Join (bk o c : Nat) (xs : List ByteArray) (sep : ByteArray) (w : World) (hcells : ∀ (j : Nat) x, xs[j]? = some x → w.cell? ⟨bk, o + j, none⟩ = some (.string x)) (hbk : bk < w.heap.size) (hN : xs.length ≤ 140737488355328) (hcap : xs.length ≤ c) (hlen : (Lib.join (xs.map (·.data.toList)) sep.data.toList).length ≤ 140737488355328) :
    Calls Tryz.prog 110 #[.slice (some ⟨bk, o, none⟩) xs.length c, .string sep] w fun e w' => e = .returned (.string ⟨(Lib.join (xs.map (·.data.toList)) sep.data.toList).toArray⟩) ∧ Below w.heap.size w w' := Any.strings_Join lays156 Builder_Extra_156 bk o c xs sep w hcells hbk hN hcap hlen
end Go.Proofs.YtkgifbnkkmeoiaaGreatDoor
