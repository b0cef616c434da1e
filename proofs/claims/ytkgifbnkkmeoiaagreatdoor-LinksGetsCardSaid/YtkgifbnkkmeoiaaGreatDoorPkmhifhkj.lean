/- 2 texts of this claim, in build order. -/
import Derived.Test.YtkgifbnkkmeoiaaGreatDoorPjonnaigo
import Derived.Test.YtkgifbnkkmeoiaaGreatDoorPkcimcobf
import Derived.Test.YtkgifbnkkmeoiaaGreatDoorPomhnbapp
import Derived.Test.YtkgifbnkkmeoiaaGreatDoorPinglbimp
/- What is read lies in its bounds. -/
namespace Go.Proofs.YtkgifbnkkmeoiaaGreatDoor
open Go.ChangeShapes Go.WideShapes Go.ChangeAt Go.RowKit
set_option linter.unusedVariables false

theorem rInt_lies (l : List UInt8) (a : Nat) (e least most : Int) (ha : a ≤ l.length) (h0 : -9223372036854775808 ≤ least) (h1 : most ≤ 9223372036854775807) : InI64 (rInt l a e least most).1 ∧ (rInt l a e least most).2.1 ≤ l.length := by
  unfold rInt
  have hz : InI64 0 := ⟨by omega, by omega⟩
  split
  · exact ⟨hz, ha⟩
  · split
    · exact ⟨hz, ha⟩
    · split
      · exact ⟨hz, ha⟩
      · rename_i h2 h3 h4
        refine ⟨⟨by show _ ≤ (getInt (l.drop a)).1; omega, by show (getInt (l.drop a)).1 ≤ _; omega⟩, ?_⟩
        rcases getInt_says (l.drop a) with (h | h) | ⟨k, z, q1, q2, h⟩
        · rw [h] at h3; exact absurd h3 (by decide)
        · rw [h] at h3; exact absurd h3 (by decide)
        · rw [h]; rw [List.length_drop] at q2; simp; omega
def CmdIn (c : CmdX) : Prop := InI64 c.1 ∧ InI64 c.2.1 ∧ InI64 c.2.2.1 ∧ FactsIn c.2.2.2
theorem c0_in : CmdIn c0X := ⟨⟨by decide, by decide⟩, ⟨by decide, by decide⟩, ⟨by decide, by decide⟩, fun f hf => by cases hf⟩
theorem e0_in : EntIn e0X := ⟨⟨by decide, by decide⟩, ⟨by decide, by decide⟩, c0_in⟩
theorem cmdR_in (l : List UInt8) (a : Nat) (e : Int) (ha : a ≤ l.length) : CmdIn (cmdR l a e).1 ∧ (cmdR l a e).2.1 ≤ l.length := by
  obtain ⟨h1, h2⟩ := rInt_lies l a e 0 3 ha (by omega) (by omega)
  obtain ⟨h3, h4⟩ := rInt_lies l _ (rInt l a e 0 3).2.2 0 1099511627776 h2 (by omega) (by omega)
  obtain ⟨h5, h6⟩ := rInt_lies l _ (rInt l (rInt l a e 0 3).2.1 (rInt l a e 0 3).2.2 0 1099511627776).2.2 0 1099511627776 h4 (by omega) (by omega)
  unfold cmdR
  simp only
  have h7 := fun e' => readB_ok l _ e' h6
  refine ⟨?_, (h7 _).2.2⟩
  split
  · exact ⟨h1, h3, h5, FactOk.in_ (h7 _).2.1⟩
  · exact c0_in
theorem entR_in (l : List UInt8) (a : Nat) (e : Int) (ha : a ≤ l.length) : EntIn (entR l a e).1 ∧ (entR l a e).2.1 ≤ l.length := by
  obtain ⟨h1, h2⟩ := rInt_lies l a e 1 1099511627776 ha (by omega) (by omega)
  obtain ⟨h3, h4⟩ := rInt_lies l _ (rInt l a e 1 1099511627776).2.2 1 1099511627776 h2 (by omega) (by omega)
  obtain ⟨h5, h6⟩ := cmdR_in l _ (rInt l (rInt l a e 1 1099511627776).2.1 (rInt l a e 1 1099511627776).2.2 1 1099511627776).2.2 h4
  unfold entR
  simp only
  refine ⟨?_, h6⟩
  split
  · exact ⟨h1, h3, h5⟩
  · exact e0_in
theorem entsR_in (l : List UInt8) : ∀ (k a : Nat) (e : Int), a ≤ l.length → (∀ x ∈ (entsR l k a e).1, EntIn x) ∧ (entsR l k a e).2.1 ≤ l.length ∧ (entsR l k a e).1.length = k := by
  intro k
  induction k with
  | zero => intro a e ha; exact ⟨fun x hx => (by cases hx), ha, rfl⟩
  | succ k ih =>
    intro a e ha
    obtain ⟨h1, h2⟩ := entR_in l a e ha
    obtain ⟨i1, i2, i3⟩ := ih _ (entR l a e).2.2 h2
    unfold entsR
    refine ⟨fun x hx => ?_, i2, by simp [i3]⟩
    rcases List.mem_cons.1 hx with rfl | hx
    · exact h1
    · exact i1 x hx
theorem msgTail_in (l : List UInt8) (kind src dst : Int) (a : Nat) (e : Int) (ha : a ≤ l.length) (hk : InI64 kind) (hs : InI64 src) (hd : InI64 dst) : MsgIn (msgTail l kind src dst a e).1 ∧ ∀ x ∈ (msgTail l kind src dst a e).1.ents, EntIn x := by
  unfold msgTail
  simp only
  obtain ⟨h1, a1⟩ := rInt_lies l a e 0 1099511627776 ha (by omega) (by omega)
  generalize rInt l a e 0 1099511627776 = r1 at *
  obtain ⟨h2, a2⟩ := rInt_lies l r1.2.1 r1.2.2 0 1099511627776 a1 (by omega) (by omega)
  generalize rInt l r1.2.1 r1.2.2 0 1099511627776 = r2 at *
  obtain ⟨h3, a3⟩ := rInt_lies l r2.2.1 r2.2.2 0 1099511627776 a2 (by omega) (by omega)
  generalize rInt l r2.2.1 r2.2.2 0 1099511627776 = r3 at *
  obtain ⟨h4, a4⟩ := rInt_lies l r3.2.1 r3.2.2 0 1099511627776 a3 (by omega) (by omega)
  generalize rInt l r3.2.1 r3.2.2 0 1099511627776 = r4 at *
  obtain ⟨h5, a5⟩ := rInt_lies l r4.2.1 r4.2.2 0 1099511627776 a4 (by omega) (by omega)
  generalize rInt l r4.2.1 r4.2.2 0 1099511627776 = r5 at *
  obtain ⟨h6, a6⟩ := rInt_lies l r5.2.1 r5.2.2 0 1 a5 (by omega) (by omega)
  generalize rInt l r5.2.1 r5.2.2 0 1 = r6 at *
  obtain ⟨h7, a7⟩ := rInt_lies l r6.2.1 r6.2.2 0 1099511627776 a6 (by omega) (by omega)
  generalize rInt l r6.2.1 r6.2.2 0 1099511627776 = r7 at *
  obtain ⟨h8, a8⟩ := rInt_lies l r7.2.1 r7.2.2 0 1099511627776 a7 (by omega) (by omega)
  generalize rInt l r7.2.1 r7.2.2 0 1099511627776 = r8 at *
  obtain ⟨h9, a9⟩ := rInt_lies l r8.2.1 r8.2.2 0 6 a8 (by omega) (by omega)
  generalize rInt l r8.2.1 r8.2.2 0 6 = r9 at *
  obtain ⟨h10, -, -⟩ := entsR_in l r9.1.toNat r9.2.1 r9.2.2 a9
  exact ⟨⟨hk, hs, hd, h1, h2, h3, h4, h5, h7, h8⟩, h10⟩
theorem msgBody_in (lo hi kind : Int) (l : List UInt8) (hk : InI64 kind) (h0 : -9223372036854775808 ≤ lo) (h1 : hi ≤ 9223372036854775807) : MsgIn (msgBody lo hi kind l).1 ∧ ∀ x ∈ (msgBody lo hi kind l).1.ents, EntIn x := by
  unfold msgBody
  simp only
  obtain ⟨g1, a1⟩ := rInt_lies l 0 0 lo hi (by omega) h0 h1
  obtain ⟨g2, a2⟩ := rInt_lies l _ (rInt l 0 0 lo hi).2.2 lo hi a1 h0 h1
  exact msgTail_in l kind _ _ _ _ a2 hk g1 g2
end Go.Proofs.YtkgifbnkkmeoiaaGreatDoor
/- The reference's Path. -/
namespace Go.Proofs.YtkgifbnkkmeoiaaGreatDoor
open Go.ChangeShapes Go.WideShapes Go.ChangeAt Go.RowKit
set_option linter.unusedVariables false
set_option linter.unusedSimpArgs false

def toB (x : List UInt8) : ByteArray := ⟨x.toArray⟩
theorem pieces_eq (s : ByteArray) : piecesB s = (cutL s.data.toList).map toB := rfl
/-- What is cut so far, and what is still to be cut, are all. -/
def PtIn (b : List UInt8) (n fr : Nat) (M : List (List UInt8)) : Prop :=
  (n ≤ b.length ∧ fr ≤ n ∧ (∀ j (h : j < b.length), fr ≤ j → j < n → b[j] ≠ 47) ∧ cutL b = M ++ cutL (b.drop fr)) ∨ (n = b.length + 1 ∧ M = cutL b)
theorem pt_piece {b : List UInt8} {n fr : Nat} (hn : n < b.length) (hf : fr ≤ n) (hno : ∀ j (h : j < b.length), fr ≤ j → j < n → b[j] ≠ 47) (hs : b[n] = 47) : cutL (b.drop fr) = (b.drop fr).take (n - fr) :: cutL (b.drop (n + 1)) := by
  have e : b.drop fr = (b.drop fr).take (n - fr) ++ 47 :: b.drop (n + 1) := by
    conv => lhs; rw [← List.take_append_drop (n - fr) (b.drop fr)]
    rw [List.drop_drop, show fr + (n - fr) = n by omega, List.drop_eq_getElem_cons hn, hs]
  conv => lhs; rw [e]
  refine cutL_app _ _ (fun c hc => ?_)
  obtain ⟨j, hj, rfl⟩ := List.mem_iff_getElem.1 hc
  rw [List.length_take, List.length_drop] at hj
  rw [List.getElem_take, List.getElem_drop]
  exact hno _ (by omega) (by omega) (by omega)
theorem pt_last {b : List UInt8} {n fr : Nat} (hn : n = b.length) (hf : fr ≤ n) (hno : ∀ j (h : j < b.length), fr ≤ j → j < n → b[j] ≠ 47) : cutL (b.drop fr) = [(b.drop fr).take (n - fr)] := by
  have e : (b.drop fr).take (n - fr) = b.drop fr := List.take_of_length_le (by rw [List.length_drop]; omega)
  rw [e]
  refine cutL_name _ (fun c hc => ?_)
  obtain ⟨j, hj, rfl⟩ := List.mem_iff_getElem.1 hc
  rw [List.length_drop] at hj
  rw [List.getElem_drop]
  exact hno _ (by omega) (by omega) (by omega)
theorem PtIn.slash {b : List UInt8} {n fr : Nat} {M : List (List UInt8)} (h : PtIn b n fr M) (hn : n < b.length) (hs : b[n] = 47) : PtIn b (n + 1) (n + 1) (M ++ [(b.drop fr).take (n - fr)]) := by
  rcases h with ⟨h1, h2, h3, h4⟩ | ⟨h1, -⟩
  · refine .inl ⟨by omega, by omega, fun j _ a b => by omega, ?_⟩
    rw [h4, pt_piece hn h2 h3 hs, List.append_assoc]; rfl
  · omega
theorem PtIn.last {b : List UInt8} {n fr : Nat} {M : List (List UInt8)} (h : PtIn b n fr M) (hn : n = b.length) : PtIn b (n + 1) (n + 1) (M ++ [(b.drop fr).take (n - fr)]) := by
  rcases h with ⟨h1, h2, h3, h4⟩ | ⟨h1, -⟩
  · refine .inr ⟨by omega, ?_⟩
    rw [h4, pt_last hn h2 h3]
  · omega
theorem PtIn.next {b : List UInt8} {n fr : Nat} {M : List (List UInt8)} (h : PtIn b n fr M) (hn : n < b.length) (hs : b[n] ≠ 47) : PtIn b (n + 1) fr M := by
  rcases h with ⟨h1, h2, h3, h4⟩ | ⟨h1, -⟩
  · refine .inl ⟨by omega, by omega, fun j hj a c => ?_, h4⟩
    by_cases e : j = n
    · subst e; exact hs
    · exact h3 j hj a (by omega)
  · omega
theorem PtIn.from_le {b : List UInt8} {n fr : Nat} {M : List (List UInt8)} (h : PtIn b n fr M) (hn : n ≤ b.length) : fr ≤ n := by
  rcases h with ⟨h1, h2, -, -⟩ | ⟨h1, -⟩
  · exact h2
  · omega
theorem PtIn.many {b : List UInt8} {n fr : Nat} {M : List (List UInt8)} (h : PtIn b n fr M) (hn : n ≤ b.length) : M.length < (cutL b).length := by
  rcases h with ⟨h1, h2, -, h4⟩ | ⟨h1, -⟩
  · rw [h4, List.length_append]
    have : (cutL (b.drop fr)).length ≠ 0 := fun e => cutL_ne _ (List.length_eq_zero_iff.1 e)
    omega
  · omega
def PtRel (s : ByteArray) (w : World) (out f i : Value) (wr : World) : Prop :=
  ∃ (n fr : Nat) (M : List (List UInt8)), n ≤ s.size + 1 ∧ fr ≤ s.size + 1 ∧ i = .int .i64 n ∧ f = .int .i64 fr ∧ wr.ownsRow w.heap.size 9 1 out M.length (svals (M.map toB)) ∧ M.length ≤ 4 ∧ PtIn s.data.toList n fr M ∧ Below w.heap.size w wr
theorem extract_toB (s : ByteArray) (a b : Nat) : s.extract a b = toB ((s.data.toList.drop a).take (b - a)) := by
  apply ByteArray.ext
  apply Array.toList_inj.1
  rw [Lib.extract_data]
  simp [toB]
theorem many_no {s : ByteArray} (h : 4 < (cutL s.data.toList).length) (hst : s ≠ ⟨#[42]⟩) : pathR s = ([], 10) := by
  unfold pathR
  rw [if_neg hst, if_neg]
  unfold mayB
  rw [decide_eq_false (by rw [pieces_eq, List.length_map]; omega), Bool.false_and]
  simp
set_option maxRecDepth 100000 in
set_option maxHeartbeats 1600000 in
theorem refPath_any (s : ByteArray) (w : World) (hs : s.size ≤ 1000) :
    Calls Tryz.prog 102 #[.string s] w (PathPost (pathR s) w) := by
  obtain ⟨i0, hi, hz0, hz1, hz2⟩ := info_parts info_strQ
  have HSB := hid (star_eq s)
  by_cases hst : s = ⟨#[42]⟩
  · have HPR := hid (show pathR s = ([], 0) by unfold pathR; rw [if_pos hst])
    have t1 : (s.toList == [42]) = true := by rw [HSB.out]; exact decide_eq_true hst
    clear hst
    go_enter Tryz.func102, Tryz.ntmps102
    go_wp2
    refine bodyPost_ret (v := .tuple #[.slice none 0 0, .int .i64 0]) (by simp [results, Tryz.results102, go_sem]) rfl ?_
    rw [HPR.out]
    exact ⟨_, rfl, World.ownsRow_nil _ _ _ _, Below.refl _ _⟩
  · have HPR := hid (show pathR s = if mayB (piecesB s) then (piecesB s, 0) else ([], 10) by unfold pathR; rw [if_neg hst])
    have t1 : (s.toList == [42]) = false := by rw [HSB.out]; exact decide_eq_false hst
    have HMN := hid (fun h => many_no (s := s) h hst)
    have hbl : s.data.toList.length = s.size := by rw [Array.length_toList]; rfl
    have HBL := hid hbl
    clear hst hbl
    go_enter Tryz.func102, Tryz.ntmps102
    go_wp2
    go_loopw [4, 5, 6] (fun out f i wr => PtRel s w out f i wr) (fun _ _ i _ => s.size + 1 - (intOf i).toNat)
    case atStart => exact ⟨0, 0, [], by omega, by omega, rfl, rfl, World.ownsRow_nil _ _ _ _, by simp, .inl ⟨by omega, by omega, fun j _ _ h => by omega, rfl⟩, Below.refl _ _⟩
    case round =>
      obtain ⟨n, fr, M, hn, hfr, rfl, rfl, hown, hM, hpt, hb⟩ := hrel
      have hsz := hb.size
      have HB := hid hb; have HPT := hid hpt; have HOW := hid hown
      clear hb hpt
      obtain ⟨Ao, co, rfl, hco1, hco2, -⟩ := own_cells hown
      unfold maxLen at hco2
      clear hown
      by_cases hle : n ≤ s.size
      · have t2 : decide ((n : Int) ≤ (s.size : Int)) = true := by rw [decide_eq_true_eq]; omega
        have hff := HPT.out.from_le (by rw [HBL.out]; exact hle)
        by_cases hlast : n = s.size
        · have t3 : ((n : Int) == (s.size : Int)) = true := by rw [beq_iff_eq]; omega
          have HLA := hid hlast; clear hlast
          by_cases hM3 : 3 < M.length
          · have t5 : decide ((3 : Int) < (M.length : Int)) = true := by rw [decide_eq_true_eq]; omega
            have HF := hid (HMN.out (by have := HPT.out.many (by rw [HBL.out]; exact hle); omega))
            go_wp2
            refine bodyPost_ret (v := .tuple #[.slice none 0 0, .int .i64 10]) (by simp [results, Tryz.results102, go_sem]) rfl ?_
            rw [HF.out]
            exact ⟨_, rfl, World.ownsRow_nil _ _ _ _, HB.out⟩
          · have t5 : decide ((3 : Int) < (M.length : Int)) = false := by rw [decide_eq_false_iff_not]; omega
            go_wp2_with (at_builtin; refine stop_here ?_)
            refine go_on ?_
            refine app_own_at (.tmp 29) (.tmp 34) 129 129 rfl rfl w.heap.size 9 i0 (.string ByteArray.empty) 1 16 Tryz.underlying129 hi hz0 hz1 hz2 rfl (by decide) _ M.length _ rfl (HOW.out.alloc _) (.slice (some ⟨wr.heap.size, 0, none⟩) 1 1) 1 [_] rfl (Src.ofSlice _ Tryz.underlying129 _ 1 1 _ rfl (cell_one_at' _ _ _ rfl) (by simp; rfl)) (by simp only [maxLen]; omega) (by omega) (by rw [World.size_alloc]; omega) ?_
            intro v' w3 ho' hg' hb3 hat'
            have ho2 : w3.ownsRow w.heap.size 9 1 v' (M ++ [(s.data.toList.drop fr).take (n - fr)]).length (svals ((M ++ [(s.data.toList.drop fr).take (n - fr)]).map toB)) := by
              rw [List.map_append, List.length_append]
              show w3.ownsRow _ _ _ _ (M.length + 1) _
              rw [show svals (M.map toB ++ [(s.data.toList.drop fr).take (n - fr)].map toB) = svals (M.map toB) ++ [.string (s.extract fr n)] by rw [extract_toB]; simp [svals]]
              exact ho'
            have HO2 := hid ho2
            have HP2 := hid (HPT.out.last (by rw [HBL.out]; exact HLA.out))
            have HB2 := hid (HB.out.trans (((Below.refl _ _).alloc hsz _).trans hb3))
            clear ho' hg' hb3 hat' ho2
            go_wp2
            go_roundw
            case rel => exact ⟨n + 1, n + 1, _, by omega, by omega, by go_num, by go_num, HO2.out, by rw [List.length_append]; simp; omega, HP2.out, HB2.out⟩
            case measure => simp [intOf]; omega
        · have t3 : ((n : Int) == (s.size : Int)) = false := by rw [beq_eq_false_iff_ne]; omega
          have hlt : n < s.size := by omega
          have hnb : (s[n]'hlt).toNat < 256 := UInt8.toNat_lt _
          by_cases hsl : (s[n]'hlt) = 47
          · have t4 : (((s[n]'hlt).toNat : Int) == 47) = true := by rw [hsl]; rfl
            by_cases hM3 : 3 < M.length
            · have t5 : decide ((3 : Int) < (M.length : Int)) = true := by rw [decide_eq_true_eq]; omega
              have HF := hid (HMN.out (by have := HPT.out.many (by rw [HBL.out]; exact hle); omega))
              go_wp2
              refine bodyPost_ret (v := .tuple #[.slice none 0 0, .int .i64 10]) (by simp [results, Tryz.results102, go_sem]) rfl ?_
              rw [HF.out]
              exact ⟨_, rfl, World.ownsRow_nil _ _ _ _, HB.out⟩
            · have t5 : decide ((3 : Int) < (M.length : Int)) = false := by rw [decide_eq_false_iff_not]; omega
              go_wp2_with (at_builtin; refine stop_here ?_)
              refine go_on ?_
              refine app_own_at (.tmp 29) (.tmp 34) 129 129 rfl rfl w.heap.size 9 i0 (.string ByteArray.empty) 1 16 Tryz.underlying129 hi hz0 hz1 hz2 rfl (by decide) _ M.length _ rfl (HOW.out.alloc _) (.slice (some ⟨wr.heap.size, 0, none⟩) 1 1) 1 [_] rfl (Src.ofSlice _ Tryz.underlying129 _ 1 1 _ rfl (cell_one_at' _ _ _ rfl) (by simp; rfl)) (by simp only [maxLen]; omega) (by omega) (by rw [World.size_alloc]; omega) ?_
              intro v' w3 ho' hg' hb3 hat'
              have ho2 : w3.ownsRow w.heap.size 9 1 v' (M ++ [(s.data.toList.drop fr).take (n - fr)]).length (svals ((M ++ [(s.data.toList.drop fr).take (n - fr)]).map toB)) := by
                rw [List.map_append, List.length_append]
                show w3.ownsRow _ _ _ _ (M.length + 1) _
                rw [show svals (M.map toB ++ [(s.data.toList.drop fr).take (n - fr)].map toB) = svals (M.map toB) ++ [.string (s.extract fr n)] by rw [extract_toB]; simp [svals]]
                exact ho'
              have HO2 := hid ho2
              have HP2 := hid (HPT.out.slash (by rw [HBL.out]; exact hlt) hsl)
              have HB2 := hid (HB.out.trans (((Below.refl _ _).alloc hsz _).trans hb3))
              clear ho' hg' hb3 hat' ho2
              go_wp2
              go_roundw
              case rel => exact ⟨n + 1, n + 1, _, by omega, by omega, by go_num, by go_num, HO2.out, by rw [List.length_append]; simp; omega, HP2.out, HB2.out⟩
              case measure => simp [intOf]; omega
          · have t4 : (((s[n]'hlt).toNat : Int) == 47) = false := by rw [beq_eq_false_iff_ne]; intro e; exact hsl (UInt8.toNat_inj.1 (by show _ = 47; omega))
            have HP2 := hid (HPT.out.next (by rw [HBL.out]; exact hlt) hsl)
            go_wp2
            go_roundw
            case rel => exact ⟨n + 1, fr, M, by omega, by omega, by go_num, rfl, HOW.out, hM, HP2.out, HB.out⟩
            case measure => simp [intOf]; omega
      · have t2 : decide ((n : Int) ≤ (s.size : Int)) = false := by rw [decide_eq_false_iff_not]; omega
        have hMe : M = cutL s.data.toList := by
          rcases HPT.out with ⟨h1, -⟩ | ⟨-, h⟩
          · rw [HBL.out] at h1; omega
          · exact h
        have hpe : M.map toB = piecesB s := by rw [hMe]; rfl
        have hml : M.length = (piecesB s).length := by rw [← hpe, List.length_map]
        have HO := HOW.out
        rw [hpe, hml] at HO
        have HMY := hid (refMayN_any (.slice Ao M.length co) (piecesB s) wr (by rw [hml]; exact Sl.of_own HO))
        have HO' := hid HO
        have HML := hid hml
        clear HO hpe hMe
        cases hmb : mayB (piecesB s)
        · have HF := hid (show pathR s = ([], 10) by rw [HPR.out, if_neg (by rw [hmb]; simp)])
          rw [hmb] at HMY
          clear hmb hml
          go_wp2_with fail
          refine HMY.out.mono ?_
          rintro e w2 ⟨rfl, hq2⟩
          go_wp2
          refine bodyPost_ret (v := .tuple #[.slice none 0 0, .int .i64 10]) (by simp [results, Tryz.results102, go_sem]) rfl ?_
          rw [HF.out]
          exact ⟨_, rfl, World.ownsRow_nil _ _ _ _, HB.out.trans ((hq2.below _).mono hsz)⟩
        · have HF := hid (show pathR s = (piecesB s, 0) by rw [HPR.out, if_pos hmb])
          rw [hmb] at HMY
          clear hmb hml
          go_wp2_with fail
          refine HMY.out.mono ?_
          rintro e w2 ⟨rfl, hq2⟩
          go_wp2
          refine bodyPost_ret (v := .tuple #[.slice Ao M.length co, .int .i64 0]) (by simp [results, Tryz.results102, go_sem]) rfl ?_
          rw [HF.out, HML.out]
          exact ⟨_, rfl, own_kept HO'.out (fun g hg => (hq2.below wr.heap.size).block g (HO'.out.lt g hg).2), HB.out.trans ((hq2.below _).mono hsz)⟩
end Go.Proofs.YtkgifbnkkmeoiaaGreatDoor
