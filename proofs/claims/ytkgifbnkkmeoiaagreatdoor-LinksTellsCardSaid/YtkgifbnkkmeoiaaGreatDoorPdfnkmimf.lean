/- 2 texts of this claim, in build order. -/
import Derived.Test.YtkgifbnkkmeoiaaGreatDoorPkcgdjgcb
import Derived.Test.YtkgifbnkkmeoiaaGreatDoorPbkammdio
import Derived.Test.YtkgifbnkkmeoiaaGreatDoorPjbdkjpfe
/- What is put is got. -/
namespace Go.Proofs.YtkgifbnkkmeoiaaGreatDoor
open Go.ChangeShapes Go.WideShapes Go.ChangeAt Go.RowKit
set_option linter.unusedVariables false

theorem readB_at (fs : List FactX) (h8 : fs.length ≤ 8) (h : ∀ f ∈ fs, plainFt f = true) (pre post : List UInt8) : readB (pre ++ (putFacts fs ++ post)) pre.length 0 = (fs, pre.length + (putFacts fs).length, 0) := by
  have e : pre ++ (putFacts fs ++ post) = pre ++ (putInt fs.length ++ (fs.flatMap putFact ++ post)) := by unfold putFacts; rw [List.append_assoc]
  have r1 := rInt_put pre (fs.flatMap putFact ++ post) fs.length 0 8 (by omega) (by omega) (by omega) (by omega)
  rw [← e] at r1
  have r2 := factsR_put fs h (pre ++ putInt fs.length) post
  rw [List.append_assoc, ← e, List.length_append] at r2
  unfold readB
  simp only [r1, Int.toNat_natCast, r2, if_true]
  unfold putFacts
  rw [List.length_append, Nat.add_assoc]
theorem cmdR_put (c : CmdX) (h : errC c = 0) (pre post : List UInt8) : cmdR (pre ++ (putC c ++ post)) pre.length 0 = (c, pre.length + (putC c).length, 0) := by
  obtain ⟨h1, h2, h3, h4, h5, h6, h7⟩ := errC_zero h
  obtain ⟨h8, h9⟩ := putE_zero h7
  obtain ⟨o, s, q, fs⟩ := c
  simp only at h1 h2 h3 h4 h5 h6 h8 h9
  have e1 : pre ++ (putC (o, s, q, fs) ++ post) = pre ++ (putInt o ++ (putInt s ++ (putInt q ++ (putFacts fs ++ post)))) := by unfold putC; simp only [List.append_assoc]
  have e2 : pre ++ (putC (o, s, q, fs) ++ post) = (pre ++ putInt o) ++ (putInt s ++ (putInt q ++ (putFacts fs ++ post))) := by rw [e1]; simp only [List.append_assoc]
  have e3 : pre ++ (putC (o, s, q, fs) ++ post) = (pre ++ putInt o ++ putInt s) ++ (putInt q ++ (putFacts fs ++ post)) := by rw [e1]; simp only [List.append_assoc]
  have e4 : pre ++ (putC (o, s, q, fs) ++ post) = (pre ++ putInt o ++ putInt s ++ putInt q) ++ (putFacts fs ++ post) := by rw [e1]; simp only [List.append_assoc]
  have r1 := rInt_put pre (putInt s ++ (putInt q ++ (putFacts fs ++ post))) o 0 3 (by omega) (by omega) h1 h2
  rw [← e1] at r1
  have r2 := rInt_put (pre ++ putInt o) (putInt q ++ (putFacts fs ++ post)) s 0 1099511627776 (by omega) (by omega) h3 h4
  rw [← e2, List.length_append] at r2
  have r3 := rInt_put (pre ++ putInt o ++ putInt s) (putFacts fs ++ post) q 0 1099511627776 (by omega) (by omega) h5 h6
  rw [← e3, List.length_append, List.length_append] at r3
  have r4 := readB_at fs h8 h9 (pre ++ putInt o ++ putInt s ++ putInt q) post
  rw [← e4, List.length_append, List.length_append, List.length_append] at r4
  unfold cmdR
  simp only [r1, r2, r3, r4, if_true]
  unfold putC
  simp only [List.length_append, Nat.add_assoc]
theorem entR_put (x : EntX) (h : errN x = 0) (pre post : List UInt8) : entR (pre ++ (putN x ++ post)) pre.length 0 = (x, pre.length + (putN x).length, 0) := by
  obtain ⟨h1, h2, h3, h4, h5⟩ := errN_zero h
  obtain ⟨i, t, c⟩ := x
  simp only at h1 h2 h3 h4 h5
  have e1 : pre ++ (putN (i, t, c) ++ post) = pre ++ (putInt i ++ (putInt t ++ (putC c ++ post))) := by unfold putN; simp only [List.append_assoc]
  have e2 : pre ++ (putN (i, t, c) ++ post) = (pre ++ putInt i) ++ (putInt t ++ (putC c ++ post)) := by rw [e1]; simp only [List.append_assoc]
  have e3 : pre ++ (putN (i, t, c) ++ post) = (pre ++ putInt i ++ putInt t) ++ (putC c ++ post) := by rw [e1]; simp only [List.append_assoc]
  have r1 := rInt_put pre (putInt t ++ (putC c ++ post)) i 1 1099511627776 (by omega) (by omega) h1 h2
  rw [← e1] at r1
  have r2 := rInt_put (pre ++ putInt i) (putC c ++ post) t 1 1099511627776 (by omega) (by omega) h3 h4
  rw [← e2, List.length_append] at r2
  have r3 := cmdR_put c h5 (pre ++ putInt i ++ putInt t) post
  rw [← e3, List.length_append, List.length_append] at r3
  unfold entR
  simp only [r1, r2, r3, if_true]
  unfold putN
  simp only [List.length_append, Nat.add_assoc]
theorem entsR_put (xs : List EntX) (h : ∀ x ∈ xs, errN x = 0) : ∀ pre post : List UInt8, entsR (pre ++ (xs.flatMap putN ++ post)) xs.length pre.length 0 = (xs, pre.length + (xs.flatMap putN).length, 0) := by
  induction xs with
  | nil => intro pre post; rfl
  | cons x xs ih =>
    intro pre post
    have e : pre ++ ((x :: xs).flatMap putN ++ post) = pre ++ (putN x ++ (xs.flatMap putN ++ post)) := by rw [List.flatMap_cons, List.append_assoc]
    rw [e]
    show entsR _ (xs.length + 1) _ _ = _
    unfold entsR
    rw [entR_put x (h x List.mem_cons_self)]
    have i := ih (fun m hm => h m (List.mem_cons_of_mem _ hm)) (pre ++ putN x) post
    rw [List.append_assoc, List.length_append] at i
    rw [i, List.flatMap_cons, List.length_append, Nat.add_assoc]
/-! ### Frames -/
theorem nat_byte (n : Nat) (h : n < 256) : (UInt8.ofNat n).toNat = n := by rw [UInt8.toNat_ofNat']; omega
theorem frameG_put (k : Nat) (body : List UInt8) (hk : k < 256) (hb : body.length ≤ 65536) : frameG (frameB k body) = ((k, body), (frameB k body).length, 0) := by
  have hl := frameB_len k body
  have hn : nB (frameB k body) = body.length := by
    unfold nB frameB frameH le4
    simp only [List.cons_append, List.nil_append, List.getD_cons_zero, List.getD_cons_succ]
    rw [nat_byte _ (by omega), nat_byte _ (by omega), nat_byte _ (by omega), nat_byte _ (by omega)]
    omega
  have h4 : ((frameB k body).getD 4 0).toNat = k := by
    unfold frameB frameH le4
    simp only [List.cons_append, List.nil_append, List.getD_cons_zero, List.getD_cons_succ]
    exact nat_byte k hk
  have h5 : ((frameB k body).drop 5).take body.length = body := by
    unfold frameB
    rw [List.drop_append_of_le_length (by rw [frameH_len]; omega)]
    unfold frameH le4
    simp only [List.cons_append, List.nil_append, List.drop_succ_cons, List.drop_zero]
    rw [List.take_left]
  have hw : wholeB ((frameB k body).take (body.length + 9)) (body.length + 5) = true := by
    rw [← hl, List.take_length]
    unfold wholeB frameB
    rw [decide_eq_true_iff, ← frameH_len k body, List.drop_left, List.take_left]
  unfold frameG
  rw [hn, if_neg (by omega), if_neg (by omega), if_neg (by omega), if_pos hw, h4, h5, hl]
/-! ### Messages -/
theorem numB_in {n : Int} (h : numB n 0 = true) : 0 ≤ n ∧ n ≤ 1099511627776 := of_decide_eq_true h
theorem msgBody_put (m : MsgX) (h : MayM m) : msgBody 1 7 m.kind (bodyM m) = (m, (bodyM m).length, 0) := by
  obtain ⟨⟨⟨k1, k2⟩, ⟨s1, s2⟩, ⟨d1, d2⟩, hsd, he, hd⟩, hn, hen⟩ := h
  obtain ⟨kind, src, dst, term, index, logTerm, commit, round, reject, off, total, ents, data⟩ := m
  simp only at k1 k2 s1 s2 d1 d2 hsd he hd hen
  have n2 := numB_in (hn 2 (by omega)); have n3 := numB_in (hn 3 (by omega)); have n4 := numB_in (hn 4 (by omega)); have n5 := numB_in (hn 5 (by omega)); have n6 := numB_in (hn 6 (by omega)); have n8 := numB_in (hn 8 (by omega)); have n9 := numB_in (hn 9 (by omega))
  simp only [numsM, List.getD_cons_zero, List.getD_cons_succ] at n2 n3 n4 n5 n6 n8 n9
  have hen' : ∀ x ∈ ents, errN x = 0 := fun x hx => by
    obtain ⟨j, hj, rfl⟩ := List.getElem_of_mem hx
    exact hen j hj
  obtain ⟨rj, hrj⟩ : ∃ rj : Int, rj = if reject = true then 1 else 0 := ⟨_, rfl⟩
  have hr0 : 0 ≤ rj ∧ rj ≤ 1 := by rw [hrj]; split <;> omega
  have hr1 : (rj == 1) = reject := by rw [hrj]; cases reject <;> rfl
  have hB : bodyM ⟨kind, src, dst, term, index, logTerm, commit, round, reject, off, total, ents, data⟩ =
      putInt src ++ (putInt dst ++ (putInt term ++ (putInt index ++ (putInt logTerm ++ (putInt commit ++ (putInt round ++ (putInt rj ++ (putInt off ++ (putInt total ++ (putInt (ents.length : Int) ++ (ents.flatMap putN ++ (putInt ((data.length : Nat) : Int) ++ (data ++ []))))))))))))) := by
    unfold bodyM numsM
    rw [hrj]
    simp only [List.flatMap_cons, List.flatMap_nil, List.append_assoc, List.append_nil]
  rw [hB]
  have ap : ∀ (a b c : List UInt8), a ++ (b ++ c) = (a ++ b) ++ c := fun a b c => (List.append_assoc a b c).symm
  obtain ⟨B, hBB⟩ : ∃ B, B = putInt src ++ (putInt dst ++ (putInt term ++ (putInt index ++ (putInt logTerm ++ (putInt commit ++ (putInt round ++ (putInt rj ++ (putInt off ++ (putInt total ++ (putInt (ents.length : Int) ++ (ents.flatMap putN ++ (putInt ((data.length : Nat) : Int) ++ (data ++ []))))))))))))) := ⟨_, rfl⟩
  rw [← hBB]
  have r1 := rInt_put [] (putInt dst ++ (putInt term ++ (putInt index ++ (putInt logTerm ++ (putInt commit ++ (putInt round ++ (putInt rj ++ (putInt off ++ (putInt total ++ (putInt (ents.length : Int) ++ (ents.flatMap putN ++ (putInt ((data.length : Nat) : Int) ++ (data ++ []))))))))))))) src 1 7 (by omega) (by omega) s1 s2
  rw [List.nil_append, ← hBB] at r1
  have r2 := rInt_put (putInt src) (putInt term ++ (putInt index ++ (putInt logTerm ++ (putInt commit ++ (putInt round ++ (putInt rj ++ (putInt off ++ (putInt total ++ (putInt (ents.length : Int) ++ (ents.flatMap putN ++ (putInt ((data.length : Nat) : Int) ++ (data ++ [])))))))))))) dst 1 7 (by omega) (by omega) d1 d2
  rw [show (putInt src) ++ (putInt dst ++ (putInt term ++ (putInt index ++ (putInt logTerm ++ (putInt commit ++ (putInt round ++ (putInt rj ++ (putInt off ++ (putInt total ++ (putInt (ents.length : Int) ++ (ents.flatMap putN ++ (putInt ((data.length : Nat) : Int) ++ (data ++ []))))))))))))) = B by rw [hBB]] at r2
  have r3 := rInt_put (putInt src ++ putInt dst) (putInt index ++ (putInt logTerm ++ (putInt commit ++ (putInt round ++ (putInt rj ++ (putInt off ++ (putInt total ++ (putInt (ents.length : Int) ++ (ents.flatMap putN ++ (putInt ((data.length : Nat) : Int) ++ (data ++ []))))))))))) term 0 1099511627776 (by omega) (by omega) n2.1 n2.2
  rw [show (putInt src ++ putInt dst) ++ (putInt term ++ (putInt index ++ (putInt logTerm ++ (putInt commit ++ (putInt round ++ (putInt rj ++ (putInt off ++ (putInt total ++ (putInt (ents.length : Int) ++ (ents.flatMap putN ++ (putInt ((data.length : Nat) : Int) ++ (data ++ [])))))))))))) = B by rw [hBB]; simp only [List.append_assoc]] at r3
  simp only [List.length_append] at r3
  have r4 := rInt_put (putInt src ++ putInt dst ++ putInt term) (putInt logTerm ++ (putInt commit ++ (putInt round ++ (putInt rj ++ (putInt off ++ (putInt total ++ (putInt (ents.length : Int) ++ (ents.flatMap putN ++ (putInt ((data.length : Nat) : Int) ++ (data ++ [])))))))))) index 0 1099511627776 (by omega) (by omega) n3.1 n3.2
  rw [show (putInt src ++ putInt dst ++ putInt term) ++ (putInt index ++ (putInt logTerm ++ (putInt commit ++ (putInt round ++ (putInt rj ++ (putInt off ++ (putInt total ++ (putInt (ents.length : Int) ++ (ents.flatMap putN ++ (putInt ((data.length : Nat) : Int) ++ (data ++ []))))))))))) = B by rw [hBB]; simp only [List.append_assoc]] at r4
  simp only [List.length_append] at r4
  have r5 := rInt_put (putInt src ++ putInt dst ++ putInt term ++ putInt index) (putInt commit ++ (putInt round ++ (putInt rj ++ (putInt off ++ (putInt total ++ (putInt (ents.length : Int) ++ (ents.flatMap putN ++ (putInt ((data.length : Nat) : Int) ++ (data ++ []))))))))) logTerm 0 1099511627776 (by omega) (by omega) n4.1 n4.2
  rw [show (putInt src ++ putInt dst ++ putInt term ++ putInt index) ++ (putInt logTerm ++ (putInt commit ++ (putInt round ++ (putInt rj ++ (putInt off ++ (putInt total ++ (putInt (ents.length : Int) ++ (ents.flatMap putN ++ (putInt ((data.length : Nat) : Int) ++ (data ++ [])))))))))) = B by rw [hBB]; simp only [List.append_assoc]] at r5
  simp only [List.length_append] at r5
  have r6 := rInt_put (putInt src ++ putInt dst ++ putInt term ++ putInt index ++ putInt logTerm) (putInt round ++ (putInt rj ++ (putInt off ++ (putInt total ++ (putInt (ents.length : Int) ++ (ents.flatMap putN ++ (putInt ((data.length : Nat) : Int) ++ (data ++ [])))))))) commit 0 1099511627776 (by omega) (by omega) n5.1 n5.2
  rw [show (putInt src ++ putInt dst ++ putInt term ++ putInt index ++ putInt logTerm) ++ (putInt commit ++ (putInt round ++ (putInt rj ++ (putInt off ++ (putInt total ++ (putInt (ents.length : Int) ++ (ents.flatMap putN ++ (putInt ((data.length : Nat) : Int) ++ (data ++ []))))))))) = B by rw [hBB]; simp only [List.append_assoc]] at r6
  simp only [List.length_append] at r6
  have r7 := rInt_put (putInt src ++ putInt dst ++ putInt term ++ putInt index ++ putInt logTerm ++ putInt commit) (putInt rj ++ (putInt off ++ (putInt total ++ (putInt (ents.length : Int) ++ (ents.flatMap putN ++ (putInt ((data.length : Nat) : Int) ++ (data ++ []))))))) round 0 1099511627776 (by omega) (by omega) n6.1 n6.2
  rw [show (putInt src ++ putInt dst ++ putInt term ++ putInt index ++ putInt logTerm ++ putInt commit) ++ (putInt round ++ (putInt rj ++ (putInt off ++ (putInt total ++ (putInt (ents.length : Int) ++ (ents.flatMap putN ++ (putInt ((data.length : Nat) : Int) ++ (data ++ [])))))))) = B by rw [hBB]; simp only [List.append_assoc]] at r7
  simp only [List.length_append] at r7
  have r8 := rInt_put (putInt src ++ putInt dst ++ putInt term ++ putInt index ++ putInt logTerm ++ putInt commit ++ putInt round) (putInt off ++ (putInt total ++ (putInt (ents.length : Int) ++ (ents.flatMap putN ++ (putInt ((data.length : Nat) : Int) ++ (data ++ [])))))) rj 0 1 (by omega) (by omega) hr0.1 hr0.2
  rw [show (putInt src ++ putInt dst ++ putInt term ++ putInt index ++ putInt logTerm ++ putInt commit ++ putInt round) ++ (putInt rj ++ (putInt off ++ (putInt total ++ (putInt (ents.length : Int) ++ (ents.flatMap putN ++ (putInt ((data.length : Nat) : Int) ++ (data ++ []))))))) = B by rw [hBB]; simp only [List.append_assoc]] at r8
  simp only [List.length_append] at r8
  have r9 := rInt_put (putInt src ++ putInt dst ++ putInt term ++ putInt index ++ putInt logTerm ++ putInt commit ++ putInt round ++ putInt rj) (putInt total ++ (putInt (ents.length : Int) ++ (ents.flatMap putN ++ (putInt ((data.length : Nat) : Int) ++ (data ++ []))))) off 0 1099511627776 (by omega) (by omega) n8.1 n8.2
  rw [show (putInt src ++ putInt dst ++ putInt term ++ putInt index ++ putInt logTerm ++ putInt commit ++ putInt round ++ putInt rj) ++ (putInt off ++ (putInt total ++ (putInt (ents.length : Int) ++ (ents.flatMap putN ++ (putInt ((data.length : Nat) : Int) ++ (data ++ [])))))) = B by rw [hBB]; simp only [List.append_assoc]] at r9
  simp only [List.length_append] at r9
  have r10 := rInt_put (putInt src ++ putInt dst ++ putInt term ++ putInt index ++ putInt logTerm ++ putInt commit ++ putInt round ++ putInt rj ++ putInt off) (putInt (ents.length : Int) ++ (ents.flatMap putN ++ (putInt ((data.length : Nat) : Int) ++ (data ++ [])))) total 0 1099511627776 (by omega) (by omega) n9.1 n9.2
  rw [show (putInt src ++ putInt dst ++ putInt term ++ putInt index ++ putInt logTerm ++ putInt commit ++ putInt round ++ putInt rj ++ putInt off) ++ (putInt total ++ (putInt (ents.length : Int) ++ (ents.flatMap putN ++ (putInt ((data.length : Nat) : Int) ++ (data ++ []))))) = B by rw [hBB]; simp only [List.append_assoc]] at r10
  simp only [List.length_append] at r10
  have r11 := rInt_put (putInt src ++ putInt dst ++ putInt term ++ putInt index ++ putInt logTerm ++ putInt commit ++ putInt round ++ putInt rj ++ putInt off ++ putInt total) (ents.flatMap putN ++ (putInt ((data.length : Nat) : Int) ++ (data ++ []))) (ents.length : Int) 0 6 (by omega) (by omega) (by omega) (by omega)
  rw [show (putInt src ++ putInt dst ++ putInt term ++ putInt index ++ putInt logTerm ++ putInt commit ++ putInt round ++ putInt rj ++ putInt off ++ putInt total) ++ (putInt (ents.length : Int) ++ (ents.flatMap putN ++ (putInt ((data.length : Nat) : Int) ++ (data ++ [])))) = B by rw [hBB]; simp only [List.append_assoc]] at r11
  simp only [List.length_append] at r11
  have r12 := entsR_put ents hen' (putInt src ++ putInt dst ++ putInt term ++ putInt index ++ putInt logTerm ++ putInt commit ++ putInt round ++ putInt rj ++ putInt off ++ putInt total ++ putInt (ents.length : Int)) (putInt ((data.length : Nat) : Int) ++ (data ++ []))
  rw [show (putInt src ++ putInt dst ++ putInt term ++ putInt index ++ putInt logTerm ++ putInt commit ++ putInt round ++ putInt rj ++ putInt off ++ putInt total ++ putInt (ents.length : Int)) ++ (ents.flatMap putN ++ (putInt ((data.length : Nat) : Int) ++ (data ++ []))) = B by rw [hBB]; simp only [List.append_assoc]] at r12
  simp only [List.length_append] at r12
  have r13 := rText_put (putInt src ++ putInt dst ++ putInt term ++ putInt index ++ putInt logTerm ++ putInt commit ++ putInt round ++ putInt rj ++ putInt off ++ putInt total ++ putInt (ents.length : Int) ++ ents.flatMap putN) [] data 160 (by omega) (by omega)
  rw [show (putInt src ++ putInt dst ++ putInt term ++ putInt index ++ putInt logTerm ++ putInt commit ++ putInt round ++ putInt rj ++ putInt off ++ putInt total ++ putInt (ents.length : Int) ++ ents.flatMap putN) ++ (putInt ((data.length : Nat) : Int) ++ (data ++ [])) = B by rw [hBB]; simp only [List.append_assoc]] at r13
  simp only [List.length_append] at r13
  unfold msgBody msgTail
  simp only [List.length_nil, Nat.zero_add] at r1
  simp only [r1, r2, r3, r4, r5, r6, r7, r8, r9, r10, r11, Int.toNat_natCast, r12, r13, hr1]
  rw [hBB]
  simp only [List.length_append, List.length_nil, Nat.add_assoc, Nat.add_zero]
theorem msgB_len {m : MsgX} : (msgB m).length = (bodyM m).length + 9 := frameB_len _ _
theorem getMP_put (m : MsgX) (h : MayM m) (hb : (bodyM m).length ≤ 65536) : getMP (msgB m) = (m, 0) := by
  have hk := h.1.1
  have hfg : frameG (msgB m) = ((m.kind.toNat, bodyM m), (msgB m).length, 0) := frameG_put _ _ (by omega) hb
  have hkk : ((m.kind.toNat : Nat) : Int) = m.kind := by omega
  have hm := msgBody_put m h
  unfold getMP
  rw [hfg]
  simp only
  rw [if_neg (by simp), if_neg (by rw [hkk]; omega), hkk, hm]
  simp only
  rw [if_neg]
  intro h1
  rcases h1 with h1 | h1
  · apply h1
    unfold rEnd
    simp
  · exact h.1.2.2.2.1 h1
end Go.Proofs.YtkgifbnkkmeoiaaGreatDoor
/- What is got is a message; the empty message. -/
namespace Go.Proofs.YtkgifbnkkmeoiaaGreatDoor
open Go.ChangeShapes Go.WideShapes Go.ChangeAt Go.RowKit
set_option linter.unusedVariables false
set_option linter.unusedSimpArgs false

theorem msg0_in : MsgIn msg0 ∧ ∀ x ∈ msg0.ents, EntIn x := by
  have h0 : InI64 0 := ⟨by decide, by decide⟩
  exact ⟨⟨h0, h0, h0, h0, h0, h0, h0, h0, h0, h0⟩, fun x hx => (by cases hx)⟩
theorem getMP_in (l : List UInt8) : (MsgIn (getMP l).1 ∧ ∀ x ∈ (getMP l).1.ents, EntIn x) ∧ (getMP l).1.data.length ≤ 160 := by
  have h0 := msg0_in
  unfold getMP
  split
  · exact ⟨h0, Nat.zero_le _⟩
  · split
    · exact ⟨h0, Nat.zero_le _⟩
    · rename_i h1
      have hk : 1 ≤ ((frameG l).1.1 : Int) ∧ ((frameG l).1.1 : Int) ≤ 8 := Classical.byContradiction fun h => h1 (.inr h)
      dsimp only
      split
      · exact ⟨h0, Nat.zero_le _⟩
      · exact ⟨msgBody_in 1 7 _ _ ⟨by omega, by omega⟩ (by omega) (by omega), rText_le _ _ _⟩
theorem GetP.msg {r : MsgX × Int} {w w' : World} {e : Ending} (h : GetP r w e w') (hs : MsgIn r.1 ∧ ∀ x ∈ r.1.ents, EntIn x) :
    ∃ u, e = .returned (.tuple #[u, .int .i64 r.2]) ∧ MsgV w' w'.heap.size u r.1 ∧ Below w.heap.size w w' := by
  obtain ⟨A1, c1, A2, c2, rfl, hE, hD, hb⟩ := h
  exact ⟨_, rfl, ⟨A1, c1, A2, c2, rfl, hE.rows hs.2, hD, hs.1⟩, hb⟩
theorem msg0_v (w : World) (B : Nat) : MsgV w B (.agg #[.int .i64 0, .int .i64 0, .int .i64 0, .int .i64 0, .int .i64 0, .int .i64 0, .int .i64 0, .int .i64 0, .bool false, .int .i64 0, .int .i64 0, .slice none 0 0, .slice none 0 0]) msg0 := by
  refine ⟨none, 0, none, 0, rfl, ?_, ?_, msg0_in.1⟩
  · exact ⟨none, 0, rfl, Nat.le_refl _, by decide, fun h => absurd h (by simp [msg0])⟩
  · exact ⟨none, 0, rfl, Nat.le_refl _, by decide, fun h => absurd h (by simp [msg0, bvals])⟩
theorem putMsg_len (m : MsgX) : (putMsg m).1.length ≤ 12009 := by
  by_cases h : MayM m
  · rw [putMsg_yes h]
    have := bodyM_le h
    show (msgB m).length ≤ _
    rw [msgB_len]; omega
  · rw [putMsg_no h]; exact Nat.zero_le _
theorem putMsg_ways (m : MsgX) : (MayM m ∧ putMsg m = (msgB m, 0) ∧ getMP (msgB m) = (m, 0) ∧ (msgB m).length ≤ 12009 ∧ 9 ≤ (msgB m).length) ∨ (¬ MayM m ∧ putMsg m = ([], 1)) := by
  by_cases h : MayM m
  · have hb := bodyM_le h
    exact .inl ⟨h, putMsg_yes h, getMP_put m h (by omega), by rw [msgB_len]; omega, by rw [msgB_len]; omega⟩
  · exact .inr ⟨h, putMsg_no h⟩
end Go.Proofs.YtkgifbnkkmeoiaaGreatDoor
