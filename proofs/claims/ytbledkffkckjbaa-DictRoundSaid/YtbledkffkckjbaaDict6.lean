/- The program's dictionary: Put, Copy. -/
import Derived.Test.YtbledkffkckjbaaDict5
import Derived.Test.YtbledkffkckjbaaDictRef2
namespace Go.Proofs.Ytbledkffkckjbaa
open Go.ChangeShapes Go.WideShapes Go.ChangeAt Go.RowKit Go.Maps
set_option linter.unusedVariables false

def itemD (x : DNode) : List UInt8 := putInt (x.1 : Int) ++ (putInt (x.2.size : Nat) ++ x.2.data.toList)
def putDR (ns : List DNode) : List UInt8 := putInt (ns.length : Nat) ++ ns.flatMap itemD
theorem itemD_len (x : DNode) (h : x.2.size ≤ 12) : (itemD x).length ≤ 100 := by
  unfold itemD
  have h2 := putInt_le (x.1 : Int)
  have h3 := putInt_le ((x.2.size : Nat) : Int)
  have h4 : x.2.data.toList.length = x.2.size := by rw [Array.length_toList]; rfl
  simp only [List.length_append]; omega
def PutDictRel (ns : List DNode) (l : List UInt8) (w : World) (v i : Value) (wr : World) : Prop :=
  ∃ k : Nat, i = .int .i64 k ∧ k ≤ ns.length ∧ Sl wr wr.heap.size v (bvals (l ++ (putInt (ns.length : Nat) ++ (ns.take k).flatMap itemD))) ∧ Below w.heap.size w wr ∧ ((ns.take k).flatMap itemD).length ≤ k * 100
set_option maxRecDepth 100000 in
set_option maxHeartbeats 800000 in
theorem putDict_any (D : Nat → Prop) (d : Nat) (L : Int) (ns : List DNode) (v : Value) (l : List UInt8) (w : World) (h : DictW w D d L ns) (hnl : ns.length ≤ 1000) (hok : ∀ x ∈ ns, x.1 ≤ 1000000 ∧ x.2.size ≤ 12) (hv : Sl w w.heap.size v (bvals l)) (hl : l.length ≤ 1000000) :
    Calls Try.prog 20 #[.pointer (some ⟨d, 0, none⟩), v] w (PutSl (l ++ putDR ns) w) := by
  obtain ⟨A, c, h5, hc1, hc2, hrow⟩ := h.rows
  have hrl := h.2.1 d h.1
  have hp0 := putInt_le ((ns.length : Nat) : Int)
  have HL := hid (lenD_any D d L ns w h)
  have HP := hid (fun W (hs : Sl W W.heap.size v (bvals l)) => putInt_any v l ((ns.length : Nat) : Int) W hs (by omega) (by omega) (by omega))
  have HROW := hid hrow; have HOK := hid hok; have HV := hid hv; clear h hrow hok hv
  unfold maxLen at hc2
  go_enter Try.func20, Try.ntmps20
  go_wp2_with fail
  refine HL.out.mono ?_
  rintro e w1 ⟨rfl, hq1⟩
  have hs1 : Sl w1 w1.heap.size v (bvals l) := by have := HV.out.qu' hq1; rwa [Qu.size hq1]
  have HS1 := hid hs1; have HQ1 := hid (hq1.below w.heap.size); clear hs1 hq1
  go_wp2_with fail
  refine (HP.out _ HS1.out).mono ?_
  rintro e w2 ⟨v2, rfl, hown2, hb2⟩
  have S2 := hid (Sl.of_own hown2); have B2 := hid (HQ1.out.trans (hb2.mono HQ1.out.size)); clear hown2 hb2
  have h5' := cellK B2.out hrl h5
  go_wp2
  go_loopw [1, 6, 16] (fun v _ i wr => PutDictRel ns l w v i wr) (fun _ _ i _ => ns.length - (intOf i).toNat)
  case atStart => exact ⟨0, rfl, by omega, by simpa using S2.out, B2.out, by simp⟩
  case round =>
    obtain ⟨k, rfl, hk, hs, hb, hlen⟩ := hrel
    have HS := hid hs; have HB := hid hb; clear hs hb
    by_cases hlt : k < ns.length
    · obtain ⟨b, rfl, hbl, hcA, hcB⟩ := HROW.out k hlt
      replace hcA := cellK HB.out hbl hcA
      replace hcB := cellK HB.out hbl hcB
      obtain ⟨hx1, hx2⟩ := HOK.out _ (List.getElem_mem hlt)
      have hil := itemD_len ns[k] hx2
      have e1 : (ns.take (k + 1)).flatMap itemD = (ns.take k).flatMap itemD ++ itemD ns[k] := by
        rw [List.take_succ_eq_append_getElem hlt, List.flatMap_append]; simp
      generalize ns[k] = x at *
      have hla : (l ++ (putInt ((ns.length : Nat) : Int) ++ (ns.take k).flatMap itemD)).length ≤ 1200000 := by simp only [List.length_append]; omega
      have hs0 := HS.out
      generalize hacc : l ++ (putInt ((ns.length : Nat) : Int) ++ (ns.take k).flatMap itemD) = acc at *
      have hit : itemD x = putInt (x.1 : Int) ++ (putInt (x.2.size : Nat) ++ x.2.data.toList) := rfl
      obtain ⟨up, s⟩ := x
      simp only at hx1 hx2 hit hcA hcB
      have HS' := hid hs0; have HACC := hid hacc; have HIT := hid hit; have HE1 := hid e1
      have hm10 := putInt_le ((up : Nat) : Int)
      have HPI := hid (fun W (h : Sl W W.heap.size u1 (bvals acc)) => putInt_any u1 acc (up : Int) W h (by omega) (by omega) (by omega))
      have HPT := hid (fun v W (h : Sl W W.heap.size v (bvals (acc ++ putInt (up : Int)))) => putText_any v (acc ++ putInt (up : Int)) s W h (by simp only [List.length_append]; omega))
      have hsB := HB.out.size
      clear hacc hit e1 hs0 HS
      have hbn : Below wr.heap.size wr (wr.alloc (Obj.cells #[.int .i64 (up : Int), .string s] 67)).drew := (by repeat' first | with_reducible exact Below.refl _ _ | assumption | (with_reducible refine Below.alloc ?_ ?_ _) | (with_reducible refine Below.setCell ?_ ?_ _) | (with_reducible refine Below.drew ?_) | (with_reducible refine below_drewN ?_ _) | (with_reducible refine Below.trans ?_ (Below.mono ‹_› ?_)) | omega | (with_reducible refine le_alloc ?_) | (with_reducible refine le_setCell ?_) | (with_reducible refine le_drew ?_) | (with_reducible refine le_drewN ?_) | (with_reducible refine Nat.le_trans ?_ (Below.size ‹_›)) | (simp <;> omega))
      have hsn : Sl (wr.alloc (Obj.cells #[.int .i64 (up : Int), .string s] 67)).drew (wr.alloc (Obj.cells #[.int .i64 (up : Int), .string s] 67)).drew.heap.size u1 (bvals acc) := (HS'.out.below hbn).more hbn.size
      have hc0 : (wr.alloc (Obj.cells #[.int .i64 (up : Int), .string s] 67)).drew.cell? ⟨wr.heap.size, 0, none⟩ = some (.int .i64 (up : Int)) := by simp [go_sem]
      have hc1 : (wr.alloc (Obj.cells #[.int .i64 (up : Int), .string s] 67)).drew.cell? ⟨wr.heap.size, 1, none⟩ = some (.string s) := by simp [go_sem]
      have HBN := hid hbn; have HSN := hid hsn; have HC0 := hid hc0; have HC1 := hid hc1
      clear hbn hsn hc0 hc1
      go_wp2
      go_region_held3 (fun w' => w'.cell? ⟨wr.heap.size, 0, none⟩ = some (.int .i64 (up : Int)) ∧ w'.cell? ⟨wr.heap.size, 1, none⟩ = some (.string s)) (go_keep)
        (first
        | (go_at_call 39; refine (HPI.out _ HSN.out).mono ?_; rintro e w3 ⟨v3, rfl, hown3, hb3⟩; have S3 := hid (Sl.of_own hown3); have B3 := hid (HBN.out.trans (hb3.mono HBN.out.size)); have q0 := cellK hb3 (by simp) HC0.out; have q1 := cellK hb3 (by simp) HC1.out; clear hown3 hb3)
        | (go_at_call 40; refine (HPT.out _ _ S3.out).mono ?_; rintro e w4 ⟨v4, rfl, hown4, hb4⟩; have S4 := hid (Sl.of_own hown4); have B4 := hid (B3.out.trans (hb4.mono B3.out.size)); have q2 := cellK hb4 (World.block_lt_of_cell? w3 _ q0) q0; have q3 := cellK hb4 (World.block_lt_of_cell? w3 _ q1) q1; clear hown4 hb4))
      go_wp2
      go_roundw
      case rel =>
        refine ⟨k + 1, by go_num, by omega, ?_, HB.out.trans (B4.out.mono hsB), ?_⟩
        · have := S4.out
          rw [← HACC.out] at this
          rw [HE1.out, HIT.out]
          simpa [List.append_assoc] using this
        · rw [HE1.out, List.length_append]; omega
      case measure => simp [intOf]; omega
    · obtain rfl : k = ns.length := by omega
      go_wp2
      go_ret
      refine ⟨_, rfl, ?_, HB.out⟩
      have := HS.out
      rw [List.take_length] at this
      exact this
end Go.Proofs.Ytbledkffkckjbaa
