/- The reference's dictionary: its state, and the methods that only look (find, Path, Code, Up). -/
import Derived.Test.YtbledkffkckjbaaObj
import Derived.Test.YtbledkffkckjbaaDictMath
namespace Go.Proofs.Ytbledkffkckjbaa
open Go.ChangeShapes Go.WideShapes Go.ChangeAt Go.RowKit
set_option linter.unusedVariables false

/-- At r lies the reference's dictionary of L levels with the paths pl; it owns the blocks R. -/
def RefW (w : World) (R : Nat → Prop) (r : Nat) (L : Int) (pl : List (List ByteArray)) : Prop :=
  R r ∧ (∀ k, R k → k < w.heap.size) ∧ (∀ i, i < 2 → w.frozen? ⟨r, i, none⟩ = false) ∧ w.cell? ⟨r, 0, none⟩ = some (.int .i64 L) ∧
  ∃ (v : Value) (vs : List Value) (E : Nat → Prop), w.cell? ⟨r, 1, none⟩ = some v ∧ w.ownsRow 0 30 1 v pl.length vs ∧ (∀ g, v.ownBlock = some g → R g ∧ g ≠ r) ∧ (∀ k, E k → R k ∧ k ≠ r ∧ v.ownBlock ≠ some k) ∧
    ∀ (i : Nat) (x : List ByteArray), pl[i]? = some x → ∃ u, vs[i]? = some u ∧ SlE w E u (svals x)
theorem RefW.kept {w w' : World} {R : Nat → Prop} {r : Nat} {L : Int} {pl : List (List ByteArray)} (h : RefW w R r L pl) (k : Kept R w w') (hs : w.heap.size ≤ w'.heap.size) : RefW w' R r L pl := by
  obtain ⟨h1, h2, h3, h4, v, vs, E, h5, h6, h7, h8, h9⟩ := h
  refine ⟨h1, fun i hi => Nat.lt_of_lt_of_le (h2 i hi) hs, fun i hi => k.frozen h1 (h3 i hi), k.cell h1 h4, v, vs, E, k.cell h1 h5, own_kept h6 (fun g hg => k g (h7 g hg).1), h7, h8, fun i x hx => ?_⟩
  obtain ⟨u, hu, hsl⟩ := h9 i x hx
  exact ⟨u, hu, hsl.kept (fun j hj => k j (h8 j hj).1)⟩
theorem RefW.below {w w' : World} {R : Nat → Prop} {r : Nat} {L : Int} {pl : List (List ByteArray)} (h : RefW w R r L pl) (hb : Below w.heap.size w w') : RefW w' R r L pl :=
  h.kept (fun k hk => hb.block k (h.2.1 k hk)) hb.size
theorem RefW.row {w : World} {R : Nat → Prop} {r : Nat} {L : Int} {pl : List (List ByteArray)} (h : RefW w R r L pl) :
    ∃ A c, w.cell? ⟨r, 1, none⟩ = some (.slice A pl.length c) ∧ pl.length ≤ c ∧ c ≤ maxLen ∧ ∀ k (hk : k < pl.length), ∃ b off u, A = some ⟨b, off, none⟩ ∧ w.cell? ⟨b, off + k, none⟩ = some u ∧ Sl w w.heap.size u (svals pl[k]) := by
  obtain ⟨h1, h2, h3, h4, v, vs, E, h5, h6, h7, h8, h9⟩ := h
  have hl : vs.length = pl.length := by have := h6.1; omega
  obtain ⟨A, c, rfl, g1, g2, g3⟩ := Sl.of_own h6
  rw [hl] at g1 g3
  rw [hl] at h5
  refine ⟨A, c, h5, g1, g2, fun k hk => ?_⟩
  obtain ⟨b, off, e1, e2, e3⟩ := g3 (by omega)
  obtain ⟨u, hu, hsl⟩ := h9 k _ (List.getElem?_eq_getElem hk)
  exact ⟨b, off, u, e1, e3 k u hu, hsl.sl⟩
def FindRel (pl : List (List ByteArray)) (p : List ByteArray) (w : World) (i : Value) (wr : World) : Prop := ∃ k : Nat, i = .int .i64 k ∧ k ≤ pl.length ∧ p ∉ pl.take k ∧ Qu w wr
theorem code_first {α : Type} [DecidableEq α] (l : List α) (x : α) (k : Nat) (hk : k < l.length) (hn : x ∉ l.take k) (he : l[k] = x) : code l x = k + 1 := by
  have hm : x ∈ l := he ▸ List.getElem_mem hk
  unfold code
  rw [if_pos hm]
  congr 1
  have hs : l = l.take k ++ x :: l.drop (k + 1) := by
    rw [← he, ← List.drop_eq_getElem_cons hk, List.take_append_drop]
  have hi : (l.take k ++ x :: l.drop (k + 1)).idxOf x = k := by
    rw [List.idxOf_append, if_neg hn, List.idxOf_cons_self, List.length_take]; omega
  rw [← hs] at hi
  exact hi
theorem not_take_succ {α : Type} [DecidableEq α] (l : List α) (x : α) (k : Nat) (hk : k < l.length) (hn : x ∉ l.take k) (he : l[k] ≠ x) : x ∉ l.take (k + 1) := by
  rw [List.take_succ_eq_append_getElem hk, List.mem_append]
  rintro (h | h)
  · exact hn h
  · simp at h; exact he h.symm
set_option maxHeartbeats 800000 in
theorem refFind_any (R : Nat → Prop) (r : Nat) (L : Int) (pl : List (List ByteArray)) (v : Value) (p : List ByteArray) (w : World) (h : RefW w R r L pl) (hpl : pl.length ≤ 1000) (hv : Sl w w.heap.size v (svals p)) :
    Calls Try.prog 30 #[.pointer (some ⟨r, 0, none⟩), v] w (Stays (.int .i64 (code pl p : Nat)) w) := by
  obtain ⟨A, c, h5, hc1, hc2, hrow⟩ := h.row
  have HR := hid hrow; have HV := hid hv; clear hrow hv h
  unfold maxLen at hc2
  go_enter Try.func30, Try.ntmps30
  go_wp2
  go_loopw [5] (fun i wr => FindRel pl p w i wr) (fun i _ => pl.length - (intOf i).toNat)
  case atStart => exact ⟨0, rfl, by omega, by simp, Qu.refl _⟩
  case round =>
    obtain ⟨k, rfl, hk, hno, hq⟩ := hrel
    have HNO := hid hno; clear hno
    have h5' : wr.cell? ⟨r, 1, none⟩ = _ := (hq.cell _).trans h5
    have HQ := hid hq; clear hq
    by_cases hlt : k < pl.length
    · obtain ⟨b, off, u, rfl, hcell, hsl⟩ := HR.out k hlt
      replace hcell : wr.cell? ⟨b, off + k, none⟩ = _ := (HQ.out.cell _).trans hcell
      have hs := fun W (hw : Qu w W) => sameS_any u v pl[k] p W (by have := hsl.qu' hw; rwa [Qu.size hw]) (by have := HV.out.qu' hw; rwa [Qu.size hw])
      have he1 : pl[k] = p → code pl p = k + 1 := fun h => code_first pl p k hlt HNO.out h
      have he2 : pl[k] ≠ p → p ∉ pl.take (k + 1) := fun h => not_take_succ pl p k hlt HNO.out h
      have HSL := hid hsl; clear hsl
      generalize pl[k] = q at *
      have HS := hid hs; have HE1 := hid he1; have HE2 := hid he2; clear hs he1 he2
      go_wp2_with fail
      refine (HS.out _ HQ.out).mono ?_
      rintro e w1 ⟨rfl, hq1⟩
      have HQ1 := hid (HQ.out.trans hq1); clear hq1
      by_cases he : q = p
      · have hc := HE1.out he
        rw [decide_eq_true he]
        have HC := hid hc; clear hc he
        go_wp2
        go_ret
        exact ⟨by rw [HC.out]; simp, HQ1.out⟩
      · have hn := HE2.out he
        rw [decide_eq_false he]
        have HN := hid hn; clear hn he
        go_wp2
        go_roundw
        case rel => exact ⟨k + 1, by go_num, by omega, HN.out, HQ1.out⟩
        case measure => simp [intOf]; omega
    · have hc : code pl p = 0 := by
        rw [code_zero]
        have := HNO.out
        rwa [List.take_of_length_le (by omega)] at this
      have HC := hid hc; clear hc
      go_wp2
      go_ret
      exact ⟨by rw [HC.out]; rfl, HQ.out⟩
/-- Path: the slice that lies there, or nil. -/
def RefPathPost (pl : List (List ByteArray)) (c : Int) (w : World) (e : Ending) (w' : World) : Prop :=
  ∃ v, e = .returned (.tuple #[v, .int .i64 (if c < 0 ∨ (pl.length : Int) < c then 33 else 0)]) ∧ Sl w w.heap.size v (svals (if c < 0 ∨ (pl.length : Int) < c ∨ c = 0 then [] else pl.getD (c.toNat - 1) [])) ∧ w = w'
set_option maxHeartbeats 400000 in
theorem refPath_any (R : Nat → Prop) (r : Nat) (L : Int) (pl : List (List ByteArray)) (c : Int) (w : World) (h : RefW w R r L pl) (hpl : pl.length ≤ 1000) :
    Calls Try.prog 31 #[.pointer (some ⟨r, 0, none⟩), .int .i64 c] w (RefPathPost pl c w) := by
  obtain ⟨A, cc, h5, hc1, hc2, hrow⟩ := h.row
  have HR := hid hrow; clear hrow h
  unfold maxLen at hc2
  go_enter Try.func31, Try.ntmps31
  by_cases h0 : c < 0
  · have hp : (if c < 0 ∨ (pl.length : Int) < c then (33 : Int) else 0) = 33 := if_pos (.inl h0)
    have hq : (if c < 0 ∨ (pl.length : Int) < c ∨ c = 0 then [] else pl.getD (c.toNat - 1) []) = [] := if_pos (.inl h0)
    have HP := hid hp; have HQ := hid hq; clear hp hq
    go_wp2
    go_ret2
    exact ⟨.slice none 0 0, by rw [HP.out]; rfl, by rw [HQ.out]; exact Sl.nil_, rfl⟩
  · by_cases h1 : (pl.length : Int) < c
    · have hp : (if c < 0 ∨ (pl.length : Int) < c then (33 : Int) else 0) = 33 := if_pos (.inr h1)
      have hq : (if c < 0 ∨ (pl.length : Int) < c ∨ c = 0 then [] else pl.getD (c.toNat - 1) []) = [] := if_pos (.inr (.inl h1))
      have HP := hid hp; have HQ := hid hq; clear hp hq
      go_wp2
      go_ret2
      exact ⟨.slice none 0 0, by rw [HP.out]; rfl, by rw [HQ.out]; exact Sl.nil_, rfl⟩
    · have hp : (if c < 0 ∨ (pl.length : Int) < c then (33 : Int) else 0) = 0 := if_neg (by omega)
      have HP := hid hp; clear hp
      by_cases h2 : c = 0
      · have hq : (if c < 0 ∨ (pl.length : Int) < c ∨ c = 0 then [] else pl.getD (c.toNat - 1) []) = [] := if_pos (.inr (.inr h2))
        have HQ := hid hq; clear hq
        have t0 : (c == 0) = true := by simp [h2]
        have H2 := hid h2; clear h2
        go_wp2
        go_ret2
        exact ⟨.slice none 0 0, by rw [HP.out]; rfl, by rw [HQ.out]; exact Sl.nil_, rfl⟩
      · obtain ⟨k, rfl⟩ : ∃ k : Nat, c = ((k + 1 : Nat) : Int) := ⟨(c - 1).toNat, by omega⟩
        have hk : k < pl.length := by omega
        have hq : (if ((k + 1 : Nat) : Int) < 0 ∨ (pl.length : Int) < ((k + 1 : Nat) : Int) ∨ ((k + 1 : Nat) : Int) = 0 then [] else pl.getD (((k + 1 : Nat) : Int).toNat - 1) []) = pl[k] := by
          rw [if_neg (by omega), Int.toNat_natCast, Nat.add_sub_cancel, List.getD_eq_getElem?_getD, List.getElem?_eq_getElem hk]; rfl
        obtain ⟨b, off, u, rfl, hcell, hsl⟩ := HR.out k hk
        have t0 : (((k + 1 : Nat) : Int) == 0) = false := by rw [beq_eq_false_iff_ne]; omega
        have ek : ((k + 1 : Nat) : Int) = (k : Int) + 1 := by omega
        rw [ek] at t0 h0 h1 ⊢
        rw [ek] at HP hq
        have HQ := hid hq; have HSL := hid hsl; clear hq hsl h2 ek
        go_wp2
        go_ret2
        exact ⟨u, by rw [HP.out]; rfl, by rw [HQ.out]; exact HSL.out, rfl⟩
end Go.Proofs.Ytbledkffkckjbaa
