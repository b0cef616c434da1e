/- Both nets in one memory, apart from one another and from what is to stay. -/
import Derived.Test.YtkgifbnkkmeoiaaLnkLaw
import Derived.Test.YtkgifbnkkmeoiaaSame01
namespace Go.Proofs.Ytkgifbnkkmeoiaa
open Go.ChangeShapes Go.WideShapes Go.ChangeAt Go.RowKit
set_option linter.unusedVariables false
set_option linter.unusedSimpArgs false

/-- The program's net holds L, the reference's K; neither owns a block of E. -/
def BothE (w : World) (E : Nat → Prop) (n r : Nat) (L K : List PK) : Prop :=
  ∃ D R : Nat → Prop, NetP w D n L ∧ NetR w R r K ∧ (∀ k, D k → ¬ R k) ∧ (∀ k, E k → ¬ D k) ∧ (∀ k, E k → ¬ R k) ∧ ∀ k, E k → k < w.heap.size
theorem BothE.lt {w : World} {E : Nat → Prop} {n r : Nat} {L K : List PK} (h : BothE w E n r L K) : ∀ k, E k → k < w.heap.size := by
  obtain ⟨D, R, -, -, -, -, -, h6⟩ := h
  exact h6
theorem BothE.below {w w' : World} {E : Nat → Prop} {n r : Nat} {L K : List PK} (h : BothE w E n r L K) (hb : Below w.heap.size w w') : BothE w' E n r L K := by
  obtain ⟨D, R, h1, h2, h3, h4, h5, h6⟩ := h
  exact ⟨D, R, h1.below hb, h2.below hb, h3, h4, h5, fun k hk => Nat.lt_of_lt_of_le (h6 k hk) hb.size⟩
theorem BothE.qu {w w' : World} {E : Nat → Prop} {n r : Nat} {L K : List PK} (h : BothE w E n r L K) (hq : Qu w w') : BothE w' E n r L K := h.below (hq.below _)
theorem BothE.less {w : World} {E E' : Nat → Prop} {n r : Nat} {L K : List PK} (h : BothE w E n r L K) (he : ∀ k, E' k → E k) : BothE w E' n r L K := by
  obtain ⟨D, R, h1, h2, h3, h4, h5, h6⟩ := h
  exact ⟨D, R, h1, h2, h3, fun k hk => h4 k (he k hk), fun k hk => h5 k (he k hk), fun k hk => h6 k (he k hk)⟩
/-- A new block stays, too. -/
theorem BothE.new {w w' : World} {E : Nat → Prop} {n r q : Nat} {L K : List PK} (h : BothE w E n r L K) (hb : Below w.heap.size w w') (h1 : w.heap.size ≤ q) (h2 : q < w'.heap.size) : BothE w' (fun k => E k ∨ k = q) n r L K := by
  obtain ⟨D, R, g1, g2, g3, g4, g5, g6⟩ := h
  refine ⟨D, R, g1.below hb, g2.below hb, g3, fun k hk hd => ?_, fun k hk hd => ?_, fun k hk => ?_⟩
  · rcases hk with hk | hk
    · exact g4 k hk hd
    · have := g1.2.1 k hd; omega
  · rcases hk with hk | hk
    · exact g5 k hk hd
    · have := g2.2.1 k hd; omega
  · rcases hk with hk | hk
    · exact Nat.lt_of_lt_of_le (g6 k hk) hb.size
    · omega
abbrev Frame (E : Nat → Prop) (w w' : World) : Prop := Chg (fun k => ¬ E k) w w'
theorem Frame.cell {E : Nat → Prop} {w w' : World} {b i : Nat} {v : Value} (h : Frame E w w') (hE : E b) (hc : w.cell? ⟨b, i, none⟩ = some v) : w'.cell? ⟨b, i, none⟩ = some v :=
  (World.cell?_of_block (a := ⟨b, i, none⟩) (h.block b (World.block_lt_of_cell? w ⟨b, i, none⟩ hc) (fun hn => hn hE))).trans hc
theorem Frame.kept {E : Nat → Prop} {w w' : World} (h : Frame E w w') (hl : ∀ k, E k → k < w.heap.size) : Kept E w w' := fun k hk => h.block k (hl k hk) (fun hn => hn hk)
theorem Frame.less {E E' : Nat → Prop} {w w' : World} (h : Frame E w w') (he : ∀ k, E' k → E k) : Frame E' w w' := h.mono (fun k hk hn => hk (he k hn))
theorem sendPE (E : Nat → Prop) (n r : Nat) (L K : List PK) (f t : Int) (v : Value) (b : List UInt8) (w : World) (h : BothE w E n r L K) (hL : L.length ≤ 160) (hv : SlE w E v (bvals b)) (hb : b.length ≤ 1000) :
    Calls Try.prog 16 #[.pointer (some ⟨n, 0, none⟩), .int .i64 f, .int .i64 t, v] w fun e w' => e = .returned (.int .i64 (sendN L f t b).2) ∧ BothE w' E n r (sendN L f t b).1 K ∧ Frame E w w' := by
  obtain ⟨D, R, h1, h2, h3, h4, h5, h6⟩ := h
  refine (sendP_any D n L f t v b w h1 hL hv.sl hb).mono ?_
  rintro e w' ⟨rfl, D', g1, g2, g3⟩
  refine ⟨rfl, ⟨D', R, g1, h2.kept (fun k hk => g3.block k (h2.2.1 k hk) (fun hd => h3 k hd hk)) g3.size, fun k hk hr => ?_, fun k hk hd => ?_, h5, fun k hk => Nat.lt_of_lt_of_le (h6 k hk) g3.size⟩, g3.mono (fun k hk he => h4 k he hk)⟩
  · rcases g2.2 k hk with g | g
    · exact h3 k g hr
    · have := h2.2.1 k hr; omega
  · rcases g2.2 k hd with g | g
    · exact h4 k hk g
    · have := h6 k hk; omega
theorem sendRE (E : Nat → Prop) (n r : Nat) (L K : List PK) (f t : Int) (v : Value) (b : List UInt8) (w : World) (h : BothE w E n r L K) (hK : K.length ≤ 160) (hv : SlE w E v (bvals b)) (hb : b.length ≤ 1000) :
    Calls Try.prog 17 #[.pointer (some ⟨r, 0, none⟩), .int .i64 f, .int .i64 t, v] w fun e w' => e = .returned (.int .i64 (sendN K f t b).2) ∧ BothE w' E n r L (sendN K f t b).1 ∧ Frame E w w' := by
  obtain ⟨D, R, h1, h2, h3, h4, h5, h6⟩ := h
  refine (sendR_any R r K f t v b w h2 hK hv.sl hb).mono ?_
  rintro e w' ⟨rfl, R', g1, g2, g3⟩
  refine ⟨rfl, ⟨D, R', h1.kept (fun k hk => g3.block k (h1.2.1 k hk) (fun hr => h3 k hk hr)) g3.size, g1, fun k hk hr => ?_, h4, fun k hk hd => ?_, fun k hk => Nat.lt_of_lt_of_le (h6 k hk) g3.size⟩, g3.mono (fun k hk he => h5 k he hk)⟩
  · rcases g2.2 k hr with g | g
    · exact h3 k hk g
    · have := h1.2.1 k hk; omega
  · rcases g2.2 k hd with g | g
    · exact h5 k hk g
    · have := h6 k hk; omega
theorem dropPE (E : Nat → Prop) (n r : Nat) (L K : List PK) (p : Int) (w : World) (h : BothE w E n r L K) (hL : L.length ≤ 1000) (hd : ∀ x ∈ L, x.2.2.length ≤ 1000) :
    Calls Try.prog 22 #[.pointer (some ⟨n, 0, none⟩), .int .i64 p] w fun e w' => e = .returned (.int .i64 (lookN L p).2) ∧ BothE w' E n r (dropN L p) K ∧ Frame E w w' := by
  obtain ⟨D, R, h1, h2, h3, h4, h5, h6⟩ := h
  refine (dropP_any D n L p w h1 hd hL).mono ?_
  rintro e w' ⟨rfl, D', g1, g2, g3⟩
  refine ⟨rfl, ⟨D', R, g1, h2.kept (fun k hk => g3.block k (h2.2.1 k hk) (fun hd => h3 k hd hk)) g3.size, fun k hk hr => ?_, fun k hk hd => ?_, h5, fun k hk => Nat.lt_of_lt_of_le (h6 k hk) g3.size⟩, g3.mono (fun k hk he => h4 k he hk)⟩
  · rcases g2.2 k hk with g | g
    · exact h3 k g hr
    · have := h2.2.1 k hr; omega
  · rcases g2.2 k hd with g | g
    · exact h4 k hk g
    · have := h6 k hk; omega
theorem dropRE (E : Nat → Prop) (n r : Nat) (L K : List PK) (p : Int) (w : World) (h : BothE w E n r L K) (hK : K.length ≤ 1000) :
    Calls Try.prog 20 #[.pointer (some ⟨r, 0, none⟩), .int .i64 p] w fun e w' => e = .returned (.int .i64 (lookN K p).2) ∧ BothE w' E n r L (dropN K p) ∧ Frame E w w' ∧ Upd r w w' := by
  obtain ⟨D, R, h1, h2, h3, h4, h5, h6⟩ := h
  refine (dropR_any R r K p w h2 hK).mono ?_
  rintro e w' ⟨rfl, R', g1, g2, g3⟩
  refine ⟨rfl, ⟨D, R', h1.kept (fun k hk => g3.block k (h1.2.1 k hk) (fun e => by injection e with e; exact h3 k hk (e ▸ h2.1))) g3.size, g1, fun k hk hr => ?_, h4, fun k hk hd => ?_, fun k hk => Nat.lt_of_lt_of_le (h6 k hk) g3.size⟩, (Chg.upd (D := R) g3 h2.1).mono (fun k hk he => h5 k he hk), g3⟩
  · rcases g2.2 k hr with g | g
    · exact h3 k hk g
    · have := h1.2.1 k hk; omega
  · rcases g2.2 k hd with g | g
    · exact h5 k hk g
    · have := h6 k hk; omega
/-- Take: what it tells lies in a block of its own. -/
theorem takePE (E : Nat → Prop) (n r : Nat) (L K : List PK) (p : Int) (s : Bool) (w : World) (h : BothE w E n r L K) (hL : L.length ≤ 1000) (hd : ∀ x ∈ L, x.2.2.length ≤ 1000) :
    Calls Try.prog 18 #[.pointer (some ⟨n, 0, none⟩), .int .i64 p, .bool s] w fun e w' => ∃ b, e = .returned (.tuple #[.int .i64 (lookN L p).1.2.1, b, .int .i64 (lookN L p).2]) ∧ Own8 w' w.heap.size b (lookN L p).1.2.2 ∧
      BothE w' (fun k => E k ∨ b.ownBlock = some k) n r (if s = true then L else dropN L p) K ∧ Frame E w w' := by
  obtain ⟨D, R, h1, h2, h3, h4, h5, h6⟩ := h
  refine (takeP_any D n L p s w h1 hd hL).mono ?_
  rintro e w' ⟨b, D', rfl, g0, g1, g2, g3, g4⟩
  refine ⟨b, rfl, g0, ⟨D', R, g1, h2.kept (fun k hk => g3.block k (h2.2.1 k hk) (fun hd => h3 k hd hk)) g3.size, fun k hk hr => ?_, fun k hk hd => ?_, fun k hk hr => ?_, fun k hk => ?_⟩, g3.mono (fun k hk he => h4 k he hk)⟩
  · rcases g2.2 k hk with g | g
    · exact h3 k g hr
    · have := h2.2.1 k hr; omega
  · rcases hk with hk | hk
    · rcases g2.2 k hd with g | g
      · exact h4 k hk g
      · have := h6 k hk; omega
    · exact g4 k hk hd
  · rcases hk with hk | hk
    · exact h5 k hk hr
    · have := (g0.lt k hk).1; have := h2.2.1 k hr; omega
  · rcases hk with hk | hk
    · exact Nat.lt_of_lt_of_le (h6 k hk) g3.size
    · exact (g0.lt k hk).2
/-! ### What the deeds do -/
def doesN (L : List PK) (k f t p : Int) (s : Bool) (d : List UInt8) : List PK :=
  if pickN k 3 = 0 then (sendN L f t (d.take 20)).1 else if pickN k 3 = 1 then (if s = true then L else dropN L p) else dropN L p
def OkN (L : List PK) : Prop := L.length ≤ 160 ∧ ∀ p ∈ L, okP p ∧ p.2.2.length ≤ 20
theorem OkN.nil_ : OkN [] := ⟨by simp, fun p hp => by cases hp⟩
theorem OkN.send {L : List PK} (h : OkN L) (f t : Int) (b : List UInt8) (hb : b.length ≤ 20) : OkN (sendN L f t b).1 := by
  unfold sendN
  split
  · rename_i hm
    have hm : 1 ≤ f ∧ f ≤ 7 ∧ 1 ≤ t ∧ t ≤ 7 ∧ f ≠ t := by unfold mayN at hm; exact of_decide_eq_true hm
    have h2 : ∀ p ∈ L ++ [(f, t, b)], okP p ∧ p.2.2.length ≤ 20 := fun p hp => by
      rw [List.mem_append, List.mem_singleton] at hp
      rcases hp with hp | rfl
      · exact h.2 p hp
      · exact ⟨hm, hb⟩
    have hl := h.1
    split
    · exact ⟨by simp; omega, fun p hp => h2 p (List.mem_of_mem_drop hp)⟩
    · exact ⟨by simp; omega, h2⟩
  · exact h
theorem OkN.drop {L : List PK} (h : OkN L) (p : Int) : OkN (dropN L p) := by
  unfold dropN
  split
  · have hl := h.1
    refine ⟨by rw [List.length_append, List.length_take, List.length_drop]; omega, fun q hq => ?_⟩
    rw [List.mem_append] at hq
    rcases hq with hq | hq
    · exact h.2 q (List.mem_of_mem_take hq)
    · exact h.2 q (List.mem_of_mem_drop hq)
  · exact h
theorem OkN.does {L : List PK} (h : OkN L) (k f t p : Int) (s : Bool) (d : List UInt8) : OkN (doesN L k f t p s d) := by
  unfold doesN
  split
  · exact h.send f t _ (by rw [List.length_take]; omega)
  · split
    · split
      · exact h
      · exact h.drop p
    · exact h.drop p
end Go.Proofs.Ytkgifbnkkmeoiaa
