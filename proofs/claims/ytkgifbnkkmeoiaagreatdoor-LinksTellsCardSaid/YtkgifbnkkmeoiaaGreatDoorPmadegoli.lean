/- 2 texts of this claim, in build order. -/
import Derived.Test.YtkgifbnkkmeoiaaGreatDoorRows
import Derived.WalkKit
import Derived.ProofKit
import Derived.OpenShut
import Derived.BigQuiet
import Derived.Deep.QuietTactic
import Derived.Deep.AppendLies
import Derived.Deep.Draws
import Derived.Laws.OwnMore
import Derived.RegionTactic
import Derived.Outline
import Derived.Deep.RegionWith
import Derived.Deep.RegionHeld3
import Derived.WalkLawsBesides
import Derived.WalkSpells
import Derived.Handy
import Derived.Lib.SmallJoins
/- Words for memory that all later texts use: a slice that reads as a list, and how a reading is kept while memory grows. -/

namespace Go.Proofs.YtkgifbnkkmeoiaaGreatDoor
open Go.ChangeShapes Go.WideShapes Go.ChangeAt Go.RowKit

theorem block_of_add (a : Addr) (n : Nat) : (a.add n).block = a.block := by unfold Addr.add; split <;> rfl
theorem ret_int {k : IntKind} {a b : Int} (h : a = b) : Ending.returned (.int k a) = .returned (.int k b) := by rw [h]

theorem ret_bool {a b : Bool} (h : a = b) : Ending.returned (.bool a) = .returned (.bool b) := by rw [h]
theorem hid {p : Prop} (h : p) : Hid p := h

/-- A goal at which the walk is to stand: it does not look behind the name. -/
def Stop (p : Prop) : Prop := p
theorem stop_here {p : Prop} (h : Stop p) : p := h
theorem go_on {p : Prop} (h : p) : Stop p := h
@[congr] theorem Stop.stays {p : Prop} : Stop p = Stop p := rfl

theorem i64_and_mask (z : Int) (k : Nat) (hk : k ≤ 63) : Go.bits .and .i64 z ((2 ^ k - 1 : Nat) : Int) = z % 2 ^ k := by
  show IntKind.i64.wrap ((BitVec.ofInt 64 z &&& BitVec.ofInt 64 ((2 ^ k - 1 : Nat) : Int)).toNat : Int) = _
  have hp : (2 : Nat) ^ k ≤ 2 ^ 63 := Nat.pow_le_pow_right (by omega) hk
  have h0 : 0 < (2 : Nat) ^ k := Nat.pow_pos (by omega)
  have h2 : (BitVec.ofInt 64 ((2 ^ k - 1 : Nat) : Int)).toNat = 2 ^ k - 1 := by
    rw [BitVec.ofInt_natCast, BitVec.toNat_ofNat]; exact Nat.mod_eq_of_lt (by omega)
  rw [BitVec.toNat_and, h2, Nat.and_two_pow_sub_one_eq_mod, BitVec.toNat_ofInt, IntKind.wrap_i64]
  have h3 : ((z % 18446744073709551616).toNat : Int) = z % 18446744073709551616 := Int.toNat_of_nonneg (by omega)
  have h4 : (((z % 2 ^ 64).toNat % 2 ^ k : Nat) : Int) = z % 2 ^ k := by
    rw [Int.natCast_emod, show (2 : Int) ^ 64 = 18446744073709551616 by rfl, h3]
    have : ((2 ^ k : Nat) : Int) = 2 ^ k := by simp
    rw [this]
    exact Int.emod_emod_of_dvd z (by
      refine ⟨2 ^ (64 - k), ?_⟩
      rw [← Int.pow_add, show k + (64 - k) = 64 by omega]; rfl)
  rw [show ((2 ^ 64 : Nat) : Int) = 2 ^ 64 by rfl, h4]
  have h5 := Int.emod_nonneg z (show (2 : Int) ^ k ≠ 0 by have : (0 : Int) < 2 ^ k := Int.pow_pos (by omega); omega)
  have h6 := Int.emod_lt_of_pos z (show (0 : Int) < 2 ^ k from Int.pow_pos (by omega))
  have h7 : (2 : Int) ^ k ≤ 9223372036854775808 := by
    have : ((2 ^ k : Nat) : Int) ≤ ((2 ^ 63 : Nat) : Int) := by exact_mod_cast hp
    simpa using this
  omega
theorem i64_and_one (z : Int) : Go.bits .and .i64 z 1 = z % 2 := i64_and_mask z 1 (by omega)
theorem i64_and_low (z : Int) : Go.bits .and .i64 z 4294967295 = z % 4294967296 := i64_and_mask z 32 (by omega)

theorem i64_or_low (z b : Int) (h0 : 0 ≤ b) (h1 : b < 4294967296) : Go.bits .or .i64 (z * 4294967296) b = IntKind.i64.wrap (z * 4294967296 + b) := by
  show IntKind.i64.wrap ((BitVec.ofInt 64 (z * 4294967296) ||| BitVec.ofInt 64 b).toNat : Int) = _
  have e1 : (BitVec.ofInt 64 (z * 4294967296)).toNat = 2 ^ 32 * (z % 4294967296).toNat := by
    rw [BitVec.toNat_ofInt]; omega
  have e2 : (BitVec.ofInt 64 b).toNat = b.toNat := by
    rw [BitVec.toNat_ofInt]; omega
  rw [BitVec.toNat_or, e1, e2, ← Nat.two_pow_add_eq_or_of_lt (by omega), IntKind.wrap_i64, IntKind.wrap_i64]
  omega
theorem i64_or_low_wrap (z b : Int) (h0 : 0 ≤ b) (h1 : b < 4294967296) : Go.bits .or .i64 (IntKind.i64.wrap (z * 4294967296)) b = IntKind.i64.wrap (z * 4294967296 + b) := by
  have e : IntKind.i64.wrap (z * 4294967296) = ((z + 2147483648) % 4294967296 - 2147483648) * 4294967296 := by
    rw [IntKind.wrap_i64]; omega
  rw [e, i64_or_low _ _ h0 h1, IntKind.wrap_i64, IntKind.wrap_i64]
  omega

theorem wrap64_eq (n : Int) : wrap64 n = IntKind.i64.wrap n := by rw [IntKind.wrap_i64]; unfold wrap64; rfl

/-- The values that read as a list of ints. -/
def ivals (l : List Int) : List Value := l.map (Value.int .i64)
theorem ivals_snoc (l : List Int) (n : Int) : ivals (l ++ [n]) = ivals l ++ [.int .i64 n] := by simp [ivals]
theorem ivals_len (l : List Int) : (ivals l).length = l.length := by simp [ivals]
theorem info_int : (Tryz.prog.info? 3).map (fun i => (i.zero, i.size, i.bytes)) = some (some (.int .i64 0), 1, 8) := by kernel_rfl

/-- A slice of one-cell elements that reads as a list; all its memory lies below block B. -/
def Sl (w : World) (B : Nat) (v : Value) (xs : List Value) : Prop :=
  ∃ A c, v = .slice A xs.length c ∧ xs.length ≤ c ∧ c ≤ maxLen ∧
    (0 < xs.length → ∃ b off, A = some ⟨b, off, none⟩ ∧ b < B ∧ ∀ j u, xs[j]? = some u → w.cell? ⟨b, off + j, none⟩ = some u)

theorem Sl.nil_ {w : World} {B : Nat} : Sl w B (.slice none 0 0) [] := ⟨none, 0, rfl, by simp, by simp [maxLen], by simp⟩
theorem Sl.below {w w' : World} {B : Nat} {v : Value} {xs : List Value} (h : Sl w B v xs) (hb : Below B w w') : Sl w' B v xs := by
  obtain ⟨A, c, h1, h2, h3, h4⟩ := h
  refine ⟨A, c, h1, h2, h3, fun h => ?_⟩
  obtain ⟨b, off, e, hlt, hc⟩ := h4 h
  exact ⟨b, off, e, hlt, fun j u hu => (hb.cell (p := ⟨b, off + j, none⟩) hlt).trans (hc j u hu)⟩
theorem Sl.more {w : World} {B B' : Nat} {v : Value} {xs : List Value} (h : Sl w B v xs) (hB : B ≤ B') : Sl w B' v xs := by
  obtain ⟨A, c, h1, h2, h3, h4⟩ := h
  refine ⟨A, c, h1, h2, h3, fun h => ?_⟩
  obtain ⟨b, off, e, hlt, hc⟩ := h4 h
  exact ⟨b, off, e, by omega, hc⟩
theorem Sl.of_own {w : World} {base : Nat} {e : TypeId} {v : Value} {n : Nat} {xs : List Value} (h : w.ownsRow base e 1 v n xs) : Sl w w.heap.size v xs := by
  obtain ⟨h1, h2⟩ := h
  have hn : xs.length = n := by omega
  rcases h2 with ⟨rfl, rfl⟩ | ⟨g, cap, cur, rfl, hb, hg, hnc, hcm, hcs, htk⟩
  · obtain rfl := List.eq_nil_of_length_eq_zero (by omega : xs.length = 0)
    exact Sl.nil_
  · have hown : w.ownsRow base e 1 (.slice (some ⟨g, 0, none⟩) n cap) n xs := ⟨h1, .inr ⟨g, cap, cur, rfl, hb, hg, hnc, hcm, hcs, htk⟩⟩
    refine ⟨some ⟨g, 0, none⟩, cap, by rw [hn], by omega, hcm, fun _ => ⟨g, 0, rfl, (hown.lt g rfl).2, fun j u hu => ?_⟩⟩
    have hj : j < xs.length := (List.getElem?_eq_some_iff.1 hu).1
    rw [Nat.zero_add, hown.cellAt j (by omega), hu]
theorem below_drewN {B : Nat} {a w : World} (h : Below B a w) (n : Nat) : Below B a (w.drewN n) := ⟨h.os, h.tape, h.output, h.size, h.block⟩
/-- Behind a call: what is below reads as before. -/
theorem bcell {W w1 : World} {B : Nat} (hb : Below B W w1) : (∀ b o, b < B → w1.cell? ⟨b, o, none⟩ = W.cell? ⟨b, o, none⟩) ∧ (∀ b o, b < B → w1.frozen? ⟨b, o, none⟩ = W.frozen? ⟨b, o, none⟩) :=
  ⟨fun b o h => hb.cell (p := ⟨b, o, none⟩) h, fun b o h => hb.frozen (p := ⟨b, o, none⟩) h⟩
theorem cellK {W w' : World} {B b o : Nat} {v : Value} (hb : Below B W w') (hlt : b < B) (h : W.cell? ⟨b, o, none⟩ = some v) : w'.cell? ⟨b, o, none⟩ = some v := (hb.cell (p := ⟨b, o, none⟩) hlt).trans h
theorem frozenK {W w' : World} {B b o : Nat} {v : Bool} (hb : Below B W w') (hlt : b < B) (h : W.frozen? ⟨b, o, none⟩ = v) : w'.frozen? ⟨b, o, none⟩ = v := (hb.frozen (p := ⟨b, o, none⟩) hlt).trans h
theorem le_alloc {n : Nat} {w : World} {o : Obj} (h : n ≤ w.heap.size) : n ≤ (w.alloc o).heap.size := by simp; omega
theorem le_setCell {n : Nat} {w : World} {a : Addr} {v : Value} (h : n ≤ w.heap.size) : n ≤ (w.setCell a v).heap.size := by simpa [World.setCell] using h
theorem le_drew {n : Nat} {w : World} (h : n ≤ w.heap.size) : n ≤ w.drew.heap.size := h
theorem le_drewN {n k : Nat} {w : World} (h : n ≤ w.heap.size) : n ≤ (w.drewN k).heap.size := h
theorem lt_of_below {B n : Nat} {W w' : World} (hb : Below B W w') (h : n < W.heap.size) : n < w'.heap.size := Nat.lt_of_lt_of_le h hb.size
/-- Only draws have been made. -/
def Qu (w wr : World) : Prop := ∃ n, wr = w.drewN n
theorem Qu.refl (w : World) : Qu w w := ⟨0, rfl⟩
theorem drewN_add (w : World) (n m : Nat) : (w.drewN n).drewN m = w.drewN (n + m) := World.drewN_drewN _ _ _
theorem Qu.drewN {w wr : World} (h : Qu w wr) (n : Nat) : Qu w (wr.drewN n) := by
  obtain ⟨m, rfl⟩ := h
  exact ⟨m + n, drewN_add _ _ _⟩
theorem Qu.trans {a b c : World} (h : Qu a b) (k : Qu b c) : Qu a c := by
  obtain ⟨m, rfl⟩ := k
  exact h.drewN m
theorem Qu.cell {w wr : World} (h : Qu w wr) (a : Addr) : wr.cell? a = w.cell? a := by
  obtain ⟨m, rfl⟩ := h
  rfl
theorem Qu.below {w wr : World} (h : Qu w wr) (B : Nat) : Below B w wr := by
  obtain ⟨m, rfl⟩ := h
  exact below_drewN (Below.refl _ _) m
theorem Qu.size {w wr : World} (h : Qu w wr) : wr.heap.size = w.heap.size := by
  obtain ⟨m, rfl⟩ := h
  rfl
theorem cells_add {w : World} {b off : Nat} {news : List Value} (h : ∀ j u, news[j]? = some u → w.cell? ⟨b, off + j, none⟩ = some u) :
    ∀ j u, news[j]? = some u → w.cell? ((⟨b, off, none⟩ : Addr).add j) = some u := by
  intro j u hu
  have e : (⟨b, off, none⟩ : Addr).add j = ⟨b, off + j, none⟩ := by unfold Addr.add; split <;> simp_all
  rw [e]; exact h j u hu
/-- Behind an append onto a row of the call's own (its one new element was laid in a block of its own). -/
theorem own_below {w wr w1 : World} {base : Nat} {e : TypeId} {size n : Nat} {v : Value} {xs : List Value} {o : Obj} (hown : wr.ownsRow base e size v n xs) (hb : Below base w wr)
    (hB : base ≤ wr.heap.size) (hg : (wr.alloc o).grownBy w1 v.ownBlock) : Below base w w1 :=
  (hb.alloc hB o).grown hg (by simp; omega) (fun j hj => (hown.lt j hj).1)
/-- A slice of 80 (or n) numbers, its address written out. -/
theorem Sl.ints {w : World} {B : Nat} {v : Value} {l : List Int} (h : Sl w B v (ivals l)) (h0 : 0 < l.length) :
    ∃ b off c, v = .slice (some ⟨b, off, none⟩) l.length c ∧ l.length ≤ c ∧ c ≤ maxLen ∧ b < B ∧ ∀ j, j < l.length → w.cell? ⟨b, off + j, none⟩ = some (.int .i64 (l.getD j 0)) := by
  obtain ⟨A, c, e, h2, h3, h4⟩ := h
  rw [ivals_len] at e h2 h4
  obtain ⟨b, off, rfl, hb, hc⟩ := h4 h0
  refine ⟨b, off, c, e, h2, h3, hb, fun j hj => hc j _ ?_⟩
  simp [ivals, List.getElem?_eq_getElem hj]

end Go.Proofs.YtkgifbnkkmeoiaaGreatDoor
/- From a walk of a law's function to its statement: what every law's last step has in common. -/
namespace Go.Proofs.YtkgifbnkkmeoiaaGreatDoor
open Go.ChangeShapes Go.WideShapes Go.ChangeAt Go.RowKit Go.WideMaps Go.WideElems Go.Joins
open Go.ChangeMaps (open_string shut_string)
set_option linter.unusedVariables false

theorem own : ownKnob Tryz.prog.godebug = none := by kernel_rfl
theorem laidOut : laidOutB Tryz.prog = true := by kernel_rfl
section
variable {H : Type} {enc : TypeId × Value → H} {P : Program}
/-- What was read of the arguments ahead of the call is read behind it. -/
theorem trodAll_stays (hl : laidOutB P = true) {W W' : World} {sp : Nat → Bool} (hb : Below W.heap.size W W') : ∀ {ts : List TypeId} {vs : List Value} {ds : List (DataW H)} {ps : List MemPlace},
    (ts.all fun t => P.readableRec t && decide (t < P.types.size)) = true → DataW.TrodAll enc P W 0 (fun _ => true) true ts vs ds ps → (∀ x ∈ ps, x.block < W.heap.size) → (∀ x ∈ ps, sp x.block = true) →
    DataW.TrodAll enc P W' 0 sp true ts vs ds ps
  | [], _, _, _, _, h, _, _ => by
    obtain ⟨rfl, rfl, rfl⟩ := trodAll_nil h
    exact trodAll_mk0
  | t :: ts, _, _, _, hr, h, hlt, hs => by
    obtain ⟨v, vs', d, ds', p, q, rfl, rfl, rfl, h0, h1⟩ := trodAll_cons h
    simp only [List.all_cons, Bool.and_eq_true, decide_eq_true_eq] at hr
    exact trodAll_cons_mk (Trod_stays hl hr.1.1 hr.1.2 h0 (fun x hx => hb.same (hlt x (by simp [hx]))) (fun x hx => hs x (by simp [hx])))
      (trodAll_stays hl hb hr.2 h1 (fun x hx => hlt x (by simp [hx])) (fun x hx => hs x (by simp [hx])))

theorem post_of_below {f : Func} {s : ChangeSpec} {apart fresh handsOn again : Bool} {W W' : World} {args : Array Value} {v : Value} {ds gs : List (DataW H)} {before pa pv : List MemPlace}
    (hW : DataW.Whole enc P f.params.toList s.vars apart W args.toList ds gs before)
    (hres : ∀ (b : Nat) (sp : Nat → Bool) (hd : Bool), DataW.TrodAll enc P W' b sp hd f.resultTypes.toList (v.resultList f.resultTypes.size) (s.fn H (ds ++ gs)).results [])
    (hargs : ∀ sp : Nat → Bool, (∀ p ∈ before, sp p.block = true) → DataW.TrodAll enc P W' 0 sp true f.params.toList args.toList (s.fn H (ds ++ gs)).args pa)
    (hvars : ∀ sp : Nat → Bool, (∀ p ∈ before, sp p.block = true) → DataW.TrodVars enc P W' sp s.vars (s.fn H (ds ++ gs)).vars pv)
    (hps : before = pa ++ pv) (hb : Below W.heap.size W W')
    (hok : ∀ (j : Nat) (t : TypeId) (r : Value), f.resultTypes[j]? = some t → (v.resultList f.resultTypes.size)[j]? = some r → Value.okWide P W' .any 0 t r) :
    s.post enc P f apart fresh handsOn again W args v W' := by
  have hlt : ∀ p ∈ before, p.block < W.heap.size := fun p hp => hW.lt p hp
  have hold : ∀ p ∈ before, (fun b => decide (b < W.heap.size)) p.block = true := fun p hp => by simpa using hlt p hp
  refine ⟨ds, gs, before, [], pa, pv, hW, hres _ _ _, hargs _ hold, hvars _ hold, World.keptBut_mono (fun p hp => ⟨hp, ?_⟩) (hb.frame (· ∈ before)), fun _ => ?_⟩
  · rw [hps, List.mem_append] at hp
    exact Or.inr hp
  · obtain ⟨_, _, _, _, _, hz, hn⟩ := hW
    refine ⟨hok, _, _, ([] ++ pa) ++ pv, ⟨[] ++ pa, pv, trodAll_append (hargs _ (fun _ _ => rfl)) (hres _ _ _), hvars _ (fun _ _ => rfl), rfl, ?_, ?_⟩, ?_⟩
    · intro b off hp
      have hin : MemPlace.cell b off ∈ before := by rw [hps]; simpa using hp
      rw [hb.frozen (hlt _ hin)]
      exact hz b off hin
    · intro ha
      have := hn ha
      rw [hps] at this
      simpa using this
    · intro p hp _
      rw [hps]
      simpa using hp

theorem addr_of_cell {w : World} {a : Addr} {v : Value} (h : w.cell? a = some v) : a = ⟨a.block, a.off, none⟩ := by
  obtain ⟨b, o, s⟩ := a
  cases s with
  | none => rfl
  | some s => simp [World.cell?] at h; split at h <;> simp_all
theorem add_eq (b o i : Nat) : (⟨b, o, none⟩ : Addr).add i = ⟨b, o + i, none⟩ := by unfold Addr.add; split <;> simp_all
/-- An argument that is a slice of ints. -/
theorem open_ints_sl {W : World} {t e : TypeId} {v : Value} {d : DataW H} {ps : List MemPlace} (ht : P.underlying t = some (.slice e)) (he : P.underlying e = some (.int .i64)) (hc : P.cellsOf e = 1)
    (hv : Value.okWide P W .any 0 t v) (h : DataW.Trod enc P W 0 (fun _ => true) true t v d ps) :
    ∃ l : List Int, Sl W W.heap.size v (ivals l) ∧ ∀ x ∈ l, -9223372036854775808 ≤ x ∧ x ≤ 9223372036854775807 := by
  obtain ⟨a0, len, cap, rfl⟩ := okWide_slice ht hv
  obtain ⟨fuel, hf⟩ := h
  rcases open_ints ht he hc hf with ⟨hcs, _⟩ | ⟨a, len', cap', zs, hcs, _, hl, hm, hz, _, hcell, hwz⟩
  · simp [Value.cells] at hcs
    obtain ⟨rfl, rfl, rfl⟩ := hcs
    exact ⟨[], Sl.nil_, by simp⟩
  · simp [Value.cells] at hcs
    obtain ⟨rfl, rfl, rfl⟩ := hcs
    simp only [if_true] at hz
    refine ⟨zs.take len, ⟨some a, cap, by rw [ivals_len, List.length_take, Nat.min_eq_left (by omega)], by rw [ivals_len, List.length_take]; omega, hm, fun h0 => ?_⟩, fun x hx => bounds_i64 (hwz x (List.mem_of_mem_take hx))⟩
    rw [ivals_len, List.length_take] at h0
    have h00 := hcell 0 (by omega)
    have ha : a = ⟨a.block, a.off, none⟩ := addr_of_cell (a := a) (by simpa [Addr.add] using h00)
    refine ⟨a.block, a.off, congrArg some ha, World.block_lt_of_cell? W a (by simpa [Addr.add] using h00), fun j u hu => ?_⟩
    simp only [ivals, List.getElem?_map, Option.map_eq_some_iff] at hu
    obtain ⟨x, hx, rfl⟩ := hu
    obtain ⟨hj, hx'⟩ := List.getElem?_eq_some_iff.1 hx
    have hj' : j < zs.length := by rw [List.length_take] at hj; omega
    have := hcell j hj'
    rw [ha, add_eq] at this
    rw [this, List.getD_eq_getElem?_getD, List.getElem?_eq_getElem hj']
    rw [List.getElem_take] at hx'
    rw [← hx']; rfl
end
end Go.Proofs.YtkgifbnkkmeoiaaGreatDoor
