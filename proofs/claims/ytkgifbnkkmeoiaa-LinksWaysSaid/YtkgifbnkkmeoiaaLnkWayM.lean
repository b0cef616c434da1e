/- The plain law of LinksWays: the links' packets are all packets, each on one link. -/
import Derived.Test.YtkgifbnkkmeoiaaLnkDeeds
namespace Go.Proofs.Ytkgifbnkkmeoiaa
open Go.ChangeShapes Go.WideShapes Go.ChangeAt Go.RowKit
set_option linter.unusedVariables false
set_option linter.unusedSimpArgs false

theorem nd_inj {α : Type} {l : List α} (h : l.Nodup) {i j : Nat} (hi : i < l.length) (hj : j < l.length) (e : l[i] = l[j]) : i = j := by
  rcases Nat.lt_trichotomy i j with h1 | h1 | h1
  · exact absurd e (List.pairwise_iff_getElem.1 h i j hi hj h1)
  · exact h1
  · exact absurd e.symm (List.pairwise_iff_getElem.1 h j i hj hi h1)
theorem getD_in {α : Type} {l : List α} {k : Nat} (d : α) (hk : k < l.length) : l.getD k d ∈ l := by
  rw [List.getD_eq_getElem?_getD, List.getElem?_eq_getElem hk]; exact List.getElem_mem hk
def plN (L : List PK) (f t : Int) : List Nat := (List.range L.length).filter fun i => decide ((L.getD i zP).1 = f ∧ (L.getD i zP).2.1 = t)
theorem wayN_eq (L : List PK) (f t : Int) : wayN L f t = (plN L f t).map fun (i : Nat) => (i : Int) := rfl
theorem plN_mem {L : List PK} {f t : Int} {i : Nat} : i ∈ plN L f t ↔ i < L.length ∧ (L.getD i zP).1 = f ∧ (L.getD i zP).2.1 = t := by
  unfold plN
  rw [List.mem_filter, List.mem_range, decide_eq_true_eq]
theorem plN_sorted (L : List PK) (f t : Int) : (plN L f t).Pairwise (· < ·) := List.pairwise_lt_range.filter _
theorem plN_nodup (L : List PK) (f t : Int) : (plN L f t).Nodup := (plN_sorted L f t).imp (fun h => Nat.ne_of_lt h)
def plS (L : List PK) (x : GS) : List Nat := plN L x.1.1 x.1.2
/-- The places of the first i links. -/
def HK (L : List PK) (S : List GS) (i : Nat) : List Nat := (S.take i).flatMap (plS L)
theorem HK_succ {L : List PK} {S : List GS} {i : Nat} (h : i < S.length) : HK L S (i + 1) = HK L S i ++ plS L (S.getD i default) := by
  unfold HK
  rw [List.take_succ_eq_append_getElem h, List.flatMap_append, List.getD_eq_getElem?_getD, List.getElem?_eq_getElem h]
  simp
theorem busyS_nodup (L : List PK) : (busyS L).Nodup := by
  refine (busyS_sorted L).imp fun {a b} h e => ?_
  subst e
  rw [ltG_iff] at h
  omega
theorem plS_apart {L : List PK} {x y : GS} {z : Nat} (hx : z ∈ plS L x) (hy : z ∈ plS L y) : x = y := by
  unfold plS at hx hy
  rw [plN_mem] at hx hy
  refine Subtype.ext (Prod.ext ?_ ?_)
  · have := hx.2.1; have := hy.2.1; omega
  · have := hx.2.2; have := hy.2.2; omega
theorem HK_not {L : List PK} {i k : Nat} (hi : i < (busyS L).length) (hk : k < (plS L ((busyS L).getD i default)).length) :
    (plS L ((busyS L).getD i default)).getD k 0 ∉ HK L (busyS L) i ++ (plS L ((busyS L).getD i default)).take k := by
  have hz : (plS L ((busyS L).getD i default)).getD k 0 ∈ plS L ((busyS L).getD i default) := by
    exact getD_in _ hk
  intro h
  rw [List.mem_append] at h
  rcases h with h | h
  · unfold HK at h
    obtain ⟨x, hx, hzx⟩ := List.mem_flatMap.1 h
    have e := plS_apart hzx hz
    obtain ⟨j, hj, ej⟩ := List.mem_iff_getElem.1 hx
    rw [List.getElem_take] at ej
    rw [List.length_take] at hj
    rw [List.getD_eq_getElem?_getD, List.getElem?_eq_getElem hi] at e
    have := nd_inj (busyS_nodup L) _ _ (ej.trans e)
    omega
  · obtain ⟨j, hj, ej⟩ := List.mem_iff_getElem.1 h
    rw [List.getElem_take] at ej
    rw [List.length_take] at hj
    have hn : (plS L ((busyS L).getD i default)).Nodup := plN_nodup _ _ _
    rw [List.getD_eq_getElem?_getD (l := plS L ((busyS L).getD i default)), List.getElem?_eq_getElem hk] at ej
    have := nd_inj hn _ _ ej
    omega
theorem plS_lt {L : List PK} {x : GS} {k : Nat} (hk : k < (plS L x).length) : (plS L x).getD k 0 < L.length := by
  have hz : (plS L x).getD k 0 ∈ plS L x := by
    rw [List.getD_eq_getElem?_getD, List.getElem?_eq_getElem hk]; exact List.getElem_mem hk
  exact (plN_mem.1 hz).1
theorem plS_up {L : List PK} {x : GS} {k : Nat} (hk : k + 1 < (plS L x).length) : (plS L x).getD k 0 < (plS L x).getD (k + 1) 0 := by
  have := List.pairwise_iff_getElem.1 (plN_sorted L x.1.1 x.1.2) k (k + 1) (by unfold plS at hk; omega) hk (by omega)
  rw [List.getD_eq_getElem?_getD, List.getElem?_eq_getElem (by omega), List.getD_eq_getElem?_getD, List.getElem?_eq_getElem hk]
  exact this
theorem plS_pos {L : List PK} (hok : ∀ p ∈ L, okP p) {i : Nat} (hi : i < (busyS L).length) : 0 < (plS L ((busyS L).getD i default)).length := by
  have hm : (busyS L).getD i default ∈ busyS L := by
    rw [List.getD_eq_getElem?_getD, List.getElem?_eq_getElem hi]; exact List.getElem_mem hi
  rw [busyS_mem] at hm
  have := (wayN_pos L _ _ hok).2 hm
  rw [wayN_eq, List.length_map] at this
  exact this
theorem flat_nodup {L : List PK} : ∀ {S : List GS}, S.Nodup → (S.flatMap (plS L)).Nodup := by
  intro S
  induction S with
  | nil => intro _; exact List.nodup_nil
  | cons x S ih =>
    intro h
    rw [List.nodup_cons] at h
    rw [List.flatMap_cons, List.nodup_append]
    refine ⟨plN_nodup _ _ _, ih h.2, fun a ha b hb e => ?_⟩
    subst e
    obtain ⟨y, hy, hay⟩ := List.mem_flatMap.1 hb
    exact h.1 ((plS_apart ha hay) ▸ hy)
theorem HK_all {L : List PK} (hok : ∀ p ∈ L, okP p) : (HK L (busyS L) (busyS L).length).length = L.length := by
  unfold HK
  rw [List.take_length]
  have hp : ((busyS L).flatMap (plS L)).Perm (List.range L.length) := by
    refine (List.perm_ext_iff_of_nodup (flat_nodup (busyS_nodup L)) List.nodup_range).2 fun a => ?_
    rw [List.mem_flatMap, List.mem_range]
    constructor
    · rintro ⟨x, hx, ha⟩
      exact (plN_mem.1 ha).1
    · intro ha
      have hpa : L.getD a zP ∈ L := by rw [List.getD_eq_getElem?_getD, List.getElem?_eq_getElem ha]; exact List.getElem_mem ha
      have ho := hok _ hpa
      refine ⟨⟨lnkG (L.getD a zP), ho.inG⟩, ?_, ?_⟩
      · rw [busyS_mem]; exact List.mem_map.2 ⟨_, hpa, rfl⟩
      · unfold plS
        rw [plN_mem]
        obtain ⟨h1, -, h3, -⟩ := ho
        refine ⟨ha, ?_, ?_⟩
        · unfold lnkG; simp only; omega
        · unfold lnkG; simp only; omega
  rw [hp.length_eq, List.length_range]
theorem HK_le {L : List PK} (hok : ∀ p ∈ L, okP p) (i : Nat) : (HK L (busyS L) i).length ≤ L.length := by
  have h1 := HK_all hok
  unfold HK at h1 ⊢
  rw [List.take_length] at h1
  have h2 : (busyS L).flatMap (plS L) = ((busyS L).take i).flatMap (plS L) ++ ((busyS L).drop i).flatMap (plS L) := by rw [← List.flatMap_append, List.take_append_drop]
  rw [h2, List.length_append] at h1
  omega
/-- Was it one of the first i links? -/
def oneK (S : List GS) (f t : Int) (i : Nat) : Bool := decide (∃ j, j < i ∧ j < S.length ∧ ((S.getD j default).1.1 : Int) = f ∧ ((S.getD j default).1.2 : Int) = t)
theorem oneK_succ {S : List GS} {f t : Int} {i : Nat} (hi : i < S.length) : oneK S f t (i + 1) = (oneK S f t i || (((S.getD i default).1.1 : Int) == f && ((S.getD i default).1.2 : Int) == t)) := by
  unfold oneK
  rw [Bool.eq_iff_iff]
  simp only [decide_eq_true_eq, Bool.or_eq_true, Bool.and_eq_true, beq_iff_eq]
  constructor
  · rintro ⟨j, h1, h2, h3⟩
    by_cases e : j = i
    · subst e; exact .inr h3
    · exact .inl ⟨j, by omega, h2, h3⟩
  · rintro (⟨j, h1, h2, h3⟩ | h3)
    · exact ⟨j, by omega, h2, h3⟩
    · exact ⟨i, by omega, hi, h3⟩
theorem oneK_all {L : List PK} (hok : ∀ p ∈ L, okP p) (f t : Int) : oneK (busyS L) f t (busyS L).length = decide ((0 : Int) < (wayN L f t).length) := by
  unfold oneK
  rw [decide_eq_decide]
  rw [show ((0 : Int) < ((wayN L f t).length : Int)) ↔ 0 < (wayN L f t).length by omega]
  constructor
  · rintro ⟨j, -, h2, rfl, rfl⟩
    have := plS_pos hok h2
    rw [wayN_eq, List.length_map]; exact this
  · intro h
    rw [wayN_eq, List.length_map] at h
    obtain ⟨i, hi⟩ := List.length_pos_iff_exists_mem.1 h
    rw [plN_mem] at hi
    obtain ⟨h1, h2, h3⟩ := hi
    have hpa : L.getD i zP ∈ L := by rw [List.getD_eq_getElem?_getD, List.getElem?_eq_getElem h1]; exact List.getElem_mem h1
    have ho := hok _ hpa
    have hm : (⟨lnkG (L.getD i zP), ho.inG⟩ : GS) ∈ busyS L := by rw [busyS_mem]; exact List.mem_map.2 ⟨_, hpa, rfl⟩
    obtain ⟨j, hj, ej⟩ := List.mem_iff_getElem.1 hm
    have g1 := ho.1
    have g3 := ho.2.2.1
    refine ⟨j, hj, hj, ?_, ?_⟩
    · rw [List.getD_eq_getElem?_getD, List.getElem?_eq_getElem hj]; simp only [Option.getD_some]; rw [ej]; unfold lnkG; simp only; omega
    · rw [List.getD_eq_getElem?_getD, List.getElem?_eq_getElem hj]; simp only [Option.getD_some]; rw [ej]; unfold lnkG; simp only; omega
end Go.Proofs.Ytkgifbnkkmeoiaa
