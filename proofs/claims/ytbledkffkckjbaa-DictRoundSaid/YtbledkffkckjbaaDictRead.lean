/- Reading a dictionary, in plain words: what is told of any bytes, that the reference's conditions are the program's, and that what was put is read. -/
import Derived.Test.YtbledkffkckjbaaDict8
import Derived.Test.YtbledkffkckjbaaDictBoth
namespace Go.Proofs.Ytbledkffkckjbaa
open Go.ChangeShapes Go.WideShapes Go.ChangeAt Go.RowKit Go.Maps
set_option linter.unusedVariables false

/-- The rounds that are left. -/
def readF (L : Int) (l : List UInt8) : Nat → List DNode → Nat → Int → Option (List DNode) × Nat × Int
  | 0, ns, a, e => (some ns, a, e)
  | k + 1, ns, a, e =>
    if nextB ns L (rInt l a e 0 (ns.length : Int)).1.toNat ⟨(rText l (rInt l a e 0 (ns.length : Int)).2.1 (rInt l a e 0 (ns.length : Int)).2.2 12).1.toArray⟩ then
      readF L l k (ns ++ [((rInt l a e 0 (ns.length : Int)).1.toNat, ⟨(rText l (rInt l a e 0 (ns.length : Int)).2.1 (rInt l a e 0 (ns.length : Int)).2.2 12).1.toArray⟩)])
        (rText l (rInt l a e 0 (ns.length : Int)).2.1 (rInt l a e 0 (ns.length : Int)).2.2 12).2.1 (rText l (rInt l a e 0 (ns.length : Int)).2.1 (rInt l a e 0 (ns.length : Int)).2.2 12).2.2
    else (none, (rText l (rInt l a e 0 (ns.length : Int)).2.1 (rInt l a e 0 (ns.length : Int)).2.2 12).2.1,
      if (rText l (rInt l a e 0 (ns.length : Int)).2.1 (rInt l a e 0 (ns.length : Int)).2.2 12).2.2 = 0 then 2 else (rText l (rInt l a e 0 (ns.length : Int)).2.1 (rInt l a e 0 (ns.length : Int)).2.2 12).2.2)
def finF (L : Int) (r : Option (List DNode) × Nat × Int) : Option (List DNode) × Nat × Int :=
  match r.1 with
  | none => r
  | some ns => if 0 < ns.length ∧ ((pathOf ns ns.length).length : Int) < L then (none, r.2.1, if r.2.2 = 0 then 2 else r.2.2) else if r.2.2 ≠ 0 then (none, r.2.1, r.2.2) else r
/-- What is read: the nodes, or none; the place and the error behind it. -/
def readD (L : Int) (l : List UInt8) (a : Nat) (e : Int) : Option (List DNode) × Nat × Int :=
  if L < 1 ∨ 3 < L then (none, a, e) else finF L (readF L l (rInt l a e 0 40).1.toNat [] (rInt l a e 0 40).2.1 (rInt l a e 0 40).2.2)
theorem readF_step {L : Int} {l : List UInt8} {k : Nat} {ns : List DNode} {a : Nat} {e : Int} {z : Int} {a1 : Nat} {e1 : Int} {t : List UInt8} {a2 : Nat} {e2 : Int} (h1 : rInt l a e 0 (ns.length : Int) = (z, a1, e1)) (h2 : rText l a1 e1 12 = (t, a2, e2)) :
    readF L l (k + 1) ns a e = if nextB ns L z.toNat ⟨t.toArray⟩ then readF L l k (ns ++ [(z.toNat, ⟨t.toArray⟩)]) a2 e2 else (none, a2, if e2 = 0 then 2 else e2) := by
  rw [readF, h1]; simp only; rw [h2]
theorem rText_says (l : List UInt8) (a : Nat) (e most : Int) (ha : a ≤ l.length) : ∃ (t : List UInt8) (a' : Nat) (e' : Int), rText l a e most = (t, a', e') ∧ a ≤ a' ∧ a' ≤ l.length ∧ (e' ≠ 0 → t = []) ∧ t.length ≤ l.length := by
  obtain ⟨n, a', e', h, h1, h2, h3, h4⟩ := rInt_says l a e most ha
  unfold rText
  rw [h]
  simp only
  by_cases he : e' ≠ 0
  · rw [if_pos he]; exact ⟨[], a', e', rfl, h1, h2, fun _ => rfl, by simp⟩
  · rw [if_neg he]
    by_cases hlt : (l.length : Int) - (a' : Int) < n
    · rw [if_pos hlt]; exact ⟨[], a, 3, rfl, by omega, ha, fun _ => rfl, by simp⟩
    · rw [if_neg hlt]
      have h0 := h4 (by omega)
      refine ⟨_, _, _, rfl, by omega, by omega, fun h => absurd rfl h, ?_⟩
      rw [List.length_take, List.length_drop]; omega
theorem rInt_in (l : List UInt8) (a : Nat) (e : Int) (m : Nat) (ha : a ≤ l.length) : ∃ (u a' : Nat) (e' : Int), rInt l a e 0 (m : Int) = ((u : Int), a', e') ∧ u ≤ m ∧ a ≤ a' ∧ a' ≤ l.length := by
  unfold rInt
  by_cases he : e = 0
  · rw [if_neg (by simp [he])]
    rcases getInt_says (l.drop a) with (h | h) | ⟨k, z, h1, h2, h⟩
    · rw [h]; exact ⟨0, a, 2, by simp, by omega, by omega, ha⟩
    · rw [h]; exact ⟨0, a, 3, by simp, by omega, by omega, ha⟩
    · rw [h, if_neg (by simp)]
      rw [List.length_drop] at h2
      by_cases hz : z < 0 ∨ (m : Int) < z
      · rw [if_pos hz]; exact ⟨0, a, 2, rfl, by omega, by omega, ha⟩
      · rw [if_neg hz]
        obtain ⟨u, rfl⟩ := Int.eq_ofNat_of_zero_le (show 0 ≤ z by omega)
        exact ⟨u, a + k, 0, by simp, by omega, by omega, by omega⟩
  · rw [if_pos he]; exact ⟨0, a, e, rfl, by omega, by omega, ha⟩
theorem name_nil : nameB ⟨([] : List UInt8).toArray⟩ = false := by decide
theorem nextB_name {ns : List DNode} {L : Int} {up : Nat} {s : ByteArray} (h : nameB s = false) : nextB ns L up s = false := by
  unfold nextB; rw [h]; simp

/-! ### The reference's conditions -/
theorem find_next {ns : List DNode} (hi : DInv ns) (up : Nat) (hu : up ≤ ns.length) (s : ByteArray) : code (paths ns) (pathOf ns up ++ [s]) = code ns (up, s) := by
  cases hc : code ns (up, s) with
  | succ d =>
    have hx := code_get hc
    have hlt : d < ns.length := (List.getElem?_eq_some_iff.1 hx).1
    have := pathOf_succ hi hx
    rw [← this]
    exact find_path hi (d + 1) (by omega)
  | zero =>
    rw [find_walk hi]
    cases hw : walkD ns 0 (pathOf ns up ++ [s]) with
    | none => rfl
    | some c =>
      exfalso
      obtain ⟨w1, w2⟩ := (walk_iff hi _ c).1 hw
      have := path_walk hi [s] up c hu w1 w2
      simp [walkD, hc] at this
structure OkR (L : Int) (ns : List DNode) : Prop where
  ok : DOk ns
  last : ((pathOf ns ns.length).length : Int) ≤ L
theorem okR_nil {L : Int} (h : 1 ≤ L) : OkR L [] := ⟨dok_nil, by simp [pathOf_zero]; omega⟩
theorem last_pos {ns : List DNode} (h : DInv ns) : 0 < (pathOf ns ns.length).length ↔ 0 < ns.length := by
  constructor
  · intro h1
    have := path_pos h ns.length (Nat.le_refl _) h1
    omega
  · intro h1
    obtain ⟨d, x, e, hx⟩ := get_of_le (ns := ns) (c := ns.length) (by omega) (Nat.le_refl _)
    rw [e, pathOf_succ h hx]
    simp
theorem nextB_iff {ns : List DNode} {L : Int} {up : Nat} {s : ByteArray} (h : OkR L ns) (hu : up ≤ ns.length) :
    nextB ns L up s = true ↔ nameB s = true ∧ ((pathOf ns up ++ [s]).length : Int) ≤ L ∧ code (paths ns) (pathOf ns up ++ [s]) = 0 ∧ ¬ (0 < (pathOf ns ns.length).length ∧ ((pathOf ns ns.length).length : Int) < L ∧ up ≠ ns.length) := by
  rw [find_next h.ok.inv up hu s, last_pos h.ok.inv, List.length_append, List.length_singleton]
  have hl := h.last
  unfold nextB
  simp only [Bool.and_eq_true, Bool.or_eq_true, decide_eq_true_eq]
  constructor
  · rintro ⟨h1, h2, h3, h4⟩
    exact ⟨h2, by omega, h1, by omega⟩
  · rintro ⟨h2, h3, h1, h4⟩
    exact ⟨h1, h2, by omega, by omega⟩
theorem okR_next {ns : List DNode} {L : Int} {up : Nat} {s : ByteArray} (h : OkR L ns) (hu : up ≤ ns.length) (hl : ns.length < 40) (hn : nextB ns L up s = true) : OkR L (ns ++ [(up, s)]) ∧ (up, s) ∉ ns := by
  unfold nextB at hn
  simp only [Bool.and_eq_true, Bool.or_eq_true, decide_eq_true_eq] at hn
  obtain ⟨h1, h2, h3, h4⟩ := hn
  have hx := code_zero.1 h1
  refine ⟨⟨⟨dinv_snoc h.ok.inv hx hu, by simp; omega, fun x hm => ?_⟩, ?_⟩, hx⟩
  · rcases List.mem_append.1 hm with hm | hm
    · exact h.ok.name x hm
    · rw [List.mem_singleton] at hm; subst hm
      unfold nameB at h2; rwa [decide_eq_true_eq] at h2
  · rw [List.length_append, List.length_singleton, pathOf_new h.ok.inv hx hu, List.length_append, List.length_singleton]
    simp only; omega
theorem paths_next {ns : List DNode} {up : Nat} {s : ByteArray} (h : DOk ns) (hu : up ≤ ns.length) (hx : (up, s) ∉ ns) : paths (ns ++ [(up, s)]) = paths ns ++ [pathOf ns up ++ [s]] := paths_snoc h.inv hx hu

/-! ### What was put is read -/
def Chain (L : Int) (ns : List DNode) : Prop := ∀ i (h : i < ns.length), nextB (ns.take i) L ns[i].1 ns[i].2 = true
def Full (L : Int) (ns : List DNode) : Prop := 0 < ns.length → ((pathOf ns ns.length).length : Int) = L
theorem chain_nil (L : Int) : Chain L [] := fun i h => by simp at h
theorem chain_snoc {L : Int} {ns : List DNode} {x : DNode} (h : Chain L ns) (hx : nextB ns L x.1 x.2 = true) : Chain L (ns ++ [x]) := by
  intro i hi
  by_cases hlt : i < ns.length
  · have := h i hlt
    rw [List.take_append_of_le_length (by omega), List.getElem_append_left hlt]
    exact this
  · have e : i = ns.length := by simp at hi; omega
    subst e
    rw [List.take_left, List.getElem_append_right (by omega)]
    simpa using hx
theorem putAll_chain {L : Int} (r : List ByteArray) (ns : List DNode) (up : Nat) (hi : DInv ns) (hc : Chain L ns) (hu : up ≤ ns.length) (hr : ∀ s ∈ r, NameOk s) (hl : ((pathOf ns up).length : Int) + r.length = L)
    (hn : ∀ s, r[0]? = some s → code ns (up, s) = 0 ∧ (ns.length = 0 ∨ ((pathOf ns ns.length).length : Int) = L ∨ up = ns.length)) (hf : r = [] → Full L ns) :
    Chain L (putAll ns up r).1 ∧ Full L (putAll ns up r).1 := by
  induction r generalizing ns up with
  | nil => exact ⟨hc, hf rfl⟩
  | cons s r ih =>
    obtain ⟨h1, h2⟩ := hn s rfl
    have hx : (up, s) ∉ ns := code_zero.1 h1
    have hs := hr s List.mem_cons_self
    have hi' := dinv_snoc hi hx hu
    have hp := pathOf_new hi hx hu
    have hnx : nextB ns L up s = true := by
      unfold nextB
      simp only [Bool.and_eq_true, Bool.or_eq_true, decide_eq_true_eq]
      refine ⟨h1, by unfold nameB; rwa [decide_eq_true_eq], ?_, h2⟩
      simp only [List.length_cons] at hl; omega
    have hlp : ((pathOf (ns ++ [(up, s)]) (ns.length + 1)).length : Int) + r.length = L := by
      rw [hp, List.length_append, List.length_singleton]
      simp only [List.length_cons] at hl
      simp only; omega
    refine ih (ns ++ [(up, s)]) (ns.length + 1) hi' (chain_snoc hc hnx) (by simp) (fun t ht => hr t (List.mem_cons_of_mem _ ht)) hlp (fun t ht => ⟨?_, .inr (.inr (by simp))⟩) (fun h0 => fun _ => ?_)
    · exact code_zero.2 (fresh_not hi' t (ns.length + 1) (by simp))
    · subst h0
      rw [List.length_append, List.length_singleton]
      simpa using hlp
theorem add_chain {L : Int} {ns : List DNode} (h : DOk ns) (hc : Chain L ns) (hf : Full L ns) (p : List ByteArray) : Chain L (addDR ns L p).1 ∧ Full L (addDR ns L p).1 := by
  unfold addDR
  by_cases hno : mayB p = false ∨ (p.length : Int) ≠ L
  · rw [if_pos hno]; exact ⟨hc, hf⟩
  · rw [if_neg hno]
    by_cases h40 : 40 < ns.length + (p.length - (known ns 0 p).1.length)
    · rw [if_pos h40]; exact ⟨hc, hf⟩
    · rw [if_neg h40]
      have hm : mayB p = true := by
        cases hm : mayB p with
        | true => rfl
        | false => exact absurd (.inl hm) hno
      have hL : (p.length : Int) = L := by
        by_cases e : (p.length : Int) = L
        · exact e
        · exact absurd (.inr e) hno
      obtain ⟨k1, k2, k3⟩ := known_walk ns 0 p
      have kl := known_len ns 0 p
      obtain ⟨g1, g2⟩ := (walk_iff h.inv _ _).1 k1
      show Chain L (addD ns p).1 ∧ Full L (addD ns p).1
      unfold addD
      refine putAll_chain _ ns _ h.inv hc g1 (fun s hs => may_names hm s (List.mem_of_mem_drop hs)) ?_ (fun s hs => ⟨?_, ?_⟩) (fun _ => hf)
      · rw [g2, List.length_take, List.length_drop]; omega
      · rw [List.getElem?_drop, Nat.add_zero] at hs
        exact k3 s hs
      · by_cases h0 : ns.length = 0
        · exact .inl h0
        · exact .inr (.inl (hf (by omega)))
theorem addMany_chain {L : Int} {ns : List DNode} (h : DOk ns) (hc : Chain L ns) (hf : Full L ns) (ll : List (List ByteArray)) : Chain L (addMany L ns ll) ∧ Full L (addMany L ns ll) := by
  induction ll generalizing ns with
  | nil => exact ⟨hc, hf⟩
  | cons p ll ih =>
    obtain ⟨h1, h2⟩ := add_chain h hc hf p
    exact ih (link_add h L p).2 h1 h2
theorem rInt_put (pre post : List UInt8) (n : Int) (least most : Int) (h1 : -9223372036854775808 ≤ n) (h2 : n ≤ 9223372036854775807) (h3 : least ≤ n) (h4 : n ≤ most) :
    rInt (pre ++ (putInt n ++ post)) pre.length 0 least most = (n, pre.length + (putInt n).length, 0) := by
  unfold rInt
  rw [if_neg (by simp), List.drop_left, getInt_putInt n h1 h2, if_neg (by simp), if_neg (by omega)]
  simp
theorem rText_put (pre post : List UInt8) (s : List UInt8) (most : Int) (h2 : s.length ≤ 1000000) (h4 : (s.length : Int) ≤ most) :
    rText (pre ++ (putInt (s.length : Nat) ++ (s ++ post))) pre.length 0 most = (s, pre.length + (putInt (s.length : Nat)).length + s.length, 0) := by
  unfold rText
  rw [rInt_put pre (s ++ post) (s.length : Nat) 0 most (by omega) (by omega) (by omega) h4]
  simp only
  rw [if_neg (by simp), if_neg (by simp only [List.length_append]; omega)]
  simp only [Int.toNat_natCast]
  rw [← List.append_assoc, show pre.length + (putInt ((s.length : Nat) : Int)).length = (pre ++ putInt ((s.length : Nat) : Int)).length by simp, List.drop_left, List.take_left]
theorem readF_put {L : Int} (rest : List DNode) (ns : List DNode) (pre post : List UInt8) (hk : OkR L ns) (hc : Chain L (ns ++ rest)) (hok : DOk (ns ++ rest)) :
    readF L (pre ++ (rest.flatMap itemD ++ post)) rest.length ns pre.length 0 = (some (ns ++ rest), pre.length + (rest.flatMap itemD).length, 0) := by
  induction rest generalizing ns pre with
  | nil => simp [readF]
  | cons x rest ih =>
    have hx : (ns ++ x :: rest)[ns.length]? = some x := by simp
    have hu := hok.inv.up _ _ hx
    obtain ⟨hs1, hs2⟩ := hok.small x (by simp)
    have hsz : x.2.data.toList.length = x.2.size := by rw [Array.length_toList]; rfl
    have e1 : pre ++ ((x :: rest).flatMap itemD ++ post) = pre ++ (putInt (x.1 : Int) ++ (putInt ((x.2.data.toList.length : Nat) : Int) ++ (x.2.data.toList ++ (rest.flatMap itemD ++ post)))) := by
      rw [List.flatMap_cons, itemD, hsz]; simp
    have r1 : rInt (pre ++ ((x :: rest).flatMap itemD ++ post)) pre.length 0 0 (ns.length : Int) = ((x.1 : Int), (pre ++ putInt (x.1 : Int)).length, 0) := by
      rw [e1, rInt_put _ _ _ _ _ (by omega) (by omega) (by omega) (by omega), List.length_append]
    have r2 : rText (pre ++ ((x :: rest).flatMap itemD ++ post)) (pre ++ putInt (x.1 : Int)).length 0 12 = (x.2.data.toList, (pre ++ itemD x).length, 0) := by
      rw [e1, ← List.append_assoc, rText_put _ _ _ _ (by omega) (by omega)]
      unfold itemD
      rw [hsz]; simp [Nat.add_assoc]
    have hnx : nextB ns L x.1 x.2 = true := by
      have := hc ns.length (by simp)
      rw [List.take_left] at this
      simpa using this
    have hx2 : (⟨x.2.data.toList.toArray⟩ : ByteArray) = x.2 := by simp
    have hlen : ns.length < 40 := by have := hok.len; simp at this; omega
    rw [List.length_cons, readF_step r1 r2, Int.toNat_natCast, hx2, if_pos hnx]
    have hn := okR_next (up := x.1) (s := x.2) hk hu hlen hnx
    have e3 : ns ++ x :: rest = (ns ++ [(x.1, x.2)]) ++ rest := by simp
    rw [e3] at hc hok ⊢
    have := ih (ns ++ [(x.1, x.2)]) (pre ++ itemD x) hn.1 hc hok
    rw [show pre ++ ((x :: rest).flatMap itemD ++ post) = (pre ++ itemD x) ++ (rest.flatMap itemD ++ post) by simp]
    rw [this]
    simp [Nat.add_assoc]
theorem readD_put {L : Int} {ns : List DNode} (h1 : 1 ≤ L) (h3 : L ≤ 3) (hok : DOk ns) (hc : Chain L ns) (hf : Full L ns) (pre post : List UInt8) :
    readD L (pre ++ (putDR ns ++ post)) pre.length 0 = (some ns, pre.length + (putDR ns).length, 0) := by
  have hlen := hok.len
  unfold readD
  rw [if_neg (by omega)]
  have e : pre ++ (putDR ns ++ post) = pre ++ (putInt ((ns.length : Nat) : Int) ++ (ns.flatMap itemD ++ post)) := by unfold putDR; simp
  rw [e, rInt_put _ _ _ _ _ (by omega) (by omega) (by omega) (by omega)]
  simp only [Int.toNat_natCast]
  have := readF_put ns [] (pre ++ putInt ((ns.length : Nat) : Int)) post (okR_nil h1) (by simpa using hc) (by simpa using hok)
  rw [List.append_assoc, List.length_append] at this
  rw [this]
  unfold finF
  simp only [List.nil_append]
  rw [if_neg (by rintro ⟨h, h'⟩; have := hf h; omega), if_neg (by simp)]
  unfold putDR
  simp [Nat.add_assoc]
end Go.Proofs.Ytbledkffkckjbaa
