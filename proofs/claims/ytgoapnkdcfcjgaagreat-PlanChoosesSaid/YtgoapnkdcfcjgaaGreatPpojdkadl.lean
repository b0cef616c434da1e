/- 4 texts of this claim, in build order. -/
import Derived.Test.YtgoapnkdcfcjgaaGreatPommbaifj
set_option linter.unusedVariables false
set_option linter.unusedSimpArgs false
namespace Go.Proofs.YtgoapnkdcfcjgaaGreat
def code {α : Type} [DecidableEq α] (l : List α) (x : α) : Nat := if x ∈ l then l.idxOf x + 1 else 0
section
variable {α : Type} [DecidableEq α]
theorem zen (l : List α) (x : α) : code l x <= l.length := by
 unfold code; split
 ·rename_i h; have := List.idxOf_lt_length_iff.2 h; omega
 ·omega
theorem zbL {l : List α} {x : α} : code l x = 0 ↔ x ∉ l := by
 unfold code; split <;> simp_all
theorem zeO {l : List α} {x : α} {c : Nat} (h : code l x = c + 1) : l[c]? = some x := by
 unfold code at h
 split at h
 ·rename_i hm
  obtain rfl : l.idxOf x = c := by omega
  have hlt := List.idxOf_lt_length_iff.2 hm
  rw [List.getElem?_eq_getElem hlt, List.getElem_idxOf]
 ·omega
theorem zbc {l : List α} {x : α} {c : Nat} (hn : l.Nodup) (h : l[c]? = some x) : code l x = c + 1 := by
 obtain ⟨hc, he⟩ := List.getElem?_eq_some_iff.1 h
 subst he
 unfold code
 rw [if_pos (List.getElem_mem hc), hn.idxOf_getElem]
theorem zmM {l : List α} {x y : α} (hy : y ∉ l) : code (l ++ [y]) x = if x = y then l.length + 1 else code l x := by
 by_cases h : x = y
 ·subst h
  rw [if_pos rfl]
  unfold code
  rw [if_pos (by simp), List.idxOf_append, if_neg hy]; simp
 ·rw [if_neg h]
  unfold code
  by_cases hm : x ∈ l
  ·rw [if_pos (by simp [hm]), if_pos hm, List.idxOf_append, if_pos hm]
  ·rw [if_neg (by simp [hm, h]), if_neg hm]
end
abbrev zH := Nat × ByteArray
def zbf (ns : List zH) : Nat -> List ByteArray -> Option Nat
 | up, [] => some up
 | up, s :: p => if code ns (up, s) = 0 then none else zbf ns (code ns (up, s)) p
def zli (ns : List zH) : Nat -> Nat -> List ByteArray
 | 0, _ => []
 | _ + 1, 0 => []
 | f + 1, c + 1 => match ns[c]? with
   | none => []
   | some x => zli ns f x.1 ++ [x.2]
def zaL (ns : List zH) (c : Nat) : List ByteArray := zli ns c c
structure DInv (ns : List zH) : Prop where
 nodup : ns.Nodup
 up : ∀ (i : Nat) (x : zH), ns[i]? = some x -> x.1 <= i
theorem zpQ : DInv [] := ⟨List.nodup_nil, by simp⟩
section
variable {ns : List zH}
theorem zmo (hi : DInv ns) (f c : Nat) (h : c <= f) : zli ns f c = zli ns c c := by
 induction f using Nat.strongRecOn generalizing c with
 | _ f ih =>
   cases f with
   | zero => obtain rfl : c = 0 := by omega
             rfl
   | succ f =>
     cases c with
     | zero => rfl
     | succ c =>
       simp only [zli]
       cases hx : ns[c]? with
       | none => rfl
       | some x =>
         have hu := hi.up c x hx
         simp only
         rw [ih f (by omega) x.1 (by omega)]
         rcases Nat.lt_or_ge c f with hcf | hcf
         ·rw [ih c (by omega) x.1 hu]
         ·obtain rfl : c = f := by omega
          rw [ih c (by omega) x.1 (by omega)]
theorem zaV : zaL ns 0 = [] := rfl
theorem zau (hi : DInv ns) {c : Nat} {x : zH} (h : ns[c]? = some x) : zaL ns (c + 1) = zaL ns x.1 ++ [x.2] := by
 unfold zaL
 simp only [zli, h]
 rw [zmo hi c x.1 (hi.up c x h)]
theorem zce {c : Nat} (h0 : c ≠ 0) (h : c <= ns.length) : ∃ d x, c = d + 1 /\ ns[d]? = some x := by
 obtain ⟨d, rfl⟩ : ∃ d, c = d + 1 := ⟨c - 1, by omega⟩
 exact ⟨d, ns[d]'(by omega), rfl, List.getElem?_eq_getElem (by omega)⟩
theorem zep (hi : DInv ns) (c d : Nat) (hc : c <= ns.length) (hd : d <= ns.length) (h : zaL ns c = zaL ns d) : c = d := by
 induction c using Nat.strongRecOn generalizing d with
 | _ c ih =>
   by_cases h0 : c = 0
   ·subst h0
    by_cases h1 : d = 0
    ·exact h1.symm
    ·obtain ⟨e, x, rfl, hx⟩ := zce h1 hd
     rw [zau hi hx, zaV] at h
     simp at h
   ·obtain ⟨e, x, rfl, hx⟩ := zce h0 hc
    by_cases h1 : d = 0
    ·subst h1
     rw [zau hi hx, zaV] at h
     simp at h
    ·obtain ⟨e', x', rfl, hx'⟩ := zce h1 hd
     rw [zau hi hx, zau hi hx'] at h
     obtain ⟨g1, g2⟩ := List.append_inj' h rfl
     have hu := hi.up e x hx
     have hu' := hi.up e' x' hx'
     have e1 := ih x.1 (by omega) x'.1 (by omega) (by omega) g1
     have e2 : x = x' := by
      obtain ⟨a, b⟩ := x; obtain ⟨a', b'⟩ := x'
      simp at g2 e1; rw [e1, g2]
     subst e2
     have := (zbc hi.nodup hx).symm.trans (zbc hi.nodup hx')
     exact this
theorem zoh (hi : DInv ns) (p : List ByteArray) (up c : Nat) (hu : up <= ns.length) (h : zbf ns up p = some c) : c <= ns.length /\ zaL ns c = zaL ns up ++ p := by
 induction p generalizing up with
 | nil => simp [zbf] at h; subst h; simp [hu]
 | cons s p ih =>
   simp only [zbf] at h
   split at h
   ·cases h
   ·rename_i h0
    obtain ⟨d, hd⟩ : ∃ d, code ns (up, s) = d + 1 := ⟨code ns (up, s) - 1, by omega⟩
    obtain ⟨h1, h2⟩ := ih _ (zen _ _) h
    refine ⟨h1, ?_⟩
    rw [h2, hd, zau hi (zeO hd)]
    simp
theorem zeC (hi : DInv ns) (c : Nat) (hc : c <= ns.length) (q r : List ByteArray) (h : zaL ns c = q ++ r) : ∃ d, d <= c /\ zaL ns d = q := by
 induction c using Nat.strongRecOn generalizing r with
 | _ c ih =>
   rcases List.eq_nil_or_concat r with rfl | ⟨r', s, rfl⟩
   ·exact ⟨c, by omega, by simpa using h⟩
   ·by_cases h0 : c = 0
    ·subst h0; rw [zaV] at h; simp at h
    ·obtain ⟨e, x, rfl, hx⟩ := zce h0 hc
     rw [zau hi hx] at h
     simp only [List.concat_eq_append] at h
     rw [<- List.append_assoc] at h
     obtain ⟨g1, g2⟩ := List.append_inj' h rfl
     have hu := hi.up e x hx
     obtain ⟨d, h1, h2⟩ := ih x.1 (by omega) (by omega) r' g1
     exact ⟨d, by omega, h2⟩
theorem zhE (hi : DInv ns) (p : List ByteArray) (up c : Nat) (hu : up <= ns.length) (hc : c <= ns.length) (h : zaL ns c = zaL ns up ++ p) : zbf ns up p = some c := by
 induction p generalizing up with
 | nil => simp [zbf]; exact (zep hi c up hc hu (by simpa using h)).symm
 | cons s p ih =>
   obtain ⟨d, h1, h2⟩ := zeC hi c hc (zaL ns up ++ [s]) p (by simpa using h)
   have h0 : d ≠ 0 := by rintro rfl; rw [zaV] at h2; simp at h2
   obtain ⟨e, x, rfl, hx⟩ := zce (ns := ns) h0 (by omega)
   rw [zau hi hx] at h2
   obtain ⟨g1, g2⟩ := List.append_inj' h2 rfl
   have hux := hi.up e x hx
   have e1 := zep hi x.1 up (by omega) hu g1
   have e2 : x = (up, s) := by
    obtain ⟨a, b⟩ := x
    simp at g2 e1; rw [e1, g2]
   have hcode : code ns (up, s) = e + 1 := zbc hi.nodup (e2 ▸ hx)
   simp only [zbf]
   rw [if_neg (by omega), hcode]
   refine ih (e + 1) (by omega) ?_
   rw [h, zau hi hx, e2]; simp
theorem zcX (hi : DInv ns) (p : List ByteArray) (c : Nat) : zbf ns 0 p = some c ↔ c <= ns.length /\ zaL ns c = p := by
 constructor
 ·intro h; simpa [zaV] using zoh hi p 0 c (by omega) h
 ·rintro ⟨h1, h2⟩; exact zhE hi p 0 c (by omega) h1 (by simpa [zaV] using h2)
def zT (ns : List zH) : List (List ByteArray) := (List.range ns.length).map fun i => zaL ns (i + 1)
theorem zbJ (ns : List zH) : (zT ns).length = ns.length := by simp [zT]
theorem zdV {i : Nat} (h : i < ns.length) : (zT ns)[i]? = some (zaL ns (i + 1)) := by
 simp [zT, h]
theorem zfU (hi : DInv ns) : (zT ns).Nodup := by
 unfold List.Nodup
 rw [List.pairwise_iff_getElem]
 intro i j hi1 hj hij h
 have e1 := List.getElem?_eq_getElem hi1
 have e2 := List.getElem?_eq_getElem hj
 rw [h, <- e2] at e1
 rw [zbJ] at hi1 hj
 rw [zdV hi1, zdV hj] at e1
 injection e1 with h
 have := zep hi _ _ (by omega) (by omega) h
 omega
theorem zfP (hi : DInv ns) (p : List ByteArray) : code (zT ns) p = (zbf ns 0 p).getD 0 := by
 by_cases h : code (zT ns) p = 0
 ·rw [h]
  cases hw : zbf ns 0 p with
  | none => rfl
  | some c =>
    obtain ⟨h1, h2⟩ := (zcX hi p c).1 hw
    by_cases h0 : c = 0
    ·rw [h0]; rfl
    ·obtain ⟨d, rfl⟩ : ∃ d, c = d + 1 := ⟨c - 1, by omega⟩
     have := zbc (zfU hi) ((zdV (ns := ns) (i := d) (by omega)).trans (congrArg some h2))
     omega
 ·obtain ⟨d, hd⟩ : ∃ d, code (zT ns) p = d + 1 := ⟨code (zT ns) p - 1, by omega⟩
  have hg := zeO hd
  have hlt : d < ns.length := by have := (List.getElem?_eq_some_iff.1 hg).1; rwa [zbJ] at this
  rw [zdV hlt] at hg
  injection hg with hg
  rw [(zcX hi p (d + 1)).2 ⟨by omega, hg⟩, hd]; rfl
theorem zfl (hi : DInv ns) {x : zH} (hx : x ∉ ns) (hu : x.1 <= ns.length) : DInv (ns ++ [x]) := by
 refine ⟨?_, fun i y hy => ?_⟩
 ·rw [List.nodup_append]
  exact ⟨hi.nodup, by simp, fun a ha b hb => by simp at hb; subst hb; rintro rfl; exact hx ha⟩
 ·rcases Nat.lt_or_ge i ns.length with h | h
  ·rw [List.getElem?_append_left h] at hy; exact hi.up i y hy
  ·rw [List.getElem?_append_right h] at hy
   have h0 : i - ns.length = 0 := by
    rcases Nat.eq_zero_or_pos (i - ns.length) with h' | h'
    ·exact h'
    ·rw [List.getElem?_eq_none (by simp; omega)] at hy; cases hy
   rw [h0] at hy; simp at hy; subst hy; omega
theorem zdh (hi : DInv ns) {x : zH} (hx : x ∉ ns) (hu : x.1 <= ns.length) (c : Nat) (hc : c <= ns.length) : zaL (ns ++ [x]) c = zaL ns c := by
 have hi' := zfl hi hx hu
 induction c using Nat.strongRecOn with
 | _ c ih =>
   by_cases h0 : c = 0
   ·subst h0; rfl
   ·obtain ⟨d, y, rfl, hy⟩ := zce h0 hc
    have huy := hi.up d y hy
    rw [zau hi hy, zau hi' (by rw [List.getElem?_append_left (by omega)]; exact hy), ih y.1 (by omega) (by omega)]
theorem zgu (hi : DInv ns) {x : zH} (hx : x ∉ ns) (hu : x.1 <= ns.length) : zaL (ns ++ [x]) (ns.length + 1) = zaL ns x.1 ++ [x.2] := by
 rw [zau (zfl hi hx hu) (x := x) (by simp), zdh hi hx hu _ hu]
theorem zlL (hi : DInv ns) {x : zH} (hx : x ∉ ns) (hu : x.1 <= ns.length) : zT (ns ++ [x]) = zT ns ++ [zaL ns x.1 ++ [x.2]] := by
 unfold zT
 rw [List.length_append, List.length_singleton, List.range_succ, List.map_append]
 congr 1
 ·apply List.map_congr_left
  intro i hi'
  exact zdh hi hx hu _ (by simp at hi'; omega)
 ·simp [zgu hi hx hu]
theorem zh6 (hi : DInv ns) (s : ByteArray) (c : Nat) (hc : ns.length <= c) : (c, s) ∉ ns := by
 intro h
 obtain ⟨i, hl, he⟩ := List.mem_iff_getElem.1 h
 have := hi.up i _ (List.getElem?_eq_getElem hl)
 rw [he] at this
 simp at this; omega
end
def zay (ns : List zH) : Nat -> List ByteArray -> List Nat × Nat
 | up, [] => ([], up)
 | up, s :: p => if code ns (up, s) = 0 then ([], up) else (code ns (up, s) :: (zay ns (code ns (up, s)) p).1, (zay ns (code ns (up, s)) p).2)
def zah (ns : List zH) : Nat -> List ByteArray -> List zH × List Nat
 | _, [] => (ns, [])
 | up, s :: p => ((zah (ns ++ [(up, s)]) (ns.length + 1) p).1, (ns.length + 1) :: (zah (ns ++ [(up, s)]) (ns.length + 1) p).2)
def addD (ns : List zH) (p : List ByteArray) : List zH × List Nat :=
 ((zah ns (zay ns 0 p).2 (p.drop (zay ns 0 p).1.length)).1, (zay ns 0 p).1 ++ (zah ns (zay ns 0 p).2 (p.drop (zay ns 0 p).1.length)).2)
def zcw (pl : List (List ByteArray)) (p : List ByteArray) : List (List ByteArray) :=
 ((List.range p.length).map fun n => p.take (n + 1)).filter fun q => code pl q = 0
def outR (pl : List (List ByteArray)) (p : List ByteArray) : List Nat := (List.range p.length).map fun n => code pl (p.take (n + 1))
section
variable {ns : List zH}
theorem zh8 (ns : List zH) (up : Nat) (p : List ByteArray) : (zay ns up p).1.length <= p.length := by
 induction p generalizing up with
 | nil => simp [zay]
 | cons s p ih =>
   simp only [zay]
   split
   ·simp
   ·have := ih (code ns (up, s)); simp; omega
theorem zcR (ns : List zH) (up : Nat) (p : List ByteArray) :
  zbf ns up (p.take (zay ns up p).1.length) = some (zay ns up p).2 /\ (∀ n, n < (zay ns up p).1.length -> zbf ns up (p.take (n + 1)) = some ((zay ns up p).1.getD n 0)) /\
  (∀ s, p[(zay ns up p).1.length]? = some s -> code ns ((zay ns up p).2, s) = 0) := by
 induction p generalizing up with
 | nil => simp [zay, zbf]
 | cons s p ih =>
   simp only [zay]
   split
   ·rename_i h0
    simp [zbf, h0]
   ·rename_i h0
    obtain ⟨h1, h2, h3⟩ := ih (code ns (up, s))
    refine ⟨by simp [zbf, h0, h1], ?_, by simpa using h3⟩
    intro n hn
    cases n with
    | zero => simp [zbf, h0]
    | succ n =>
      simp only [List.length_cons] at hn
      have := h2 n (by omega)
      simp only [List.take_succ_cons, zbf, if_neg h0, this]
      simp
theorem ze6 (hi : DInv ns) (q r : List ByteArray) (up : Nat) (hu : up <= ns.length) (hq : zaL ns up = q) (hnew : ∀ s, r[0]? = some s -> (up, s) ∉ ns) :
  DInv (zah ns up r).1 /\ zT (zah ns up r).1 = zT ns ++ (List.range r.length).map (fun n => q ++ r.take (n + 1)) /\ (zah ns up r).1.length = ns.length + r.length /\
  (zah ns up r).2 = (List.range r.length).map (fun n => ns.length + 1 + n) /\ (∀ c, c <= ns.length -> zaL (zah ns up r).1 c = zaL ns c) := by
 induction r generalizing ns up q with
 | nil => simp [zah, hi]
 | cons s r ih =>
   have hx : (up, s) ∉ ns := hnew s rfl
   have hi' := zfl hi hx hu
   obtain ⟨h1, h2, h3, h4, h5⟩ := ih hi' (q ++ [s]) (ns.length + 1) (by simp) (by rw [zgu hi hx hu, hq]) (fun t _ => zh6 hi' t (ns.length + 1) (by simp))
   simp only [zah]
   refine ⟨h1, ?_, by rw [h3]; simp; omega, ?_, fun c hc => ?_⟩
   ·rw [h2, zlL hi hx hu, hq]
    simp [List.range_succ_eq_map, Function.comp_def]
   ·rw [h4]
    simp [List.range_succ_eq_map, Function.comp_def]
    intro a _; omega
   ·rw [h5 c (by simp; omega), zdh hi hx hu c hc]
theorem zfO {α : Type} [DecidableEq α] (l m : List α) (x : α) (h : code l x ≠ 0) : code (l ++ m) x = code l x := by
 have hm : x ∈ l := by
  by_cases hm : x ∈ l
  ·exact hm
  ·exact absurd (zbL.2 hm) h
 unfold code
 rw [if_pos (by simp [hm]), if_pos hm, List.idxOf_append, if_pos hm]
theorem zhI (hi : DInv ns) (p : List ByteArray) :
  DInv (addD ns p).1 /\ zT (addD ns p).1 = zT ns ++ zcw (zT ns) p /\ (addD ns p).2 = outR (zT (addD ns p).1) p /\ (zcw (zT ns) p).length = p.length - (zay ns 0 p).1.length /\ (addD ns p).1.length = ns.length + (p.length - (zay ns 0 p).1.length) := by
 obtain ⟨k1, k2, k3⟩ := zcR ns 0 p
 have kl := zh8 ns 0 p
 obtain ⟨g1, g2⟩ := (zcX hi _ _).1 k1
 unfold addD
 generalize hkn : zay ns 0 p = kn at *
 obtain ⟨cs, up⟩ := kn
 simp only at k1 k2 k3 kl g1 g2 ⊢
 obtain ⟨h1, h2, h3, h4, h5⟩ := ze6 hi (p.take cs.length) (p.drop cs.length) up g1 g2 (fun s hs => by
  rw [List.getElem?_drop, Nat.add_zero] at hs
  exact zbL.1 (k3 s hs))
 have hmore : zcw (zT ns) p = (List.range (p.length - cs.length)).map (fun n => p.take cs.length ++ (p.drop cs.length).take (n + 1)) := by
  have e : ∀ n, p.take cs.length ++ (p.drop cs.length).take (n + 1) = p.take (cs.length + n + 1) := fun n => by
   rw [Nat.add_assoc]; exact (List.take_add).symm
  unfold zcw
  have hr : List.range p.length = List.range cs.length ++ (List.range (p.length - cs.length)).map (cs.length + ·) := by
   rw [show p.length = cs.length + (p.length - cs.length) by omega, List.range_add]
   simp
  rw [hr, List.map_append, List.filter_append]
  have f1 : ((List.range cs.length).map fun n => p.take (n + 1)).filter (fun q => code (zT ns) q = 0) = [] := by
   rw [List.filter_eq_nil_iff]
   intro q hq
   obtain ⟨n, hn, rfl⟩ := List.mem_map.1 hq
   have hn' : n < cs.length := by simpa using hn
   rw [zfP hi, k2 n hn']
   simp only [Option.getD_some, decide_eq_true_eq]
   intro h0
   have := (zcX hi _ _).1 (k2 n hn')
   rw [h0, zaV] at this
   have h2 := congrArg List.length this.2
   rw [List.length_take] at h2
   simp at h2; omega
  have f2 : (((List.range (p.length - cs.length)).map (cs.length + ·)).map fun n => p.take (n + 1)).filter (fun q => code (zT ns) q = 0) = ((List.range (p.length - cs.length)).map (cs.length + ·)).map fun n => p.take (n + 1) := by
   rw [List.filter_eq_self]
   intro q hq
   obtain ⟨n, hn, rfl⟩ := List.mem_map.1 hq
   obtain ⟨m, hm, rfl⟩ := List.mem_map.1 hn
   have hm' : m < p.length - cs.length := by simpa using hm
   rw [zfP hi]
   simp only [decide_eq_true_eq]
   cases hw : zbf ns 0 (p.take (cs.length + m + 1)) with
   | none => rfl
   | some c =>
     exfalso
     obtain ⟨w1, w2⟩ := (zcX hi _ _).1 hw
     have hs : p[cs.length]? = some (p[cs.length]'(by omega)) := List.getElem?_eq_getElem (by omega)
     obtain ⟨d, d1, d2⟩ := zeC hi c w1 (p.take (cs.length + 1)) ((p.take (cs.length + m + 1)).drop (cs.length + 1)) (by
      rw [w2]
      conv => lhs; rw [<- List.take_append_drop (cs.length + 1) (p.take (cs.length + m + 1))]
      rw [List.take_take, Nat.min_eq_left (by omega)])
     have e1 : p.take (cs.length + 1) = p.take cs.length ++ [p[cs.length]'(by omega)] := List.take_succ_eq_append_getElem (by omega)
     have hw2 := zhE hi [p[cs.length]'(by omega)] up d g1 (by omega) (by rw [d2, g2, e1])
     simp only [zbf] at hw2
     rw [k3 _ hs] at hw2
     simp at hw2
  rw [f1, f2, List.nil_append, List.map_map]
  apply List.map_congr_left
  intro n _
  simp only [Function.comp_apply]
  rw [e]
 rw [List.length_drop] at h2 h3 h4
 have hp : zT (zah ns up (p.drop cs.length)).1 = zT ns ++ zcw (zT ns) p := by rw [h2, hmore]
 refine ⟨h1, hp, ?_, by rw [hmore]; simp, h3⟩
 unfold outR
 have hr : List.range p.length = List.range cs.length ++ (List.range (p.length - cs.length)).map (cs.length + ·) := by
  rw [show p.length = cs.length + (p.length - cs.length) by omega, List.range_add]
  simp
 rw [hr, List.map_append, List.map_map, h4]
 congr 1
 ·apply List.ext_getElem?
  intro n
  rw [List.getElem?_map]
  rcases Nat.lt_or_ge n cs.length with hn | hn
  ·rw [List.getElem?_range hn, List.getElem?_eq_getElem hn]
   simp only [Option.map_some]
   have hk := k2 n hn
   have hc0 : code (zT ns) (p.take (n + 1)) = cs.getD n 0 := by rw [zfP hi, hk]; rfl
   have hne : code (zT ns) (p.take (n + 1)) ≠ 0 := by
    rw [hc0]
    intro h0
    have := (zcX hi _ _).1 hk
    rw [h0, zaV] at this
    have h2 := congrArg List.length this.2
    rw [List.length_take] at h2
    simp at h2; omega
   rw [hp, zfO _ _ _ hne, hc0]
   simp [List.getElem?_eq_getElem hn]
  ·rw [List.getElem?_eq_none (by simpa using hn), List.getElem?_eq_none (by simpa using hn)]; rfl
 ·apply List.map_congr_left
  intro n hn
  have hn' : n < p.length - cs.length := by simpa using hn
  simp only [Function.comp_apply]
  have hget : (zT (zah ns up (p.drop cs.length)).1)[ns.length + n]? = some (p.take (cs.length + n + 1)) := by
   rw [h2, List.getElem?_append_right (by rw [zbJ]; omega), zbJ, List.getElem?_map, List.getElem?_range (by omega)]
   simp only [Option.map_some, Nat.add_sub_cancel_left]
   rw [Nat.add_assoc]; exact congrArg some (List.take_add).symm
  rw [zbc (zfU h1) hget]; omega
end
end Go.Proofs.YtgoapnkdcfcjgaaGreat
namespace Go.Proofs.YtgoapnkdcfcjgaaGreat
open Go.ChangeShapes Go.WideShapes Go.ChangeAt Go.RowKit
def RefW (w : World) (R : Nat -> Prop) (r : Nat) (L : Int) (pl : List (List ByteArray)) : Prop :=
 R r /\ (∀ k, R k -> k < w.heap.size) /\ (∀ i, i < 2 -> w.frozen? ⟨r, i, none⟩ = false) /\ w.cell? ⟨r, 0, none⟩ = some (.int .i64 L) /\
 ∃ (v : Value) (vs : List Value) (E : Nat -> Prop), w.cell? ⟨r, 1, none⟩ = some v /\ w.ownsRow 0 23 1 v pl.length vs /\ (∀ g, v.ownBlock = some g -> R g /\ g ≠ r) /\ (∀ k, E k -> R k /\ k ≠ r /\ v.ownBlock ≠ some k) /\
  ∀ (i : Nat) (x : List ByteArray), pl[i]? = some x -> ∃ u, vs[i]? = some u /\ SlE w E u (zL x)
theorem RefW.kept {w w' : World} {R : Nat -> Prop} {r : Nat} {L : Int} {pl : List (List ByteArray)} (h : RefW w R r L pl) (k : Kept R w w') (hs : w.heap.size <= w'.heap.size) : RefW w' R r L pl := by
 obtain ⟨h1, h2, h3, h4, v, vs, E, h5, h6, h7, h8, h9⟩ := h
 refine ⟨h1, fun i hi => Nat.lt_of_lt_of_le (h2 i hi) hs, fun i hi => k.frozen h1 (h3 i hi), k.cell h1 h4, v, vs, E, k.cell h1 h5, zo h6 (fun g hg => k g (h7 g hg).1), h7, h8, fun i x hx => ?_⟩
 obtain ⟨u, hu, hsl⟩ := h9 i x hx
 exact ⟨u, hu, hsl.kept (fun j hj => k j (h8 j hj).1)⟩
theorem RefW.below {w w' : World} {R : Nat -> Prop} {r : Nat} {L : Int} {pl : List (List ByteArray)} (h : RefW w R r L pl) (hb : Below w.heap.size w w') : RefW w' R r L pl :=
 h.kept (fun k hk => hb.block k (h.2.1 k hk)) hb.size
theorem RefW.row {w : World} {R : Nat -> Prop} {r : Nat} {L : Int} {pl : List (List ByteArray)} (h : RefW w R r L pl) :
  ∃ A c, w.cell? ⟨r, 1, none⟩ = some (.slice A pl.length c) /\ pl.length <= c /\ c <= maxLen /\ ∀ k (hk : k < pl.length), ∃ b off u, A = some ⟨b, off, none⟩ /\ w.cell? ⟨b, off + k, none⟩ = some u /\ Sl w w.heap.size u (zL pl[k]) := by
 obtain ⟨h1, h2, h3, h4, v, vs, E, h5, h6, h7, h8, h9⟩ := h
 have hl : vs.length = pl.length := by have := h6.1; omega
 obtain ⟨A, c, rfl, g1, g2, g3⟩ := Sl.of_own h6
 rw [hl] at g1 g3
 rw [hl] at h5
 refine ⟨A, c, h5, g1, g2, fun k hk => ?_⟩
 obtain ⟨b, off, e1, e2, e3⟩ := g3 (by omega)
 obtain ⟨u, hu, hsl⟩ := h9 k _ (List.getElem?_eq_getElem hk)
 exact ⟨b, off, u, e1, e3 k u hu, hsl.sl⟩
def zqp (pl : List (List ByteArray)) (p : List ByteArray) (w : World) (i : Value) (wr : World) : Prop := ∃ k : Nat, i = .int .i64 k /\ k <= pl.length /\ p ∉ pl.take k /\ Qu w wr
theorem zmd {α : Type} [DecidableEq α] (l : List α) (x : α) (k : Nat) (hk : k < l.length) (hn : x ∉ l.take k) (he : l[k] = x) : code l x = k + 1 := by
 have hm : x ∈ l := he ▸ List.getElem_mem hk
 unfold code
 rw [if_pos hm]
 congr 1
 have hs : l = l.take k ++ x :: l.drop (k + 1) := by
  rw [<- he, <- List.drop_eq_getElem_cons hk, List.take_append_drop]
 have hi : (l.take k ++ x :: l.drop (k + 1)).idxOf x = k := by
  rw [List.idxOf_append, if_neg hn, List.idxOf_cons_self, List.length_take]; omega
 rw [<- hs] at hi
 exact hi
theorem zhj {α : Type} [DecidableEq α] (l : List α) (x : α) (k : Nat) (hk : k < l.length) (hn : x ∉ l.take k) (he : l[k] ≠ x) : x ∉ l.take (k + 1) := by
 rw [List.take_succ_eq_append_getElem hk, List.mem_append]
 rintro (h | h)
 ·exact hn h
 ·simp at h; exact he h.symm
set_option maxHeartbeats 800000 in
theorem zfR (R : Nat -> Prop) (r : Nat) (L : Int) (pl : List (List ByteArray)) (v : Value) (p : List ByteArray) (w : World) (h : RefW w R r L pl) (hpl : pl.length <= 1000) (hv : Sl w w.heap.size v (zL p)) :
  Calls Tryz.prog 76 #[.pointer (some ⟨r, 0, none⟩), v] w (za5 (.int .i64 (code pl p : Nat)) w) := by
 obtain ⟨A, c, h5, hc1, hc2, hrow⟩ := h.row
 have HR := hid hrow; have HV := hid hv; clear hrow hv h
 unfold maxLen at hc2
 go_enter Tryz.func76, Tryz.ntmps76
 go_wp2
 go_loopw [5] (fun i wr => zqp pl p w i wr) (fun i _ => pl.length - (intOf i).toNat)
 case atStart => exact ⟨0, rfl, by omega, by simp, Qu.refl _⟩
 case round =>
  obtain ⟨k, rfl, hk, hno, hq⟩ := hrel
  have HNO := hid hno; clear hno
  have h5' : wr.cell? ⟨r, 1, none⟩ = _ := (hq.cell _).trans h5
  have HQ := hid hq; clear hq
  by_cases hlt : k < pl.length
  ·obtain ⟨b, off, u, rfl, hcell, hsl⟩ := HR.out k hlt
   replace hcell : wr.cell? ⟨b, off + k, none⟩ = _ := (HQ.out.cell _).trans hcell
   have hs := fun W (hw : Qu w W) => zne u v pl[k] p W (by have := hsl.qu' hw; rwa [Qu.size hw]) (by have := HV.out.qu' hw; rwa [Qu.size hw])
   have he1 : pl[k] = p -> code pl p = k + 1 := fun h => zmd pl p k hlt HNO.out h
   have he2 : pl[k] ≠ p -> p ∉ pl.take (k + 1) := fun h => zhj pl p k hlt HNO.out h
   have HSL := hid hsl; clear hsl
   generalize pl[k] = q at *
   have HS := hid hs; have HE1 := hid he1; have HE2 := hid he2; clear hs he1 he2
   go_wp2_with fail
   refine (HS.out _ HQ.out).mono ?_
   rintro e w1 ⟨rfl, hq1⟩
   have HQ1 := hid (HQ.out.trans hq1); clear hq1
   by_cases he : q = p
   ·have hc := HE1.out he
    rw [decide_eq_true he]
    have HC := hid hc; clear hc he
    go_wp2
    go_ret
    exact ⟨by rw [HC.out]; simp, HQ1.out⟩
   ·have hn := HE2.out he
    rw [decide_eq_false he]
    have HN := hid hn; clear hn he
    go_wp2
    go_roundw
    case rel => exact ⟨k + 1, by go_num, by omega, HN.out, HQ1.out⟩
    case measure => simp [intOf]; omega
  ·have hc : code pl p = 0 := by
    rw [zbL]
    have := HNO.out
    rwa [List.take_of_length_le (by omega)] at this
   have HC := hid hc; clear hc
   go_wp2
   go_ret
   exact ⟨by rw [HC.out]; rfl, HQ.out⟩
theorem zgf (p : List ByteArray) (m : Nat) : zL (p.take m) = (zL p).take m := by simp [zL, List.map_take]
theorem Sl.formS {w : World} {B : Nat} {v : Value} {p : List ByteArray} (h : Sl w B v (zL p)) : ∃ A c, v = .slice A p.length c /\ p.length <= c /\ c <= maxLen := by
 obtain ⟨A, c, rfl, h1, h2, -⟩ := h
 rw [zat] at h1 ⊢
 exact ⟨A, c, rfl, h1, h2⟩
end Go.Proofs.YtgoapnkdcfcjgaaGreat
