/- 3 texts of this claim, in build order. -/
import Derived.Test.YtgoapnkdcfcjgaaGreatPamdjhlda
import Derived.Test.YtgoapnkdcfcjgaaGreatPcmbnjpje
set_option linter.unusedVariables false
set_option linter.unusedSimpArgs false
namespace Go.Proofs.YtgoapnkdcfcjgaaGreat
open Go.ChangeShapes Go.WideShapes Go.ChangeAt Go.RowKit
def HasR (pls : List PlR) (f : zq) : Prop := ∀ i, i < f.1.length -> ∀ m, 1 <= m -> m <= (f.1.getD i []).length -> (f.1.getD i []).take m ∈ pls.getD i []
def ExtR (pls pls' : List PlR) : Prop := ∀ i, ∃ more, pls'.getD i [] = pls.getD i [] ++ more
theorem ExtR.refl (pls : List PlR) : ExtR pls pls := fun i => ⟨[], (List.append_nil _).symm⟩
theorem ExtR.trans {a b c : List PlR} (h : ExtR a b) (k : ExtR b c) : ExtR a c := fun i => by
 obtain ⟨m, e⟩ := h i
 obtain ⟨m', e'⟩ := k i
 exact ⟨m ++ m', by rw [e', e, List.append_assoc]⟩
theorem HasR.ext {pls pls' : List PlR} {f : zq} (h : HasR pls f) (k : ExtR pls pls') : HasR pls' f := fun i hi m h1 h2 => by
 obtain ⟨more, e⟩ := k i
 rw [e]; exact List.mem_append_left _ (h i hi m h1 h2)
def keyA (pls : List PlR) (v : List Int) (f : zq) : List Int := (List.range v.length).map fun i => if 0 < v.getD i 0 then ((code (pls.getD i []) ((f.1.getD i []).take (v.getD i 0).toNat) : Nat) : Int) else 0
def zfd (v : List Int) (f : zq) : Prop := v.length = f.1.length /\ ∀ i, i < v.length -> v.getD i 0 <= ((f.1.getD i []).length : Int)
theorem zkC {pls pls' : List PlR} {v : List Int} {f : zq} (h : HasR pls f) (k : ExtR pls pls') (hv : zfd v f) : keyA pls' v f = keyA pls v f := by
 unfold keyA
 refine List.map_congr_left (fun i hi => ?_)
 have hi := List.mem_range.1 hi
 by_cases h0 : 0 < v.getD i 0
 ·rw [if_pos h0, if_pos h0]
  obtain ⟨more, e⟩ := k i
  have hle := hv.2 i hi
  have hmem := h i (by rw [<- hv.1]; exact hi) (v.getD i 0).toNat (by omega) (by omega)
  rw [e, zfO _ _ _ (fun e' => zbL.1 e' hmem)]
 ·rw [if_neg h0, if_neg h0]
theorem zpP {α : Type} [DecidableEq α] {l : List α} {x y : α} (hx : x ∈ l) (hy : y ∈ l) (h : code l x = code l y) : x = y := by
 have hx0 : code l x ≠ 0 := fun e => zbL.1 e hx
 obtain ⟨c, hc⟩ : ∃ c, code l x = c + 1 := ⟨code l x - 1, by omega⟩
 have h1 := zeO hc
 have h2 := zeO (h ▸ hc)
 rw [h1] at h2
 exact Option.some.inj h2
theorem zhW {pls : List PlR} {v : List Int} {f g : zq} (hf : HasR pls f) (hg : HasR pls g) (hvf : zfd v f) (hvg : zfd v g) : keyA pls v f = keyA pls v g ↔ zeI v f = zeI v g := by
 unfold keyA zeI keyR
 rw [List.map_inj_left, List.map_inj_left]
 refine ⟨fun h i hi => ?_, fun h i hi => ?_⟩
 ·have h' := h i hi
  have hi := List.mem_range.1 hi
  unfold upS
  by_cases h0 : 0 < v.getD i 0
  ·rw [if_pos h0, if_pos h0] at h'
   have l1 := hvf.2 i hi; have l2 := hvg.2 i hi
   exact zpP (hf i (by rw [<- hvf.1]; exact hi) _ (by omega) (by omega)) (hg i (by rw [<- hvg.1]; exact hi) _ (by omega) (by omega)) (by omega)
  ·rw [show (v.getD i 0).toNat = 0 by omega, List.take_zero, List.take_zero]
 ·have h' := h i hi
  unfold upS at h'
  by_cases h0 : 0 < v.getD i 0
  ·rw [if_pos h0, if_pos h0, h']
  ·rw [if_neg h0, if_neg h0]
theorem zoz (pl : PlR) (L : Int) (p : List ByteArray) : ∃ more, (addR pl L p).1 = pl ++ more := by
 unfold addR
 split
 ·exact ⟨[], (List.append_nil _).symm⟩
 ·split
  ·exact ⟨[], (List.append_nil _).symm⟩
  ·exact ⟨_, rfl⟩
theorem znp {pl : PlR} {L : Int} {p : List ByteArray} (h : (addR pl L p).2.2 = 0) : (addR pl L p).2.1 = outR (addR pl L p).1 p /\ ∀ m, 1 <= m -> m <= p.length -> p.take m ∈ (addR pl L p).1 := by
 unfold addR at h ⊢
 by_cases h1 : mayB p = false \/ (p.length : Int) ≠ L
 ·rw [if_pos h1] at h; cases h
 ·rw [if_neg h1] at h ⊢
  by_cases h2 : 40 < pl.length + (zcw pl p).length
  ·rw [if_pos h2] at h; cases h
  ·rw [if_neg h2]
   refine ⟨rfl, fun m hm1 hm2 => ?_⟩
   show p.take m ∈ pl ++ zcw pl p
   by_cases hc : code pl (p.take m) = 0
   ·refine List.mem_append_right _ ?_
    unfold zcw
    refine List.mem_filter.2 ⟨List.mem_map.2 ⟨m - 1, List.mem_range.2 (by omega), by rw [show m - 1 + 1 = m by omega]⟩, by simpa using hc⟩
   ·refine List.mem_append_left _ ?_
    exact Classical.byContradiction fun hn => hc (zbL.2 hn)
theorem zf0 (ds : List (List zH)) (i : Nat) : (ds.map zT).getD i [] = zT (ds.getD i []) := by
 rw [List.getD_eq_getElem?_getD, List.getElem?_map, List.getD_eq_getElem?_getD]
 cases ds[i]? <;> rfl
theorem zhn (ds : List (List zH)) (i : Nat) (ns : List zH) : (ds.set i ns).map zT = (ds.map zT).set i (zT ns) := List.map_set
theorem ziR (s : ze) (pls : List PlR) (ps : List (List ByteArray)) (i : Nat) : ExtR pls (zaB s pls ps i).1 := by
 induction i with
 | zero => exact ExtR.refl _
 | succ i ih =>
   by_cases h0 : (zaB s pls ps i).2 = 0
   ·rw [zcT h0]
    refine ih.trans (fun j => ?_)
    show ∃ more, ((zaB s pls ps i).1.set i _).getD j [] = _
    by_cases hj : j = i
    ·subst hj
     by_cases hlt : j < (zaB s pls ps j).1.length
     ·obtain ⟨more, e⟩ := zoz ((zaB s pls ps j).1.getD j []) (dimL s j) (ps.getD j [])
      refine ⟨more, ?_⟩
      rw [<- e, List.getD_eq_getElem?_getD, List.getElem?_set_self hlt]; rfl
     ·exact ⟨[], by rw [List.set_eq_of_length_le (by omega), List.append_nil]⟩
    ·exact ⟨[], by rw [List.append_nil, List.getD_eq_getElem?_getD, List.getElem?_set_ne (fun e => hj e.symm), <- List.getD_eq_getElem?_getD]⟩
   ·rw [zdR h0 (Nat.le_succ i)]; exact ih
def zhH (pls : List PlR) (ps : List (List ByteArray)) (i : Nat) : List (List Int) := (List.range i).map fun j => zcD (outR (pls.getD j []) (ps.getD j []))
theorem zju (s : ze) (ds : List (List zH)) (ps : List (List ByteArray)) (hd : ∀ ns ∈ ds, DOk ns) (i : Nat) (hi : i <= ds.length) :
  (zM s ds ps i).1.map zT = (zaB s (ds.map zT) ps i).1 /\ (zM s ds ps i).2.2 = (zaB s (ds.map zT) ps i).2 /\
  ((zaB s (ds.map zT) ps i).2 = 0 -> (zM s ds ps i).2.1 = zhH (zaB s (ds.map zT) ps i).1 ps i /\ ∀ j, j < i -> ∀ m, 1 <= m -> m <= (ps.getD j []).length -> (ps.getD j []).take m ∈ (zaB s (ds.map zT) ps i).1.getD j []) := by
 induction i with
 | zero => exact ⟨rfl, rfl, fun _ => ⟨rfl, fun j hj => absurd hj (by omega)⟩⟩
 | succ i ih =>
   obtain ⟨a1, a2, a3⟩ := ih (by omega)
   by_cases h0 : (zaB s (ds.map zT) ps i).2 = 0
   ·have h0' : (zM s ds ps i).2.2 = 0 := a2.trans h0
    have hlen := (zbp s ds ps i).1
    have hdk : DOk ((zM s ds ps i).1.getD i []) := by
     rw [List.getD_eq_getElem?_getD, List.getElem?_eq_getElem (by omega)]
     exact zcS s ds ps i hd _ (List.getElem_mem (by omega))
    have hg : (zaB s (ds.map zT) ps i).1.getD i [] = zT ((zM s ds ps i).1.getD i []) := by rw [<- a1, zf0]
    have hl := (zg6 hdk (dimL s i) (ps.getD i [])).1
    have hil : i < (zaB s (ds.map zT) ps i).1.length := by rw [<- a1, List.length_map]; omega
    rw [zdv h0', zcT h0, hg]
    have e1 : (addR (zT ((zM s ds ps i).1.getD i [])) (dimL s i) (ps.getD i [])).1 = zT (zbS ((zM s ds ps i).1.getD i []) (dimL s i) (ps.getD i [])).1 := by rw [hl]
    have e2 : (addR (zT ((zM s ds ps i).1.getD i [])) (dimL s i) (ps.getD i [])).2.1 = (zbS ((zM s ds ps i).1.getD i []) (dimL s i) (ps.getD i [])).2.1 := by rw [hl]
    have e3 : (addR (zT ((zM s ds ps i).1.getD i [])) (dimL s i) (ps.getD i [])).2.2 = (zbS ((zM s ds ps i).1.getD i []) (dimL s i) (ps.getD i [])).2.2 := by rw [hl]
    refine ⟨?_, e3.symm, fun he => ?_⟩
    ·show ((zM s ds ps i).1.set i _).map zT = _
     rw [zhn, a1, e1]
    ·obtain ⟨g1, g2⟩ := znp he
     obtain ⟨b1, b2⟩ := a3 h0
     have hset : ∀ j, ((zaB s (ds.map zT) ps i).1.set i (addR (zT ((zM s ds ps i).1.getD i [])) (dimL s i) (ps.getD i [])).1).getD j [] = if j = i then (addR (zT ((zM s ds ps i).1.getD i [])) (dimL s i) (ps.getD i [])).1 else (zaB s (ds.map zT) ps i).1.getD j [] := fun j => by
      by_cases hj : j = i
      ·subst hj; rw [if_pos rfl, List.getD_eq_getElem?_getD, List.getElem?_set_self hil]; rfl
      ·rw [if_neg hj, List.getD_eq_getElem?_getD, List.getElem?_set_ne (fun e => hj e.symm), <- List.getD_eq_getElem?_getD]
     refine ⟨?_, fun j hj => ?_⟩
     ·show (zM s ds ps i).2.1 ++ [zcD _] = zhH _ ps (i + 1)
      unfold zhH
      rw [List.range_succ, List.map_append, b1]
      unfold zhH
      congr 1
      ·refine List.map_congr_left (fun j hj => ?_)
       have hj := List.mem_range.1 hj
       show _ = zcD (outR (((zaB s (ds.map zT) ps i).1.set i _).getD j []) _)
       rw [hset j, if_neg (by omega)]
      ·show [zcD _] = [zcD (outR (((zaB s (ds.map zT) ps i).1.set i _).getD i []) _)]
       rw [hset i, if_pos rfl, <- g1, e2]
     ·show ∀ m, _ -> _ -> _ ∈ ((zaB s (ds.map zT) ps i).1.set i _).getD j []
      rw [hset j]
      by_cases hji : j = i
      ·subst hji; rw [if_pos rfl]; exact g2
      ·rw [if_neg hji]; exact b2 j (by omega)
   ·have h0' : (zM s ds ps i).2.2 ≠ 0 := fun e => h0 (a2.symm.trans e)
    rw [zd6 h0' (Nat.le_succ i), zdR h0 (Nat.le_succ i)]
    exact ⟨a1, a2, fun h => absurd h h0⟩
theorem zly (s : ze) (pls : List PlR) (fs : List zq) (k : Nat) : ExtR pls (zS s pls fs k).1 := by
 induction k with
 | zero => exact ExtR.refl _
 | succ k ih =>
   by_cases h0 : (zS s pls fs k).2 = 0
   ·rw [zbK h0]; exact ih.trans (ziR _ _ _ _)
   ·rw [zcZ h0 (Nat.le_succ k)]; exact ih
theorem zjl (s : ze) (ds : List (List zH)) (fs : List zq) (hd : ∀ ns ∈ ds, DOk ns) (hf : ∀ f ∈ fs, f.1.length = ds.length) (k : Nat) (hk : k <= fs.length) :
  (zE s ds fs k).1.map zT = (zS s (ds.map zT) fs k).1 /\ (zE s ds fs k).2.2 = (zS s (ds.map zT) fs k).2 /\
  ((zS s (ds.map zT) fs k).2 = 0 -> (zE s ds fs k).2.1.length = k /\ ∀ j, j < k -> HasR (zS s (ds.map zT) fs k).1 (fs.getD j ([], [])) /\
    ∀ v, zfd v (fs.getD j ([], [])) -> keyF v ((zE s ds fs k).2.1.getD j []) = keyA (zS s (ds.map zT) fs k).1 v (fs.getD j ([], []))) := by
 induction k with
 | zero => exact ⟨rfl, rfl, fun _ => ⟨rfl, fun j hj => absurd hj (by omega)⟩⟩
 | succ k ih =>
   obtain ⟨a1, a2, a3⟩ := ih (by omega)
   by_cases h0 : (zS s (ds.map zT) fs k).2 = 0
   ·have h0' : (zE s ds fs k).2.2 = 0 := a2.trans h0
    obtain ⟨f1, f2, -⟩ := zdN s ds fs k hd
    have hfl : (fs.getD k ([], [])).1.length = ds.length := hf _ (by rw [List.getD_eq_getElem?_getD, List.getElem?_eq_getElem (by omega)]; exact List.getElem_mem _)
    obtain ⟨c1, c2, c3⟩ := zju s (zE s ds fs k).1 (fs.getD k ([], [])).1 f2 (fs.getD k ([], [])).1.length (by rw [hfl, f1]; exact Nat.le_refl _)
    rw [a1] at c1 c2 c3
    have hst := zbK (s := s) (pls := ds.map zT) h0
    rw [List.length_map, <- hfl] at hst
    rw [zcr h0', hst]
    refine ⟨c1, c2, fun he => ?_⟩
    obtain ⟨d1, d2⟩ := c3 he
    obtain ⟨b1, b2⟩ := a3 h0
    have hext := ziR s (zS s (ds.map zT) fs k).1 (fs.getD k ([], [])).1 (fs.getD k ([], [])).1.length
    refine ⟨by show ((zE s ds fs k).2.1 ++ [_]).length = k + 1; rw [List.length_append, b1]; rfl, fun j hj => ?_⟩
    rcases Nat.lt_or_ge j k with hlt | hge
    ·obtain ⟨e1, e2⟩ := b2 j hlt
     refine ⟨e1.ext hext, fun v hv => ?_⟩
     dsimp only
     rw [zcM, b1, if_neg (by omega), e2 v hv, zkC e1 hext hv]
    ·obtain rfl : j = k := by omega
     refine ⟨d2, fun v hv => ?_⟩
     dsimp only
     rw [zcM, b1, if_pos rfl, d1]
     unfold keyF keyJ keyA zhH
     refine List.map_congr_left (fun i hi => ?_)
     have hi := List.mem_range.1 hi
     by_cases hp : 0 < v.getD i 0
     ·have hle := hv.2 i hi
      have hil : i < (fs.getD j ([], [])).1.length := by rw [<- hv.1]; exact hi
      rw [if_pos hp, if_pos hp]
      have e : ((List.range (fs.getD j ([], [])).1.length).map fun j_1 => zcD (outR ((zaB s (zS s (ds.map zT) fs j).1 (fs.getD j ([], [])).1 (fs.getD j ([], [])).1.length).1.getD j_1 []) ((fs.getD j ([], [])).1.getD j_1 []))).getD i [] = zcD (outR ((zaB s (zS s (ds.map zT) fs j).1 (fs.getD j ([], [])).1 (fs.getD j ([], [])).1.length).1.getD i []) ((fs.getD j ([], [])).1.getD i [])) := by
       rw [List.getD_eq_getElem?_getD, List.getElem?_map, List.getElem?_range hil]; rfl
      rw [e]
      unfold zcD outR
      rw [List.getD_eq_getElem?_getD, List.getElem?_map, List.getElem?_map, List.getElem?_range (by omega)]
      show ((code _ ((((fs.getD j ([], [])).1.getD i []).take ((v.getD i 0 - 1).toNat + 1))) : Nat) : Int) = _
      rw [show (v.getD i 0 - 1).toNat + 1 = (v.getD i 0).toNat by omega]
     ·rw [if_neg hp, if_neg hp]
   ·have h0' : (zE s ds fs k).2.2 ≠ 0 := fun e => h0 (a2.symm.trans e)
    rw [zcU h0' (Nat.le_succ k), zcZ h0 (Nat.le_succ k)]
    exact ⟨a1, a2, fun h => absurd h h0⟩
theorem zeS {α : Type} {l : List α} {i : Nat} (h : i < l.length) (d : α) : l.getD i d = l[i] := by rw [List.getD_eq_getElem?_getD, List.getElem?_eq_getElem h]; rfl
theorem znS {α β : Type} {l : List α} {f : α -> β} {i : Nat} (h : i < l.length) (d : β) (d' : α) : (l.map f).getD i d = f (l.getD i d') := by
 rw [zeS (by simpa using h), zeS h, List.getElem_map]
theorem zjj (s : ze) (cs : List (List KC)) (codes : List (List (List Int))) (vs : List (List Int)) (hc : ∀ L ∈ cs, OkL s.1.length s.2.1.length L) (v : Nat) :
  ((zU s cs codes vs v).2 = 0 ↔ ∀ u, u < v -> (zb6 s.1.length s.2.1.length (cs.getD u []) (codes.map (keyF ((zh s).getD u []))) vs).2 = 0) /\
  ((zU s cs codes vs v).2 = 0 -> ∀ u, u < v -> u < cs.length -> (zU s cs codes vs v).1.getD u [] = (zb6 s.1.length s.2.1.length (cs.getD u []) (codes.map (keyF ((zh s).getD u []))) vs).1) := by
 induction v with
 | zero => exact ⟨⟨fun _ u hu => absurd hu (by omega), fun _ => rfl⟩, fun _ u hu => absurd hu (by omega)⟩
 | succ v ih =>
   obtain ⟨a1, a2⟩ := ih
   by_cases h0 : (zU s cs codes vs v).2 = 0
   ·obtain ⟨b1, -, -, b4⟩ := zdZ s cs codes vs v hc
    rw [zdq h0, b4 v (Nat.le_refl _)]
    by_cases hx : (zb6 s.1.length s.2.1.length (cs.getD v []) (codes.map (keyF ((zh s).getD v []))) vs).2 = 0
    ·rw [if_neg (fun h => h hx)]
     refine ⟨⟨fun _ u hu => ?_, fun _ => rfl⟩, fun _ u hu hl => ?_⟩
     ·rcases Nat.lt_or_ge u v with hlt | hge
      ·exact a1.1 h0 u hlt
      ·obtain rfl : u = v := by omega
       exact hx
     ·show ((zU s cs codes vs v).1.set v _).getD u [] = _
      by_cases e : u = v
      ·subst e
       rw [List.getD_eq_getElem?_getD, List.getElem?_set_self (by omega)]; rfl
      ·rw [List.getD_eq_getElem?_getD, List.getElem?_set_ne (fun e' => e e'.symm), <- List.getD_eq_getElem?_getD]
       exact a2 h0 u (by omega) hl
    ·rw [if_pos hx]
     exact ⟨⟨fun h => absurd h hx, fun h => absurd (h v (by omega)) hx⟩, fun h => absurd h hx⟩
   ·rw [zes h0 (Nat.le_succ v)]
    exact ⟨⟨fun h => absurd h h0, fun h => absurd (a1.2 (fun u hu => h u (by omega))) h0⟩, fun h => absurd h h0⟩
theorem zi9 (s : ze) (all : List zq) (v : Nat) : zbn s all v = 0 ↔ ∀ u, u < v -> (zan s.2.1.length all ((zh s).getD u []) all.length).2 = 0 := by
 induction v with
 | zero => exact ⟨fun _ u hu => absurd hu (by omega), fun _ => rfl⟩
 | succ v ih =>
   by_cases h0 : zbn s all v = 0
   ·rw [zfc h0]
    by_cases hx : (zan s.2.1.length all ((zh s).getD v []) all.length).2 = 0
    ·rw [if_neg (fun h => h hx)]
     refine ⟨fun _ u hu => ?_, fun _ => rfl⟩
     rcases Nat.lt_or_ge u v with hlt | hge
     ·exact ih.1 h0 u hlt
     ·obtain rfl : u = v := by omega
      exact hx
    ·rw [if_pos hx]
     exact ⟨fun h => absurd h (by decide), fun h => absurd (h v (by omega)) hx⟩
   ·rw [zgr h0 (Nat.le_succ v)]
    exact ⟨fun h => absurd h h0, fun h => absurd (ih.2 (fun u hu => h u (by omega))) h0⟩
theorem zjt (fs : List zq) : fs = (List.range fs.length).map fun j => fs.getD j ([], []) := by
 refine List.ext_getElem (by simp) (fun i h1 h2 => ?_)
 rw [List.getElem_map, List.getElem_range, List.getD_eq_getElem?_getD, List.getElem?_eq_getElem h1]; rfl
theorem zq3 {κ : zq -> List Int} {ks : List (List Int)} {fs : List zq} (hl : ks.length = fs.length) (h : ∀ j, j < fs.length -> ks.getD j [] = κ (fs.getD j ([], []))) (k : List Int) : zbr ks (fs.map Prod.snd) k = zaD κ fs k := by
 have e : zaD κ fs k = zaD κ ((List.range fs.length).map fun j => fs.getD j ([], [])) k := congrArg (fun l => zaD κ l k) (zjt fs)
 rw [e]
 unfold zbr zaD
 rw [List.filter_map, List.map_map, hl]
 have e2 : (List.range fs.length).filter (fun j => decide (ks.getD j [] = k)) = (List.range fs.length).filter ((fun f => decide (κ f = k)) ∘ fun j => fs.getD j ([], [])) := List.filter_congr (fun j hj => by
  show decide _ = decide _
  rw [h j (List.mem_range.1 hj)])
 rw [e2]
 refine List.map_congr_left (fun j hj => ?_)
 have hj := List.mem_range.1 (List.mem_filter.1 hj).1
 show (fs.map Prod.snd).getD j [] = (fs.getD j ([], [])).2
 rw [List.getD_eq_getElem?_getD, List.getElem?_map, List.getD_eq_getElem?_getD, List.getElem?_eq_getElem hj]; rfl
theorem zcd {s : ze} (hm : mayS s = true) {f : zq} (h : zaC s f = true) {u : Nat} (hu : u < (zh s).length) : zfd ((zh s).getD u []) f := by
 obtain ⟨v1, v2⟩ := zjr hm hu
 obtain ⟨f1, -⟩ := zcK h
 refine ⟨by rw [v1, f1], fun i hi => ?_⟩
 have h2 := v2 i (by omega)
 unfold zaC at h
 rw [Bool.and_eq_true] at h
 have := of_decide_eq_true (List.all_eq_true.1 h.2 i (List.mem_range.2 (by omega)))
 rw [this]; exact h2
theorem zdB {s : ze} {f : zq} (h : zaC s f = true) : zaU s.2.1.length f.2 = true := by
 obtain ⟨-, f2⟩ := zcK h
 unfold zaC at h
 rw [Bool.and_eq_true, Bool.and_eq_true, Bool.and_eq_true] at h
 obtain ⟨-, -, -, p4⟩ := zdH h.1.1.1
 refine zcH.2 ⟨by omega, fun x hx => ?_⟩
 have := p4 x hx
 unfold valB at this
 simp only [Bool.and_eq_true, decide_eq_true_eq] at this
 unfold VAL
 omega
theorem zo7 {pls : List PlR} (h : ∀ pl ∈ pls, pl.length <= 40) (v : List Int) (f : zq) : okK v.length (keyA pls v f) := by
 refine ⟨by simp [keyA], fun x hx => ?_⟩
 unfold keyA at hx
 obtain ⟨i, hi, rfl⟩ := List.mem_map.1 hx
 split
 ·have h1 := zen (pls.getD i []) ((f.1.getD i []).take (v.getD i 0).toNat)
  have h2 := zhQ h i
  omega
 ·omega
structure Agr (s : ze) (l : LatX) (Ls : List zq) (pls : List PlR) : Prop where
 sch : l.s = s
 ok : zfi l
 p : pls = l.ds.map zT
 n : l.n = (Ls.length : Int)
 fit : ∀ f ∈ Ls, zaC s f = true
 has : ∀ f ∈ Ls, HasR pls f
 cell : ∀ u, u < (zh s).length -> ∀ k, getK (l.cs.getD u []) k = if zaD (keyA pls ((zh s).getD u [])) Ls k = [] then none else some (zi s.2.1.length (zaD (keyA pls ((zh s).getD u [])) Ls k))
 may : ∀ u, u < (zh s).length -> ∀ k, zaD (keyA pls ((zh s).getD u [])) Ls k ≠ [] -> MayP (zi s.2.1.length (zaD (keyA pls ((zh s).getD u [])) Ls k))
theorem zef {s : ze} (hm : mayS s = true) {Ls : List zq} {pls : List PlR} (hfit : ∀ f ∈ Ls, zaC s f = true) (hhas : ∀ f ∈ Ls, HasR pls f) {u : Nat} (hu : u < (zh s).length) {f : zq} (hf : f ∈ Ls) :
  zaD (zeI ((zh s).getD u [])) Ls (zeI ((zh s).getD u []) f) = zaD (keyA pls ((zh s).getD u [])) Ls (keyA pls ((zh s).getD u []) f) :=
 zfQ (fun g hg => (zhW (hhas g hg) (hhas f hf) (zcd hm (hfit g hg) hu) (zcd hm (hfit f hf) hu)).symm)
theorem Agr.rows {s : ze} (hm : mayS s = true) {l : LatX} {Ls : List zq} {pls : List PlR} (h : Agr s l Ls pls) {u : Nat} (hu : u < (zh s).length) :
  (zan s.2.1.length Ls ((zh s).getD u []) Ls.length).2 = 0 /\ (zan s.2.1.length Ls ((zh s).getD u []) Ls.length).1.length = (l.cs.getD u []).length := by
 obtain ⟨-, ⟨-, hm2⟩, -⟩ := zaz hm
 obtain ⟨r1, r2⟩ := zgq hm2 (fun f hf => zdB (h.fit f hf)) ((zh s).getD u []) Ls.length (Nat.le_refl _)
 have hat : ∀ j, j < Ls.length -> Ls.getD j ([], []) ∈ Ls := fun j hj => by rw [List.getD_eq_getElem?_getD, List.getElem?_eq_getElem hj]; exact List.getElem_mem _
 have h0 := r1.2 (fun j hj => by
  rw [zcs, zef hm h.fit h.has hu (hat j hj)]
  exact h.may u hu _ (zc1.2 ⟨_, hat j hj, rfl⟩))
 refine ⟨h0, ?_⟩
 have hul : u < l.cs.length := by rw [h.ok.clen, h.sch]; exact hu
 have hOk := h.ok.cok (l.cs.getD u []) (by rw [List.getD_eq_getElem?_getD, List.getElem?_eq_getElem hul]; exact List.getElem_mem _)
 have el : (l.cs.getD u []).length = ((l.cs.getD u []).map Prod.fst).length := (List.length_map ..).symm
 rw [(r2 h0).2, el]
 rw [zk5 (fun j => keyA pls ((zh s).getD u []) (Ls.getD j ([], []))) Ls.length _ (zi0 hOk.sort) (fun k => ?_)]
 ·refine zlT (fun i j hi hj => ?_)
  rw [zcs, zcs]
  exact (zhW (h.has _ (hat i hi)) (h.has _ (hat j hj)) (zcd hm (h.fit _ (hat i hi)) hu) (zcd hm (h.fit _ (hat j hj)) hu)).symm
 ·rw [zoe hOk.sort, h.cell u hu k]
  refine ⟨fun hk => ?_, fun ⟨j, hj, e⟩ => ?_⟩
  ·by_cases hv : zaD (keyA pls ((zh s).getD u [])) Ls k = []
   ·rw [if_pos hv] at hk; exact absurd rfl hk
   ·obtain ⟨f, hf, e⟩ := zc1.1 hv
    obtain ⟨j, hj, rfl⟩ := List.mem_iff_getElem.1 hf
    exact ⟨j, hj, by rw [zeS hj]; exact e⟩
  ·rw [if_neg (zc1.2 ⟨_, hat j hj, e⟩)]; simp
theorem Agr.zero {s : ze} (hm : mayS s = true) : Agr s (lat0 s) [] (List.replicate s.1.length []) where
 sch := rfl
 ok := zhl hm
 p := by
  show _ = (s.1.map (fun _ => [])).map zT
  rw [List.map_map]
  refine (List.eq_replicate_iff.2 ⟨by simp, fun b hb => ?_⟩).symm
  obtain ⟨d, -, rfl⟩ := List.mem_map.1 hb
  rfl
 n := rfl
 fit := fun f hf => by cases hf
 has := fun f hf => by cases hf
 cell := fun u hu k => by
  have : (lat0 s).cs.getD u [] = [] := List.eq_nil_of_length_eq_zero (zkR s u)
  rw [this]; rfl
 may := fun u hu k hk => absurd rfl hk
theorem Agr.step {s : ze} (hm : mayS s = true) {l : LatX} {Ls : List zq} {pls : List PlR} (h : Agr s l Ls pls) (fs : List zq) (hLn : Ls.length <= 500) : Agr s (zao l fs).1 (zbo s Ls pls fs).1.1 (zbo s Ls pls fs).1.2 := by
 obtain ⟨-, ⟨hm1, hm2⟩, -⟩ := zaz hm
 have hok' := (zdP h.ok fs).1
 have hs' := (zdP h.ok fs).2.1
 unfold zao at hok' hs' ⊢
 unfold zbo
 rw [h.sch] at hok' hs' ⊢
 by_cases h1 : zbe s fs ≠ 0
 ·rw [if_pos h1, if_pos h1]; exact h
 rw [if_neg h1] at hok' hs' ⊢
 rw [if_neg h1]
 obtain ⟨-, b2, b3, b4⟩ := zeo (by simpa using h1)
 have hdl : l.ds.length = s.1.length := by rw [h.ok.dlen, h.sch]
 obtain ⟨d1, d2, d3⟩ := zjl s l.ds fs h.ok.dok (fun f hf => by rw [(zcK (b4 f hf)).1, hdl]) fs.length (Nat.le_refl _)
 rw [<- h.p] at d1 d2 d3
 simp only at hok' hs' ⊢
 by_cases h2 : (zS s pls fs fs.length).2 ≠ 0
 ·rw [if_pos (by rw [d2]; exact h2), if_pos h2]; exact h
 have h2' : (zS s pls fs fs.length).2 = 0 := Classical.byContradiction h2
 rw [if_neg (by rw [d2]; exact h2)] at hok' hs' ⊢
 rw [if_neg h2]
 obtain ⟨e1, e2⟩ := d3 h2'
 have hn : ¬ NUM < l.n + (fs.length : Int) := by rw [h.n]; unfold NUM; omega
 rw [if_neg hn] at hok' hs' ⊢
 have hext := zly s pls fs fs.length
 have hp40 := (zcC s pls fs fs.length (fun pl hpl => by
  rw [h.p] at hpl
  obtain ⟨ns, hns, rfl⟩ := List.mem_map.1 hpl
  rw [zbJ]; exact (h.ok.dok ns hns).len)).2
 generalize hP : (zS s pls fs fs.length).1 = P at *
 have hat : ∀ j, j < fs.length -> fs.getD j ([], []) ∈ fs := fun j hj => by rw [List.getD_eq_getElem?_getD, List.getElem?_eq_getElem hj]; exact List.getElem_mem _
 have hasA : ∀ f ∈ Ls ++ fs, HasR P f := fun f hf => by
  rcases List.mem_append.1 hf with hf | hf
  ·exact (h.has f hf).ext hext
  ·obtain ⟨j, hj, rfl⟩ := List.mem_iff_getElem.1 hf
   have := (e2 j hj).1
   rwa [List.getD_eq_getElem?_getD, List.getElem?_eq_getElem hj] at this
 have fitA : ∀ f ∈ Ls ++ fs, zaC s f = true := fun f hf => by
  rcases List.mem_append.1 hf with hf | hf
  ·exact h.fit f hf
  ·exact b4 f hf
 have hcl : l.cs.length = (zh s).length := by rw [h.ok.clen, h.sch]
 have hOk : ∀ L ∈ l.cs, OkL s.1.length s.2.1.length L := fun L hL => by have := h.ok.cok L hL; rwa [h.sch] at this
 have hold : ∀ u, u < (zh s).length -> ∀ k, zaD (keyA P ((zh s).getD u [])) Ls k = zaD (keyA pls ((zh s).getD u [])) Ls k := fun u hu k => zfQ (fun f hf => by rw [zkC (h.has f hf) hext (zcd hm (h.fit f hf) hu)])
 have hks : ∀ u, u < (zh s).length -> ∀ j, j < fs.length -> ((zE s l.ds fs fs.length).2.1.map (keyF ((zh s).getD u []))).getD j [] = keyA P ((zh s).getD u []) (fs.getD j ([], [])) := fun u hu j hj => by
  rw [<- (e2 j hj).2 _ (zcd hm (b4 _ (hat j hj)) hu), znS (by omega) [] []]
 have hkl : ∀ u, ((zE s l.ds fs fs.length).2.1.map (keyF ((zh s).getD u []))).length = fs.length := fun u => by rw [List.length_map, e1]
 have hfill : ∀ u, u < (zh s).length -> zek s.1.length s.2.1.length (l.cs.getD u []) (zaD (keyA P ((zh s).getD u [])) Ls) ((zE s l.ds fs fs.length).2.1.map (keyF ((zh s).getD u []))) (fs.map Prod.snd) := fun u hu => by
  refine ⟨hm2, hOk _ (by rw [List.getD_eq_getElem?_getD, List.getElem?_eq_getElem (by omega)]; exact List.getElem_mem _), fun k => by rw [hold u hu k]; exact h.cell u hu k, fun k v hv => ?_, fun k hk => ?_, fun k => ?_, by rw [hkl]; omega, fun j hj => ?_, fun j hj => ?_⟩
  ·obtain ⟨f, hf, rfl⟩ := zir hv
   exact zdB (h.fit f hf)
  ·rw [hold u hu k] at hk ⊢; exact h.may u hu k hk
  ·exact Nat.le_trans (zoj _ _ _) (by omega)
  ·rw [hkl] at hj
   rw [hks u hu j hj, <- (zjr hm hu).1]
   exact zo7 hp40 _ _
  ·rw [hkl] at hj
   rw [List.getD_eq_getElem?_getD, List.getElem?_map, List.getElem?_eq_getElem hj]
   exact zdB (b4 _ (List.getElem_mem hj))
 have htot : ∀ u, u < (zh s).length -> ∀ k, zaD (keyA P ((zh s).getD u [])) Ls k ++ zbr ((zE s l.ds fs fs.length).2.1.map (keyF ((zh s).getD u []))) (fs.map Prod.snd) k = zaD (keyA P ((zh s).getD u [])) (Ls ++ fs) k := fun u hu k => by
  rw [zq3 (hkl u) (hks u hu), zcE]
 have herr : ∀ u, u < (zh s).length -> ((zb6 s.1.length s.2.1.length (l.cs.getD u []) ((zE s l.ds fs fs.length).2.1.map (keyF ((zh s).getD u []))) (fs.map Prod.snd)).2 = 0 ↔ (zan s.2.1.length (Ls ++ fs) ((zh s).getD u []) (Ls ++ fs).length).2 = 0) := fun u hu => by
  rw [(hfill u hu).fill2.1, (zgq hm2 (fun f hf => zdB (fitA f hf)) ((zh s).getD u []) (Ls ++ fs).length (Nat.le_refl _)).1]
  have hatA : ∀ j, j < (Ls ++ fs).length -> (Ls ++ fs).getD j ([], []) ∈ Ls ++ fs := fun j hj => by rw [List.getD_eq_getElem?_getD, List.getElem?_eq_getElem hj]; exact List.getElem_mem _
  refine ⟨fun hx j hj => ?_, fun hx j hj => ?_⟩
  ·rw [zcs, zef hm fitA hasA hu (hatA j hj)]
   have hne : zaD (keyA P ((zh s).getD u [])) (Ls ++ fs) (keyA P ((zh s).getD u []) ((Ls ++ fs).getD j ([], []))) ≠ [] := zc1.2 ⟨_, hatA j hj, rfl⟩
   generalize keyA P ((zh s).getD u []) ((Ls ++ fs).getD j ([], [])) = k at *
   by_cases hk : ∃ i, i < fs.length /\ keyA P ((zh s).getD u []) (fs.getD i ([], [])) = k
   ·obtain ⟨i, hi, rfl⟩ := hk
    have := hx i (by rw [hkl]; exact hi)
    rwa [hks u hu i hi, htot u hu] at this
   ·have hn : zaD (keyA P ((zh s).getD u [])) fs k = [] := by
     cases hx : zaD (keyA P ((zh s).getD u [])) fs k with
     | nil => rfl
     | cons v vs =>
       obtain ⟨f, hf, e⟩ := zc1.1 (show zaD (keyA P ((zh s).getD u [])) fs k ≠ [] by rw [hx]; simp)
       obtain ⟨i, hi, rfl⟩ := List.mem_iff_getElem.1 hf
       exact absurd ⟨i, hi, by rw [zeS hi]; exact e⟩ hk
    rw [zcE, hn, List.append_nil, hold u hu k] at hne ⊢
    exact h.may u hu k hne
  ·rw [hkl] at hj
   have hmem : fs.getD j ([], []) ∈ Ls ++ fs := List.mem_append_right _ (hat j hj)
   rw [hks u hu j hj, htot u hu, <- zef hm fitA hasA hu hmem]
   have := hx (Ls.length + j) (by rw [List.length_append]; omega)
   rw [zcs] at this
   rwa [show (Ls ++ fs).getD (Ls.length + j) ([], []) = fs.getD j ([], []) by rw [List.getD_eq_getElem?_getD, List.getElem?_append_right (by omega), Nat.add_sub_cancel_left, <- List.getD_eq_getElem?_getD]] at this
 obtain ⟨w1, w2⟩ := zjj s l.cs (zE s l.ds fs fs.length).2.1 (fs.map Prod.snd) hOk (zh s).length
 have hvv : (zU s l.cs (zE s l.ds fs fs.length).2.1 (fs.map Prod.snd) (zh s).length).2 = 0 ↔ zbn s (Ls ++ fs) (zh s).length = 0 := by
  rw [w1, zi9]
  exact ⟨fun hx u hu => (herr u hu).1 (hx u hu), fun hx u hu => (herr u hu).2 (hx u hu)⟩
 by_cases h3 : zbn s (Ls ++ fs) (zh s).length = 0
 ·have h3' := hvv.2 h3
  rw [if_neg (fun h => h h3')] at hok' hs' ⊢
  rw [if_neg (fun h => h h3)]
  have hf0 := w1.1 h3'
  have hcell : ∀ u, u < (zh s).length -> ∀ k, getK ((zU s l.cs (zE s l.ds fs fs.length).2.1 (fs.map Prod.snd) (zh s).length).1.getD u []) k = if zaD (keyA P ((zh s).getD u [])) (Ls ++ fs) k = [] then none else some (zi s.2.1.length (zaD (keyA P ((zh s).getD u [])) (Ls ++ fs) k)) := fun u hu k => by
   rw [w2 h3' u hu (by omega), (hfill u hu).fill2.2 (hf0 u hu) k, htot u hu k]
  refine ⟨rfl, hok', d1.symm, ?_, fitA, hasA, hcell, fun u hu k hk => ?_⟩
  ·show l.n + (fs.length : Int) = ((Ls ++ fs).length : Int)
   rw [List.length_append, h.n]; omega
  ·have hul : u < (zU s l.cs (zE s l.ds fs fs.length).2.1 (fs.map Prod.snd) (zh s).length).1.length := by rw [(zdZ s l.cs _ _ _ hOk).1]; omega
   have hO := hok'.cok ((zU s l.cs (zE s l.ds fs fs.length).2.1 (fs.map Prod.snd) (zh s).length).1.getD u []) (by show _ ∈ (zU s l.cs (zE s l.ds fs fs.length).2.1 (fs.map Prod.snd) (zh s).length).1; rw [List.getD_eq_getElem?_getD, List.getElem?_eq_getElem hul]; exact List.getElem_mem _)
   have hc := hcell u hu k
   rw [if_neg hk] at hc
   exact hO.may _ (zbh hc)
 ·have h3' : (zU s l.cs (zE s l.ds fs fs.length).2.1 (fs.map Prod.snd) (zh s).length).2 ≠ 0 := fun e => h3 (hvv.1 e)
  rw [if_pos h3', if_pos h3]; exact h
theorem zql {s : ze} (hm : mayS s = true) (bs : List (List zq)) (k : Nat) (hk : k <= 8) : Agr s (latK s bs k) (refK s bs k).1 (refK s bs k).2 := by
 induction k with
 | zero => exact Agr.zero hm
 | succ k ih => exact (ih (by omega)).step hm (bs.getD k []) (by have := (zjL s bs k).2; omega)
end Go.Proofs.YtgoapnkdcfcjgaaGreat
