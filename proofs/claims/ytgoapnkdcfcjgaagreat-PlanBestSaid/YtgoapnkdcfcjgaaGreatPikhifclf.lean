/- 4 texts of this claim, in build order. -/
import Derived.Test.YtgoapnkdcfcjgaaGreatPfeabeako
import Derived.Test.YtgoapnkdcfcjgaaGreatPmlmbikan
import Derived.Test.YtgoapnkdcfcjgaaGreatPnmiognoo
import Derived.Test.YtgoapnkdcfcjgaaGreatPeipclmce
namespace Go.Proofs.YtgoapnkdcfcjgaaGreat
open Go.ChangeShapes Go.WideShapes Go.ChangeAt Go.RowKit Go.Maps Go.Sort
set_option linter.unusedVariables false
set_option linter.unusedSimpArgs false
theorem info_key : (Tryz.prog.info? 149).map (fun i => (i.zero, i.size, i.bytes)) = some (some (.agg #[.int .i64 0, .int .i64 0, .int .i64 0]), 3, 24) := by kernel_rfl
def OrdRel (D : DataW Value) (S : List T3) (m n : Nat) (w : World) (l : Value) (wr : World) : Prop :=
 ∃ (V : List T3) (left : Lit → Bool) (cnt : Nat), wr.ownsRow (w.heap.size + 1) 149 3 l V.length (flat3 V) ∧ wr.ranges Tryz.prog 149 heldR m w.heap.size n D left cnt ∧ V.Nodup ∧ (∀ x ∈ V, x ∈ S) ∧
  (∀ x ∈ S, left (kl3 x) = !decide (x ∈ V)) ∧ (∀ kl, left kl = true → ∃ x ∈ S, kl = kl3 x) ∧ w.heap.size < wr.heap.size ∧ Below w.heap.size w wr
def OrdP (L : List KC) (w : World) (e : Ending) (w' : World) : Prop := ∃ v, e = .returned v ∧ KeysAt w' v L ∧ Below w.heap.size w w'
theorem nodup_le {V S : List T3} (h : V.Nodup) (hs : ∀ x ∈ V, x ∈ S) : V.length ≤ S.length := by
 induction V generalizing S with
 | nil => simp
 | cons x V ih =>
   obtain ⟨h1, h2⟩ := List.nodup_cons.1 h
   have hx := hs x List.mem_cons_self
   have := ih (S := S.erase x) h2 (fun y hy => (List.mem_erase_of_ne (fun e => by subst e; exact h1 hy)).2 (hs y (List.mem_cons_of_mem _ hy)))
   rw [List.length_erase_of_mem hx] at this
   have := List.length_pos_of_mem hx
   simp; omega
theorem sameKey_self {a : Lit} (h : WideAt.IsKeyLit a) : a.sameKey a = true := by
 cases a <;> first | (simp [Lit.sameKey]; done) | exact absurd h (by simp [WideAt.IsKeyLit])
theorem enc3_one (x : T3) : ∀ u ∈ enc3 x, u.oneCell' = true := by
 intro u hu
 simp [enc3] at hu
 rcases hu with rfl | rfl | rfl <;> rfl
theorem cells_at3 (w : World) (vs : Array Value) (t : TypeId) {N : Nat} (hN : w.heap.size = N) : ∀ j u, vs.toList[j]? = some u → (w.alloc (.cells vs t)).cell? ((⟨N, 0, none⟩ : Addr).add j) = some u := by
 subst hN
 intro j u hu
 have e : (⟨w.heap.size, 0, none⟩ : Addr).add j = ⟨w.heap.size, j, none⟩ := by unfold Addr.add; split <;> simp_all
 rw [e, World.cell?_alloc_at _ _ _ _ rfl]
 rw [Array.getElem?_toList] at hu
 exact hu
set_option maxRecDepth 100000 in
set_option maxHeartbeats 3200000 in
theorem order_any (D : Nat → Prop) (p m W M : Nat) (L : List KC) (w : World) (hc : CubW w D p m W M L) (hs : OkL W M L) (hW : W ≤ 3) (hL : L.length ≤ 70000) :
  Calls Tryz.prog 112 #[.pointer (some ⟨p, 0, none⟩)] w (OrdP L w) := by
 obtain ⟨i0, hi, hz0, hz1, hz2⟩ := info_parts info_key
 have hpl := hc.2.2.2.1 p hc.1
 have hml := hc.2.2.2.1 m hc.2.1
 have y2 := hc.2.2.2.2.2.2.1
 obtain ⟨Dm, h1, h2, h3, h4, h5⟩ := hc.2.2.2.2.2.2.2
 have hS := keys3_sorted hs hW
 have hmem : ∀ kl, Maps.has Dm kl = true → ∃ x ∈ keys3 L, kl = kl3 x := fun kl h => by
  obtain ⟨x, hx, rfl⟩ := h5 kl h
  exact ⟨t3 x.1, List.mem_map.2 ⟨x, hx, rfl⟩, rfl⟩
 have hall : ∀ x ∈ keys3 L, Maps.has Dm (kl3 x) = true := fun x hx => by
  obtain ⟨y, hy, rfl⟩ := List.mem_map.1 hx
  rw [kl3_t3, h3 _ (hs.key y hy), getK_of_mem hs.sort hy]; rfl
 have hkey : ∀ x ∈ keys3 L, keyOf Tryz.prog 149 (keyV x.1 x.2.1 x.2.2) = some (kl3 x) := fun x hx => by
  obtain ⟨y, hy, rfl⟩ := List.mem_map.1 hx
  exact key_of_k (hs.key y hy)
 have hlen : (keys3 L).length = L.length := by simp [keys3]
 have HS := hid hS; have HMEM := hid hmem; have HALL := hid hall; have HKEY := hid hkey; have HLEN := hid hlen
 generalize hks : keys3 L = S at *
 have HKS := hid hks
 clear hks
 clear hS hmem hall hkey hlen hs hc h2 h3 h4 h5
 go_enter Tryz.func112, Tryz.ntmps112
 go_wp2_with (first
  | (at_range; refine wpList_range_own _ rfl _ 102 rfl 149 125 key_law Tryz.underlying102 _ m L.length Dm rfl h1 ?_; intro w0 hrg0 hg0 hs0)
  | go_in)
 go_frame
 go_loopw [3] (fun l wr => OrdRel Dm S m L.length w l wr) (fun _ wr => wr.rangeLeft m w.heap.size)
 case atStart =>
  exact ⟨[], _, _, World.ownsRow_nil _ _ _ _, hrg0, List.nodup_nil, (fun x hx => by cases hx), (fun x hx => by rw [HALL.out x hx]; rfl), HMEM.out, by omega, (Below.refl _ _).grown hg0 (Nat.le_refl _) (fun j hj => by cases hj)⟩
 case round =>
  obtain ⟨V, left, cnt, hown, hrg, hnd, hin, hlf, hlk, hwl, hbl⟩ := hrel
  go_wp2_with (first
   | (at_next; refine wpList_next_ranges _ rfl _ rfl 149 key_law heldR (fun x : T3 => keyV x.1 x.2.1 x.2.2) (fun v : Value => v) (fun key kl h => by obtain ⟨a, b, c, e⟩ := key_inv h; exact ⟨(a, b, c), e⟩) (fun v y h => ⟨v, rfl⟩) m w.heap.size L.length Dm left cnt rfl hrg ?_ ?_)
   | go_in)
  ·intro hc0 hl0
   have hall : ∀ x, x ∈ V ↔ x ∈ S := fun x => ⟨hin x, fun hx => by
    have := hlf x hx
    rw [hl0] at this
    simpa using this⟩
   have hsn : S.Nodup := HS.out.imp (fun {a b} h e => by subst e; rw [lex_irrefl] at h; cases h)
   have hvl : V.length = L.length := by
    have a1 := nodup_le hnd hin
    have a2 := nodup_le hsn (fun x hx => (hall x).2 hx)
    have := HLEN.out
    omega
   have hsl := hbl.size
   rcases hown.2 with ⟨rfl, h0⟩ | ⟨g, cap, cur, rfl, hbg, hgc, hnc, hcm, -, -⟩
   ·have hL0 : L.length = 0 := by omega
    have HBL := hid hbl
    have HSN := hid (fun W => sort_none W)
    clear hown hrg hnd hin hlf hlk hl0 hall hsn hbl
    go_wp2_with fail
    refine (HSN.out _).mono ?_
    rintro e w1 ⟨rfl, rfl⟩
    go_wp2
    go_ret
    exact ⟨_, rfl, ⟨none, 0, by rw [hL0]; rfl, by omega, by unfold maxLen; omega, fun h => by omega⟩, HBL.out⟩
   ·have hgl := (hown.lt g rfl).2
    have hsr := hid (sort_any g cap V.length V S wr (holds3 hown rfl) hgl rfl (by omega) HS.out hnd hall)
    have HBL := hid hbl
    rw [hvl] at hsr hnc
    rw [hvl]
    clear hown hrg hnd hin hlf hlk hl0 hall hsn hbl
    go_wp2_with fail
    refine hsr.out.mono ?_
    rintro e w1 ⟨rfl, hH, hu⟩
    have hsu := hu.size
    rw [← HKS.out] at hH
    have HH := hid hH; have HU := hid hu
    clear hH hu
    go_wp2
    go_ret
    exact ⟨_, rfl, keys_at HH.out (by omega) hnc hcm, HBL.out.trans (HU.out.below (by omega) hgl)⟩
  ·intro x1 x2 x3 c kl yd yp w1 cnt1 hkl hlx hRv hat hrg1 hlt hg1 hs1 hen
   obtain ⟨z, hz, rfl⟩ := hlk kl hlx
   have hxz : (x1, x2, x3) = z := by
    have e := key_law.inj hkl (HKEY.out z hz)
    unfold keyV at e
    simp only [Value.agg.injEq, Array.mk.injEq, List.cons.injEq, Value.int.injEq, true_and, and_true] at e
    exact Prod.ext e.1 (Prod.ext e.2.1 e.2.2)
   subst hxz
   unfold keyV at hen
   have hxl := hlf _ hz
   rw [hlx] at hxl
   have hxv : (x1, x2, x3) ∉ V := by simpa using hxl.symm
   have hnd' : (V ++ [(x1, x2, x3)]).Nodup := by
    rw [List.nodup_append]
    exact ⟨hnd, by simp, fun a ha b hb => by simp at hb; subst hb; exact fun e => hxv (e ▸ ha)⟩
   have hin' : ∀ x ∈ V ++ [(x1, x2, x3)], x ∈ S := fun x hx => by
    rcases List.mem_append.1 hx with h | h
    ·exact hin x h
    ·simp at h; rw [h]; exact hz
   have hvn : V.length + 1 ≤ L.length := by
    have := nodup_le hnd' hin'
    rw [List.length_append, List.length_singleton] at this
    have := HLEN.out
    omega
   have hlf' : ∀ x ∈ S, (left (kl3 x) && !(kl3 x).sameKey (kl3 (x1, x2, x3))) = !decide (x ∈ V ++ [(x1, x2, x3)]) := fun x hx => by
    rw [hlf x hx]
    by_cases e : x = (x1, x2, x3)
    ·subst e
     rw [show (kl3 (x1, x2, x3)).sameKey (kl3 (x1, x2, x3)) = true from sameKey_self (key_law.key hkl)]
     simp
    ·have hne : kl3 x ≠ kl3 (x1, x2, x3) := fun h => e (by
      have e2 := key_law.inj (HKEY.out x hx) (by rw [h]; exact HKEY.out _ hz)
      unfold keyV at e2
      simp only [Value.agg.injEq, Array.mk.injEq, List.cons.injEq, Value.int.injEq, true_and, and_true] at e2
      exact Prod.ext e2.1 (Prod.ext e2.2.1 e2.2.2))
     rw [Maps.sameKey_ne hne]
     simp [e]
   have hlk' : ∀ kl, (left kl && !kl.sameKey (kl3 (x1, x2, x3))) = true → ∃ x ∈ S, kl = kl3 x := fun kl h => hlk kl (by simp at h; exact h.1)
   have hown1 := own_kept hown (fun g hg => hg1.block g (hown.lt g hg).2 (fun e => by injection e with e; have := (hown.lt g hg).1; omega))
   have hb1 : Below w.heap.size w w1 := hbl.grown hg1 hbl.size (fun j hj => by cases hj; exact Nat.le_refl _)
   have hownA := own_kept hown1 (fun g hg => (((bl1 w1 (.cells #[.int .i64 x1, .int .i64 x2, .int .i64 x3] 149)).trans ((bl1 _ (.cells #[.int .i64 x1, .int .i64 x2, .int .i64 x3] 149)).mono (by simp))).block g (hown1.lt g hg).2))
   have hrgA := (hrg1.alloc (.cells #[.int .i64 x1, .int .i64 x2, .int .i64 x3] 149)).alloc (.cells #[.int .i64 x1, .int .i64 x2, .int .i64 x3] 149)
   have HLF := hid hlf'; have HLK := hid hlk'; have HND := hid hnd'; have HIN := hid hin'; have HOA := hid hownA; have HRA := hid hrgA; have HB1 := hid hb1; have HRG := hid hrg; have HML := hid (show m < w.heap.size from hml)
   clear hlf' hlk' hnd' hin' hownA hrgA hb1 hlf hlk hnd hin hown hown1 hrg hrg1 hxl hxv hbl hz
   go_wp2_with (at_builtin; refine stop_here ?_)
   refine go_on ?_
   refine app_own_at (.tmp 15) (.tmp 17) 166 166 rfl rfl (w.heap.size + 1) 149 i0 (.agg #[.int .i64 0, .int .i64 0, .int .i64 0]) 3 24 Tryz.underlying166 hi hz0 hz1 hz2 rfl (by decide) _ _ _ rfl HOA.out (.slice (some ⟨wr.heap.size + 1, 0, none⟩) 1 1) 1 (enc3 (x1, x2, x3)) rfl (Src.ofSlice _ Tryz.underlying166 _ 1 1 _ rfl (cells_at3 _ _ _ (by simp [hs1])) (enc3_one _)) (by simp only [maxLen]; omega) (by omega) (by simp only [World.size_alloc]; omega) ?_
   intro v2 w2 hown2 hg2 hb2 hat2
   rw [← flat3_snoc] at hown2
   have hrg2 := HRA.out.kept hg2 (fun e => by have := (HOA.out.lt m e.symm).1; have := HML.out; omega) (fun e => by have := (HOA.out.lt _ e.symm).1; omega)
   have HO2 := hid hown2; have HR2 := hid hrg2
   have HB2 := hid (HB1.out.trans ((((bl1 w1 (.cells #[.int .i64 x1, .int .i64 x2, .int .i64 x3] 149)).trans ((bl1 _ (.cells #[.int .i64 x1, .int .i64 x2, .int .i64 x3] 149)).mono (by simp))).mono (by omega)).trans (hb2.mono (by omega))))
   have hs2 := HB2.out.size
   have hs2' : w.heap.size < w2.heap.size := by have := hg2.size; simp at this; omega
   clear hown2 hrg2 hg2 hb2 hat2
   go_wp2
   go_roundw
   case rel => exact ⟨V ++ [(x1, x2, x3)], _, cnt1, by rw [List.length_append, List.length_singleton]; exact HO2.out, HR2.out, HND.out, HIN.out, HLF.out, HLK.out, hs2', HB2.out⟩
   case measure => rw [HR2.out.left_eq, HRG.out.left_eq]; exact hlt
end Go.Proofs.YtgoapnkdcfcjgaaGreat
namespace Go.Proofs.YtgoapnkdcfcjgaaGreat
open Go.ChangeShapes Go.WideShapes Go.ChangeAt Go.RowKit
set_option linter.unusedVariables false
set_option linter.unusedSimpArgs false
theorem cells_new_at (w : World) (vs : Array Value) (t : TypeId) {N : Nat} (hN : w.heap.size = N) : ∀ j u, vs.toList[j]? = some u → (w.alloc (.cells vs t)).cell? ((⟨N, 0, none⟩ : Addr).add j) = some u := by
 subst hN
 intro j u hu
 have e : (⟨w.heap.size, 0, none⟩ : Addr).add j = ⟨w.heap.size, j, none⟩ := by unfold Addr.add; split <;> simp_all
 rw [e, World.cell?_alloc_at _ _ _ _ rfl]
 rw [Array.getElem?_toList] at hu
 exact hu
theorem own_base {w : World} {base base' : Nat} {e : TypeId} {sz : Nat} {v : Value} {n : Nat} {xs : List Value} (h : w.ownsRow base e sz v n xs) (hb : base' ≤ base) : w.ownsRow base' e sz v n xs :=
 ⟨h.1, h.2.imp id (fun ⟨g, cap, cur, e, hg, r⟩ => ⟨g, cap, cur, e, Nat.le_trans hb hg, r⟩)⟩
theorem take_succ_zK {L : List KC} {j : Nat} (hj : j < L.length) : L.take (j + 1) = L.take j ++ [L.getD j zK] := by
 rw [List.take_succ_eq_append_getElem hj, List.getD_eq_getElem?_getD, List.getElem?_eq_getElem hj]; rfl
end Go.Proofs.YtgoapnkdcfcjgaaGreat
namespace Go.Proofs.YtgoapnkdcfcjgaaGreat
open Go.ChangeShapes Go.WideShapes Go.ChangeAt Go.RowKit Go.Maps
set_option linter.unusedVariables false
set_option linter.unusedSimpArgs false
def RowsU (w : World) (H : Nat) (us : List Value) (ks : List (List Int)) : Prop :=
 us.length = ks.length ∧ (∀ i, i < ks.length → w.ownsRow H 3 1 (us.getD i undef) (ks.getD i []).length (ivals (ks.getD i []))) ∧
 ∀ i j, i < j → j < ks.length → ∀ g, (us.getD i undef).ownBlock = some g → (us.getD j undef).ownBlock ≠ some g
theorem RowsU.nil_ (w : World) (H : Nat) : RowsU w H [] [] := ⟨rfl, fun i hi => by simp at hi, fun i j _ hj => by simp at hj⟩
theorem RowsU.kept {w w' : World} {H : Nat} {us : List Value} {ks : List (List Int)} (h : RowsU w H us ks) (k : ∀ i, i < ks.length → ∀ g, (us.getD i undef).ownBlock = some g → w'.heap[g]? = w.heap[g]?) : RowsU w' H us ks :=
 ⟨h.1, fun i hi => own_kept (h.2.1 i hi) (k i hi), h.2.2⟩
theorem RowsU.below {w w' : World} {H : Nat} {us : List Value} {ks : List (List Int)} (h : RowsU w H us ks) (hb : Below w.heap.size w w') : RowsU w' H us ks :=
 h.kept fun i hi g hg => hb.block g ((h.2.1 i hi).lt g hg).2
theorem RowsU.app {w w' : World} {H : Nat} {us : List Value} {ks : List (List Int)} {u : Value} {k : List Int} (h : RowsU w H us ks) (hb : Below w.heap.size w w') (hu : w'.ownsRow w.heap.size 3 1 u k.length (ivals k)) (hH : H ≤ w.heap.size) : RowsU w' H (us ++ [u]) (ks ++ [k]) := by
 have h' := h.below hb
 have el : ∀ i, i < ks.length → (us ++ [u]).getD i undef = us.getD i undef ∧ (ks ++ [k]).getD i [] = ks.getD i [] := fun i hi => by
  simp only [List.getD_eq_getElem?_getD]
  rw [List.getElem?_append_left (by rw [h.1]; exact hi), List.getElem?_append_left hi]
  exact ⟨rfl, rfl⟩
 have er : (us ++ [u]).getD ks.length undef = u ∧ (ks ++ [k]).getD ks.length [] = k := by
  simp only [List.getD_eq_getElem?_getD]
  rw [List.getElem?_append_right (by rw [h.1]; exact Nat.le_refl _), List.getElem?_append_right (Nat.le_refl _), h.1]
  simp
 refine ⟨by simp [h.1], fun i hi => ?_, fun i j hij hj g hg => ?_⟩
 ·rcases Nat.lt_or_ge i ks.length with hlt | hge
  ·rw [(el i hlt).1, (el i hlt).2]; exact h'.2.1 i hlt
  ·obtain rfl : i = ks.length := by simp at hi; omega
   rw [er.1, er.2]; exact own_base hu hH
 ·rcases Nat.lt_or_ge j ks.length with hlt | hge
  ·rw [(el j hlt).1]
   rw [(el i (by omega)).1] at hg
   exact h.2.2 i j hij hlt g hg
  ·obtain rfl : j = ks.length := by simp at hj; omega
   rw [er.1]
   rw [(el i hij).1] at hg
   intro e
   have a := ((h.2.1 i hij).lt g hg).2
   have b := (hu.lt g e).1
   omega
theorem own_apart {w : World} {H H' : Nat} {e e' : TypeId} {sz sz' : Nat} {v v' : Value} {n n' : Nat} {xs xs' : List Value} (h : w.ownsRow H e sz v n xs) (h' : w.ownsRow H' e' sz' v' n' xs') (hne : e ≠ e') : ∀ g, v.ownBlock = some g → v'.ownBlock ≠ some g := by
 intro g hg hg'
 rcases h.2 with ⟨rfl, -⟩ | ⟨g1, cap, cur, rfl, -, hc, -⟩
 ·cases hg
 ·rcases h'.2 with ⟨rfl, -⟩ | ⟨g2, cap2, cur2, rfl, -, hc2, -⟩
  ·cases hg'
  ·injection hg with hg
   injection hg' with hg'
   have e1 : g1 = g := hg
   have e2 : g2 = g := hg'
   subst e1; subst e2
   rw [hc] at hc2
   injection hc2 with hc2
   injection hc2 with _ hc2 _
   exact hne hc2
def KysP (ks : List (List Int)) (w : World) (e : Ending) (w' : World) : Prop := ∃ v us, e = .returned v ∧ w'.ownsRow w.heap.size 27 1 v ks.length us ∧ RowsU w' w.heap.size us ks ∧ Below w.heap.size w w'
def KyRelC (L : List KC) (w1 : World) (l i : Value) (wr : World) : Prop :=
 ∃ (k : Nat) (us : List Value), k ≤ L.length ∧ i = .int .i64 k ∧ wr.ownsRow w1.heap.size 27 1 l k us ∧ RowsU wr w1.heap.size us ((L.take k).map Prod.fst) ∧ Below w1.heap.size w1 wr
theorem info_ints : (Tryz.prog.info? 27).map (fun i => (i.zero, i.size, i.bytes)) = some (some (.slice none 0 0), 1, 24) := by kernel_rfl
theorem getD_memK {L : List KC} {k : Nat} (h : k < L.length) : L.getD k zK ∈ L := by
 rw [List.getD_eq_getElem?_getD, List.getElem?_eq_getElem h]; exact List.getElem_mem h
theorem take_fst {L : List KC} {k : Nat} (h : k < L.length) : (L.take (k + 1)).map Prod.fst = (L.take k).map Prod.fst ++ [(L.getD k zK).1] := by
 rw [take_succ_zK h, List.map_append]; rfl
theorem sl_key {w : World} {k : List Int} {W : Nat} (hk : k.length = W) (hW : W ≤ 3) : Sl (w.alloc (.cells #[.int .i64 (k.getD 0 0), .int .i64 (k.getD 1 0), .int .i64 (k.getD 2 0)] 149)) (w.heap.size + 1) (.slice (some ⟨w.heap.size, 0, none⟩) W 3) (ivals k) := by
 refine Sl.take_ (by omega) hk.symm hW (by simp [maxLen]) fun j hj => ?_
 rw [Nat.zero_add]
 obtain rfl | rfl | rfl : j = 0 ∨ j = 1 ∨ j = 2 := by omega
 ·simp [go_sem]
 ·simp [go_sem]
 ·simp [go_sem]
theorem slice_key (N W : Nat) (hW : W ≤ 3) (w : World) : (Instr.sliceAt 149 (.pointer (some ⟨N, 0, none⟩)) none (some (.int .i64 W)) none).run Tryz.prog w = .ok (.slice (some ⟨N, 0, none⟩) W 3) w := by
 obtain rfl | rfl | rfl | rfl : W = 0 ∨ W = 1 ∨ W = 2 ∨ W = 3 := by omega
 ·kernel_rfl
 ·kernel_rfl
 ·kernel_rfl
 ·kernel_rfl
set_option maxRecDepth 100000 in
set_option maxHeartbeats 3200000 in
theorem keys_any (D : Nat → Prop) (p m W M : Nat) (L : List KC) (w : World) (hc : CubW w D p m W M L) (hs : OkL W M L) (hW : W ≤ 3) (hL : L.length ≤ 70000) :
  Calls Tryz.prog 74 #[.pointer (some ⟨p, 0, none⟩)] w (KysP (L.map Prod.fst) w) := by
 obtain ⟨i0, hi, hz0, hz1, hz2⟩ := info_parts info_ints
 have hpl := hc.2.2.2.1 p hc.1
 have y0 := hc.2.2.2.2.1
 have HO := hid (order_any D p m W M L w hc hs hW hL)
 have HKY := hid hs.key
 clear hc hs
 go_enter Tryz.func74, Tryz.ntmps74
 go_wp2_with fail
 refine HO.out.mono ?_
 rintro e w1 ⟨v, rfl, ⟨A, cap, rfl, h1, h2, h3⟩, hb1⟩
 have y0 := cellK hb1 hpl y0
 have hs1 := hb1.size
 unfold maxLen at h2
 have HB1 := hid hb1; have H3 := hid h3
 clear hb1 h3
 go_wp2
 go_loopw [3, 9] (fun l i wr => KyRelC L w1 l i wr) (fun _ i _ => L.length - (intOf i).toNat)
 case atStart => exact ⟨0, [], by omega, rfl, World.ownsRow_nil _ _ _ _, RowsU.nil_ _ _, Below.refl _ _⟩
 case round =>
  obtain ⟨k, us, hk, rfl, hown, hrows, hb⟩ := hrel
  have hsb := hb.size
  by_cases hlt : k < L.length
  ·obtain ⟨g, rfl, hg, hcells⟩ := H3.out (by omega)
   obtain ⟨q0, q1, q2⟩ := hcells k hlt
   have q0 := cellK hb hg q0
   have q1 := cellK hb hg q1
   have q2 := cellK hb hg q2
   have y0 := cellK hb (by omega) y0
   have hkl := (HKY.out _ (getD_memK hlt)).1
   have e1 := take_fst hlt
   generalize (L.getD k zK).1 = key at *
   have hsl := sl_key (w := wr) hkl hW
   have hpw : p < wr.heap.size := by omega
   generalize key.getD 0 0 = x0 at *
   generalize key.getD 1 0 = x1 at *
   generalize key.getD 2 0 = x2 at *
   have hslk := slice_key wr.heap.size W hW
   obtain ⟨W0, hW0⟩ : ∃ W', W' = wr.alloc (.cells #[.int .i64 x0, .int .i64 x1, .int .i64 x2] 149) := ⟨_, rfl⟩
   rw [← hW0] at hsl
   have hz0' : W0.heap.size = wr.heap.size + 1 := by rw [hW0]; simp
   have hb0 : Below wr.heap.size wr W0 := by rw [hW0]; exact bl1 _ _
   have HCL := hid (cloneIC_any _ key W0 (hsl.more (by omega)) (by omega))
   have HB := hid hb; have HOW := hid hown; have HRO := hid hrows; have E1 := hid e1; have HW0 := hid hW0; have HB0 := hid hb0
   clear hb hown hrows e1 hcells hsl hW0 hb0
   go_wp2_with fail
   rw [← HW0.out]
   refine HCL.out.mono ?_
   rintro e w2 ⟨u, rfl, hu, hb2⟩
   rw [hkl] at hu
   obtain ⟨U, cu, rfl, -, -, -⟩ := own_cells hu
   have hs2 := hb2.size
   have hb02 : Below wr.heap.size wr w2 := HB0.out.trans (hb2.mono (by omega))
   have hown2 := own_kept HOW.out (fun g hg => hb02.block g (HOW.out.lt g hg).2)
   have hrow2 := HRO.out.app (k := key) hb02 (by rw [hkl]; exact own_base hu (by omega)) (by omega)
   rw [← E1.out] at hrow2
   have HO2 := hid hown2; have HR2 := hid hrow2; have HB02 := hid hb02
   have HKL := hid hkl
   clear hown2 hrow2 hb02 hu hb2 hkl
   go_wp2_with (at_builtin; refine stop_here ?_)
   refine go_on ?_
   refine app_own_at (.tmp 13) (.tmp 20) 24 24 rfl rfl w1.heap.size 27 i0 (.slice none 0 0) 1 24 Tryz.underlying24 hi hz0 hz1 hz2 rfl (by decide) _ _ _ rfl (HO2.out.alloc _) (.slice (some ⟨w2.heap.size, 0, none⟩) 1 1) 1 [_] rfl (Src.ofSlice _ Tryz.underlying24 _ 1 1 _ rfl (cells_new_at _ _ _ rfl) (by simp; rfl)) (by simp only [maxLen]; omega) (by omega) (by rw [World.size_alloc]; omega) ?_
   intro v3 w3 hown3 hg3 hb3 hat3
   have hrow3 : RowsU w3 w1.heap.size (us ++ [.slice U W cu]) ((L.take (k + 1)).map Prod.fst) := by
    refine (HR2.out.below (bl1 w2 (.cells #[.slice U W cu] 27))).kept (fun i hi g hg => ?_)
    have hlg := ((HR2.out.2.1 i hi).lt g hg).2
    refine hg3.block g (by rw [World.size_alloc]; omega) (fun e => own_apart (HR2.out.2.1 i hi) HO2.out (by decide) g hg e.symm)
   have hb3' := hid (((HB.out.trans (HB02.out.mono hsb)).alloc (by omega) _).trans hb3)
   have HO3 := hid hown3; have HR3 := hid hrow3
   clear hown3 hrow3 hg3 hb3 hat3
   go_wp2
   go_roundw
   case rel => exact ⟨k + 1, _, by omega, by go_num, HO3.out, HR3.out, hb3'.out⟩
   case measure => simp [intOf]; omega
  ·obtain rfl : k = L.length := by omega
   rw [List.take_length] at hrows
   have HOW := hid hown; have HRO := hid hrows; have HB := hid hb
   clear hown hrows hb
   go_wp2
   go_ret
   exact ⟨_, us, rfl, by rw [List.length_map]; exact own_base HOW.out hs1, ⟨HRO.out.1, fun i hi => own_base (HRO.out.2.1 i hi) hs1, HRO.out.2.2⟩, HB1.out.trans (HB.out.mono hs1)⟩
set_option maxRecDepth 100000 in
theorem len_any (D : Nat → Prop) (p m W M : Nat) (L : List KC) (w : World) (hc : CubW w D p m W M L) :
  Calls Tryz.prog 32 #[.pointer (some ⟨p, 0, none⟩)] w (Stays (.int .i64 L.length) w) := by
 have hpl := hc.2.2.2.1 p hc.1
 have y2 := hc.2.2.2.2.2.2.1
 obtain ⟨Dm, h1, h2, -⟩ := hc.2.2.2.2.2.2.2
 have H2 := hid h2
 clear hc h2
 go_enter Tryz.func32, Tryz.ntmps32
 go_wp2_with (first
  | (at_len; refine wpList_len_own _ rfl _ 102 rfl 149 125 Tryz.underlying102 _ m L.length Dm rfl h1 ?_)
  | go_in)
 rw [H2.out]
 go_ret
 exact ⟨rfl, Qu.refl _⟩
end Go.Proofs.YtgoapnkdcfcjgaaGreat
namespace Go.Proofs.YtgoapnkdcfcjgaaGreat
open Go.ChangeShapes Go.WideShapes Go.ChangeAt Go.RowKit
set_option linter.unusedVariables false
set_option linter.unusedSimpArgs false
theorem LatW.csAt {w : World} {H p : Nat} {Y : Lay} {l : LatX} (h : LatW w H p Y l) {v : Nat} (hv : v < l.cs.length) :
  ∃ g c, Y.CS = .slice (some ⟨g, 0, none⟩) l.cs.length c ∧ l.cs.length ≤ c ∧ c ≤ maxLen ∧ H ≤ g ∧ g < w.heap.size ∧ w.cell? ⟨g, v, none⟩ = some (.pointer (some ⟨Y.cq v, 0, none⟩)) ∧ w.frozen? ⟨g, v, none⟩ = false := by
 have h0 := h.cs
 obtain ⟨A, c, e, h1, h2, h3⟩ := own_cells2 h0
 obtain ⟨g, rfl, hg, hgs, -, hc⟩ := h3 (by omega)
 rw [e] at h0
 refine ⟨g, c, e, h1, h2, hg, hgs, ?_, h0.frozenAt v⟩
 rw [hc v (by omega), ptrs_at hv]
theorem LatW.dsAt {w : World} {H p : Nat} {Y : Lay} {l : LatX} (h : LatW w H p Y l) {v : Nat} (hv : v < l.ds.length) :
  ∃ g c, Y.DS = .slice (some ⟨g, 0, none⟩) l.ds.length c ∧ l.ds.length ≤ c ∧ c ≤ maxLen ∧ H ≤ g ∧ g < w.heap.size ∧ w.cell? ⟨g, v, none⟩ = some (.pointer (some ⟨Y.dp v, 0, none⟩)) ∧ w.frozen? ⟨g, v, none⟩ = false := by
 have h0 := h.ds
 obtain ⟨A, c, e, h1, h2, h3⟩ := own_cells2 h0
 obtain ⟨g, rfl, hg, hgs, -, hc⟩ := h3 (by omega)
 rw [e] at h0
 refine ⟨g, c, e, h1, h2, hg, hgs, ?_, h0.frozenAt v⟩
 rw [hc v (by omega), ptrs_at hv]
def LenLP (n : Nat) (w : World) (e : Ending) (w' : World) : Prop := e = .returned (.tuple #[.int .i64 n, .int .i64 0]) ∧ Below w.heap.size w w'
set_option maxRecDepth 100000 in
set_option maxHeartbeats 1600000 in
theorem lenL_any (H p : Nat) (Y : Lay) (l : LatX) (v : Nat) (w : World) (h : LatW w H p Y l) (hv : v < l.cs.length) (hc : l.cs.length = (viewsX l.s).length) (hv9 : v ≤ 1000) :
  Calls Tryz.prog 16 #[.pointer (some ⟨p, 0, none⟩), .int .i64 (v : Int)] w (LenLP (l.cs.getD v []).length w) := by
 obtain ⟨g, c, hCS, hc1, hc2, hg, hgs, hcell, -⟩ := h.csAt hv
 obtain ⟨AV, cV, hV, hcV, hmV⟩ := h.views.open_
 simp only [List.cons.injEq, and_true] at hV
 have c3 := h.c3; have c5 := h.c5
 rw [hV] at c3
 rw [hCS] at c5
 rw [← hc] at c3 hcV
 have HLN := hid (fun W (hq : Below w.heap.size w W) => len_any (Y.cD v) (Y.cq v) (Y.cm v) l.s.1.length l.s.2.1.length (l.cs.getD v []) W ((h.cub v hv).below hq))
 unfold maxLen at hc2
 generalize (l.cs.getD v []).length = n at *
 clear h hCS hV
 generalize l.cs.length = m at *
 go_enter Tryz.func16, Tryz.ntmps16
 go_wp2_with fail
 (with_reducible refine (HLN.out _ (Below.refl _ _)).mono ?_)
 rintro e w2 ⟨rfl, hq⟩
 have HB := hid (hq.below w.heap.size)
 clear hq
 go_wp2
 go_ret2
 exact ⟨rfl, HB.out⟩
def OwnLP (l : LatX) (w : World) (e : Ending) (w' : World) : Prop :=
 ∃ v, e = .returned v ∧ SchemaV w' w'.heap.size v l.s ∧ Below w.heap.size w w'
set_option maxRecDepth 100000 in
set_option maxHeartbeats 1600000 in
theorem schemaL_any (H p : Nat) (Y : Lay) (l : LatX) (w : World) (h : LatW w H p Y l) (hm : mayS l.s = true) :
  Calls Tryz.prog 28 #[.pointer (some ⟨p, 0, none⟩)] w (OwnLP l w) := by
 obtain ⟨⟨hd1, hd3⟩, ⟨hm1, hm2⟩, hdl⟩ := mayS_sizes hm
 obtain ⟨hv6, hvl⟩ := mayS_views hm
 obtain ⟨A1, c1, A2, c2, A3, c3, e, h1, h2, h3⟩ := h.sch.rd h.sin
 have hv := h.sch.rd h.sin
 rw [e] at hv
 injection e with e
 have e1 : Y.S1 = .slice A1 l.s.1.length c1 := by have := congrArg (fun a : Array Value => a[0]?) e; simpa using this
 have e2 : Y.S2 = .slice A2 l.s.2.1.length c2 := by have := congrArg (fun a : Array Value => a[1]?) e; simpa using this
 have e3 : Y.S3 = .slice A3 l.s.2.2.length c3 := by have := congrArg (fun a : Array Value => a[2]?) e; simpa using this
 obtain ⟨W1, hW1⟩ : ∃ W, W = w.alloc (.cells #[.slice none 0 0, .slice none 0 0, .slice none 0 0] 26) := ⟨_, rfl⟩
 obtain ⟨K, hK⟩ : ∃ K, K = w.heap.size := ⟨_, rfl⟩
 have g1 : Below K w W1 := by rw [hW1, hK]; exact bl1 _ _
 have z1 : W1.heap.size = K + 1 := by rw [hW1, hK]; simp
 have p0 : W1.cell? ⟨K, 0, none⟩ = some (.slice none 0 0) := by rw [hW1, hK]; simp [go_sem]
 have p1 : W1.cell? ⟨K, 1, none⟩ = some (.slice none 0 0) := by rw [hW1, hK]; simp [go_sem]
 have p2 : W1.cell? ⟨K, 2, none⟩ = some (.slice none 0 0) := by rw [hW1, hK]; simp [go_sem]
 have f0 : W1.frozen? ⟨K, 0, none⟩ = false := by rw [hW1, hK]; simp [go_sem]
 have f1 : W1.frozen? ⟨K, 1, none⟩ = false := by rw [hW1, hK]; simp [go_sem]
 have f2 : W1.frozen? ⟨K, 2, none⟩ = false := by rw [hW1, hK]; simp [go_sem]
 rw [← hK] at hv
 have hp : p < K := by rw [hK]; exact h.pl
 have q0 := cellK g1 hp h.c0; have q1 := cellK g1 hp h.c1; have q2 := cellK g1 hp h.c2
 rw [e1] at q0; rw [e2] at q1; rw [e3] at q2
 have HOWN := hid (own_any _ l.s W1 ((hv.below g1).more (by omega)) (by omega) (by omega) (fun x hx => by rw [hvl x hx]; omega) (by omega) (fun d hd => by have := hdl d hd; omega))
 have HIN := hid h.sin
 have HW1 := hid hW1; have G1 := hid g1; have HK := hid hK; have Z1 := hid z1
 unfold OwnLP
 rw [← hK]
 clear h e e1 e2 e3 h1 h2 h3 hv hW1 g1 hK z1 hdl hvl hm
 generalize hs : l.s = s at *
 clear hs
 go_enter Tryz.func28, Tryz.ntmps28
 go_upto_region 1 with (fail)
 rw [← HW1.out, ← HK.out]
 go_wp2_with fail
 (with_reducible refine HOWN.out.mono ?_)
 rintro e w2 ⟨O1, d1, O2, d2, O3, d3, rfl, ho, hb⟩
 have hlt : K < W1.heap.size := by rw [Z1.out]; omega
 have k0 := cellK hb hlt p0; have k1 := cellK hb hlt p1; have k2 := cellK hb hlt p2
 have y0 := frozenK hb hlt f0; have y1 := frozenK hb hlt f1; have y2 := frozenK hb hlt f2
 have HO := hid ho; have HB := hid hb
 have Z2 := hid (show K + 1 ≤ w2.heap.size by have := hb.size; have h := Z1.out; omega)
 clear ho hb p0 p1 p2 f0 f1 f2 q0 q1 q2
 go_wp2
 obtain ⟨W8, hW8⟩ : ∃ W, W = ((w2.setCell ⟨K, 0, none⟩ (.slice O1 s.1.length d1)).setCell ⟨K, 1, none⟩ (.slice O2 s.2.1.length d2)).setCell ⟨K, 2, none⟩ (.slice O3 s.2.2.length d3) := ⟨_, rfl⟩
 rw [← hW8]
 have s0 : W8.cell? ⟨K, 0, none⟩ = some (.slice O1 s.1.length d1) := by rw [hW8]; exact cell_beside (by omega) (cell_beside (by omega) (cell_here k0))
 have s1 : W8.cell? ⟨K, 1, none⟩ = some (.slice O2 s.2.1.length d2) := by rw [hW8]; exact cell_beside (by omega) (cell_here (cell_beside (by omega) k1))
 have s2 : W8.cell? ⟨K, 2, none⟩ = some (.slice O3 s.2.2.length d3) := by rw [hW8]; exact cell_here (cell_beside (by omega) (cell_beside (by omega) k2))
 have b8 : Below K w W8 := by
  rw [hW8]
  exact (((G1.out.trans (HB.out.mono (Nat.le_of_lt hlt))).setCell (Nat.le_refl K) _).setCell (Nat.le_refl K) _).setCell (Nat.le_refl K) _
 have hkeep : ∀ g, W1.heap.size ≤ g → g < w2.heap.size → W8.heap[g]? = w2.heap[g]? := fun g h1 h2 => by
  have := Z1.out
  rw [hW8]
  exact (Below.heap_setCell _ _ _ g (by simp; omega)).trans ((Below.heap_setCell _ _ _ g (by simp; omega)).trans (Below.heap_setCell _ _ _ g (by simp; omega)))
 have hrd : SchemaV W8 W8.heap.size (.agg #[.slice O1 s.1.length d1, .slice O2 s.2.1.length d2, .slice O3 s.2.2.length d3]) s :=
  SchO.rd ⟨HO.out.1.range hkeep, own_range HO.out.2.1 hkeep, HO.out.2.2.range hkeep⟩ HIN.out
 refine bodyPost_ret (v := .agg #[.slice O1 s.1.length d1, .slice O2 s.2.1.length d2, .slice O3 s.2.2.length d3]) ?_ rfl ?_
 ·simp [results, Tryz.results28, go_sem, s0, s1, s2]
 ·exact ⟨_, rfl, hrd, b8⟩
end Go.Proofs.YtgoapnkdcfcjgaaGreat
