/- 2 texts of this claim, in build order. -/
import Derived.Test.YtkgifbnkkmeoiaaGreatDoorPbkbinjci
import Derived.Test.YtkgifbnkkmeoiaaGreatDoorPmfcnoomp
/- Nets in memory: rows of packets; rows that begin anywhere in their block. -/
namespace Go.Proofs.YtkgifbnkkmeoiaaGreatDoor
open Go.ChangeShapes Go.WideShapes Go.ChangeAt Go.RowKit
set_option linter.unusedVariables false
set_option linter.unusedSimpArgs false

/-- A row of one's own that may begin anywhere in its block. -/
def RowA (w : World) (base : Nat) (e : TypeId) (size : Nat) (v : Value) (n : Nat) (xs : List Value) : Prop :=
  xs.length = n * size ∧ ((v = .slice none 0 0 ∧ n = 0) ∨ ∃ g off cap cur, v = .slice (some ⟨g, off, none⟩) n cap ∧ base ≤ g ∧ w.heap[g]? = some (.cells cur e (0, 0)) ∧ n ≤ cap ∧ cap ≤ maxLen ∧ cur.size = off + cap * size ∧ (cur.toList.drop off).take (n * size) = xs)
theorem RowA.of_own {w : World} {base : Nat} {e : TypeId} {size : Nat} {v : Value} {n : Nat} {xs : List Value} (h : w.ownsRow base e size v n xs) : RowA w base e size v n xs := by
  obtain ⟨h1, h2⟩ := h
  refine ⟨h1, ?_⟩
  rcases h2 with h2 | ⟨g, cap, cur, rfl, hb, hg, hn, hm, hs, ht⟩
  · exact .inl h2
  · exact .inr ⟨g, 0, cap, cur, rfl, hb, hg, hn, hm, by omega, by simpa using ht⟩
theorem RowA.nil_ (w : World) (base : Nat) (e : TypeId) (size : Nat) : RowA w base e size (.slice none 0 0) 0 [] := ⟨by simp, .inl ⟨rfl, rfl⟩⟩
theorem RowA.lt {w : World} {base : Nat} {e : TypeId} {size : Nat} {v : Value} {n : Nat} {xs : List Value} (h : RowA w base e size v n xs) : ∀ g, v.ownBlock = some g → base ≤ g ∧ g < w.heap.size := by
  intro g hg
  rcases h.2 with ⟨rfl, -⟩ | ⟨g', off, cap, cur, rfl, hb, hc, -⟩
  · cases hg
  · injection hg with hg
    have e1 : g' = g := hg
    subst e1
    exact ⟨hb, (Array.getElem?_eq_some_iff.1 hc).1⟩
theorem RowA.kept {w w' : World} {base : Nat} {e : TypeId} {size : Nat} {v : Value} {n : Nat} {xs : List Value} (h : RowA w base e size v n xs) (k : ∀ g, v.ownBlock = some g → w'.heap[g]? = w.heap[g]?) : RowA w' base e size v n xs := by
  obtain ⟨h1, h2⟩ := h
  refine ⟨h1, ?_⟩
  rcases h2 with h2 | ⟨g, off, cap, cur, rfl, hb, hg, r⟩
  · exact .inl h2
  · exact .inr ⟨g, off, cap, cur, rfl, hb, (k g rfl).trans hg, r⟩
/-- Its elements. -/
theorem RowA.elem {w : World} {base : Nat} {e : TypeId} {size : Nat} {v : Value} {n : Nat} {xs : List Value} (h : RowA w base e size v n xs) (hn : 0 < n) :
    ∃ g off cap, v = .slice (some ⟨g, off, none⟩) n cap ∧ base ≤ g ∧ g < w.heap.size ∧ n ≤ cap ∧ cap ≤ maxLen ∧ (∀ j, j < n * size → w.cell? ⟨g, off + j, none⟩ = xs[j]?) := by
  obtain ⟨h1, h2⟩ := h
  rcases h2 with ⟨rfl, h0⟩ | ⟨g, off, cap, cur, rfl, hb, hg, hnc, hm, hs, ht⟩
  · omega
  · refine ⟨g, off, cap, rfl, hb, (Array.getElem?_eq_some_iff.1 hg).1, hnc, hm, fun j hj => ?_⟩
    rw [← ht, List.getElem?_take, if_pos hj, List.getElem?_drop]
    simp [World.cell?, hg]
theorem RowA.form {w : World} {base : Nat} {e : TypeId} {size : Nat} {v : Value} {n : Nat} {xs : List Value} (h : RowA w base e size v n xs) : ∃ A c, v = .slice A n c ∧ n ≤ c ∧ c ≤ maxLen := by
  rcases h.2 with ⟨rfl, rfl⟩ | ⟨g, off, cap, cur, rfl, -, -, hn, hm, -⟩
  · exact ⟨none, 0, rfl, by omega, by simp [maxLen]⟩
  · exact ⟨_, _, rfl, hn, hm⟩
/-- Without its first element. -/
theorem RowA.tail {w : World} {base : Nat} {e : TypeId} {size : Nat} {A : Option Addr} {n c : Nat} {xs : List Value} (h : RowA w base e size (.slice A (n + 1) c) (n + 1) xs) (hn : 0 < n) :
    ∃ g off, A = some ⟨g, off, none⟩ ∧ RowA w base e size (.slice (some ⟨g, off + size, none⟩) n (c - 1)) n (xs.drop size) := by
  obtain ⟨h1, h2⟩ := h
  rcases h2 with ⟨h2, h0⟩ | ⟨g, off, cap, cur, h2, hb, hg, hnc, hm, hs, ht⟩
  · omega
  · injection h2 with e1 _ e3
    subst e1; subst e3
    refine ⟨g, off, rfl, by rw [List.length_drop, h1, Nat.add_mul]; omega, .inr ⟨g, off + size, c - 1, cur, rfl, hb, hg, by omega, by omega, ?_, ?_⟩⟩
    · rw [hs]
      obtain ⟨m, rfl⟩ : ∃ m, c = m + 1 := ⟨c - 1, by omega⟩
      rw [Nat.add_sub_cancel, Nat.add_mul]; omega
    · rw [← ht, List.drop_take, List.drop_drop, Nat.add_mul]
      congr 1
      omega
theorem take_off {l : List Value} {a k : Nat} : l.take (a + k) = l.take a ++ (l.drop a).take k := by
  rw [List.take_add]
section
variable {P : Program}
theorem run_app_rowA (w : World) (base : Nat) (t tx ty e : TypeId) (i : TypeInfo) (z : Value) (size bytes : Nat) (ht : P.underlying t = some (.slice e)) (hi : P.info? e = some i) (hz : i.zero = some z)
    (hsize : i.size = size) (hby : i.bytes = bytes) (hzs : z.cells.size = size) (hsz : 0 < size)
    (v : Value) (n : Nat) (xs : List Value) (hown : RowA w base e size v n xs)
    (x : Value) (m : Nat) (news : List Value) (hs : Src P size tx x m news w)
    (h63 : n + m ≤ maxLen) (hbytes : (n + m) * bytes ≤ 140737488355328) (hbase : base ≤ w.heap.size) :
    ∃ v' w', (Builtin.append_ #[t, tx] ty #[v, x]).run P w = .ok v' w' ∧ RowA w' base e size v' (n + m) (xs ++ news) ∧ w.grownBy w' v.ownBlock ∧ (v'.ownBlock = v.ownBlock ∨ v'.ownBlock = some w.heap.size) := by
  subst hsize
  subst hby
  have hsmall : n + m ≤ 9223372036854775807 := by simp only [maxLen] at h63; omega
  have hlen : (xs ++ news).length = (n + m) * i.size := by rw [List.length_append, hown.1, hs.newsLen, Nat.add_mul]
  rcases hown.2 with ⟨rfl, rfl⟩ | ⟨g, off, cap, cur, rfl, hbg, hg, hnc, hcm, hcs, htake⟩
  · have ho : w.ownsRow base e i.size (.slice none 0 0) 0 xs := by
      have hx : xs = [] := List.eq_nil_of_length_eq_zero (by simpa using hown.1)
      subst hx
      exact World.ownsRow_nil w base e i.size
    obtain ⟨v', w', h1, h2, h3, h4⟩ := run_app_own (P := P) w base t tx ty e i z i.size i.bytes ht hi hz rfl rfl hzs hsz (.slice none 0 0) 0 xs ho x m news hs h63 hbytes hbase
    exact ⟨v', w', h1, RowA.of_own h2, h3, h4⟩
  · by_cases hroom : n + m ≤ cap
    · have hnm : n * i.size + news.length ≤ cap * i.size := by rw [hs.newsLen, ← Nat.add_mul]; exact Nat.mul_le_mul_right _ hroom
      have hfit : (off + n * i.size) + news.length ≤ cur.size := by omega
      have hst := run_storeCells_at P g (off + n * i.size) e news 0 cur w hg (by simpa using hfit) hs.one
      simp only [Nat.add_zero] at hst
      have hr : (Builtin.append_ #[t, tx] ty #[.slice (some ⟨g, off, none⟩) n cap, x]).run P w =
          .ok (.slice (some ⟨g, off, none⟩) (n + m) cap) (w.setRow g (cur.toList.take (off + n * i.size) ++ news ++ cur.toList.drop (off + n * i.size + news.length)).toArray) := by
        rcases hs.kind with ⟨e', hk⟩ | hk <;> simp [Builtin.append_, run_underlying ht, run_underlying hk, sizeOf, typeInfo, hi, hs.len, hroom, hs.cells, Addr.add_lit, hst]
      refine ⟨_, _, hr, ⟨hlen, .inr ⟨g, off, cap, _, rfl, hbg, setRow_heap w g cur _ e _ hg, hroom, hcm, ?_, ?_⟩⟩, ⟨rfl, rfl, rfl, by simp, fun k _ hk => setRow_other w g k _ (fun e => hk (by simp [Value.ownBlock, e]))⟩, .inl rfl⟩
      · simp only [List.size_toArray, List.length_append, List.length_take, List.length_drop, Array.length_toList]
        omega
      · rw [take_off, htake, List.append_assoc, List.append_assoc]
        have hol : (cur.toList.take off).length = off := by rw [List.length_take, Array.length_toList]; exact Nat.min_eq_left (by rw [hcs]; exact Nat.le_add_right _ _)
        have hd : ∀ l : List Value, (cur.toList.take off ++ l).drop off = l := fun l => List.drop_left' hol
        simp only [List.toList_toArray]
        rw [hd, ← List.append_assoc, ← hlen]
        exact List.take_left
    · have hcells : ∀ j, j < n * i.size → w.cell? ⟨g, off + j, none⟩ = xs[j]? := fun j hj => by
        rw [← htake, List.getElem?_take, if_pos hj, List.getElem?_drop]
        simp [World.cell?, hg]
      have holds : ∀ j u, xs[j]? = some u → w.drew.cell? ((⟨g, off, none⟩ : Addr).add j) = some u := fun j u hu => by
        have hj : j < n * i.size := by rw [← hown.1]; exact (List.getElem?_eq_some_iff.1 hu).1
        rw [Addr.add_lit]
        exact (hcells j hj).trans hu
      have hr := run_append_grow_src (P := P) w t tx ty e i z ht hi hz (some ⟨g, off, none⟩) n cap xs (run_firstCells_some w.drew i.size n ⟨g, off, none⟩ n cap xs hown.1 holds) x m news hs (by omega) (by omega) (growslice_fits (by omega) hbytes)
      obtain ⟨r1, r2⟩ := newRow_own w base e i z hzs n m cap xs news hown.1 hs.newsLen h63 hbase (some g)
      exact ⟨_, _, hr, RowA.of_own r1, r2, .inr rfl⟩
theorem app_rowA {ops : Array Oper} {rest : List Oper} {o : Oper} {a : Act} {w : World} {Q : Exit → Act → World → Prop} (s x : Operand) (t tx : TypeId) (hgd : o.guard = none)
    (ho : o.op = .call { callee := .builtin .append, args := #[s, x], argTypes := #[t, tx] })
    (base : Nat) (e : TypeId) (i : TypeInfo) (z : Value) (size bytes : Nat) (ht : P.underlying t = some (.slice e)) (hi : P.info? e = some i) (hz : i.zero = some z)
    (hsize : i.size = size) (hby : i.bytes = bytes) (hzs : z.cells.size = size) (hsz : 0 < size)
    (v : Value) (n : Nat) (xs : List Value) (hsv : a.eval s = v) (hown : RowA w base e size v n xs)
    (xv : Value) (m : Nat) (news : List Value) (hxv : a.eval x = xv) (hs : Src P size tx xv m news w)
    (h63 : n + m ≤ maxLen) (hbytes : (n + m) * bytes ≤ 140737488355328) (hbase : base ≤ w.heap.size)
    (h : ∀ v' w', RowA w' base e size v' (n + m) (xs ++ news) → w.grownBy w' v.ownBlock → (v'.ownBlock = v.ownBlock ∨ v'.ownBlock = some w.heap.size) → wpList P ops Q rest (a.put o.dst v') w') : wpList P ops Q (o :: rest) a w := by
  obtain ⟨v', w', hrun, h2, h3, h4⟩ := run_app_rowA (P := P) w base t tx o.type e i z size bytes ht hi hz hsize hby hzs hsz v n xs hown xv m news hs h63 hbytes hbase
  exact wpList_plain hgd fun _ hK => wp_of_run s x t tx ho v xv hsv hxv hrun (hK _ _ (h v' w' h2 h3 h4))
end
/-! ### Packets -/
abbrev PK := Int × Int × List UInt8
def zP : PK := (0, 0, [])
abbrev P3 := Int × Int × Value
def p3 (x : P3) : List Value := [.int .i64 x.1, .int .i64 x.2.1, x.2.2]
def zp : P3 := (0, 0, .slice none 0 0)
def flatP (es : List P3) : List Value := es.flatMap p3
theorem flatP_len (es : List P3) : (flatP es).length = es.length * 3 := by
  unfold flatP
  induction es with
  | nil => rfl
  | cons x es ih => rw [List.flatMap_cons, List.length_append, ih]; simp [p3]; omega
theorem flatP_snoc (es : List P3) (x : P3) : flatP (es ++ [x]) = flatP es ++ p3 x := by simp [flatP]
theorem flatP_app (es ds : List P3) : flatP (es ++ ds) = flatP es ++ flatP ds := by simp [flatP]
theorem flatP_drop (es : List P3) (k : Nat) : (flatP es).drop (k * 3) = flatP (es.drop k) := by
  rcases Nat.lt_or_ge es.length k with h | h
  · rw [List.drop_of_length_le (by rw [flatP_len]; omega), List.drop_of_length_le (by omega)]; rfl
  · have hl : (flatP (es.take k)).length = k * 3 := by rw [flatP_len, List.length_take, Nat.min_eq_left h]
    conv => lhs; rw [← List.take_append_drop k es, flatP_app, ← hl]
    exact List.drop_left
theorem flatP_take (es : List P3) (k : Nat) : (flatP es).take (k * 3) = flatP (es.take k) := by
  rcases Nat.lt_or_ge es.length k with h | h
  · rw [List.take_of_length_le (by rw [flatP_len]; omega), List.take_of_length_le (by omega)]
  · have hl : (flatP (es.take k)).length = k * 3 := by rw [flatP_len, List.length_take, Nat.min_eq_left h]
    conv => lhs; rw [← List.take_append_drop k es, flatP_app, ← hl]
    exact List.take_left
theorem flatP_at : ∀ {es : List P3} {k j : Nat}, k < es.length → j < 3 → (flatP es)[k * 3 + j]? = (p3 (es.getD k zp))[j]? := by
  intro es
  induction es with
  | nil => intro k j hk; simp at hk
  | cons x es ih =>
    intro k j hk hj
    unfold flatP
    rw [List.flatMap_cons]
    cases k with
    | zero => rw [List.getElem?_append_left (by simp [p3]; omega)]; simp
    | succ k =>
      rw [List.getElem?_append_right (by simp [p3]; omega), show (k + 1) * 3 + j - (p3 x).length = k * 3 + j by simp [p3]; omega]
      have := ih (k := k) (j := j) (by simpa using hk) hj
      unfold flatP at this
      rw [this]
      simp
def RowPk (w : World) (E : Nat → Prop) (es : List P3) (L : List PK) : Prop :=
  es.length = L.length ∧ ∀ k, k < L.length → (es.getD k zp).1 = (L.getD k zP).1 ∧ (es.getD k zp).2.1 = (L.getD k zP).2.1 ∧ SlE w E (es.getD k zp).2.2 (bvals (L.getD k zP).2.2)
theorem RowPk.nil_ (w : World) (E : Nat → Prop) : RowPk w E [] [] := ⟨rfl, fun k hk => by simp at hk⟩
theorem RowPk.kept {w w' : World} {E : Nat → Prop} {es : List P3} {L : List PK} (h : RowPk w E es L) (k : Kept E w w') : RowPk w' E es L := ⟨h.1, fun i hi => ⟨(h.2 i hi).1, (h.2 i hi).2.1, (h.2 i hi).2.2.kept k⟩⟩
theorem RowPk.mono {w : World} {E E' : Nat → Prop} {es : List P3} {L : List PK} (h : RowPk w E es L) (k : ∀ i, E i → E' i) : RowPk w E' es L := ⟨h.1, fun i hi => ⟨(h.2 i hi).1, (h.2 i hi).2.1, (h.2 i hi).2.2.mono k⟩⟩
theorem RowPk.app {w : World} {E : Nat → Prop} {es ds : List P3} {L K : List PK} (h : RowPk w E es L) (h' : RowPk w E ds K) : RowPk w E (es ++ ds) (L ++ K) := by
  refine ⟨by simp [h.1, h'.1], fun k hk => ?_⟩
  rw [List.length_append] at hk
  simp only [List.getD_eq_getElem?_getD]
  rcases Nat.lt_or_ge k L.length with hl | hl
  · rw [List.getElem?_append_left (by rw [h.1]; exact hl), List.getElem?_append_left hl]
    simpa only [List.getD_eq_getElem?_getD] using h.2 k hl
  · rw [List.getElem?_append_right (by rw [h.1]; exact hl), List.getElem?_append_right hl, h.1]
    simpa only [List.getD_eq_getElem?_getD] using h'.2 (k - L.length) (by omega)
theorem RowPk.one {w : World} {E : Nat → Prop} {f t : Int} {d : Value} {l : List UInt8} (h : SlE w E d (bvals l)) : RowPk w E [(f, t, d)] [(f, t, l)] :=
  ⟨rfl, fun k hk => by
    have : k = 0 := by simpa using hk
    subst this
    exact ⟨rfl, rfl, h⟩⟩
theorem RowPk.drop {w : World} {E : Nat → Prop} {es : List P3} {L : List PK} (h : RowPk w E es L) (k : Nat) : RowPk w E (es.drop k) (L.drop k) := by
  refine ⟨by simp [h.1], fun i hi => ?_⟩
  rw [List.length_drop] at hi
  simp only [List.getD_eq_getElem?_getD, List.getElem?_drop]
  simpa only [List.getD_eq_getElem?_getD] using h.2 (k + i) (by omega)
theorem RowPk.take {w : World} {E : Nat → Prop} {es : List P3} {L : List PK} (h : RowPk w E es L) (k : Nat) : RowPk w E (es.take k) (L.take k) := by
  refine ⟨by simp [h.1], fun i hi => ?_⟩
  rw [List.length_take] at hi
  simp only [List.getD_eq_getElem?_getD, List.getElem?_take]
  rw [if_pos (by omega), if_pos (by omega)]
  simpa only [List.getD_eq_getElem?_getD] using h.2 i (by omega)
/-- An element's cells. -/
theorem pk_elem {w : World} {base : Nat} {ty : TypeId} {v : Value} {es : List P3} {L : List PK} {E : Nat → Prop} (hown : RowA w base ty 3 v L.length (flatP es)) (hrow : RowPk w E es L) {k : Nat} (hk : k < L.length) :
    ∃ g off cap A c, v = .slice (some ⟨g, off, none⟩) L.length cap ∧ base ≤ g ∧ g < w.heap.size ∧ L.length ≤ cap ∧ cap ≤ maxLen ∧
      w.cell? ⟨g, off + k * 3, none⟩ = some (.int .i64 (L.getD k zP).1) ∧ w.cell? ⟨g, off + k * 3 + 1, none⟩ = some (.int .i64 (L.getD k zP).2.1) ∧ w.cell? ⟨g, off + k * 3 + 2, none⟩ = some (.slice A (L.getD k zP).2.2.length c) ∧
      SlE w E (.slice A (L.getD k zP).2.2.length c) (bvals (L.getD k zP).2.2) := by
  obtain ⟨g, off, cap, rfl, hb, hg, hn, hm, hc⟩ := hown.elem (by omega)
  obtain ⟨e1, e2, hs⟩ := hrow.2 k hk
  have q : ∀ j, j < 3 → w.cell? ⟨g, off + (k * 3 + j), none⟩ = (p3 (es.getD k zp))[j]? := fun j hj => by
    rw [← flatP_at (by rw [hrow.1]; exact hk) hj]
    exact hc _ (by omega)
  have hs' := hs
  obtain ⟨A, c, e3, -, -, -⟩ := hs
  rw [bvals_len] at e3
  rw [e3] at hs'
  refine ⟨g, off, cap, A, c, rfl, hb, hg, hn, hm, ?_, ?_, ?_, hs'⟩
  · have := q 0 (by omega)
    rw [← e1]; simpa [p3] using this
  · have := q 1 (by omega)
    rw [← e2, Nat.add_assoc]; simpa [p3] using this
  · have := q 2 (by omega)
    rw [Nat.add_assoc, this, ← e3]; simp [p3]
/-! ### Nets -/
/-- The program's net at n: it owns the blocks D. -/
def NetP (w : World) (D : Nat → Prop) (n : Nat) (L : List PK) : Prop :=
  D n ∧ (∀ k, D k → k < w.heap.size) ∧ w.frozen? ⟨n, 0, none⟩ = false ∧ ∃ v es, w.cell? ⟨n, 0, none⟩ = some v ∧ w.ownsRow 0 101 3 v L.length (flatP es) ∧ (∀ g, v.ownBlock = some g → D g ∧ g ≠ n) ∧ RowPk w (fun k => D k ∧ k ≠ n ∧ v.ownBlock ≠ some k) es L
theorem NetP.kept {w w' : World} {D : Nat → Prop} {n : Nat} {L : List PK} (h : NetP w D n L) (k : Kept D w w') (hs : w.heap.size ≤ w'.heap.size) : NetP w' D n L := by
  obtain ⟨h1, h2, h3, v, es, h4, h5, h6, h7⟩ := h
  exact ⟨h1, fun i hi => Nat.lt_of_lt_of_le (h2 i hi) hs, k.frozen h1 h3, v, es, k.cell h1 h4, own_kept h5 (fun g hg => k g (h6 g hg).1), h6, h7.kept (fun i hi => k i hi.1)⟩
theorem NetP.below {w w' : World} {D : Nat → Prop} {n : Nat} {L : List PK} (h : NetP w D n L) (hb : Below w.heap.size w w') : NetP w' D n L := h.kept (fun k hk => hb.block k (h.2.1 k hk)) hb.size
theorem NetP.qu {w w' : World} {D : Nat → Prop} {n : Nat} {L : List PK} (h : NetP w D n L) (hq : Qu w w') : NetP w' D n L := h.below (hq.below _)
theorem info_pk : (Tryz.prog.info? 101).map (fun i => (i.zero, i.size, i.bytes)) = some (some (.agg #[.int .i64 0, .int .i64 0, .slice none 0 0]), 3, 40) := by kernel_rfl
end Go.Proofs.YtkgifbnkkmeoiaaGreatDoor
/- slices.Clone at bytes. -/
namespace Go.Proofs.YtkgifbnkkmeoiaaGreatDoor
open Go.ChangeShapes Go.WideShapes Go.ChangeAt Go.RowKit
set_option linter.unusedVariables false

def CloneBP (l : List UInt8) (w : World) (e : Ending) (w' : World) : Prop := ∃ v, e = .returned v ∧ w'.ownsRow w.heap.size 5 1 v l.length (bvals l) ∧ Below w.heap.size w w'
set_option maxRecDepth 100000 in
set_option maxHeartbeats 400000 in
theorem clone_any (v : Value) (l : List UInt8) (w : World) (hv : Sl w w.heap.size v (bvals l)) (hl : l.length ≤ 140737488355328) :
    Calls Tryz.prog 55 #[v] w (CloneBP l w) := by
  obtain ⟨i0, hi, hz0, hz1, hz2⟩ := info_parts info_byte
  have hv' := hv
  obtain ⟨A, c, rfl, hc1, hc2, hA⟩ := hv
  simp only [bvals_len] at hc1 hv' ⊢
  have HV := hid hv'; have HA := hid hA
  clear hv' hA
  go_enter Tryz.func55, Tryz.ntmps55
  cases A with
  | none =>
    have h0 : l = [] := by
      cases l with
      | nil => rfl
      | cons x l => obtain ⟨b, off, h, _⟩ := HA.out (by simp [bvals]); cases h
    have H0 := hid h0; clear h0
    have hq : ∀ W : World, (binOp .eql 23 (.slice none l.length c) (.slice none 0 0)).run Tryz.prog W = .ok (.bool true) W := fun _ => rfl
    go_wp2
    go_ret
    exact ⟨_, rfl, by rw [H0.out]; exact World.ownsRow_nil _ _ _ _, Below.refl _ _⟩
  | some x =>
    have hq : ∀ W : World, (binOp .eql 23 (.slice (some x) l.length c) (.slice none 0 0)).run Tryz.prog W = .ok (.bool false) W := fun _ => rfl
    go_wp2_with (at_builtin; refine stop_here ?_)
    refine go_on ?_
    have hown : (w.alloc (.cells #[] 5)).ownsRow w.heap.size 5 1 (.slice (some ⟨w.heap.size, 0, none⟩) 0 0) 0 [] := by
      refine ⟨rfl, .inr ⟨w.heap.size, 0, #[], rfl, Nat.le_refl _, ?_, Nat.le_refl _, by simp [maxLen], rfl, rfl⟩⟩
      exact heap_alloc_new w _
    refine app_own (.tmp 5) (.tmp 6) 23 23 rfl rfl w.heap.size 5 i0 (.int .u8 0) 1 1 Tryz.underlying23 hi hz0 hz1 hz2 rfl (by omega) _ _ _ rfl hown (.slice (some x) l.length c) l.length (bvals l) rfl ?_ (by unfold maxLen; omega) (by omega) (by simp) ?_
    · have hs : Sl (w.alloc (.cells #[] 5)) w.heap.size (.slice (some x) l.length c) (bvals l) := by
        obtain ⟨A, c', g1, g2, g3, g4⟩ := HV.out
        refine ⟨A, c', g1, g2, g3, fun h0 => ?_⟩
        obtain ⟨b, off, g5, g6, g7⟩ := g4 h0
        exact ⟨b, off, g5, g6, fun j u hj => cell_alloc g6 (g7 j u hj)⟩
      have := src_sl _ Tryz.underlying23 hs (bvals_one l)
      rwa [bvals_len] at this
    · intro v2 w2 hown2 hg2 hb2
      go_wp2
      go_ret
      refine ⟨v2, rfl, by simpa using hown2, ?_⟩
      exact (bl1 w _).trans hb2
end Go.Proofs.YtkgifbnkkmeoiaaGreatDoor
