/- 3 texts of this claim, in build order. -/
import Derived.Test.YtgoapnkdcfcjgaaGreatPmmljdcfd
import Derived.Test.YtgoapnkdcfcjgaaGreatPkohgbcdn
import Derived.Test.YtgoapnkdcfcjgaaGreatPlhikkigo
import Derived.Test.YtgoapnkdcfcjgaaGreatPojhdnmmf
/- Arguments opened: lists of texts and of numbers, schemas. -/
namespace Go.Proofs.YtgoapnkdcfcjgaaGreat
open Go.ChangeShapes Go.WideShapes Go.ChangeAt Go.RowKit Go.Deep
set_option linter.unusedVariables false
set_option linter.unusedSimpArgs false

theorem opens_rowsQ : Opens Tryz.prog 24 1 (rdSlice 1 rdInts) := opens_slice (e := 27) good_ints Tryz.underlying24 opens_intsQ (by kernel_rfl) (by omega)
theorem opens_dim : Opens Tryz.prog 54 2 rdDim := by
  refine opens_struct (k := 2) Tryz.underlying54 (by kernel_rfl) ?_
  exact opensF_cons (k2 := 1) (by rfl) (opens_str Tryz.underlying9 (by kernel_rfl)) (opensF_one (by rfl) opens_strsQ)
theorem opens_dims : Opens Tryz.prog 22 1 (rdSlice 2 rdDim) := opens_slice (e := 54) good_dim Tryz.underlying22 opens_dim (by kernel_rfl) (by omega)
theorem opens_schema : Opens Tryz.prog 26 3 rdSchema := by
  refine opens_struct (k := 3) Tryz.underlying26 (by kernel_rfl) ?_
  exact opensF_cons (k2 := 2) (by rfl) opens_dims (opensF_cons (k2 := 1) (by rfl) opens_strsQ (opensF_one (by rfl) opens_rowsQ))
end Go.Proofs.YtgoapnkdcfcjgaaGreat
/- Arguments opened: queries. -/
namespace Go.Proofs.YtgoapnkdcfcjgaaGreat
open Go.ChangeShapes Go.WideShapes Go.ChangeAt Go.RowKit Go.Deep
set_option linter.unusedVariables false
set_option linter.unusedSimpArgs false

theorem opens_filter : Opens Tryz.prog 83 3 rdFilter := by
  refine opens_struct (k := 3) Tryz.underlying83 (by kernel_rfl) ?_
  exact opensF_cons (k2 := 2) (by rfl) (opens_int Tryz.underlying3 (by kernel_rfl)) (opensF_cons (k2 := 1) (by rfl) (opens_int Tryz.underlying3 (by kernel_rfl)) (opensF_one (by rfl) opens_pathsQ))
theorem opens_filters : Opens Tryz.prog 28 1 (rdSlice 3 rdFilter) := opens_slice (e := 83) good_filter Tryz.underlying28 opens_filter (by kernel_rfl) (by omega)
theorem opens_query : Opens Tryz.prog 30 2 rdQuery := by
  refine opens_struct (k := 2) Tryz.underlying30 (by kernel_rfl) ?_
  exact opensF_cons (k2 := 1) (by rfl) opens_intsQ (opensF_one (by rfl) opens_filters)
end Go.Proofs.YtgoapnkdcfcjgaaGreat
/- The statement PlanLess: from the walk of the law's function (it returns true, and nothing that was there has turned) to the given row. No condition. -/
namespace Go.Proofs.YtgoapnkdcfcjgaaGreat.planLess
open Go.ChangeShapes Go.WideShapes Go.ChangeAt Go.RowKit Go.WideMaps Go.WideElems Go.Joins
open Go.ChangeMaps (open_string shut_string)
set_option linter.unusedVariables false

set_option maxRecDepth 100000 in
theorem lifted (os : Os) (started : os.Started) (H : Type) (enc : TypeId × Value → H) :
    ReturnsInHanded {} Tryz.checked os 6 .any (Rows.planLessSpec.pre6 enc Tryz.prog Tryz.f6 Rows.planLessRow.domain false) (Rows.planLessSpec.post enc Tryz.prog Tryz.f6 false true false false) := by
  refine returnsInHanded_of_change (C := Tryz.checked) own started (by kernel_rfl) Tryz.func6
    (ChangeSpec.witness6 (enc := enc) (C := Tryz.checked) false ⟨#[], #[.agg #[.slice none 0 0, .slice none 0 0, .slice none 0 0], .agg #[.slice none 0 0, .slice none 0 0], .int .i64 0], []⟩ 8 (by kernel_rfl) (by kernel_rfl) (by kernel_rfl) (by kernel_rfl)) ?_
  intro W base args ds gs before hval0 hW hcnd _
  have hval : ∀ (j : Nat) t v, Tryz.f6.params[j]? = some t → args[j]? = some v → Value.okWide Tryz.prog W .any base t v := hval0
  have hW' := hW
  obtain ⟨p, q, hA0, hV, rfl, hfz, hnd⟩ := hW
  have hA : DataW.TrodAll enc Tryz.prog W 0 (fun _ => true) true Tryz.f6.params.toList args.toList ds p := hA0
  rw [Tryz.params6] at hA hval
  obtain ⟨v0, vs0, d0, ds0, p0, q0, hargs, rfl, rfl, h0, r0⟩ := trodAll_cons hA
  obtain ⟨v1, vs1, d1, ds1, p1, q1, rfl, rfl, rfl, h1, r1⟩ := trodAll_cons r0
  obtain ⟨v2, vs2, d2, ds2, p2, q2, rfl, rfl, rfl, h2, r2⟩ := trodAll_cons r1
  obtain ⟨rfl, rfl, rfl⟩ := trodAll_nil r2
  obtain rfl : args = #[v0, v1, v2] := by cases args; simp_all
  obtain ⟨rfl, rfl⟩ := trodVars_none hV
  obtain ⟨c0, x0, rfl, z0, s0⟩ := open_read_struct Tryz.underlying26 opens_schema (hval 0 26 v0 rfl rfl) h0
  obtain ⟨c1, x1, rfl, z1, s1⟩ := open_read_struct Tryz.underlying30 opens_query (hval 1 30 v1 rfl rfl) h1
  obtain ⟨a2, rfl, rfl, rfl, w2⟩ := open_int Tryz.underlying3 (hval 2 3 v2 rfl rfl) h2
  have b2 := bounds_i64 w2
  clear hval0
  refine (walk_PlanLess W c0 x0 z0 s0 c1 x1 z1 s1 a2 b2).mono fun e W' ⟨he, hb⟩ => ?_
  subst he
  exact ⟨_, rfl, post_of_below hW' (fun _ _ _ => (trodAll_cons_mk (shut_bool Tryz.underlying4 _) trodAll_mk0)) (fun sp hs => trodAll_stays laidOut hb (by kernel_rfl) hA0 (fun x hx => hW'.lt x (List.mem_append_left _ hx)) (fun x hx => hs x (List.mem_append_left _ hx)))
    (fun _ _ => rfl) rfl hb (ok_one (by kernel_rfl) rfl (okWide_bool_mk Tryz.underlying4 _))⟩

theorem over : Rows.planLessRow.holds Tryz.pinned (OpenSpec.ofChange Rows.planLessSpec) :=
  OpenClaim.holds_of_wide 6 Tryz.f6 rfl rfl rfl rfl rfl rfl rfl ⟨rfl, rfl, rfl, rfl, rfl⟩ rfl rfl rfl rfl rfl (by kernel_rfl) Tryz.func6 (by kernel_rfl)
    (of_decide_eq_true (by kernel_rfl)) (by unfold Func.isWrapper; first | (rw [if_pos (by decide +kernel)]; kernel_rfl) | (rw [if_neg (by decide +kernel)]; exact ⟨rfl, rfl⟩))
    (fun os started H enc _ => lifted os started H enc)

theorem proved : Rows.PlanLessSaid :=
  over
#print axioms proved
end Go.Proofs.YtgoapnkdcfcjgaaGreat.planLess
