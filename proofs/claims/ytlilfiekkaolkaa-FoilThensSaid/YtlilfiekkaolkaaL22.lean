/- 'FoilThens': for any rows, any vertex and any memory the environment's memory is the document's: the law answers true, and its arguments read as before. Conditions: none. -/
import Derived.Test.YtlilfiekkaolkaaS07
import Derived.Test.YtlilfiekkaolkaaAw78
import Derived.Test.YtlilfiekkaolkaaBr
import Derived.Test.YtlilfiekkaolkaaFc22
set_option linter.unusedVariables false
set_option linter.unusedSimpArgs false
set_option maxRecDepth 100000
namespace Go.Proofs.Ytlilfiekkaolkaa.Am
open Go Go.ChangeShapes Go.WideShapes Go.ChangeAt Go.RowKit
theorem p22 (a b c d e f g : Nl) (o : List Int) (nx : List (List Int)) (hg : okG o nx) (A E : List (List Bool)) (v mem : Int) : Pr 22 [gameV a b c o nx, rowsV d e A, rowsV f g E, I v, I mem] (B true) true := by
  have h49 := a49 a b c o nx (lim_of hg.2.2) d e f g A E
  have h85 := a85 a b c d e f g o nx (short_of hg.2) A E v mem
  have h84 := a84 a b c d e f g o nx (short_of hg.2) A E v mem
  have h78 := a78
  refine pr_ret (m := m22) rfl rfl (E := [(10, B true)]) (T := [.box [Ar a I o, Ar b (Ar c I) nx]]) ?_ (t := 10) rfl rfl rfl rfl
  show exec prog 0 c22 [(0, _), (1, _), (2, _), (3, _), (4, _)] [] = _
  by_cases h1 : 0 < heavy18 o nx A E
  · simp only [ev, Nat.reduceBEq, Nat.reduceAdd, decide_true, decide_false, r22_1, r22_2, r22_3, x22_4, q22_4, c22, h49, h1, h78]
  · simp only [ev, Nat.reduceBEq, Nat.reduceAdd, decide_true, decide_false, r22_1, r22_2, r22_3, x22_4, q22_4, c22, h49, h1, h85, h84, h78]
theorem law22 (o : List Int) (nx : List (List Int)) (hg : okG o nx) (A : List (List Bool)) (hA : okBBs A) (E : List (List Bool)) (hE : okBBs E) (v : Int) (hv : okI v) (mem : Int) (hm : okI mem) :
    acall prog 0 22 [gameV .maybe .maybe .maybe o nx, rowsV .maybe .maybe A, rowsV .maybe .maybe E, I v, I mem] [] = some (B true, []) := call_cl (p22 .maybe .maybe .maybe .maybe .maybe .maybe .maybe o nx hg A E v mem) (by simp [cl_game, cl_AAB, cl_I]) 0 []
theorem lifted22 (os : Os) (started : os.Started) (H : Type) (enc : TypeId × Value → H) :
    ReturnsInHanded {} Try.checked os 22 .any (Rows.foilThensSpec.pre6 enc Try.prog Try.f22 Rows.foilThensRow.domain false) (Rows.foilThensSpec.post enc Try.prog Try.f22 false true false false) := by
  refine returnsInHanded_of_change (C := Try.checked) own0 started (by kernel_rfl) Try.func22
    (ChangeSpec.witness6 (enc := enc) (C := Try.checked) false ⟨#[], #[.agg #[.slice none 0 0, .slice none 0 0], .slice none 0 0, .slice none 0 0, .int .i64 0, .int .i64 0], []⟩ 8 (by kernel_rfl) (by kernel_rfl) (by kernel_rfl) (by kernel_rfl)) ?_
  intro W base args ds gs before hval0 hW _ _
  have hval : ∀ (j : Nat) t v, Try.f22.params[j]? = some t → args[j]? = some v → Value.okWide Try.prog W .any base t v := hval0
  have hW' := hW
  obtain ⟨p, q, hA0, hV, rfl, hfz, hnd⟩ := hW
  have hA : DataW.TrodAll enc Try.prog W 0 (fun _ => true) true Try.f22.params.toList args.toList ds p := hA0
  rw [Try.params22] at hA hval
  obtain ⟨v0, vs0, d0, ds0, p0, q0, hargs, rfl, rfl, h0, r0⟩ := trodAll_cons hA
  obtain ⟨v1, vs1, d1, ds1, p1, q1, rfl, rfl, rfl, h1, r1⟩ := trodAll_cons r0
  obtain ⟨v2, vs2, d2, ds2, p2, q2, rfl, rfl, rfl, h2, r2⟩ := trodAll_cons r1
  obtain ⟨v3, vs3, d3, ds3, p3, q3, rfl, rfl, rfl, h3, r3⟩ := trodAll_cons r2
  obtain ⟨v4, vs4, d4, ds4, p4, q4, rfl, rfl, rfl, h4, r4⟩ := trodAll_cons r3
  obtain ⟨rfl, rfl, rfl⟩ := trodAll_nil r4
  obtain rfl : args = #[v0, v1, v2, v3, v4] := by cases args; simp_all
  obtain ⟨rfl, rfl⟩ := trodVars_none hV
  obtain ⟨o0, nx0, hg0, e0⟩ := arg_game (hval 0 25 v0 rfl rfl) h0
  obtain ⟨l1, hl1, e1⟩ := arg_boolrows (hval 1 45 v1 rfl rfl) h1
  obtain ⟨l2, hl2, e2⟩ := arg_boolrows (hval 2 45 v2 rfl rfl) h2
  obtain ⟨n3, hn3, e3⟩ := arg_int (hval 3 3 v3 rfl rfl) h3
  obtain ⟨n4, hn4, e4⟩ := arg_int (hval 4 3 v4 rfl rfl) h4
  refine (law_calls (law22 o0 nx0 hg0 l1 hl1 l2 hl2 n3 hn3 n4 hn4) (rvs_cons e0 (rvs_cons e1 (rvs_cons e2 (rvs_cons e3 (rvs_cons e4 rvs_nil)))))).mono fun e W' ⟨he, hS⟩ => ?_
  subst he
  exact ⟨_, rfl, run_post hW' rfl rfl (by rw [Try.params22]; decide +kernel) (by kernel_rfl) hS⟩
end Go.Proofs.Ytlilfiekkaolkaa.Am
namespace Go.Proofs.Ytlilfiekkaolkaa
open Go Am
theorem foilThens_holds : Rows.FoilThensSaid :=
  OpenClaim.holds_of_wide 22 Try.f22 rfl rfl rfl rfl rfl rfl rfl ⟨rfl, rfl, rfl, rfl, rfl⟩ rfl rfl rfl rfl rfl named22 Try.func22 facts22 inst22 wrap22 (fun os started H enc _ => lifted22 os started H enc)
end Go.Proofs.Ytlilfiekkaolkaa
