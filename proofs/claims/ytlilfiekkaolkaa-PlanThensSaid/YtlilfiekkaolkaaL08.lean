/- 'PlanThens': for any rows, any vertex and any memory the system's memory is the document's: the law answers true, and its arguments read as before. Conditions: none. -/
import Derived.Test.YtlilfiekkaolkaaS05
import Derived.Test.YtlilfiekkaolkaaAw50
import Derived.Test.YtlilfiekkaolkaaBr
import Derived.Test.YtlilfiekkaolkaaFc08
set_option linter.unusedVariables false
set_option linter.unusedSimpArgs false
set_option maxRecDepth 100000
namespace Go.Proofs.Ytlilfiekkaolkaa.Am
open Go Go.ChangeShapes Go.WideShapes Go.ChangeAt Go.RowKit

theorem short_of {nx : List (List Int)} (h : okIIs nx) : Short nx := fun l hl => by
  have := (h.1 l hl).2
  unfold maxLen at this
  omega
theorem lim_of {α : Type} {l : List α} (h : l.length ≤ maxLen) : l.length < 9223372036854775808 := by unfold maxLen at h; omega

theorem p8 (a b c d e : Nl) (o : List Int) (nx : List (List Int)) (hg : okG o nx) (E : List (List Bool)) (v mem : Int) : Pr 8 [gameV a b c o nx, rowsV d e E, I v, I mem] (B true) true := by
  have h49 := a49 a b c o nx (lim_of hg.2.2) .isnil .isnil d e [] E
  have h55 := a55 a b c d e o nx (short_of hg.2) E v mem
  have h54 := a54 a b c d e o nx (short_of hg.2) E v mem
  have h50 := a50
  simp only [rowsV, Ar, List.map_nil] at h49
  refine pr_ret (m := m8) rfl rfl (E := [(8, B true)]) (T := [.box [Ar a I o, Ar b (Ar c I) nx]]) ?_ (t := 8) rfl rfl rfl rfl
  show exec prog 0 c8 [(0, _), (1, _), (2, _), (3, _)] [] = _
  by_cases h1 : 0 < heavy18 o nx [] E
  · simp only [ev, Nat.reduceBEq, Nat.reduceAdd, decide_true, decide_false, r8_1, r8_2, r8_3, x8_4, q8_4, c8, h49, h1, h50]
  · simp only [ev, Nat.reduceBEq, Nat.reduceAdd, decide_true, decide_false, r8_1, r8_2, r8_3, x8_4, q8_4, c8, h49, h1, h55, h54, h50]

theorem lifted8 (os : Os) (started : os.Started) (H : Type) (enc : TypeId × Value → H) :
    ReturnsInHanded {} Try.checked os 8 .any (Rows.planThensSpec.pre6 enc Try.prog Try.f8 Rows.planThensRow.domain false) (Rows.planThensSpec.post enc Try.prog Try.f8 false true false false) := by
  refine returnsInHanded_of_change (C := Try.checked) own0 started (by kernel_rfl) Try.func8
    (ChangeSpec.witness6 (enc := enc) (C := Try.checked) false ⟨#[], #[.agg #[.slice none 0 0, .slice none 0 0], .slice none 0 0, .int .i64 0, .int .i64 0], []⟩ 8 (by kernel_rfl) (by kernel_rfl) (by kernel_rfl) (by kernel_rfl)) ?_
  intro W base args ds gs before hval0 hW _ _
  have hval : ∀ (j : Nat) t v, Try.f8.params[j]? = some t → args[j]? = some v → Value.okWide Try.prog W .any base t v := hval0
  have hW' := hW
  obtain ⟨p, q, hA0, hV, rfl, hfz, hnd⟩ := hW
  have hA : DataW.TrodAll enc Try.prog W 0 (fun _ => true) true Try.f8.params.toList args.toList ds p := hA0
  rw [Try.params8] at hA hval
  obtain ⟨v0, vs0, d0, ds0, p0, q0, hargs, rfl, rfl, h0, r0⟩ := trodAll_cons hA
  obtain ⟨v1, vs1, d1, ds1, p1, q1, rfl, rfl, rfl, h1, r1⟩ := trodAll_cons r0
  obtain ⟨v2, vs2, d2, ds2, p2, q2, rfl, rfl, rfl, h2, r2⟩ := trodAll_cons r1
  obtain ⟨v3, vs3, d3, ds3, p3, q3, rfl, rfl, rfl, h3, r3⟩ := trodAll_cons r2
  obtain ⟨rfl, rfl, rfl⟩ := trodAll_nil r3
  obtain rfl : args = #[v0, v1, v2, v3] := by cases args; simp_all
  obtain ⟨rfl, rfl⟩ := trodVars_none hV
  obtain ⟨o, nx, hg, e0⟩ := arg_game (hval 0 25 v0 rfl rfl) h0
  obtain ⟨E, hE, e1⟩ := arg_boolrows (hval 1 45 v1 rfl rfl) h1
  obtain ⟨v, hv, e2⟩ := arg_int (hval 2 3 v2 rfl rfl) h2
  obtain ⟨mem, hm, e3⟩ := arg_int (hval 3 3 v3 rfl rfl) h3
  have hl := call_cl (p8 .maybe .maybe .maybe .maybe .maybe o nx hg E v mem) (by simp [cl_game, cl_AAB, cl_I]) 0 []
  refine (law_calls hl (rvs_cons e0 (rvs_cons e1 (rvs_cons e2 (rvs_cons e3 rvs_nil))))).mono fun e W' ⟨he, hS⟩ => ?_
  subst he
  exact ⟨_, rfl, run_post hW' rfl rfl (by rw [Try.params8]; decide +kernel) (by kernel_rfl) hS⟩

theorem planThens_holds : Rows.PlanThensSaid :=
  OpenClaim.holds_of_wide 8 Try.f8 rfl rfl rfl rfl rfl rfl rfl ⟨rfl, rfl, rfl, rfl, rfl⟩ rfl rfl rfl rfl rfl named8 Try.func8 facts8 inst8 wrap8 (fun os started H enc _ => lifted8 os started H enc)
end Go.Proofs.Ytlilfiekkaolkaa.Am
namespace Go.Proofs.Ytlilfiekkaolkaa
theorem planThens_holds : Rows.PlanThensSaid := Am.planThens_holds
end Go.Proofs.Ytlilfiekkaolkaa
