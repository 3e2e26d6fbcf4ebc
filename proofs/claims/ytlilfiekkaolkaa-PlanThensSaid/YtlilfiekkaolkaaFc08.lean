/- What the row of 'PlanThens' asks of the program, by the kernel. -/
import Derived.Test.YtlilfiekkaolkaaFa
set_option maxRecDepth 100000
namespace Go.Proofs.Ytlilfiekkaolkaa.Am
open Go
theorem facts8 : joinedFacts Try.checked.prog 8 Try.f8 Rows.planThensSpec Rows.planThensRow = true := by
  unfold joinedFacts
  rw [fa_all.1, fa_all.2.1, fa_all.2.2, fa_heard]
  kernel_rfl
theorem named8 : Try.checked.prog.funcNamed Rows.planThensRow.func = some 8 := by kernel_rfl
theorem inst8 : Try.f8.isInstance Try.checked.prog Rows.planThensRow.origin Rows.planThensRow.targs := of_decide_eq_true (by kernel_rfl)
theorem wrap8 : Try.f8.isWrapper Try.checked.prog Rows.planThensRow.wrapper Rows.planThensRow.mainSum := by
  unfold Func.isWrapper
  rw [if_neg (of_decide_eq_false (by kernel_rfl))]
  exact ⟨rfl, rfl⟩
end Go.Proofs.Ytlilfiekkaolkaa.Am
