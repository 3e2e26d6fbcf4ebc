/- What the row of 'FoilThens' asks of the program, by the kernel. -/
import Derived.Test.YtlilfiekkaolkaaFa
set_option maxRecDepth 100000
namespace Go.Proofs.Ytlilfiekkaolkaa.Am
open Go
theorem facts22 : joinedFacts Try.checked.prog 22 Try.f22 Rows.foilThensSpec Rows.foilThensRow = true := by
  unfold joinedFacts
  rw [fa_all.1, fa_all.2.1, fa_all.2.2, fa_heard]
  kernel_rfl
theorem named22 : Try.checked.prog.funcNamed Rows.foilThensRow.func = some 22 := by kernel_rfl
theorem inst22 : Try.f22.isInstance Try.checked.prog Rows.foilThensRow.origin Rows.foilThensRow.targs := of_decide_eq_true (by kernel_rfl)
theorem wrap22 : Try.f22.isWrapper Try.checked.prog Rows.foilThensRow.wrapper Rows.foilThensRow.mainSum := by
  unfold Func.isWrapper
  rw [if_neg (of_decide_eq_false (by kernel_rfl))]
  exact ⟨rfl, rfl⟩
end Go.Proofs.Ytlilfiekkaolkaa.Am
