/- What every program must know of plans: by the kernel. -/
import Derived.Test.YtlilfiekkaolkaaEw
import Derived.KernelRfl
namespace Go.Proofs.Ytlilfiekkaolkaa.Am
open Go
theorem p50 : Pr 50 [] (B true) true := pr_fuel 60 (m := m50) rfl rfl (by kernel_rfl)
theorem a50 (lo : Nat) (T : Tab) : acall prog lo 50 [] T = some (B true, T) := call_cl p50 (by simp) lo T
end Go.Proofs.Ytlilfiekkaolkaa.Am
