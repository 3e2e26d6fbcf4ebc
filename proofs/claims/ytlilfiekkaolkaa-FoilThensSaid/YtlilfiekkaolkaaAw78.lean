/- What every program must know of foils: by the kernel. -/
import Derived.Test.YtlilfiekkaolkaaEw
import Derived.KernelRfl
namespace Go.Proofs.Ytlilfiekkaolkaa.Am
open Go
theorem p78 : Pr 78 [] (B true) true := pr_fuel 60 (m := m78) rfl rfl (by kernel_rfl)
theorem a78 (lo : Nat) (T : Tab) : acall prog lo 78 [] T = some (B true, T) := call_cl p78 (by simp) lo T
end Go.Proofs.Ytlilfiekkaolkaa.Am
