/- How the machine's code is written. -/
import Derived.Test.YtlilfiekkaolkaaAmA
namespace Go.Proofs.Ytlilfiekkaolkaa.Am
open Go
abbrev Opd.i (n : Int) : Opd := .c (.int .i64 n)
abbrev o1 (d : Nat) (m : MOp) : MOper := ⟨some d, none, m, .E, false⟩
abbrev o2 (d g : Nat) (b : Bool) (m : MOp) : MOper := ⟨some d, some (g, b), m, .E, false⟩
abbrev n1 (m : MOp) : MOper := ⟨none, none, m, .E, false⟩
abbrev ox (d : Option Nat) (g : Option (Nat × Bool)) (c : Cls) (s : Bool) (m : MOp) : MOper := ⟨d, g, m, c, s⟩
end Go.Proofs.Ytlilfiekkaolkaa.Am
