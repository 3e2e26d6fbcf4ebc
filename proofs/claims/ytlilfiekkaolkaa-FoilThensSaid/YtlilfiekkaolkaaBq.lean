/- Each function of the program is the machine's code: checked by the kernel. -/
import Derived.Test.YtlilfiekkaolkaaAmW
import Derived.Test.YtlilfiekkaolkaaAmZ
import Derived.Test.YtlilfiekkaolkaaProg
import Derived.KernelRfl
set_option linter.unusedVariables false
namespace Go.Proofs.Ytlilfiekkaolkaa.Am
open Go
/-! ### The check of all functions -/
def chkF (P : Program) (f : Nat) (m : MFunc) : Bool := match P.funcs[f % 1000]? with
  | some fn => match fn.body with
    | some c => (fn.name != "runtime.NumGoroutine") && (chkCode P fn.ntmps m.code c && chkRes P m.res fn.results.toList)
    | none => false
  | none => false
theorem look_all {p : Nat → MFunc → Bool} : ∀ {t : Tr} {f : Nat} {m : MFunc}, t.look f = some m → t.all p = true → p f m = true
  | .lf, _, _, h, _ => by cases h
  | .nd l k m' r, f, m, h, ha => by
    simp only [Tr.all, Bool.and_eq_true] at ha
    simp only [Tr.look] at h
    cases h1 : Nat.beq f k with
    | true => rw [h1] at h; have e := Nat.eq_of_beq_eq_true h1; subst e; cases h; exact ha.2.1
    | false =>
      rw [h1] at h
      cases h2 : Nat.blt f k with
      | true => rw [h2] at h; exact look_all h ha.1
      | false => rw [h2] at h; exact look_all h ha.2.2
theorem tbl_ok : tbl.all (chkF Try.prog) = true := by kernel_rfl
theorem progOK : ProgOK Try.prog prog where
  mix := by kernel_rfl
  fn f m h := by
    have h := look_all h tbl_ok
    unfold chkF at h
    split at h
    · rename_i fn hf
      split at h
      · rename_i c hc
        simp only [Bool.and_eq_true, bne_iff_ne, ne_eq] at h
        exact ⟨fn, c, hf, hc, h.1, h.2.1, h.2.2⟩
      · cases h
    · cases h

end Go.Proofs.Ytlilfiekkaolkaa.Am
