/- Regions whose order is open, first part: what an operation looks at; what a run of one foretells. -/
import Derived.Test.YtlilfiekkaolkaaAmQ
set_option linter.unusedVariables false
set_option linter.unusedSimpArgs false
namespace Go.Proofs.Ytlilfiekkaolkaa.Am
open Go

/-! ### What an operation looks at -/
def optL : Option Opd → List Opd
  | none => []
  | some x => [x]

def MOp.opds : MOp → List Opd
  | .mov x | .box x | .ld _ _ x | .nilck x | .isn x | .not x | .cvt _ x | .mkif _ x | .mksl _ _ x | .mkrows _ x | .slcA _ x | .fld _ x | .ext x _ | .tas _ x | .len x => [x]
  | .tnil _ | .alloc .. | .mkmap | .bad => []
  | .pick c a b => [c, a, b]
  | .build _ _ parts => parts.map (·.2.2)
  | .bsl _ _ es | .bslT _ es => es
  | .st _ a x => [a, x]
  | .bin _ x y | .beq _ x y | .ixs _ x y | .ixa _ _ x y | .ixv _ _ x y | .lkp _ _ x y | .app _ x y | .cpy _ x y | .aeq _ _ x y => [x, y]
  | .mkfn _ fs cs => fs ++ cs
  | .slc _ x l h => x :: (optL l ++ optL h)
  | .mup _ m k v => [m, k, v]
  | .call _ xs => xs
  | .callv f xs => f :: xs
  | .inv _ x xs => x :: xs
  | .mx xs | .mn xs => xs

theorem map_val {E E' : Env} : ∀ {xs : List Opd}, (∀ x ∈ xs, val E x = val E' x) → xs.map (val E) = xs.map (val E') := fun h => List.map_congr_left h

theorem partsA_congr {E E' : Env} {z : Nat} : ∀ {l : List (Nat × Nat × Opd)}, (∀ x ∈ l.map (·.2.2), val E x = val E' x) → partsA E z l = partsA E' z l
  | [], _ => rfl
  | (off, size, x) :: r, h => by
    have h1 : val E x = val E' x := h x (by simp)
    simp only [partsA, h1, partsA_congr (l := r) fun y hy => h y (by simp at hy ⊢; exact .inr hy)]

theorem step_congr {call : CallA} {lo : Nat} {E E' : Env} {T : Tab} {m : MOp} (h : ∀ x ∈ m.opds, val E x = val E' x) : stepOp call lo E T m = stepOp call lo E' T m := by
  cases m <;> simp only [MOp.opds, List.mem_cons, List.not_mem_nil, or_false, forall_eq_or_imp, forall_eq] at h <;> simp only [stepOp]
  case build z toks parts => rw [partsA_congr h]
  case bsl f n es => rw [map_val h]
  case bslT n es => rw [map_val h]
  case mkfn f fs cs => rw [map_val fun x hx => h x (List.mem_append_left _ hx), map_val fun x hx => h x (List.mem_append_right _ hx)]
  case slc n x l hh =>
    have h1 : val E x = val E' x := h.1
    have h2 : loA E l = loA E' l := by
      cases l with
      | none => rfl
      | some y => simp only [loA, h.2 y (by simp [optL])]
    have h3 : ∀ len, hiA E len hh = hiA E' len hh := fun len => by
      cases hh with
      | none => rfl
      | some y => simp only [hiA, h.2 y (by simp [optL])]
    simp only [h1, h2, h3]
  case call f xs => rw [map_val h]
  case callv f xs => rw [h.1, map_val h.2]
  case inv tbl x xs => rw [h.1, map_val h.2]
  case mx xs => rw [map_val h]
  case mn xs => rw [map_val h]
  all_goals simp_all

/-- An operation that looks at no memory answers alike whatever lies there. -/
theorem step_isE {call : CallA} {lo lo' : Nat} {E : Env} {T T1 T' : Tab} {m : MOp} {v : AV} (hE : m.isE = true) (h : stepOp call lo E T m = some (v, T')) : T' = T ∧ stepOp call lo' E T1 m = some (v, T1) := by
  cases m <;> simp only [MOp.isE, Bool.false_eq_true] at hE <;> simp only [stepOp] at h ⊢
  case build z toks parts =>
    have ht : toks = [] := by simpa using hE
    subst ht
    simp only [toksInto] at h ⊢
    split at h
    · cases h; exact ⟨rfl, rfl⟩
    · cases h
  case bsl f n es =>
    have hf : f = false := by simpa using hE
    subst hf
    simp only [Bool.false_eq_true, if_false] at h ⊢
    split at h
    · cases h; rename_i hh; rw [if_pos hh]; exact ⟨rfl, rfl⟩
    · cases h
  case slc n x l hh =>
    split at h
    · cases h
    · split at h
      · split at h
        · rename_i hb
          split at h
          · split at h
            · rename_i hn; cases h; simp [hb, hn]; try exact hb
            · cases h
          · split at h
            · rename_i hn; cases h; simp [hb, hn]; try exact hb
            · cases h
          · cases h
        · cases h
      · cases h
  all_goals (first
    | (cases h; exact ⟨rfl, rfl⟩)
    | (simp only [Option.map_eq_some_iff, Prod.mk.injEq] at h ⊢; obtain ⟨u, hu, rfl, rfl⟩ := h; exact ⟨rfl, u, hu, rfl, rfl⟩)
    | (repeat' split at h) <;> first
      | (cases h; done)
      | (cases h; simp_all; done)
      | (simp only [Option.map_eq_some_iff, Prod.mk.injEq] at h; obtain ⟨u, hu, rfl, rfl⟩ := h; simp_all; done))
end Go.Proofs.Ytlilfiekkaolkaa.Am
