/- What the functions compute: membership, rows that rise, games that may be, games that are not too large. -/
import Derived.Test.YtlilfiekkaolkaaEw
set_option linter.unusedVariables false
set_option linter.unusedSimpArgs false
namespace Go.Proofs.Ytlilfiekkaolkaa.Am
open Go

/-! ### has -/
/-- Is a number in a row? -/
def hasI (l : List Bool) (v : Int) : Bool := if 0 ≤ v ∧ v < l.length then (l[v.toNat]?).getD false else false
def has (l : List Bool) (v : Nat) : Bool := (l[v]?).getD false
theorem hasI_nat (l : List Bool) (v : Nat) : hasI l (v : Int) = has l v := by
  unfold hasI has
  by_cases h : v < l.length
  · rw [if_pos ⟨by omega, by omega⟩]; simp
  · rw [if_neg (by omega)]; simp [List.getElem?_eq_none (Nat.le_of_not_lt h)]

theorem p48 (nl : Nl) (l : List Bool) (v : Int) : Pr 48 [Ar nl B l, I v] (B (hasI l v)) true := by
  by_cases h1 : 0 ≤ v
  · obtain ⟨j, rfl⟩ := Int.eq_ofNat_of_zero_le h1
    rw [hasI_nat]
    by_cases h2 : (j : Int) < (l.length : Int)
    · have hj : j < l.length := by omega
      obtain ⟨x, hx⟩ := get_ex hj
      refine pr_ret (m := m48) rfl rfl (E := [(4, B x)]) (T := []) ?_ (t := 4) rfl rfl (by simp only [has, hx]; rfl) rfl
      show exec prog 0 c48 [(0, _), (1, _)] [] = _
      simp only [ev, Nat.reduceBEq, Nat.reduceAdd, decide_true, decide_false, r48_1, r48_2, c48, h1, h2, hj, hx]
    · have hj : has l j = false := by unfold has; rw [List.getElem?_eq_none (by omega)]; rfl
      refine pr_ret (m := m48) rfl rfl (E := [(4, B false)]) (T := []) ?_ (t := 4) rfl rfl (by rw [hj]; rfl) rfl
      show exec prog 0 c48 [(0, _), (1, _)] [] = _
      simp only [ev, Nat.reduceBEq, Nat.reduceAdd, decide_true, decide_false, r48_1, r48_2, c48, h1, h2]
  · have hj : hasI l v = false := by unfold hasI; rw [if_neg (by omega)]
    refine pr_ret (m := m48) rfl rfl (E := [(4, B false)]) (T := []) ?_ (t := 4) rfl rfl (by rw [hj]; rfl) rfl
    show exec prog 0 c48 [(0, _), (1, _)] [] = _
    simp only [ev, Nat.reduceBEq, Nat.reduceAdd, decide_true, decide_false, r48_1, r48_2, c48, h1]
theorem a48 (nl : Nl) (l : List Bool) (v : Int) (lo : Nat) (T : Tab) : acall prog lo 48 [Ar nl B l, I v] T = some (B (hasI l v), T) := call_cl (p48 nl l v) (by simp [cl_AB, cl_I]) lo T

/-! ### Rows that rise -/
/-- Is a row rising, from a bound on, and below n? -/
def rising (n : Int) : Int → List Int → Bool
  | _, [] => true
  | was, v :: r => !decide (v ≤ was) && !decide (n ≤ v) && rising n v r

theorem l129 {lo : Nat} {T : Tab} (nl : Nl) (l : List Int) (n : Int) (hb : l.length < 9223372036854775808) : ∀ (k j : Nat) (was : Int), j + k = l.length → ∃ E', exec prog lo (.loop [1, 5, 8, 9, 10] b129_1) [(1, I n), (5, I was), (8, .fz nl 1 (l.map I)), (9, N l.length), (10, N j)] T
    = some (if rising n was (l.drop j) then .ext 0 E' T else .ret [(4, B false)] T) := by
  intro k
  induction k with
  | zero =>
    intro j was hj
    have h0 := lt_f (a := j) (b := l.length) (by omega)
    rw [List.drop_eq_nil_of_le (by omega)]
    rw [ex_loop]; conv in exec _ _ b129_1 _ _ => rw [b129_1]
    simp only [ev, Nat.reduceBEq, Nat.reduceAdd, decide_true, decide_false, r129_4, h0, rising, if_true]
    exact ⟨_, rfl⟩
  | succ k ih =>
    intro j was hj
    have h0 := lt_t (a := j) (b := l.length) (by omega)
    obtain ⟨x, hx⟩ := get_ex (l := l) (j := j) (by omega)
    have hjl : j < l.length := by omega
    have hw := wrap_succ (j := j) (by omega)
    rw [drop_get hx]
    rw [ex_loop]; conv in exec _ _ b129_1 _ _ => rw [b129_1]
    by_cases h1 : x ≤ was
    · simp only [ev, Nat.reduceBEq, Nat.reduceAdd, decide_true, decide_false, r129_4, r129_5, r129_6, r129_7, r129_8, r129_9, h0, hx, hjl, hw, h1, rising, Bool.false_eq_true, if_false]
      exact ⟨[], trivial⟩
    · by_cases h2 : n ≤ x
      · simp only [ev, Nat.reduceBEq, Nat.reduceAdd, decide_true, decide_false, r129_4, r129_5, r129_6, r129_7, r129_8, r129_9, h0, hx, hjl, hw, h1, h2, rising, Bool.false_eq_true, if_false]
        exact ⟨[], trivial⟩
      · simp only [ev, Nat.reduceBEq, Nat.reduceAdd, decide_true, decide_false, r129_4, r129_5, r129_6, r129_7, r129_8, r129_9, h0, hx, hjl, hw, h1, h2, rising]
        exact ih (j + 1) x (by omega)

theorem p129 (nl : Nl) (l : List Int) (n : Int) (hb : l.length < 9223372036854775808) : Pr 129 [Ar nl I l, I n] (B (rising n (-1) l)) true := by
  obtain ⟨E', h⟩ := l129 (lo := 0) (T := []) nl l n hb l.length 0 (-1) (by omega)
  rw [List.drop_zero] at h
  refine pr_ret (m := m129) rfl rfl (E := [(4, B (rising n (-1) l))]) (T := []) ?_ (t := 4) rfl rfl rfl rfl
  show exec prog 0 c129 [(0, _), (1, _)] [] = _
  have h' := h
  simp only [N, Int.natCast_zero] at h'
  cases hr : rising n (-1) l
  · rw [hr] at h'
    simp only [ev, Nat.reduceBEq, Nat.reduceAdd, decide_true, decide_false, r129_1, r129_2, r129_3, r129_10, c129, h', Bool.false_eq_true, if_false]
  · rw [hr] at h'
    simp only [ev, Nat.reduceBEq, Nat.reduceAdd, decide_true, decide_false, r129_1, r129_2, r129_3, r129_10, c129, h', if_true]
theorem a129 (nl : Nl) (l : List Int) (n : Int) (hb : l.length < 9223372036854775808) (lo : Nat) (T : Tab) : acall prog lo 129 [Ar nl I l, I n] T = some (B (rising n (-1) l), T) := call_cl (p129 nl l n hb) (by simp [cl_AI, cl_I]) lo T
end Go.Proofs.Ytlilfiekkaolkaa.Am
