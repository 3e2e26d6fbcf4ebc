/- What the functions compute: games that may be. -/
import Derived.Test.YtlilfiekkaolkaaS01
import Derived.Test.YtlilfiekkaolkaaOd
set_option linter.unusedVariables false
set_option linter.unusedSimpArgs false
namespace Go.Proofs.Ytlilfiekkaolkaa.Am
open Go

theorem l94 {lo : Nat} {T : Tab} (nl : Nl) (l : List Int) (n : Int) (hb : l.length < 9223372036854775808) : ∀ (k j : Nat) (was : Int), j + k = l.length → ∃ E', exec prog lo (.loop [1, 5, 8, 9, 10] b94_1) [(1, I n), (5, I was), (8, .fz nl 1 (l.map I)), (9, N l.length), (10, N j)] T
    = some (if rising n was (l.drop j) then .ext 0 E' T else .ret [(4, B false)] T) := by
  intro k
  induction k with
  | zero =>
    intro j was hj
    have h0 := lt_f (a := j) (b := l.length) (by omega)
    rw [List.drop_eq_nil_of_le (by omega)]
    rw [ex_loop]; conv in exec _ _ b94_1 _ _ => rw [b94_1]
    simp only [ev, Nat.reduceBEq, Nat.reduceAdd, decide_true, decide_false, r94_4, h0, rising, if_true]
    exact ⟨_, rfl⟩
  | succ k ih =>
    intro j was hj
    have h0 := lt_t (a := j) (b := l.length) (by omega)
    obtain ⟨x, hx⟩ := get_ex (l := l) (j := j) (by omega)
    have hjl : j < l.length := by omega
    have hw := wrap_succ (j := j) (by omega)
    rw [drop_get hx]
    rw [ex_loop]; conv in exec _ _ b94_1 _ _ => rw [b94_1]
    by_cases h1 : x ≤ was
    · simp only [ev, Nat.reduceBEq, Nat.reduceAdd, decide_true, decide_false, r94_4, r94_5, r94_6, r94_7, r94_8, r94_9, h0, hx, hjl, hw, h1, rising, Bool.false_eq_true, if_false]
      exact ⟨[], trivial⟩
    · by_cases h2 : n ≤ x
      · simp only [ev, Nat.reduceBEq, Nat.reduceAdd, decide_true, decide_false, r94_4, r94_5, r94_6, r94_7, r94_8, r94_9, h0, hx, hjl, hw, h1, h2, rising, Bool.false_eq_true, if_false]
        exact ⟨[], trivial⟩
      · simp only [ev, Nat.reduceBEq, Nat.reduceAdd, decide_true, decide_false, r94_4, r94_5, r94_6, r94_7, r94_8, r94_9, h0, hx, hjl, hw, h1, h2, rising]
        exact ih (j + 1) x (by omega)

theorem p94 (nl : Nl) (l : List Int) (n : Int) (hb : l.length < 9223372036854775808) : Pr 94 [Ar nl I l, I n] (B (rising n (-1) l)) true := by
  obtain ⟨E', h⟩ := l94 (lo := 0) (T := []) nl l n hb l.length 0 (-1) (by omega)
  rw [List.drop_zero] at h
  refine pr_ret (m := m94) rfl rfl (E := [(4, B (rising n (-1) l))]) (T := []) ?_ (t := 4) rfl rfl rfl rfl
  show exec prog 0 c94 [(0, _), (1, _)] [] = _
  simp only [N, Int.natCast_zero] at h
  cases hr : rising n (-1) l
  · rw [hr] at h
    simp only [ev, Nat.reduceBEq, Nat.reduceAdd, decide_true, decide_false, r94_1, r94_2, r94_3, r94_10, c94, h, Bool.false_eq_true, if_false]
  · rw [hr] at h
    simp only [ev, Nat.reduceBEq, Nat.reduceAdd, decide_true, decide_false, r94_1, r94_2, r94_3, r94_10, c94, h, if_true]
theorem a94 (nl : Nl) (l : List Int) (n : Int) (hb : l.length < 9223372036854775808) (lo : Nat) (T : Tab) : acall prog lo 94 [Ar nl I l, I n] T = some (B (rising n (-1) l), T) := call_cl (p94 nl l n hb) (by simp [cl_AI, cl_I]) lo T

/-! ### Games that may be -/
def okRows (n : Int) : List Int → List (List Int) → Bool
  | x :: o, l :: r => (decide (x = 0) || decide (x = 1)) && rising n (-1) l && okRows n o r
  | _, _ => true
def mayI (o : List Int) (nx : List (List Int)) : Int := if 3000 < o.length then 7 else if nx.length ≠ o.length then 1 else if okRows o.length o nx then 0 else 1
/-- No row is too long. -/
def Short (nx : List (List Int)) : Prop := ∀ l ∈ nx, l.length < 9223372036854775808

theorem l35 {lo : Nat} {T : Tab} (a b c : Nl) (o : List Int) (nx : List (List Int)) (hlen : nx.length = o.length) (hs : Short nx) (t : Nat) (ht : tget T t = .box [Ar a I o, Ar b (Ar c I) nx]) (hb : o.length ≤ 3000) : ∀ (k j : Nat), j + k = o.length →
    ∃ E', exec prog lo (.loop [1, 3, 15, 16] b35_1) [(1, .ptr t 0), (3, N o.length), (15, N o.length), (16, N j)] T = some (if okRows o.length (o.drop j) (nx.drop j) then .ext 0 E' T else .ret [(2, I 1)] T) := by
  intro k
  induction k with
  | zero =>
    intro j hj
    have h0 := lt_f (a := j) (b := o.length) (by omega)
    rw [List.drop_eq_nil_of_le (by omega)]
    rw [ex_loop]; conv in exec _ _ b35_1 _ _ => rw [b35_1]
    simp only [ev, Nat.reduceBEq, Nat.reduceAdd, decide_true, decide_false, r35_8, h0, okRows, if_true]
    exact ⟨_, rfl⟩
  | succ k ih =>
    intro j hj
    have h0 := lt_t (a := j) (b := o.length) (by omega)
    obtain ⟨x, hx⟩ := get_ex (l := o) (j := j) (by omega)
    obtain ⟨l, hl⟩ := get_ex (l := nx) (j := j) (by omega)
    have hjo := get_lt hx
    have hjn := get_lt hl
    have hw := wrap_succ (j := j) (by omega)
    have hll := hs l (List.mem_of_getElem? hl)
    have hr := a94 c l o.length hll
    rw [drop_get hx, drop_get hl]
    rw [ex_loop]; conv in exec _ _ b35_1 _ _ => rw [b35_1]
    by_cases h1 : x = 0
    · have h1' : decide (x = 0) = true := by simp [h1]
      cases h3 : rising o.length (-1) l <;> rw [h3] at hr
      · simp only [ev, Nat.reduceBEq, Nat.reduceAdd, decide_true, decide_false, r35_8, r35_9, r35_10, r35_11, r35_12, h0, hx, hjo, hjn, hl, hw, h1', ht, hr, h3, okRows, Bool.false_eq_true, if_false]
        exact ⟨[], trivial⟩
      · simp only [ev, Nat.reduceBEq, Nat.reduceAdd, decide_true, decide_false, r35_8, r35_9, r35_10, r35_11, r35_12, h0, hx, hjo, hjn, hl, hw, h1', ht, hr, h3, okRows]
        exact ih (j + 1) (by omega)
    · have h1' : decide (x = 0) = false := by simp [h1]
      by_cases h2 : x = 1
      · have h2' : decide (x = 1) = true := by simp [h2]
        cases h3 : rising o.length (-1) l <;> rw [h3] at hr
        · simp only [ev, Nat.reduceBEq, Nat.reduceAdd, decide_true, decide_false, r35_8, r35_9, r35_10, r35_11, r35_12, h0, hx, hjo, hjn, hl, hw, h1', h2', ht, hr, h3, okRows, Bool.false_eq_true, if_false]
          exact ⟨[], trivial⟩
        · simp only [ev, Nat.reduceBEq, Nat.reduceAdd, decide_true, decide_false, r35_8, r35_9, r35_10, r35_11, r35_12, h0, hx, hjo, hjn, hl, hw, h1', h2', ht, hr, h3, okRows]
          exact ih (j + 1) (by omega)
      · have h2' : decide (x = 1) = false := by simp [h2]
        simp only [ev, Nat.reduceBEq, Nat.reduceAdd, decide_true, decide_false, r35_8, r35_9, r35_10, r35_11, r35_12, h0, hx, hjo, hjn, hl, hw, h1', h2', ht, okRows, Bool.false_eq_true, if_false]
        exact ⟨[], trivial⟩

theorem p35 (a b c : Nl) (o : List Int) (nx : List (List Int)) (hs : Short nx) : Pr 35 [gameV a b c o nx] (I (mayI o nx)) true := by
  by_cases h1 : (3000 : Int) < o.length
  · have e : mayI o nx = 7 := by unfold mayI; rw [if_pos (by omega)]
    rw [e]
    refine pr_ret (m := m35) rfl rfl (E := [(2, I 7)]) (T := [.box [Ar a I o, Ar b (Ar c I) nx]]) ?_ (t := 2) rfl rfl rfl rfl
    show exec prog 0 c35 [(0, _)] [] = _
    simp only [ev, Nat.reduceBEq, Nat.reduceAdd, decide_true, decide_false, r35_1, r35_2, r35_3, r35_4, c35, h1]
  · by_cases h2 : nx.length = o.length
    · have h2' : (nx.length : Int) = o.length := by omega
      obtain ⟨E', h⟩ := l35 (lo := 0) (T := [.box [Ar a I o, Ar b (Ar c I) nx]]) a b c o nx h2 hs 0 rfl (by omega) o.length 0 (by omega)
      simp only [List.drop_zero, N, Int.natCast_zero] at h
      have e : mayI o nx = if okRows o.length o nx then 0 else 1 := by unfold mayI; rw [if_neg (by omega), if_neg (by omega)]
      rw [e]
      cases hr : okRows o.length o nx <;> rw [hr] at h
      · refine pr_ret (m := m35) rfl rfl (E := [(2, I 1)]) (T := [.box [Ar a I o, Ar b (Ar c I) nx]]) ?_ (t := 2) rfl rfl rfl rfl
        show exec prog 0 c35 [(0, _)] [] = _
        simp only [ev, Nat.reduceBEq, Nat.reduceAdd, decide_true, decide_false, r35_1, r35_2, r35_3, r35_4, r35_5, r35_6, r35_7, c35, h1, h2', h, Bool.false_eq_true, if_false]
      · refine pr_ret (m := m35) rfl rfl (E := [(2, I 0)]) (T := [.box [Ar a I o, Ar b (Ar c I) nx]]) ?_ (t := 2) rfl rfl rfl rfl
        show exec prog 0 c35 [(0, _)] [] = _
        simp only [ev, Nat.reduceBEq, Nat.reduceAdd, decide_true, decide_false, r35_1, r35_2, r35_3, r35_4, r35_5, r35_6, r35_7, r35_13, c35, h1, h2', h, if_true]
    · have h2' : ¬ (nx.length : Int) = o.length := by omega
      have e : mayI o nx = 1 := by unfold mayI; rw [if_neg (by omega), if_pos h2]
      rw [e]
      refine pr_ret (m := m35) rfl rfl (E := [(2, I 1)]) (T := [.box [Ar a I o, Ar b (Ar c I) nx]]) ?_ (t := 2) rfl rfl rfl rfl
      show exec prog 0 c35 [(0, _)] [] = _
      simp only [ev, Nat.reduceBEq, Nat.reduceAdd, decide_true, decide_false, r35_1, r35_2, r35_3, r35_4, r35_5, r35_6, c35, h1, h2']
theorem a35 (a b c : Nl) (o : List Int) (nx : List (List Int)) (hs : Short nx) (lo : Nat) (T : Tab) : acall prog lo 35 [gameV a b c o nx] T = some (I (mayI o nx), T) := call_cl (p35 a b c o nx hs) (by simp [cl_game]) lo T
end Go.Proofs.Ytlilfiekkaolkaa.Am
