/- What the functions compute: the system's memory. -/
import Derived.Test.YtlilfiekkaolkaaS04
set_option linter.unusedVariables false
set_option linter.unusedSimpArgs false
namespace Go.Proofs.Ytlilfiekkaolkaa.Am
open Go

theorem tm_nat {a b : Nat} : (a : Int).tmod (b : Int) = ((a % b : Nat) : Int) := rfl
theorem Int_eq_of_nn {v : Int} (h : ¬ v < 0) : ∃ j : Nat, v = (j : Int) := Int.eq_ofNat_of_zero_le (by omega)
theorem mayI_lt {o : List Int} {nx : List (List Int)} (h : mayI o nx = 0) : o.length ≤ 3000 := by
  unfold mayI at h
  split at h
  · cases h
  · omega

theorem p151 (nl : Nl) (l : List Bool) (v : Nat) : Pr 151 [Ar nl B l, N v] (B (has l v)) true := by
  by_cases h2 : (v : Int) < (l.length : Int)
  · have hj : v < l.length := by omega
    obtain ⟨x, hx⟩ := get_ex hj
    refine pr_ret (m := m151) rfl rfl (E := [(4, B x)]) (T := []) ?_ (t := 4) rfl rfl (by simp only [has, hx]; rfl) rfl
    show exec prog 0 c151 [(0, _), (1, _)] [] = _
    simp only [ev, Nat.reduceBEq, Nat.reduceAdd, decide_true, decide_false, r151_1, r151_2, c151, h2, hj, hx]
  · have hj : has l v = false := by unfold has; rw [List.getElem?_eq_none (by omega)]; rfl
    refine pr_ret (m := m151) rfl rfl (E := [(4, B false)]) (T := []) ?_ (t := 4) rfl rfl (by rw [hj]; rfl) rfl
    show exec prog 0 c151 [(0, _), (1, _)] [] = _
    simp only [ev, Nat.reduceBEq, Nat.reduceAdd, decide_true, decide_false, r151_1, r151_2, c151, h2]
theorem a151 (nl : Nl) (l : List Bool) (v : Nat) (lo : Nat) (T : Tab) : acall prog lo 151 [Ar nl B l, N v] T = some (B (has l v), T) := call_cl (p151 nl l v) (by simp [cl_AB, cl_I]) lo T

/-- Where one goes on with which memory. -/
def thenN (E : List (List Bool)) (v mem : Nat) : Nat := if has ((E[mem]?).getD []) v then (mem + 1) % E.length else mem

theorem p107 (a b : Nl) (E : List (List Bool)) (v mem : Nat) (hm : mem < E.length) (hs : E.length ≤ 1000) : Pr 107 [rowsV a b E, N v, N mem] (N (thenN E v mem)) true := by
  obtain ⟨r, hr⟩ := get_ex hm
  have h1 := a151 b r v
  have hw := wrap_succ (j := mem) (by omega)
  have hz : ((E.length : Int) == 0) = false := by simp; intro h; rw [h] at hm; simp at hm
  refine pr_ret (m := m107) rfl rfl (E := [(6, N (thenN E v mem))]) (T := []) ?_ (t := 6) rfl rfl rfl rfl
  show exec prog 0 c107 [(0, _), (1, _), (2, _)] [] = _
  unfold thenN
  simp only [hr, Option.getD_some]
  cases e : has r v <;> rw [e] at h1
  · simp only [ev, Nat.reduceBEq, Nat.reduceAdd, decide_true, decide_false, r107_1, r107_2, r107_3, r107_4, c107, hr, hm, h1, Bool.false_eq_true, if_false]
  · simp only [ev, Nat.reduceBEq, Nat.reduceAdd, decide_true, decide_false, r107_1, r107_2, r107_3, r107_4, c107, hr, hm, h1, hw, hz, tm_nat, if_true]
theorem a107 (a b : Nl) (E : List (List Bool)) (v mem : Nat) (hm : mem < E.length) (hs : E.length ≤ 1000) (lo : Nat) (T : Tab) : acall prog lo 107 [rowsV a b E, N v, N mem] T = some (N (thenN E v mem), T) :=
  call_cl (p107 a b E v mem hm hs) (by simp [cl_AAB, cl_I]) lo T

/-- Rows, or that of all vertices. -/
def rowsOr (n : Nat) (l : List (List Bool)) : List (List Bool) := if l = [] then [rowOf n fun v => !has [] v] else l
theorem p105_nil (a b c d : Nl) (o : List Int) (nx : List (List Int)) (hn : o.length ≤ 1073741824) : ∃ t, Pr 105 [gameV a b c o nx, .fz d 1 []] (rowsV .nonnil .nonnil [rowOf o.length fun v => !has [] v]) t := by
  have h := a41 a b c .isnil o nx [] hn
  simp only [Ar, List.map_nil] at h
  refine ⟨_, pr_ret (m := m105) rfl rfl (E := [(4, rowsV .nonnil .nonnil [rowOf o.length fun v => !has [] v])]) (T := [.box [Ar a I o, Ar b (Ar c I) nx]]) ?_ (t := 4) rfl rfl fz_BB rfl⟩
  show exec prog 0 c105 [(0, _), (1, _)] [] = _
  have h0 : decide (((0 : Nat) : Int) = 0) = true := rfl
  simp only [ev, Nat.reduceBEq, Nat.reduceAdd, decide_true, decide_false, r105_1, r105_2, r105_3, c105, h, h0, Ar]
  rfl
theorem p105_cons (a b c d e : Nl) (o : List Int) (nx : List (List Int)) (l : List (List Bool)) (hl : l ≠ []) : ∃ t, Pr 105 [gameV a b c o nx, rowsV d e l] (rowsV d e l) t := by
  refine ⟨_, pr_ret (m := m105) rfl rfl (E := [(4, rowsV d e l)]) (T := [.box [Ar a I o, Ar b (Ar c I) nx]]) ?_ (t := 4) rfl rfl fz_BB rfl⟩
  show exec prog 0 c105 [(0, _), (1, _)] [] = _
  have h0 : decide ((l.length : Int) = 0) = false := by simp [hl]
  simp only [ev, Nat.reduceBEq, Nat.reduceAdd, decide_true, decide_false, r105_1, r105_2, r105_3, r105_4, c105, h0]
theorem a105 (a b c d e : Nl) (o : List Int) (nx : List (List Int)) (hn : o.length ≤ 1073741824) (l : List (List Bool)) : ∃ d' e', ∀ (lo : Nat) (T : Tab), acall prog lo 105 [gameV a b c o nx, rowsV d e l] T = some (rowsV d' e' (rowsOr o.length l), T) := by
  by_cases hl : l = []
  · subst hl
    obtain ⟨t, h⟩ := p105_nil a b c d o nx hn
    exact ⟨_, _, fun lo T => by rw [rowsOr, if_pos rfl]; exact call_cl h (by simp [cl_game, cl_nil]) lo T⟩
  · obtain ⟨t, h⟩ := p105_cons a b c d e o nx l hl
    exact ⟨_, _, fun lo T => by rw [rowsOr, if_neg hl]; exact call_cl h (by simp [cl_game, cl_AAB]) lo T⟩

def planThenI (o : List Int) (nx : List (List Int)) (E : List (List Bool)) (v mem : Int) : Int :=
  if mayI o nx ≠ 0 ∨ 4 < E.length ∨ v < 0 ∨ o.length ≤ v ∨ mem < 0 ∨ (rowsOr o.length E).length ≤ mem then -1 else (thenN (rowsOr o.length E) v.toNat mem.toNat : Int)

theorem p55 (a b c d e : Nl) (o : List Int) (nx : List (List Int)) (hs : Short nx) (E : List (List Bool)) (v mem : Int) : ∃ t, Pr 55 [gameV a b c o nx, rowsV d e E, I v, I mem] (I (planThenI o nx E v mem)) t := by
  have h69 := a69 a b c o nx hs
  have no : (mayI o nx ≠ 0 ∨ 4 < E.length ∨ v < 0 ∨ o.length ≤ v) → ∃ t, Pr 55 [gameV a b c o nx, rowsV d e E, I v, I mem] (I (planThenI o nx E v mem)) t := fun h => by
    have e1 : planThenI o nx E v mem = -1 := by unfold planThenI; rw [if_pos]; rcases h with h | h | h | h <;> simp [h]
    rw [e1]
    refine ⟨_, pr_ret (m := m55) rfl rfl (E := [(8, I (-1))]) (T := [.box [Ar a I o, Ar b (Ar c I) nx]]) ?_ (t := 8) rfl rfl rfl rfl⟩
    show exec prog 0 c55 [(0, _), (1, _), (2, _), (3, _)] [] = _
    by_cases h1 : mayI o nx = 0
    · by_cases h2 : (4 : Int) < E.length
      · simp only [ev, Nat.reduceBEq, Nat.reduceAdd, decide_true, decide_false, r55_1, r55_2, r55_3, c55, h69, h1, h2]
      · by_cases h3 : v < 0
        · simp only [ev, Nat.reduceBEq, Nat.reduceAdd, decide_true, decide_false, r55_1, r55_2, r55_3, c55, h69, h1, h2, h3]
        · have h4 : (o.length : Int) ≤ v := by omega
          simp only [ev, Nat.reduceBEq, Nat.reduceAdd, decide_true, decide_false, r55_1, r55_2, r55_3, c55, h69, h1, h2, h3, h4]
    · simp only [ev, Nat.reduceBEq, Nat.reduceAdd, decide_true, decide_false, r55_1, r55_2, r55_3, c55, h69, h1]
  by_cases h0 : mayI o nx ≠ 0 ∨ 4 < E.length ∨ v < 0 ∨ o.length ≤ v
  · exact no h0
  have h1 : mayI o nx = 0 := by omega
  have h2 : ¬ (4 : Int) < E.length := by omega
  have h3 : ¬ v < 0 := by omega
  have h4 : ¬ (o.length : Int) ≤ v := by omega
  have hn := mayI_lt h1
  obtain ⟨d', e', h105⟩ := a105 a b c d e o nx (by omega) E
  by_cases h5 : mem < 0
  · have e1 : planThenI o nx E v mem = -1 := by unfold planThenI; rw [if_pos]; simp [h5]
    rw [e1]
    refine ⟨_, pr_ret (m := m55) rfl rfl (E := [(8, I (-1))]) (T := [.box [Ar a I o, Ar b (Ar c I) nx]]) ?_ (t := 8) rfl rfl rfl rfl⟩
    show exec prog 0 c55 [(0, _), (1, _), (2, _), (3, _)] [] = _
    simp only [ev, Nat.reduceBEq, Nat.reduceAdd, decide_true, decide_false, r55_1, r55_2, r55_3, r55_4, r55_5, r55_6, c55, h69, h1, h2, h3, h4, h5, h105]
  · by_cases h6 : ((rowsOr o.length E).length : Int) ≤ mem
    · have e1 : planThenI o nx E v mem = -1 := by unfold planThenI; rw [if_pos]; simp [h6]
      rw [e1]
      refine ⟨_, pr_ret (m := m55) rfl rfl (E := [(8, I (-1))]) (T := [.box [Ar a I o, Ar b (Ar c I) nx]]) ?_ (t := 8) rfl rfl rfl rfl⟩
      show exec prog 0 c55 [(0, _), (1, _), (2, _), (3, _)] [] = _
      simp only [ev, Nat.reduceBEq, Nat.reduceAdd, decide_true, decide_false, r55_1, r55_2, r55_3, r55_4, r55_5, r55_6, c55, h69, h1, h2, h3, h4, h5, h6, h105]
    · obtain ⟨j, rfl⟩ := Int_eq_of_nn h3
      obtain ⟨k, rfl⟩ := Int_eq_of_nn h5
      have hs' : (rowsOr o.length E).length ≤ 1000 := by
        unfold rowsOr
        split
        · simp
        · omega
      have h107 := a107 d' e' (rowsOr o.length E) j k (by omega) hs'
      have e1 : planThenI o nx E j k = (thenN (rowsOr o.length E) j k : Int) := by unfold planThenI; rw [if_neg (by omega)]; rfl
      rw [e1]
      refine ⟨_, pr_ret (m := m55) rfl rfl (E := [(8, N (thenN (rowsOr o.length E) j k))]) (T := [.box [Ar a I o, Ar b (Ar c I) nx]]) ?_ (t := 8) rfl rfl rfl rfl⟩
      show exec prog 0 c55 [(0, _), (1, _), (2, _), (3, _)] [] = _
      simp only [ev, Nat.reduceBEq, Nat.reduceAdd, decide_true, decide_false, r55_1, r55_2, r55_3, r55_4, r55_5, r55_6, r55_7, c55, h69, h1, h2, h3, h4, h5, h6, h105, h107]
theorem a55 (a b c d e : Nl) (o : List Int) (nx : List (List Int)) (hs : Short nx) (E : List (List Bool)) (v mem : Int) (lo : Nat) (T : Tab) : acall prog lo 55 [gameV a b c o nx, rowsV d e E, I v, I mem] T = some (I (planThenI o nx E v mem), T) := by
  obtain ⟨t, h⟩ := p55 a b c d e o nx hs E v mem
  exact call_cl h (by simp [cl_game, cl_AAB, cl_I]) lo T

theorem rowsOr_len (n : Nat) (E : List (List Bool)) : ((rowsOr n E).length : Int) = max 1 (E.length : Int) := by
  unfold rowsOr
  split
  · rename_i h; subst h; rfl
  · rename_i h
    have : 0 < E.length := List.length_pos_iff.2 h
    omega

theorem p54 (a b c d e : Nl) (o : List Int) (nx : List (List Int)) (hs : Short nx) (E : List (List Bool)) (v mem : Int) : ∃ t, Pr 54 [gameV a b c o nx, rowsV d e E, I v, I mem] (I (planThenI o nx E v mem)) t := by
  have h35 := a35 a b c o nx hs
  have no : (mayI o nx ≠ 0 ∨ 4 < E.length ∨ v < 0 ∨ o.length ≤ v ∨ mem < 0 ∨ (rowsOr o.length E).length ≤ mem) → ∃ t, Pr 54 [gameV a b c o nx, rowsV d e E, I v, I mem] (I (planThenI o nx E v mem)) t := fun h => by
    have e1 : planThenI o nx E v mem = -1 := by unfold planThenI; rw [if_pos h]
    rw [rowsOr_len] at h
    rw [e1]
    refine ⟨_, pr_ret (m := m54) rfl rfl (E := [(8, I (-1))]) (T := [.box [Ar a I o, Ar b (Ar c I) nx]]) ?_ (t := 8) rfl rfl rfl rfl⟩
    show exec prog 0 c54 [(0, _), (1, _), (2, _), (3, _)] [] = _
    by_cases h1 : mayI o nx = 0
    · by_cases h2 : (4 : Int) < E.length
      · simp only [ev, Nat.reduceBEq, Nat.reduceAdd, decide_true, decide_false, r54_1, r54_2, r54_3, r54_4, c54, h35, h1, h2]
      · by_cases h3 : v < 0
        · simp only [ev, Nat.reduceBEq, Nat.reduceAdd, decide_true, decide_false, r54_1, r54_2, r54_3, r54_4, c54, h35, h1, h2, h3]
        · by_cases h4 : (o.length : Int) ≤ v
          · simp only [ev, Nat.reduceBEq, Nat.reduceAdd, decide_true, decide_false, r54_1, r54_2, r54_3, r54_4, c54, h35, h1, h2, h3, h4]
          · by_cases h5 : mem < 0
            · simp only [ev, Nat.reduceBEq, Nat.reduceAdd, decide_true, decide_false, r54_1, r54_2, r54_3, r54_4, c54, h35, h1, h2, h3, h4, h5]
            · have h6 : max 1 (E.length : Int) ≤ mem := by omega
              simp only [ev, Nat.reduceBEq, Nat.reduceAdd, decide_true, decide_false, r54_1, r54_2, r54_3, r54_4, c54, h35, h1, h2, h3, h4, h5, h6]
    · simp only [ev, Nat.reduceBEq, Nat.reduceAdd, decide_true, decide_false, r54_1, r54_2, r54_3, r54_4, c54, h35, h1]
  by_cases h0 : mayI o nx ≠ 0 ∨ 4 < E.length ∨ v < 0 ∨ o.length ≤ v ∨ mem < 0 ∨ (rowsOr o.length E).length ≤ mem
  · exact no h0
  have h1 : mayI o nx = 0 := by omega
  have h2 : ¬ (4 : Int) < E.length := by omega
  have h3 : ¬ v < 0 := by omega
  have h4 : ¬ (o.length : Int) ≤ v := by omega
  have h5 : ¬ mem < 0 := by omega
  have h6 : ¬ max 1 (E.length : Int) ≤ mem := by rw [← rowsOr_len o.length]; omega
  have e1 : planThenI o nx E v mem = (thenN (rowsOr o.length E) v.toNat mem.toNat : Int) := by unfold planThenI; rw [if_neg h0]
  rw [e1]
  obtain ⟨j, rfl⟩ := Int_eq_of_nn h3
  obtain ⟨k, rfl⟩ := Int_eq_of_nn h5
  simp only [Int.toNat_natCast]
  have hw := wrap_succ (j := k) (by omega)
  by_cases h7 : E = []
  · subst h7
    have hk : k = 0 := by simp at h6; omega
    subst hk
    have e2 : thenN (rowsOr o.length []) j 0 = 0 := by
      simp only [rowsOr, if_true, thenN, List.length_singleton]
      split <;> rfl
    rw [e2]
    refine ⟨_, pr_ret (m := m54) rfl rfl (E := [(8, I 0)]) (T := [.box [Ar a I o, Ar b (Ar c I) nx]]) ?_ (t := 8) rfl rfl rfl rfl⟩
    show exec prog 0 c54 [(0, _), (1, _), (2, _), (3, _)] [] = _
    have q1 : max (1 : Int) ((0 : Nat) : Int) = 1 := rfl
    have q2 : decide (((0 : Nat) : Int) = 0) = true := rfl
    have q3 : decide ((4 : Int) < ((0 : Nat) : Int)) = false := rfl
    have q4 : decide ((1 : Int) ≤ ((0 : Nat) : Int)) = false := rfl
    have q5 : IntKind.i64.wrap (((0 : Nat) : Int) + 1) = 1 := by decide
    have q6 : ((1 : Int) == 0) = false := rfl
    have q7 : (1 : Int).tmod 1 = 0 := rfl
    simp only [ev, Nat.reduceBEq, Nat.reduceAdd, decide_true, decide_false, r54_1, r54_2, r54_3, r54_4, r54_5, r54_6, r54_7, c54, h35, h1, h3, h4, h5, q1, q2, q3, q4, q5, q6, q7, List.map_nil]
  · have hE : 0 < E.length := List.length_pos_iff.2 h7
    have hr : rowsOr o.length E = E := by unfold rowsOr; rw [if_neg h7]
    rw [hr]
    have q1 : max (1 : Int) (E.length : Int) = E.length := by omega
    rw [q1] at h6
    have hk : k < E.length := by omega
    obtain ⟨r, hrr⟩ := get_ex hk
    have h48 := a48 e r j
    rw [hasI_nat] at h48
    have hz : ((E.length : Int) == 0) = false := by simp [h7]
    have q2 : decide ((E.length : Int) = 0) = false := by simp [h7]
    unfold thenN
    simp only [hrr, Option.getD_some]
    refine ⟨_, pr_ret (m := m54) rfl rfl (E := [(8, N (if has r j = true then (k + 1) % E.length else k))]) (T := [.box [Ar a I o, Ar b (Ar c I) nx]]) ?_ (t := 8) rfl rfl rfl rfl⟩
    show exec prog 0 c54 [(0, _), (1, _), (2, _), (3, _)] [] = _
    cases e3 : has r j <;> rw [e3] at h48
    · simp only [ev, Nat.reduceBEq, Nat.reduceAdd, decide_true, decide_false, r54_1, r54_2, r54_3, r54_4, r54_5, r54_6, r54_7, c54, h35, h1, h2, h3, h4, h5, h6, q1, q2, hk, hrr, h48, Bool.false_eq_true, if_false]
    · simp only [ev, Nat.reduceBEq, Nat.reduceAdd, decide_true, decide_false, r54_1, r54_2, r54_3, r54_4, r54_5, r54_6, r54_7, c54, h35, h1, h2, h3, h4, h5, h6, q1, q2, hk, hrr, h48, hw, hz, tm_nat, if_true]
theorem a54 (a b c d e : Nl) (o : List Int) (nx : List (List Int)) (hs : Short nx) (E : List (List Bool)) (v mem : Int) (lo : Nat) (T : Tab) : acall prog lo 54 [gameV a b c o nx, rowsV d e E, I v, I mem] T = some (I (planThenI o nx E v mem), T) := by
  obtain ⟨t, h⟩ := p54 a b c d e o nx hs E v mem
  exact call_cl h (by simp [cl_game, cl_AAB, cl_I]) lo T
end Go.Proofs.Ytlilfiekkaolkaa.Am
