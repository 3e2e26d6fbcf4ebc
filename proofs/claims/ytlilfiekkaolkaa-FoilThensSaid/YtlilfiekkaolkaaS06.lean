/- What the functions compute: memories. -/
import Derived.Test.YtlilfiekkaolkaaS05
set_option linter.unusedVariables false
set_option linter.unusedSimpArgs false
namespace Go.Proofs.Ytlilfiekkaolkaa.Am
open Go

theorem mx_nat {n : Nat} : max (1 : Int) (n : Int) = ((max 1 n : Nat) : Int) := by omega
theorem mx_nat2 {m n : Nat} : max (m : Int) (n : Int) = ((max m n : Nat) : Int) := by omega

/-- How many memories there are. -/
def memsN (A E : List (List Bool)) : Nat := if 4 < A.length ∨ 4 < E.length then 0 else max 1 A.length * max 1 E.length
theorem memsN_le (A E : List (List Bool)) : memsN A E ≤ 16 := by
  unfold memsN
  split
  · omega
  · exact Nat.le_trans (Nat.mul_le_mul (show max 1 A.length ≤ 4 by omega) (show max 1 E.length ≤ 4 by omega)) (by omega)

theorem mul16 (A E : List (List Bool)) (h : ¬ (4 < A.length ∨ 4 < E.length)) : IntKind.i64.wrap ((max 1 A.length : Nat) * (max 1 E.length : Nat) : Int) = (memsN A E : Int) := by
  have h1 := memsN_le A E
  have e : memsN A E = max 1 A.length * max 1 E.length := by unfold memsN; rw [if_neg h]
  rw [show ((max 1 A.length : Nat) * (max 1 E.length : Nat) : Int) = (memsN A E : Int) by rw [e]; simp, wrap_id (by omega) (by omega)]

theorem p81 (a b c d : Nl) (A E : List (List Bool)) : Pr 81 [rowsV a b A, rowsV c d E] (N (memsN A E)) true := by
  by_cases h : 4 < A.length ∨ 4 < E.length
  · have e : memsN A E = 0 := by unfold memsN; rw [if_pos h]
    rw [e]
    refine pr_ret (m := m81) rfl rfl (E := [(4, I 0)]) (T := []) ?_ (t := 4) rfl rfl rfl rfl
    show exec prog 0 c81 [(0, _), (1, _)] [] = _
    by_cases h1 : (4 : Int) < A.length
    · simp only [ev, Nat.reduceBEq, Nat.reduceAdd, decide_true, decide_false, r81_1, r81_2, r81_3, c81, h1]
    · have h2 : (4 : Int) < E.length := by omega
      simp only [ev, Nat.reduceBEq, Nat.reduceAdd, decide_true, decide_false, r81_1, r81_2, r81_3, c81, h1, h2]
  · have h1 : ¬ (4 : Int) < A.length := by omega
    have h2 : ¬ (4 : Int) < E.length := by omega
    have hw := mul16 A E h
    refine pr_ret (m := m81) rfl rfl (E := [(4, N (memsN A E))]) (T := []) ?_ (t := 4) rfl rfl rfl rfl
    show exec prog 0 c81 [(0, _), (1, _)] [] = _
    simp only [ev, Nat.reduceBEq, Nat.reduceAdd, decide_true, decide_false, r81_1, r81_2, r81_3, r81_4, c81, h1, h2, mx_nat, hw]
theorem a81 (a b c d : Nl) (A E : List (List Bool)) (lo : Nat) (T : Tab) : acall prog lo 81 [rowsV a b A, rowsV c d E] T = some (N (memsN A E), T) := call_cl (p81 a b c d A E) (by simp [cl_AAB]) lo T
theorem p90 (a b c d : Nl) (A E : List (List Bool)) : Pr 90 [rowsV a b A, rowsV c d E] (N (memsN A E)) true := by
  by_cases h : 4 < A.length ∨ 4 < E.length
  · have e : memsN A E = 0 := by unfold memsN; rw [if_pos h]
    rw [e]
    refine pr_ret (m := m90) rfl rfl (E := [(4, I 0)]) (T := []) ?_ (t := 4) rfl rfl rfl rfl
    show exec prog 0 c90 [(0, _), (1, _)] [] = _
    have h1 : (4 : Int) < max (A.length : Int) (E.length : Int) := by omega
    simp only [ev, Nat.reduceBEq, Nat.reduceAdd, decide_true, decide_false, r90_1, r90_2, r90_3, c90, h1]
  · have h1 : ¬ (4 : Int) < max (A.length : Int) (E.length : Int) := by omega
    have hw := mul16 A E h
    refine pr_ret (m := m90) rfl rfl (E := [(4, N (memsN A E))]) (T := []) ?_ (t := 4) rfl rfl rfl rfl
    show exec prog 0 c90 [(0, _), (1, _)] [] = _
    simp only [ev, Nat.reduceBEq, Nat.reduceAdd, decide_true, decide_false, r90_1, r90_2, r90_3, r90_4, c90, h1, mx_nat, hw]
theorem a90 (a b c d : Nl) (A E : List (List Bool)) (lo : Nat) (T : Tab) : acall prog lo 90 [rowsV a b A, rowsV c d E] T = some (N (memsN A E), T) := call_cl (p90 a b c d A E) (by simp [cl_AAB]) lo T

/-- The vertex of a vertex with a memory. -/
def atI (A E : List (List Bool)) (v mem : Int) : Int := if memsN A E = 0 ∨ v < 0 ∨ 3000 < v ∨ mem < 0 ∨ memsN A E ≤ mem then -1 else v * (memsN A E : Int) + mem
theorem p139 (a b c d : Nl) (A E : List (List Bool)) (v mem : Int) : Pr 139 [rowsV a b A, rowsV c d E, I v, I mem] (I (atI A E v mem)) true := by
  have hm := a81 a b c d A E
  have h16 := memsN_le A E
  by_cases h : memsN A E = 0 ∨ v < 0 ∨ 3000 < v ∨ mem < 0 ∨ memsN A E ≤ mem
  · have e : atI A E v mem = -1 := by unfold atI; rw [if_pos h]
    rw [e]
    refine pr_ret (m := m139) rfl rfl (E := [(8, I (-1))]) (T := []) ?_ (t := 8) rfl rfl rfl rfl
    show exec prog 0 c139 [(0, _), (1, _), (2, _), (3, _)] [] = _
    by_cases h1 : (memsN A E : Int) = 0
    · simp only [ev, Nat.reduceBEq, Nat.reduceAdd, decide_true, decide_false, r139_1, r139_2, r139_3, r139_4, c139, hm, h1]
    · by_cases h2 : v < 0
      · simp only [ev, Nat.reduceBEq, Nat.reduceAdd, decide_true, decide_false, r139_1, r139_2, r139_3, r139_4, c139, hm, h1, h2]
      · by_cases h3 : 3000 < v
        · simp only [ev, Nat.reduceBEq, Nat.reduceAdd, decide_true, decide_false, r139_1, r139_2, r139_3, r139_4, c139, hm, h1, h2, h3]
        · by_cases h4 : mem < 0
          · simp only [ev, Nat.reduceBEq, Nat.reduceAdd, decide_true, decide_false, r139_1, r139_2, r139_3, r139_4, c139, hm, h1, h2, h3, h4]
          · have h5 : (memsN A E : Int) ≤ mem := by omega
            simp only [ev, Nat.reduceBEq, Nat.reduceAdd, decide_true, decide_false, r139_1, r139_2, r139_3, r139_4, c139, hm, h1, h2, h3, h4, h5]
  · have h1 : ¬ (memsN A E : Int) = 0 := by omega
    have h2 : ¬ v < 0 := by omega
    have h3 : ¬ 3000 < v := by omega
    have h4 : ¬ mem < 0 := by omega
    have h5 : ¬ (memsN A E : Int) ≤ mem := by omega
    have e : atI A E v mem = v * (memsN A E : Int) + mem := by unfold atI; rw [if_neg h]
    rw [e]
    obtain ⟨j, rfl⟩ := Int_eq_of_nn h2
    obtain ⟨k, rfl⟩ := Int_eq_of_nn h4
    have hj : j * memsN A E ≤ 3000 * 16 := Nat.mul_le_mul (by omega) h16
    have hj' : (j : Int) * (memsN A E : Int) = ((j * memsN A E : Nat) : Int) := by simp
    have w1 : IntKind.i64.wrap ((j : Int) * (memsN A E : Int)) = (j : Int) * (memsN A E : Int) := by rw [hj', wrap_id (by omega) (by omega)]
    have w2 : IntKind.i64.wrap ((j : Int) * (memsN A E : Int) + (k : Int)) = (j : Int) * (memsN A E : Int) + (k : Int) := by rw [hj', wrap_id (by omega) (by omega)]
    refine pr_ret (m := m139) rfl rfl (E := [(8, I ((j : Int) * (memsN A E : Int) + (k : Int)))]) (T := []) ?_ (t := 8) rfl rfl rfl rfl
    show exec prog 0 c139 [(0, _), (1, _), (2, _), (3, _)] [] = _
    simp only [ev, Nat.reduceBEq, Nat.reduceAdd, decide_true, decide_false, r139_1, r139_2, r139_3, r139_5, c139, hm, h1, h2, h3, h4, h5, w1, w2]
theorem a139 (a b c d : Nl) (A E : List (List Bool)) (v mem : Int) (lo : Nat) (T : Tab) : acall prog lo 139 [rowsV a b A, rowsV c d E, I v, I mem] T = some (I (atI A E v mem), T) := call_cl (p139 a b c d A E v mem) (by simp [cl_AAB, cl_I]) lo T
theorem p140 (a b c d : Nl) (A E : List (List Bool)) (v mem : Int) : Pr 140 [rowsV a b A, rowsV c d E, I v, I mem] (I (atI A E v mem)) true := by
  have hm := a90 a b c d A E
  have h16 := memsN_le A E
  by_cases h : memsN A E = 0 ∨ v < 0 ∨ 3000 < v ∨ mem < 0 ∨ memsN A E ≤ mem
  · have e : atI A E v mem = -1 := by unfold atI; rw [if_pos h]
    rw [e]
    refine pr_ret (m := m140) rfl rfl (E := [(8, I (-1))]) (T := []) ?_ (t := 8) rfl rfl rfl rfl
    show exec prog 0 c140 [(0, _), (1, _), (2, _), (3, _)] [] = _
    by_cases h1 : (memsN A E : Int) = 0
    · simp only [ev, Nat.reduceBEq, Nat.reduceAdd, decide_true, decide_false, r140_1, r140_2, r140_3, r140_4, c140, hm, h1]
    · by_cases h2 : v < 0
      · simp only [ev, Nat.reduceBEq, Nat.reduceAdd, decide_true, decide_false, r140_1, r140_2, r140_3, r140_4, c140, hm, h1, h2]
      · by_cases h3 : 3000 < v
        · simp only [ev, Nat.reduceBEq, Nat.reduceAdd, decide_true, decide_false, r140_1, r140_2, r140_3, r140_4, c140, hm, h1, h2, h3]
        · by_cases h4 : mem < 0
          · simp only [ev, Nat.reduceBEq, Nat.reduceAdd, decide_true, decide_false, r140_1, r140_2, r140_3, r140_4, c140, hm, h1, h2, h3, h4]
          · have h5 : (memsN A E : Int) ≤ mem := by omega
            simp only [ev, Nat.reduceBEq, Nat.reduceAdd, decide_true, decide_false, r140_1, r140_2, r140_3, r140_4, c140, hm, h1, h2, h3, h4, h5]
  · have h1 : ¬ (memsN A E : Int) = 0 := by omega
    have h2 : ¬ v < 0 := by omega
    have h3 : ¬ 3000 < v := by omega
    have h4 : ¬ mem < 0 := by omega
    have h5 : ¬ (memsN A E : Int) ≤ mem := by omega
    have e : atI A E v mem = v * (memsN A E : Int) + mem := by unfold atI; rw [if_neg h]
    rw [e]
    obtain ⟨j, rfl⟩ := Int_eq_of_nn h2
    obtain ⟨k, rfl⟩ := Int_eq_of_nn h4
    have hj : j * memsN A E ≤ 3000 * 16 := Nat.mul_le_mul (by omega) h16
    have hj' : (j : Int) * (memsN A E : Int) = ((j * memsN A E : Nat) : Int) := by simp
    have w1 : IntKind.i64.wrap ((j : Int) * (memsN A E : Int)) = (j : Int) * (memsN A E : Int) := by rw [hj', wrap_id (by omega) (by omega)]
    have w2 : IntKind.i64.wrap ((j : Int) * (memsN A E : Int) + (k : Int)) = (j : Int) * (memsN A E : Int) + (k : Int) := by rw [hj', wrap_id (by omega) (by omega)]
    refine pr_ret (m := m140) rfl rfl (E := [(8, I ((j : Int) * (memsN A E : Int) + (k : Int)))]) (T := []) ?_ (t := 8) rfl rfl rfl rfl
    show exec prog 0 c140 [(0, _), (1, _), (2, _), (3, _)] [] = _
    simp only [ev, Nat.reduceBEq, Nat.reduceAdd, decide_true, decide_false, r140_1, r140_2, r140_3, r140_5, c140, hm, h1, h2, h3, h4, h5, w1, w2]
theorem a140 (a b c d : Nl) (A E : List (List Bool)) (v mem : Int) (lo : Nat) (T : Tab) : acall prog lo 140 [rowsV a b A, rowsV c d E, I v, I mem] T = some (I (atI A E v mem), T) := call_cl (p140 a b c d A E v mem) (by simp [cl_AAB, cl_I]) lo T

/-! ### met, turns -/
def metN (l : List (List Bool)) (i v : Nat) : Bool := l.isEmpty || has ((l[i]?).getD []) v
def turnN (l : List (List Bool)) (i v : Nat) : Nat := if metN l i v then (i + 1) % max 1 l.length else i
/-- A number of a row, or nought of none. -/
def okAt (l : List (List Bool)) (i : Nat) : Prop := i < max 1 l.length

theorem p168 (a b : Nl) (l : List (List Bool)) (i v : Nat) (hi : okAt l i) : Pr 168 [rowsV a b l, N i, N v] (B (metN l i v)) true := by
  by_cases h0 : l = []
  · subst h0
    refine pr_ret (m := m168) rfl rfl (E := [(6, B true)]) (T := []) ?_ (t := 6) rfl rfl rfl rfl
    show exec prog 0 c168 [(0, _), (1, _), (2, _)] [] = _
    have q : decide (((0 : Nat) : Int) = 0) = true := rfl
    simp only [ev, Nat.reduceBEq, Nat.reduceAdd, decide_true, decide_false, r168_1, r168_2, c168, q, List.map_nil]
  · have hl : 0 < l.length := List.length_pos_iff.2 h0
    have hi' : i < l.length := by unfold okAt at hi; omega
    obtain ⟨r, hr⟩ := get_ex hi'
    have e : metN l i v = has r v := by
      unfold metN
      rw [hr, List.isEmpty_eq_false_iff.2 h0]
      rfl
    have q : ¬ (l.length : Int) = 0 := by omega
    rw [e]
    by_cases h2 : (v : Int) < (r.length : Int)
    · have hv : v < r.length := by omega
      obtain ⟨x, hx⟩ := get_ex hv
      refine pr_ret (m := m168) rfl rfl (E := [(6, B x)]) (T := []) ?_ (t := 6) rfl rfl (by simp only [has, hx]; rfl) rfl
      show exec prog 0 c168 [(0, _), (1, _), (2, _)] [] = _
      simp only [ev, Nat.reduceBEq, Nat.reduceAdd, decide_true, decide_false, r168_1, r168_2, c168, q, hi', hr, h2, hv, hx]
    · have hj : has r v = false := by unfold has; rw [List.getElem?_eq_none (by omega)]; rfl
      refine pr_ret (m := m168) rfl rfl (E := [(6, B false)]) (T := []) ?_ (t := 6) rfl rfl (by rw [hj]; rfl) rfl
      show exec prog 0 c168 [(0, _), (1, _), (2, _)] [] = _
      simp only [ev, Nat.reduceBEq, Nat.reduceAdd, decide_true, decide_false, r168_1, r168_2, c168, q, hi', hr, h2]
theorem a168 (a b : Nl) (l : List (List Bool)) (i v : Nat) (hi : okAt l i) (lo : Nat) (T : Tab) : acall prog lo 168 [rowsV a b l, N i, N v] T = some (B (metN l i v), T) := call_cl (p168 a b l i v hi) (by simp [cl_AAB, cl_I]) lo T

theorem p141 (a b : Nl) (l : List (List Bool)) (i v : Nat) (hi : okAt l i) (hl : l.length ≤ 4) : Pr 141 [rowsV a b l, N i, N v] (N (turnN l i v)) true := by
  have h := a168 a b l i v hi
  have hi2 : i < 4 ∨ i = 0 := by unfold okAt at hi; omega
  have hw := wrap_succ (j := i) (by omega)
  have hz : (((max 1 l.length : Nat) : Int) == 0) = false := by simp
  unfold turnN
  cases e : metN l i v <;> rw [e] at h
  · refine pr_ret (m := m141) rfl rfl (E := [(6, N i)]) (T := []) ?_ (t := 6) rfl rfl rfl rfl
    show exec prog 0 c141 [(0, _), (1, _), (2, _)] [] = _
    simp only [ev, Nat.reduceBEq, Nat.reduceAdd, decide_true, decide_false, r141_1, r141_2, r141_3, r141_4, c141, h]
  · refine pr_ret (m := m141) rfl rfl (E := [(6, N ((i + 1) % max 1 l.length))]) (T := []) ?_ (t := 6) rfl rfl rfl rfl
    show exec prog 0 c141 [(0, _), (1, _), (2, _)] [] = _
    simp only [ev, Nat.reduceBEq, Nat.reduceAdd, decide_true, decide_false, r141_1, r141_2, r141_3, r141_4, c141, h, hw, mx_nat, hz, tm_nat]
theorem a141 (a b : Nl) (l : List (List Bool)) (i v : Nat) (hi : okAt l i) (hl : l.length ≤ 4) (lo : Nat) (T : Tab) : acall prog lo 141 [rowsV a b l, N i, N v] T = some (N (turnN l i v), T) := call_cl (p141 a b l i v hi hl) (by simp [cl_AAB, cl_I]) lo T

/-! ### goes: memory and priority -/
/-- The number of a row once it was met. -/
def prioN (A E : List (List Bool)) (v mem : Nat) : Nat :=
  if metN E (mem % max 1 E.length) v ∧ mem % max 1 E.length = max 1 E.length - 1 then 2 else if metN A (mem / max 1 E.length) v ∧ mem / max 1 E.length = max 1 A.length - 1 then 1 else 0
def thenM (A E : List (List Bool)) (v mem : Nat) : Nat := turnN A (mem / max 1 E.length) v * max 1 E.length + turnN E (mem % max 1 E.length) v

theorem memsN_pos {A E : List (List Bool)} (hA : A.length ≤ 4) (hE : E.length ≤ 4) : memsN A E = max 1 A.length * max 1 E.length := by unfold memsN; rw [if_neg (by omega)]
theorem mem_div {A E : List (List Bool)} {mem : Nat} (hA : A.length ≤ 4) (hE : E.length ≤ 4) (h : mem < memsN A E) : okAt A (mem / max 1 E.length) ∧ okAt E (mem % max 1 E.length) := by
  rw [memsN_pos hA hE] at h
  refine ⟨?_, Nat.mod_lt _ (by omega)⟩
  unfold okAt
  exact Nat.div_lt_of_lt_mul (by rw [Nat.mul_comm]; exact h)
theorem turnN_lt {l : List (List Bool)} {i v : Nat} (h : okAt l i) : turnN l i v < max 1 l.length := by
  unfold turnN
  split
  · exact Nat.mod_lt _ (by omega)
  · exact h
theorem thenM_lt {A E : List (List Bool)} {v mem : Nat} (hA : A.length ≤ 4) (hE : E.length ≤ 4) (h : mem < memsN A E) : thenM A E v mem < memsN A E := by
  obtain ⟨h1, h2⟩ := mem_div hA hE h
  have k1 := turnN_lt (v := v) h1
  have k2 := turnN_lt (v := v) h2
  rw [memsN_pos hA hE]
  unfold thenM
  calc turnN A (mem / max 1 E.length) v * max 1 E.length + turnN E (mem % max 1 E.length) v < turnN A (mem / max 1 E.length) v * max 1 E.length + max 1 E.length := by omega
    _ = (turnN A (mem / max 1 E.length) v + 1) * max 1 E.length := by rw [Nat.add_mul, Nat.one_mul]
    _ ≤ _ := Nat.mul_le_mul_right _ k1

theorem td_nat {a b : Nat} : (a : Int).tdiv (b : Int) = ((a / b : Nat) : Int) := rfl

theorem g138 {lo : Nat} {T : Tab} {a b : Nl} {l : List (List Bool)} {i v : Nat} (hi : okAt l i) {x1 x10 x11 x13 x14 : AV} :
    exec prog lo (.reg false r138_4 [1, 2, 10, 11, 12, 13, 14, 37]) [(0, rowsV a b l), (1, x1), (2, I (v : Int)), (10, x10), (11, x11), (12, N i), (13, x13), (14, x14)] T = some (.nrm [(1, x1), (2, I (v : Int)), (10, x10), (11, x11), (12, N i), (13, x13), (14, x14), (37, B (metN l i v))] T) := by
  by_cases h0 : l = []
  · subst h0
    have q : decide (((0 : Nat) : Int) = 0) = true := rfl
    simp only [ev, Nat.reduceBEq, Nat.reduceAdd, decide_true, decide_false, r138_4, q, List.map_nil]
    rfl
  · have hl : 0 < l.length := List.length_pos_iff.2 h0
    have hi' : i < l.length := by unfold okAt at hi; omega
    obtain ⟨r, hr⟩ := get_ex hi'
    have e : metN l i v = has r v := by
      unfold metN
      rw [hr, List.isEmpty_eq_false_iff.2 h0]
      rfl
    have q : ¬ (l.length : Int) = 0 := by omega
    have h48 := a48 b r v
    rw [hasI_nat] at h48
    rw [e]
    simp only [ev, Nat.reduceBEq, Nat.reduceAdd, decide_true, decide_false, r138_4, q, hi', hr, h48]
theorem g138b {lo : Nat} {T : Tab} {a b : Nl} {l : List (List Bool)} {i v : Nat} (hi : okAt l i) {x11 x12 x14 x10 : AV} :
    exec prog lo (.reg false r138_8 [11, 12, 13, 14, 56]) [(1, rowsV a b l), (2, I (v : Int)), (11, x11), (12, x12), (13, N i), (14, x14)] T = some (.nrm [(11, x11), (12, x12), (13, N i), (14, x14), (56, B (metN l i v))] T) := by
  by_cases h0 : l = []
  · subst h0
    have q : decide (((0 : Nat) : Int) = 0) = true := rfl
    simp only [ev, Nat.reduceBEq, Nat.reduceAdd, decide_true, decide_false, r138_8, q, List.map_nil]
    rfl
  · have hl : 0 < l.length := List.length_pos_iff.2 h0
    have hi' : i < l.length := by unfold okAt at hi; omega
    obtain ⟨r, hr⟩ := get_ex hi'
    have e : metN l i v = has r v := by
      unfold metN
      rw [hr, List.isEmpty_eq_false_iff.2 h0]
      rfl
    have q : ¬ (l.length : Int) = 0 := by omega
    have h48 := a48 b r v
    rw [hasI_nat] at h48
    rw [e]
    simp only [ev, Nat.reduceBEq, Nat.reduceAdd, decide_true, decide_false, r138_8, q, hi', hr, h48]

theorem g138c {lo : Nat} {T : Tab} {a b : Nl} {l : List (List Bool)} {i v : Nat} (hi : okAt l i) {x11 x12 x14 x10 x37 : AV} :
    exec prog lo (.reg false r138_8 [11, 12, 13, 14, 56]) [(1, rowsV a b l), (2, I (v : Int)), (10, x10), (11, x11), (12, x12), (13, N i), (14, x14), (37, x37)] T = some (.nrm [(11, x11), (12, x12), (13, N i), (14, x14), (56, B (metN l i v))] T) := by
  by_cases h0 : l = []
  · subst h0
    have q : decide (((0 : Nat) : Int) = 0) = true := rfl
    simp only [ev, Nat.reduceBEq, Nat.reduceAdd, decide_true, decide_false, r138_8, q, List.map_nil]
    rfl
  · have hl : 0 < l.length := List.length_pos_iff.2 h0
    have hi' : i < l.length := by unfold okAt at hi; omega
    obtain ⟨r, hr⟩ := get_ex hi'
    have e : metN l i v = has r v := by
      unfold metN
      rw [hr, List.isEmpty_eq_false_iff.2 h0]
      rfl
    have q : ¬ (l.length : Int) = 0 := by omega
    have h48 := a48 b r v
    rw [hasI_nat] at h48
    rw [e]
    simp only [ev, Nat.reduceBEq, Nat.reduceAdd, decide_true, decide_false, r138_8, q, hi', hr, h48]

theorem p138 (a b c d : Nl) (A E : List (List Bool)) (v mem : Nat) (hA : A.length ≤ 4) (hE : E.length ≤ 4) (hm : mem < memsN A E) : Pr 138 [rowsV a b A, rowsV c d E, N v, N mem] (.tup [N (thenM A E v mem), N (prioN A E v mem)]) true := by
  obtain ⟨h1, h2⟩ := mem_div hA hE hm
  have h16 := memsN_le A E
  have zz : (((max 1 E.length : Nat) : Int) == 0) = false := by simp
  have zA : (((max 1 A.length : Nat) : Int) == 0) = false := by simp
  generalize hi : mem / max 1 E.length = i at h1
  generalize hj : mem % max 1 E.length = j at h2
  have i4 : i < 4 := by unfold okAt at h1; omega
  have j4 : j < 4 := by unfold okAt at h2; omega
  have wi : IntKind.i64.wrap (i : Int) = (i : Int) := wrap_id (by omega) (by omega)
  have wi1 := wrap_succ (j := i) (by omega)
  have wj1 := wrap_succ (j := j) (by omega)
  have sA : IntKind.i64.wrap (((max 1 A.length : Nat) : Int) - 1) = ((max 1 A.length - 1 : Nat) : Int) := by rw [wrap_id (by omega) (by omega)]; omega
  have sE : IntKind.i64.wrap (((max 1 E.length : Nat) : Int) - 1) = ((max 1 E.length - 1 : Nat) : Int) := by rw [wrap_id (by omega) (by omega)]; omega
  have g1 := fun lo T x1 x10 x11 x13 x14 => g138 (lo := lo) (T := T) (a := a) (b := b) (l := A) (i := i) (v := v) h1 (x1 := x1) (x10 := x10) (x11 := x11) (x13 := x13) (x14 := x14)
  have g2 := fun lo T x11 x12 x14 => g138b (lo := lo) (T := T) (a := c) (b := d) (l := E) (i := j) (v := v) h2 (x11 := x11) (x12 := x12) (x14 := x14) (x10 := .unk)
  have g3 := fun lo T x11 x12 x14 x10 x37 => g138c (lo := lo) (T := T) (a := c) (b := d) (l := E) (i := j) (v := v) h2 (x11 := x11) (x12 := x12) (x14 := x14) (x10 := x10) (x37 := x37)
  have fin : ∀ k m : Nat, k < 4 → m < 4 → IntKind.i64.wrap ((k : Int) * ((max 1 E.length : Nat) : Int)) = ((k * max 1 E.length : Nat) : Int) ∧ IntKind.i64.wrap (((k * max 1 E.length : Nat) : Int) + (m : Int)) = ((k * max 1 E.length + m : Nat) : Int) := fun k m hk hm => by
    have : k * max 1 E.length ≤ 4 * 4 := Nat.mul_le_mul (by omega) (by omega)
    have e : (k : Int) * ((max 1 E.length : Nat) : Int) = ((k * max 1 E.length : Nat) : Int) := by simp
    refine ⟨by rw [e, wrap_id (by omega) (by omega)], by rw [wrap_id (by omega) (by omega)]; simp⟩
  have t1 : turnN A i v < 4 := by have := turnN_lt (v := v) h1; omega
  have t2 : turnN E j v < 4 := by have := turnN_lt (v := v) h2; omega
  obtain ⟨f1, f2⟩ := fin _ _ t1 t2
  have e1 : thenM A E v mem = turnN A i v * max 1 E.length + turnN E j v := by unfold thenM; rw [hi, hj]
  have c1 : decide ((i : Int) = ((max 1 A.length - 1 : Nat) : Int)) = decide (i = max 1 A.length - 1) := decide_eq_decide.2 (by omega)
  have c2 : decide ((j : Int) = ((max 1 E.length - 1 : Nat) : Int)) = decide (j = max 1 E.length - 1) := decide_eq_decide.2 (by omega)
  have e2 : prioN A E v mem = if (metN E j v && decide (j = max 1 E.length - 1)) = true then 2 else if (metN A i v && decide (i = max 1 A.length - 1)) = true then 1 else 0 := by unfold prioN; rw [hi, hj]; simp
  rw [e1, e2]
  generalize decide (i = max 1 A.length - 1) = u at c1
  generalize decide (j = max 1 E.length - 1) = y at c2
  refine pr_ret2 (m := m138) (b1 := true) (b2 := true) rfl rfl (E := [(8, N (turnN A i v * max 1 E.length + turnN E j v)), (9, N (if (metN E j v && y) = true then 2 else if (metN A i v && u) = true then 1 else 0))]) (T := []) ?_ (t := 8) (u := 9) rfl rfl rfl rfl rfl rfl rfl
  show exec prog 0 c138 [(0, _), (1, _), (2, _), (3, _)] [] = _
  unfold turnN at f1 f2 ⊢
  cases q1 : metN A i v <;> cases q2 : metN E j v <;> rw [q1] at g1 f1 f2 <;> rw [q2] at g2 g3 f2 <;> cases u <;> cases y <;> simp only [if_true, if_false, Bool.false_eq_true] at f1 f2 <;>
    simp only [ev, Nat.reduceBEq, Nat.reduceAdd, decide_true, decide_false, r138_1, r138_2, x138_3, q138_3, r138_5, r138_6, r138_7, r138_9, r138_10, r138_11, r138_12, c138, mx_nat, zz, zA, td_nat, tm_nat, hi, hj, wi, wi1, wj1, sA, sE, g1, g2, g3, c1, c2, f1, f2, Bool.false_eq_true, if_true, if_false] <;> rfl
end Go.Proofs.Ytlilfiekkaolkaa.Am
