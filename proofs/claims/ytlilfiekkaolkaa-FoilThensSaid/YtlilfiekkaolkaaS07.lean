/- What the functions compute: the environment's memory. -/
import Derived.Test.YtlilfiekkaolkaaS06
set_option linter.unusedVariables false
set_option linter.unusedSimpArgs false
namespace Go.Proofs.Ytlilfiekkaolkaa.Am
open Go

def foilThenI (o : List Int) (nx : List (List Int)) (A E : List (List Bool)) (v mem : Int) : Int := if mayI o nx ≠ 0 ∨ atI A E v mem < 0 ∨ o.length ≤ v then -1 else (thenM A E v.toNat mem.toNat : Int)

theorem atI_pos {A E : List (List Bool)} {v mem : Int} (h : ¬ atI A E v mem < 0) : ∃ j k : Nat, v = j ∧ mem = k ∧ k < memsN A E ∧ A.length ≤ 4 ∧ E.length ≤ 4 := by
  unfold atI at h
  split at h
  · omega
  · rename_i h0
    obtain ⟨j, rfl⟩ := Int_eq_of_nn (v := v) (by omega)
    obtain ⟨k, rfl⟩ := Int_eq_of_nn (v := mem) (by omega)
    have : memsN A E ≠ 0 := by omega
    unfold memsN at this
    split at this
    · exact absurd rfl this
    · exact ⟨j, k, rfl, rfl, by omega, by omega, by omega⟩

theorem p84 (a b c d e f g : Nl) (o : List Int) (nx : List (List Int)) (hs : Short nx) (A E : List (List Bool)) (v mem : Int) : Pr 84 [gameV a b c o nx, rowsV d e A, rowsV f g E, I v, I mem] (I (foilThenI o nx A E v mem)) true := by
  have h35 := a35 a b c o nx hs
  have h139 := a139 d e f g A E v mem
  by_cases h0 : mayI o nx ≠ 0 ∨ atI A E v mem < 0 ∨ o.length ≤ v
  · have e1 : foilThenI o nx A E v mem = -1 := by unfold foilThenI; rw [if_pos h0]
    rw [e1]
    refine pr_ret (m := m84) rfl rfl (E := [(10, I (-1))]) (T := [.box [Ar a I o, Ar b (Ar c I) nx]]) ?_ (t := 10) rfl rfl rfl rfl
    show exec prog 0 c84 [(0, _), (1, _), (2, _), (3, _), (4, _)] [] = _
    by_cases h1 : mayI o nx = 0
    · by_cases h2 : atI A E v mem < 0
      · simp only [ev, Nat.reduceBEq, Nat.reduceAdd, decide_true, decide_false, r84_1, r84_2, r84_3, c84, h35, h1, h139, h2]
      · have h3 : (o.length : Int) ≤ v := by omega
        simp only [ev, Nat.reduceBEq, Nat.reduceAdd, decide_true, decide_false, r84_1, r84_2, r84_3, c84, h35, h1, h139, h2, h3]
    · simp only [ev, Nat.reduceBEq, Nat.reduceAdd, decide_true, decide_false, r84_1, r84_2, r84_3, c84, h35, h1]
  · have h1 : mayI o nx = 0 := by omega
    have h2 : ¬ atI A E v mem < 0 := by omega
    have h3 : ¬ (o.length : Int) ≤ v := by omega
    obtain ⟨j, k, rfl, rfl, hk, hA, hE⟩ := atI_pos h2
    have h138 := fun lo T => call_cl (p138 d e f g A E j k hA hE hk) (by simp [cl_AAB, cl_I]) lo T
    have e1 : foilThenI o nx A E j k = (thenM A E j k : Int) := by unfold foilThenI; rw [if_neg h0]; rfl
    rw [e1]
    refine pr_ret (m := m84) rfl rfl (E := [(10, N (thenM A E j k))]) (T := [.box [Ar a I o, Ar b (Ar c I) nx]]) ?_ (t := 10) rfl rfl rfl rfl
    show exec prog 0 c84 [(0, _), (1, _), (2, _), (3, _), (4, _)] [] = _
    simp only [ev, Nat.reduceBEq, Nat.reduceAdd, decide_true, decide_false, r84_1, r84_2, r84_4, r84_5, c84, h35, h1, h139, h2, h3, h138]
theorem a84 (a b c d e f g : Nl) (o : List Int) (nx : List (List Int)) (hs : Short nx) (A E : List (List Bool)) (v mem : Int) (lo : Nat) (T : Tab) :
    acall prog lo 84 [gameV a b c o nx, rowsV d e A, rowsV f g E, I v, I mem] T = some (I (foilThenI o nx A E v mem), T) := call_cl (p84 a b c d e f g o nx hs A E v mem) (by simp [cl_game, cl_AAB, cl_I]) lo T

theorem p85 (a b c d e f g : Nl) (o : List Int) (nx : List (List Int)) (hs : Short nx) (A E : List (List Bool)) (v mem : Int) : Pr 85 [gameV a b c o nx, rowsV d e A, rowsV f g E, I v, I mem] (I (foilThenI o nx A E v mem)) true := by
  have h69 := a69 a b c o nx hs
  have h140 := a140 d e f g A E v mem
  by_cases h0 : mayI o nx ≠ 0 ∨ atI A E v mem < 0 ∨ o.length ≤ v
  · have e1 : foilThenI o nx A E v mem = -1 := by unfold foilThenI; rw [if_pos h0]
    rw [e1]
    refine pr_ret (m := m85) rfl rfl (E := [(10, I (-1))]) (T := [.box [Ar a I o, Ar b (Ar c I) nx]]) ?_ (t := 10) rfl rfl rfl rfl
    show exec prog 0 c85 [(0, _), (1, _), (2, _), (3, _), (4, _)] [] = _
    by_cases h1 : mayI o nx = 0
    · by_cases h2 : atI A E v mem < 0
      · simp only [ev, Nat.reduceBEq, Nat.reduceAdd, decide_true, decide_false, r85_1, r85_2, r85_3, c85, h69, h1, h140, h2]
      · have h3 : (o.length : Int) ≤ v := by omega
        simp only [ev, Nat.reduceBEq, Nat.reduceAdd, decide_true, decide_false, r85_1, r85_2, r85_3, c85, h69, h1, h140, h2, h3]
    · simp only [ev, Nat.reduceBEq, Nat.reduceAdd, decide_true, decide_false, r85_1, r85_2, r85_3, c85, h69, h1]
  · have h1 : mayI o nx = 0 := by omega
    have h2 : ¬ atI A E v mem < 0 := by omega
    have h3 : ¬ (o.length : Int) ≤ v := by omega
    obtain ⟨j, k, rfl, rfl, hk, hA, hE⟩ := atI_pos h2
    have e1 : foilThenI o nx A E j k = (thenM A E j k : Int) := by unfold foilThenI; rw [if_neg h0]; rfl
    rw [e1]
    obtain ⟨k1, k2⟩ := mem_div hA hE hk
    have z1 := a141 d e A (k / max 1 E.length) j k1 hA
    have z2 := a141 f g E (k % max 1 E.length) j k2 hE
    have zz : (((max 1 E.length : Nat) : Int) == 0) = false := by simp
    have t1 := turnN_lt (v := j) k1
    have t2 := turnN_lt (v := j) k2
    have h16 := memsN_le A E
    have hq : k / max 1 E.length ≤ k := Nat.div_le_self _ _
    have wi : IntKind.i64.wrap ((k / max 1 E.length : Nat) : Int) = ((k / max 1 E.length : Nat) : Int) := (fun (q : Nat) (hq : q ≤ 16) => wrap_id (x := (q : Int)) (by omega) (by omega)) _ (Nat.le_trans hq (by omega))
    have hm : turnN A (k / max 1 E.length) j * max 1 E.length ≤ 4 * 4 := Nat.mul_le_mul (by omega) (by omega)
    have em : ((turnN A (k / max 1 E.length) j : Nat) : Int) * ((max 1 E.length : Nat) : Int) = ((turnN A (k / max 1 E.length) j * max 1 E.length : Nat) : Int) := by simp
    have w1 : IntKind.i64.wrap (((turnN A (k / max 1 E.length) j : Nat) : Int) * ((max 1 E.length : Nat) : Int)) = ((turnN A (k / max 1 E.length) j * max 1 E.length : Nat) : Int) := by rw [em, wrap_id (by omega) (by omega)]
    have w2 : IntKind.i64.wrap (((turnN A (k / max 1 E.length) j * max 1 E.length : Nat) : Int) + ((turnN E (k % max 1 E.length) j : Nat) : Int)) = (thenM A E j k : Int) := by
      rw [wrap_id (by omega) (by omega)]; unfold thenM; simp
    refine pr_ret (m := m85) rfl rfl (E := [(10, N (thenM A E j k))]) (T := [.box [Ar a I o, Ar b (Ar c I) nx]]) ?_ (t := 10) rfl rfl rfl rfl
    show exec prog 0 c85 [(0, _), (1, _), (2, _), (3, _), (4, _)] [] = _
    simp only [ev, Nat.reduceBEq, Nat.reduceAdd, decide_true, decide_false, r85_1, r85_2, r85_4, x85_5, q85_5, c85, h69, h1, h140, h2, h3, mx_nat, zz, td_nat, tm_nat, wi, z1, z2, w1, w2]
theorem a85 (a b c d e f g : Nl) (o : List Int) (nx : List (List Int)) (hs : Short nx) (A E : List (List Bool)) (v mem : Int) (lo : Nat) (T : Tab) :
    acall prog lo 85 [gameV a b c o nx, rowsV d e A, rowsV f g E, I v, I mem] T = some (I (foilThenI o nx A E v mem), T) := call_cl (p85 a b c d e f g o nx hs A E v mem) (by simp [cl_game, cl_AAB, cl_I]) lo T
end Go.Proofs.Ytlilfiekkaolkaa.Am
