/- What the functions compute: games that may be, as the program says it; how large a game is. -/
import Derived.Test.YtlilfiekkaolkaaS02
set_option linter.unusedVariables false
set_option linter.unusedSimpArgs false
namespace Go.Proofs.Ytlilfiekkaolkaa.Am
open Go

theorem l69 {lo : Nat} {T : Tab} (a b c : Nl) (o : List Int) (nx : List (List Int)) (hlen : nx.length = o.length) (hs : Short nx) (t : Nat) (ht : tget T t = .box [Ar a I o, Ar b (Ar c I) nx]) (hb : o.length ≤ 3000) : ∀ (k j : Nat), j + k = o.length →
    ∃ E', exec prog lo (.loop [1, 19, 20, 21] b69_1) [(1, .ptr t 0), (19, Ar a I o), (20, N o.length), (21, N j)] T = some (if okRows o.length (o.drop j) (nx.drop j) then .ext 1 E' T else .ret [(2, I 1)] T) := by
  intro k
  induction k with
  | zero =>
    intro j hj
    have h0 := lt_f (a := j) (b := o.length) (by omega)
    rw [List.drop_eq_nil_of_le (by omega)]
    rw [ex_loop]; conv in exec _ _ b69_1 _ _ => rw [b69_1]
    simp only [ev, Nat.reduceBEq, Nat.reduceAdd, decide_true, decide_false, r69_7, h0, okRows, if_true]
    exact ⟨_, rfl⟩
  | succ k ih =>
    intro j hj
    have h0 := lt_t (a := j) (b := o.length) (by omega)
    obtain ⟨x, hx⟩ := get_ex (l := o) (j := j) (by omega)
    obtain ⟨l, hl⟩ := get_ex (l := nx) (j := j) (by omega)
    have hjo := get_lt hx
    have hjn := get_lt hl
    have hw := wrap_succ (j := j) (by omega)
    have hll := hs l (List.mem_of_getElem? hl)
    have hr := a129 c l o.length hll
    rw [drop_get hx, drop_get hl]
    rw [ex_loop]; conv in exec _ _ b69_1 _ _ => rw [b69_1]
    by_cases h1 : x = 0
    · have h1' : decide (x = 0) = true := by simp [h1]
      cases h3 : rising o.length (-1) l <;> rw [h3] at hr
      · simp only [ev, Nat.reduceBEq, Nat.reduceAdd, decide_true, decide_false, r69_7, r69_8, x69_9, q69_9, r69_10, r69_11, h0, hx, hjo, hjn, hl, hw, h1', ht, hr, h3, okRows, Bool.false_eq_true, if_false]
        exact ⟨[], trivial⟩
      · simp only [ev, Nat.reduceBEq, Nat.reduceAdd, decide_true, decide_false, r69_7, r69_8, x69_9, q69_9, r69_10, r69_11, h0, hx, hjo, hjn, hl, hw, h1', ht, hr, h3, okRows]
        exact ih (j + 1) (by omega)
    · have h1' : decide (x = 0) = false := by simp [h1]
      by_cases h2 : x = 1
      · have h2' : decide (x = 1) = true := by simp [h2]
        cases h3 : rising o.length (-1) l <;> rw [h3] at hr
        · simp only [ev, Nat.reduceBEq, Nat.reduceAdd, decide_true, decide_false, r69_7, r69_8, x69_9, q69_9, r69_10, r69_11, h0, hx, hjo, hjn, hl, hw, h1', h2', ht, hr, h3, okRows, Bool.false_eq_true, if_false]
          exact ⟨[], trivial⟩
        · simp only [ev, Nat.reduceBEq, Nat.reduceAdd, decide_true, decide_false, r69_7, r69_8, x69_9, q69_9, r69_10, r69_11, h0, hx, hjo, hjn, hl, hw, h1', h2', ht, hr, h3, okRows]
          exact ih (j + 1) (by omega)
      · have h2' : decide (x = 1) = false := by simp [h2]
        simp only [ev, Nat.reduceBEq, Nat.reduceAdd, decide_true, decide_false, r69_7, r69_8, x69_9, q69_9, r69_10, r69_11, h0, hx, hjo, hjn, hl, hw, h1', h2', ht, okRows, Bool.false_eq_true, if_false]
        exact ⟨[], trivial⟩

theorem p69 (a b c : Nl) (o : List Int) (nx : List (List Int)) (hs : Short nx) : Pr 69 [gameV a b c o nx] (I (mayI o nx)) true := by
  by_cases h1 : (3000 : Int) < o.length
  · have e : mayI o nx = 7 := by unfold mayI; rw [if_pos (by omega)]
    rw [e]
    refine pr_ret (m := m69) rfl rfl (E := [(2, I 7)]) (T := [.box [Ar a I o, Ar b (Ar c I) nx]]) ?_ (t := 2) rfl rfl rfl rfl
    show exec prog 0 c69 [(0, _)] [] = _
    simp only [ev, Nat.reduceBEq, Nat.reduceAdd, decide_true, decide_false, r69_1, r69_2, r69_3, c69, h1]
  · by_cases h2 : nx.length = o.length
    · have h2' : (nx.length : Int) = o.length := by omega
      obtain ⟨E', h⟩ := l69 (lo := 0) (T := [.box [Ar a I o, Ar b (Ar c I) nx]]) a b c o nx h2 hs 0 rfl (by omega) o.length 0 (by omega)
      simp only [List.drop_zero, N, Int.natCast_zero] at h
      have e : mayI o nx = if okRows o.length o nx then 0 else 1 := by unfold mayI; rw [if_neg (by omega), if_neg (by omega)]
      rw [e]
      cases hr : okRows o.length o nx <;> rw [hr] at h
      · refine pr_ret (m := m69) rfl rfl (E := [(2, I 1)]) (T := [.box [Ar a I o, Ar b (Ar c I) nx]]) ?_ (t := 2) rfl rfl rfl rfl
        show exec prog 0 c69 [(0, _)] [] = _
        simp only [ev, Nat.reduceBEq, Nat.reduceAdd, decide_true, decide_false, r69_1, r69_2, r69_3, r69_4, r69_5, r69_6, c69, h1, h2', h, Bool.false_eq_true, if_false]
      · refine pr_ret (m := m69) rfl rfl (E := [(2, I 0)]) (T := [.box [Ar a I o, Ar b (Ar c I) nx]]) ?_ (t := 2) rfl rfl rfl rfl
        show exec prog 0 c69 [(0, _)] [] = _
        simp only [ev, Nat.reduceBEq, Nat.reduceAdd, decide_true, decide_false, r69_1, r69_2, r69_3, r69_4, r69_5, r69_6, r69_12, c69, h1, h2', h, if_true]
    · have h2' : ¬ (nx.length : Int) = o.length := by omega
      have e : mayI o nx = 1 := by unfold mayI; rw [if_neg (by omega), if_pos h2]
      rw [e]
      refine pr_ret (m := m69) rfl rfl (E := [(2, I 1)]) (T := [.box [Ar a I o, Ar b (Ar c I) nx]]) ?_ (t := 2) rfl rfl rfl rfl
      show exec prog 0 c69 [(0, _)] [] = _
      simp only [ev, Nat.reduceBEq, Nat.reduceAdd, decide_true, decide_false, r69_1, r69_2, r69_3, r69_4, r69_5, c69, h1, h2']
theorem a69 (a b c : Nl) (o : List Int) (nx : List (List Int)) (hs : Short nx) (lo : Nat) (T : Tab) : acall prog lo 69 [gameV a b c o nx] T = some (I (mayI o nx), T) := call_cl (p69 a b c o nx hs) (by simp [cl_game]) lo T

/-! ### How large a game is -/
def wsum : Int → List (List Int) → Int
  | n, [] => n
  | n, l :: r => wsum (IntKind.i64.wrap (n + (l.length : Int))) r
def heavyI (o : List Int) (nx : List (List Int)) : Int := if 400 < wsum o.length nx ∨ 200 < nx.length then wsum o.length nx else 0

theorem l92 {lo : Nat} {T : Tab} (b c : Nl) (nx : List (List Int)) (hb : nx.length < 9223372036854775808) (x1 : AV) : ∀ (k j : Nat) (n : Int), j + k = nx.length →
    exec prog lo (.loop [1, 3, 10, 11, 12] b92_1) [(1, x1), (3, I n), (10, Ar b (Ar c I) nx), (11, N nx.length), (12, N j)] T = some (.ext 0 [(1, x1), (3, I (wsum n (nx.drop j))), (10, Ar b (Ar c I) nx), (11, N nx.length), (12, N nx.length), (13, B false)] T) := by
  intro k
  induction k with
  | zero =>
    intro j n hj
    have hj' : j = nx.length := by omega
    subst hj'
    have h0 := lt_f (a := nx.length) (b := nx.length) (by omega)
    rw [List.drop_length]
    rw [ex_loop]; conv in exec _ _ b92_1 _ _ => rw [b92_1]
    simp only [ev, Nat.reduceBEq, Nat.reduceAdd, decide_true, decide_false, r92_4, h0, wsum]
  | succ k ih =>
    intro j n hj
    have h0 := lt_t (a := j) (b := nx.length) (by omega)
    obtain ⟨l, hl⟩ := get_ex (l := nx) (j := j) (by omega)
    have hjn := get_lt hl
    have hw := wrap_succ (j := j) (by omega)
    rw [drop_get hl, wsum]
    rw [ex_loop]; conv in exec _ _ b92_1 _ _ => rw [b92_1]
    simp only [ev, Nat.reduceBEq, Nat.reduceAdd, decide_true, decide_false, r92_4, r92_5, r92_6, r92_7, h0, hjn, hl, hw]
    exact ih (j + 1) _ (by omega)

theorem p92 (a b c : Nl) (o : List Int) (nx : List (List Int)) (hb : nx.length < 9223372036854775808) : Pr 92 [gameV a b c o nx] (I (heavyI o nx)) true := by
  have h := l92 (lo := 0) (T := [.box [Ar a I o, Ar b (Ar c I) nx]]) b c nx hb (.ptr 0 0) nx.length 0 o.length (by omega)
  simp only [List.drop_zero, N, Int.natCast_zero] at h
  refine pr_ret (m := m92) rfl rfl (E := [(2, I (heavyI o nx))]) (T := [.box [Ar a I o, Ar b (Ar c I) nx]]) ?_ (t := 2) rfl rfl rfl rfl
  show exec prog 0 c92 [(0, _)] [] = _
  by_cases h1 : 400 < wsum o.length nx
  · have e : heavyI o nx = wsum o.length nx := by unfold heavyI; rw [if_pos (.inl h1)]
    rw [e]
    simp only [ev, Nat.reduceBEq, Nat.reduceAdd, decide_true, decide_false, r92_1, r92_2, r92_3, r92_8, r92_9, r92_10, c92, h, h1]
  · by_cases h2 : (200 : Int) < nx.length
    · have e : heavyI o nx = wsum o.length nx := by unfold heavyI; rw [if_pos (.inr (by omega))]
      rw [e]
      simp only [ev, Nat.reduceBEq, Nat.reduceAdd, decide_true, decide_false, r92_1, r92_2, r92_3, r92_8, r92_9, r92_10, c92, h, h1, h2]
    · have e : heavyI o nx = 0 := by unfold heavyI; rw [if_neg (by omega)]
      rw [e]
      simp only [ev, Nat.reduceBEq, Nat.reduceAdd, decide_true, decide_false, r92_1, r92_2, r92_3, r92_8, r92_9, r92_10, c92, h, h1, h2]
theorem a92 (a b c : Nl) (o : List Int) (nx : List (List Int)) (hb : nx.length < 9223372036854775808) (lo : Nat) (T : Tab) : acall prog lo 92 [gameV a b c o nx] T = some (I (heavyI o nx), T) := call_cl (p92 a b c o nx hb) (by simp [cl_game]) lo T

/-! ### with rows -/
def long (l : List (List Bool)) : Bool := l.any fun r => decide (300 < r.length)
def heavy18 (o : List Int) (nx : List (List Int)) (A E : List (List Bool)) : Int :=
  if 0 < heavyI o nx then heavyI o nx else if 40 < o.length ∨ 6 < A.length ∨ 6 < E.length then 1 else if long A || long E then 1 else 0

theorem l49 {lo : Nat} {T : Tab} (a b : Nl) (l : List (List Bool)) (hb : l.length ≤ 6) (x33 x34 : AV) : ∀ (k j : Nat), j + k = l.length →
    ∃ v, exec prog lo (.loop [33, 34, 37, 38, 39] b49_2) [(33, x33), (34, x34), (37, rowsV a b l), (38, N l.length), (39, N j)] T = some (if long (l.drop j) then .ret [(6, I 1)] T else .ext 2 [(33, x33), (34, x34), (37, rowsV a b l), (38, N l.length), (39, v), (40, B false)] T) := by
  intro k
  induction k with
  | zero =>
    intro j hj
    have h0 := lt_f (a := j) (b := l.length) (by omega)
    rw [List.drop_eq_nil_of_le (by omega)]
    rw [ex_loop]; conv in exec _ _ b49_2 _ _ => rw [b49_2]
    simp only [ev, Nat.reduceBEq, Nat.reduceAdd, decide_true, decide_false, r49_11, h0, long, List.any_nil, Bool.false_eq_true, if_false]
    exact ⟨_, rfl⟩
  | succ k ih =>
    intro j hj
    have h0 := lt_t (a := j) (b := l.length) (by omega)
    obtain ⟨r, hr⟩ := get_ex (l := l) (j := j) (by omega)
    have hjn := get_lt hr
    have hw := wrap_succ (j := j) (by omega)
    rw [drop_get hr]
    rw [ex_loop]; conv in exec _ _ b49_2 _ _ => rw [b49_2]
    by_cases h1 : (300 : Int) < r.length
    · have h1' : 300 < r.length := by omega
      simp only [ev, Nat.reduceBEq, Nat.reduceAdd, decide_true, decide_false, r49_11, r49_12, r49_13, r49_14, r49_15, h0, hr, hjn, hw, h1, h1', long, List.any_cons, if_true]
      exact ⟨.unk, trivial⟩
    · have h1' : ¬ 300 < r.length := by omega
      simp only [ev, Nat.reduceBEq, Nat.reduceAdd, decide_true, decide_false, r49_11, r49_12, r49_13, r49_14, r49_15, h0, hr, hjn, hw, h1, h1', long, List.any_cons]
      exact ih (j + 1) (by omega)

theorem p49 (a b c : Nl) (o : List Int) (nx : List (List Int)) (hb : nx.length < 9223372036854775808) (d e f g : Nl) (A E : List (List Bool)) : Pr 49 [gameV a b c o nx, rowsV d e A, rowsV f g E] (I (heavy18 o nx A E)) true := by
  have h92 := a92 a b c o nx hb
  by_cases h1 : 0 < heavyI o nx
  · have e : heavy18 o nx A E = heavyI o nx := by unfold heavy18; rw [if_pos h1]
    rw [e]
    refine pr_ret (m := m49) rfl rfl (E := [(6, I (heavyI o nx))]) (T := [.box [Ar a I o, Ar b (Ar c I) nx]]) ?_ (t := 6) rfl rfl rfl rfl
    show exec prog 0 c49 [(0, _), (1, _), (2, _)] [] = _
    simp only [ev, Nat.reduceBEq, Nat.reduceAdd, decide_true, decide_false, r49_1, r49_2, r49_3, r49_4, c49, h92, h1]
  · have big : (40 < o.length ∨ 6 < A.length ∨ 6 < E.length) → Pr 49 [gameV a b c o nx, rowsV d e A, rowsV f g E] (I (heavy18 o nx A E)) true := fun h2 => by
      have e : heavy18 o nx A E = 1 := by unfold heavy18; rw [if_neg h1, if_pos h2]
      rw [e]
      refine pr_ret (m := m49) rfl rfl (E := [(6, I 1)]) (T := [.box [Ar a I o, Ar b (Ar c I) nx]]) ?_ (t := 6) rfl rfl rfl rfl
      show exec prog 0 c49 [(0, _), (1, _), (2, _)] [] = _
      by_cases h3 : (40 : Int) < o.length
      · simp only [ev, Nat.reduceBEq, Nat.reduceAdd, decide_true, decide_false, r49_1, r49_2, r49_3, r49_4, r49_5, r49_6, c49, h92, h1, h3]
      · by_cases h4 : (6 : Int) < A.length
        · simp only [ev, Nat.reduceBEq, Nat.reduceAdd, decide_true, decide_false, r49_1, r49_2, r49_3, r49_4, r49_5, r49_6, c49, h92, h1, h3, h4]
        · have h5 : (6 : Int) < E.length := by omega
          simp only [ev, Nat.reduceBEq, Nat.reduceAdd, decide_true, decide_false, r49_1, r49_2, r49_3, r49_4, r49_5, r49_6, c49, h92, h1, h3, h4, h5]
    by_cases h2 : 40 < o.length ∨ 6 < A.length ∨ 6 < E.length
    · exact big h2
    have h3 : ¬ (40 : Int) < o.length := by omega
    have h4 : ¬ (6 : Int) < A.length := by omega
    have h5 : ¬ (6 : Int) < E.length := by omega
    have e6 : heavy18 o nx A E = if long A || long E then 1 else 0 := by unfold heavy18; rw [if_neg h1, if_neg h2]
    obtain ⟨v1, k1⟩ := l49 (lo := 0) (T := [.box [Ar a I o, Ar b (Ar c I) nx]]) d e A (by omega) (.agg [rowsV d e A, rowsV f g E]) (I 0) A.length 0 (by omega)
    obtain ⟨v2, k2⟩ := l49 (lo := 0) (T := [.box [Ar a I o, Ar b (Ar c I) nx]]) f g E (by omega) (.agg [rowsV d e A, rowsV f g E]) (I 1) E.length 0 (by omega)
    simp only [List.drop_zero, N, Int.natCast_zero] at k1 k2
    have w1 : IntKind.i64.wrap (0 + 1) = 1 := by decide
    have w2 : IntKind.i64.wrap (1 + 1) = 2 := by decide
    have i0 : ∀ {T : Tab} {cs : List AV}, ixvK 2 1 T (.int .i64 0) (.agg cs) = valK T cs[0]? := fun {T cs} => iv_agg (j := 0) rfl
    have i1 : ∀ {T : Tab} {cs : List AV}, ixvK 2 1 T (.int .i64 1) (.agg cs) = valK T cs[1]? := fun {T cs} => iv_agg (j := 1) rfl
    have q0 : decide ((0 : Int) < 2) = true := rfl
    have q1 : decide ((1 : Int) < 2) = true := rfl
    have q2 : decide ((2 : Int) < 2) = false := rfl
    rw [e6]
    cases hA : long A
    · rw [hA] at k1
      cases hE : long E
      · rw [hE] at k2
        refine pr_ret (m := m49) rfl rfl (E := [(6, I 0)]) (T := [.box [Ar a I o, Ar b (Ar c I) nx]]) ?_ (t := 6) rfl rfl rfl rfl
        show exec prog 0 c49 [(0, _), (1, _), (2, _)] [] = _
        simp only [ev, Nat.reduceBEq, Nat.reduceAdd, decide_true, decide_false, r49_1, r49_2, r49_3, r49_5, r49_7, c49, h92, h1, h3, h4, h5, Nat.reduceLeDiff]
        rw [ex_loop]; conv in exec _ _ b49_1 _ _ => rw [b49_1]
        simp only [ev, Nat.reduceBEq, Nat.reduceAdd, decide_true, decide_false, r49_8, r49_9, r49_10, r49_16, q0, i0, k1, w1, Bool.false_eq_true, if_false]
        rw [ex_loop]; conv in exec _ _ b49_1 _ _ => rw [b49_1]
        simp only [ev, Nat.reduceBEq, Nat.reduceAdd, decide_true, decide_false, r49_8, r49_9, r49_10, r49_16, q1, i1, k2, w2, Bool.false_eq_true, if_false]
        rw [ex_loop]; conv in exec _ _ b49_1 _ _ => rw [b49_1]
        simp only [ev, Nat.reduceBEq, Nat.reduceAdd, decide_true, decide_false, r49_8, r49_17, q2]
      · rw [hE] at k2
        refine pr_ret (m := m49) rfl rfl (E := [(6, I 1)]) (T := [.box [Ar a I o, Ar b (Ar c I) nx]]) ?_ (t := 6) rfl rfl rfl rfl
        show exec prog 0 c49 [(0, _), (1, _), (2, _)] [] = _
        simp only [ev, Nat.reduceBEq, Nat.reduceAdd, decide_true, decide_false, r49_1, r49_2, r49_3, r49_5, r49_7, c49, h92, h1, h3, h4, h5, Nat.reduceLeDiff]
        rw [ex_loop]; conv in exec _ _ b49_1 _ _ => rw [b49_1]
        simp only [ev, Nat.reduceBEq, Nat.reduceAdd, decide_true, decide_false, r49_8, r49_9, r49_10, r49_16, q0, i0, k1, w1, Bool.false_eq_true, if_false]
        rw [ex_loop]; conv in exec _ _ b49_1 _ _ => rw [b49_1]
        simp only [ev, Nat.reduceBEq, Nat.reduceAdd, decide_true, decide_false, r49_8, r49_9, r49_10, r49_16, q1, i1, k2, w2, if_true]
    · rw [hA] at k1
      refine pr_ret (m := m49) rfl rfl (E := [(6, I 1)]) (T := [.box [Ar a I o, Ar b (Ar c I) nx]]) ?_ (t := 6) rfl rfl rfl rfl
      show exec prog 0 c49 [(0, _), (1, _), (2, _)] [] = _
      simp only [ev, Nat.reduceBEq, Nat.reduceAdd, decide_true, decide_false, r49_1, r49_2, r49_3, r49_5, r49_7, c49, h92, h1, h3, h4, h5, Nat.reduceLeDiff]
      rw [ex_loop]; conv in exec _ _ b49_1 _ _ => rw [b49_1]
      simp only [ev, Nat.reduceBEq, Nat.reduceAdd, decide_true, decide_false, r49_8, r49_9, r49_10, r49_16, q0, i0, k1, w1, if_true]
theorem a49 (a b c : Nl) (o : List Int) (nx : List (List Int)) (hb : nx.length < 9223372036854775808) (d e f g : Nl) (A E : List (List Bool)) (lo : Nat) (T : Tab) :
    acall prog lo 49 [gameV a b c o nx, rowsV d e A, rowsV f g E] T = some (I (heavy18 o nx A E), T) := call_cl (p49 a b c o nx hb d e f g A E) (by simp [cl_game, cl_AAB]) lo T
end Go.Proofs.Ytlilfiekkaolkaa.Am
