/- What the functions compute: rows of what is so of each vertex. -/
import Derived.Test.YtlilfiekkaolkaaS03
set_option linter.unusedVariables false
set_option linter.unusedSimpArgs false
namespace Go.Proofs.Ytlilfiekkaolkaa.Am
open Go

theorem p99 (nl : Nl) (l : List Bool) (v : Nat) : Pr 99 [Ar nl B l, N v] (B (has l v)) true := by
  by_cases h2 : (v : Int) < (l.length : Int)
  · have hj : v < l.length := by omega
    obtain ⟨x, hx⟩ := get_ex hj
    refine pr_ret (m := m99) rfl rfl (E := [(4, B x)]) (T := []) ?_ (t := 4) rfl rfl (by simp only [has, hx]; rfl) rfl
    show exec prog 0 c99 [(0, _), (1, _)] [] = _
    simp only [ev, Nat.reduceBEq, Nat.reduceAdd, decide_true, decide_false, r99_1, r99_2, c99, h2, hj, hx]
  · have hj : has l v = false := by unfold has; rw [List.getElem?_eq_none (by omega)]; rfl
    refine pr_ret (m := m99) rfl rfl (E := [(4, B false)]) (T := []) ?_ (t := 4) rfl rfl (by rw [hj]; rfl) rfl
    show exec prog 0 c99 [(0, _), (1, _)] [] = _
    simp only [ev, Nat.reduceBEq, Nat.reduceAdd, decide_true, decide_false, r99_1, r99_2, c99, h2]
theorem a99 (nl : Nl) (l : List Bool) (v : Nat) (lo : Nat) (T : Tab) : acall prog lo 99 [Ar nl B l, N v] T = some (B (has l v), T) := call_cl (p99 nl l v) (by simp [cl_AB, cl_I]) lo T

/-! ### each -/
theorem l97 {T : Tab} {f n : Nat} {cs : List AV} {p : Nat → Bool} {x : Obj} (hn : n ≤ 1073741824) (H : ∀ (v : Nat) (X : Tab), v < n → acall prog T.length f (N v :: cs) (T ++ X) = some (B (p v), T ++ X)) : ∀ (k j : Nat), j + k = n →
    ∃ E', exec prog T.length (.loop [1, 5, 12, 13] b97_1) [(1, .clos f [] cs), (5, .sl false 1 (T.length + 1) 0 0 n), (12, N n), (13, N j)] (T ++ [x, .arr 0 (fillTo n j (fun v => B (p v)) (B false))])
    = some (.ext 0 ((1, .clos f [] cs) :: (5, .sl false 1 (T.length + 1) 0 0 n) :: E') (T ++ [x, .arr 0 (fillTo n n (fun v => B (p v)) (B false))])) := by
  intro k
  induction k with
  | zero =>
    intro j hj
    have hj' : j = n := by omega
    subst hj'
    have h0 := lt_f (a := j) (b := j) (by omega)
    rw [ex_loop]; conv in exec _ _ b97_1 _ _ => rw [b97_1]
    simp only [ev, Nat.reduceBEq, Nat.reduceAdd, decide_true, decide_false, r97_4, h0]
    exact ⟨_, rfl⟩
  | succ k ih =>
    intro j hj
    have h0 := lt_t (a := j) (b := n) (by omega)
    have hw := wrap_succ (j := j) (by omega)
    have hH := H j [x, .arr 0 (fillTo n j (fun v => B (p v)) (B false))] (by omega)
    have hjn : j < n := by omega
    rw [ex_loop]; conv in exec _ _ b97_1 _ _ => rw [b97_1]
    simp only [ev, Nat.reduceBEq, Nat.reduceAdd, decide_true, decide_false, r97_4, r97_5, r97_6, r97_7, h0, hw, hH, hjn, tg_app, se_app, le_app, fll_len, beq_self_eq_true, fll_step (f := fun v => B (p v)) hjn]
    exact ih (j + 1) (by omega)

theorem e97 {T : Tab} {a b c : Nl} {o : List Int} {nx : List (List Int)} {f : Nat} {cs : List AV} {p : Nat → Bool} (hn : o.length ≤ 1073741824) (H : ∀ (v : Nat) (X : Tab), v < o.length → acall prog T.length f (N v :: cs) (T ++ X) = some (B (p v), T ++ X)) :
    exec prog T.length c97 (enter 0 [gameV a b c o nx, .clos f [] cs]) T = some (.ret [(4, .sl false 1 (T.length + 1) 0 0 o.length)] (T ++ [.box [Ar a I o, Ar b (Ar c I) nx], .arr 0 ((List.range o.length).map fun v => B (p v))])) := by
  obtain ⟨E', h⟩ := l97 (T := T) (x := .box [Ar a I o, Ar b (Ar c I) nx]) hn H o.length 0 (by omega)
  simp only [N, Int.natCast_zero, ← fll_zero, fll_full] at h
  show exec prog T.length c97 [(0, _), (1, _)] T = _
  simp only [ev, Nat.reduceBEq, Nat.reduceAdd, decide_true, decide_false, r97_1, r97_2, r97_3, r97_8, c97, tg_app, tg_app0, List.append_assoc, List.length_append, hn, h]

/-- each: a row of what is so of each vertex, its own. -/
theorem a1097 {T : Tab} {a b c : Nl} {o : List Int} {nx : List (List Int)} {f : Nat} {cs : List AV} {p : Nat → Bool} (hn : o.length ≤ 1073741824) (H : ∀ (v : Nat) (X : Tab), v < o.length → acall prog T.length f (N v :: cs) (T ++ X) = some (B (p v), T ++ X)) (lo : Nat) :
    acall prog lo 1097 [gameV a b c o nx, .clos f [] cs] T = some (.sl false 1 T.length 0 0 o.length, T ++ [.arr 0 ((List.range o.length).map fun v => B (p v))]) := by
  have h := call_2 (f := 1097) (m := m1097) (lo := lo) rfl rfl (e97 (a := a) (b := b) (c := c) (nx := nx) hn H) rfl rfl (by omega) (by rw [rd_sl, tg_app]; simp only [tg_succ, tg_zero]; exact rk_arr (by simp)) (frz_map (f := fun v => B (p v)) (fun _ => rfl) _)
  simpa using h

/-- A row of bools by a function. -/
def rowOf (n : Nat) (p : Nat → Bool) : List Bool := (List.range n).map p
theorem rowOf_map {n : Nat} {p : Nat → Bool} : (List.range n).map (fun v => B (p v)) = (rowOf n p).map B := by simp [rowOf]
theorem rowOf_len {n : Nat} {p : Nat → Bool} : (rowOf n p).length = n := by simp [rowOf]
theorem has_rowOf {n : Nat} {p : Nat → Bool} {v : Nat} : has (rowOf n p) v = (decide (v < n) && p v) := by
  unfold has rowOf
  by_cases h : v < n
  · simp [h]
  · simp [h]

/-! ### Not, And, Or -/
theorem a101 {T : Tab} {t : Nat} {nl : Nl} {l : List Bool} (h : tget T t = .box [Ar nl B l]) (v lo : Nat) : acall prog lo 101 [N v, .ptr t 0] T = some (B (!has l v), T) := by
  refine call_1 (m := m101) (E := [(3, B (!has l v))]) (T' := T) rfl rfl ?_ (t := 3) rfl rfl rfl
  show exec prog T.length c101 [(0, _), (1, _)] T = _
  have h9 := a99 nl l v
  simp only [ev, Nat.reduceBEq, Nat.reduceAdd, decide_true, decide_false, r101_1, r101_2, c101, h, h9]
theorem a100 {T : Tab} {t u : Nat} {nl nk : Nl} {l k : List Bool} (h : tget T t = .box [Ar nl B l]) (hu : tget T u = .box [Ar nk B k]) (v lo : Nat) : acall prog lo 100 [N v, .ptr t 0, .ptr u 0] T = some (B (has l v && has k v), T) := by
  refine call_1 (m := m100) (E := [(4, B (has l v && has k v))]) (T' := T) rfl rfl ?_ (t := 4) rfl rfl rfl
  show exec prog T.length c100 [(0, _), (1, _), (2, _)] T = _
  have h9 := a99 nl l v
  have h8 := a99 nk k v
  cases e : has l v <;> rw [e] at h9
  · simp only [ev, Nat.reduceBEq, Nat.reduceAdd, decide_true, decide_false, r100_1, r100_2, c100, h, h9]
  · simp only [ev, Nat.reduceBEq, Nat.reduceAdd, decide_true, decide_false, r100_1, r100_2, c100, h, hu, h9, h8]
theorem a128 {T : Tab} {t u : Nat} {nl nk : Nl} {l k : List Bool} (h : tget T t = .box [Ar nl B l]) (hu : tget T u = .box [Ar nk B k]) (v lo : Nat) : acall prog lo 128 [N v, .ptr t 0, .ptr u 0] T = some (B (has l v || has k v), T) := by
  refine call_1 (m := m128) (E := [(4, B (has l v || has k v))]) (T' := T) rfl rfl ?_ (t := 4) rfl rfl rfl
  show exec prog T.length c128 [(0, _), (1, _), (2, _)] T = _
  have h9 := a99 nl l v
  have h8 := a99 nk k v
  cases e : has l v <;> rw [e] at h9
  · simp only [ev, Nat.reduceBEq, Nat.reduceAdd, decide_true, decide_false, r128_1, r128_2, c128, h, hu, h9, h8]
  · simp only [ev, Nat.reduceBEq, Nat.reduceAdd, decide_true, decide_false, r128_1, r128_2, c128, h, h9]

theorem p41 (a b c nl : Nl) (o : List Int) (nx : List (List Int)) (l : List Bool) (hn : o.length ≤ 1073741824) : Pr 41 [gameV a b c o nx, Ar nl B l] (Ar .nonnil B (rowOf o.length fun v => !has l v)) true := by
  have h := a1097 (T := [.box [Ar a I o, Ar b (Ar c I) nx], .box [Ar nl B l]]) (a := a) (b := b) (c := c) (nx := nx) (f := 101) (cs := [.ptr 1 0]) hn (fun v X _ => a101 (T := _ ++ X) (t := 1) rfl v _) 0
  simp only [rowOf_map] at h
  refine pr_ret (m := m41) rfl rfl (E := [(4, .sl false 1 2 0 0 o.length)]) (T := [.box [Ar a I o, Ar b (Ar c I) nx], .box [Ar nl B l], .arr 0 ((rowOf o.length fun v => !has l v).map B)]) ?_ (t := 4) rfl rfl
    (frz_own rfl (by simp [rowOf_len]) (by omega) (frz_map (fun _ => rfl) _)) (fresh_own rfl (by simp [rowOf_len]) (fresh_map (fun _ => rfl) _))
  show exec prog 0 c41 [(0, _), (1, _)] [] = _
  simp only [ev, Nat.reduceBEq, Nat.reduceAdd, decide_true, decide_false, r41_1, r41_2, c41, h]
theorem a41 (a b c nl : Nl) (o : List Int) (nx : List (List Int)) (l : List Bool) (hn : o.length ≤ 1073741824) (lo : Nat) (T : Tab) : acall prog lo 41 [gameV a b c o nx, Ar nl B l] T = some (Ar .nonnil B (rowOf o.length fun v => !has l v), T) :=
  call_cl (p41 a b c nl o nx l hn) (by simp [cl_game, cl_AB]) lo T
theorem p40 (a b c nl nk : Nl) (o : List Int) (nx : List (List Int)) (l k : List Bool) (hn : o.length ≤ 1073741824) : Pr 40 [gameV a b c o nx, Ar nl B l, Ar nk B k] (Ar .nonnil B (rowOf o.length fun v => has l v && has k v)) true := by
  have h := a1097 (T := [.box [Ar a I o, Ar b (Ar c I) nx], .box [Ar nl B l], .box [Ar nk B k]]) (a := a) (b := b) (c := c) (nx := nx) (f := 100) (cs := [.ptr 1 0, .ptr 2 0]) hn (fun v X _ => a100 (T := _ ++ X) (t := 1) (u := 2) rfl rfl v _) 0
  simp only [rowOf_map] at h
  refine pr_ret (m := m40) rfl rfl (E := [(6, .sl false 1 3 0 0 o.length)]) (T := [.box [Ar a I o, Ar b (Ar c I) nx], .box [Ar nl B l], .box [Ar nk B k], .arr 0 ((rowOf o.length fun v => has l v && has k v).map B)]) ?_ (t := 6) rfl rfl
    (frz_own rfl (by simp [rowOf_len]) (by omega) (frz_map (fun _ => rfl) _)) (fresh_own rfl (by simp [rowOf_len]) (fresh_map (fun _ => rfl) _))
  show exec prog 0 c40 [(0, _), (1, _), (2, _)] [] = _
  simp only [ev, Nat.reduceBEq, Nat.reduceAdd, decide_true, decide_false, r40_1, r40_2, c40, h]
theorem a40 (a b c nl nk : Nl) (o : List Int) (nx : List (List Int)) (l k : List Bool) (hn : o.length ≤ 1073741824) (lo : Nat) (T : Tab) : acall prog lo 40 [gameV a b c o nx, Ar nl B l, Ar nk B k] T = some (Ar .nonnil B (rowOf o.length fun v => has l v && has k v), T) :=
  call_cl (p40 a b c nl nk o nx l k hn) (by simp [cl_game, cl_AB]) lo T
theorem p68 (a b c nl nk : Nl) (o : List Int) (nx : List (List Int)) (l k : List Bool) (hn : o.length ≤ 1073741824) : Pr 68 [gameV a b c o nx, Ar nl B l, Ar nk B k] (Ar .nonnil B (rowOf o.length fun v => has l v || has k v)) true := by
  have h := a1097 (T := [.box [Ar a I o, Ar b (Ar c I) nx], .box [Ar nl B l], .box [Ar nk B k]]) (a := a) (b := b) (c := c) (nx := nx) (f := 128) (cs := [.ptr 1 0, .ptr 2 0]) hn (fun v X _ => a128 (T := _ ++ X) (t := 1) (u := 2) rfl rfl v _) 0
  simp only [rowOf_map] at h
  refine pr_ret (m := m68) rfl rfl (E := [(6, .sl false 1 3 0 0 o.length)]) (T := [.box [Ar a I o, Ar b (Ar c I) nx], .box [Ar nl B l], .box [Ar nk B k], .arr 0 ((rowOf o.length fun v => has l v || has k v).map B)]) ?_ (t := 6) rfl rfl
    (frz_own rfl (by simp [rowOf_len]) (by omega) (frz_map (fun _ => rfl) _)) (fresh_own rfl (by simp [rowOf_len]) (fresh_map (fun _ => rfl) _))
  show exec prog 0 c68 [(0, _), (1, _), (2, _)] [] = _
  simp only [ev, Nat.reduceBEq, Nat.reduceAdd, decide_true, decide_false, r68_1, r68_2, c68, h]
theorem a68 (a b c nl nk : Nl) (o : List Int) (nx : List (List Int)) (l k : List Bool) (hn : o.length ≤ 1073741824) (lo : Nat) (T : Tab) : acall prog lo 68 [gameV a b c o nx, Ar nl B l, Ar nk B k] T = some (Ar .nonnil B (rowOf o.length fun v => has l v || has k v), T) :=
  call_cl (p68 a b c nl nk o nx l k hn) (by simp [cl_game, cl_AB]) lo T
end Go.Proofs.Ytlilfiekkaolkaa.Am
