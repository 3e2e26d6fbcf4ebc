/- Values that are no one's, calls that are handed values alone, and the numbers' plain laws. -/
import Derived.Test.YtlilfiekkaolkaaEv
import Derived.Test.YtlilfiekkaolkaaAmZ
import Derived.Test.YtlilfiekkaolkaaAmW
set_option linter.unusedVariables false
set_option linter.unusedSimpArgs false
namespace Go.Proofs.Ytlilfiekkaolkaa.Am
open Go

theorem wrap_id {x : Int} (h1 : -9223372036854775808 ≤ x) (h2 : x < 9223372036854775808) : IntKind.i64.wrap x = x := by
  simp only [IntKind.wrap, IntKind.bits, IntKind.signed]
  simp
  omega
theorem wrap_succ {j : Nat} (h : j + 1 < 9223372036854775808) : IntKind.i64.wrap ((j : Int) + 1) = ((j + 1 : Nat) : Int) := by rw [wrap_id (by omega) (by omega)]; omega
theorem wrap_add {i j : Nat} (h : i + j < 9223372036854775808) : IntKind.i64.wrap ((i : Int) + (j : Int)) = ((i + j : Nat) : Int) := by rw [wrap_id (by omega) (by omega)]; omega
theorem drop_get {α : Type} {l : List α} {j : Nat} {x : α} (h : l[j]? = some x) : l.drop j = x :: l.drop (j + 1) := by
  obtain ⟨hj, rfl⟩ := List.getElem?_eq_some_iff.1 h
  exact List.drop_eq_getElem_cons hj
theorem get_ex {α : Type} {l : List α} {j : Nat} (h : j < l.length) : ∃ x, l[j]? = some x := ⟨_, List.getElem?_eq_getElem h⟩
theorem get_lt {α : Type} {l : List α} {j : Nat} {x : α} (h : l[j]? = some x) : j < l.length := (List.getElem?_eq_some_iff.1 h).1
theorem lt_t {a b : Int} (h : a < b) : decide (a < b) = true := decide_eq_true h
theorem lt_f {a b : Int} (h : b ≤ a) : decide (a < b) = false := decide_eq_false (by omega)

/-! ### Tables behind a table -/
theorem tg_app {T X : Tab} {k : Nat} : tget (T ++ X) (T.length + k) = tget X k := by
  simp only [tget]; rw [List.getElem?_append_right (by omega)]; simp
theorem tg_app0 {T X : Tab} : tget (T ++ X) T.length = tget X 0 := tg_app (k := 0)
theorem tg_old {T X : Tab} {t : Nat} (h : t < T.length) : tget (T ++ X) t = tget T t := by
  simp only [tget]; rw [List.getElem?_append_left h]
theorem se_app {T X : Tab} {k : Nat} {o : Obj} : (T ++ X).set (T.length + k) o = T ++ X.set k o := by
  rw [List.set_append_right _ _ (by omega)]; simp
theorem se_app0 {T X : Tab} {o : Obj} : (T ++ X).set T.length o = T ++ X.set 0 o := se_app (k := 0)
theorem le_app {T : Tab} {k : Nat} : decide (T.length ≤ T.length + k) = true := by simp
theorem le_self {T : Tab} : decide (T.length ≤ T.length) = true := by simp

/-! ### Rows that are filled -/
def fillTo (n j : Nat) (f : Nat → AV) (z : AV) : List AV := (List.range n).map fun i => if i < j then f i else z
theorem fll_len {n j : Nat} {f : Nat → AV} {z : AV} : (fillTo n j f z).length = n := by simp [fillTo]
theorem fll_zero {n : Nat} {f : Nat → AV} {z : AV} : List.replicate n z = fillTo n 0 f z := by
  simp [fillTo, List.map_const']
theorem fll_step {n j : Nat} {f : Nat → AV} {z : AV} (h : j < n) : (fillTo n j f z).set j (f j) = fillTo n (j + 1) f z := by
  apply List.ext_getElem?
  intro i
  simp only [fillTo, List.getElem?_set, List.length_map, List.length_range, List.getElem?_map]
  by_cases hi : j = i
  · subst hi; simp [h]
  · rw [if_neg hi]
    by_cases hn : i < n
    · simp only [List.getElem?_range hn, Option.map_some]
      by_cases h2 : i < j
      · rw [if_pos h2, if_pos (by omega)]
      · rw [if_neg h2, if_neg (by omega)]
    · rw [List.getElem?_eq_none (by simpa using hn)]
      rfl
theorem fll_full {n : Nat} {f : Nat → AV} {z : AV} : fillTo n n f z = (List.range n).map f := by
  simp only [fillTo]
  apply List.map_congr_left
  intro i hi
  rw [if_pos (List.mem_range.1 hi)]

/-! ### Values that are no one's -/
abbrev Ar {α : Type} (nl : Nl) (f : α → AV) (l : List α) : AV := .fz nl 1 (l.map f)
/-- A game. -/
abbrev gameV (a b c : Nl) (o : List Int) (nx : List (List Int)) : AV := .agg [Ar a I o, Ar b (Ar c I) nx]
abbrev rowsV (a b : Nl) (l : List (List Bool)) : AV := Ar a (Ar b B) l

theorem frz_map {α : Type} {n0 : Nat} {T : Tab} {d : Nat} {f : α → AV} (h : ∀ a, frz n0 T d (f a) = some (f a)) : ∀ l : List α, mapO (frz n0 T d) (l.map f) = some (l.map f)
  | [] => rfl
  | a :: l => by simp only [List.map_cons, mapO, h a, frz_map h l]
theorem fz_int {n0 : Nat} {T : Tab} {d : Nat} {k : IntKind} {n : Int} : frz n0 T (d + 1) (.int k n) = some (.int k n) := rfl
theorem fz_bool {n0 : Nat} {T : Tab} {d : Nat} {b : Bool} : frz n0 T (d + 1) (.bool b) = some (.bool b) := rfl
theorem fz_ar {α : Type} {n0 : Nat} {T : Tab} {d n : Nat} {nl : Nl} {f : α → AV} {l : List α} (h : ∀ a, frz n0 T d (f a) = some (f a)) : frz n0 T (d + 1) (.fz nl n (l.map f)) = some (.fz nl n (l.map f)) := by
  simp only [frz, frz_map h, Option.map_some]
theorem fz_I {n0 : Nat} {T : Tab} {d n : Nat} {nl : Nl} {l : List Int} : frz n0 T (d + 2) (.fz nl n (l.map I)) = some (.fz nl n (l.map I)) := fz_ar fun _ => rfl
theorem fz_N {n0 : Nat} {T : Tab} {d n : Nat} {nl : Nl} {l : List Nat} : frz n0 T (d + 2) (.fz nl n (l.map N)) = some (.fz nl n (l.map N)) := fz_ar fun _ => rfl
theorem fz_B {n0 : Nat} {T : Tab} {d n : Nat} {nl : Nl} {l : List Bool} : frz n0 T (d + 2) (.fz nl n (l.map B)) = some (.fz nl n (l.map B)) := fz_ar fun _ => rfl
theorem fz_II {n0 : Nat} {T : Tab} {d n m : Nat} {nl nk : Nl} {l : List (List Int)} : frz n0 T (d + 3) (.fz nl n (l.map fun r => .fz nk m (r.map I))) = some (.fz nl n (l.map fun r => .fz nk m (r.map I))) := fz_ar fun _ => fz_I
theorem fz_NN {n0 : Nat} {T : Tab} {d n m : Nat} {nl nk : Nl} {l : List (List Nat)} : frz n0 T (d + 3) (.fz nl n (l.map fun r => .fz nk m (r.map N))) = some (.fz nl n (l.map fun r => .fz nk m (r.map N))) := fz_ar fun _ => fz_N
theorem fz_BB {n0 : Nat} {T : Tab} {d n m : Nat} {nl nk : Nl} {l : List (List Bool)} : frz n0 T (d + 3) (.fz nl n (l.map fun r => .fz nk m (r.map B))) = some (.fz nl n (l.map fun r => .fz nk m (r.map B))) := fz_ar fun _ => fz_B
theorem fz_nil {n0 : Nat} {T : Tab} {d n : Nat} {nl : Nl} : frz n0 T (d + 1) (.fz nl n []) = some (.fz nl n []) := rfl
theorem fz_agg2 {n0 : Nat} {T : Tab} {d : Nat} {x y x' y' : AV} (h1 : frz n0 T d x = some x') (h2 : frz n0 T d y = some y') : frz n0 T (d + 1) (.agg [x, y]) = some (.agg [x', y']) := by
  simp only [frz, mapO, h1, h2, Option.map_some]
theorem fz_cons {n0 : Nat} {T : Tab} {d : Nat} {x : AV} {l : List AV} {x' : AV} {l' : List AV} (h1 : frz n0 T d x = some x') (h2 : mapO (frz n0 T d) l = some l') : mapO (frz n0 T d) (x :: l) = some (x' :: l') := by
  simp only [mapO, h1, h2]

/-- No one's: frozen it is itself. -/
def Cl (v : AV) : Prop := ∀ n0 T, frz n0 T deep v = some v
theorem cl_I (n : Int) : Cl (I n) := fun _ _ => rfl
theorem cl_B (b : Bool) : Cl (B b) := fun _ _ => rfl
theorem cl_AI (nl : Nl) (l : List Int) : Cl (Ar nl I l) := fun _ _ => fz_I
theorem cl_AN (nl : Nl) (l : List Nat) : Cl (Ar nl N l) := fun _ _ => fz_N
theorem cl_AB (nl : Nl) (l : List Bool) : Cl (Ar nl B l) := fun _ _ => fz_B
theorem cl_AAB (a b : Nl) (l : List (List Bool)) : Cl (rowsV a b l) := fun _ _ => fz_BB
theorem cl_AAI (a b : Nl) (l : List (List Int)) : Cl (Ar a (Ar b I) l) := fun _ _ => fz_II
theorem cl_AAN (a b : Nl) (l : List (List Nat)) : Cl (Ar a (Ar b N) l) := fun _ _ => fz_NN
theorem cl_game (a b c : Nl) (o : List Int) (nx : List (List Int)) : Cl (gameV a b c o nx) := fun _ _ => fz_agg2 fz_I fz_II
theorem cl_nil (nl : Nl) (n : Nat) : Cl (.fz nl n []) := fun _ _ => rfl
theorem cl_list {l : List AV} (h : ∀ v ∈ l, Cl v) (n0 : Nat) (T : Tab) : mapO (frz n0 T deep) l = some l := by
  induction l with
  | nil => rfl
  | cons a l ih => simp only [mapO, h a List.mem_cons_self n0 T, ih fun v hv => h v (List.mem_cons_of_mem _ hv)]

/-! ### Calls that are handed values alone -/
/-- The function's answer at values; b: all that it hands back is its own. -/
def Pr (f : Nat) (as : List AV) (v : AV) (b : Bool) : Prop := ∃ m, prog f = some m ∧ m.pol = 3 ∧ prunF (exec prog) m as = some (v, b)

theorem pr_ret {f : Nat} {m : MFunc} {as : List AV} {E : Env} {T : Tab} {v v' : AV} {b : Bool} (hm : prog f = some m) (hp : m.pol = 3) (hx : exec prog 0 m.code (enter 0 as) [] = some (.ret E T)) {t : Nat} (hr : m.res = [.tmp t]) (hg : get E t = v')
    (hz : frz 0 T deep v' = some v) (hb : fresh T deep v' = b) : Pr f as v b := by
  refine ⟨m, hm, hp, ?_⟩
  simp only [prunF, hx, fin, hr, mapO, resA, hg, hz, hb]
theorem frz_tup2 {n0 : Nat} {T : Tab} {d : Nat} {x y x' y' : AV} (h1 : frz n0 T d x = some x') (h2 : frz n0 T d y = some y') : frz n0 T (d + 1) (.tup [x, y]) = some (.tup [x', y']) := by
  simp only [frz, mapO, h1, h2, Option.map_some]
theorem fresh_tup2 {T : Tab} {d : Nat} {x y : AV} : fresh T (d + 1) (.tup [x, y]) = (fresh T d x && fresh T d y) := by
  simp only [fresh, List.all_cons, List.all_nil, Bool.and_true]
theorem pr_ret2 {f : Nat} {m : MFunc} {as : List AV} {E : Env} {T : Tab} {v1 v1' v2 v2' : AV} {b1 b2 : Bool} (hm : prog f = some m) (hp : m.pol = 3) (hx : exec prog 0 m.code (enter 0 as) [] = some (.ret E T)) {t u : Nat} (hr : m.res = [.tmp t, .tmp u])
    (hg1 : get E t = v1') (hg2 : get E u = v2') (hz1 : frz 0 T 4 v1' = some v1) (hz2 : frz 0 T 4 v2' = some v2) (hb1 : fresh T 4 v1' = b1) (hb2 : fresh T 4 v2' = b2) : Pr f as (.tup [v1, v2]) (b1 && b2) := by
  refine ⟨m, hm, hp, ?_⟩
  simp only [prunF, hx, fin, hr, mapO, resA, hg1, hg2]
  have h1 : frz 0 T deep (.tup [v1', v2']) = some (.tup [v1, v2]) := frz_tup2 hz1 hz2
  have h2 : fresh T deep (.tup [v1', v2']) = (b1 && b2) := by rw [← hb1, ← hb2]; exact fresh_tup2
  simp only [h1, h2]
theorem pr_fuel {f : Nat} {m : MFunc} {as : List AV} {v : AV} {b : Bool} (n : Nat) (hm : prog f = some m) (hp : m.pol = 3) (h : prunF (execN prog n) m as = some (v, b)) : Pr f as v b :=
  ⟨m, hm, hp, prunF_mono (execN_le prog n) h⟩

theorem call_cl {f : Nat} {as : List AV} {v : AV} {b : Bool} (h : Pr f as v b) (hc : ∀ a ∈ as, Cl a) (lo : Nat) (T : Tab) : acall prog lo f as T = some (v, T) := by
  obtain ⟨m, hm, hp, h⟩ := h
  simp only [acall, callF, hm, hp, pcallF, cl_list hc, h]
  rfl

theorem frz_nil_le {T : Tab} : ∀ (d : Nat) (v v' : AV), frz 0 [] d v = some v' → frz 0 T d v = some v' := by
  intro d
  induction d with
  | zero => intro v v' h; cases h
  | succ d ih =>
    have ml : ∀ (l l' : List AV), mapO (frz 0 [] d) l = some l' → mapO (frz 0 T d) l = some l' := by
      intro l
      induction l with
      | nil => intro l' h; exact h
      | cons a l il =>
        intro l' h
        simp only [mapO] at h ⊢
        split at h
        · rename_i v' r' h1 h2
          cases h
          rw [ih _ _ h1, il _ h2]
        · cases h
    intro v v' h
    cases v <;> simp only [frz] at h ⊢
    case int => exact h
    case bool => exact h
    case fz => simp only [Option.map_eq_some_iff] at h ⊢; obtain ⟨x, hx, rfl⟩ := h; exact ⟨x, ml _ _ hx, rfl⟩
    case sl => simp [rd, tget] at h
    case ptr => simp at h
    case tup => simp only [Option.map_eq_some_iff] at h ⊢; obtain ⟨x, hx, rfl⟩ := h; exact ⟨x, ml _ _ hx, rfl⟩
    case agg => simp only [Option.map_eq_some_iff] at h ⊢; obtain ⟨x, hx, rfl⟩ := h; exact ⟨x, ml _ _ hx, rfl⟩
    case iface => simp only [Option.map_eq_some_iff] at h ⊢; obtain ⟨x, hx, rfl⟩ := h; exact ⟨x, ih _ _ hx, rfl⟩
    all_goals cases h
theorem mapO_nil_le {T : Tab} {d : Nat} : ∀ {l l' : List AV}, mapO (frz 0 [] d) l = some l' → mapO (frz 0 T d) l = some l'
  | [], _, h => h
  | a :: l, l', h => by
    simp only [mapO] at h ⊢
    split at h
    · rename_i v' r' h1 h2
      cases h
      rw [frz_nil_le _ _ _ h1, mapO_nil_le h2]
    · cases h
/-- Arguments that are the caller's are frozen for the call, if all that is handed back is new. -/
theorem call_op {f : Nat} {args as : List AV} {v : AV} (h : Pr f as v true) {T : Tab} (hc : mapO (frz 0 T deep) args = some as) (lo : Nat) : acall prog lo f args T = some (v, T) := by
  obtain ⟨m, hm, hp, h⟩ := h
  simp only [acall, callF, hm, hp, pcallF]
  cases h0 : mapO (frz 0 [] deep) args with
  | some as' =>
    have : as' = as := by have := mapO_nil_le (T := T) h0; rw [hc] at this; exact (Option.some.inj this).symm
    subst this
    simp only [h]
    rfl
  | none => simp only [hc, h]; rfl
end Go.Proofs.Ytlilfiekkaolkaa.Am
namespace Go.Proofs.Ytlilfiekkaolkaa.Am
open Go
/-! ### Regions of open order that only read, or whose changes come in the text's order -/
def okD (q : Nat → Bool) : List MOper → Bool
  | [] => true
  | o :: r => (match o.cls with
    | .E => o.op.isE
    | .R => match o.op with
      | .ld .. | .lkp .. => true
      | .call f _ => q f
      | _ => false
    | .L => true
    | .A => false) && !o.stab && okD q r

theorem runD_ok {c : CallA} {q : Nat → Bool} {lo : Nat} (hq : QuietOK c q) : ∀ (ops : List MOper) (seen : Bool) (E : Env) (T T0 : Tab), okD q ops = true → (seen = false → T = T0) → runD c q lo T0 ops seen [] E T = runOps c lo ops E T
  | [], seen, E, T, T0, _, _ => rfl
  | o :: r, seen, E, T, T0, h, ht => by
    simp only [okD, Bool.and_eq_true, Bool.not_eq_true'] at h
    obtain ⟨⟨h1, h2⟩, h3⟩ := h
    simp only [runD, runOps]
    cases hw : wants E o.guard with
    | none => rfl
    | some b =>
      cases b with
      | false => exact runD_ok hq r _ _ _ _ h3 (fun hs => ht (by simp at hs; exact hs.1))
      | true =>
        cases hc : o.cls with
        | E =>
          rw [hc] at h1
          simp only at h1 ⊢
          rw [if_pos h1]
          cases hs : stepOp c lo E T o.op with
          | none => rfl
          | some p =>
            obtain ⟨v, T'⟩ := p
            have : T' = T := (step_isE (lo' := lo) (T1 := T) h1 hs).1
            subst this
            exact runD_ok hq r _ _ _ _ h3 ht
        | R =>
          rw [hc] at h1
          simp only at h1 ⊢
          have hT : (if seen = true then T else T0) = T := by
            cases seen with
            | true => rfl
            | false => rw [if_neg (by decide)]; exact (ht rfl).symm
          have hR : o.op.isR q E = true := by
            split at h1
            · rename_i hop; rw [hop]; rfl
            · rename_i hop; rw [hop]; rfl
            · rename_i f x hop; rw [hop]; exact h1
            · cases h1
          rw [if_pos hR, hT]
          cases hs : stepOp c lo E T o.op with
          | none => rfl
          | some p =>
            obtain ⟨v, T'⟩ := p
            obtain ⟨this, _⟩ := step_isR (lo' := lo) hq hR hs
            subst this
            have hp : o.pend E v ++ [] = [] := by simp [MOper.pend, h2]
            simp only [hp]
            exact runD_ok hq r _ _ _ _ h3 ht
        | A => rw [hc] at h1; cases h1
        | L =>
          simp only
          cases hs : stepOp c lo E T o.op with
          | none => rfl
          | some p =>
            simp only [List.all_nil, if_true]
            exact runD_ok hq r _ _ _ _ h3 (fun h => by cases h)

theorem okD_nA {q : Nat → Bool} : ∀ ops : List MOper, okD q ops = true → nA ops = 0
  | [], _ => rfl
  | o :: r, h => by
    simp only [okD, Bool.and_eq_true] at h
    simp only [nA, okD_nA r h.2]
    cases hc : o.cls <;> simp_all

/-- Such a region is reckoned as one whose order is the text's. -/
theorem ex_regD {lo : Nat} {E : Env} {T : Tab} {live : List Nat} {ops : List MOper} (h : okD (quietOf prog) ops = true) : exec prog lo (.reg true ops live) E T = regK live (runOps (acall prog) lo ops E T) := by
  have hp : pad ops T = T := by simp only [pad, okD_nA ops h, List.replicate_zero, List.append_nil]
  rw [exec_regD, hp, runD_ok (c := acall prog) (quiet_ok _) ops false E T T h fun _ => rfl]
  cases runOps (acall prog) lo ops E T <;> rfl
end Go.Proofs.Ytlilfiekkaolkaa.Am
namespace Go.Proofs.Ytlilfiekkaolkaa.Am
open Go
/-! ### Calls by the other policies -/
section
variable {f lo : Nat} {m : MFunc} {args as es es' : List AV} {T T' : Tab} {E : Env} {v v' : AV} {t n k g off len : Nat} {mb : Bool}
theorem call_0 {o : Out} {r : AV × Tab} (hm : prog f = some m) (hp : m.pol = 0) (hx : exec prog lo m.code (enter 0 args) T = some o) (hf : fin m o = some r) : acall prog lo f args T = some r := by
  simp only [acall, callF, hm]
  rw [if_pos hp, hx]
  exact hf
theorem fin_ret (hr : m.res = [.tmp t]) : fin m (.ret E T) = some (get E t, T) := by simp only [fin, hr, mapO, resA]
theorem fin_ret0 (hr : m.res = []) : fin m (.ret E T) = some (.tup [], T) := by simp only [fin, hr, mapO]
theorem call_1 (hm : prog f = some m) (hp : m.pol = 1) (hx : exec prog T.length m.code (enter 0 args) T = some (.ret E T')) (hr : m.res = [.tmp t]) (hg : get E t = v') (hz : frz T.length T' deep v' = some v) : acall prog lo f args T = some (v, T) := by
  simp only [acall, callF, hm, hp]
  rw [if_neg (by decide), if_neg (by decide), if_neg (by decide), hx]
  simp only [fin_ret hr, hg, if_true, hz, Option.map_some]
theorem call_2 (hm : prog f = some m) (hp : m.pol = 2) (hx : exec prog T.length m.code (enter 0 args) T = some (.ret E T')) (hr : m.res = [.tmp t]) (hg : get E t = .sl mb n k g off len) (hk : T.length ≤ k) (hrd : rd T' (.sl mb n k g off len) = some es)
    (hz : mapO (frz T.length (T'.set k .dead) deep) es = some es') : acall prog lo f args T = some (.sl mb n T.length 0 0 es'.length, T ++ [.arr 0 es']) := by
  simp only [acall, callF, hm, hp]
  rw [if_neg (by decide), if_neg (by decide), if_neg (by decide), hx]
  simp only [fin_ret hr, hg]
  rw [if_neg (by decide), if_neg (by omega), hrd]
  simp only [hz, Option.map_some]
theorem own_ret {ex : ExecA} (hx : ex 0 m.code (enter 0 as) [] = some (.ret E T')) (hr : m.res = [.tmp t]) (hg : get E t = .sl mb n k g off len) (hrd : rd T' (.sl mb n k g off len) = some es) (hz : mapO (frz 0 (T'.set k .dead) deep) es = some es') :
    ownF ex m as = some ((mb, n, es'), es.all (fresh (T'.set k .dead) deep)) := by
  simp only [ownF, hx, fin_ret hr, hg, hrd, hz]
theorem call_4c {b : Bool} (hm : prog f = some m) (hp : m.pol = 4) (ho : ownF (exec prog) m args = some ((mb, n, es'), b)) (hc : ∀ a ∈ args, Cl a) : acall prog lo f args T = some (.sl mb n T.length 0 0 es'.length, T ++ [.arr 0 es']) := by
  simp only [acall, callF, hm, hp]
  rw [if_neg (by decide), if_neg (by decide), if_pos trivial]
  simp only [ocallF, cl_list hc, ho]
theorem call_4o (hm : prog f = some m) (hp : m.pol = 4) (ho : ownF (exec prog) m as = some ((mb, n, es'), true)) (hc : mapO (frz 0 T deep) args = some as) : acall prog lo f args T = some (.sl mb n T.length 0 0 es'.length, T ++ [.arr 0 es']) := by
  simp only [acall, callF, hm, hp]
  rw [if_neg (by decide), if_neg (by decide), if_pos trivial]
  simp only [ocallF]
  cases h0 : mapO (frz 0 [] deep) args with
  | some as' =>
    have : as' = as := by have := mapO_nil_le (T := T) h0; rw [hc] at this; exact (Option.some.inj this).symm
    subst this
    simp only [ho]
  | none => simp only [hc, ho, if_true]
end
/-- A row of scalars frozen. -/
theorem frz_own {T : Tab} {d n0 k g len : Nat} {mb : Bool} {es : List AV} (h : tget T k = .arr g es) (hl : es.length = len) (hk : ¬ k < n0) (hz : mapO (frz n0 T d) es = some es) : frz n0 T (d + 1) (.sl mb 1 k g 0 len) = some (.fz (if mb then .maybe else .nonnil) 1 es) := by
  simp only [frz]
  rw [if_neg hk]
  have : rd T (.sl mb 1 k g 0 len) = some es := by rw [rd_sl, h, rk_arr (by simp [hl])]
  simp only [this, hz, Option.map_some]
theorem fresh_own {T : Tab} {d k g len : Nat} {mb : Bool} {es : List AV} (h : tget T k = .arr g es) (hl : es.length = len) (hz : es.all (fresh T d) = true) : fresh T (d + 1) (.sl mb 1 k g 0 len) = true := by
  have : rd T (.sl mb 1 k g 0 len) = some es := by rw [rd_sl, h, rk_arr (by simp [hl])]
  simp only [fresh, this, hz]
theorem fresh_map {α : Type} {T : Tab} {d : Nat} {f : α → AV} (h : ∀ a, fresh T d (f a) = true) (l : List α) : (l.map f).all (fresh T d) = true := by
  simp only [List.all_map, List.all_eq_true]
  intro a _
  exact h a
end Go.Proofs.Ytlilfiekkaolkaa.Am
