/- The abstract machine's run of a function is a run of the program's. -/
import Derived.Test.YtlilfiekkaolkaaAmV
set_option linter.unusedVariables false
set_option linter.unusedSimpArgs false
namespace Go.Proofs.Ytlilfiekkaolkaa.Am
open Go

/-! ### The check of a code -/
def chkCode (P : Program) (nt : Nat) : MCode → Code → Bool
  | .reg draw ms _, .region _ gops d => (draw == d) && chkOpers P nt gops.toList ms gops.toList && (!draw || chkDraw ms gops.toList)
  | .seq a b, .seq c d => chkCode P nt a c && chkCode P nt b d
  | .cond t a b, .cond (.tmp u) c d => (t == u) && (chkCode P nt a c && chkCode P nt b d)
  | .con b x, .cond (.const (.bool b')) c d => (b == b') && chkCode P nt x (if b then c else d)
  | .block i b, .block j c => (i == j) && chkCode P nt b c
  | .loop _ b, .loop c => chkCode P nt b c
  | .frzv _ b, c => chkCode P nt b c
  | .exit i, .exit j => i == j
  | .ret, .ret => true
  | .skip, .skip => true
  | _, _ => false

def chkRes (P : Program) : List MRes → List ResultVar → Bool
  | [], [] => true
  | .tmp t :: r, .tmp u :: s => (t == u) && chkRes P r s
  | .cell a agg n :: r, .cell b ty :: s => (a == b) && (aggP P ty == some agg) && (sizeP P ty == some n) && chkRes P r s
  | _, _ => false

structure ProgOK (P : Program) (prog : Nat → Option MFunc) : Prop where
  mix : P.follows .mixedOrders = true
  fn : ∀ f m, prog f = some m → ∃ fn c, P.funcs[f % 1000]? = some fn ∧ fn.body = some c ∧ fn.name ≠ "runtime.NumGoroutine" ∧ chkCode P fn.ntmps m.code c = true ∧ chkRes P m.res fn.results.toList = true

def OutR (lo nt : Nat) (G : Gh) (T : Tab) (w : World) : Out → Exit → Act → World → Prop
  | .nrm E T', .normal, a, w' => St lo nt G T w E T' a w'
  | .ext i E T', .exit j, a, w' => i = j ∧ St lo nt G T w E T' a w'
  | .ret E T', .ret, a, w' => St lo nt G T w E T' a w'
  | _, _, _, _ => False

theorem OutR.trans {lo nt : Nat} {G G1 : Gh} {T T1 : Tab} {w w1 : World} (X : Ext lo G T w G1 T1 w1) {o : Out} {e : Exit} {a : Act} {w' : World} (h : OutR lo nt G1 T1 w1 o e a w') : OutR lo nt G T w o e a w' := by
  have st : ∀ {E T'}, St lo nt G1 T1 w1 E T' a w' → St lo nt G T w E T' a w' := fun ⟨G', Y, r⟩ => ⟨G', X.trans Y, r⟩
  cases o <;> cases e <;> simp only [OutR] at h ⊢ <;> first | exact st h | exact ⟨h.1, st h.2⟩

variable {P : Program} {prog : Nat → Option MFunc}

/-- A code runs as foretold, with so much fuel. -/
def SoundAt (P : Program) (prog : Nat → Option MFunc) (n : Nat) (m : MCode) : Prop :=
  ∀ (lo nt : Nat) (c : Code) (E : Env) (T : Tab) (G : Gh) (w : World) (a : Act) (out : Out) (Q : Exit → Act → World → Prop), chkCode P nt m c = true → execN prog n lo m E T = some out → Sim G T w → lo ≤ T.length → EnvR G w E a → nt ≤ a.tmps.size → a.defers = [] →
    (∀ e a' w', OutR lo nt G T w out e a' w' → Q e a' w') → c.wp P Q a w

theorem least {p : Nat → Prop} (h : ∃ j, p j) : ∃ j, p j ∧ ∀ i, p i → j ≤ i := by
  obtain ⟨j, hj⟩ := h
  induction j using Nat.strongRecOn with
  | _ j ih =>
    by_cases hh : ∃ i, i < j ∧ p i
    · obtain ⟨i, hi, hp⟩ := hh
      exact ih i hi hp
    · refine ⟨j, hj, fun i hi => ?_⟩
      rcases Nat.lt_or_ge i j with h | h
      · exact absurd ⟨i, h, hi⟩ hh
      · exact h

theorem wp_loop_sound {n : Nat} {keep : List Nat} {b : MCode} (hb : ∀ j, j ≤ n → SoundAt P prog j b) : SoundAt P prog n (.loop keep b) := by
  intro lo nt c E T G w a out Q hc hx s hlo he hnt hdf hQ
  cases c <;> simp only [chkCode, Bool.false_eq_true] at hc
  case loop c =>
  classical
  let J : Nat → Act → World → Prop := fun j a' w' => j ≤ n ∧ ∃ E1 T1 G1, execN prog j lo (.loop keep b) E1 T1 = some out ∧ Ext lo G T w G1 T1 w' ∧ Sim G1 T1 w' ∧ EnvR G1 w' E1 a' ∧ nt ≤ a'.tmps.size ∧ a'.defers = []
  refine wp_loop (fun a' w' => ∃ j, J j a' w') (fun a' w' => if h : ∃ j, J j a' w' then Classical.choose (least h) else 0) ⟨n, Nat.le_refl _, E, T, G, hx, .refl _ _ _ _, s, he, hnt, hdf⟩ fun a' w' hI => ?_
  have hμ : (if h : ∃ j, J j a' w' then Classical.choose (least h) else 0) = Classical.choose (least hI) := dif_pos hI
  rw [hμ]
  obtain ⟨hj, E1, T1, G1, hx1, X1, s1, he1, hnt1, hdf1⟩ := (Classical.choose_spec (least hI)).1
  generalize Classical.choose (least hI) = j at hj hx1
  cases j with
  | zero => cases hx1
  | succ j =>
    have hx2 : (match execN prog (j + 1) lo b (restrict keep E1) T1 with
      | some (.nrm E' T') => execN prog j lo (.loop keep b) E' T'
      | r => r) = some out := by
      have := hx1
      simp only [execN, execF] at this
      exact this
    cases hbx : execN prog (j + 1) lo b (restrict keep E1) T1 with
    | none => rw [hbx] at hx2; cases hx2
    | some o1 =>
      rw [hbx] at hx2
      refine hb (j + 1) hj lo nt c (restrict keep E1) T1 G1 w' a' o1 _ hc hbx s1 (Nat.le_trans hlo X1.len) (he1.restrict keep) hnt1 hdf1 fun e a2 w2 ho => ?_
      cases o1 with
      | nrm E2 T2 =>
        cases e <;> simp only [OutR] at ho
        obtain ⟨G2, X2, s2, he2, hnt2, hdf2⟩ := ho
        have hJ : J j a2 w2 := ⟨by omega, E2, T2, G2, hx2, X1.trans X2, s2, he2, hnt2, hdf2⟩
        have hex : ∃ j, J j a2 w2 := ⟨j, hJ⟩
        refine ⟨hex, ?_⟩
        rw [dif_pos hex]
        have := (Classical.choose_spec (least hex)).2 j hJ
        omega
      | ext i E2 T2 =>
        simp only [Option.some.injEq] at hx2
        subst hx2
        cases e <;> simp only [OutR] at ho
        exact hQ _ _ _ ⟨ho.1, ho.2.imp fun G' h => ⟨X1.trans h.1, h.2⟩⟩
      | ret E2 T2 =>
        simp only [Option.some.injEq] at hx2
        subst hx2
        cases e <;> simp only [OutR] at ho
        exact hQ _ _ _ (ho.imp fun G' h => ⟨X1.trans h.1, h.2⟩)

/-- A slice is frozen where it stands. -/
theorem freeze_step {lo : Nat} {G : Gh} {T : Tab} {w : World} (s : Sim G T w) {mb : Bool} {n k g off len : Nat} {es : List AV} {c : Value} (hlt : lo ≤ k) (hrd : rd T (.sl mb n k g off len) = some es) (r : RV G w (.sl mb n k g off len) c) :
    ∃ G1, Ext lo G T w G1 (T.set k .dead) w ∧ Sim G1 (T.set k .dead) w ∧ RV G1 w (.fz (if mb then .maybe else .nonnil) n es) c := by
  obtain ⟨ad, cap, n2, hc, hle, hn2, _, helv, hx, _⟩ := rd_sound s hrd r
  have hn2' : n = n2 := by simpa [esz] using hn2
  subst hn2'
  by_cases htT : k < T.length
  · obtain ⟨G1, X1, s1, hown, _, _⟩ := kill s hlt htT
    refine ⟨G1, X1, s1, ?_⟩
    cases r with
    | slnil =>
      have : es = [] := List.eq_nil_of_length_eq_zero (by simp only [Value.slice.injEq] at hc; omega)
      subst this
      exact .fznil _ _ (by simp)
    | slz =>
      have : es = [] := List.eq_nil_of_length_eq_zero (by simp only [Value.slice.injEq] at hc; omega)
      subst this
      exact .fz0 _ _ _ _ (by split <;> simp)
    | sl _ _ _ _ _ _ b base cap' capT hl h1' h2' =>
      simp only [Value.slice.injEq] at hc
      obtain ⟨rfl, rfl, rfl⟩ := hc
      rcases hx with rfl | ⟨b', o', hb', R⟩
      · exact .fz0 _ _ _ _ (by split <;> simp)
      · simp only [Option.some.injEq, Addr.mk.injEq] at hb'
        obtain ⟨rfl, rfl, _⟩ := hb'
        have hf : ∀ j, ∃ cv, ∀ x, (flat es)[j]? = some x → w.cell? ⟨b, base + off * n + j, none⟩ = some cv ∧ RV G w x cv := by
          intro j
          cases hj : (flat es)[j]? with
          | none => exact ⟨undef, fun x hx => by cases hx⟩
          | some x => obtain ⟨cv, h1, h2⟩ := R.cell j x hj; exact ⟨cv, fun y hy => by cases hy; exact ⟨h1, h2⟩⟩
        exact .fz _ _ _ b _ _ (fun j => Classical.choose (hf j)) (by split <;> simp) (hown b (own_of_rd hrd hl)) hle helv (fun j x hx => (Classical.choose_spec (hf j) x hx).1) (fun j x hx => (Classical.choose_spec (hf j) x hx).2.ext s X1)
  · exfalso
    simp only [rd, tget_beyond (Nat.le_of_not_lt htT)] at hrd
    cases hrd

theorem code_step (hp : ProgOK P prog) {k : Nat} (ok : ∀ lo, CallOK P (callF prog (execN prog k)) lo) (hq : QuietOK (callF prog (execN prog k)) (quietOf prog)) (hprev : ∀ j, j ≤ k → ∀ m, SoundAt P prog j m) : ∀ m, SoundAt P prog (k + 1) m := by
  intro m
  induction m with
  | reg draw ms live =>
    intro lo nt c E T G w a out Q hc hx s hlo he hnt hdf hQ
    cases c <;> simp only [chkCode, Bool.false_eq_true] at hc
    case region id gops d =>
    simp only [Bool.and_eq_true, beq_iff_eq] at hc
    obtain ⟨⟨rfl, hc1⟩, hc2⟩ := hc
    simp only [execN, execF] at hx
    split at hx
    · rename_i E' T' hr
      cases hx
      have fin : ∀ a' w', St lo nt G T w E' T' a' w' → Q .normal a' w' := fun a' w' ⟨G', X, s', he', h⟩ => hQ _ _ _ ⟨G', X, s', he'.restrict live, h⟩
      cases draw with
      | false => exact region_sound (ok lo) hc1 hr s hlo he hnt hdf fin
      | true => exact draw_sound hp.mix ok hq hc1 (by simpa using hc2) hr s hlo he hnt hdf fin
    · cases hx
  | seq x y ihx ihy =>
    intro lo nt c E T G w a out Q hc hx s hlo he hnt hdf hQ
    cases c <;> simp only [chkCode, Bool.false_eq_true] at hc
    case seq c d =>
    simp only [Bool.and_eq_true] at hc
    have hx' : (match execN prog (k + 1) lo x E T with
      | some (.nrm E' T') => execN prog (k + 1) lo y E' T'
      | r => r) = some out := by
      have := hx
      simp only [execN, execF] at this
      exact this
    cases h1 : execN prog (k + 1) lo x E T with
    | none => rw [h1] at hx'; cases hx'
    | some o1 =>
      rw [h1] at hx'
      refine wp_seq (ihx lo nt c E T G w a o1 _ hc.1 h1 s hlo he hnt hdf fun e a1 w1 ho => ?_)
      cases o1 with
      | nrm E1 T1 =>
        cases e <;> simp only [OutR] at ho
        obtain ⟨G1, X1, s1, he1, hnt1, hdf1⟩ := ho
        exact ihy lo nt d E1 T1 G1 w1 a1 out Q hc.2 hx' s1 (Nat.le_trans hlo X1.len) he1 hnt1 hdf1 fun e a2 w2 ho => hQ _ _ _ (ho.trans X1)
      | ext i E1 T1 =>
        simp only [Option.some.injEq] at hx'
        subst hx'
        cases e <;> simp only [OutR] at ho
        exact hQ _ _ _ ho
      | ret E1 T1 =>
        simp only [Option.some.injEq] at hx'
        subst hx'
        cases e <;> simp only [OutR] at ho
        exact hQ _ _ _ ho
  | cond t x y ihx ihy =>
    intro lo nt c E T G w a out Q hc hx s hlo he hnt hdf hQ
    cases c <;> try (simp only [chkCode, Bool.false_eq_true] at hc)
    case cond u c d =>
    cases u <;> simp only [chkCode, Bool.false_eq_true] at hc
    case tmp u =>
    simp only [Bool.and_eq_true, beq_iff_eq] at hc
    obtain ⟨rfl, hc1, hc2⟩ := hc
    have hx' : (match get E t with
      | .bool b => if b then execN prog (k + 1) lo x E T else execN prog (k + 1) lo y E T
      | _ => none) = some out := by
      have := hx
      simp only [execN, execF] at this
      exact this
    split at hx'
    · rename_i b hb
      have ht := he t
      rw [hb] at ht
      have hv : a.eval (.tmp t) = .bool b := by generalize a.eval (.tmp t) = u at ht ⊢; cases ht; rfl
      refine wp_cond hv ?_
      cases b with
      | true => exact ihx lo nt c E T G w a out Q hc1 hx' s hlo he hnt hdf hQ
      | false => exact ihy lo nt d E T G w a out Q hc2 hx' s hlo he hnt hdf hQ
    · cases hx'
  | con b x ih =>
    intro lo nt c E T G w a out Q hc hx s hlo he hnt hdf hQ
    cases c <;> try (simp only [chkCode, Bool.false_eq_true] at hc)
    case cond u c d =>
    cases u <;> try (simp only [chkCode, Bool.false_eq_true] at hc)
    case const u =>
    cases u <;> try (simp only [chkCode, Bool.false_eq_true] at hc)
    case bool b' =>
    simp only [Bool.and_eq_true, beq_iff_eq] at hc
    obtain ⟨rfl, hc1⟩ := hc
    have hx' : execN prog (k + 1) lo x E T = some out := by
      have := hx
      simp only [execN, execF] at this
      exact this
    exact wp_cond (t := b) rfl (ih lo nt _ E T G w a out Q hc1 hx' s hlo he hnt hdf hQ)
  | block i b ih =>
    intro lo nt c E T G w a out Q hc hx s hlo he hnt hdf hQ
    cases c <;> simp only [chkCode, Bool.false_eq_true] at hc
    case block j c =>
    simp only [Bool.and_eq_true, beq_iff_eq] at hc
    obtain ⟨rfl, hc⟩ := hc
    have hx' : (match execN prog (k + 1) lo b E T with
      | some (.ext id' E' T') => if id' = i then some (.nrm E' T') else some (.ext id' E' T')
      | r => r) = some out := by
      have := hx
      simp only [execN, execF] at this
      exact this
    cases h1 : execN prog (k + 1) lo b E T with
    | none => rw [h1] at hx'; cases hx'
    | some o1 =>
      rw [h1] at hx'
      refine wp_block (ih lo nt c E T G w a o1 _ hc h1 s hlo he hnt hdf fun e a1 w1 ho => ?_)
      cases o1 with
      | nrm E1 T1 =>
        simp only [Option.some.injEq] at hx'
        subst hx'
        cases e <;> simp only [OutR] at ho
        exact hQ _ _ _ ho
      | ext id' E1 T1 =>
        cases e <;> simp only [OutR] at ho
        obtain ⟨rfl, ho⟩ := ho
        simp only [Exit.inBlock]
        by_cases e : id' = i
        · simp only [e, if_true, Option.some.injEq] at hx' ⊢
          subst hx'
          exact hQ _ _ _ ho
        · simp only [e, if_false, Option.some.injEq] at hx' ⊢
          subst hx'
          exact hQ _ _ _ ⟨rfl, ho⟩
      | ret E1 T1 =>
        simp only [Option.some.injEq] at hx'
        subst hx'
        cases e <;> simp only [OutR] at ho
        exact hQ _ _ _ ho
  | loop keep b ih =>
    refine wp_loop_sound fun j hj => ?_
    rcases Nat.lt_or_ge j (k + 1) with h | h
    · exact hprev j (by omega) b
    · rw [show j = k + 1 by omega]; exact ih
  | frzv t x ih =>
    intro lo nt c E T G w a out Q hc hx s hlo he hnt hdf hQ
    have hc' : chkCode P nt x c = true := by
      have := hc
      simp only [chkCode] at this
      exact this
    have hx' : (match get E t with
      | .sl mb n k' g off len => match rd T (.sl mb n k' g off len) with
        | some es => if lo ≤ k' then execN prog (k + 1) lo x ((t, .fz (if mb then .maybe else .nonnil) n es) :: E) (T.set k' .dead) else none
        | none => none
      | _ => none) = some out := by
      have := hx
      simp only [execN, execF] at this
      exact this
    split at hx'
    · rename_i mb n k' g off len hg
      split at hx'
      · rename_i es hrd
        split at hx'
        · rename_i hl
          obtain ⟨G1, X1, s1, r1⟩ := freeze_step s hl hrd (hg ▸ he t)
          refine ih lo nt c _ _ G1 w a out Q hc' hx' s1 (by simpa using hlo) (fun u => ?_) hnt hdf fun e a' w' ho => hQ _ _ _ (ho.trans X1)
          simp only [get]
          split
          · rename_i e; rw [← e]; exact r1
          · exact (he u).ext s X1
        · cases hx'
      · cases hx'
    · cases hx'
  | exit i =>
    intro lo nt c E T G w a out Q hc hx s hlo he hnt hdf hQ
    cases c <;> simp only [chkCode, Bool.false_eq_true, beq_iff_eq] at hc
    case exit j =>
    subst hc
    simp only [execN, execF, Option.some.injEq] at hx
    subst hx
    exact wp_exit (hQ _ _ _ ⟨rfl, G, .refl _ _ _ _, s, he, hnt, hdf⟩)
  | ret =>
    intro lo nt c E T G w a out Q hc hx s hlo he hnt hdf hQ
    cases c <;> simp only [chkCode, Bool.false_eq_true] at hc
    simp only [execN, execF, Option.some.injEq] at hx
    subst hx
    exact wp_ret (hQ _ _ _ ⟨G, .refl _ _ _ _, s, he, hnt, hdf⟩)
  | skip =>
    intro lo nt c E T G w a out Q hc hx s hlo he hnt hdf hQ
    cases c <;> simp only [chkCode, Bool.false_eq_true] at hc
    simp only [execN, execF, Option.some.injEq] at hx
    subst hx
    exact wp_skip (hQ _ _ _ ⟨G, .refl _ _ _ _, s, he, hnt, hdf⟩)

/-! ### Functions -/
theorem get_enter : ∀ (args : List AV) (i t : Nat), get (enter i args) t = if i ≤ t then (args[t - i]?).getD .unk else .unk
  | [], i, t => by simp [enter, get]
  | v :: r, i, t => by
    simp only [enter, get, get_enter r (i + 1) t]
    by_cases h : i = t
    · subst h; simp
    · rw [if_neg h]
      by_cases h2 : i + 1 ≤ t
      · rw [if_pos h2, if_pos (by omega), show t - i = (t - (i + 1)) + 1 by omega, List.getElem?_cons_succ]
      · rw [if_neg h2, if_neg (by omega)]

theorem enter_env {G : Gh} {w : World} {args : List AV} {cargs : List Value} (h : RVs G w args cargs) (k : Nat) : EnvR G w (enter 0 args) { tmps := cargs.toArray ++ Array.replicate k undef, defers := [] } := by
  intro t
  rw [get_enter]
  simp only [Nat.zero_le, if_true, Nat.sub_zero, Act.eval, Array.getD_eq_getD_getElem?]
  cases hx : args[t]? with
  | none => exact .unk _
  | some v =>
    obtain ⟨c, hc, r⟩ := h.2 t v hx
    have ht : t < cargs.length := (List.getElem?_eq_some_iff.1 hc).1
    rw [Array.getElem?_append_left (by simpa using ht)]
    simp only [List.getElem?_toArray, hc, Option.getD_some]
    exact r

def resOne (tmps : Array Value) : ResultVar → Sem Value
  | .tmp t => pure (tmps.getD t undef)
  | .cell b t => do loadVar t (← asAddr (tmps.getD b undef))

theorem results_eq (fn : Func) (tmps : Array Value) : results fn tmps = (do let vs ← fn.results.mapM (resOne tmps); pure (if h : vs.size = 1 then vs[0] else .tuple vs)) := by
  unfold results
  congr 2

theorem res_run {G : Gh} {T : Tab} {w : World} {E : Env} {a : Act} (s : Sim G T w) (he : EnvR G w E a) : ∀ {rs : List MRes} {gs : List ResultVar} {vs : List AV}, chkRes P rs gs = true → mapO (resA E T) rs = some vs →
    ∃ cvs : List Value, (gs.mapM (resOne a.tmps)).run P w = .ok cvs w ∧ RVs G w vs cvs
  | [], [], vs, _, h => by
    simp only [mapO, Option.some.injEq] at h
    subst h
    exact ⟨[], by simp, rfl, fun j x h => by simp at h⟩
  | r :: rs, g :: gs, vs, hc, h => by
    simp only [mapO] at h
    split at h
    · rename_i v vs' h1 h2
      cases h
      cases r with
      | tmp t =>
        cases g <;> simp only [chkRes, Bool.false_eq_true] at hc
        case tmp u =>
        simp only [Bool.and_eq_true, beq_iff_eq] at hc
        obtain ⟨rfl, hc⟩ := hc
        obtain ⟨cvs, hr, rv⟩ := res_run s he hc h2
        simp only [resA, Option.some.injEq] at h1
        subst h1
        refine ⟨a.tmps.getD t undef :: cvs, ?_, ?_⟩
        · rw [List.mapM_cons]
          simp only [Sem.run_bind, resOne, Sem.run_pure, Result.andThen_ok]
          rw [hr]
          rfl
        · refine ⟨by simp [rv.1], fun j x hx => ?_⟩
          cases j with
          | zero => simp at hx; subst hx; exact ⟨_, rfl, he t⟩
          | succ j => exact rv.2 j x (by simpa using hx)
      | cell b agg n =>
        cases g <;> simp only [chkRes, Bool.false_eq_true] at hc
        case cell u ty =>
        simp only [Bool.and_eq_true, beq_iff_eq] at hc
        obtain ⟨⟨⟨rfl, ha⟩, hn⟩, hc⟩ := hc
        obtain ⟨cvs, hr, rv⟩ := res_run s he hc h2
        simp only [resA] at h1
        obtain ⟨bb, kk, cv, hcv, hrun, hrv⟩ := ldv_sound (P := P) s ha hn (he b) h1
        have hcv' : a.tmps.getD b undef = .pointer (some ⟨bb, kk, none⟩) := hcv
        refine ⟨cv :: cvs, ?_, ?_⟩
        · rw [List.mapM_cons]
          simp only [Sem.run_bind, resOne, Sem.run_pure, Result.andThen_ok, hcv', asAddr, hrun]
          rw [hr]
          rfl
        · refine ⟨by simp [rv.1], fun j x hx => ?_⟩
          cases j with
          | zero => simp at hx; subst hx; exact ⟨_, rfl, hrv⟩
          | succ j => exact rv.2 j x (by simpa using hx)
    · cases h
  | [], _ :: _, _, hc, _ => by cases hc
  | r :: _, [], _, hc, _ => by cases r <;> cases hc

/-- What a function hands back. -/
theorem fin_run {G : Gh} {T T' : Tab} {w : World} {E : Env} {a : Act} (s : Sim G T w) (he : EnvR G w E a) {m : MFunc} {fn : Func} {v : AV} (hc : chkRes P m.res fn.results.toList = true) (h : (match mapO (resA E T) m.res with
    | some [v] => some (v, T)
    | some vs => some (.tup vs, T)
    | none => none) = some (v, T')) : T' = T ∧ ∃ cv, (results fn a.tmps).run P w = .ok cv w ∧ RV G w v cv := by
  cases hm : mapO (resA E T) m.res with
  | none => rw [hm] at h; cases h
  | some vs =>
    rw [hm] at h
    obtain ⟨cvs, hr, rv⟩ := res_run (P := P) s he hc hm
    have hrun : ∀ cv, (if h : cvs.toArray.size = 1 then cvs.toArray[0] else .tuple cvs.toArray) = cv → (results fn a.tmps).run P w = .ok cv w := by
      intro cv hcv
      rw [results_eq, Array.mapM_eq_mapM_toList]
      simp only [Sem.run_bind, map_eq_pure_bind, bind_assoc, pure_bind]
      rw [hr]
      simp only [Result.andThen_ok, Sem.run_pure]
      rw [← hcv]
    match vs, h with
    | [], h =>
      simp only [Option.some.injEq, Prod.mk.injEq] at h
      obtain ⟨rfl, rfl⟩ := h
      have : cvs = [] := List.eq_nil_of_length_eq_zero (by rw [← rv.1]; rfl)
      subst this
      exact ⟨rfl, .tuple #[], hrun _ rfl, .tup [] #[] rfl (fun i x c h => by simp at h)⟩
    | [u], h =>
      simp only [Option.some.injEq, Prod.mk.injEq] at h
      obtain ⟨rfl, rfl⟩ := h
      obtain ⟨c, hc0, r⟩ := rv.2 0 u rfl
      obtain ⟨c0, rfl⟩ : ∃ c0, cvs = [c0] := by
        match cvs, rv.1 with
        | [c0], _ => exact ⟨c0, rfl⟩
      simp at hc0
      subst hc0
      exact ⟨rfl, c0, hrun _ (by simp), r⟩
    | u1 :: u2 :: us, h =>
      simp only [Option.some.injEq, Prod.mk.injEq] at h
      obtain ⟨rfl, rfl⟩ := h
      have hl := rv.1
      obtain ⟨a1, a2⟩ := rv.arr
      refine ⟨rfl, .tuple cvs.toArray, hrun _ ?_, .tup _ _ a1 a2⟩
      rw [dif_neg]
      simp at hl ⊢
      omega

theorem call_enter (hp : ProgOK P prog) {ex : ExecA} {lo f : Nat} {args : List AV} {T : Tab} {r : AV × Tab} (h : callF prog ex lo f args T = some r) (cargs : Array Value) (w : World) : (callFunc (f % 1000) cargs).run P w = .ok (.enter (f % 1000) cargs) w := by
  cases hm : prog f with
  | none => simp [callF, hm] at h
  | some m =>
    obtain ⟨fn, c, hf, hb, hn, _, _⟩ := hp.fn f m hm
    simp [callFunc, hf, hn, hb]

theorem call_ok (hp : ProgOK P prog) {k : Nat} (hs : ∀ m, SoundAt P prog k m) (lo : Nat) : CallOK P (callF prog (execN prog k)) lo := by
  refine ⟨fun f args T r h cargs w => call_enter hp h cargs w, fun f args T v T' G w cargs h s hlo hr => ?_⟩
  cases hm : prog f with
  | none => simp [callF, hm] at h
  | some m =>
    obtain ⟨fn, c, hf, hb, hn, hcc, hcr⟩ := hp.fn f m hm
    -- the body
    have body : ∀ (lo' : Nat) (T : Tab) (G : Gh) (args : List AV) (out : Out) (R : Ending → World → Prop), Sim G T w → RVs G w args cargs → lo' ≤ T.length → execN prog k lo' m.code (enter 0 args) T = some out → (∀ v1 T1, fin m out = some (v1, T1) → ∀ G1 w1 cv, Ext lo' G T w G1 T1 w1 → Sim G1 T1 w1 → RV G1 w1 v1 cv → R (.returned cv) w1) → fin m out ≠ none → Calls P (f % 1000) cargs.toArray w R := by
      intro lo' T G args out R s hr hlo' hx hR hfin
      refine calls_of_wp hf hb (hs m.code lo' fn.ntmps c (enter 0 args) T G w _ out _ hcc hx s hlo' (enter_env hr _) (by simp; omega) rfl fun e a' w' ho => ?_)
      cases hfn : fin m out with
      | none => exact absurd hfn hfin
      | some p =>
        obtain ⟨v1, T1⟩ := p
        cases out with
        | ext => simp [fin] at hfn
        | nrm E1 T2 =>
          cases e <;> simp only [OutR] at ho
          obtain ⟨G1, X, s1, he1, _, hdf⟩ := ho
          obtain ⟨rfl, cv, hrun, rv⟩ := fin_run (P := P) s1 he1 hcr hfn
          exact ⟨hdf, cv, hrun, hR v1 T1 hfn G1 w' cv X s1 rv⟩
        | ret E1 T2 =>
          cases e <;> simp only [OutR] at ho
          obtain ⟨G1, X, s1, he1, _, hdf⟩ := ho
          obtain ⟨rfl, cv, hrun, rv⟩ := fin_run (P := P) s1 he1 hcr hfn
          exact ⟨hdf, cv, hrun, hR v1 T1 hfn G1 w' cv X s1 rv⟩
    have list : ∀ {G' : Gh} {f : AV → Option AV} {as : List AV}, mapO f args = some as → (∀ v v' c, f v = some v' → RV G w v c → RV G' w v' c) → RVs G' w as cargs := by
      intro G' f as hm hf'
      obtain ⟨hl, hg⟩ := mapO_get hm
      refine ⟨by rw [hl, hr.1], fun j x hx => ?_⟩
      obtain ⟨y, hy, hfy⟩ := hg j x hx
      obtain ⟨c, hc, rv⟩ := hr.2 j y hy
      exact ⟨c, hc, hf' _ _ _ hfy rv⟩
    simp only [callF, hm] at h
    split at h
    · -- what was made stays
      split at h
      · rename_i out hx
        refine body lo T G args out _ s hr hlo hx (fun v1 T1 hfn G1 w1 cv X s1 rv => ?_) (by rw [h]; simp)
        rw [hfn] at h
        cases h
        exact ⟨cv, rfl, G1, X, s1, rv⟩
      · cases h
    split at h
    · -- values alone
      split at h
      · rename_i v0 hp3
        cases h
        simp only [pcallF] at hp3
        split at hp3
        · rename_i as has
          split at hp3
          · rename_i v2 b2 hpr
            cases hp3
            simp only [prunF] at hpr
            split at hpr
            · rename_i out hx
              split at hpr
              · rename_i v1 T1 hfn
                refine body 0 [] (bare G.fz) as out _ (bare_sim s.fzb) (list has fun v v' c hv rv => closed_rv _ v v' c hv rv) (Nat.le_refl _) hx (fun v2 T2 hfn2 G1 w1 cv X s1 rv => ?_) (by rw [hfn]; simp)
                rw [hfn] at hfn2
                cases hfn2
                split at hpr
                · rename_i v3 hv3
                  cases hpr
                  exact ⟨cv, rfl, ret_closed s X s1 hlo hv3 rv⟩
                · cases hpr
              · cases hpr
            · cases hpr
          · cases hp3
        · split at hp3
          · rename_i as has
            split at hp3
            · rename_i v2 b2 hpr
              split at hp3
              · rename_i hb2
                cases hp3
                subst hb2
                simp only [prunF] at hpr
                split at hpr
                · rename_i out hx
                  split at hpr
                  · rename_i v1 T1 hfn
                    refine body 0 [] (bare (cut 0 G T).fz) as out _ (bare_sim (cut0_fzb s)) (list has fun v v' c hv rv => (frz_sound s 0 _ v v' c hv rv).of_cut0) (Nat.le_refl _) hx (fun v2 T2 hfn2 G1 w1 cv X s1 rv => ?_) (by rw [hfn]; simp)
                    rw [hfn] at hfn2
                    cases hfn2
                    split at hpr
                    · rename_i v3 hv3
                      simp only [Option.some.injEq, Prod.mk.injEq] at hpr
                      obtain ⟨rfl, hfr⟩ := hpr
                      exact ⟨cv, rfl, ret_fresh s X s1 hlo hv3 hfr rv⟩
                    · cases hpr
                  · cases hpr
                · cases hpr
              · cases hp3
            · cases hp3
          · cases hp3
      · cases h
    split at h
    · -- values alone, a slice of its own
      split at h
      · rename_i mb n es' hp3
        cases h
        simp only [ocallF] at hp3
        split at hp3
        · rename_i as has
          split at hp3
          · rename_i v2 b2 hpr
            cases hp3
            simp only [ownF] at hpr
            split at hpr
            · rename_i out hx
              split at hpr
              · rename_i t g off len T1 hfn
                refine body 0 [] (bare G.fz) as out _ (bare_sim s.fzb) (list has fun v v' c hv rv => closed_rv _ v v' c hv rv) (Nat.le_refl _) hx (fun v2 T2 hfn2 G1 w1 cv X s1 rv => ?_) (by rw [hfn]; simp)
                rw [hfn] at hfn2
                cases hfn2
                split at hpr
                · rename_i es hes
                  split at hpr
                  · rename_i es2 hes2
                    cases hpr
                    exact ⟨cv, rfl, ret_own_closed s X s1 hlo hes hes2 rv⟩
                  · cases hpr
                · cases hpr
              · cases hpr
            · cases hpr
          · cases hp3
        · split at hp3
          · rename_i as has
            split at hp3
            · rename_i v2 b2 hpr
              split at hp3
              · rename_i hb2
                cases hp3
                subst hb2
                simp only [ownF] at hpr
                split at hpr
                · rename_i out hx
                  split at hpr
                  · rename_i t g off len T1 hfn
                    refine body 0 [] (bare (cut 0 G T).fz) as out _ (bare_sim (cut0_fzb s)) (list has fun v v' c hv rv => (frz_sound s 0 _ v v' c hv rv).of_cut0) (Nat.le_refl _) hx (fun v2 T2 hfn2 G1 w1 cv X s1 rv => ?_) (by rw [hfn]; simp)
                    rw [hfn] at hfn2
                    cases hfn2
                    split at hpr
                    · rename_i es hes
                      split at hpr
                      · rename_i es2 hes2
                        simp only [Option.some.injEq, Prod.mk.injEq] at hpr
                        obtain ⟨⟨rfl, rfl, rfl⟩, hfr⟩ := hpr
                        exact ⟨cv, rfl, ret_own_fresh s X s1 hlo hes hes2 hfr rv⟩
                      · cases hpr
                    · cases hpr
                  · cases hpr
                · cases hpr
              · cases hp3
            · cases hp3
          · cases hp3
      · cases h
    · split at h
      · rename_i out hx
        split at h
        · rename_i v1 T1 hfn
          refine body T.length T G args out _ s hr (Nat.le_refl _) hx (fun v2 T2 hfn2 G1 w1 cv X s1 rv => ?_) (by rw [hfn]; simp)
          rw [hfn] at hfn2
          cases hfn2
          split at h
          · simp only [Option.map_eq_some_iff, Prod.mk.injEq] at h
            obtain ⟨v', hv', rfl, rfl⟩ := h
            exact ⟨cv, rfl, ret_pure s X s1 hlo hv' rv⟩
          · split at h
            · rename_i mb n t g off len
              split at h
              · cases h
              · rename_i ht
                split at h
                · rename_i es hes
                  simp only [Option.map_eq_some_iff, Prod.mk.injEq] at h
                  obtain ⟨es', hes', rfl, rfl⟩ := h
                  exact ⟨cv, rfl, ret_slice s X s1 hlo (by omega) hes hes' rv⟩
                · cases h
            · cases h
        · cases h
      · cases h

theorem quiet_ok (ex : ExecA) : QuietOK (callF prog ex) (quietOf prog) := by
  constructor
  · intro f lo lo' args T h
    unfold quietOf at h
    split at h
    · rename_i m hm
      simp only [Bool.or_eq_true, beq_iff_eq] at h
      rcases h with h | h <;> simp only [callF, hm, h] <;> rfl
    · cases h
  · intro f lo args T v T' h hc
    unfold quietOf at h
    split at h
    · rename_i m hm
      simp only [Bool.or_eq_true, beq_iff_eq] at h
      rcases h with h | h
      · simp only [callF, hm, h, if_true] at hc
        rw [if_neg (by decide), if_neg (by decide), if_neg (by decide)] at hc
        split at hc
        · split at hc
          · simp only [Option.map_eq_some_iff, Prod.mk.injEq] at hc
            obtain ⟨_, _, _, rfl⟩ := hc
            rfl
          · cases hc
        · cases hc
      · simp only [callF, hm, h, if_true] at hc
        rw [if_neg (by decide)] at hc
        split at hc
        · cases hc; rfl
        · cases hc
    · cases h

theorem sound_all (hp : ProgOK P prog) : ∀ n m, SoundAt P prog n m := by
  intro n
  induction n using Nat.strongRecOn with
  | _ n ih =>
    cases n with
    | zero => intro m lo nt c E T G w a out Q _ hx; cases hx
    | succ k => exact code_step hp (call_ok hp (ih k (by omega))) (quiet_ok _) fun j hj m => ih j (by omega) m

/-- What the abstract machine answers, the program answers. -/
theorem acall_sound (hp : ProgOK P prog) {lo f : Nat} {args : List AV} {T : Tab} {v : AV} {T' : Tab} (h : acall prog lo f args T = some (v, T')) {G : Gh} {w : World} {cargs : List Value} (s : Sim G T w) (hlo : lo ≤ T.length) (hr : RVs G w args cargs) :
    Calls P (f % 1000) cargs.toArray w fun e w' => ∃ cv, e = .returned cv ∧ Res lo G T w T' v cv w' := by
  obtain ⟨n, hn⟩ := callF_cont h
  exact (call_ok hp (sound_all hp n) lo).calls f args T v T' G w cargs hn s hlo hr
end Go.Proofs.Ytlilfiekkaolkaa.Am
