/- Regions whose order is the text's. -/
import Derived.Test.YtlilfiekkaolkaaAmP
import Derived.Orders
set_option linter.unusedVariables false
set_option linter.unusedSimpArgs false
namespace Go.Proofs.Ytlilfiekkaolkaa.Am
open Go

/-! ### The temporaries -/
theorem get_put_self (E : Env) (t : Nat) (v : AV) : get (put E (some t) v) t = v := by simp [put, get]
theorem get_put_ne (E : Env) {t u : Nat} (v : AV) (h : t ≠ u) : get (put E (some u) v) t = get E t := by
  have h' : ¬ u = t := fun e => h e.symm
  simp [put, get, h']
theorem get_restrict (l : List Nat) (E : Env) (t : Nat) : get (restrict l E) t = if t ∈ l then get E t else .unk := by
  unfold restrict
  induction l with
  | nil => simp [get]
  | cons u l ih =>
    simp only [List.map_cons, get, ih, List.mem_cons]
    by_cases h : u = t
    · subst h; simp
    · have h' : ¬ t = u := fun e => h e.symm
      simp [h, h']

section
variable {G G' : Gh} {T T' : Tab} {w w' : World} {E : Env} {a : Act} {lo : Nat}

theorem eval_put_self {t : Nat} {c : Value} (h : t < a.tmps.size) : (a.put (some t) c).eval (.tmp t) = c := by simp [Act.eval, Act.put, h]
theorem eval_put_ne {t u : Nat} {c : Value} (h : t ≠ u) : (a.put (some u) c).eval (.tmp t) = a.eval (.tmp t) := by
  simp [Act.eval, Act.put, Array.getElem?_setIfInBounds_ne (fun e : u = t => h e.symm)]

theorem EnvR.put (he : EnvR G w E a) {dst : Option Nat} {v : AV} {c : Value} (r : RV G w v c) (hd : ∀ d, dst = some d → d < a.tmps.size) : EnvR G w (Am.put E dst v) (a.put dst c) := by
  cases dst with
  | none => exact he
  | some d =>
    intro t
    by_cases h : t = d
    · subst h
      rw [get_put_self, eval_put_self (hd _ rfl)]
      exact r
    · rw [get_put_ne E v h, eval_put_ne h]
      exact he t

theorem EnvR.ext (he : EnvR G w E a) (s : Sim G T w) (X : Ext lo G T w G' T' w') : EnvR G' w' E a := fun t => (he t).ext s X
theorem EnvR.restrict (he : EnvR G w E a) (l : List Nat) : EnvR G w (Am.restrict l E) a := fun t => by
  rw [get_restrict]
  split
  · exact he t
  · exact .unk _
end

/-! ### Guards -/
def chkGuard (gops : List Oper) : Option (Nat × Bool) → Option (Nat × Bool) → Bool
  | none, none => true
  | some (t, want), some (j, want') => ((gops[j]?).bind (·.dst) == some t) && (want == want')
  | _, _ => false

def chkOper (P : Program) (nt : Nat) (gops : List Oper) (m : MOper) (o : Oper) : Bool :=
  (m.dst == o.dst) && (match m.dst with | some d => decide (d < nt) | none => true) && chkGuard gops m.guard o.guard && chkOp P m.op o

def chkOpers (P : Program) (nt : Nat) (gops : List Oper) : List MOper → List Oper → Bool
  | [], [] => true
  | m :: ms, o :: os => chkOper P nt gops m o && chkOpers P nt gops ms os
  | _, _ => false

theorem chkOpers_get {P : Program} {nt : Nat} {gops : List Oper} : ∀ {ms : List MOper} {os : List Oper}, chkOpers P nt gops ms os = true →
    ms.length = os.length ∧ ∀ (j : Nat) (m : MOper), ms[j]? = some m → ∃ o, os[j]? = some o ∧ chkOper P nt gops m o = true
  | [], [], _ => ⟨rfl, fun j m h => by simp at h⟩
  | m :: ms, o :: os, h => by
    simp only [chkOpers, Bool.and_eq_true] at h
    obtain ⟨h1, h2⟩ := chkOpers_get h.2
    refine ⟨by simp [h1], fun j x hx => ?_⟩
    cases j with
    | zero => simp at hx; subst hx; exact ⟨o, rfl, h.1⟩
    | succ j => exact h2 j x hx
  | [], _ :: _, h => by cases h
  | _ :: _, [], h => by cases h

section
variable {P : Program} {G G' : Gh} {T T' : Tab} {w w' : World} {E E' : Env} {a : Act} {lo nt : Nat} {call : CallA} {ops : Array Oper} {Q : Exit → Act → World → Prop}

theorem bool_tmp {t : Nat} {b : Bool} (h : a.eval (.tmp t) = .bool b) : a.tmps[t]? = some (.bool b) := by
  simp only [Act.eval, Array.getD_eq_getD_getElem?] at h
  cases hx : a.tmps[t]? with
  | none => rw [hx] at h; cases h
  | some v => rw [hx] at h; simp only [Option.getD_some] at h; rw [h]

theorem guard_sound (he : EnvR G w E a) {m : MOper} {o : Oper} (hg : chkGuard ops.toList m.guard o.guard = true) {b : Bool} (hw : wants E m.guard = some b) : Region.wanted o (yielded ops a.tmps) = b := by
  unfold Region.wanted
  cases h1 : m.guard with
  | none =>
    rw [h1] at hg hw
    cases h2 : o.guard with
    | none => simp only [wants, Option.some.injEq] at hw; exact hw
    | some p => rw [h2] at hg; simp [chkGuard] at hg
  | some p =>
    obtain ⟨t, want⟩ := p
    rw [h1] at hg hw
    cases h2 : o.guard with
    | none => rw [h2] at hg; simp [chkGuard] at hg
    | some q =>
      obtain ⟨j, want'⟩ := q
      rw [h2] at hg
      simp only [chkGuard, Bool.and_eq_true, beq_iff_eq] at hg
      obtain ⟨hd, rfl⟩ := hg
      have hd' : (ops[j]?).bind (·.dst) = some t := by rw [← Array.getElem?_toList]; exact hd
      have hy : yielded ops a.tmps j = match a.tmps[t]? with | some (.bool b) => some b | _ => none := by
        unfold yielded
        rw [hd']
        rfl
      have ht := he t
      simp only [wants] at hw
      split at hw
      · rename_i b' hb
        cases hw
        rw [hb] at ht
        have hv : a.eval (.tmp t) = .bool b' := by generalize a.eval (.tmp t) = u at ht ⊢; cases ht; rfl
        show (yielded ops a.tmps j == some want) = _
        rw [hy, bool_tmp hv]
        simp
      · rename_i hb
        cases hw
        rw [hb] at ht
        have hv : a.eval (.tmp t) = .tuple #[] := by
          generalize a.eval (.tmp t) = u at ht ⊢
          cases ht with
          | tup _ cvs h1 _ => rw [Array.eq_empty_of_size_eq_zero h1]
        show (yielded ops a.tmps j == some want) = _
        rw [hy]
        simp only [Act.eval, Array.getD_eq_getD_getElem?] at hv
        cases hx : a.tmps[t]? with
        | none => rfl
        | some v => rw [hx] at hv; simp only [Option.getD_some] at hv; subst hv; rfl
      · cases hw

/-- A state that a run of the abstract machine stands for. -/
def St (lo nt : Nat) (G : Gh) (T : Tab) (w : World) (E : Env) (T' : Tab) (a : Act) (w' : World) : Prop :=
  ∃ G', Ext lo G T w G' T' w' ∧ Sim G' T' w' ∧ EnvR G' w' E a ∧ nt ≤ a.tmps.size ∧ a.defers = []

theorem put_size {dst : Option Nat} {c : Value} : (a.put dst c).tmps.size = a.tmps.size := by cases dst <;> simp [Act.put]
theorem put_defers {dst : Option Nat} {c : Value} : (a.put dst c).defers = a.defers := by cases dst <;> rfl

theorem ops_sound (ok : CallOK P call lo) : ∀ (ms : List MOper) (i : Nat) (E : Env) (T : Tab) (a : Act) (w : World) (G0 : Gh) (T0 : Tab) (w0 : World) (E' : Env) (T' : Tab),
    (∀ (j : Nat) (m : MOper), ms[j]? = some m → ∃ o, ops[i + j]? = some o ∧ chkOper P nt ops.toList m o = true) → runOps call lo ms E T = some (E', T') → Sim G0 T0 w0 → lo ≤ T0.length →
    St lo nt G0 T0 w0 E T a w → (∀ a' w', St lo nt G0 T0 w0 E' T' a' w' → Q .normal a' w') → wpOps P ops Q (List.range' i ms.length) a w
  | [], i, E, T, a, w, G0, T0, w0, E', T', hm, hr, s0, hlo, hs, hQ => by
    simp only [runOps, Option.some.injEq, Prod.mk.injEq] at hr
    obtain ⟨rfl, rfl⟩ := hr
    exact hQ a w hs
  | m :: ms, i, E, T, a, w, G0, T0, w0, E', T', hm, hr, s0, hlo, hs, hQ => by
    obtain ⟨o, ho, hc⟩ := hm 0 m rfl
    rw [Nat.add_zero] at ho
    have hm' : ∀ (j : Nat) (m' : MOper), ms[j]? = some m' → ∃ o, ops[i + 1 + j]? = some o ∧ chkOper P nt ops.toList m' o = true := fun j m' h => by
      have := hm (j + 1) m' h
      rwa [show i + (j + 1) = i + 1 + j by omega] at this
    simp only [chkOper, Bool.and_eq_true, beq_iff_eq] at hc
    obtain ⟨⟨⟨hdst, hd⟩, hg⟩, hop⟩ := hc
    obtain ⟨G, X, s, he, hnt, hdf⟩ := hs
    have hdb : ∀ d, m.dst = some d → d < a.tmps.size := fun d h => by rw [h] at hd; simp at hd; omega
    rw [List.length_cons, List.range'_succ]
    simp only [runOps] at hr
    simp only [wpOps, ho]
    cases hw : wants E m.guard with
    | none => rw [hw] at hr; cases hr
    | some b =>
      rw [guard_sound he hg hw]
      cases b with
      | false =>
        rw [hw] at hr
        simp only [Bool.false_eq_true, if_false]
        refine ops_sound ok ms (i + 1) _ T _ w G0 T0 w0 E' T' hm' hr s0 hlo ⟨G, X, s, ?_, by rw [put_size]; exact hnt, by rw [put_defers]; exact hdf⟩ hQ
        rw [← hdst]
        exact he.put (.tup [] #[] rfl (fun i x c h => by simp at h)) hdb
      | true =>
        rw [hw] at hr
        simp only [if_true]
        cases hst : stepOp call lo E T m.op with
        | none => rw [hst] at hr; cases hr
        | some p =>
          obtain ⟨v, T1⟩ := p
          rw [hst] at hr
          refine .inl (op_sound ok s (Nat.le_trans hlo X.len) he hop hst _ Q fun cv w1 hres => ?_)
          obtain ⟨G1, X1, s1, r1⟩ := hres
          refine ops_sound ok ms (i + 1) _ T1 _ w1 G0 T0 w0 E' T' hm' hr s0 hlo ⟨G1, X.trans X1, s1, ?_, by rw [put_size]; exact hnt, by rw [put_defers]; exact hdf⟩ hQ
          rw [← hdst]
          exact (he.ext s X1).put r1 hdb

theorem region_sound (ok : CallOK P call lo) {id : Nat} {ms : List MOper} (hc : chkOpers P nt ops.toList ms ops.toList = true) (hr : runOps call lo ms E T = some (E', T')) (s : Sim G T w) (hlo : lo ≤ T.length)
    (he : EnvR G w E a) (hnt : nt ≤ a.tmps.size) (hdf : a.defers = []) (hQ : ∀ a' w', St lo nt G T w E' T' a' w' → Q .normal a' w') : (Code.region id ops false).wp P Q a w := by
  obtain ⟨h1, h2⟩ := chkOpers_get hc
  refine wp_region ?_
  rw [List.range_eq_range', show ops.size = ms.length by simp [h1]]
  exact ops_sound ok ms 0 E T a w G T w E' T' (fun j m h => by obtain ⟨o, ho, hc⟩ := h2 j m h; exact ⟨o, by rw [Nat.zero_add, ← Array.getElem?_toList]; exact ho, hc⟩) hr s hlo ⟨G, .refl _ _ _ _, s, he, hnt, hdf⟩ hQ
end
end Go.Proofs.Ytlilfiekkaolkaa.Am
