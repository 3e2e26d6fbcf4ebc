/- The abstract machine without fuel: a run answers what it answers with enough fuel; its equations. -/
import Derived.Test.YtlilfiekkaolkaaAmA
namespace Go.Proofs.Ytlilfiekkaolkaa.Am
open Go

def CallLe (c c' : CallA) : Prop := ∀ lo f a T r, c lo f a T = some r → c' lo f a T = some r
def ExLe (e e' : ExecA) : Prop := ∀ lo c E T r, e lo c E T = some r → e' lo c E T = some r
theorem CallLe.refl (c : CallA) : CallLe c c := fun _ _ _ _ _ h => h
theorem ExLe.refl (c : ExecA) : ExLe c c := fun _ _ _ _ _ h => h
theorem CallLe.trans {a b c : CallA} (h : CallLe a b) (k : CallLe b c) : CallLe a c := fun _ _ _ _ _ x => k _ _ _ _ _ (h _ _ _ _ _ x)
theorem ExLe.trans {a b c : ExecA} (h : ExLe a b) (k : ExLe b c) : ExLe a c := fun _ _ _ _ _ x => k _ _ _ _ _ (h _ _ _ _ _ x)

theorem step_mono {c c' : CallA} (h : CallLe c c') {lo : Nat} {E : Env} {T : Tab} {o : MOp} {r : AV × Tab} (hs : stepOp c lo E T o = some r) : stepOp c' lo E T o = some r := by
  cases o with
  | call f args => exact h _ _ _ _ _ hs
  | callv f args =>
    simp only [stepOp] at hs ⊢
    split at hs
    · exact h _ _ _ _ _ hs
    · cases hs
  | inv tbl x args =>
    simp only [stepOp] at hs ⊢
    split at hs
    · split at hs
      · exact h _ _ _ _ _ hs
      · split at hs
        · exact h _ _ _ _ _ hs
        · cases hs
      · cases hs
    · cases hs
  | _ => exact hs

theorem runOps_mono {c c' : CallA} (h : CallLe c c') {lo : Nat} : ∀ (l : List MOper) (E : Env) (T : Tab) (r : Env × Tab), runOps c lo l E T = some r → runOps c' lo l E T = some r := by
  intro l
  induction l with
  | nil => intro E T r hr; exact hr
  | cons o l ih =>
    intro E T r hr
    simp only [runOps] at hr ⊢
    cases hw : wants E o.guard with
    | none => rw [hw] at hr; cases hr
    | some b =>
      rw [hw] at hr
      cases b with
      | false => exact ih _ _ _ hr
      | true =>
        simp only at hr ⊢
        cases hs : stepOp c lo E T o.op with
        | none => rw [hs] at hr; cases hr
        | some x =>
          rw [hs] at hr
          rw [step_mono h hs]
          exact ih _ _ _ hr

theorem runD_mono {c c' : CallA} (h : CallLe c c') {q : Nat → Bool} {lo : Nat} {T0 : Tab} : ∀ (l : List MOper) (seen : Bool) (pd : List Pend) (E : Env) (T : Tab) (r : Env × Tab),
    runD c q lo T0 l seen pd E T = some r → runD c' q lo T0 l seen pd E T = some r := by
  intro l
  induction l with
  | nil => intro seen pd E T r hr; exact hr
  | cons o l ih =>
    intro seen pd E T r hr
    simp only [runD] at hr ⊢
    cases hw : wants E o.guard with
    | none => rw [hw] at hr; cases hr
    | some b =>
      rw [hw] at hr
      cases b with
      | false => exact ih _ _ _ _ _ hr
      | true =>
        simp only at hr ⊢
        cases hc : o.cls with
        | E =>
          rw [hc] at hr
          simp only at hr ⊢
          by_cases hb : o.op.isE = true
          · rw [if_pos hb] at hr ⊢
            cases hs : stepOp c lo E T o.op with
            | none => rw [hs] at hr; cases hr
            | some x => rw [hs] at hr; rw [step_mono h hs]; exact ih _ _ _ _ _ hr
          · rw [if_neg hb] at hr; cases hr
        | R =>
          rw [hc] at hr
          simp only at hr ⊢
          by_cases hb : o.op.isR q E = true
          · rw [if_pos hb] at hr ⊢
            cases hs : stepOp c lo E (if seen = true then T else T0) o.op with
            | none => rw [hs] at hr; cases hr
            | some x => rw [hs] at hr; rw [step_mono h hs]; exact ih _ _ _ _ _ hr
          · rw [if_neg hb] at hr; cases hr
        | A =>
          rw [hc] at hr
          simp only at hr ⊢
          by_cases hb : (o.op.isA E && !seen) = true
          · rw [if_pos hb] at hr ⊢
            cases hs : stepOp c lo E T o.op with
            | none => rw [hs] at hr; cases hr
            | some x => rw [hs] at hr; rw [step_mono h hs]; exact ih _ _ _ _ _ hr
          · rw [if_neg hb] at hr; cases hr
        | L =>
          rw [hc] at hr
          simp only at hr ⊢
          cases hs : stepOp c lo E T o.op with
          | none => rw [hs] at hr; cases hr
          | some x =>
            rw [hs] at hr
            rw [step_mono h hs]
            simp only at hr ⊢
            by_cases hb : (pd.all (Pend.ok x.2)) = true
            · rw [if_pos hb] at hr ⊢; exact ih _ _ _ _ _ hr
            · rw [if_neg hb] at hr; cases hr

theorem execF_mono {c c' : CallA} (h : CallLe c c') {q : Nat → Bool} {e e' : ExecA} (he : ExLe e e') {lo : Nat} : ∀ (m : MCode) (E : Env) (T : Tab) (r : Out),
    execF c q e lo m E T = some r → execF c' q e' lo m E T = some r := by
  intro m
  induction m with
  | reg d ops live =>
    intro E T r hr
    simp only [execF] at hr ⊢
    cases d with
    | true =>
      simp only [if_true] at hr ⊢
      cases hs : runD c q lo (pad ops T) ops false [] E T with
      | none => rw [hs] at hr; cases hr
      | some x => rw [hs] at hr; rw [runD_mono h _ _ _ _ _ _ hs]; exact hr
    | false =>
      simp only [Bool.false_eq_true, if_false] at hr ⊢
      cases hs : runOps c lo ops E T with
      | none => rw [hs] at hr; cases hr
      | some x => rw [hs] at hr; rw [runOps_mono h _ _ _ _ hs]; exact hr
  | seq a b iha ihb =>
    intro E T r hr
    simp only [execF] at hr ⊢
    cases hs : execF c q e lo a E T with
    | none => rw [hs] at hr; cases hr
    | some x =>
      rw [hs] at hr
      rw [iha _ _ _ hs]
      cases x with
      | nrm E' T' => exact ihb _ _ _ hr
      | ext id E' T' => exact hr
      | ret E' T' => exact hr
  | cond t a b iha ihb =>
    intro E T r hr
    simp only [execF] at hr ⊢
    split at hr
    · split at hr
      · rw [if_pos ‹_›]; exact iha _ _ _ hr
      · rw [if_neg ‹_›]; exact ihb _ _ _ hr
    · cases hr
  | con b a iha => intro E T r hr; exact iha _ _ _ hr
  | block id b ihb =>
    intro E T r hr
    simp only [execF] at hr ⊢
    cases hs : execF c q e lo b E T with
    | none => rw [hs] at hr; cases hr
    | some x =>
      rw [hs] at hr
      rw [ihb _ _ _ hs]
      exact hr
  | loop keep b ihb =>
    intro E T r hr
    simp only [execF] at hr ⊢
    cases hs : execF c q e lo b (restrict keep E) T with
    | none => rw [hs] at hr; cases hr
    | some x =>
      rw [hs] at hr
      rw [ihb _ _ _ hs]
      cases x with
      | nrm E' T' => exact he _ _ _ _ _ hr
      | ext id E' T' => exact hr
      | ret E' T' => exact hr
  | frzv t b ihb =>
    intro E T r hr
    simp only [execF] at hr ⊢
    split at hr
    · split at hr
      · split at hr
        · rw [if_pos ‹_›]; exact ihb _ _ _ hr
        · cases hr
      · cases hr
    · cases hr
  | exit id => intro E T r hr; exact hr
  | ret => intro E T r hr; exact hr
  | skip => intro E T r hr; exact hr

theorem prunF_mono {e e' : ExecA} (he : ExLe e e') {m : MFunc} {as : List AV} {r : AV × Bool} (hr : prunF e m as = some r) : prunF e' m as = some r := by
  simp only [prunF] at hr ⊢
  cases hs : e 0 m.code (enter 0 as) [] with
  | none => rw [hs] at hr; cases hr
  | some x => rw [hs] at hr; rw [he _ _ _ _ _ hs]; exact hr

theorem pcallF_mono {e e' : ExecA} (he : ExLe e e') {m : MFunc} {args : List AV} {T : Tab} {r : AV} (hr : pcallF e m args T = some r) : pcallF e' m args T = some r := by
  simp only [pcallF] at hr ⊢
  cases hm : mapO (frz 0 [] deep) args with
  | some as =>
    rw [hm] at hr
    simp only at hr ⊢
    cases hs : prunF e m as with
    | none => rw [hs] at hr; cases hr
    | some x => rw [hs] at hr; rw [prunF_mono he hs]; exact hr
  | none =>
    rw [hm] at hr
    simp only at hr ⊢
    cases hm2 : mapO (frz 0 T deep) args with
    | none => rw [hm2] at hr; cases hr
    | some as =>
      rw [hm2] at hr
      simp only at hr ⊢
      cases hs : prunF e m as with
      | none => rw [hs] at hr; cases hr
      | some x => rw [hs] at hr; rw [prunF_mono he hs]; exact hr

theorem ownF_mono {e e' : ExecA} (he : ExLe e e') {m : MFunc} {as : List AV} {r : (Bool × Nat × List AV) × Bool} (hr : ownF e m as = some r) : ownF e' m as = some r := by
  simp only [ownF] at hr ⊢
  cases hs : e 0 m.code (enter 0 as) [] with
  | none => rw [hs] at hr; cases hr
  | some x => rw [hs] at hr; rw [he _ _ _ _ _ hs]; exact hr

theorem ocallF_mono {e e' : ExecA} (he : ExLe e e') {m : MFunc} {args : List AV} {T : Tab} {r : Bool × Nat × List AV} (hr : ocallF e m args T = some r) : ocallF e' m args T = some r := by
  simp only [ocallF] at hr ⊢
  cases hm : mapO (frz 0 [] deep) args with
  | some as =>
    rw [hm] at hr
    simp only at hr ⊢
    cases hs : ownF e m as with
    | none => rw [hs] at hr; cases hr
    | some x => rw [hs] at hr; rw [ownF_mono he hs]; exact hr
  | none =>
    rw [hm] at hr
    simp only at hr ⊢
    cases hm2 : mapO (frz 0 T deep) args with
    | none => rw [hm2] at hr; cases hr
    | some as =>
      rw [hm2] at hr
      simp only at hr ⊢
      cases hs : ownF e m as with
      | none => rw [hs] at hr; cases hr
      | some x => rw [hs] at hr; rw [ownF_mono he hs]; exact hr

theorem callF_mono {prog : Nat → Option MFunc} {e e' : ExecA} (he : ExLe e e') : CallLe (callF prog e) (callF prog e') := by
  intro lo f a T r hr
  simp only [callF] at hr ⊢
  cases hp : prog f with
  | none => rw [hp] at hr; cases hr
  | some m =>
    rw [hp] at hr
    simp only at hr ⊢
    by_cases h0 : m.pol = 0
    · rw [if_pos h0] at hr ⊢
      cases hs : e lo m.code (enter 0 a) T with
      | none => rw [hs] at hr; cases hr
      | some x => rw [hs] at hr; rw [he _ _ _ _ _ hs]; exact hr
    · rw [if_neg h0] at hr ⊢
      by_cases h3 : m.pol = 3
      · rw [if_pos h3] at hr ⊢
        cases hs : pcallF e m a T with
        | none => rw [hs] at hr; cases hr
        | some x => rw [hs] at hr; rw [pcallF_mono he hs]; exact hr
      · rw [if_neg h3] at hr ⊢
        by_cases h4 : m.pol = 4
        · rw [if_pos h4] at hr ⊢
          cases hs : ocallF e m a T with
          | none => rw [hs] at hr; cases hr
          | some x => rw [hs] at hr; rw [ocallF_mono he hs]; exact hr
        · rw [if_neg h4] at hr ⊢
          cases hs : e T.length m.code (enter 0 a) T with
          | none => rw [hs] at hr; cases hr
          | some x => rw [hs] at hr; rw [he _ _ _ _ _ hs]; exact hr

theorem execN_mono1 (prog : Nat → Option MFunc) : ∀ n, ExLe (execN prog n) (execN prog (n + 1))
  | 0 => fun _ _ _ _ _ h => by cases h
  | n + 1 => fun _ _ _ _ _ h => execF_mono (callF_mono (execN_mono1 prog n)) (execN_mono1 prog n) _ _ _ _ h
theorem execN_mono (prog : Nat → Option MFunc) {n m : Nat} (h : n ≤ m) : ExLe (execN prog n) (execN prog m) := by
  induction h with
  | refl => exact ExLe.refl _
  | step _ ih => exact ih.trans (execN_mono1 prog _)

/-- With enough fuel. -/
noncomputable def exec (prog : Nat → Option MFunc) : ExecA := fun lo c E T =>
  open Classical in if h : ∃ n r, execN prog n lo c E T = some r then some (Classical.choose (Classical.choose_spec h)) else none

theorem exec_iff {prog : Nat → Option MFunc} {lo : Nat} {c : MCode} {E : Env} {T : Tab} {r : Out} : exec prog lo c E T = some r ↔ ∃ n, execN prog n lo c E T = some r := by
  unfold exec
  constructor
  · intro h
    split at h
    · rename_i hx
      refine ⟨Classical.choose hx, ?_⟩
      rw [← Option.some.inj h]
      exact Classical.choose_spec (Classical.choose_spec hx)
    · cases h
  · rintro ⟨n, h⟩
    have hx : ∃ n r, execN prog n lo c E T = some r := ⟨n, r, h⟩
    rw [dif_pos hx]
    have h2 := Classical.choose_spec (Classical.choose_spec hx)
    have a := execN_mono prog (Nat.le_max_left n (Classical.choose hx)) _ _ _ _ _ h
    have b := execN_mono prog (Nat.le_max_right n (Classical.choose hx)) _ _ _ _ _ h2
    rw [a] at b
    exact b.symm
noncomputable def acall (prog : Nat → Option MFunc) : CallA := callF prog (exec prog)

theorem execN_le (prog : Nat → Option MFunc) (n : Nat) : ExLe (execN prog n) (exec prog) := fun _ _ _ _ _ h => exec_iff.2 ⟨n, h⟩

/-! ### What is answered needs but some fuel -/
theorem prunF_cont {prog : Nat → Option MFunc} {m : MFunc} {as : List AV} {r : AV × Bool} (hr : prunF (exec prog) m as = some r) : ∃ n, prunF (execN prog n) m as = some r := by
  simp only [prunF] at hr ⊢
  cases hs : exec prog 0 m.code (enter 0 as) [] with
  | none => rw [hs] at hr; cases hr
  | some x => obtain ⟨n, hn⟩ := exec_iff.1 hs; rw [hs] at hr; exact ⟨n, by rw [hn]; exact hr⟩

theorem pcallF_cont {prog : Nat → Option MFunc} {m : MFunc} {args : List AV} {T : Tab} {r : AV} (hr : pcallF (exec prog) m args T = some r) : ∃ n, pcallF (execN prog n) m args T = some r := by
  simp only [pcallF] at hr ⊢
  cases hm : mapO (frz 0 [] deep) args with
  | some as =>
    rw [hm] at hr
    simp only at hr ⊢
    cases hs : prunF (exec prog) m as with
    | none => rw [hs] at hr; cases hr
    | some x => obtain ⟨n, hn⟩ := prunF_cont hs; rw [hs] at hr; exact ⟨n, by rw [hn]; exact hr⟩
  | none =>
    rw [hm] at hr
    simp only at hr ⊢
    cases hm2 : mapO (frz 0 T deep) args with
    | none => rw [hm2] at hr; cases hr
    | some as =>
      rw [hm2] at hr
      simp only at hr ⊢
      cases hs : prunF (exec prog) m as with
      | none => rw [hs] at hr; cases hr
      | some x => obtain ⟨n, hn⟩ := prunF_cont hs; rw [hs] at hr; exact ⟨n, by rw [hn]; exact hr⟩

theorem ownF_cont {prog : Nat → Option MFunc} {m : MFunc} {as : List AV} {r : (Bool × Nat × List AV) × Bool} (hr : ownF (exec prog) m as = some r) : ∃ n, ownF (execN prog n) m as = some r := by
  simp only [ownF] at hr ⊢
  cases hs : exec prog 0 m.code (enter 0 as) [] with
  | none => rw [hs] at hr; cases hr
  | some x => obtain ⟨n, hn⟩ := exec_iff.1 hs; rw [hs] at hr; exact ⟨n, by rw [hn]; exact hr⟩

theorem ocallF_cont {prog : Nat → Option MFunc} {m : MFunc} {args : List AV} {T : Tab} {r : Bool × Nat × List AV} (hr : ocallF (exec prog) m args T = some r) : ∃ n, ocallF (execN prog n) m args T = some r := by
  simp only [ocallF] at hr ⊢
  cases hm : mapO (frz 0 [] deep) args with
  | some as =>
    rw [hm] at hr
    simp only at hr ⊢
    cases hs : ownF (exec prog) m as with
    | none => rw [hs] at hr; cases hr
    | some x => obtain ⟨n, hn⟩ := ownF_cont hs; rw [hs] at hr; exact ⟨n, by rw [hn]; exact hr⟩
  | none =>
    rw [hm] at hr
    simp only at hr ⊢
    cases hm2 : mapO (frz 0 T deep) args with
    | none => rw [hm2] at hr; cases hr
    | some as =>
      rw [hm2] at hr
      simp only at hr ⊢
      cases hs : ownF (exec prog) m as with
      | none => rw [hs] at hr; cases hr
      | some x => obtain ⟨n, hn⟩ := ownF_cont hs; rw [hs] at hr; exact ⟨n, by rw [hn]; exact hr⟩

theorem callF_cont {prog : Nat → Option MFunc} {lo f : Nat} {a : List AV} {T : Tab} {r : AV × Tab} (hr : acall prog lo f a T = some r) : ∃ n, callF prog (execN prog n) lo f a T = some r := by
  simp only [acall, callF] at hr ⊢
  cases hp : prog f with
  | none => rw [hp] at hr; cases hr
  | some m =>
    rw [hp] at hr
    simp only at hr ⊢
    by_cases h0 : m.pol = 0
    · simp only [if_pos h0] at hr ⊢
      cases hs : exec prog lo m.code (enter 0 a) T with
      | none => rw [hs] at hr; cases hr
      | some x => obtain ⟨n, hn⟩ := exec_iff.1 hs; rw [hs] at hr; exact ⟨n, by rw [hn]; exact hr⟩
    · simp only [if_neg h0] at hr ⊢
      by_cases h3 : m.pol = 3
      · simp only [if_pos h3] at hr ⊢
        cases hs : pcallF (exec prog) m a T with
        | none => rw [hs] at hr; cases hr
        | some x => obtain ⟨n, hn⟩ := pcallF_cont hs; rw [hs] at hr; exact ⟨n, by rw [hn]; exact hr⟩
      · simp only [if_neg h3] at hr ⊢
        by_cases h4 : m.pol = 4
        · simp only [if_pos h4] at hr ⊢
          cases hs : ocallF (exec prog) m a T with
          | none => rw [hs] at hr; cases hr
          | some x => obtain ⟨n, hn⟩ := ocallF_cont hs; rw [hs] at hr; exact ⟨n, by rw [hn]; exact hr⟩
        · simp only [if_neg h4] at hr ⊢
          cases hs : exec prog T.length m.code (enter 0 a) T with
          | none => rw [hs] at hr; cases hr
          | some x => obtain ⟨n, hn⟩ := exec_iff.1 hs; rw [hs] at hr; exact ⟨n, by rw [hn]; exact hr⟩

abbrev callN (prog : Nat → Option MFunc) (n : Nat) : CallA := callF prog (execN prog n)
theorem callN_mono (prog : Nat → Option MFunc) {n m : Nat} (h : n ≤ m) : CallLe (callN prog n) (callN prog m) := callF_mono (execN_mono prog h)
theorem callN_le (prog : Nat → Option MFunc) (n : Nat) : CallLe (callN prog n) (acall prog) := callF_mono (execN_le prog n)

theorem step_cont {prog : Nat → Option MFunc} {lo : Nat} {E : Env} {T : Tab} {o : MOp} {r : AV × Tab} (hs : stepOp (acall prog) lo E T o = some r) : ∃ n, stepOp (callN prog n) lo E T o = some r := by
  cases o with
  | call f args => exact callF_cont hs
  | callv f args =>
    simp only [stepOp] at hs ⊢
    split at hs
    · exact callF_cont hs
    · cases hs
  | inv tbl x args =>
    simp only [stepOp] at hs ⊢
    split at hs
    · split at hs
      · exact callF_cont hs
      · split at hs
        · exact callF_cont hs
        · cases hs
      · cases hs
    · cases hs
  | _ => exact ⟨0, hs⟩

theorem runOps_cont {prog : Nat → Option MFunc} {lo : Nat} : ∀ (l : List MOper) (E : Env) (T : Tab) (r : Env × Tab), runOps (acall prog) lo l E T = some r → ∃ n, runOps (callN prog n) lo l E T = some r := by
  intro l
  induction l with
  | nil => intro E T r hr; exact ⟨0, hr⟩
  | cons o l ih =>
    intro E T r hr
    simp only [runOps] at hr ⊢
    cases hw : wants E o.guard with
    | none => rw [hw] at hr; cases hr
    | some b =>
      rw [hw] at hr
      cases b with
      | false => exact ih _ _ _ hr
      | true =>
        simp only at hr ⊢
        cases hs : stepOp (acall prog) lo E T o.op with
        | none => rw [hs] at hr; cases hr
        | some x =>
          rw [hs] at hr
          obtain ⟨n, hn⟩ := step_cont hs
          obtain ⟨k, hk⟩ := ih _ _ _ hr
          refine ⟨max n k, ?_⟩
          rw [step_mono (callN_mono prog (Nat.le_max_left n k)) hn]
          exact runOps_mono (callN_mono prog (Nat.le_max_right n k)) _ _ _ _ hk

theorem runD_cont {prog : Nat → Option MFunc} {q : Nat → Bool} {lo : Nat} {T0 : Tab} : ∀ (l : List MOper) (seen : Bool) (pd : List Pend) (E : Env) (T : Tab) (r : Env × Tab),
    runD (acall prog) q lo T0 l seen pd E T = some r → ∃ n, runD (callN prog n) q lo T0 l seen pd E T = some r := by
  intro l
  induction l with
  | nil => intro seen pd E T r hr; exact ⟨0, hr⟩
  | cons o l ih =>
    intro seen pd E T r hr
    simp only [runD] at hr ⊢
    cases hw : wants E o.guard with
    | none => rw [hw] at hr; cases hr
    | some b =>
      rw [hw] at hr
      cases b with
      | false => exact ih _ _ _ _ _ hr
      | true =>
        simp only at hr ⊢
        cases hc : o.cls with
        | E =>
          rw [hc] at hr
          simp only at hr ⊢
          by_cases hb : o.op.isE = true
          · simp only [if_pos hb] at hr ⊢
            cases hs : stepOp (acall prog) lo E T o.op with
            | none => rw [hs] at hr; cases hr
            | some x =>
              rw [hs] at hr
              obtain ⟨n, hn⟩ := step_cont hs
              obtain ⟨k, hk⟩ := ih _ _ _ _ _ hr
              refine ⟨max n k, ?_⟩
              rw [step_mono (callN_mono prog (Nat.le_max_left n k)) hn]
              exact runD_mono (callN_mono prog (Nat.le_max_right n k)) _ _ _ _ _ _ hk
          · rw [if_neg hb] at hr; cases hr
        | R =>
          rw [hc] at hr
          simp only at hr ⊢
          by_cases hb : o.op.isR q E = true
          · simp only [if_pos hb] at hr ⊢
            cases hs : stepOp (acall prog) lo E (if seen = true then T else T0) o.op with
            | none => rw [hs] at hr; cases hr
            | some x =>
              rw [hs] at hr
              obtain ⟨n, hn⟩ := step_cont hs
              obtain ⟨k, hk⟩ := ih _ _ _ _ _ hr
              refine ⟨max n k, ?_⟩
              rw [step_mono (callN_mono prog (Nat.le_max_left n k)) hn]
              exact runD_mono (callN_mono prog (Nat.le_max_right n k)) _ _ _ _ _ _ hk
          · rw [if_neg hb] at hr; cases hr
        | A =>
          rw [hc] at hr
          simp only at hr ⊢
          by_cases hb : (o.op.isA E && !seen) = true
          · simp only [if_pos hb] at hr ⊢
            cases hs : stepOp (acall prog) lo E T o.op with
            | none => rw [hs] at hr; cases hr
            | some x =>
              rw [hs] at hr
              obtain ⟨n, hn⟩ := step_cont hs
              obtain ⟨k, hk⟩ := ih _ _ _ _ _ hr
              refine ⟨max n k, ?_⟩
              rw [step_mono (callN_mono prog (Nat.le_max_left n k)) hn]
              exact runD_mono (callN_mono prog (Nat.le_max_right n k)) _ _ _ _ _ _ hk
          · rw [if_neg hb] at hr; cases hr
        | L =>
          rw [hc] at hr
          simp only at hr ⊢
          cases hs : stepOp (acall prog) lo E T o.op with
          | none => rw [hs] at hr; cases hr
          | some x =>
            rw [hs] at hr
            simp only at hr
            by_cases hb : (pd.all (Pend.ok x.2)) = true
            · rw [if_pos hb] at hr
              obtain ⟨n, hn⟩ := step_cont hs
              obtain ⟨k, hk⟩ := ih _ _ _ _ _ hr
              refine ⟨max n k, ?_⟩
              rw [step_mono (callN_mono prog (Nat.le_max_left n k)) hn]
              simp only [if_pos hb]
              exact runD_mono (callN_mono prog (Nat.le_max_right n k)) _ _ _ _ _ _ hk
            · rw [if_neg hb] at hr; cases hr

theorem execF_cont {prog : Nat → Option MFunc} {q : Nat → Bool} {lo : Nat} : ∀ (m : MCode) (E : Env) (T : Tab) (r : Out),
    execF (acall prog) q (exec prog) lo m E T = some r → ∃ n, execF (callN prog n) q (execN prog n) lo m E T = some r := by
  intro m
  induction m with
  | reg d ops live =>
    intro E T r hr
    simp only [execF] at hr ⊢
    cases d with
    | true =>
      simp only [if_true] at hr ⊢
      cases hs : runD (acall prog) q lo (pad ops T) ops false [] E T with
      | none => rw [hs] at hr; cases hr
      | some x => obtain ⟨n, hn⟩ := runD_cont _ _ _ _ _ _ hs; rw [hs] at hr; exact ⟨n, by rw [hn]; exact hr⟩
    | false =>
      simp only [Bool.false_eq_true, if_false] at hr ⊢
      cases hs : runOps (acall prog) lo ops E T with
      | none => rw [hs] at hr; cases hr
      | some x => obtain ⟨n, hn⟩ := runOps_cont _ _ _ _ hs; rw [hs] at hr; exact ⟨n, by rw [hn]; exact hr⟩
  | seq a b iha ihb =>
    intro E T r hr
    simp only [execF] at hr ⊢
    cases hs : execF (acall prog) q (exec prog) lo a E T with
    | none => rw [hs] at hr; cases hr
    | some x =>
      rw [hs] at hr
      obtain ⟨n, hn⟩ := iha _ _ _ hs
      cases x with
      | nrm E' T' =>
        obtain ⟨k, hk⟩ := ihb _ _ _ hr
        refine ⟨max n k, ?_⟩
        rw [execF_mono (callN_mono prog (Nat.le_max_left n k)) (execN_mono prog (Nat.le_max_left n k)) _ _ _ _ hn]
        exact execF_mono (callN_mono prog (Nat.le_max_right n k)) (execN_mono prog (Nat.le_max_right n k)) _ _ _ _ hk
      | ext id E' T' => exact ⟨n, by rw [hn]; exact hr⟩
      | ret E' T' => exact ⟨n, by rw [hn]; exact hr⟩
  | cond t a b iha ihb =>
    intro E T r hr
    simp only [execF] at hr ⊢
    split at hr
    · split at hr
      · obtain ⟨n, hn⟩ := iha _ _ _ hr; exact ⟨n, by rw [if_pos ‹_›]; exact hn⟩
      · obtain ⟨n, hn⟩ := ihb _ _ _ hr; exact ⟨n, by rw [if_neg ‹_›]; exact hn⟩
    · cases hr
  | con b a iha => intro E T r hr; exact iha _ _ _ hr
  | block id b ihb =>
    intro E T r hr
    simp only [execF] at hr ⊢
    cases hs : execF (acall prog) q (exec prog) lo b E T with
    | none => rw [hs] at hr; cases hr
    | some x =>
      obtain ⟨n, hn⟩ := ihb _ _ _ hs
      rw [hs] at hr
      exact ⟨n, by rw [hn]; exact hr⟩
  | loop keep b ihb =>
    intro E T r hr
    simp only [execF] at hr ⊢
    cases hs : execF (acall prog) q (exec prog) lo b (restrict keep E) T with
    | none => rw [hs] at hr; cases hr
    | some x =>
      rw [hs] at hr
      obtain ⟨n, hn⟩ := ihb _ _ _ hs
      cases x with
      | nrm E' T' =>
        obtain ⟨k, hk⟩ := exec_iff.1 hr
        refine ⟨max n k, ?_⟩
        rw [execF_mono (callN_mono prog (Nat.le_max_left n k)) (execN_mono prog (Nat.le_max_left n k)) _ _ _ _ hn]
        exact execN_mono prog (Nat.le_max_right n k) _ _ _ _ _ hk
      | ext id E' T' => exact ⟨n, by rw [hn]; exact hr⟩
      | ret E' T' => exact ⟨n, by rw [hn]; exact hr⟩
  | frzv t b ihb =>
    intro E T r hr
    simp only [execF] at hr ⊢
    split at hr
    · split at hr
      · split at hr
        · obtain ⟨n, hn⟩ := ihb _ _ _ hr; exact ⟨n, by rw [if_pos ‹_›]; exact hn⟩
        · cases hr
      · cases hr
    · cases hr
  | exit id => intro E T r hr; exact ⟨0, hr⟩
  | ret => intro E T r hr; exact ⟨0, hr⟩
  | skip => intro E T r hr; exact ⟨0, hr⟩

/-- The one equation. -/
theorem exec_eq (prog : Nat → Option MFunc) (lo : Nat) (c : MCode) (E : Env) (T : Tab) : exec prog lo c E T = execF (acall prog) (quietOf prog) (exec prog) lo c E T := by
  have key : ∀ r, exec prog lo c E T = some r ↔ execF (acall prog) (quietOf prog) (exec prog) lo c E T = some r := by
    intro r
    constructor
    · intro h
      obtain ⟨n, hn⟩ := exec_iff.1 h
      cases n with
      | zero => cases hn
      | succ n => exact execF_mono (callN_le prog n) (execN_le prog n) _ _ _ _ hn
    · intro h
      obtain ⟨n, hn⟩ := execF_cont _ _ _ _ h
      exact exec_iff.2 ⟨n + 1, hn⟩
  cases h : exec prog lo c E T with
  | some r => exact ((key r).1 h).symm
  | none =>
    cases h' : execF (acall prog) (quietOf prog) (exec prog) lo c E T with
    | none => rfl
    | some r => rw [(key r).2 h'] at h; cases h

section
variable {prog : Nat → Option MFunc} {lo : Nat} {E : Env} {T : Tab}
theorem exec_reg {ops : List MOper} {live : List Nat} : exec prog lo (.reg false ops live) E T = match runOps (acall prog) lo ops E T with
    | some (E', T') => some (.nrm (restrict live E') T')
    | none => none := by rw [exec_eq]; rfl
theorem exec_regD {ops : List MOper} {live : List Nat} : exec prog lo (.reg true ops live) E T = match runD (acall prog) (quietOf prog) lo (pad ops T) ops false [] E T with
    | some (E', T') => some (.nrm (restrict live E') T')
    | none => none := by rw [exec_eq]; rfl
theorem exec_seq {a b : MCode} : exec prog lo (.seq a b) E T = match exec prog lo a E T with
    | some (.nrm E' T') => exec prog lo b E' T'
    | r => r := by
  rw [exec_eq]; simp only [execF]; rw [← exec_eq]
  generalize exec prog lo a E T = x
  cases x with
  | none => rfl
  | some o => cases o with
    | nrm E' T' => simp only []; rw [← exec_eq]
    | _ => rfl
theorem exec_cond {t : Nat} {a b : MCode} {c : Bool} (h : get E t = .bool c) : exec prog lo (.cond t a b) E T = if c then exec prog lo a E T else exec prog lo b E T := by
  rw [exec_eq]; simp only [execF, h]; rw [← exec_eq, ← exec_eq]
theorem exec_con {c : Bool} {a : MCode} : exec prog lo (.con c a) E T = exec prog lo a E T := by rw [exec_eq, exec_eq]; rfl
theorem exec_block {id : Nat} {b : MCode} : exec prog lo (.block id b) E T = match exec prog lo b E T with
    | some (.ext id' E' T') => if id' = id then some (.nrm E' T') else some (.ext id' E' T')
    | r => r := by
  rw [exec_eq]; simp only [execF]; rw [← exec_eq]
  generalize exec prog lo b E T = x
  cases x with
  | none => rfl
  | some o => cases o <;> rfl
theorem exec_loop {keep : List Nat} {b : MCode} : exec prog lo (.loop keep b) E T = match exec prog lo b (restrict keep E) T with
    | some (.nrm E' T') => exec prog lo (.loop keep b) E' T'
    | r => r := by
  rw [exec_eq]; simp only [execF]; rw [← exec_eq]
  generalize exec prog lo b (restrict keep E) T = x
  cases x with
  | none => rfl
  | some o => cases o <;> rfl
theorem exec_exit {id : Nat} : exec prog lo (.exit id) E T = some (.ext id E T) := by rw [exec_eq]; rfl
theorem exec_ret : exec prog lo .ret E T = some (.ret E T) := by rw [exec_eq]; rfl
theorem exec_skip : exec prog lo .skip E T = some (.nrm E T) := by rw [exec_eq]; rfl
end
/-- What a run with fuel answers. -/
theorem acall_of_fuel {prog : Nat → Option MFunc} {lo f : Nat} {a : List AV} {T : Tab} {r : AV × Tab} (n : Nat) (h : callN prog n lo f a T = some r) : acall prog lo f a T = some r := callN_le prog n _ _ _ _ _ h
end Go.Proofs.Ytlilfiekkaolkaa.Am
