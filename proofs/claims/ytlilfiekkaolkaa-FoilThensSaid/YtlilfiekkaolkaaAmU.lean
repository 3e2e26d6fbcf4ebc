/- Regions whose order is open, fourth part: the invariant. -/
import Derived.Test.YtlilfiekkaolkaaAmT
set_option linter.unusedVariables false
set_option linter.unusedSimpArgs false
namespace Go.Proofs.Ytlilfiekkaolkaa.Am
open Go

/-- A region and a foretold run of it. -/
structure Ctx (P : Program) (call : CallA) (q : Nat → Bool) (lo nt : Nat) (ms : List MOper) (ops : Array Oper) (T : Tab) (E E' : Env) (T' : Tab) (Es : Nat → Env) (Ts : Nat → Tab) (vs : Nat → AV) : Prop where
  ok : ∀ lo, CallOK P call lo
  quiet : QuietOK call q
  chk : chkOpers P nt ops.toList ms ops.toList = true
  dr : chkDraw ms ops.toList = true
  tr : Trace call q lo (pad ms T) ms false [] E T E' T' Es Ts vs
  hlo : lo ≤ T.length

section
variable {P : Program} {call : CallA} {q : Nat → Bool} {lo nt : Nat} {ms : List MOper} {ops : Array Oper} {T : Tab} {E E' : Env} {T' : Tab} {Es : Nat → Env} {Ts : Nat → Tab} {vs : Nat → AV}
variable (c : Ctx P call q lo nt ms ops T E E' T' Es Ts vs)
include c

theorem Ctx.len : ms.length = ops.size := by rw [(chkOpers_get c.chk).1]; simp
theorem Ctx.op {j : Nat} {m : MOper} (h : ms[j]? = some m) : ∃ o, ops[j]? = some o ∧ chkOper P nt ops.toList m o = true := by
  obtain ⟨o, ho, hc⟩ := (chkOpers_get c.chk).2 j m h
  exact ⟨o, by rw [← Array.getElem?_toList]; exact ho, hc⟩

theorem Ctx.pair0 {i j : Nat} {a b : MOper} (ha : ms[i]? = some a) (hb : ms[j]? = some b) : chkPair (masks ops.toList []) i j a b = true := by
  have h := c.dr
  simp only [chkDraw, Bool.and_eq_true, List.all_eq_true] at h
  have h1 := (h.1 (b, j) (List.mk_mem_zipIdx_iff_getElem?.2 hb)).1
  exact h1 (a, i) (List.mk_mem_zipIdx_iff_getElem?.2 ha)

theorem Ctx.guardA {j : Nat} {m : MOper} (hm : ms[j]? = some m) (hA : m.cls = .A) : m.guard = none := by
  have h := c.dr
  simp only [chkDraw, Bool.and_eq_true, List.all_eq_true] at h
  have h1 := (h.1 (m, j) (List.mk_mem_zipIdx_iff_getElem?.2 hm)).2
  simpa [hA] using h1

theorem Ctx.edge {j : Nat} {o : Oper} (ho : ops[j]? = some o) {e : Edge} (he : e ∈ o.after) (hb : Region.binds .any e = true) : e.on < j := by
  have h := c.dr
  simp only [chkDraw, Bool.and_eq_true, List.all_eq_true] at h
  have h1 := h.2 (o, j) (List.mk_mem_zipIdx_iff_getElem?.2 (by rw [Array.getElem?_toList]; exact ho))
  have h2 := Array.all_eq_true_iff_forall_mem.1 h1 e he
  simpa [hb] using h2

theorem Ctx.dsts {i j : Nat} {a b : MOper} (ha : ms[i]? = some a) (hb : ms[j]? = some b) (h : i ≠ j) {d : Nat} (hd : a.dst = some d) : (d ∈ usesOf b → (i < j ∧ isBefore (masks ops.toList []) i j = true) ∨ (j < i ∧ isBefore (masks ops.toList []) j i = true)) ∧ b.dst ≠ some d := by
  have h1 := c.pair0 ha hb
  simp only [chkPair, Bool.or_eq_true, Bool.and_eq_true, beq_iff_eq, h, false_or, hd] at h1
  obtain ⟨⟨h2, h3⟩, _⟩ := h1
  refine ⟨fun hm => ?_, by simpa using h3⟩
  rcases h2 with h2 | h2
  · simp at h2; exact absurd hm h2
  · simpa [Bool.or_eq_true, Bool.and_eq_true] using h2

theorem Ctx.cls {i j : Nat} {a b : MOper} (ha : ms[i]? = some a) (hb : ms[j]? = some b) (h : i < j) : (match a.cls, b.cls with
      | .R, .L => isBefore (masks ops.toList []) i j || (a.stab && b.guard == none && (match a.op with | .ld .. => true | _ => false))
      | .L, .R | .L, .L | .A, .L => isBefore (masks ops.toList []) i j
      | .L, .A => false
      | _, _ => true) = true := by
  have h1 := c.pair0 ha hb
  have hne : i ≠ j := by omega
  simp only [chkPair, Bool.or_eq_true, Bool.and_eq_true, beq_iff_eq, hne, false_or] at h1
  have h2 := h1.2
  simp only [h, decide_true, Bool.not_true, Bool.false_eq_true, false_or] at h2
  exact h2

theorem Ctx.LL {i j : Nat} {a b : MOper} (ha : ms[i]? = some a) (hb : ms[j]? = some b) (h : i < j) (h1 : a.cls = .L) (h2 : b.cls = .L) : isBefore (masks ops.toList []) i j = true := by
  have := c.cls ha hb h; rw [h1, h2] at this; exact this
theorem Ctx.LR {i j : Nat} {a b : MOper} (ha : ms[i]? = some a) (hb : ms[j]? = some b) (h : i < j) (h1 : a.cls = .L) (h2 : b.cls = .R) : isBefore (masks ops.toList []) i j = true := by
  have := c.cls ha hb h; rw [h1, h2] at this; exact this
theorem Ctx.AL {i j : Nat} {a b : MOper} (ha : ms[i]? = some a) (hb : ms[j]? = some b) (h : i < j) (h1 : a.cls = .A) (h2 : b.cls = .L) : isBefore (masks ops.toList []) i j = true := by
  have := c.cls ha hb h; rw [h1, h2] at this; exact this
theorem Ctx.LA {i j : Nat} {a b : MOper} (ha : ms[i]? = some a) (hb : ms[j]? = some b) (h : i < j) (h1 : a.cls = .L) (h2 : b.cls = .A) : False := by
  have := c.cls ha hb h; rw [h1, h2] at this; cases this
theorem Ctx.RL {i j : Nat} {a b : MOper} (ha : ms[i]? = some a) (hb : ms[j]? = some b) (h : i < j) (h1 : a.cls = .R) (h2 : b.cls = .L) :
    isBefore (masks ops.toList []) i j = true ∨ (a.stab = true ∧ b.guard = none ∧ ∃ ag n x, a.op = .ld ag n x) := by
  have := c.cls ha hb h
  rw [h1, h2] at this
  simp only [Bool.or_eq_true, Bool.and_eq_true, beq_iff_eq] at this
  rcases this with h3 | ⟨⟨h3, h4⟩, h5⟩
  · exact .inl h3
  · refine .inr ⟨h3, h4, ?_⟩
    split at h5
    · rename_i ag n x hop; exact ⟨ag, n, x, hop⟩
    · cases h5

/-! ### The foretold run -/
theorem Ctx.es1 {i : Nat} {a : MOper} {d : Nat} (ha : ms[i]? = some a) (hd : a.dst = some d) : ∀ {j : Nat}, i < j → j ≤ ms.length → get (Es j) d = vs i
  | 0, h, _ => by omega
  | j + 1, h, hj => by
    have hm : ms[j]? = some ms[j] := List.getElem?_eq_getElem (by omega)
    rw [c.tr.env j _ hm]
    by_cases e : i = j
    · subst e
      rw [ha] at hm
      cases hm
      rw [hd, get_put_self]
    · have h1 := (c.dsts ha hm e hd).2
      have h2 : get (put (Es j) ms[j].dst (vs j)) d = get (Es j) d := by
        cases hdst : ms[j].dst with
        | none => rfl
        | some d' => exact get_put_ne _ _ fun e => h1 (by rw [hdst, e])
      rw [h2]
      exact Ctx.es1 ha hd (by omega) (by omega)

theorem Ctx.es2 {d : Nat} : ∀ {j : Nat}, (∀ (i : Nat) (a : MOper), i < j → ms[i]? = some a → a.dst ≠ some d) → j ≤ ms.length → get (Es j) d = get E d
  | 0, _, _ => by rw [c.tr.E0]
  | j + 1, h, hj => by
    have hm : ms[j]? = some ms[j] := List.getElem?_eq_getElem (by omega)
    rw [c.tr.env j _ hm]
    have h1 := h j _ (by omega) hm
    have h2 : get (put (Es j) ms[j].dst (vs j)) d = get (Es j) d := by
      cases hdst : ms[j].dst with
      | none => rfl
      | some d' => exact get_put_ne _ _ fun e => h1 (by rw [hdst, e])
    rw [h2]
    exact Ctx.es2 (fun i a hi ha => h i a (by omega) ha) (by omega)

theorem Ctx.const {l : Nat} : ∀ {j : Nat}, l ≤ j → j ≤ ms.length → (∀ (i : Nat) (m : MOper), l ≤ i → i < j → ms[i]? = some m → m.cls = .E ∨ m.cls = .R) → Ts j = Ts l
  | 0, h, _, _ => by rw [show l = 0 by omega]
  | j + 1, h, hj, hh => by
    rcases Nat.lt_or_ge l (j + 1) with hl | hl
    · have hm : ms[j]? = some ms[j] := List.getElem?_eq_getElem (by omega)
      have ih := Ctx.const (j := j) (by omega) (by omega) fun i m h1 h2 => hh i m h1 (by omega)
      rw [← ih]
      have hst := c.tr.step j _ hm
      rcases hst with ⟨_, _, h1⟩ | ⟨_, h1⟩
      · exact h1
      · rcases hh j _ (by omega) (by omega) hm with hc | hc
        · rw [hc] at h1; exact h1.2.1
        · rw [hc] at h1; exact h1.2.1
    · rw [show l = j + 1 by omega]

theorem Ctx.stepA {j : Nat} {m : MOper} (hm : ms[j]? = some m) (hA : m.cls = .A) : m.op.isA (Es j) = true ∧ seenAt ms j = false ∧ stepOp call lo (Es j) (Ts j) m.op = some (vs j, Ts (j + 1)) := by
  have hg := c.guardA hm hA
  rcases c.tr.step j m hm with ⟨h, _⟩ | ⟨_, h⟩
  · rw [hg] at h; cases h
  · rw [hA] at h; simpa using h

theorem Ctx.tsA : ∀ {j : Nat}, j ≤ ms.length → (∀ (i : Nat) (m : MOper), i < j → ms[i]? = some m → m.cls ≠ .L) →
    (Ts j).length = T.length + nA (ms.take j) ∧ (∀ t, t < T.length → tget (Ts j) t = tget T t) ∧
    ∀ (i : Nat) (m : MOper), i < j → ms[i]? = some m → m.cls = .A → tget (Ts j) (T.length + nA (ms.take i)) = tget (Ts (i + 1)) (T.length + nA (ms.take i))
  | 0, _, _ => by
    rw [c.tr.t0]
    exact ⟨by simp [nA], fun _ _ => rfl, fun i m h => by omega⟩
  | j + 1, hj, h => by
    obtain ⟨h1, h2, h3⟩ := Ctx.tsA (j := j) (by omega) fun i m hi => h i m (by omega)
    have hm : ms[j]? = some ms[j] := List.getElem?_eq_getElem (by omega)
    by_cases hA : ms[j].cls = .A
    · obtain ⟨ha, _, hst⟩ := c.stepA hm hA
      obtain ⟨o, ho, hc⟩ := c.op hm
      simp only [chkOper, Bool.and_eq_true] at hc
      obtain ⟨ob, hob, _⟩ := at_sound hc.2 ha hst
      refine ⟨?_, fun t ht => ?_, fun i m hi hmi hAi => ?_⟩
      · rw [hob, nA_take_succ hm, if_pos hA]; simp; omega
      · rw [hob, tget_old _ (by omega)]; exact h2 t ht
      · rcases Nat.lt_or_ge i j with hij | hij
        · have := nA_take_succ hmi
          rw [if_pos hAi] at this
          have hmono := nA_mono (ms := ms) (i := i + 1) (j := j) (by omega)
          rw [hob, tget_old _ (by omega)]
          exact h3 i m hij hmi hAi
        · rw [show i = j by omega]
    · have hc : ms[j].cls = .E ∨ ms[j].cls = .R := by
        have hL := h j _ (by omega) hm
        cases hcl : ms[j].cls with
        | E => exact .inl rfl
        | R => exact .inr rfl
        | A => exact absurd hcl hA
        | L => exact absurd hcl hL
      have hTs : Ts (j + 1) = Ts j := c.const (l := j) (by omega) hj fun i m h1 h2 hmi => by
        have : i = j := by omega
        subst this
        rw [hm] at hmi
        cases hmi
        exact hc
      refine ⟨?_, fun t ht => ?_, fun i m hi hmi hAi => ?_⟩
      · rw [hTs, nA_take_succ hm, if_neg hA]; omega
      · rw [hTs]; exact h2 t ht
      · rcases Nat.lt_or_ge i j with hij | hij
        · rw [hTs]; exact h3 i m hij hmi hAi
        · rw [show i = j by omega]
end

/-! ### The invariant -/
def Don (listed : Array Bool) (j : Nat) : Prop := listed.getD j false = true

structure Inv (lo nt : Nat) (ms : List MOper) (ops : Array Oper) (G0 : Gh) (T : Tab) (w0 : World) (E : Env) (Ts : Nat → Tab) (vs : Nat → AV) (listed : Array Bool) (a : Act) (w : World) (G : Gh) (Tc : Tab) : Prop where
  size : listed.size = ops.size
  closed : ∀ j o, ops[j]? = some o → Don listed j → ∀ e ∈ o.after, Region.binds .any e = true → Don listed e.on
  nt : nt ≤ a.tmps.size
  df : a.defers = []
  ext : Ext lo G0 (pad ms T) w0 G Tc w
  sim : Sim G Tc w
  i1 : ∀ i m d, ms[i]? = some m → m.dst = some d → Don listed i → RV G w (vs i) (a.eval (.tmp d))
  i2 : ∀ t, (∀ i m, ms[i]? = some m → m.dst = some t → ¬ Don listed i) → RV G w (get E t) (a.eval (.tmp t))
  ph : ((∀ j m, ms[j]? = some m → m.cls = .L → ¬ Don listed j) ∧ Tc.length = T.length + nA ms ∧ (∀ t, t < T.length → tget Tc t = tget T t) ∧
        ∀ j m, ms[j]? = some m → m.cls = .A → (Don listed j ∧ tget Tc (T.length + nA (ms.take j)) = tget (Ts (j + 1)) (T.length + nA (ms.take j))) ∨ (¬ Don listed j ∧ Slot G Tc (T.length + nA (ms.take j)))) ∨
       (∃ l m, ms[l]? = some m ∧ m.cls = .L ∧ Don listed l ∧ (∀ l' m', ms[l']? = some m' → m'.cls = .L → Don listed l' → l' ≤ l) ∧ Tc = Ts (l + 1))

theorem don_set {listed : Array Bool} {i j : Nat} : Don (listed.setIfInBounds j true) i ↔ (i = j ∧ j < listed.size) ∨ Don listed i := by
  unfold Don
  by_cases h : i = j
  · subst h
    rcases Nat.lt_or_ge i listed.size with hi | hi
    · simp [hi]
    · simp [Array.getElem?_eq_none hi, Nat.not_lt.2 hi]
  · simp [Array.getElem?_setIfInBounds_ne (fun e : j = i => h e.symm), h]

theorem not_don {listed : Array Bool} {j : Nat} (h : listed.getD j true = false) : j < listed.size ∧ ¬ Don listed j := by
  unfold Don
  rcases Nat.lt_or_ge j listed.size with hj | hj
  · simp [hj] at h ⊢; exact h
  · simp [Array.getElem?_eq_none hj] at h

section
variable {P : Program} {call : CallA} {q : Nat → Bool} {lo nt : Nat} {ms : List MOper} {ops : Array Oper} {T : Tab} {E E' : Env} {T' : Tab} {Es : Nat → Env} {Ts : Nat → Tab} {vs : Nat → AV}
variable {G0 G : Gh} {w0 w : World} {listed : Array Bool} {a : Act} {Tc : Tab} {Q : Exit → Act → World → Prop}

theorem Inv.before (v : Inv lo nt ms ops G0 T w0 E Ts vs listed a w G Tc) {j : Nat} {o : Oper} (ho : ops[j]? = some o) (hr : ∀ e ∈ o.after, Region.binds .any e = true → Don listed e.on) {i : Nat} (hij : i ≠ j)
    (h : isBefore (masks ops.toList []) i j = true) : Don listed i := by
  have hj : j < ops.toList.length := by simp; exact (Array.getElem?_eq_some_iff.1 ho).1
  have := before_sound (gops := ops.toList) (S := fun k => Don listed k ∨ k = j) (fun k o' ho' hs e he hb => by
    rw [Array.getElem?_toList] at ho'
    rcases hs with hs | rfl
    · exact .inl (v.closed k o' ho' hs e (by simpa using he) hb)
    · rw [ho] at ho'; cases ho'; exact .inl (hr e (by simpa using he) hb)) j i hj (.inr rfl) h
  rcases this with h | h
  · exact h
  · exact absurd h hij

theorem Inv.env (v : Inv lo nt ms ops G0 T w0 E Ts vs listed a w G Tc) (c : Ctx P call q lo nt ms ops T E E' T' Es Ts vs) {j : Nat} {o : Oper} {m : MOper} (ho : ops[j]? = some o) (hm : ms[j]? = some m) (hr : ∀ e ∈ o.after, Region.binds .any e = true → Don listed e.on)
    (hn : ¬ Don listed j) : EnvR G w (restrict (usesOf m) (Es j)) a := by
  have hj : j < ms.length := (List.getElem?_eq_some_iff.1 hm).1
  intro t
  rw [get_restrict]
  split
  · rename_i ht
    by_cases hw : ∃ i b, i ≠ j ∧ ms[i]? = some b ∧ b.dst = some t
    · obtain ⟨i, b, hij, hb, hd⟩ := hw
      rcases (c.dsts hb hm hij hd).1 ht with ⟨h1, h2⟩ | ⟨h1, h2⟩
      · rw [c.es1 hb hd h1 (by omega)]
        exact v.i1 i b t hb hd (v.before ho hr hij h2)
      · -- it is written later, and surely behind this one
        have uniq : ∀ i' b', ms[i']? = some b' → b'.dst = some t → i' = i := fun i' b' hb' hd' => by
          by_cases e : i' = i
          · exact e
          · exact absurd hd' (c.dsts hb hb' (fun h => e h.symm) hd).2
        rw [c.es2 (fun i' b' hi' hb' hd' => by have := uniq i' b' hb' hd'; omega) (by omega)]
        refine v.i2 t fun i' b' hb' hd' hdon => ?_
        rw [uniq i' b' hb' hd'] at hdon
        obtain ⟨o2, ho2, _⟩ := c.op hb
        exact hn (v.before ho2 (v.closed i o2 ho2 hdon) (by omega) h2)
    · have hno : ∀ i b, ms[i]? = some b → b.dst = some t → i = j := fun i b hb hd => by
        by_cases e : i = j
        · exact e
        · exact absurd ⟨i, b, e, hb, hd⟩ hw
      rw [c.es2 (fun i b hi hb hd => by have := hno i b hb hd; omega) (by omega)]
      exact v.i2 t fun i b hb hd hdon => by rw [hno i b hb hd] at hdon; exact hn hdon
  · exact .unk _

/-- Where memory is to be changed, it is as foretold. -/
theorem Inv.atL (v : Inv lo nt ms ops G0 T w0 E Ts vs listed a w G Tc) (c : Ctx P call q lo nt ms ops T E E' T' Es Ts vs) {j : Nat} (hj : j ≤ ms.length) (hL : ∀ i m, i < j → ms[i]? = some m → m.cls = .L → Don listed i) (hL' : ∀ i m, j ≤ i → ms[i]? = some m → m.cls = .L → ¬ Don listed i)
    (hA : ∀ i m, ms[i]? = some m → m.cls = .A → Don listed i ∧ i < j) : Tc = Ts j := by
  rcases v.ph with ⟨p1, p2, p3, p4⟩ | ⟨l, m, hm, hc, hd, hmax, rfl⟩
  · have hno : ∀ (i : Nat) (m : MOper), i < j → ms[i]? = some m → m.cls ≠ .L := fun i m hi hm hc => p1 i m hm hc (hL i m hi hm hc)
    obtain ⟨t1, t2, t3⟩ := c.tsA hj hno
    have hfull : nA ms = nA (ms.take j) := by
      have key : ∀ k, j ≤ k → k ≤ ms.length → nA (ms.take k) = nA (ms.take j) := by
        intro k hk
        induction hk with
        | refl => intro _; rfl
        | step hk ih =>
          rename_i k
          intro hkl
          have hm : ms[k]? = some ms[k] := List.getElem?_eq_getElem (by omega)
          have hk' : j ≤ k := hk
          rw [nA_take_succ hm, ih (by omega), if_neg]
          · rfl
          · intro hc
            have := (hA k _ hm hc).2
            omega
      rw [← nA_full ms]
      exact key _ hj (Nat.le_refl _)
    refine tab_ext (by omega) fun t ht => ?_
    rcases Nat.lt_or_ge t T.length with h | h
    · rw [p3 t h, t2 t h]
    · obtain ⟨i, m, hi, hm, hc, hk⟩ := nA_surj (ms := ms) (j := j) (k := t - T.length) hj (by omega)
      have e : t = T.length + nA (ms.take i) := by omega
      rw [e, t3 i m hi hm hc]
      rcases p4 i m hm hc with ⟨_, h⟩ | ⟨h, _⟩
      · exact h
      · exact absurd (hA i m hm hc).1 h
  · have hlj : l < j := by
      rcases Nat.lt_or_ge l j with h | h
      · exact h
      · exact absurd hd (hL' l m h hm hc)
    refine (c.const (l := l + 1) (j := j) (by omega) hj fun i b h1 h2 hb => ?_).symm
    cases hcl : b.cls with
    | E => exact .inl rfl
    | R => exact .inr rfl
    | A => exact (c.LA hm hb (by omega) hc hcl).elim
    | L => have := hmax i b hb hcl (hL i b h2 hb hcl); omega
end
end Go.Proofs.Ytlilfiekkaolkaa.Am
