/- Regions whose order is open, fifth part: the steps. -/
import Derived.Test.YtlilfiekkaolkaaAmU
set_option linter.unusedVariables false
set_option linter.unusedSimpArgs false
namespace Go.Proofs.Ytlilfiekkaolkaa.Am
open Go
section
variable {P : Program} {call : CallA} {q : Nat → Bool} {lo nt : Nat} {ms : List MOper} {ops : Array Oper} {T : Tab} {E E' : Env} {T' : Tab} {Es : Nat → Env} {Ts : Nat → Tab} {vs : Nat → AV}
variable {G0 G : Gh} {w0 w : World} {listed : Array Bool} {a : Act} {Tc : Tab} {Q : Exit → Act → World → Prop}

/-- One more operation is done. -/
theorem Inv.next (v : Inv lo nt ms ops G0 T w0 E Ts vs listed a w G Tc) (c : Ctx P call q lo nt ms ops T E E' T' Es Ts vs) {j : Nat} {o : Oper} {m : MOper} (ho : ops[j]? = some o) (hm : ms[j]? = some m) (hr : ∀ e ∈ o.after, Region.binds .any e = true → Don listed e.on)
    {G' : Gh} {Tc' : Tab} {w' : World} {cv : Value} (X : Ext lo G Tc w G' Tc' w') (s' : Sim G' Tc' w') (r : RV G' w' (vs j) cv)
    (ph : ((∀ i m, ms[i]? = some m → m.cls = .L → ¬ Don (listed.setIfInBounds j true) i) ∧ Tc'.length = T.length + nA ms ∧ (∀ t, t < T.length → tget Tc' t = tget T t) ∧
        ∀ i m, ms[i]? = some m → m.cls = .A → (Don (listed.setIfInBounds j true) i ∧ tget Tc' (T.length + nA (ms.take i)) = tget (Ts (i + 1)) (T.length + nA (ms.take i))) ∨ (¬ Don (listed.setIfInBounds j true) i ∧ Slot G' Tc' (T.length + nA (ms.take i)))) ∨
       (∃ l m, ms[l]? = some m ∧ m.cls = .L ∧ Don (listed.setIfInBounds j true) l ∧ (∀ l' m', ms[l']? = some m' → m'.cls = .L → Don (listed.setIfInBounds j true) l' → l' ≤ l) ∧ Tc' = Ts (l + 1))) :
    Inv lo nt ms ops G0 T w0 E Ts vs (listed.setIfInBounds j true) (a.put o.dst cv) w' G' Tc' := by
  have hjs : j < listed.size := by rw [v.size]; exact (Array.getElem?_eq_some_iff.1 ho).1
  obtain ⟨o', ho', hc⟩ := c.op hm
  rw [ho] at ho'
  cases ho'
  simp only [chkOper, Bool.and_eq_true, beq_iff_eq] at hc
  obtain ⟨⟨⟨hdst, hd⟩, _⟩, _⟩ := hc
  have hdb : ∀ d, m.dst = some d → d < a.tmps.size := fun d h => by have := v.nt; rw [h] at hd; simp at hd; omega
  refine ⟨by simpa using v.size, fun k o' ho' hk e he hb => ?_, by rw [put_size]; exact v.nt, by rw [put_defers]; exact v.df, v.ext.trans X, s', fun i b d hb hbd hi => ?_, fun t ht => ?_, ph⟩
  · rcases don_set.1 hk with ⟨rfl, _⟩ | hk
    · rw [ho] at ho'
      cases ho'
      exact don_set.2 (.inr (hr e he hb))
    · exact don_set.2 (.inr (v.closed k o' ho' hk e he hb))
  · rw [← hdst]
    by_cases e : i = j
    · subst e
      rw [hm] at hb
      cases hb
      rw [hbd, eval_put_self (hdb d hbd)]
      exact r
    · rcases don_set.1 hi with ⟨h, _⟩ | hi
      · exact absurd h e
      · have h1 := (c.dsts hb hm e hbd).2
        have h2 : (a.put m.dst cv).eval (.tmp d) = a.eval (.tmp d) := by
          cases hmd : m.dst with
          | none => rfl
          | some d' => exact eval_put_ne fun e => h1 (by rw [hmd, e])
        rw [h2]
        exact (v.i1 i b d hb hbd hi).ext v.sim X
  · have h1 : m.dst ≠ some t := fun h => ht j m hm h (don_set.2 (.inl ⟨rfl, hjs⟩))
    rw [← hdst]
    have h2 : (a.put m.dst cv).eval (.tmp t) = a.eval (.tmp t) := by
      cases hmd : m.dst with
      | none => rfl
      | some d' => exact eval_put_ne fun e => h1 (by rw [hmd, e])
    rw [h2]
    exact (v.i2 t fun i b hb hbd hi => ht i b hb hbd (don_set.2 (.inr hi))).ext v.sim X

/-- The phase stays, if neither L nor A is done. -/
theorem Inv.phase (v : Inv lo nt ms ops G0 T w0 E Ts vs listed a w G Tc) {j : Nat} {m : MOper} (hm : ms[j]? = some m) (hc : m.cls ≠ .L) (hcA : m.cls ≠ .A) {G' : Gh} (hG : ∀ t, t < Tc.length → (∀ g, G'.loc t g = G.loc t g) ∧ G'.box t = G.box t ∧ G'.mp t = G.mp t) :
    ((∀ i m, ms[i]? = some m → m.cls = .L → ¬ Don (listed.setIfInBounds j true) i) ∧ Tc.length = T.length + nA ms ∧ (∀ t, t < T.length → tget Tc t = tget T t) ∧
        ∀ i m, ms[i]? = some m → m.cls = .A → (Don (listed.setIfInBounds j true) i ∧ tget Tc (T.length + nA (ms.take i)) = tget (Ts (i + 1)) (T.length + nA (ms.take i))) ∨ (¬ Don (listed.setIfInBounds j true) i ∧ Slot G' Tc (T.length + nA (ms.take i)))) ∨
       (∃ l m, ms[l]? = some m ∧ m.cls = .L ∧ Don (listed.setIfInBounds j true) l ∧ (∀ l' m', ms[l']? = some m' → m'.cls = .L → Don (listed.setIfInBounds j true) l' → l' ≤ l) ∧ Tc = Ts (l + 1)) := by
  have other : ∀ i b, ms[i]? = some b → (b.cls = .L ∨ b.cls = .A) → (Don (listed.setIfInBounds j true) i ↔ Don listed i) := fun i b hb hcl => by
    rw [don_set]
    constructor
    · rintro (⟨rfl, _⟩ | h)
      · rw [hm] at hb; cases hb; rcases hcl with h | h
        · exact absurd h hc
        · exact absurd h hcA
      · exact h
    · exact .inr
  rcases v.ph with ⟨p1, p2, p3, p4⟩ | ⟨l, b, hb, hcl, hd, hmax, ht⟩
  · refine .inl ⟨fun i b hb hcl h => p1 i b hb hcl ((other i b hb (.inl hcl)).1 h), p2, p3, fun i b hb hcl => ?_⟩
    rw [other i b hb (.inr hcl)]
    rcases p4 i b hb hcl with h | ⟨h, hs⟩
    · exact .inl h
    · obtain ⟨g1, g2, g3⟩ := hG _ hs.lt
      exact .inr ⟨h, hs.dead, hs.lt, g2.trans hs.box, g3.trans hs.mp, fun g => (g1 g).trans (hs.loc g)⟩
  · exact .inr ⟨l, b, hb, hcl, (other l b hb (.inl hcl)).2 hd, fun l' m' hm' hc' h => hmax l' m' hm' hc' ((other l' m' hm' (.inl hc')).1 h), ht⟩

/-- What is done when an operation that changes memory is next. -/
theorem Inv.readyL (v : Inv lo nt ms ops G0 T w0 E Ts vs listed a w G Tc) (c : Ctx P call q lo nt ms ops T E E' T' Es Ts vs) {j : Nat} {o : Oper} {m : MOper} (ho : ops[j]? = some o) (hm : ms[j]? = some m) (hr : ∀ e ∈ o.after, Region.binds .any e = true → Don listed e.on)
    (hn : ¬ Don listed j) (hc : m.cls = .L) : Tc = Ts j ∧ ∀ l' m', ms[l']? = some m' → m'.cls = .L → Don (listed.setIfInBounds j true) l' → l' ≤ j := by
  have hj : j < ms.length := (List.getElem?_eq_some_iff.1 hm).1
  have after : ∀ l' m', ms[l']? = some m' → m'.cls = .L → Don listed l' → l' < j := fun l' m' hm' hc' hd => by
    rcases Nat.lt_trichotomy l' j with h | h | h
    · exact h
    · subst h; exact absurd hd hn
    · have h1 := c.LL hm hm' h hc hc'
      have hjo : ∃ o', ops[l']? = some o' ∧ chkOper P nt ops.toList m' o' = true := c.op hm'
      obtain ⟨o', ho', _⟩ := hjo
      exact absurd (v.before ho' (v.closed l' o' ho' hd) (by omega) h1) hn
  refine ⟨v.atL c (by omega) (fun i b hi hb hcl => v.before ho hr (by omega) (c.LL hb hm hi hcl hc)) (fun i b hi hb hcl hd => by have := after i b hb hcl hd; omega) fun i b hb hcl => ?_, fun l' m' hm' hc' hd => ?_⟩
  · have hne : i ≠ j := fun e => by subst e; rw [hm] at hb; cases hb; rw [hc] at hcl; cases hcl
    rcases Nat.lt_or_ge i j with h | h
    · exact ⟨v.before ho hr hne (c.AL hb hm h hcl hc), h⟩
    · exact (c.LA hm hb (by omega) hc hcl).elim
  · rcases don_set.1 hd with ⟨h, _⟩ | h
    · omega
    · exact Nat.le_of_lt (after l' m' hm' hc' h)

theorem Inv.run (c : Ctx P call q lo nt ms ops T E E' T' Es Ts vs) (v : Inv lo nt ms ops G0 T w0 E Ts vs listed a w G Tc) (hT0 : lo ≤ T.length) {j : Nat} {o : Oper} (ho : ops[j]? = some o) (hr : ∀ e ∈ o.after, Region.binds .any e = true → Don listed e.on) (hn : ¬ Don listed j)
    {K : Act → World → Prop} (hK : ∀ a' w' G' Tc', Inv lo nt ms ops G0 T w0 E Ts vs (listed.setIfInBounds j true) a' w' G' Tc' → K a' w') : wpOp P ops Q j K a w := by
  have hjs : j < ops.size := (Array.getElem?_eq_some_iff.1 ho).1
  have hjl : j < ms.length := by rw [c.len]; exact hjs
  have hjd : j < listed.size := by rw [v.size]; exact hjs
  have hm : ms[j]? = some ms[j] := List.getElem?_eq_getElem hjl
  generalize ms[j] = m at hm
  obtain ⟨o', ho', hc⟩ := c.op hm
  rw [ho] at ho'
  cases ho'
  simp only [chkOper, Bool.and_eq_true, beq_iff_eq] at hc
  obtain ⟨⟨⟨hdst, hd⟩, hg⟩, hop⟩ := hc
  have he := v.env c ho hm hr hn
  have hTlen : T.length ≤ Tc.length := by have := v.ext.len; simp [pad] at this; omega
  have hlo : lo ≤ Tc.length := by omega
  have hval : ∀ x ∈ m.op.opds, val (restrict (usesOf m) (Es j)) x = val (Es j) x := fun x hx => by
    cases x with
    | c u => rfl
    | t n =>
      simp only [val]
      rw [get_restrict, if_pos]
      exact List.mem_append_left _ (List.mem_filterMap.2 ⟨.t n, hx, rfl⟩)
  have hwants : wants (restrict (usesOf m) (Es j)) m.guard = wants (Es j) m.guard := by
    cases hgd : m.guard with
    | none => rfl
    | some p =>
      obtain ⟨t, want⟩ := p
      simp only [wants]
      rw [get_restrict, if_pos]
      exact List.mem_append_right _ (by rw [hgd]; exact List.mem_singleton.2 rfl)
  unfold wpOp
  simp only [ho]
  rcases c.tr.step j m hm with ⟨hw, hv, hTs⟩ | ⟨hw, hst⟩
  · -- it is passed over
    rw [guard_sound he hg (hwants.trans hw)]
    simp only [Bool.false_eq_true, if_false]
    have r : RV G w (vs j) undef := by rw [hv]; exact .tup [] #[] rfl (fun i x c h => by simp at h)
    refine hK _ _ G Tc (v.next c ho hm hr (.refl _ _ _ _) v.sim r ?_)
    by_cases hcL : m.cls = .L
    · obtain ⟨hTc, hmax⟩ := v.readyL c ho hm hr hn hcL
      exact .inr ⟨j, m, hm, hcL, don_set.2 (.inl ⟨rfl, hjd⟩), hmax, by rw [hTs]; exact hTc⟩
    · have hcA : m.cls ≠ .A := fun h => by rw [c.guardA hm h] at hw; cases hw
      exact v.phase hm hcL hcA fun t _ => ⟨fun _ => rfl, rfl, rfl⟩
  · rw [guard_sound he hg (hwants.trans hw)]
    simp only [if_true]
    -- quiet operations
    have quietly : ∀ T1 : Tab, m.cls ≠ .L → m.cls ≠ .A → T1.length = Tc.length → (∀ t, tget T1 t = tget Tc t ∨ tget T1 t = .dead) → stepOp call T1.length (Es j) T1 m.op = some (vs j, T1) → o.wp P a w K Q := by
      intro T1 h1 h2 hl hs1 hs
      rw [step_congr (E := Es j) (E' := restrict (usesOf m) (Es j)) fun x hx => (hval x hx).symm] at hs
      refine quiet_op c.ok v.sim hlo he hl hs1 hop hs _ Q fun cv w' hres => ?_
      obtain ⟨G', X, s', r, hG⟩ := hres
      exact hK _ _ G' Tc (v.next c ho hm hr X s' r (v.phase hm h1 h2 hG))
    left
    cases hcl : m.cls with
    | E =>
      rw [hcl] at hst
      obtain ⟨hE, _, T1, hs⟩ := hst
      exact quietly Tc (by rw [hcl]; simp) (by rw [hcl]; simp) rfl (fun _ => .inl rfl) (step_isE hE hs).2
    | R =>
      rw [hcl] at hst
      obtain ⟨hR, _, T1, hs⟩ := hst
      rcases v.ph with ⟨p1, p2, p3, p4⟩ | ⟨l, b, hb, hbl, hbd, hmax, hTc⟩
      · have hseen : seenAt ms j = false := by
          cases hh : seenAt ms j with
          | false => rfl
          | true =>
            exfalso
            simp only [seenAt, List.any_eq_true, decide_eq_true_eq] at hh
            obtain ⟨x, hx, hxL⟩ := hh
            obtain ⟨i, hi⟩ := List.getElem?_of_mem hx
            rw [List.getElem?_take] at hi
            split at hi
            · rename_i hij
              exact p1 i x hi hxL (v.before ho hr (by omega) (c.LR hi hm hij hxL hcl))
            · cases hi
        simp only [hseen, Bool.or_false, Bool.false_eq_true, if_false] at hs
        refine quietly (pad ms T) (by rw [hcl]; simp) (by rw [hcl]; simp) (by simp [pad, p2]) (fun t => ?_) (step_isR c.quiet hR hs).2
        rcases Nat.lt_or_ge t T.length with h | h
        · left; rw [p3 t h]; exact tget_old _ h
        · right
          simp only [pad, tget, List.getElem?_append_right h, List.getElem?_replicate]
          split <;> rfl
      · rcases Nat.lt_trichotomy l j with hlj | hlj | hlj
        · -- what was changed before
          have hseen : seenAt ms j = true := by
            simp only [seenAt, List.any_eq_true, decide_eq_true_eq]
            exact ⟨b, List.mem_of_getElem? (i := l) (by rw [List.getElem?_take, if_pos hlj]; exact hb), hbl⟩
          simp only [hseen, Bool.or_true, if_true] at hs
          have hcon : Ts j = Ts (l + 1) := c.const (by omega) (by omega) fun i x h1 h2 hx => by
            cases hxc : x.cls with
            | E => exact .inl rfl
            | R => exact .inr rfl
            | A => exact (c.LA hb hx (by omega) hbl hxc).elim
            | L => have := hmax i x hx hxc (v.before ho hr (by omega) (c.LR hx hm h2 hxc hcl)); omega
          rw [hcon, ← hTc] at hs
          exact quietly Tc (by rw [hcl]; simp) (by rw [hcl]; simp) rfl (fun _ => .inl rfl) (step_isR c.quiet hR hs).2
        · subst hlj; exact absurd hbd hn
        · -- what is changed behind it
          obtain ⟨o2, ho2, _⟩ := c.op hb
          rcases c.RL hm hb hlj hcl hbl with h | ⟨hstab, hbg, ag, n, x, hmop⟩
          · exact absurd (v.before ho2 (v.closed l o2 ho2 hbd) (by omega) h) hn
          · have hp := (c.tr.pend l b hb hbl (by rw [hbg]; rfl)).2 j m hlj hm hw hcl ⟨ag, n, val (Es j) x, vs j⟩ (by simp [MOper.pend, hstab, hmop])
            have hld : ldv (Ts (l + 1)) ag n (val (Es j) x) = some (vs j) := by
              simp only [Pend.ok] at hp
              split at hp
              · rename_i u hu
                rw [hu, same_eq _ _ _ hp]
              · cases hp
            rw [← hTc] at hld
            exact quietly Tc (by rw [hcl]; simp) (by rw [hcl]; simp) rfl (fun _ => .inl rfl) (by rw [hmop]; simp [stepOp, hld])
    | A =>
      rw [hcl] at hst
      obtain ⟨hA, _, hs⟩ := hst
      obtain ⟨ob, hob, hat⟩ := at_sound hop hA hs
      -- no L is done
      have hnoL : ∀ l b, ms[l]? = some b → b.cls = .L → ¬ Don listed l := fun l b hb hbl hbd => by
        rcases Nat.lt_trichotomy l j with h | h | h
        · exact c.LA hb hm h hbl hcl
        · subst h; exact hn hbd
        · obtain ⟨o2, ho2, _⟩ := c.op hb
          exact hn (v.before ho2 (v.closed l o2 ho2 hbd) (by omega) (c.AL hm hb h hcl hbl))
      rcases v.ph with ⟨p1, p2, p3, p4⟩ | ⟨l, b, hb, hbl, hbd, _, _⟩
      · have hnoLj : ∀ (i : Nat) (b : MOper), i < j → ms[i]? = some b → b.cls ≠ .L := fun i b hi hb hbl => c.LA hb hm hi hbl hcl
        obtain ⟨t1, _, _⟩ := c.tsA (j := j) (by omega) hnoLj
        have hslot : Slot G Tc (Ts j).length := by
          rw [t1]
          rcases p4 j m hm hcl with ⟨h, _⟩ | ⟨_, h⟩
          · exact absurd h hn
          · exact h
        refine hat v.sim he (fun x hx => hval x hx) hslot (by omega) _ Q fun cv w' hres => ?_
        obtain ⟨G', X, s', r, hG⟩ := hres
        refine hK _ _ G' _ (v.next c ho hm hr X s' r (.inl ⟨fun i b hb hbl h => ?_, by simpa using p2, fun t ht => ?_, fun i b hb hbA => ?_⟩))
        · rcases don_set.1 h with ⟨rfl, _⟩ | h
          · rw [hm] at hb; cases hb; rw [hcl] at hbl; cases hbl
          · exact p1 i b hb hbl h
        · rw [tget_set_ne Tc _ (by omega)]; exact p3 t ht
        · by_cases e : i = j
          · subst e
            refine .inl ⟨don_set.2 (.inl ⟨rfl, hjd⟩), ?_⟩
            rw [← t1, tget_set_same _ hslot.lt, hob, tget_new]
          · have hne : T.length + nA (ms.take i) ≠ (Ts j).length := by
              rw [t1]
              have h1 := nA_take_succ hb
              have h2 := nA_take_succ hm
              rw [if_pos hbA] at h1
              rw [if_pos hcl] at h2
              rcases Nat.lt_or_ge i j with h | h
              · have := nA_mono (ms := ms) (i := i + 1) (j := j) (by omega); omega
              · have := nA_mono (ms := ms) (i := j + 1) (j := i) (by omega); omega
            rw [tget_set_ne Tc _ hne]
            have hd2 : Don (listed.setIfInBounds j true) i ↔ Don listed i := by
              rw [don_set]
              exact ⟨fun h => h.resolve_left fun h => e h.1, .inr⟩
            rw [hd2]
            rcases p4 i b hb hbA with h | ⟨h, hs⟩
            · exact .inl h
            · obtain ⟨g1, g2, g3⟩ := hG _ hne
              exact .inr ⟨h, by rw [tget_set_ne Tc _ hne]; exact hs.dead, by simpa using hs.lt, g2.trans hs.box, g3.trans hs.mp, fun g => (g1 g).trans (hs.loc g)⟩
      · exact absurd hbd (hnoL l b hb hbl)
    | L =>
      rw [hcl] at hst
      obtain ⟨hTc, hmax⟩ := v.readyL c ho hm hr hn hcl
      have hs : stepOp call lo (Es j) Tc m.op = some (vs j, Ts (j + 1)) := by rw [hTc]; exact hst
      rw [step_congr (E := Es j) (E' := restrict (usesOf m) (Es j)) fun x hx => (hval x hx).symm] at hs
      refine op_sound (c.ok lo) v.sim hlo he hop hs _ Q fun cv w' hres => ?_
      obtain ⟨G', X, s', r⟩ := hres
      exact hK _ _ G' _ (v.next c ho hm hr X s' r (.inr ⟨j, m, hm, hcl, don_set.2 (.inl ⟨rfl, hjd⟩), hmax, rfl⟩))

/-- All is done. -/
theorem Inv.fin (c : Ctx P call q lo nt ms ops T E E' T' Es Ts vs) (v : Inv lo nt ms ops G0 T w0 E Ts vs listed a w G Tc) (hall : ∀ j, j < ms.length → Don listed j) : St lo nt G0 (pad ms T) w0 E' T' a w := by
  have hlt : ∀ {i : Nat} {b : MOper}, ms[i]? = some b → i < ms.length := fun h => (List.getElem?_eq_some_iff.1 h).1
  have hTc : Tc = Ts ms.length := v.atL c (Nat.le_refl _) (fun i b hi hb _ => hall i hi) (fun i b hi hb _ => by have := hlt hb; omega) fun i b hb _ => ⟨hall i (hlt hb), hlt hb⟩
  rw [c.tr.Tn] at hTc
  subst hTc
  refine ⟨G, v.ext, v.sim, fun t => ?_, v.nt, v.df⟩
  rw [← c.tr.En]
  by_cases hw : ∃ (i : Nat) (b : MOper), ms[i]? = some b ∧ b.dst = some t
  · obtain ⟨i, b, hb, hd⟩ := hw
    rw [c.es1 hb hd (hlt hb) (Nat.le_refl _)]
    exact v.i1 i b t hb hd (hall i (hlt hb))
  · rw [c.es2 (fun i b _ hb hd => hw ⟨i, b, hb, hd⟩) (Nat.le_refl _)]
    exact v.i2 t fun i b hb hd => absurd ⟨i, b, hb, hd⟩ hw

theorem draw_any (c : Ctx P call q lo nt ms ops T E E' T' Es Ts vs) (hT0 : lo ≤ T.length) (hQ : ∀ a' w', St lo nt G0 (pad ms T) w0 E' T' a' w' → Q .normal a' w') : ∀ (fuel : Nat) (listed : Array Bool) (a : Act) (w : World) (G : Gh) (Tc : Tab),
    Inv lo nt ms ops G0 T w0 E Ts vs listed a w G Tc → ((List.range ops.size).filter fun i => !listed.getD i true).length ≤ fuel → wpAny P .any ops Q fuel listed a w := by
  have alldone : ∀ (listed : Array Bool), listed.size = ops.size → Region.ready .any ops listed = [] → ∀ j, j < ms.length → Don listed j := by
    intro listed hsz hr j
    induction j using Nat.strongRecOn with
    | _ j ih =>
      intro hj
      have hjs : j < ops.size := by rw [← c.len]; exact hj
      refine Classical.byContradiction fun hn => ?_
      have : j ∈ Region.ready .any ops listed := by
        rw [mem_ready]
        refine ⟨?_, ops[j], Array.getElem?_eq_getElem hjs, fun e he hb => ?_⟩
        · unfold Don at hn
          have hjl : j < listed.size := by omega
          simp only [Array.getD_eq_getD_getElem?, Array.getElem?_eq_getElem hjl, Option.getD_some] at hn ⊢
          simpa using hn
        · have := c.edge (Array.getElem?_eq_getElem hjs) he hb
          exact ih e.on this (by omega)
      rw [hr] at this
      cases this
  intro fuel
  induction fuel with
  | zero =>
    intro listed a w G Tc v hleft
    have hr : Region.ready .any ops listed = [] := by
      refine List.eq_nil_iff_forall_not_mem.2 fun j hj => ?_
      obtain ⟨h0, o, ho, _⟩ := mem_ready.1 hj
      have : j ∈ (List.range ops.size).filter fun i => !listed.getD i true := List.mem_filter.2 ⟨List.mem_range.2 (Array.getElem?_eq_some_iff.1 ho).1, by rw [h0]; rfl⟩
      have := List.length_pos_of_mem this
      omega
    exact ⟨hr, hQ a w (v.fin c (alldone listed v.size hr))⟩
  | succ fuel ih =>
    intro listed a w G Tc v hleft
    refine ⟨fun hr => hQ a w (v.fin c (alldone listed v.size hr)), fun j hj => ?_⟩
    obtain ⟨h0, o, ho, hr⟩ := mem_ready.1 hj
    obtain ⟨hjl, hn⟩ := not_don h0
    refine v.run c hT0 ho (fun e he hb => hr e he hb) hn fun a' w' G' Tc' v' => ih _ a' w' G' Tc' v' ?_
    have := filter_lt (l := List.range ops.size) (p := fun i => !listed.getD i true) (p' := fun i => !(listed.setIfInBounds j true).getD i true) (fun i _ hi => by
      by_cases e : j = i
      · subst e; simp [hjl] at hi
      · rw [getD_set_ne true e] at hi; exact hi) ⟨j, List.mem_range.2 (Array.getElem?_eq_some_iff.1 ho).1, by rw [h0]; rfl, by simp [hjl]⟩
    omega
end

/-- Places are held free. -/
theorem pad_sim {G : Gh} {T : Tab} {w : World} (s : Sim G T w) (ms : List MOper) (lo : Nat) (hlo : lo ≤ T.length) : Ext lo G T w G (pad ms T) w ∧ Sim G (pad ms T) w ∧ ∀ k, k < nA ms → Slot G (pad ms T) (T.length + k) := by
  have old : ∀ t, t < T.length → tget (pad ms T) t = tget T t := fun t h => tget_old _ h
  have new : ∀ t, T.length ≤ t → tget (pad ms T) t = .dead := fun t h => by
    simp only [pad, tget, List.getElem?_append_right h, List.getElem?_replicate]
    split <;> rfl
  have tg : ∀ t, tget (pad ms T) t = tget T t := fun t => by
    rcases Nat.lt_or_ge t T.length with h | h
    · exact old t h
    · rw [new t h, tget_beyond h]
  have ow : ∀ t b, own G (pad ms T) t b ↔ own G T t b := fun t b => by unfold own; rw [tg]
  refine ⟨?_, ?_, fun k hk => ⟨new _ (by omega), by simp [pad]; omega, (s.dom _ (by omega)).1, (s.dom _ (by omega)).2.1, (s.dom _ (by omega)).2.2⟩⟩
  · exact ⟨fun _ _ _ h => h, fun _ _ h => h, fun _ _ h => h, fun _ h => h, fun _ _ _ => rfl, fun t _ => tg t, by simp [pad], Nat.le_refl _, fun _ _ _ => rfl, fun t b h _ => (ow t b).1 h, rfl, rfl, rfl, fun _ h _ => .inl h, fun _ _ => rfl, fun _ _ => rfl⟩
  · exact ⟨fun t g es h => s.arr t g es (by rw [← tg]; exact h), fun t cs h => s.box t cs (by rw [← tg]; exact h), fun t kvs h => s.map t kvs (by rw [← tg]; exact h),
      fun t t' b h h' => s.inj t t' b ((ow t b).1 h) ((ow t' b).1 h'), fun t ht => s.dom t (by simp [pad] at ht; omega), s.fzb⟩

theorem draw_sound {P : Program} {call : CallA} {q : Nat → Bool} {lo nt : Nat} {ms : List MOper} {ops : Array Oper} {T : Tab} {E E' : Env} {T' : Tab} {G : Gh} {w : World} {a : Act} {Q : Exit → Act → World → Prop} {id : Nat}
    (hmix : P.follows .mixedOrders = true) (ok : ∀ lo, CallOK P call lo) (hq : QuietOK call q) (hchk : chkOpers P nt ops.toList ms ops.toList = true) (hdr : chkDraw ms ops.toList = true) (hr : runD call q lo (pad ms T) ms false [] E T = some (E', T'))
    (s : Sim G T w) (hlo : lo ≤ T.length) (he : EnvR G w E a) (hnt : nt ≤ a.tmps.size) (hdf : a.defers = []) (hQ : ∀ a' w', St lo nt G T w E' T' a' w' → Q .normal a' w') : (Code.region id ops true).wp P Q a w := by
  obtain ⟨Es, Ts, vs, tr⟩ := trace ms false [] E T E' T' hr
  have c : Ctx P call q lo nt ms ops T E E' T' Es Ts vs := ⟨ok, hq, hchk, hdr, tr, hlo⟩
  obtain ⟨X0, s0, hslots⟩ := pad_sim s ms lo hlo
  obtain ⟨X1, s1⟩ := same_heap (w' := { w with drawn := w.drawn + 1 }) s0 lo rfl rfl rfl rfl
  have X := X0.trans X1
  refine wp_region_any hmix ?_
  have none : ∀ j, ¬ Don (Array.replicate ops.size false) j := fun j h => by
    unfold Don at h
    rcases Nat.lt_or_ge j ops.size with hj | hj
    · simp [hj] at h
    · simp [Array.getElem?_eq_none, hj] at h
  refine draw_any (G0 := G) (w0 := { w with drawn := w.drawn + 1 }) c hlo (fun a' w' hst => hQ a' w' ?_) ops.size _ a _ G (pad ms T) ⟨by simp, fun j o _ h => absurd h (none j), hnt, hdf, .refl _ _ _ _, s1, fun i m d _ _ h => absurd h (none i), fun t _ => (he t).ext s X, .inl ⟨fun j m _ _ => none j, by simp [pad], fun t ht => tget_old _ ht, fun j m hm hA => .inr ⟨none j, ?_⟩⟩⟩ ?_
  · obtain ⟨G', Y, s', he', h1, h2⟩ := hst
    exact ⟨G', X.trans Y, s', he', h1, h2⟩
  · refine hslots _ ?_
    have h1 := nA_take_succ hm
    rw [if_pos hA] at h1
    have h2 := nA_mono (ms := ms) (i := j + 1) (j := ms.length) (List.getElem?_eq_some_iff.1 hm).1
    rw [nA_full] at h2
    omega
  · exact Nat.le_trans (List.length_filter_le _ _) (by simp)
end Go.Proofs.Ytlilfiekkaolkaa.Am
