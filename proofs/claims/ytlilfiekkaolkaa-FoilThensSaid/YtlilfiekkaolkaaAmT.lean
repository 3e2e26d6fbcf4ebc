/- Regions whose order is open, third part: whatever the order, the same is reached. -/
import Derived.Test.YtlilfiekkaolkaaAmS
set_option linter.unusedVariables false
set_option linter.unusedSimpArgs false
namespace Go.Proofs.Ytlilfiekkaolkaa.Am
open Go

theorem all2_eq {f : AV → AV → Bool} (h : ∀ v u, f v u = true → v = u) : ∀ {l l' : List AV}, all2 f l l' = true → l = l'
  | [], [], _ => rfl
  | a :: l, b :: l', hh => by
    simp only [all2, Bool.and_eq_true] at hh
    rw [h a b hh.1, all2_eq h hh.2]
  | [], _ :: _, hh => by cases hh
  | _ :: _, [], hh => by cases hh

theorem same_eq : ∀ (d : Nat) (v u : AV), same d v u = true → v = u
  | 0, v, u, h => by cases h
  | d + 1, v, u, h => by
    unfold same at h
    split at h
    · simp only [Bool.and_eq_true, decide_eq_true_eq] at h; obtain ⟨rfl, rfl⟩ := h; rfl
    · simp only [beq_iff_eq] at h; subst h; rfl
    · simp only [Bool.and_eq_true, decide_eq_true_eq] at h
      obtain ⟨⟨rfl, rfl⟩, h⟩ := h
      rw [all2_eq (same_eq d) h]
    · simp only [Bool.and_eq_true, decide_eq_true_eq, beq_iff_eq] at h
      obtain ⟨⟨⟨⟨⟨rfl, rfl⟩, rfl⟩, rfl⟩, rfl⟩, rfl⟩ := h
      rfl
    · simp only [Bool.and_eq_true, decide_eq_true_eq] at h; obtain ⟨rfl, rfl⟩ := h; rfl
    · cases h

theorem filter_lt {α : Type} {p p' : α → Bool} : ∀ {l : List α}, (∀ i ∈ l, p' i = true → p i = true) → (∃ j ∈ l, p j = true ∧ p' j = false) → (l.filter p').length < (l.filter p).length
  | [], _, h => by obtain ⟨j, hj, _⟩ := h; cases hj
  | a :: l, h1, h2 => by
    have le : ∀ l : List α, (∀ i ∈ l, p' i = true → p i = true) → (l.filter p').length ≤ (l.filter p).length := by
      intro l
      induction l with
      | nil => intro _; simp
      | cons b l ih =>
        intro h
        have := ih fun i hi => h i (List.mem_cons_of_mem _ hi)
        have hb := h b List.mem_cons_self
        cases e : p' b with
        | false => cases e2 : p b <;> simp [List.filter_cons, e, e2] <;> omega
        | true => simp only [List.filter_cons, e, hb e, if_true, List.length_cons]; omega
    obtain ⟨j, hj, hp, hp'⟩ := h2
    have hl := le l fun i hi => h1 i (List.mem_cons_of_mem _ hi)
    have ha := h1 a List.mem_cons_self
    rcases List.mem_cons.1 hj with rfl | hj
    · simp only [List.filter_cons, hp, hp', if_true, List.length_cons, Bool.false_eq_true, if_false]; omega
    · have := filter_lt (fun i hi => h1 i (List.mem_cons_of_mem _ hi)) ⟨j, hj, hp, hp'⟩
      cases e : p' a with
      | false => cases e2 : p a <;> simp [List.filter_cons, e, e2] <;> omega
      | true => simp only [List.filter_cons, e, ha e, if_true, List.length_cons]; omega

theorem tab_ext {T1 T2 : Tab} (hl : T1.length = T2.length) (h : ∀ t, t < T1.length → tget T1 t = tget T2 t) : T1 = T2 := by
  apply List.ext_getElem? fun t => ?_
  rcases Nat.lt_or_ge t T1.length with ht | ht
  · have := h t ht
    simp only [tget, List.getElem?_eq_getElem ht, List.getElem?_eq_getElem (hl ▸ ht), Option.getD_some] at this ⊢
    rw [this]
  · rw [List.getElem?_eq_none ht, List.getElem?_eq_none (hl ▸ ht)]

/-! ### Places -/
theorem nA_take_succ {ms : List MOper} {j : Nat} {m : MOper} (h : ms[j]? = some m) : nA (ms.take (j + 1)) = nA (ms.take j) + if m.cls = .A then 1 else 0 := by
  induction ms generalizing j with
  | nil => simp at h
  | cons a ms ih =>
    cases j with
    | zero => simp at h; subst h; simp [nA]
    | succ j =>
      simp at h
      have := ih h
      simp only [List.take_succ_cons, nA, this]
      omega
theorem nA_mono {ms : List MOper} : ∀ {i j : Nat}, i ≤ j → nA (ms.take i) ≤ nA (ms.take j) := by
  intro i j h
  induction h with
  | refl => exact Nat.le_refl _
  | step h ih =>
    rename_i k
    cases hm : ms[k]? with
    | none =>
      have : ms.length ≤ k := by simpa using hm
      rw [List.take_of_length_le (Nat.le_succ_of_le this)]
      rw [List.take_of_length_le this] at ih
      exact ih
    | some m => rw [nA_take_succ hm]; omega
theorem nA_full (ms : List MOper) : nA (ms.take ms.length) = nA ms := by simp
/-- Every place below is that of an operation ahead. -/
theorem nA_surj {ms : List MOper} : ∀ {j k : Nat}, j ≤ ms.length → k < nA (ms.take j) → ∃ i m, i < j ∧ ms[i]? = some m ∧ m.cls = .A ∧ nA (ms.take i) = k
  | 0, k, _, h => by simp [nA] at h
  | j + 1, k, hj, h => by
    have hm : ms[j]? = some ms[j] := List.getElem?_eq_getElem (by omega)
    rw [nA_take_succ hm] at h
    rcases Nat.lt_or_ge k (nA (ms.take j)) with hk | hk
    · obtain ⟨i, m, hi, h1, h2, h3⟩ := nA_surj (by omega) hk
      exact ⟨i, m, by omega, h1, h2, h3⟩
    · split at h
      · rename_i hA
        exact ⟨j, ms[j], by omega, hm, hA, by omega⟩
      · omega

/-! ### Operations that change nothing -/
section
variable {P : Program} {G G' : Gh} {T T' T1 : Tab} {w w' : World} {E : Env} {a : Act} {o : Oper} {call : CallA} {lo : Nat} {v : AV}

/-- Some of the objects alone. -/
theorem Sim.sub (s : Sim G T w) (hl : T1.length = T.length) (h : ∀ t, tget T1 t = tget T t ∨ tget T1 t = .dead) : Sim G T1 w := by
  have hg : ∀ t ob, tget T1 t = ob → ob ≠ .dead → tget T t = ob := fun t ob h1 h2 => by
    rcases h t with h3 | h3
    · rw [← h3]; exact h1
    · exact absurd (h1.symm.trans h3) h2
  have ho : ∀ t b, own G T1 t b → own G T t b := fun t b h1 => by
    rcases h t with h3 | h3
    · unfold own at h1 ⊢; rw [h3] at h1; exact h1
    · unfold own at h1; rw [h3] at h1; exact h1.elim
  exact ⟨fun t g es h1 => s.arr t g es (hg t _ h1 (by simp)), fun t cs h1 => s.box t cs (hg t _ h1 (by simp)), fun t kvs h1 => s.map t kvs (hg t _ h1 (by simp)),
    fun t t' b h1 h2 => s.inj t t' b (ho t b h1) (ho t' b h2), fun t ht => s.dom t (by omega), s.fzb⟩

/-- What a quiet operation leads to. -/
def ResQ (lo : Nat) (G : Gh) (T : Tab) (w : World) (v : AV) : Value → World → Prop := fun cv w' =>
  ∃ G', Ext lo G T w G' T w' ∧ Sim G' T w' ∧ RV G' w' v cv ∧ ∀ t, t < T.length → (∀ g, G'.loc t g = G.loc t g) ∧ G'.box t = G.box t ∧ G'.mp t = G.mp t

theorem quiet (s : Sim G T w) (hl : T1.length = T.length) {cv : Value} (hlo : lo ≤ T.length) (h : Res T1.length G T1 w T1 v cv w') : ResQ lo G T w v cv w' := by
  obtain ⟨G', X, s1, r⟩ := h
  have k : Kept G T w G' w' := {
    loc := fun t g ht => X.lowl t g (by omega)
    box := fun t ht => X.lowb t (by omega)
    mp := fun t ht => X.lowm t (by omega)
    fz := X.fz
    fz' := fun b h hb => by
      rcases X.fz' b h hb with h | ⟨t, ht, ho⟩
      · exact h
      · exact (not_own_beyond ht ho).elim
    heap := fun b hb => X.keep b hb fun t ht => not_own_beyond ht
    size := X.size
    os := X.os
    tape := X.tape
    output := X.output }
  have XE : Ext lo G T w G' T w' := k.ext s (fun _ _ => rfl) (Nat.le_refl _) (fun t b ht ho => (not_own_beyond ht ho).elim) hlo
  obtain ⟨o1, o2, o3⟩ := k.objs s XE
  have oi := fun {t b : Nat} (ho : own G' T t b) => (k.own_iff (fun _ _ => rfl) (own_lt ho)).1 ho
  exact ⟨G', XE, ⟨o1, o2, o3, fun t t' b h h' => s.inj t t' b (oi h) (oi h'), fun t ht => s1.dom t (by omega), s1.fzb⟩, r, fun t ht => ⟨fun g => k.loc t g ht, k.box t ht, k.mp t ht⟩⟩

theorem quiet_op (ok : ∀ lo, CallOK P call lo) (s : Sim G T w) (hlo : lo ≤ T.length) (he : EnvR G w E a) (hl : T1.length = T.length) (hs1 : ∀ t, tget T1 t = tget T t ∨ tget T1 t = .dead) {m : MOp} (hc : chkOp P m o = true)
    (hs : stepOp call T1.length E T1 m = some (v, T1)) : OpOK P o a w (ResQ lo G T w v) :=
  OpOK.mono (op_sound (ok _) (s.sub hl hs1) (Nat.le_refl _) he hc hs) fun cv w' h => quiet s hl hlo h

/-- What is known of calls that only read. -/
structure QuietOK (call : CallA) (q : Nat → Bool) : Prop where
  lo : ∀ f lo lo' args T, q f = true → call lo f args T = call lo' f args T
  tab : ∀ f lo args T v T', q f = true → call lo f args T = some (v, T') → T' = T

theorem step_isR {q : Nat → Bool} (hq : QuietOK call q) {lo' : Nat} {m : MOp} (hR : m.isR q E = true) (h : stepOp call lo E T m = some (v, T')) : T' = T ∧ stepOp call lo' E T m = some (v, T) := by
  cases m <;> simp only [MOp.isR, Bool.false_eq_true] at hR <;> simp only [stepOp] at h ⊢
  case ld => simp only [Option.map_eq_some_iff, Prod.mk.injEq] at h ⊢; obtain ⟨u, hu, rfl, rfl⟩ := h; exact ⟨rfl, u, hu, by simp⟩
  case lkp =>
    split at h
    · split at h
      · split at h
        · cases h; simp_all
        · cases h
      · cases h
    · cases h
  case call f xs =>
    have := hq.tab _ _ _ _ _ _ hR h
    subst this
    exact ⟨rfl, by rw [hq.lo f lo' lo _ _ hR]; exact h⟩
  case callv f xs =>
    split at h
    · rename_i g fs cs hf
      rw [hf] at hR
      simp only at hR
      have := hq.tab _ _ _ _ _ _ hR h
      subst this
      exact ⟨rfl, by rw [hq.lo g lo' lo _ _ hR]; exact h⟩
    · cases h

/-- An operation that makes one object, in whatever place. -/
theorem at_sound {m : MOp} (hc : chkOp P m o = true) (hA : m.isA E = true) (h : stepOp call lo E T m = some (v, T')) :
    ∃ ob, T' = T ++ [ob] ∧ ∀ {G Tc w a E1}, Sim G Tc w → EnvR G w E1 a → (∀ x ∈ m.opds, val E1 x = val E x) → Slot G Tc T.length → lo ≤ T.length → OpOK P o a w (ResU lo G Tc w (Tc.set T.length ob) v T.length) := by
  cases m <;> simp only [MOp.isA, Bool.false_eq_true] at hA
  case alloc z toks =>
    cases toks with
    | nil =>
      simp only [stepOp, toksInto, Option.some.injEq, Prod.mk.injEq] at h
      obtain ⟨rfl, rfl⟩ := h
      exact ⟨_, rfl, fun s he _ hs hlo => at_alloc s hs hlo hc⟩
    | cons => simp [MOp.isA] at hA
  case mksl n z l =>
    simp only [stepOp] at h
    split at h
    · rename_i k hk
      split at h
      · rename_i hb
        simp only [Option.some.injEq, Prod.mk.injEq] at h
        obtain ⟨rfl, rfl⟩ := h
        exact ⟨_, rfl, fun s he hv hs hlo => at_mksl s he hs hlo hc (by rw [hv l (by simp [MOp.opds])]; exact hk) hb.1 hb.2⟩
      · cases h
    · cases h
  case app n x y =>
    split at hA
    · rename_i n1 nl n2 es hx hy
      simp only [stepOp, hx, hy, rd, esz] at h
      split at h
      · rename_i hb
        obtain ⟨rfl, rfl, hlen⟩ := hb
        simp only [Option.some.injEq, Prod.mk.injEq] at h
        obtain ⟨rfl, rfl⟩ := h
        refine ⟨_, rfl, fun s he hv hs hlo => at_app s he hs hlo hc ?_ ?_ ?_ hlen⟩
        · rw [hv x (by simp [MOp.opds])]; exact hx
        · rw [hv y (by simp [MOp.opds]), hy]; rfl
        · rw [hv y (by simp [MOp.opds]), hy]; rfl
      · cases h
    · cases hA
end
end Go.Proofs.Ytlilfiekkaolkaa.Am
