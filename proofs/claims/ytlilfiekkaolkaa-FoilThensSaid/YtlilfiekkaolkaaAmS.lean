/- Regions whose order is open, second part: the trace of a run, the static check. -/
import Derived.Test.YtlilfiekkaolkaaAmR
set_option linter.unusedVariables false
set_option linter.unusedSimpArgs false
namespace Go.Proofs.Ytlilfiekkaolkaa.Am
open Go

/-- Does an operation that changes memory stand ahead? -/
def seenAt (ms : List MOper) (j : Nat) : Bool := (ms.take j).any fun m => decide (m.cls = .L)

/-- One step of a run. -/
def StepAt (call : CallA) (q : Nat → Bool) (lo : Nat) (T0 : Tab) (seen : Bool) (E : Env) (T : Tab) (m : MOper) (v : AV) (T' : Tab) : Prop :=
  (wants E m.guard = some false ∧ v = .tup [] ∧ T' = T) ∨
  (wants E m.guard = some true ∧ match m.cls with
    | .E => m.op.isE = true ∧ T' = T ∧ ∃ T1, stepOp call lo E T m.op = some (v, T1)
    | .R => m.op.isR q E = true ∧ T' = T ∧ ∃ T1, stepOp call lo E (if seen then T else T0) m.op = some (v, T1)
    | .A => m.op.isA E = true ∧ seen = false ∧ stepOp call lo E T m.op = some (v, T')
    | .L => stepOp call lo E T m.op = some (v, T'))

structure Trace (call : CallA) (q : Nat → Bool) (lo : Nat) (T0 : Tab) (ms : List MOper) (seen : Bool) (pd : List Pend) (E : Env) (T : Tab) (E' : Env) (T' : Tab) (Es : Nat → Env) (Ts : Nat → Tab) (vs : Nat → AV) : Prop where
  E0 : Es 0 = E
  t0 : Ts 0 = T
  En : Es ms.length = E'
  Tn : Ts ms.length = T'
  env : ∀ j m, ms[j]? = some m → Es (j + 1) = put (Es j) m.dst (vs j)
  step : ∀ j m, ms[j]? = some m → StepAt call q lo T0 (seen || seenAt ms j) (Es j) (Ts j) m (vs j) (Ts (j + 1))
  pend : ∀ j m, ms[j]? = some m → m.cls = .L → wants (Es j) m.guard = some true →
    (∀ p ∈ pd, Pend.ok (Ts (j + 1)) p = true) ∧ ∀ i m', i < j → ms[i]? = some m' → wants (Es i) m'.guard = some true → m'.cls = .R → ∀ p ∈ m'.pend (Es i) (vs i), Pend.ok (Ts (j + 1)) p = true

theorem trace {call : CallA} {q : Nat → Bool} {lo : Nat} {T0 : Tab} : ∀ (ms : List MOper) (seen : Bool) (pd : List Pend) (E : Env) (T : Tab) (E' : Env) (T' : Tab), runD call q lo T0 ms seen pd E T = some (E', T') →
    ∃ Es Ts vs, Trace call q lo T0 ms seen pd E T E' T' Es Ts vs
  | [], seen, pd, E, T, E', T', h => by
    simp only [runD, Option.some.injEq, Prod.mk.injEq] at h
    obtain ⟨rfl, rfl⟩ := h
    exact ⟨fun _ => E, fun _ => T, fun _ => .unk, rfl, rfl, rfl, rfl, fun j m h => by simp at h, fun j m h => by simp at h, fun j m h => by simp at h⟩
  | m :: ms, seen, pd, E, T, E', T', h => by
    -- what is behind the first
    have glue : ∀ (seen1 : Bool) (pd1 : List Pend) (v : AV) (T1 : Tab), runD call q lo T0 ms seen1 pd1 (put E m.dst v) T1 = some (E', T') → seen1 = (seen || decide (m.cls = .L)) →
        StepAt call q lo T0 seen E T m v T1 → (∀ p ∈ pd, p ∈ pd1) → (wants E m.guard = some true → m.cls = .R → ∀ p ∈ m.pend E v, p ∈ pd1) → (m.cls = .L → wants E m.guard = some true → ∀ p ∈ pd, Pend.ok T1 p = true) →
        ∃ Es Ts vs, Trace call q lo T0 (m :: ms) seen pd E T E' T' Es Ts vs := by
      intro seen1 pd1 v T1 hr hseen hst hpd hpd2 hL
      obtain ⟨Es, Ts, vs, tr⟩ := trace ms seen1 pd1 _ T1 E' T' hr
      refine ⟨fun | 0 => E | j + 1 => Es j, fun | 0 => T | j + 1 => Ts j, fun | 0 => v | j + 1 => vs j, rfl, rfl, by simpa using tr.En, by simpa using tr.Tn, fun j x hx => ?_, fun j x hx => ?_, fun j x hx hc hw => ?_⟩
      · cases j with
        | zero => simp at hx; subst hx; exact tr.E0
        | succ j => exact tr.env j x (by simpa using hx)
      · cases j with
        | zero => simp at hx; subst hx; simpa [seenAt, tr.t0] using hst
        | succ j =>
          have := tr.step j x (by simpa using hx)
          rw [hseen, Bool.or_assoc] at this
          simpa [seenAt] using this
      · cases j with
        | zero =>
          simp at hx
          subst hx
          refine ⟨fun p hp => ?_, fun i m' hi => by omega⟩
          have := hL hc hw p hp
          rw [← tr.t0] at this
          exact this
        | succ j =>
          obtain ⟨p1, p2⟩ := tr.pend j x (by simpa using hx) hc hw
          refine ⟨fun p hp => p1 p (hpd p hp), fun i m' hi hm' hw' hc' p hp => ?_⟩
          cases i with
          | zero => simp at hm'; subst hm'; exact p1 p (hpd2 hw' hc' p hp)
          | succ i => exact p2 i m' (by omega) (by simpa using hm') hw' hc' p hp
    simp only [runD] at h
    split at h
    · cases h
    · rename_i hw
      exact glue _ _ _ _ h rfl (.inl ⟨hw, rfl, rfl⟩) (fun p hp => hp) (fun h => by rw [hw] at h; cases h) (fun _ h => by rw [hw] at h; cases h)
    · rename_i hw
      cases hc : m.cls with
      | E =>
        rw [hc] at h
        simp only at h
        split at h
        · rename_i hE
          split at h
          · rename_i v T1 hs
            exact glue _ _ v T h (by simp [hc]) (.inr ⟨hw, by rw [hc]; exact ⟨hE, rfl, T1, hs⟩⟩) (fun p hp => hp) (fun _ h => by rw [hc] at h; cases h) (fun h => by rw [hc] at h; cases h)
          · cases h
        · cases h
      | R =>
        rw [hc] at h
        simp only at h
        split at h
        · rename_i hR
          split at h
          · rename_i v T1 hs
            exact glue _ _ v T h (by simp [hc]) (.inr ⟨hw, by rw [hc]; exact ⟨hR, rfl, T1, hs⟩⟩) (fun p hp => List.mem_append_right _ hp) (fun _ _ p hp => List.mem_append_left _ hp) (fun h => by rw [hc] at h; cases h)
          · cases h
        · cases h
      | A =>
        rw [hc] at h
        simp only at h
        split at h
        · rename_i hA
          simp only [Bool.and_eq_true, Bool.not_eq_true'] at hA
          split at h
          · rename_i v T1 hs
            exact glue _ _ v T1 h (by simp [hc]) (.inr ⟨hw, by rw [hc]; exact ⟨hA.1, hA.2, hs⟩⟩) (fun p hp => hp) (fun _ h => by rw [hc] at h; cases h) (fun h => by rw [hc] at h; cases h)
          · cases h
        · cases h
      | L =>
        rw [hc] at h
        simp only at h
        split at h
        · rename_i v T1 hs
          split at h
          · rename_i hp
            exact glue _ _ v T1 h (by simp [hc]) (.inr ⟨hw, by rw [hc]; exact hs⟩) (fun p hp => hp) (fun _ h => by rw [hc] at h; cases h) (fun _ _ p hpp => List.all_eq_true.1 hp p hpp)
          · cases h
        · cases h

/-! ### What comes before what -/
def maskOf (acc : List Nat) (o : Oper) : Nat := o.after.toList.foldl (fun s e => if Region.binds .any e then s ||| 2 ^ e.on ||| acc.getD e.on 0 else s) 0
def masks : List Oper → List Nat → List Nat
  | [], acc => acc
  | o :: r, acc => masks r (acc ++ [maskOf acc o])

theorem foldl_mask {acc : List Nat} {i : Nat} : ∀ (l : List Edge) (s : Nat), (l.foldl (fun s e => if Region.binds .any e then s ||| 2 ^ e.on ||| acc.getD e.on 0 else s) s).testBit i = true →
    s.testBit i = true ∨ ∃ e ∈ l, Region.binds .any e = true ∧ (e.on = i ∨ (acc.getD e.on 0).testBit i = true)
  | [], s, h => .inl h
  | e :: l, s, h => by
    rw [List.foldl_cons] at h
    rcases foldl_mask l _ h with h | ⟨e', he', h⟩
    · split at h
      · rename_i hb
        rw [Nat.testBit_or, Nat.testBit_or, Bool.or_eq_true, Bool.or_eq_true, Nat.testBit_two_pow] at h
        rcases h with (h | h) | h
        · exact .inl h
        · exact .inr ⟨e, List.mem_cons_self, hb, .inl (by simpa using h)⟩
        · exact .inr ⟨e, List.mem_cons_self, hb, .inr h⟩
      · exact .inl h
    · exact .inr ⟨e', List.mem_cons_of_mem _ he', h⟩

theorem masks_spec : ∀ (r : List Oper) (acc : List Nat) (pre : List Oper), acc.length = pre.length →
    (∀ j o, pre[j]? = some o → ∀ i, (acc.getD j 0).testBit i = true → ∃ e ∈ o.after.toList, Region.binds .any e = true ∧ (e.on = i ∨ (e.on < j ∧ (acc.getD e.on 0).testBit i = true))) →
    ∀ j o, (pre ++ r)[j]? = some o → ∀ i, ((masks r acc).getD j 0).testBit i = true → ∃ e ∈ o.after.toList, Region.binds .any e = true ∧ (e.on = i ∨ (e.on < j ∧ ((masks r acc).getD e.on 0).testBit i = true))
  | [], acc, pre, _, h => by simpa [masks] using h
  | o :: r, acc, pre, hl, h => by
    have := masks_spec r (acc ++ [maskOf acc o]) (pre ++ [o]) (by simp [hl]) fun j x hx i hi => by
      rcases Nat.lt_or_ge j pre.length with hj | hj
      · rw [List.getElem?_append_left hj] at hx
        have e1 : ∀ k, k < acc.length → (acc ++ [maskOf acc o]).getD k 0 = acc.getD k 0 := fun k hk => by simp [List.getElem?_append_left hk]
        rw [e1 j (by omega)] at hi
        obtain ⟨e, he, hb, h'⟩ := h j x hx i hi
        refine ⟨e, he, hb, ?_⟩
        rcases h' with h' | ⟨h1, h2⟩
        · exact .inl h'
        · exact .inr ⟨h1, by rw [e1 _ (by omega)]; exact h2⟩
      · rw [List.getElem?_append_right hj] at hx
        have hj0 : j = pre.length := by
          have := (List.getElem?_eq_some_iff.1 hx).1
          simp at this
          omega
        subst hj0
        simp at hx
        subst hx
        have e0 : (acc ++ [maskOf acc o]).getD pre.length 0 = maskOf acc o := by simp [← hl]
        rw [e0] at hi
        rcases foldl_mask _ _ hi with hi | ⟨e, he, hb, h'⟩
        · simp at hi
        · refine ⟨e, he, hb, ?_⟩
          rcases h' with h' | h'
          · exact .inl h'
          · have hlt : e.on < acc.length := by
              rcases Nat.lt_or_ge e.on acc.length with h1 | h1
              · exact h1
              · simp [List.getElem?_eq_none h1] at h'
            exact .inr ⟨by omega, by simpa [List.getElem?_append_left hlt] using h'⟩
    simpa [masks] using this

/-- Is i always before j? -/
def isBefore (ms : List Nat) (i j : Nat) : Bool := (ms.getD j 0).testBit i

/-- What has been executed holds what comes before it. -/
theorem before_sound {gops : List Oper} {S : Nat → Prop} (hS : ∀ j o, gops[j]? = some o → S j → ∀ e ∈ o.after.toList, Region.binds .any e = true → S e.on) : ∀ (j i : Nat), j < gops.length → S j → isBefore (masks gops []) i j = true → S i := by
  intro j
  induction j using Nat.strongRecOn with
  | _ j ih =>
    intro i hj hs hb
    obtain ⟨e, he, hbi, h⟩ := masks_spec gops [] [] rfl (fun j o h => by simp at h) j gops[j] (by simp [hj]) i hb
    have h1 := hS j gops[j] (by simp [hj]) hs e he hbi
    rcases h with rfl | ⟨hlt, h⟩
    · exact h1
    · exact ih e.on hlt i (by omega) h1 h

def usesOf (m : MOper) : List Nat := (m.op.opds.filterMap fun | .t n => some n | .c _ => none) ++ (match m.guard with | some (t, _) => [t] | none => [])

/-- Two operations of a region, i and j. -/
def chkPair (mk : List Nat) (i j : Nat) (a b : MOper) : Bool :=
  i == j || (
    -- what j looks at is written before it
    (match a.dst with
     | some d => (!(usesOf b).contains d || ((decide (i < j) && isBefore mk i j) || (decide (j < i) && isBefore mk j i))) && b.dst != some d
     | none => true) &&
    (!decide (i < j) || (match a.cls, b.cls with
      | .R, .L => isBefore mk i j || (a.stab && b.guard == none && (match a.op with | .ld .. => true | _ => false))
      | .L, .R | .L, .L | .A, .L => isBefore mk i j
      | .L, .A => false
      | _, _ => true)))

def chkDraw (ms : List MOper) (gops : List Oper) : Bool :=
  let mk := masks gops []
  (ms.zipIdx.all fun (b, j) => (ms.zipIdx.all fun (a, i) => chkPair mk i j a b) && (decide (b.cls ≠ .A) || b.guard == none)) &&
  gops.zipIdx.all fun (o, j) => o.after.all fun e => !Region.binds .any e || decide (e.on < j)
end Go.Proofs.Ytlilfiekkaolkaa.Am
