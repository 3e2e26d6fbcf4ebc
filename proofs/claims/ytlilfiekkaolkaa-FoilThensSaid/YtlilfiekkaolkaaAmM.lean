/- Operations, seventh part: maps. -/
import Derived.Test.YtlilfiekkaolkaaAmL
set_option linter.unusedVariables false
set_option linter.unusedSimpArgs false
namespace Go.Proofs.Ytlilfiekkaolkaa.Am
open Go
section
variable {P : Program} {G : Gh} {T : Tab} {w : World} {E : Env} {a : Act} {o : Oper} {call : CallA} {lo : Nat}

/-- A key, as the model holds it. -/
def keyVal (kn : Option Nat) (k : List Int) : Value := match kn with
  | none => .int .i64 (k.headD 0)
  | some _ => .agg (k.map (Value.int .i64)).toArray

theorem key_sound {kn : Option Nat} {v : AV} {c : Value} {k : List Int} (r : RV G w v c) (h : keyOf kn v = some k) : c = keyVal kn k ∧ (∀ L, kn = some L → k.length = L) ∧ (kn = none → k.length = 1) := by
  unfold keyOf at h
  split at h
  · cases h; cases r; exact ⟨rfl, fun L h => (by cases h), fun _ => rfl⟩
  · rename_i L cs
    split at h
    · rename_i l hl
      split at h
      · rename_i hL
        cases h
        cases r with
        | agg _ cvs h1 hr =>
          have hv : RVs G w cs cvs.toList := ⟨by simp [h1], fun j x hx => by
            have hj : j < cvs.size := by rw [h1]; exact (List.getElem?_eq_some_iff.1 hx).1
            exact ⟨cvs[j], by simp [hj], hr j x _ hx (Array.getElem?_eq_getElem hj)⟩⟩
          have := ints_of hv hl
          refine ⟨?_, fun L' h => by cases h; exact hL, fun h => by cases h⟩
          simp only [keyVal]
          rw [← this]
      · cases h
    · cases h
  · cases h

theorem run_range (g : Nat → PUnit → Sem (ForInStep PUnit)) : ∀ (l : List Nat), (∀ i ∈ l, (g i ⟨⟩).run P w = .ok (.yield ⟨⟩) w) → (forIn l PUnit.unit g).run P w = .ok ⟨⟩ w
  | [], _ => by simp
  | i :: l, h => by
    rw [List.forIn_cons]
    simp only [Sem.run_bind, h i List.mem_cons_self, Result.andThen_ok]
    exact run_range g l fun j hj => h j (List.mem_cons_of_mem _ hj)

theorem run_part_int {e : TypeId} (hag : aggP P e = some false) (k : List Int) (i : Nat) (hi : i < k.length) : (part e (k.map (Value.int .i64)).toArray i).run P w = .ok (.int .i64 k[i]) w := by
  simp [part, run_isAgg w hag, hi]

theorem chkKey_parts {kn : Option Nat} {kt : TypeId} (h : chkKey P kn kt = true) :
    (kn = none ∧ P.underlying kt = some (.int .i64)) ∨ ∃ n e, kn = some n ∧ P.underlying kt = some (.array n e) ∧ P.underlying e = some (.int .i64) ∧ sizeP P e = some 1 := by
  unfold chkKey at h
  split at h
  · exact .inl ⟨by simpa using h, by assumption⟩
  · rename_i n e hu
    simp only [Bool.and_eq_true, beq_iff_eq] at h
    refine .inr ⟨n, e, h.2, hu, ?_, h.1.2⟩
    have h1 := h.1.1
    split at h1
    · assumption
    · cases h1
  · cases h

theorem run_checkKey {kn : Option Nat} {kt : TypeId} (hk : chkKey P kn kt = true) (k : List Int) (h1 : ∀ L, kn = some L → k.length = L) (b : Bool) : (Instr.checkKey b 10000 kt (keyVal kn k)).run P w = .ok () w := by
  obtain ⟨d, hd⟩ : ∃ d, 10000 = d + 2 := ⟨9998, rfl⟩
  rw [hd]
  rcases chkKey_parts hk with ⟨rfl, hu⟩ | ⟨n, e, rfl, hu, he, hsz⟩
  · simp [Instr.checkKey, keyVal, run_underlying w hu]
  · have hag : aggP P e = some false := by simp [aggP, he]
    have hl := h1 n rfl
    unfold Instr.checkKey
    simp only [Sem.run_bind, run_underlying w hu, Result.andThen_ok, keyVal]
    rw [Std.Legacy.Range.forIn_eq_forIn_range']
    simp only [Std.Legacy.Range.size, Nat.sub_zero, Nat.add_sub_cancel, Nat.div_one]
    rw [run_range _ _ fun i hi => ?_]
    · rfl
    · have hi' : i < k.length := by rw [List.mem_range'_1] at hi; omega
      simp [run_sizeOf w hsz, run_part_int hag k i hi', Instr.checkKey, run_underlying w he]

/-- A loop that ends early where two numbers differ. -/
theorem run_eqs (P : Program) (w : World) (k k' : List Int) (g : Nat → Option Bool × Unit → Sem (ForInStep (Option Bool × Unit)))
    (hg : ∀ i, i < k.length → i < k'.length → (g i (none, ())).run P w = .ok (if k[i]? = k'[i]? then .yield (none, ()) else .done (some false, ())) w) (hl : k.length = k'.length) :
    ∀ (n s : Nat), s + n = k.length → (forIn (List.range' s n) ((none, ()) : Option Bool × Unit) g).run P w = .ok (if k.drop s = k'.drop s then (none, ()) else (some false, ())) w
  | 0, s, h => by
    have h1 : k.drop s = [] := List.drop_eq_nil_of_le (by omega)
    have h2 : k'.drop s = [] := List.drop_eq_nil_of_le (by omega)
    simp [h1, h2]
  | n + 1, s, h => by
    have hs : s < k.length := by omega
    have hs' : s < k'.length := by omega
    rw [List.range'_succ, List.forIn_cons, Sem.run_bind, hg s hs hs']
    rw [List.drop_eq_getElem_cons hs, List.drop_eq_getElem_cons hs', List.getElem?_eq_getElem hs, List.getElem?_eq_getElem hs']
    simp only [Result.andThen_ok, Option.some.injEq, List.cons.injEq]
    by_cases e : k[s] = k'[s]
    · rw [if_pos e]
      simp only [e, true_and]
      exact run_eqs P w k k' g hg hl n (s + 1) (by omega)
    · rw [if_neg e]
      simp only [e, false_and, if_false]
      rfl

theorem run_equal {kn : Option Nat} {kt : TypeId} (hk : chkKey P kn kt = true) (k k' : List Int) (h1 : ∀ L, kn = some L → k.length = L) (h1' : ∀ L, kn = some L → k'.length = L) (h2 : kn = none → k.length = 1) (h2' : kn = none → k'.length = 1) :
    (Op.equal kt (keyVal kn k) (keyVal kn k')).run P w = .ok (decide (k = k')) w := by
  obtain ⟨d, hd⟩ : ∃ d, Op.maxDepth = d + 2 := ⟨9998, rfl⟩
  unfold Op.equal
  rw [hd]
  rcases chkKey_parts hk with ⟨rfl, hu⟩ | ⟨n, e, rfl, hu, he, hsz⟩
  · match k, k', h2 rfl, h2' rfl with
    | [x], [y], _, _ => simp [Op.equalIn, keyVal, run_underlying w hu]; by_cases h : x = y <;> simp [h]
  · have hag : aggP P e = some false := by simp [aggP, he]
    have hl := h1 n rfl
    have hl' := h1' n rfl
    unfold Op.equalIn
    simp only [Sem.run_bind, run_underlying w hu, Result.andThen_ok, keyVal, run_sizeOf w hsz]
    rw [Std.Legacy.Range.forIn_eq_forIn_range']
    simp only [Std.Legacy.Range.size, Nat.sub_zero, Nat.add_sub_cancel, Nat.div_one]
    have h0 := run_eqs P w k k' (fun i _ => do
            let a ← part e (k.map (Value.int .i64)).toArray (i * 1)
            let b ← part e (k'.map (Value.int .i64)).toArray (i * 1)
            let c ← Op.equalIn (d + 1) e a b
            if (!c) = true then pure (ForInStep.done (some false, ())) else pure (ForInStep.yield (none, ()))) (fun i hi hi' => by
          simp only [Sem.run_bind, Nat.mul_one, run_part_int hag k i hi, run_part_int hag k' i hi', Result.andThen_ok, Op.equalIn, run_underlying w he, Sem.run_ite, Sem.run_pure]
          rw [List.getElem?_eq_getElem hi, List.getElem?_eq_getElem hi']
          by_cases e : k[i] = k'[i]
          · simp [e]
          · simp [e]) (by omega) n 0 (by omega)
    simp only [List.drop_zero] at h0
    rw [h0]
    by_cases e : k = k'
    · simp [e]
    · simp [e]

theorem sameNow_int (x y : Int) : Instr.sameNow (.int .i64) (.int .i64 x) (.int .i64 y) = some (x == y) := by simp [Instr.sameNow]

/-- The entries of a map, by keys. -/
structure Ents (G : Gh) (w : World) (kn : Option Nat) (kvs : List (AV × AV)) (es : List MapEntry) : Prop where
  len : es.length = kvs.length
  ent : ∀ (j : Nat) (x : AV × AV) (e : MapEntry), kvs[j]? = some x → es[j]? = some e → EntR G w x e

theorem Ents.tail {kn : Option Nat} {x : AV × AV} {kvs : List (AV × AV)} {e : MapEntry} {es : List MapEntry} (h : Ents G w kn (x :: kvs) (e :: es)) : Ents G w kn kvs es :=
  ⟨by have := h.len; simpa using this, fun j y f hy hf => h.ent (j + 1) y f hy hf⟩

/-- Where a key is found, and what for. -/
def findAt (kn : Option Nat) (k : List Int) : List (AV × AV) → Nat → Option (Nat × AV)
  | [], _ => none
  | (x, v) :: r, i => match keyOf kn x with
    | some k' => if k' = k then some (i, v) else findAt kn k r (i + 1)
    | none => none

theorem findAsking_run {kn : Option Nat} {kt : TypeId} (hk : chkKey P kn kt = true) (k : List Int) (h1 : ∀ L, kn = some L → k.length = L) (h2 : kn = none → k.length = 1) :
    ∀ {kvs : List (AV × AV)} {es : List MapEntry} {i : Nat} {r : Option AV}, Ents G w kn kvs es → findK kn k kvs = some r →
    ∃ res, (Instr.findAsking kt (keyVal kn k) es i).run P w = .ok res w ∧ (match findAt kn k kvs i with | none => res = none ∧ r = none | some (j, v) => ∃ e, es[j - i]? = some e ∧ i ≤ j ∧ res = some (j, e.val) ∧ r = some v ∧ kvs[j - i]? = some (((kvs[j - i]?).getD default).1, v) ∧ e.key = keyVal kn k)
  | [], es, i, r, h, hf => by
    have : es = [] := List.eq_nil_of_length_eq_zero (by rw [h.len]; rfl)
    subst this
    simp only [findK, Option.some.injEq] at hf
    subst hf
    exact ⟨none, rfl, rfl, rfl⟩
  | (x, v) :: kvs, [], i, r, h, hf => by have := h.len; simp at this
  | (x, v) :: kvs, e :: es, i, r, h, hf => by
    simp only [findK] at hf
    cases hkx : keyOf kn x with
    | none => rw [hkx] at hf; cases hf
    | some k' =>
      rw [hkx] at hf
      dsimp only at hf
      have hE := h.ent 0 (x, v) e rfl rfl
      obtain ⟨hek, hl1, hl2⟩ := key_sound hE.key hkx
      have heq := run_equal (P := P) (w := w) hk k k' h1 hl1 h2 hl2
      simp only [findAt, hkx]
      unfold Instr.findAsking
      rw [Sem.run_bind, hek, heq]
      by_cases hkk : k = k'
      · subst hkk
        rw [if_pos rfl] at hf ⊢
        cases hf
        refine ⟨some (i, e.val), by simp, e, by simp, Nat.le_refl _, rfl, rfl, by simp, hek⟩
      · rw [if_neg (fun h => hkk h.symm)] at hf ⊢
        obtain ⟨res, hr, hm⟩ := findAsking_run hk k h1 h2 (i := i + 1) h.tail hf
        refine ⟨res, by simpa [hkk] using hr, ?_⟩
        cases hfa : findAt kn k kvs (i + 1) with
        | none => rw [hfa] at hm; exact hm
        | some jv =>
          rw [hfa] at hm
          obtain ⟨j, v'⟩ := jv
          simp only at hm ⊢
          obtain ⟨e', he', hij, hres, hr', hkv, hkey⟩ := hm
          have hj : j - i = (j - (i + 1)) + 1 := by omega
          exact ⟨e', by rw [hj]; exact he', by omega, hres, hr', by rw [hj]; exact hkv, hkey⟩

theorem findNow_run {kn : Option Nat} {kt : TypeId} (hu : P.underlying kt = some (.int .i64)) (hkn : kn = none) (k : List Int) (h2 : k.length = 1) :
    ∀ {kvs : List (AV × AV)} {es : List MapEntry} {i : Nat} {r : Option AV}, Ents G w kn kvs es → findK kn k kvs = some r →
    ∃ res, Instr.findNow (.int .i64) (keyVal kn k) es i = some res ∧ (match findAt kn k kvs i with | none => res = none ∧ r = none | some (j, v) => ∃ e, es[j - i]? = some e ∧ i ≤ j ∧ res = some (j, e.val) ∧ r = some v ∧ kvs[j - i]? = some (((kvs[j - i]?).getD default).1, v) ∧ e.key = keyVal kn k)
  | [], es, i, r, h, hf => by
    have : es = [] := List.eq_nil_of_length_eq_zero (by rw [h.len]; rfl)
    subst this
    simp only [findK, Option.some.injEq] at hf
    subst hf
    exact ⟨none, rfl, rfl, rfl⟩
  | (x, v) :: kvs, [], i, r, h, hf => by have := h.len; simp at this
  | (x, v) :: kvs, e :: es, i, r, h, hf => by
    subst hkn
    simp only [findK] at hf
    cases hkx : keyOf none x with
    | none => rw [hkx] at hf; cases hf
    | some k' =>
      rw [hkx] at hf
      dsimp only at hf
      have hE := h.ent 0 (x, v) e rfl rfl
      obtain ⟨hek, hl1, hl2⟩ := key_sound hE.key hkx
      match k, k', h2, hl2 rfl with
      | [p], [q], _, _ =>
        simp only [findAt, hkx]
        unfold Instr.findNow
        rw [hek]
        simp only [keyVal, List.headD_cons, sameNow_int]
        by_cases hpq : p = q
        · subst hpq
          rw [if_pos rfl] at hf ⊢
          cases hf
          simp only [beq_self_eq_true]
          exact ⟨_, rfl, e, by simp, by simp, by simp, by simp, by simp, hek⟩
        · have hb : (p == q) = false := by simp [hpq]
          rw [if_neg (by simp; exact fun h => hpq h.symm)] at hf ⊢
          simp only [hb]
          obtain ⟨res, hr, hm⟩ := findNow_run hu rfl [p] rfl (i := i + 1) h.tail hf
          refine ⟨res, hr, ?_⟩
          cases hfa : findAt none [p] kvs (i + 1) with
          | none => rw [hfa] at hm; exact hm
          | some jv =>
            rw [hfa] at hm
            obtain ⟨j, v'⟩ := jv
            simp only at hm ⊢
            obtain ⟨e', he', hij, hres, hr', hkv, hkey⟩ := hm
            have hj : j - i = (j - (i + 1)) + 1 := by omega
            exact ⟨e', by rw [hj]; exact he', by omega, hres, hr', by rw [hj]; exact hkv, hkey⟩

/-- Where a key is found. -/
def Found (kn : Option Nat) (k : List Int) (kvs : List (AV × AV)) (es : List MapEntry) (res : Option (Nat × Value)) (r : Option AV) : Prop :=
  match findAt kn k kvs 0 with
  | none => res = none ∧ r = none
  | some (j, v) => ∃ e x, es[j]? = some e ∧ res = some (j, e.val) ∧ r = some v ∧ kvs[j]? = some (x, v) ∧ e.key = keyVal kn k

theorem findKey_run {kn : Option Nat} {kt : TypeId} (hk : chkKey P kn kt = true) (k : List Int) (h1 : ∀ L, kn = some L → k.length = L) (h2 : kn = none → k.length = 1)
    {kvs : List (AV × AV)} {es : List MapEntry} {r : Option AV} (h : Ents G w kn kvs es) (hf : findK kn k kvs = some r) :
    ∃ res, (Instr.findKey kt (keyVal kn k) es).run P w = .ok res w ∧ Found kn k kvs es res r := by
  have fin : ∀ res, (match findAt kn k kvs 0 with | none => res = none ∧ r = none | some (j, v) => ∃ e, es[j - 0]? = some e ∧ 0 ≤ j ∧ res = some (j, e.val) ∧ r = some v ∧ kvs[j - 0]? = some (((kvs[j - 0]?).getD default).1, v) ∧ e.key = keyVal kn k) → Found kn k kvs es res r := by
    intro res hm
    unfold Found
    cases hfa : findAt kn k kvs 0 with
    | none => rw [hfa] at hm; exact hm
    | some jv =>
      rw [hfa] at hm
      obtain ⟨j, v⟩ := jv
      obtain ⟨e, a1, _, a3, a4, a5, a6⟩ := hm
      exact ⟨e, _, a1, a3, a4, a5, a6⟩
  rcases chkKey_parts hk with ⟨hkn, hu⟩ | ⟨n, e, hkn, hu, he, hsz⟩
  · obtain ⟨res, hr, hm⟩ := findNow_run hu hkn k (h2 hkn) (i := 0) h hf
    refine ⟨res, ?_, fin res hm⟩
    unfold Instr.findKey
    rw [Sem.run_bind, run_underlying w hu]
    simp only [Result.andThen_ok, hr, Sem.run_pure]
  · obtain ⟨res, hr, hm⟩ := findAsking_run hk k h1 h2 (i := 0) h hf
    refine ⟨res, ?_, fin res hm⟩
    unfold Instr.findKey
    rw [Sem.run_bind, run_underlying w hu]
    simp only [Result.andThen_ok]
    cases es with
    | nil => simpa [Instr.findNow, Instr.findAsking] using hr
    | cons e0 es0 =>
      have : Instr.findNow (.array n e) (keyVal kn k) (e0 :: es0) 0 = none := by
        unfold Instr.findNow
        have : Instr.sameNow (.array n e) (keyVal kn k) e0.key = none := by
          unfold Instr.sameNow
          split <;> simp_all
        rw [this]
      rw [this]
      exact hr

theorem putK_found {kn : Option Nat} {key : AV} {k : List Int} {v : AV} : ∀ {kvs kvs' : List (AV × AV)}, putK kn key k v kvs = some kvs' →
    (∃ r, findK kn k kvs = some r) ∧ ∀ i, match findAt kn k kvs i with | none => kvs' = kvs ++ [(key, v)] | some (j, _) => i ≤ j ∧ kvs' = kvs.set (j - i) (key, v)
  | [], kvs', h => by
    simp only [putK, Option.some.injEq] at h
    subst h
    exact ⟨⟨none, rfl⟩, fun i => rfl⟩
  | (x, u) :: r, kvs', h => by
    simp only [putK] at h
    cases hx : keyOf kn x with
    | none => rw [hx] at h; cases h
    | some k' =>
      rw [hx] at h
      dsimp only at h
      by_cases hkk : k' = k
      · rw [if_pos hkk] at h
        cases h
        refine ⟨⟨some u, by simp [findK, hx, hkk]⟩, fun i => ?_⟩
        simp [findAt, hx, hkk]
      · rw [if_neg hkk] at h
        simp only [Option.map_eq_some_iff] at h
        obtain ⟨r', hr', rfl⟩ := h
        obtain ⟨h1, h2⟩ := putK_found hr'
        refine ⟨by simpa [findK, hx, hkk] using h1, fun i => ?_⟩
        have h3 := h2 (i + 1)
        simp only [findAt, hx, hkk, if_false]
        cases hfa : findAt kn k r (i + 1) with
        | none => rw [hfa] at h3; simp only at h3 ⊢; rw [h3]; rfl
        | some jv =>
          rw [hfa] at h3
          obtain ⟨j, u'⟩ := jv
          simp only at h3 ⊢
          refine ⟨by omega, ?_⟩
          rw [h3.2, show j - i = (j - (i + 1)) + 1 by omega, List.set_cons_succ]

theorem sameBits_key (kn : Option Nat) (k : List Int) : Instr.sameBits 10000 (keyVal kn k) (keyVal kn k) = true := by
  have hi : ∀ d (x : Int), Instr.sameBits d (.int .i64 x) (.int .i64 x) = true := fun d x => by unfold Instr.sameBits; simp
  cases kn with
  | none => exact hi _ _
  | some L =>
    simp only [keyVal]
    obtain ⟨d, hd⟩ : ∃ d, 10000 = d + 1 := ⟨9999, rfl⟩
    rw [hd]
    unfold Instr.sameBits
    simp only [beq_self_eq_true, Bool.true_and, List.all_eq_true]
    intro p hp
    have : ∀ l : List Value, ∀ p ∈ l.zip l, p.1 = p.2 ∧ p.1 ∈ l := by
      intro l
      induction l with
      | nil => simp
      | cons a l ih =>
        intro p hp
        simp only [List.zip_cons_cons, List.mem_cons] at hp
        rcases hp with rfl | hp
        · simp
        · obtain ⟨h1, h2⟩ := ih p hp
          exact ⟨h1, List.mem_cons_of_mem _ h2⟩
    obtain ⟨h1, h2⟩ := this _ p hp
    simp only [List.mem_map] at h2
    obtain ⟨x, _, hx⟩ := h2
    obtain ⟨p1, p2⟩ := p
    simp only at h1 hx ⊢
    subst h1
    rw [← hx]
    exact hi _ _

theorem zero_sound {P : Program} {G : Gh} {w : World} {t : TypeId} {z : AV} (h : chkZero P t z = true) : ∃ zv, zeroP P t = some zv ∧ RV G w z zv := by
  unfold chkZero at h
  split at h
  · rename_i zv hz
    split at h
    · rename_i cs cvs
      obtain ⟨r, _⟩ := cells_sound (G := G) (w := w) h
      obtain ⟨a1, a2⟩ := r.arr
      exact ⟨_, hz, .agg _ _ (by simpa using a1) (by simpa using a2)⟩
    · exact ⟨_, hz, const_sound h⟩
    · exact ⟨_, hz, const_sound h⟩
    · cases h
  · cases h

theorem run_getObj_map {b : Nat} {es : Array MapEntry} {clk : Nat} (h : w.heap[b]? = some (.map es clk)) : (getObj b).run P w = .ok (.map es clk) w := by
  simp [getObj, Sem.run, h]

theorem op_lkp (s : Sim G T w) (he : EnvR G w E a) {kn : Option Nat} {z : AV} {m k : Opd} {v : AV} {T' : Tab} (hc : chkOp P (.lkp kn z m k) o = true) (hs : stepOp call lo E T (.lkp kn z m k) = some (v, T')) : OpOK P o a w (Res lo G T w T' v) := by
  simp only [chkOp] at hc
  split at hc
  · rename_i t y j ho
    simp only [Bool.and_eq_true] at hc
    obtain ⟨⟨hc1, hm⟩, hkk⟩ := hc
    split at hc1
    · rename_i kt et hmp
      simp only [Bool.and_eq_true] at hc1
      obtain ⟨hk, hz⟩ := hc1
      have hut : P.underlying t = some (.map kt et) := by
        unfold mapP at hmp
        split at hmp
        · cases hmp; assumption
        · cases hmp
      obtain ⟨zv, hzv, hzr⟩ := zero_sound (G := G) (w := w) hz
      simp only [stepOp] at hs
      split at hs
      · rename_i tk key hmv hkv
        split at hs
        · rename_i kvs hT
          split at hs
          · rename_i r hf
            cases hs
            have rm := val_sound he hm
            have rk := val_sound he hkk
            rw [hmv] at rm
            obtain ⟨hkey, hl1, hl2⟩ := key_sound rk hkv
            obtain ⟨b, es, clk, A⟩ := s.map tk kvs hT
            have hy : a.eval y = .map (some b) := by
              generalize a.eval y = u at rm
              cases rm with
              | mapr _ b' hb => rw [A.loc] at hb; cases hb; rfl
            have hE : Ents G w kn kvs es.toList := ⟨by simp [A.size], fun j x e hx hee => A.ent j x e hx (by simpa using hee)⟩
            obtain ⟨res, hres, hfd⟩ := findKey_run hk key hl1 hl2 hE hf
            unfold Found at hfd
            cases hfa : findAt kn key kvs 0 with
            | none =>
              rw [hfa] at hfd
              obtain ⟨rfl, rfl⟩ := hfd
              exact opOK_value (v := zv) (w' := w) (by simp [execOp, ho, Instr.lookup, run_underlying w hut, hy, run_getObj_map A.heap, hkey, run_checkKey hk key hl1, hres, run_zeroValue w hzv]) (res_same s hzr)
            | some jv =>
              rw [hfa] at hfd
              obtain ⟨j', v'⟩ := jv
              obtain ⟨e, x, he1, rfl, rfl, hkv', _⟩ := hfd
              exact opOK_value (v := e.val) (w' := w) (by simp [execOp, ho, Instr.lookup, run_underlying w hut, hy, run_getObj_map A.heap, hkey, run_checkKey hk key hl1, hres]) (res_same s (A.ent j' (x, v') e hkv' (by simpa using he1)).val)
          · cases hs
        · cases hs
      · cases hs
    · cases hc1
  · cases hc

theorem op_mup (s : Sim G T w) (he : EnvR G w E a) {kn : Option Nat} {m k x : Opd} {v : AV} {T' : Tab} (hc : chkOp P (.mup kn m k x) o = true) (hs : stepOp call lo E T (.mup kn m k x) = some (v, T')) : OpOK P o a w (Res lo G T w T' v) := by
  simp only [chkOp] at hc
  split at hc
  · rename_i t y j u ho
    simp only [Bool.and_eq_true] at hc
    obtain ⟨⟨⟨hc1, hm⟩, hkk⟩, hx⟩ := hc
    split at hc1
    · rename_i kt et hmp
      have hk := hc1
      have hut : P.underlying t = some (.map kt et) := by
        unfold mapP at hmp
        split at hmp
        · cases hmp; assumption
        · cases hmp
      simp only [stepOp] at hs
      split at hs
      · rename_i tk key hmv hkv
        split at hs
        · rename_i kvs hT
          split at hs
          · rename_i kvs' hp
            split at hs
            · rename_i hlo
              cases hs
              have rm := val_sound he hm
              have rk := val_sound he hkk
              have rx := val_sound he hx
              rw [hmv] at rm
              obtain ⟨hkey, hl1, hl2⟩ := key_sound rk hkv
              obtain ⟨b, es, clk, A⟩ := s.map tk kvs hT
              have hy : a.eval y = .map (some b) := by
                generalize a.eval y = u at rm
                cases rm with
                | mapr _ b' hb => rw [A.loc] at hb; cases hb; rfl
              have hE : Ents G w kn kvs es.toList := ⟨by simp [A.size], fun j x e hx hee => A.ent j x e hx (by simpa using hee)⟩
              obtain ⟨⟨r, hf⟩, hput⟩ := putK_found hp
              obtain ⟨res, hres, hfd⟩ := findKey_run hk key hl1 hl2 hE hf
              have hb : b < w.heap.size := (Array.getElem?_eq_some_iff.1 A.heap).1
              have hput := hput 0
              have hset : ∀ o', (setObj b o').run P w = .ok () { w with heap := w.heap.setIfInBounds b o' } := fun o' => by simp [setObj, Sem.run, A.heap]
              have done : ∀ (es' : Array MapEntry) (clk' : Nat), es'.size = kvs'.length → (∀ (j : Nat) (x : AV × AV) (e : MapEntry), kvs'[j]? = some x → es'[j]? = some e → EntR G w x e) →
                  (execOp a.eval o).run P w = .ok .skip { w with heap := w.heap.setIfInBounds b (.map es' clk') } →
                  OpOK P o a w (Res lo G T w (T.set tk (.map kvs')) (.tup [])) := by
                intro es' clk' hsize hent hexec
                obtain ⟨U, s'⟩ := set_map s hT A (w' := { w with heap := w.heap.setIfInBounds b (.map es' clk') }) (es' := es') (clk' := clk') (by simp [Array.getElem?_setIfInBounds, hb]) (fun b' hb' => by simp only [Array.getElem?_setIfInBounds]; rw [if_neg fun e => hb' e.symm]) (by simp) hsize hent rfl rfl rfl
                exact opOK_skip hexec ⟨G, U.ext hlo, s', .tup [] #[] rfl (fun i x c h => by simp at h)⟩
              unfold Found at hfd
              cases hfa : findAt kn key kvs 0 with
              | none =>
                rw [hfa] at hfd hput
                obtain ⟨rfl, rfl⟩ := hfd
                dsimp only at hput
                subst hput
                refine done (es.push { key := a.eval j, val := a.eval u, born := clk }) (clk + 1) (by simp [A.size]) (fun i p e hp he => ?_) ?_
                · rw [Array.getElem?_push] at he
                  split at he
                  · rename_i hi
                    cases he
                    subst hi
                    rw [A.size] at hp
                    simp at hp
                    subst hp
                    exact ⟨rk, rx⟩
                  · rename_i hi
                    have : i < kvs.length := by
                      have := (List.getElem?_eq_some_iff.1 hp).1
                      simp at this
                      have := A.size
                      omega
                    rw [List.getElem?_append_left this] at hp
                    exact A.ent i p e hp he
                · simp [execOp, ho, Instr.mapUpdate, run_underlying w hut, hy, run_getObj_map A.heap, hkey, run_checkKey hk key hl1, hres, hset]
              | some jv =>
                rw [hfa] at hfd hput
                obtain ⟨j', v'⟩ := jv
                obtain ⟨e, x', he1, rfl, rfl, hkv', hek⟩ := hfd
                dsimp only at hput
                obtain ⟨_, rfl⟩ := hput
                have he2 : es[j']? = some e := by simpa using he1
                refine done (es.modify j' fun e => { e with key := a.eval j, val := a.eval u }) clk (by simp [A.size]) (fun i p e' hp he => ?_) ?_
                · simp only [Nat.sub_zero, List.getElem?_set] at hp
                  rw [Array.getElem?_modify] at he
                  by_cases hi : j' = i
                  · rw [if_pos hi] at hp he
                    subst hi
                    rw [he2] at he
                    simp at he
                    subst he
                    split at hp
                    · cases hp; exact ⟨rk, rx⟩
                    · cases hp
                  · rw [if_neg hi] at hp he
                    exact A.ent i p e' hp he
                · simp [execOp, ho, Instr.mapUpdate, run_underlying w hut, hy, run_getObj_map A.heap, hkey, run_checkKey hk key hl1, hres, hset, he2, hek, Instr.keyThatStays, sameBits_key]
            · cases hs
          · cases hs
        · cases hs
      · cases hs
    · cases hc1
  · cases hc
end
end Go.Proofs.Ytlilfiekkaolkaa.Am
