/- Operations, third part: slices of slices, loads, what is made. -/
import Derived.Test.YtlilfiekkaolkaaAmH
set_option linter.unusedVariables false
set_option linter.unusedSimpArgs false
namespace Go.Proofs.Ytlilfiekkaolkaa.Am
open Go
section
variable {P : Program} {G : Gh} {T : Tab} {w : World} {E : Env} {a : Act} {o : Oper} {call : CallA} {lo : Nat}

theorem int_val (he : EnvR G w E a) {x : Opd} {y : Operand} (h : chkOpd x y = true) {k : IntKind} {n : Int} (hx : val E x = .int k n) : a.eval y = .int k n := by
  have r := val_sound he h
  rw [hx] at r
  generalize a.eval y = u at r ⊢
  cases r
  rfl

theorem run_sliceBounds (he : EnvR G w E a) {l h : Option Opd} {lo hi : Option Operand} (hl : chkOpt l lo = true) (hh : chkOpt h hi = true) {len cap : Nat} {m k : Int}
    (h1 : hiA E len h = some m) (h2 : loA E l = some k) (h0 : 0 ≤ k) (hkm : k ≤ m) (hml : m ≤ len) (hc : len ≤ cap) :
    (Instr.sliceBounds true len cap (lo.map a.eval) (hi.map a.eval) none).run P w = .ok (k.toNat, m.toNat, cap) w := by
  have e1 : ∀ y : Operand, ∀ z : Int, ∀ n c, a.eval y = .int .i64 z → 0 ≤ z → z ≤ (n : Nat) → (Instr.sliceBound (a.eval y) n c).run P w = .ok z.toNat w := by
    intro y z n c hy hz hn
    simp [Instr.sliceBound, hy, asIntOf, hz, hn]
  have hhi : ∀ (m' : Int), hiA E len h = some m' → m' ≤ len → 0 ≤ m' → (match hi.map a.eval with | some v => Instr.sliceBound v cap (if true then .sliceAcap else .sliceAlen) | none => (pure len : Sem Nat)).run P w = .ok m'.toNat w := by
    intro m' hm' hle h0'
    cases h with
    | none =>
      cases hi with
      | none => simp [hiA] at hm'; subst hm'; simp
      | some y => cases hh
    | some x =>
      cases hi with
      | none => cases hh
      | some y =>
        simp only [hiA] at hm'
        split at hm'
        · rename_i z hz
          cases hm'
          exact e1 y _ cap _ (int_val he hh hz) h0' (by omega)
        · cases hm'
  unfold Instr.sliceBounds
  cases l with
  | none =>
    cases lo with
    | some y => cases hl
    | none =>
      simp only [loA, Option.some.injEq] at h2
      subst h2
      cases h with
      | none =>
        cases hi with
        | some y => cases hh
        | none => simp only [hiA, Option.some.injEq] at h1; subst h1; simp
      | some x =>
        cases hi with
        | none => cases hh
        | some y =>
          simp only [hiA] at h1
          split at h1
          · rename_i z hz
            cases h1
            have := e1 y m cap .sliceAcap (int_val he hh hz) (by omega) (by omega)
            simp [this]
          · cases h1
  | some xl =>
    cases lo with
    | none => cases hl
    | some yl =>
      simp only [loA] at h2
      split at h2
      · rename_i zl hzl
        cases h2
        have hlow := e1 yl k m.toNat .sliceB (int_val he hl hzl) h0 (by omega)
        cases h with
        | none =>
          cases hi with
          | some y => cases hh
          | none => simp only [hiA, Option.some.injEq] at h1; subst h1; simp at hlow ⊢; simp [hlow]
        | some x =>
          cases hi with
          | none => cases hh
          | some y =>
            simp only [hiA] at h1
            split at h1
            · rename_i z hz
              cases h1
              have := e1 y m cap .sliceAcap (int_val he hh hz) (by omega) (by omega)
              simp [this, hlow]
            · cases h1
      · cases h2

theorem flat_sub {n : Nat} {es : List AV} (he : ∀ e ∈ es, elemOk n e = true) (k m : Nat) (j : Nat) (x : AV) (h : (flat ((es.take m).drop k))[j]? = some x) : (flat es)[k * n + j]? = some x := by
  rw [flat_drop k (fun e h => he e (List.mem_of_mem_take h)), flat_take m he, List.getElem?_drop] at h
  rw [List.getElem?_take] at h
  split at h
  · exact h
  · cases h

theorem op_slc (s : Sim G T w) (he : EnvR G w E a) {n : Nat} {x : Opd} {l h : Option Opd} {v : AV} {T' : Tab} (hc : chkOp P (.slc n x l h) o = true) (hs : stepOp call lo E T (.slc n x l h) = some (v, T')) : OpOK P o a w (Res lo G T w T' v) := by
  simp only [chkOp] at hc
  split at hc
  · rename_i t y lw hi ho
    simp only [Bool.and_eq_true] at hc
    obtain ⟨⟨⟨hsl, hx⟩, hl⟩, hh⟩ := hc
    obtain ⟨e, hte, hsz⟩ := slice_of_chk hsl
    have rx := val_sound he hx
    have hs' : ∃ len m k, alen (val E x) = some len ∧ hiA E len h = some m ∧ loA E l = some k ∧ 0 ≤ k ∧ k ≤ m ∧ m ≤ (len : Int) ∧ T' = T ∧
        ((∃ nl es, val E x = .fz nl n es ∧ v = .fz nl n ((es.take m.toNat).drop k.toNat)) ∨ (∃ mb t g off len', val E x = .sl mb n t g off len' ∧ v = .sl mb n t g (off + k.toNat) (m - k).toNat)) := by
      simp only [stepOp] at hs
      split at hs
      · cases hs
      · rename_i len hlen
        split at hs
        · rename_i m k hm hk
          split at hs
          · rename_i hb
            refine ⟨len, m, k, hlen, hm, hk, hb.1, hb.2.1, hb.2.2, ?_⟩
            · split at hs
              · rename_i nl n' es hxv
                split at hs
                · rename_i hn
                  subst hn
                  simp only [Option.some.injEq, Prod.mk.injEq] at hs
                  exact ⟨hs.2.symm, .inl ⟨nl, es, hxv, hs.1.symm⟩⟩
                · cases hs
              · rename_i mb n' t g off len' hxv
                split at hs
                · rename_i hn
                  subst hn
                  simp only [Option.some.injEq, Prod.mk.injEq] at hs
                  exact ⟨hs.2.symm, .inr ⟨mb, t, g, off, len', hxv, hs.1.symm⟩⟩
                · cases hs
              · cases hs
          · cases hs
        · cases hs
    obtain ⟨len, m, k, hlen, hm, hk, h0, hkm, hml, rfl, hv⟩ := hs'
    obtain ⟨A, cap, hcx, hcap⟩ := alen_sound rx hlen
    have hrun := run_sliceBounds (P := P) he hl hh hm hk h0 hkm hml hcap
    refine opOK_value (v := .slice (if cap = k.toNat then A else A.map (·.add (k.toNat * n))) (m.toNat - k.toNat) (cap - k.toNat)) (w' := w) ?_ (res_same s ?_)
    · simp [execOp, ho, hcx, Instr.sliceAt, Instr.slice, run_underlying w hte, hrun, run_sizeOf w hsz]
    · rw [hcx] at rx
      have hmk : (m - k).toNat = m.toNat - k.toNat := by omega
      rcases hv with ⟨nl, es, hxv, rfl⟩ | ⟨mb, t', g, off, len', hxv, rfl⟩
      · rw [hxv] at rx hlen
        simp only [alen, Option.some.injEq] at hlen
        have hlen2 : ((es.take m.toNat).drop k.toNat).length = m.toNat - k.toNat := by simp; omega
        cases rx with
        | fznil _ _ hn =>
          have e0 : m.toNat = 0 := by simp at hlen; omega
          have e1 : k.toNat = 0 := by omega
          simp only [e0, e1, List.take_zero, List.drop_zero, Nat.sub_self]
          exact .fznil _ _ hn
        | fz0 _ _ a' _ hn =>
          have e0 : m.toNat = 0 := by simp at hlen; omega
          have e1 : k.toNat = 0 := by omega
          simp only [e0, e1, List.take_zero, List.drop_zero, Nat.sub_self, Nat.sub_zero, Nat.zero_mul]
          split
          · rename_i hc; simp only [hc]; exact .fz0 _ _ _ _ hn
          · exact .fz0 _ _ _ _ hn
        | fz _ _ _ b o' cap' cs hn hb hl' hel hcell hr =>
          by_cases hz : (es.take m.toNat).drop k.toNat = []
          · have hm0 : m.toNat - k.toNat = 0 := by rw [hz] at hlen2; simpa using hlen2.symm
            rw [hz, hm0]
            split
            · exact .fz0 _ _ _ _ hn
            · exact .fz0 _ _ _ _ hn
          · have hpos : 0 < m.toNat - k.toNat := by
              rcases Nat.eq_zero_or_pos (m.toNat - k.toNat) with h | h
              · exact absurd (List.eq_nil_of_length_eq_zero (hlen2.trans h)) hz
              · exact h
            have hne : ¬ cap = k.toNat := by omega
            rw [if_neg hne, ← hlen2]
            simp only [Option.map_some, addr_add]
            refine .fz _ _ _ b _ _ (fun j => cs (k.toNat * n + j)) hn hb (by rw [hlen2]; omega) (fun e he => hel e (List.mem_of_mem_take (List.mem_of_mem_drop he))) (fun j x hx => ?_) (fun j x hx => ?_)
            · rw [← hcell _ x (flat_sub hel _ _ _ _ hx)]; congr 2; omega
            · exact hr _ x (flat_sub hel _ _ _ _ hx)
      · rw [hxv] at rx hlen
        simp only [alen, Option.some.injEq] at hlen
        subst hlen
        cases rx with
        | slnil =>
          have e0 : m.toNat = 0 := by omega
          have e1 : k.toNat = 0 := by omega
          have e2 : (m - k).toNat = 0 := by omega
          simp only [e0, e1, e2, Nat.sub_self]
          exact .slnil _ _ _ _
        | slz =>
          have e0 : m.toNat = 0 := by omega
          have e1 : k.toNat = 0 := by omega
          have e2 : (m - k).toNat = 0 := by omega
          simp only [e0, e1, e2, Nat.sub_self, if_true]
          exact .slz _ _ _ _ _ _
        | sl _ _ _ _ _ _ b base _ capT hl' h1 h2 =>
          rw [hmk]
          split
          · rename_i hc
            have e0 : m.toNat - k.toNat = 0 := by omega
            have e1 : cap - k.toNat = 0 := by omega
            rw [e0, e1]
            exact .slz _ _ _ _ _ _
          · simp only [Option.map_some, addr_add, Nat.add_assoc, ← Nat.add_mul]
            exact .sl _ _ _ _ _ _ b base _ capT hl' (by omega) (by omega)
  · cases hc

theorem op_slcA (s : Sim G T w) (he : EnvR G w E a) {n : Nat} {x : Opd} {v : AV} {T' : Tab} (hc : chkOp P (.slcA n x) o = true) (hs : stepOp call lo E T (.slcA n x) = some (v, T')) : OpOK P o a w (Res lo G T w T' v) := by
  simp only [chkOp] at hc
  split at hc
  · rename_i t y ho
    simp only [Bool.and_eq_true] at hc
    obtain ⟨har, hx⟩ := hc
    split at har
    · rename_i m' e hae
      simp only [Bool.and_eq_true, beq_iff_eq] at har
      obtain ⟨rfl, hsz⟩ := har
      have hte := arr_of_chk hae
      have rx := val_sound he hx
      simp only [stepOp] at hs
      split at hs
      · rename_i t' off hxv
        simp only [Option.some.injEq, Prod.mk.injEq] at hs
        obtain ⟨rfl, rfl⟩ := hs
        rw [hxv] at rx
        generalize hcy : a.eval y = cy at rx
        cases rx with
        | ptr _ _ b hb =>
          refine opOK_value (v := .slice (some ⟨b, off, none⟩) m' m') (w' := w) ?_ (res_same s (.asl _ _ _ _ _ hb (Nat.le_refl _)))
          by_cases hm0 : m' = 0
          · subst hm0; simp [execOp, ho, hcy, Instr.sliceAt, run_underlying w hte, Instr.sureAddr, Instr.sliceBounds, run_sizeOf w hsz]
          · simp [execOp, ho, hcy, Instr.sliceAt, run_underlying w hte, Instr.sureAddr, Instr.sliceBounds, run_sizeOf w hsz, hm0, Addr.add]
      · cases hs
    · cases har
  · cases hc

theorem run_loadVar_false {t : TypeId} (h : aggP P t = some false) (w : World) (b k : Nat) {c : Value} (hc : w.cell? ⟨b, k, none⟩ = some c) : (loadVar t ⟨b, k, none⟩).run P w = .ok c w := by
  simp [loadVar, run_isAgg w h, hc]
theorem run_loadVar_true {t : TypeId} {n : Nat} (h : aggP P t = some true) (hn : sizeP P t = some n) (w : World) (b k : Nat) (f : Nat → Value) (hc : ∀ j, j < n → w.cell? ⟨b, k + j, none⟩ = some (f j)) :
    (loadVar t ⟨b, k, none⟩).run P w = .ok (.agg ((List.range n).map f).toArray) w := by
  simp [loadVar, run_isAgg w h, run_sizeOf w hn, loadCells_run P w b k n f hc]

/-- A load. -/
theorem ldv_sound (s : Sim G T w) {t : TypeId} {agg : Bool} {n : Nat} {p v : AV} {c : Value} (h1 : aggP P t = some agg) (h2 : sizeP P t = some n) (r : RV G w p c) (h : ldv T agg n p = some v) :
    ∃ b k cv, c = .pointer (some ⟨b, k, none⟩) ∧ (loadVar t ⟨b, k, none⟩).run P w = .ok cv w ∧ RV G w v cv := by
  unfold ldv at h
  split at h
  · rename_i cs hp
    obtain ⟨b, k, rfl, hone, hcell⟩ := pcells_sound s hp r
    cases agg with
    | true =>
      simp only [if_true] at h
      split at h
      · rename_i hn
        cases h
        have hf : ∀ j, ∃ cv, j < n → ∃ x, cs[j]? = some x ∧ w.cell? ⟨b, k + j, none⟩ = some cv ∧ RV G w x cv := by
          intro j
          by_cases hj : j < n
          · obtain ⟨cv, h1, h2⟩ := hcell j cs[j] (List.getElem?_eq_getElem (by omega))
            exact ⟨cv, fun _ => ⟨_, List.getElem?_eq_getElem (by omega), h1, h2⟩⟩
          · exact ⟨undef, fun h => absurd h hj⟩
        let f : Nat → Value := fun j => Classical.choose (hf j)
        have hfs : ∀ j, j < n → ∃ x, cs[j]? = some x ∧ w.cell? ⟨b, k + j, none⟩ = some (f j) ∧ RV G w x (f j) := fun j hj => Classical.choose_spec (hf j) hj
        refine ⟨b, k, _, rfl, run_loadVar_true h1 h2 w b k f (fun j hj => by obtain ⟨x, _, hx, _⟩ := hfs j hj; exact hx), .agg _ _ (by simp; omega) fun i x c hx hc => ?_⟩
        rw [List.getElem?_take] at hx
        split at hx
        · rename_i hi
          obtain ⟨x', hx', _, hr⟩ := hfs i hi
          rw [hx'] at hx
          cases hx
          have : ((List.range n).map f).toArray[i]? = some (f i) := by simp [hi]
          rw [this] at hc
          cases hc
          exact hr
        · cases hx
      · cases h
    | false =>
      simp only [Bool.false_eq_true, if_false] at h
      have h0 : cs[0]? = some v := by rw [← h]; cases cs <;> rfl
      obtain ⟨cv, hcv, hr⟩ := hcell 0 v h0
      exact ⟨b, k, cv, rfl, run_loadVar_false h1 w b k (by simpa using hcv), hr⟩
  · cases h

theorem op_ld (s : Sim G T w) (he : EnvR G w E a) {agg : Bool} {n : Nat} {x : Opd} {v : AV} {T' : Tab} (hc : chkOp P (.ld agg n x) o = true) (hs : stepOp call lo E T (.ld agg n x) = some (v, T')) : OpOK P o a w (Res lo G T w T' v) := by
  simp only [chkOp] at hc
  split at hc
  · rename_i t y ho
    simp only [Bool.and_eq_true, beq_iff_eq] at hc
    obtain ⟨⟨h1, h2⟩, h3⟩ := hc
    simp only [stepOp, Option.map_eq_some_iff, Prod.mk.injEq] at hs
    obtain ⟨u, hu, rfl, rfl⟩ := hs
    obtain ⟨b, k, cv, hcy, hrun, hr⟩ := ldv_sound (P := P) s h1 h2 (val_sound he h3) hu
    refine opOK_value (v := cv) (w' := w) ?_ (res_same s hr)
    simp [execOp, ho, hcy, Instr.loadAt, Instr.sureAddr, hrun]
  · cases hc
end
end Go.Proofs.Ytlilfiekkaolkaa.Am
