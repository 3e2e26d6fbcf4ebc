/- Operations, fifth part: make, stores, appends, copies. -/
import Derived.Test.YtlilfiekkaolkaaAmJ
set_option linter.unusedVariables false
set_option linter.unusedSimpArgs false
namespace Go.Proofs.Ytlilfiekkaolkaa.Am
open Go
section
variable {P : Program} {G : Gh} {T : Tab} {w : World} {E : Env} {a : Act} {o : Oper} {call : CallA} {lo : Nat}

theorem flat_replicate {n : Nat} {z : AV} (hz : elemOk n z = true) (m j : Nat) (x : AV) (h : (flat (List.replicate m z))[j]? = some x) : j < m * n ∧ z.cells[j % n]? = some x := by
  have hel : ∀ e ∈ List.replicate m z, elemOk n e = true := fun e he => by rw [(List.mem_replicate.1 he).2]; exact hz
  have hlen := flat_len hel
  rw [List.length_replicate] at hlen
  have hj : j < m * n := by rw [← hlen]; exact (List.getElem?_eq_some_iff.1 h).1
  have hn : 0 < n := by
    rcases Nat.eq_zero_or_pos n with e | e
    · subst e; simp at hj
    · exact e
  refine ⟨hj, ?_⟩
  have hi : j / n < m := Nat.div_lt_of_lt_mul (by rw [Nat.mul_comm]; exact hj)
  have h1 := flat_at hel (i := j / n) (e := z) (by simp [hi]) (j % n) (Nat.mod_lt _ hn)
  rw [show j / n * n + j % n = j by rw [Nat.mul_comm]; exact Nat.div_add_mod j n] at h1
  rw [← h1]
  exact h

theorem run_makeSlice {t : TypeId} {n : Nat} {z : AV} (hk : chkMake P t n z = true) {m : Int} (h0 : 0 ≤ m) (h1 : m ≤ 1073741824) :
    ∃ (cs : Array Value) (ety : TypeId), (Instr.makeSlice t (.int .i64 m) (.int .i64 m)).run P w = .ok (.slice (some ⟨w.heap.size, 0, none⟩) m.toNat m.toNat) (w.alloc (.cells cs ety)) ∧ cs.size = m.toNat * n ∧ elemOk n z = true ∧
      ∀ (j : Nat) (x : AV), (flat (List.replicate m.toNat z))[j]? = some x → ∃ c, cs[j]? = some c ∧ chkConst x c = true := by
  unfold chkMake at hk
  split at hk
  · rename_i e he
    simp only [Bool.and_eq_true, beq_iff_eq] at hk
    obtain ⟨⟨⟨hsz, hel⟩, hby⟩, hzc⟩ := hk
    have hte : P.underlying t = some (.slice e) := by
      unfold elemP at he
      split at he
      · cases he; assumption
      · cases he
    split at hby
    · rename_i by_ hbytes
      have hb := of_decide_eq_true hby
      split at hzc
      · rename_i zv hzv
        have hinfo : ∃ i, P.info? e = some i ∧ i.bytes = by_ := by
          unfold bytesP at hbytes
          cases hi : P.info? e with
          | none => rw [hi] at hbytes; cases hbytes
          | some i => rw [hi] at hbytes; simp at hbytes; exact ⟨i, rfl, hbytes⟩
        obtain ⟨i, hi, hib⟩ := hinfo
        have hw : IntKind.i64.wrap m = m := by simp [IntKind.wrap, IntKind.bits, IntKind.signed]; omega
        have hle : ¬ ((by_ : Int) * m > 2 ^ 48) := by
          have h2 : (by_ : Int) * m ≤ (by_ : Int) * 1073741824 := Int.mul_le_mul_of_nonneg_left h1 (by omega)
          have hb' : ((by_ * 1073741824 : Nat) : Int) ≤ ((2 ^ 48 : Nat) : Int) := Int.ofNat_le.2 hb
          rw [Int.natCast_mul] at hb'
          intro h
          have e1 : ((2 ^ 48 : Nat) : Int) = 281474976710656 := by rfl
          have e2 : (2 ^ 48 : Int) = 281474976710656 := by rfl
          rw [e1] at hb'
          rw [e2] at h
          omega
        have hszv : zv.cells.size = n := by
          have := (cells_sound (G := ⟨fun _ _ => none, fun _ => none, fun _ => none, fun _ => False⟩) (w := w) hzc).1.1
          rw [elem_len hel] at this
          simpa using this.symm
        refine ⟨(Array.range (m.toNat * n)).map fun j => (if m.toNat * n = 0 then #[] else zv.cells)[j % (if m.toNat * n = 0 then #[] else zv.cells : Array Value).size]!, e, ?_, by simp, hel, fun j x hx => ?_⟩
        · unfold Instr.makeSlice
          simp only [Sem.run_bind, run_underlying w hte, Result.andThen_ok, asInt, asIntOf, Sem.run_pure, run_typeInfo w hi, hib, hw]
          have hcond : (decide (m < 0) || decide ((by_ : Int) * m > 2 ^ 48) || decide (m < 0) || decide (m > m)) = false := by
            rw [decide_eq_false (show ¬ m < 0 by omega), decide_eq_false hle, decide_eq_false (show ¬ m > m by omega)]
            rfl
          rw [hcond, if_neg Bool.false_ne_true]
          simp only [Sem.run_bind, run_askRoom, Result.andThen_ok, run_sizeOf w hsz, Sem.run_pure]
          by_cases hz0 : m.toNat * n = 0
          · simp [hz0, newRow]
          · simp [hz0, newRow, run_zeroValue w hzv]
        · obtain ⟨hj, hzx⟩ := flat_replicate hel _ _ _ hx
          have hne : ¬ m.toNat * n = 0 := by omega
          have hn0 : 0 < n := by
            rcases Nat.eq_zero_or_pos n with e | e
            · subst e; simp at hj
            · exact e
          have hjn := Nat.mod_lt j hn0
          have hget : ∀ {vs : List AV} {cs : List Value}, chkCells vs cs = true → ∀ (k : Nat) (y : AV), vs[k]? = some y → ∃ c, cs[k]? = some c ∧ chkConst y c = true := by
            intro vs
            induction vs with
            | nil => intro cs _ k y hy; simp at hy
            | cons v vs ih =>
              intro cs hc k y hy
              cases cs with
              | nil => cases hc
              | cons c cs =>
                simp only [chkCells, Bool.and_eq_true] at hc
                cases k with
                | zero => simp at hy; subst hy; exact ⟨c, rfl, hc.1.1⟩
                | succ k => exact ih hc.2 k y hy
          obtain ⟨c, hc, hcc⟩ := hget hzc _ _ hzx
          refine ⟨c, ?_, hcc⟩
          rw [Array.getElem?_toList] at hc
          have hc' : zv.cells[j % n]! = c := by rw [Array.getElem!_eq_getD]; simp [hc]
          simp [hj, hne, hszv, hc']
      · cases hzc
    · cases hby
  · cases hk

theorem op_mksl (s : Sim G T w) (he : EnvR G w E a) (hlo : lo ≤ T.length) {n : Nat} {z : AV} {l : Opd} {v : AV} {T' : Tab} (hc : chkOp P (.mksl n z l) o = true) (hs : stepOp call lo E T (.mksl n z l) = some (v, T')) : OpOK P o a w (Res lo G T w T' v) := by
  simp only [chkOp] at hc
  split at hc
  · rename_i t x y ho
    simp only [Bool.and_eq_true] at hc
    obtain ⟨⟨hk, hx⟩, hy⟩ := hc
    simp only [stepOp] at hs
    split at hs
    · rename_i m hm
      split at hs
      · rename_i hb
        simp only [Option.some.injEq, Prod.mk.injEq] at hs
        obtain ⟨rfl, rfl⟩ := hs
        obtain ⟨cs, ety, hr, hsz, hel, hcell⟩ := run_makeSlice (P := P) (w := w) hk hb.1 hb.2
        obtain ⟨G', u, s', hl⟩ := push_arr s n m.toNat (List.replicate m.toNat z) cs ety (by simp) (by omega) (fun e he => by rw [(List.mem_replicate.1 he).2]; exact hel) (fun j x hx => by
          obtain ⟨c, hc, hcc⟩ := hcell j x hx; exact ⟨c, hc, const_sound hcc⟩)
        refine opOK_value (v := .slice (some ⟨w.heap.size, 0, none⟩) m.toNat m.toNat) (w' := w.alloc (.cells cs ety)) ?_ ⟨G', u.ext hlo, s', ?_⟩
        · simp [execOp, ho, int_val he hx hm, int_val he hy hm, hr]
        · have := RV.sl (G := G') (w := w.alloc (.cells cs ety)) false n T.length 0 0 m.toNat w.heap.size 0 m.toNat m.toNat hl (Nat.le_refl _) (by omega)
          simpa using this
      · cases hs
    · cases hs
  · cases hc

/-- Many tokens of no elements. -/
theorem push_empties (lo : Nat) : ∀ (k : Nat) {G : Gh} {T : Tab} {w : World}, Sim G T w → lo ≤ T.length → Ext lo G T w G (T ++ List.replicate k (.arr 0 [])) w ∧ Sim G (T ++ List.replicate k (.arr 0 [])) w
  | 0, G, T, w, s, _ => by simp; exact ⟨.refl _ _ _ _, s⟩
  | k + 1, G, T, w, s, hlo => by
    obtain ⟨u, s'⟩ := push_empty s
    obtain ⟨X, s2⟩ := push_empties lo k s' (by simp; omega)
    rw [List.append_assoc] at X s2
    rw [List.replicate_succ]
    exact ⟨(u.ext hlo).trans X, s2⟩

theorem flat_hdrs (n' k : Nat) : ∀ (l : List Nat), flat (l.map fun i => AV.sl true n' (k + i) 0 0 0) = l.map fun i => AV.sl true n' (k + i) 0 0 0
  | [] => rfl
  | x :: l => by rw [List.map_cons, flat_cons, flat_hdrs n' k l]; rfl

theorem op_mkrows (s : Sim G T w) (he : EnvR G w E a) (hlo : lo ≤ T.length) {n' : Nat} {l : Opd} {v : AV} {T' : Tab} (hc : chkOp P (.mkrows n' l) o = true) (hs : stepOp call lo E T (.mkrows n' l) = some (v, T')) : OpOK P o a w (Res lo G T w T' v) := by
  simp only [chkOp] at hc
  split at hc
  · rename_i t x y ho
    simp only [Bool.and_eq_true] at hc
    obtain ⟨⟨hk, hx⟩, hy⟩ := hc
    simp only [stepOp] at hs
    split at hs
    · rename_i m hm
      split at hs
      · rename_i hb
        simp only [Option.some.injEq, Prod.mk.injEq] at hs
        obtain ⟨rfl, rfl⟩ := hs
        obtain ⟨cs, ety, hr, hsz, hel, hcell⟩ := run_makeSlice (P := P) (w := w) hk hb.1 hb.2
        let hd := (List.range m.toNat).map fun i => AV.sl true n' (T.length + 1 + i) 0 0 0
        have hflat : flat hd = hd := flat_hdrs n' _ _
        obtain ⟨G', u, s', hl⟩ := push_arr s 1 m.toNat hd cs ety (by simp [hd]) (by omega) (fun e he => by
          obtain ⟨i, _, rfl⟩ := List.mem_map.1 he; rfl) (fun j x hx => by
          rw [hflat] at hx
          have hj : j < m.toNat := by have := (List.getElem?_eq_some_iff.1 hx).1; simpa [hd] using this
          have hx' : x = .sl true n' (T.length + 1 + j) 0 0 0 := by simp [hd, hj] at hx; exact hx.symm
          subst hx'
          have hfr : flat (List.replicate m.toNat (AV.fz .isnil n' [])) = List.replicate m.toNat (AV.fz .isnil n' []) := flat_ones fun x hx => by rw [(List.mem_replicate.1 hx).2]; rfl
          obtain ⟨c, hc, hcc⟩ := hcell j (.fz .isnil n' []) (by rw [hfr]; simp [hj])
          refine ⟨c, hc, ?_⟩
          have : c = .slice none 0 0 := by
            unfold chkConst at hcc
            split at hcc <;> simp_all
          rw [this]
          exact .slnil _ _ _ _)
        obtain ⟨X2, s2⟩ := push_empties lo m.toNat s' (by simp; omega)
        rw [List.append_assoc] at X2 s2
        refine opOK_value (v := .slice (some ⟨w.heap.size, 0, none⟩) m.toNat m.toNat) (w' := w.alloc (.cells cs ety)) ?_ ⟨G', (u.ext hlo).trans X2, s2, ?_⟩
        · simp [execOp, ho, int_val he hx hm, int_val he hy hm, hr]
        · have := RV.sl (G := G') (w := w.alloc (.cells cs ety)) false 1 T.length 0 0 m.toNat w.heap.size 0 m.toNat m.toNat hl (Nat.le_refl _) (by omega)
          simpa using this
      · cases hs
    · cases hs
  · cases hc

/-! ### min, max -/
theorem ints_of : ∀ {vs : List AV} {cs : List Value} {l : List Int}, RVs G w vs cs → intArgs vs = some l → cs = l.map (Value.int .i64)
  | [], cs, l, r, h => by
    simp only [intArgs, Option.some.injEq] at h
    subst h
    have := r.1
    cases cs with
    | nil => rfl
    | cons c cs => simp at this
  | v :: vs, cs, l, r, h => by
    cases v with
    | int k n =>
      cases k with
      | i64 =>
        simp only [intArgs, Option.map_eq_some_iff] at h
        obtain ⟨l', hl, rfl⟩ := h
        cases cs with
        | nil => have := r.1; simp at this
        | cons c cs =>
          obtain ⟨c', hc', rc⟩ := r.2 0 _ rfl
          simp at hc'
          subst hc'
          cases rc
          rw [List.map_cons, ← ints_of (vs := vs) (cs := cs) ⟨by have := r.1; simpa using this, fun j x hx => r.2 (j + 1) x hx⟩ hl]
      | _ => simp [intArgs] at h
    | _ => simp [intArgs] at h

theorem run_max (l : List Int) : ∀ (x : Int), (List.foldlM Builtin.max2 (.int .i64 x) (l.map (Value.int .i64))).run P w = .ok (.int .i64 (l.foldl (fun x y => if y > x then y else x) x)) w := by
  induction l with
  | nil => intro x; rfl
  | cons y l ih => intro x; rw [List.map_cons, List.foldlM_cons, Sem.run_bind]; simp only [Builtin.max2, Sem.run_pure, Result.andThen_ok]; rw [ih]; rfl
theorem run_min (l : List Int) : ∀ (x : Int), (List.foldlM Builtin.min2 (.int .i64 x) (l.map (Value.int .i64))).run P w = .ok (.int .i64 (l.foldl (fun x y => if y < x then y else x) x)) w := by
  induction l with
  | nil => intro x; rfl
  | cons y l ih => intro x; rw [List.map_cons, List.foldlM_cons, Sem.run_bind]; simp only [Builtin.min2, Sem.run_pure, Result.andThen_ok]; rw [ih]; rfl

theorem op_mx (s : Sim G T w) (he : EnvR G w E a) {xs : List Opd} {v : AV} {T' : Tab} (hc : chkOp P (.mx xs) o = true) (hs : stepOp call lo E T (.mx xs) = some (v, T')) : OpOK P o a w (Res lo G T w T' v) := by
  simp only [chkOp] at hc
  split at hc
  · rename_i ys ts ho
    simp only [stepOp] at hs
    split at hs
    · rename_i x r hi
      simp only [Option.some.injEq, Prod.mk.injEq] at hs
      obtain ⟨rfl, rfl⟩ := hs
      have hys := ints_of (vals_sound he hc) hi
      refine opOK_value (w' := w) ?_ (res_same s (.int _ _))
      simp [execOp, ho, resolve, invoke, builtin, Builtin.max_, hys, run_max]
    · cases hs
  · cases hc
theorem op_mn (s : Sim G T w) (he : EnvR G w E a) {xs : List Opd} {v : AV} {T' : Tab} (hc : chkOp P (.mn xs) o = true) (hs : stepOp call lo E T (.mn xs) = some (v, T')) : OpOK P o a w (Res lo G T w T' v) := by
  simp only [chkOp] at hc
  split at hc
  · rename_i ys ts ho
    simp only [stepOp] at hs
    split at hs
    · rename_i x r hi
      simp only [Option.some.injEq, Prod.mk.injEq] at hs
      obtain ⟨rfl, rfl⟩ := hs
      have hys := ints_of (vals_sound he hc) hi
      refine opOK_value (w' := w) ?_ (res_same s (.int _ _))
      simp [execOp, ho, resolve, invoke, builtin, Builtin.min_, hys, run_min]
    · cases hs
  · cases hc

/-! ### Stores -/
theorem modify_flat {n : Nat} {vs : List AV} {off : Nat} : ∀ {es : List AV} {i : Nat}, (∀ e ∈ es, elemOk n e = true) → n ≠ 1 → off + vs.length ≤ n → i < es.length → (∀ x ∈ vs, AV.one x = true) →
    flat (es.modify i fun e => ewr e off vs) = wr (flat es) (i * n + off) vs ∧ (∀ e ∈ es.modify i fun e => ewr e off vs, elemOk n e = true)
  | [], i, _, _, _, h, _ => by simp at h
  | e :: es, 0, he, hn, hoff, _, h1 => by
    have hl := elem_len (he e List.mem_cons_self)
    have hag : ∃ cs, e = .agg cs ∧ cs.length = n ∧ ∀ x ∈ cs, AV.one x = true := by
      have h := he e List.mem_cons_self
      unfold elemOk at h
      rw [if_neg hn] at h
      split at h
      · simp at h; exact ⟨_, rfl, h.1, h.2⟩
      · cases h
    obtain ⟨cs, rfl, hcs, hone⟩ := hag
    rw [List.modify_zero_cons]
    constructor
    · rw [flat_cons, flat_cons]
      simp only [ewr, AV.cells, Nat.zero_mul, Nat.zero_add]
      unfold wr
      rw [List.take_append_of_le_length (by omega), List.drop_append_of_le_length (by omega)]
      simp
    · intro x hx
      rcases List.mem_cons.1 hx with rfl | hx
      · unfold elemOk
        rw [if_neg hn]
        simp only [ewr, Bool.and_eq_true, beq_iff_eq, List.all_eq_true]
        refine ⟨by rw [wr_length (by omega), hcs], fun y hy => ?_⟩
        rcases wr_mem hy with h | h
        · exact hone y h
        · exact h1 y h
      · exact he x (List.mem_cons_of_mem _ hx)
  | e :: es, i + 1, he, hn, hoff, hi, h1 => by
    obtain ⟨a1, a2⟩ := modify_flat (es := es) (i := i) (fun x hx => he x (List.mem_cons_of_mem _ hx)) hn hoff (by simpa using hi) h1
    rw [List.modify_succ_cons]
    have hl := elem_len (he e List.mem_cons_self)
    constructor
    · rw [flat_cons, a1, flat_cons]
      unfold wr
      have hk : (i + 1) * n + off = n + (i * n + off) := by rw [Nat.succ_mul]; omega
      rw [hk, List.take_append, List.drop_append, hl]
      rw [List.take_of_length_le (show e.cells.length ≤ n + (i * n + off) by omega), List.drop_of_length_le (show e.cells.length ≤ n + (i * n + off) + vs.length by omega)]
      rw [show n + (i * n + off) - n = i * n + off by omega, show n + (i * n + off) + vs.length - n = i * n + off + vs.length by omega]
      simp
    · intro x hx
      rcases List.mem_cons.1 hx with rfl | hx
      · exact he x List.mem_cons_self
      · exact a2 x hx

theorem set_flat {es : List AV} (he : ∀ e ∈ es, elemOk 1 e = true) {i : Nat} {v : AV} (hv : v.one = true) (hi : i < es.length) : flat (es.set i v) = wr (flat es) i [v] ∧ ∀ e ∈ es.set i v, elemOk 1 e = true := by
  have h1 : ∀ e ∈ es, AV.one e = true := fun e h => by have := he e h; simpa [elemOk] using this
  have h2 : ∀ e ∈ es.set i v, AV.one e = true := fun e h => by
    rcases List.mem_or_eq_of_mem_set h with h | rfl
    · exact h1 e h
    · exact hv
  refine ⟨?_, fun e h => elemOk_one (h2 e h)⟩
  rw [flat_ones h1, flat_ones h2]
  unfold wr
  rw [List.set_eq_take_append_cons_drop, if_pos hi]
  simp

theorem storeVar_run {t : TypeId} {n : Nat} (hsz : sizeP P t = some n) {b k : Nat} {ety : TypeId} {c : Array Value} (hh : w.heap[b]? = some (.cells c ety (0, 0))) (v : Value) (hn : v.cells.size = n) (hk : k + n ≤ c.size)
    (h1 : ∀ x ∈ v.cells.toList, x.oneCell' = true) : ∃ w', (storeVar t ⟨b, k, none⟩ v).run P w = .ok () w' ∧ Wrote w w' b (wrArr c k v.cells.toList) ety := by
  obtain ⟨w', hr, hw⟩ := storeCells_run P b ety v.cells.toList w c k 0 hh (by simp; omega) h1
  refine ⟨w', ?_, by simpa using hw⟩
  simp only [storeVar, Sem.run_bind, run_sizeOf w hsz, Result.andThen_ok]
  rw [if_neg (by omega)]
  simpa using hr

theorem op_st (s : Sim G T w) (he : EnvR G w E a) {n : Nat} {p x : Opd} {v : AV} {T' : Tab} (hc : chkOp P (.st n p x) o = true) (hs : stepOp call lo E T (.st n p x) = some (v, T')) : OpOK P o a w (Res lo G T w T' v) := by
  simp only [chkOp] at hc
  split at hc
  · rename_i t y z ho
    simp only [Bool.and_eq_true, beq_iff_eq] at hc
    obtain ⟨⟨hsz, hp⟩, hx⟩ := hc
    have rp := val_sound he hp
    have rx := val_sound he hx
    simp only [stepOp, Option.map_eq_some_iff, Prod.mk.injEq] at hs
    obtain ⟨T1, hst, rfl, rfl⟩ := hs
    unfold stv at hst
    split at hst
    · rename_i hb
      obtain ⟨hlen, hone⟩ := hb
      have rv := cells_rvs rx hone
      have hcn : (a.eval z).cells.size = n := by have := rv.1; simp at this; omega
      have h1c : ∀ c ∈ (a.eval z).cells.toList, c.oneCell' = true := by
        intro c hcm
        obtain ⟨j, hj, hjc⟩ := List.getElem_of_mem hcm
        have hj' : j < (val E x).cells.length := by rw [rv.1]; exact hj
        obtain ⟨c', hc', rc⟩ := rv.2 j _ (List.getElem?_eq_getElem hj')
        rw [List.getElem?_eq_getElem hj, hjc] at hc'
        cases hc'
        exact one_cell rc (List.all_eq_true.1 hone _ (List.getElem_mem hj'))
      have fin : ∀ b k (c : Array Value) ety, a.eval y = .pointer (some ⟨b, k, none⟩) → w.heap[b]? = some (.cells c ety (0, 0)) → k + n ≤ c.size →
          (∀ w', Wrote w w' b (wrArr c k (a.eval z).cells.toList) ety → Ext lo G T w G T1 w' ∧ Sim G T1 w') → OpOK P o a w (Res lo G T w T1 (.tup [])) := by
        intro b k c ety hy hh hk hfin
        obtain ⟨w', hr, hw⟩ := storeVar_run (P := P) hsz hh (a.eval z) hcn hk h1c
        obtain ⟨X, s'⟩ := hfin w' hw
        refine opOK_skip (w' := w') ?_ ⟨G, X, s', .tup [] #[] rfl (fun i x c h => by simp at h)⟩
        simp [execOp, ho, hy, Instr.storeAt, Instr.sureAddr, hr]
      split at hst
      · rename_i tk off hpv
        split at hst
        · rename_i cs ht
          split at hst
          · rename_i hb2
            obtain ⟨hlo, hoff⟩ := hb2
            cases hst
            rw [hpv] at rp
            generalize hcy : a.eval y = cy at rp
            cases rp with
            | ptr _ _ b hbx =>
              obtain ⟨b', c, ety, A⟩ := s.box tk cs ht
              have : b' = b := by rw [A.loc] at hbx; exact Option.some.inj hbx
              subst this
              refine fin b' off c ety hcy A.heap (by rw [A.size]; exact hoff) fun w' hw => ?_
              obtain ⟨u, s'⟩ := set_box s ht A off (val E x).cells _ (by omega) (fun y hy => List.all_eq_true.1 hone y hy) rv hw
              exact ⟨u.ext hlo, s'⟩
          · cases hst
        · cases hst
      · rename_i mb n' tk g o' l i off hpv
        split at hst
        · rename_i g' es ht
          split at hst
          · rename_i hb2
            obtain ⟨hlo, rfl, hol, hil, hon⟩ := hb2
            rw [hpv] at rp
            generalize hcy : a.eval y = cy at rp
            cases rp with
            | ep _ _ _ b k len cap n2 h hn hi =>
              have hn2 : n' = n2 := by simpa [esz] using hn
              subst hn2
              cases h with
              | sl _ _ _ _ _ _ b base _ capT hl h1' h2' =>
                obtain ⟨_, ⟨_, hno⟩ | ⟨L, c, ety, A⟩⟩ := s.arr tk g es ht
                · rw [hno] at hl; cases hl
                · have hL : L = ⟨b, base, n', capT⟩ := by rw [A.loc] at hl; exact Option.some.inj hl
                  subst hL
                  have hel : ∀ e ∈ es, elemOk n' e = true := A.elem
                  have hfl : (flat es).length = es.length * n' := flat_len hel
                  have hidx : o' + i < es.length := by omega
                  have hkk : (o' + i) * n' + off + n ≤ es.length * n' := by
                    have : (o' + i + 1) * n' ≤ es.length * n' := Nat.mul_le_mul_right _ (by omega)
                    rw [Nat.succ_mul] at this
                    omega
                  have hin : base + ((o' + i) * n' + off) + n ≤ c.size := by
                    have h1 : es.length * n' ≤ capT * n' := Nat.mul_le_mul_right _ A.len
                    have := A.size
                    simp only at this
                    omega
                  have haddr : base + o' * n' + i * n' + off = base + ((o' + i) * n' + off) := by rw [Nat.add_mul]; omega
                  refine fin b _ c ety hcy A.heap (by rw [haddr]; exact hin) fun w' hw => ?_
                  rw [haddr] at hw
                  split at hst
                  · rename_i hn1
                    subst hn1
                    split at hst
                    · rename_i hv1
                      cases hst
                      obtain ⟨f1, f2⟩ := set_flat hel hv1 hidx
                      have hc1 := one_cells hv1
                      have hoff0 : off = 0 := by rw [hc1] at hlen; simp at hlen; omega
                      subst hoff0
                      obtain ⟨u, s'⟩ := set_arr s ht A ((o' + i) * 1 + 0) (val E x).cells _ (by rw [hfl, hc1]; simp; omega) (by simp) f2 (by rw [f1, hc1]; simp) rv hw
                      exact ⟨u.ext hlo, s'⟩
                    · cases hst
                  · rename_i hn1
                    cases hst
                    obtain ⟨f1, f2⟩ := modify_flat hel hn1 (vs := (val E x).cells) (off := off) (by omega) hidx (fun y hy => List.all_eq_true.1 hone y hy)
                    obtain ⟨u, s'⟩ := set_arr s ht A ((o' + i) * n' + off) (val E x).cells _ (by rw [hfl]; omega) (by simp) f2 f1 rv hw
                    exact ⟨u.ext hlo, s'⟩
              | slz => omega
          · cases hst
        · cases hst
      · cases hst
    · cases hst
  · cases hc
end
end Go.Proofs.Ytlilfiekkaolkaa.Am
