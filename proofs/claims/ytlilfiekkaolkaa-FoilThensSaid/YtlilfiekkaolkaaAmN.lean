/- Operations, eighth part: calls. -/
import Derived.Test.YtlilfiekkaolkaaAmM
import Derived.Laws.StructEq
set_option linter.unusedVariables false
set_option linter.unusedSimpArgs false
namespace Go.Proofs.Ytlilfiekkaolkaa.Am
open Go

/-- What is known of the calls. -/
structure CallOK (P : Program) (call : CallA) (lo : Nat) : Prop where
  enter : ∀ f args T r, call lo f args T = some r → ∀ (cargs : Array Value) (w : World), (callFunc (f % 1000) cargs).run P w = .ok (.enter (f % 1000) cargs) w
  calls : ∀ f args T v T' G w (cargs : List Value), call lo f args T = some (v, T') → Sim G T w → lo ≤ T.length → RVs G w args cargs →
    Calls P (f % 1000) cargs.toArray w fun e w' => ∃ cv, e = .returned cv ∧ Res lo G T w T' v cv w'

section
variable {P : Program} {G : Gh} {T : Tab} {w : World} {E : Env} {a : Act} {o : Oper} {call : CallA} {lo : Nat}

theorem RVs.append {vs us : List AV} {cs ds : List Value} (h : RVs G w vs cs) (k : RVs G w us ds) : RVs G w (vs ++ us) (cs ++ ds) := by
  refine ⟨by simp [h.1, k.1], fun j x hx => ?_⟩
  have hl := h.1
  rcases Nat.lt_or_ge j vs.length with hj | hj
  · rw [List.getElem?_append_left hj] at hx
    obtain ⟨c, hc, r⟩ := h.2 j x hx
    exact ⟨c, by rw [List.getElem?_append_left (by omega)]; exact hc, r⟩
  · rw [List.getElem?_append_right hj] at hx
    obtain ⟨c, hc, r⟩ := k.2 _ x hx
    exact ⟨c, by rw [List.getElem?_append_right (by omega), ← hl]; exact hc, r⟩

theorem RVs.one {v : AV} {c : Value} (h : RV G w v c) : RVs G w [v] [c] := ⟨rfl, fun j x hx => by
  match j with
  | 0 => simp at hx; subst hx; exact ⟨c, rfl, h⟩
  | j + 1 => simp at hx⟩

theorem RVs.of_arr {vs : List AV} {cvs : Array Value} (h1 : cvs.size = vs.length) (h : ∀ (i : Nat) (x : AV) (c : Value), vs[i]? = some x → cvs[i]? = some c → RV G w x c) : RVs G w vs cvs.toList :=
  ⟨by simp [h1], fun j x hx => by
    have hj : j < cvs.size := by rw [h1]; exact (List.getElem?_eq_some_iff.1 hx).1
    exact ⟨cvs[j], by simp [hj], h j x _ hx (Array.getElem?_eq_getElem hj)⟩⟩

theorem op_calls (ok : CallOK P call lo) (s : Sim G T w) (hlo : lo ≤ T.length) {f : Nat} {args : List AV} {cargs : Array Value} {v : AV} {T' : Tab} (hs : call lo f args T = some (v, T')) (hr : RVs G w args cargs.toList)
    (hx : (execOp a.eval o).run P w = (callFunc (f % 1000) cargs).run P w) : OpOK P o a w (Res lo G T w T' v) := by
  refine opOK_enter (f := f % 1000) (args := cargs) (w' := w) (by rw [hx, ok.enter f args T _ hs]) ?_
  have := ok.calls f args T v T' G w cargs.toList hs s hlo hr
  simpa using this

theorem op_call (ok : CallOK P call lo) (s : Sim G T w) (hlo : lo ≤ T.length) (he : EnvR G w E a) {f : Nat} {xs : List Opd} {v : AV} {T' : Tab} (hc : chkOp P (.call f xs) o = true) (hs : stepOp call lo E T (.call f xs) = some (v, T')) : OpOK P o a w (Res lo G T w T' v) := by
  simp only [chkOp] at hc
  split at hc
  · rename_i g ys ts ho
    simp only [Bool.and_eq_true, beq_iff_eq] at hc
    obtain ⟨rfl, h2⟩ := hc
    simp only [stepOp] at hs
    refine op_calls ok s hlo (cargs := ys.map a.eval) hs ?_ ?_
    · have := vals_sound he h2
      rwa [Array.toList_map]
    · simp [execOp, ho, resolve, Deferred.ofValue, invoke, Act.eval]
  · cases hc

theorem op_callv (ok : CallOK P call lo) (s : Sim G T w) (hlo : lo ≤ T.length) (he : EnvR G w E a) {f : Opd} {xs : List Opd} {v : AV} {T' : Tab} (hc : chkOp P (.callv f xs) o = true) (hs : stepOp call lo E T (.callv f xs) = some (v, T')) : OpOK P o a w (Res lo G T w T' v) := by
  simp only [chkOp] at hc
  split at hc
  · rename_i y ys ts ho
    simp only [Bool.and_eq_true] at hc
    obtain ⟨h1, h2⟩ := hc
    simp only [stepOp] at hs
    split at hs
    · rename_i g fs cs hf
      have rf := val_sound he h1
      rw [hf] at rf
      generalize hy : a.eval y = u at rf
      cases rf with
      | clos _ _ _ fvs cvs z1 z2 hfr hcr =>
        refine op_calls ok s hlo (cargs := fvs ++ ys.map a.eval ++ cvs) hs ?_ ?_
        · simp only [Array.toList_append, Array.toList_map]
          exact ((RVs.of_arr z1 hfr).append (vals_sound he h2)).append (RVs.of_arr z2 hcr)
        · simp [execOp, ho, resolve, Deferred.ofValue, invoke, hy]
    · cases hs
  · cases hc

theorem eqf_run {n k : Nat} (x y : List Int) (hx : x.length = n) (hy : y.length = n) : ∀ (fs : List Field) (i : Nat), chkInts P n i fs = true →
    (Op.eqFields (k + 1) (x.map (Value.int .i64)).toArray (y.map (Value.int .i64)).toArray fs).run P w = .ok (decide (x.drop i = y.drop i)) w
  | [], i, h => by
    simp only [chkInts, beq_iff_eq] at h
    subst h
    have h1 : x.drop i = [] := List.drop_eq_nil_of_le (by omega)
    have h2 : y.drop i = [] := List.drop_eq_nil_of_le (by omega)
    simp [Op.eqFields, h1, h2]
  | f :: fs, i, h => by
    simp only [chkInts, Bool.and_eq_true, beq_iff_eq, bne_iff_ne] at h
    obtain ⟨⟨⟨hn, hu⟩, ho⟩, hr⟩ := h
    have hu' : P.underlying f.type = some (.int .i64) := by
      split at hu
      · assumption
      · cases hu
    have hbound : ∀ (fs : List Field) (j : Nat), chkInts P n j fs = true → j ≤ n := by
      intro fs
      induction fs with
      | nil => intro j h; simp only [chkInts, beq_iff_eq] at h; omega
      | cons g gs ih => intro j h; simp only [chkInts, Bool.and_eq_true] at h; have := ih _ h.2; omega
    have hi : i < n := by have := hbound fs (i + 1) hr; omega
    have ih := eqf_run (k := k) x y hx hy fs (i + 1) hr
    have hag : aggP P f.type = some false := by simp [aggP, hu']
    have px : (part f.type (x.map (Value.int .i64)).toArray i).run P w = .ok (.int .i64 (x[i]'(by omega))) w := by simp [part, run_isAgg w hag, hx, hi]
    have py : (part f.type (y.map (Value.int .i64)).toArray i).run P w = .ok (.int .i64 (y[i]'(by omega))) w := by simp [part, run_isAgg w hag, hy, hi]
    have pe : (Op.equalIn (k + 1) f.type (.int .i64 (x[i]'(by omega))) (.int .i64 (y[i]'(by omega)))).run P w = .ok ((x[i]'(by omega)) == (y[i]'(by omega))) w := run_equalIn_int w k f.type .i64 .i64 _ _ hu'
    have key : (x.drop i = y.drop i) ↔ ((x[i]'(by omega)) = (y[i]'(by omega)) ∧ x.drop (i + 1) = y.drop (i + 1)) := by
      have h1 := List.drop_eq_getElem_cons (show i < x.length by omega)
      have h2 := List.drop_eq_getElem_cons (show i < y.length by omega)
      constructor
      · intro h
        rw [h1, h2] at h
        exact List.cons.inj h
      · intro h
        rw [h1, h2, h.1, h.2]
    have key2 : decide (x.drop i = y.drop i) = (decide ((x[i]'(by omega)) = (y[i]'(by omega))) && decide (x.drop (i + 1) = y.drop (i + 1))) := by
      rw [← Bool.decide_and]
      exact decide_eq_decide.2 key
    rw [key2]
    simp only [Op.eqFields, if_pos hn, Sem.run_bind, ho, px, py, pe, Result.andThen_ok, Sem.run_ite, Sem.run_pure]
    by_cases e : (x[i]'(by omega)) = (y[i]'(by omega))
    · have e1 : ((x[i]'(by omega)) == (y[i]'(by omega))) = true := by rw [beq_iff_eq]; exact e
      have e2 : decide ((x[i]'(by omega)) = (y[i]'(by omega))) = true := decide_eq_true e
      simp only [e1, e2, Bool.not_true, Bool.false_eq_true, if_false, Bool.true_and]
      exact ih
    · have e1 : ((x[i]'(by omega)) == (y[i]'(by omega))) = false := beq_eq_false_iff_ne.2 e
      have e2 : decide ((x[i]'(by omega)) = (y[i]'(by omega))) = false := decide_eq_false e
      simp only [e1, e2, Bool.not_false, if_true, Bool.false_and]

theorem op_aeq (s : Sim G T w) (he : EnvR G w E a) {neg : Bool} {n : Nat} {x y : Opd} {v : AV} {T' : Tab} (hc : chkOp P (.aeq neg n x y) o = true) (hs : stepOp call lo E T (.aeq neg n x y) = some (v, T')) : OpOK P o a w (Res lo G T w T' v) := by
  simp only [chkOp] at hc
  split at hc
  · rename_i op' t x' y' yt ho
    simp only [Bool.and_eq_true, decide_eq_true_eq, Bool.not_eq_true'] at hc
    obtain ⟨⟨⟨⟨⟨hop, hx⟩, hy⟩, ht⟩, hg⟩, hst⟩ := hc
    have rx := val_sound he hx
    have ry := val_sound he hy
    simp only [stepOp] at hs
    split at hs
    · rename_i cs ds hcs hds
      split at hs
      · rename_i p q hp hq
        split at hs
        · rename_i hlen
          simp only [Option.some.injEq, Prod.mk.injEq] at hs
          obtain ⟨rfl, rfl⟩ := hs
          rw [hcs] at rx
          rw [hds] at ry
          have toArr : ∀ {cs : List AV} {cv : Value} {p : List Int}, RV G w (.agg cs) cv → intArgs cs = some p → cv = .agg (p.map (Value.int .i64)).toArray := by
            intro cs cv p r h
            cases r with
            | agg _ cvs h1 hr =>
              have hv : RVs G w cs cvs.toList := ⟨by simp [h1], fun j x hx => by
                have hj : j < cvs.size := by rw [h1]; exact (List.getElem?_eq_some_iff.1 hx).1
                exact ⟨cvs[j], by simp [hj], hr j x _ hx (Array.getElem?_eq_getElem hj)⟩⟩
              rw [← ints_of hv h]
          have ex := toArr rx hp
          have ey := toArr ry hq
          split at ht
          · rename_i fs hu
            have hf : P.fieldsOf t = fs := by simp [Program.fieldsOf, hu]
            have hrun : (Op.equalIn 10000 t (.agg (p.map (Value.int .i64)).toArray) (.agg (q.map (Value.int .i64)).toArray)).run P w = .ok (decide (p = q)) w := by
              rw [run_equalIn_struct w 9999 t _ _ (by rw [hf]; exact hu) hst, hf]
              have := eqf_run (P := P) (w := w) (k := 9998) p q hlen.1 hlen.2 fs.toList 0 ht
              simpa using this
            refine opOK_value (v := .bool (if neg then !decide (p = q) else decide (p = q))) (w' := w) ?_ (res_same s (.bool _))
            cases neg
            · simp only [Bool.false_eq_true, if_false] at hop
              subst hop
              simp [execOp, ho, ex, ey, run_eqGuard_agg w _ _ _ _ _ _ hg, run_eql_struct, hrun]
            · simp only [if_true] at hop
              subst hop
              simp [execOp, ho, ex, ey, run_eqGuard_agg w _ _ _ _ _ _ hg, run_neq_struct, hrun]
          · cases ht
        · cases hs
      · cases hs
    · cases hs
  · cases hc

theorem invoke_method (r : Value) (name : String) (cap args : Array Value) : invoke (.fn (.method name) cap) (#[r] ++ args) = callMethod r name args := by
  have h0 : (#[r] ++ args)[0]? = some r := by rw [← Array.getElem?_toList]; simp
  have h1 : (#[r] ++ args).extract 1 (#[r] ++ args).size = args := by
    apply Array.ext'
    simp
  unfold invoke
  simp only [h0, h1]

theorem wrapNil (ts : Array TypeId) (t : TypeId) (ad : Addr) (s m : String) : Builtin.ssaWrapNilChk_ ts t #[.pointer (some ad), strVal s, strVal m] = pure (.pointer (some ad)) := rfl

theorem op_inv (ok : CallOK P call lo) (s : Sim G T w) (hlo : lo ≤ T.length) (he : EnvR G w E a) {tbl : List (Nat × Nat × Option (Bool × Nat))} {x : Opd} {xs : List Opd} {v : AV} {T' : Tab} (hc : chkOp P (.inv tbl x xs) o = true) (hs : stepOp call lo E T (.inv tbl x xs) = some (v, T')) : OpOK P o a w (Res lo G T w T' v) := by
  simp only [chkOp] at hc
  split at hc
  · rename_i y name ys ts ho
    simp only [Bool.and_eq_true] at hc
    obtain ⟨⟨h1, h2⟩, h3⟩ := hc
    simp only [stepOp] at hs
    have rx := val_sound he h1
    have ra := vals_sound he h2
    split at hs
    · rename_i ty u hx
      rw [hx] at rx
      generalize hy : a.eval y = cu at rx
      cases rx with
      | iface _ _ c hr =>
        have hfind : ∀ r, findM ty tbl = some r → chkMeth P name ty r.1 r.2 = true := by
          have : ∀ (l : List (Nat × Nat × Option (Bool × Nat))) r, (l.all fun r => chkMeth P name r.1 r.2.1 r.2.2) = true → findM ty l = some r → chkMeth P name ty r.1 r.2 = true := by
            intro l
            induction l with
            | nil => intro r _ h; cases h
            | cons p l ih =>
              intro r h hf
              obtain ⟨t, f, d⟩ := p
              simp only [List.all_cons, Bool.and_eq_true] at h
              simp only [findM] at hf
              split at hf
              · rename_i ht; cases hf; subst ht; exact h.1
              · exact ih r h.2 hf
          exact fun r hr => this tbl r h3 hr
        have hd : 0 < Made.depth := by decide
        have hfuel : ∃ k, P.types.size + Made.depth = k + 1 := ⟨P.types.size + Made.depth - 1, by omega⟩
        obtain ⟨k, hk⟩ := hfuel
        split at hs
        · rename_i f hm
          have hch := hfind _ hm
          simp only [chkMeth] at hch
          split at hch
          · rename_i i hi
            split at hch
            · rename_i m hfm
              simp only [Bool.and_eq_true, beq_iff_eq] at hch
              obtain ⟨⟨hp, hfn⟩, hu⟩ := hch
              split at hu
              · rename_i e hue
                have hp' : m.path.toList = [] := by simpa using hp
                refine op_calls ok s hlo (cargs := #[c] ++ ys.map a.eval) hs ?_ ?_
                · simp only [Array.toList_append, Array.toList_map]
                  exact (RVs.one hr).append ra
                · simp [execOp, ho, resolve, invoke_method, hy, callMethod, hk, method, run_typeInfo w hi, hfm, hp', follow, hfn, receiverAt, run_underlying w hue, Place.get]
              · cases hu
            · cases hch
          · cases hch
        · rename_i f agg n hm
          have hch := hfind _ hm
          simp only [chkMeth] at hch
          split at hch
          · rename_i i hi
            split at hch
            · rename_i m hfm
              simp only [Bool.and_eq_true, beq_iff_eq] at hch
              obtain ⟨⟨hp, hfn⟩, hu⟩ := hch
              split at hu
              · rename_i e hue
                simp only [Bool.and_eq_true, beq_iff_eq] at hu
                have hp' : m.path.toList = [] := by simpa using hp
                split at hs
                · rename_i u' hld
                  obtain ⟨b, kk, cv, rfl, hrun, hrv⟩ := ldv_sound (P := P) s hu.1 hu.2 hr hld
                  refine op_calls ok s hlo (cargs := #[cv] ++ ys.map a.eval) hs ?_ ?_
                  · simp only [Array.toList_append, Array.toList_map]
                    exact (RVs.one hrv).append ra
                  · simp [execOp, ho, resolve, invoke_method, hy, callMethod, hk, method, run_typeInfo w hi, hfm, hp', follow, hfn, receiverAt, run_underlying w hue, Place.get, show m.path = #[] by simpa using hp, wrapNil, asAddr, hrun]
                · cases hs
              · cases hu
            · cases hch
          · cases hch
        · cases hs
    · cases hs
  · cases hc
end
end Go.Proofs.Ytlilfiekkaolkaa.Am
