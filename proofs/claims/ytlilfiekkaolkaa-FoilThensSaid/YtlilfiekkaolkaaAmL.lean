/- Operations, sixth part: append, copy. -/
import Derived.Test.YtlilfiekkaolkaaAmK
set_option linter.unusedVariables false
set_option linter.unusedSimpArgs false
namespace Go.Proofs.Ytlilfiekkaolkaa.Am
open Go
section
variable {P : Program} {G : Gh} {T : Tab} {w : World} {E : Env} {a : Act} {o : Oper} {call : CallA} {lo : Nat}

/-- The cells of a slice that is read. -/
theorem firstCells_run (s : Sim G T w) {v : AV} {es : List AV} {c : Value} {n : Nat} (hr : rd T v = some es) (r : RV G w v c) (hn : esz v = some n) (k : Nat) (hk : k ≤ es.length) :
    ∃ cs : Array Value, (Builtin.firstCells n k c).run P w = .ok cs w ∧ RVs G w (flat (es.take k)) cs.toList ∧ cs.size = k * n := by
  obtain ⟨A, cap, n', rfl, hle, hn', _, hel, hx, _⟩ := rd_sound s hr r
  rw [hn] at hn'
  obtain rfl := Option.some.inj hn'
  have hel' : ∀ e ∈ es.take k, elemOk n e = true := fun e he => hel e (List.mem_of_mem_take he)
  have hfl : (flat (es.take k)).length = k * n := by rw [flat_len hel', List.length_take, Nat.min_eq_left hk]
  have hnil : k * n = 0 → ∃ cs : Array Value, (Builtin.firstCells n k (.slice A es.length cap)).run P w = .ok cs w ∧ RVs G w (flat (es.take k)) cs.toList ∧ cs.size = k * n := by
    intro h0
    refine ⟨#[], ?_, ⟨by rw [hfl, h0]; rfl, fun j x h => ?_⟩, by simp [h0]⟩
    · cases A with
      | none => simp [Builtin.firstCells]
      | some ad => simp [Builtin.firstCells, h0, loadCells, loadCellsFrom]
    · have := (List.getElem?_eq_some_iff.1 h).1
      omega
  by_cases h0 : k * n = 0
  · exact hnil h0
  · rcases hx with rfl | ⟨b, o', rfl, R⟩
    · simp at hk; subst hk; simp at h0
    · have hf : ∀ j, ∃ cv, ∀ x, (flat (es.take k))[j]? = some x → w.cell? ⟨b, o' + j, none⟩ = some cv ∧ RV G w x cv := by
        intro j
        cases hj : (flat (es.take k))[j]? with
        | none => exact ⟨undef, fun x hx => by cases hx⟩
        | some x =>
          rw [flat_take k hel, List.getElem?_take] at hj
          split at hj
          · obtain ⟨cv, h1, h2⟩ := R.cell j x hj
            exact ⟨cv, fun y hy => by cases hy; exact ⟨h1, h2⟩⟩
          · cases hj
      let f : Nat → Value := fun j => Classical.choose (hf j)
      have hfs := fun j => Classical.choose_spec (hf j)
      have hin : ∀ j, j < k * n → ∃ x, (flat (es.take k))[j]? = some x := fun j hj => ⟨_, List.getElem?_eq_getElem (by omega)⟩
      refine ⟨((List.range (k * n)).map f).toArray, ?_, ⟨by simp [hfl], fun j x hx => ?_⟩, by simp⟩
      · exact loadCells_run P w b o' (k * n) f fun j hj => by obtain ⟨x, hx⟩ := hin j hj; exact (hfs j x hx).1
      · have hj : j < k * n := by have := (List.getElem?_eq_some_iff.1 hx).1; omega
        exact ⟨f j, by simp [hj], (hfs j x hx).2⟩

theorem growBy_le (newLen : Nat) : ∀ (r c : Nat), c ≤ 2 * newLen + 256 → Builtin.growBy newLen r c ≤ 2 * newLen + 256
  | 0, c, h => h
  | r + 1, c, h => by
    unfold Builtin.growBy
    split
    · exact h
    · exact growBy_le newLen r _ (by omega)
theorem nextslicecap_le {newLen oldCap : Nat} (h : oldCap < newLen) : Builtin.nextslicecap newLen oldCap ≤ 2 * newLen + 256 := by
  unfold Builtin.nextslicecap
  split
  · omega
  · split
    · omega
    · exact growBy_le _ _ _ (by omega)

/-- What append does, by cases. -/
theorem run_append {t t' e : TypeId} {n : Nat} (hte : P.underlying t = some (.slice e)) (hsz : sizeP P e = some n) (ht' : ∃ e', P.underlying t' = some (.slice e')) (hg : chkGrow P t n = true)
    {A : Option Addr} {sLen sCap m : Nat} {B : Option Addr} {bCap : Nat} (hbound : sLen + m ≤ 1073741824) {new : Array Value} (hnew : (Builtin.firstCells n m (.slice B m bCap)).run P w = .ok new w) :
    (sLen + m ≤ sCap → ∀ w', (∀ ad, A = some ad → (storeCells (ad.add (sLen * n)) new.toList).run P w = .ok () w') → (A = none → w' = w) →
      (Builtin.append_ #[t, t'] t #[.slice A sLen sCap, .slice B m bCap]).run P w = .ok (.slice A (sLen + m) sCap) w') ∧
    (sCap < sLen + m → ∃ newCap zs, ∀ old new1 w1, w1 = { w with drawn := w.drawn + 1 } → (Builtin.firstCells n sLen (.slice A sLen sCap)).run P w1 = .ok old w1 → (Builtin.firstCells n m (.slice B m bCap)).run P w1 = .ok new1 w1 →
      (Builtin.append_ #[t, t'] t #[.slice A sLen sCap, .slice B m bCap]).run P w = .ok (.slice (some ⟨w.heap.size, 0, none⟩) (sLen + m) newCap) (w1.alloc (.cells (old ++ new1 ++ zs) e)) ∧ sLen + m ≤ newCap ∧ zs.size = (newCap - (sLen + m)) * n) := by
  obtain ⟨e', ht'⟩ := ht'
  have hep : elemP P t = some e := by simp [elemP, hte]
  unfold chkGrow at hg
  rw [hep] at hg
  simp only [Bool.and_eq_true] at hg
  obtain ⟨hby, hz⟩ := hg
  split at hby
  · rename_i by_ hbytes
    simp only [Bool.and_eq_true, decide_eq_true_eq] at hby
    split at hz
    · rename_i zv hzv
      simp only [beq_iff_eq] at hz
      have hinfo : ∃ i, P.info? e = some i ∧ i.bytes = by_ := by
        unfold bytesP at hbytes
        cases hi : P.info? e with
        | none => rw [hi] at hbytes; cases hbytes
        | some i => rw [hi] at hbytes; simp at hbytes; exact ⟨i, rfl, hbytes⟩
      obtain ⟨i, hi, hib⟩ := hinfo
      constructor
      · intro hle w' hst hno
        have hle' : (sLen + m ≤ sCap) = True := eq_true hle
        cases A with
        | none =>
          simp only [hno rfl]
          simp [Builtin.append_, run_underlying w hte, run_underlying w ht', run_sizeOf w hsz, Builtin.lenOf, hle, hnew]
        | some ad =>
          have h1 := hst ad rfl
          simp [Builtin.append_, run_underlying w hte, run_underlying w ht', run_sizeOf w hsz, Builtin.lenOf, hle, hnew, h1]
      · intro hlt
        have hnle : ¬ sLen + m ≤ sCap := by omega
        have hbig : ¬ (Builtin.nextslicecap (sLen + m) sCap * by_ > 2 ^ 48) := by
          have h1 := nextslicecap_le hlt
          have h2 : Builtin.nextslicecap (sLen + m) sCap * by_ ≤ 8589934592 * by_ := Nat.mul_le_mul_right _ (by omega)
          have h3 := hby.1
          rw [Nat.mul_comm by_] at h3
          omega
        have hq : (Question.appendCap (sLen + m) sCap e).forced = false := rfl
        refine ⟨(Question.appendCap (sLen + m) sCap e).cut (w.tape w.drawn (.appendCap (sLen + m) sCap e)), Builtin.zeroCells zv.cells ((Question.appendCap (sLen + m) sCap e).cut (w.tape w.drawn (.appendCap (sLen + m) sCap e)) - (sLen + m)), fun old new1 w1 hw1 hold hnew1 => ⟨?_, by simp [Question.cut], by simp [Builtin.zeroCells, hz]⟩⟩
        have hb0 : ¬ (by_ = 0) := by omega
        have hw1' : w.drew = w1 := by rw [hw1]; rfl
        have hsize : w1.heap.size = w.heap.size := by rw [hw1]
        subst hib
        simp [Builtin.append_, run_underlying w hte, run_underlying w ht', run_sizeOf w hsz, Builtin.lenOf, hnle, run_typeInfo w hi, hb0, hbig, hq, hw1', run_typeInfo w1 hi, hold, hnew1, run_zeroValue w1 hzv, newRow, hsize]
    · cases hz
  · cases hby

theorem res_of_ext {T1 : Tab} {w1 : World} {G1 : Gh} {v : AV} {cv : Value} (X : Ext lo G T w G1 T1 w1) (s : Sim G1 T1 w1) (r : RV G1 w1 v cv) : Res lo G T w T1 v cv w1 := ⟨G1, X, s, r⟩

theorem run_call_builtin {b : Builtin} {ys : Array Operand} {ts : Array TypeId} (ho : o.op = .call { callee := .builtin b, args := ys, argTypes := ts }) {v : Value} {w' : World}
    (h : (builtin b ts o.type (ys.map fun | .const _ => true | _ => false) (ys.map a.eval)).run P w = .ok (.value v) w') : (execOp a.eval o).run P w = .ok (.value v) w' := by
  simp only [execOp, ho, resolve, Sem.run_bind, Sem.run_pure, Result.andThen_ok, invoke]
  exact h

theorem grow_rvs {es1 es2 : List AV} {c1 c2 zs : Array Value} (h1 : RVs G w (flat es1) c1.toList) (h2 : RVs G w (flat es2) c2.toList) :
    ∀ (j : Nat) (x : AV), (flat (es1 ++ es2))[j]? = some x → ∃ v, (c1 ++ c2 ++ zs)[j]? = some v ∧ RV G w x v := by
  intro j x hx
  rw [flat_append] at hx
  have l1 : (flat es1).length = c1.size := by rw [h1.1]; simp
  have l2 : (flat es2).length = c2.size := by rw [h2.1]; simp
  by_cases hj : j < (flat es1).length
  · rw [List.getElem?_append_left hj] at hx
    obtain ⟨v, hv, r⟩ := h1.2 j x hx
    exact ⟨v, by rw [Array.getElem?_append_left (by simp; omega), Array.getElem?_append_left (by omega), ← Array.getElem?_toList]; exact hv, r⟩
  · rw [List.getElem?_append_right (by omega)] at hx
    have hj2 := (List.getElem?_eq_some_iff.1 hx).1
    obtain ⟨v, hv, r⟩ := h2.2 _ x hx
    refine ⟨v, ?_, r⟩
    rw [Array.getElem?_append_left (by simp; omega), Array.getElem?_append_right (by omega), ← Array.getElem?_toList, ← l1]
    exact hv

theorem op_app (s : Sim G T w) (he : EnvR G w E a) (hlo : lo ≤ T.length) {n : Nat} {x y : Opd} {v : AV} {T' : Tab} (hc : chkOp P (.app n x y) o = true) (hs : stepOp call lo E T (.app n x y) = some (v, T')) : OpOK P o a w (Res lo G T w T' v) := by
  simp only [chkOp] at hc
  split at hc
  · rename_i ys ts ho
    split at hc
    · rename_i x' y' t t' hys hts
      simp only [Bool.and_eq_true, decide_eq_true_eq] at hc
      obtain ⟨⟨⟨⟨⟨hsl, ht'⟩, hx⟩, hy⟩, hg⟩, hn0⟩ := hc
      obtain ⟨e, hte, hsz⟩ := slice_of_chk hsl
      have ht2 : ∃ e', P.underlying t' = some (.slice e') := by
        unfold elemP at ht'
        split at ht'
        · exact ⟨_, ‹_›⟩
        · cases ht'
      have rx := val_sound he hx
      have ry := val_sound he hy
      simp only [stepOp] at hs
      split at hs
      · rename_i es n2 hrd hn2
        obtain ⟨B, bCap, n2', hcy, hble, hn2', _, hely, hxy, _⟩ := rd_sound s hrd ry
        rw [hn2] at hn2'
        obtain rfl := Option.some.inj hn2'
        have fin : ∀ cv w', (Builtin.append_ #[t, t'] o.type #[a.eval x', a.eval y']).run P w = .ok cv w' → Res lo G T w T' v cv w' → OpOK P o a w (Res lo G T w T' v) := by
          intro cv w' hr hres
          refine opOK_value (run_call_builtin ho ?_) hres
          have e1 : ys.map a.eval = #[a.eval x', a.eval y'] := by rw [run_args hys]; rfl
          have e2 : ts = #[t, t'] := by rw [← Array.toArray_toList (xs := ts), hts]
          rw [e1, e2]
          simp only [builtin, Sem.run_bind, hr, Result.andThen_ok, Sem.run_pure]
        have hap : ∀ ty as, Builtin.append_ #[t, t'] ty as = Builtin.append_ #[t, t'] t as := fun _ _ => rfl
        split at hs
        · -- onto nil
          rename_i n' hxv
          split at hs
          · rename_i hb
            obtain ⟨rfl, rfl, hlen⟩ := hb
            have hcx : a.eval x' = .slice none 0 0 := by
              rw [hxv] at rx
              generalize a.eval x' = u at rx ⊢
              cases rx with
              | fznil => rfl
              | fz0 _ _ _ _ hn => exact absurd rfl hn
              | fz _ _ _ _ _ _ _ hn => exact absurd rfl hn
            obtain ⟨new, hnew, hrv, hnsz⟩ := firstCells_run (P := P) s hrd ry hn2 es.length (Nat.le_refl _)
            rw [List.take_length] at hrv
            rw [hcy] at hnew ry
            obtain ⟨r1, r2⟩ := run_append (P := P) (w := w) hte hsz ht2 hg (A := none) (sLen := 0) (sCap := 0) (by omega) hnew
            simp only [Option.some.injEq, Prod.mk.injEq] at hs
            obtain ⟨rfl, rfl⟩ := hs
            by_cases hes : es = []
            · subst hes
              obtain ⟨u, s'⟩ := push_empty s
              refine fin (.slice none 0 0) w ?_ ⟨G, u.ext hlo, s', .slnil _ _ _ _⟩
              rw [hcx, hcy, hap]
              exact r1 (Nat.le_refl _) w (fun _ h => by cases h) fun _ => rfl
            · 
              have hpos : 0 < es.length := List.length_pos_iff.2 hes
              obtain ⟨newCap, zs, hgr⟩ := r2 (by omega)
              obtain ⟨X1, s1⟩ := same_heap (w' := { w with drawn := w.drawn + 1 }) s lo rfl rfl rfl rfl
              obtain ⟨new1, hnew1, hrv1, hnsz1⟩ := firstCells_run (P := P) s1 hrd (ry.ext s X1) hn2 es.length (Nat.le_refl _)
              rw [List.take_length] at hrv1
              obtain ⟨hrun, hcap, hzs⟩ := hgr #[] new1 _ rfl (by simp [Builtin.firstCells]) hnew1
              have hcells : ∀ (j : Nat) (x : AV), (flat es)[j]? = some x → ∃ v, (#[] ++ new1 ++ zs : Array Value)[j]? = some v ∧ RV G { w with drawn := w.drawn + 1 } x v := by
                have := grow_rvs (es1 := []) (c1 := #[]) (zs := zs) ⟨rfl, fun j x h => by simp [flat] at h⟩ hrv1
                simpa using this
              have hel : ∀ e ∈ es, elemOk n2 e = true := hely
              obtain ⟨G', u, s', hl⟩ := push_arr s1 n2 newCap es (#[] ++ new1 ++ zs) e (by omega) (by
                have hz : (#[] ++ new1 ++ zs : Array Value).size = new1.size + zs.size := by simp
                rw [hz, hnsz1, hzs, ← Nat.add_mul]
                exact Nat.mul_le_mul_right _ (by omega)) hel hcells
              refine fin _ _ (by rw [hcx, hcy, hap]; exact hrun) ⟨G', X1.trans (u.ext hlo), s', ?_⟩
              have := RV.sl (G := G') (w := (({ w with drawn := w.drawn + 1 } : World).alloc (.cells (#[] ++ new1 ++ zs) e))) true n2 T.length 0 0 es.length w.heap.size 0 newCap newCap hl (by omega) (by omega)
              simpa using this
          · cases hs
        · -- onto a row of its own
          rename_i mb n' tk g off len hxv
          split at hs
          · rename_i g' old htk
            split at hs
            · rename_i hb
              obtain ⟨hlt, rfl, hol, rfl, rfl, hbound⟩ := hb
              simp only [Option.some.injEq, Prod.mk.injEq] at hs
              obtain ⟨rfl, rfl⟩ := hs
              have htT : tk < T.length := tget_lt (by rw [htk]; simp)
              have hrdx : rd T (val E x) = some ((old.drop off).take len) := by rw [hxv]; simp [rd, htk, hol]
              have hlen1 : ((old.drop off).take len).length = len := by simp; omega
              have hnx : esz (val E x) = some n2 := by rw [hxv]; rfl
              obtain ⟨A, sCap, nx, hcx, hxle, hnx', _, helx, hxx, hAn⟩ := rd_sound s hrdx rx
              rw [hnx] at hnx'
              obtain rfl := Option.some.inj hnx'
              rw [hlen1] at hcx hxle
              obtain ⟨new, hnew, hrv, hnsz⟩ := firstCells_run (P := P) s hrd ry hn2 es.length (Nat.le_refl _)
              rw [List.take_length] at hrv
              rw [hcy] at hnew ry
              obtain ⟨r1, r2⟩ := run_append (P := P) (w := w) hte hsz ht2 hg (A := A) (sLen := len) (sCap := sCap) (by omega) hnew
              have hel' : ∀ e ∈ (old.drop off).take len ++ es, elemOk n2 e = true := by
                intro e he
                rcases List.mem_append.1 he with h | h
                · exact helx e h
                · exact hely e h
              have hflx : (flat ((old.drop off).take len)).length = len * n2 := by rw [flat_len helx, hlen1]
              by_cases hfit : len + es.length ≤ sCap
              · -- there is room
                rw [hxv, hcx] at rx
                cases rx with
                | slnil =>
                  have h0 : es.length = 0 := by omega
                  have hes : es = [] := List.eq_nil_of_length_eq_zero h0
                  subst hes
                  obtain ⟨u, s'⟩ := next_none s htk
                  refine fin (.slice none 0 0) w ?_ ⟨G, u.ext hlt, ?_, ?_⟩
                  · rw [hcx, hcy, hap]; exact r1 hfit w (fun _ h => by cases h) fun _ => rfl
                  · simpa using s'
                  · exact .slnil _ _ _ _
                | slz _ _ _ _ _ ad =>
                  have h0 : es.length = 0 := by omega
                  have hes : es = [] := List.eq_nil_of_length_eq_zero h0
                  subst hes
                  obtain ⟨u, s'⟩ := next_none s htk
                  refine fin (.slice (some ad) 0 0) w ?_ ⟨G, u.ext hlt, ?_, ?_⟩
                  · rw [hcx, hcy, hap]
                    refine r1 hfit w (fun ad' h => ?_) (fun h => by cases h)
                    have h9 : new = #[] := Array.eq_empty_of_size_eq_zero (by rw [hnsz]; simp)
                    simp [h9, storeCells]
                  · simpa using s'
                  · exact .slz _ _ _ _ _ _
                | sl _ _ _ _ _ _ b base _ capT hl h1' h2' =>
                  obtain ⟨_, ⟨_, hno⟩ | ⟨L, c, ety, Aa⟩⟩ := s.arr tk g old htk
                  · rw [hno] at hl; cases hl
                  · have hL : L = ⟨b, base, n2, capT⟩ := by rw [Aa.loc] at hl; exact Option.some.inj hl
                    subst hL
                    have hsz2 : base + capT * n2 ≤ c.size := Aa.size
                    have heo : ∀ e ∈ old, elemOk n2 e = true := Aa.elem
                    have hcapn : off * n2 + sCap * n2 ≤ capT * n2 := by rw [← Nat.add_mul]; exact Nat.mul_le_mul_right _ (by omega)
                    have hlenn : len * n2 + es.length * n2 ≤ sCap * n2 := by rw [← Nat.add_mul]; exact Nat.mul_le_mul_right _ hfit
                    have h1c : ∀ v ∈ new.toList, v.oneCell' = true := by
                      intro v hv
                      obtain ⟨j, hj, hjv⟩ := List.getElem_of_mem hv
                      have hjf : j < (flat es).length := by rw [hrv.1]; exact hj
                      obtain ⟨v', hv', rv'⟩ := hrv.2 j _ (List.getElem?_eq_getElem hjf)
                      rw [List.getElem?_eq_getElem hj, hjv] at hv'
                      cases hv'
                      exact one_cell rv' (elem_one_flat hely _ (List.getElem_mem hjf))
                    obtain ⟨w', hst, hw⟩ := storeCells_run P b ety new.toList w c (base + off * n2 + len * n2) 0 Aa.heap (by simp [hnsz]; omega) h1c
                    rw [Nat.add_zero] at hw
                    have hcell2 : ∀ (j : Nat) (x : AV), (flat ((old.drop off).take len ++ es))[j]? = some x → ∃ v, (wrArr c (base + off * n2 + len * n2) new.toList)[base + off * n2 + j]? = some v ∧ RV G w x v := by
                      intro j x hx
                      rw [wrArr_get _ _ _ _ (by simp [hnsz]; omega)]
                      rw [flat_append] at hx
                      by_cases hj : j < len * n2
                      · rw [if_neg (by omega)]
                        rw [List.getElem?_append_left (by omega), flat_take len (fun e he => heo e (List.mem_of_mem_drop he)), flat_drop off heo, List.getElem?_take, if_pos hj, List.getElem?_drop] at hx
                        obtain ⟨v, hv, rv'⟩ := Aa.cell _ _ hx
                        exact ⟨v, by simpa [Nat.add_assoc] using hv, rv'⟩
                      · rw [List.getElem?_append_right (by omega), hflx] at hx
                        have hjj := (List.getElem?_eq_some_iff.1 hx).1
                        rw [flat_len hely] at hjj
                        rw [if_pos (by simp [hnsz]; omega)]
                        obtain ⟨v, hv, rv'⟩ := hrv.2 _ _ hx
                        exact ⟨v, by rw [show base + off * n2 + j - (base + off * n2 + len * n2) = j - len * n2 by omega]; exact hv, rv'⟩
                    obtain ⟨G', u, s', hl'⟩ := next_arr (w' := w') (L' := ⟨b, base + off * n2, n2, capT - off⟩) (es' := (old.drop off).take len ++ es) s htk hw.heap (by simp [hlen1]; omega) (by
                        rw [wrArr_size]
                        have : (capT - off) * n2 = capT * n2 - off * n2 := Nat.sub_mul _ _ _
                        simp only [this]
                        omega) hel' hcell2 (.inl (by unfold own; rw [htk]; exact ⟨_, Aa.loc, rfl⟩)) (by rw [hw.size]; exact Nat.le_refl _)
                        (fun b' _ hn' => hw.rest b' fun e => hn' (by rw [e]; unfold own; rw [htk]; exact ⟨_, Aa.loc, rfl⟩)) hw.os hw.tape hw.output
                    · refine fin (.slice (some ⟨b, base + off * n2, none⟩) (len + es.length) sCap) w' ?_ ⟨G', u.ext hlt, s', ?_⟩
                      · rw [hcx, hcy, hap]
                        refine r1 hfit w' (fun ad h => ?_) (fun h => by cases h)
                        cases h
                        rw [addr_add]
                        exact hst
                      · have := RV.sl (G := G') (w := w') mb n2 tk (g + 1) 0 (len + es.length) b (base + off * n2) sCap (capT - off) hl' hfit (by omega)
                        simpa using this
              · -- a new row
                obtain ⟨newCap, zs, hgr⟩ := r2 (by omega)
                obtain ⟨X1, s1⟩ := same_heap (w' := { w with drawn := w.drawn + 1 }) s lo rfl rfl rfl rfl
                obtain ⟨new1, hnew1, hrv1, hnsz1⟩ := firstCells_run (P := P) s1 hrd (ry.ext s X1) hn2 es.length (Nat.le_refl _)
                rw [List.take_length] at hrv1
                obtain ⟨old1, hold1, hrvo, hosz⟩ := firstCells_run (P := P) s1 hrdx (rx.ext s X1) hnx len (by omega)
                rw [List.take_of_length_le (by omega)] at hrvo
                rw [hcx] at hold1
                obtain ⟨hrun, hcap, hzs⟩ := hgr old1 new1 _ rfl hold1 hnew1
                obtain ⟨G', u, s', hl'⟩ := next_arr (w' := ({ w with drawn := w.drawn + 1 } : World).alloc (.cells (old1 ++ new1 ++ zs) e)) (L' := ⟨w.heap.size, 0, n2, newCap⟩) (es' := (old.drop off).take len ++ es) s1 htk
                  (heap_alloc_new _ _) (by simp [hlen1]; omega) (by
                    simp only [Nat.zero_add, Array.size_append, hosz, hnsz1, hzs]
                    rw [← Nat.add_mul, ← Nat.add_mul]
                    exact Nat.mul_le_mul_right _ (by omega)) hel' (fun j x hx => by
                    obtain ⟨v, hv, r⟩ := grow_rvs (zs := zs) hrvo hrv1 j x hx
                    exact ⟨v, by simpa using hv, r⟩) (.inr rfl) (by simp) (fun b hb _ => heap_alloc _ _ b (by simp at hb ⊢; omega)) rfl rfl rfl
                refine fin _ _ (by rw [hcx, hcy, hap]; exact hrun) ⟨G', X1.trans (u.ext hlt), s', ?_⟩
                have := RV.sl (G := G') (w := ({ w with drawn := w.drawn + 1 } : World).alloc (.cells (old1 ++ new1 ++ zs) e)) mb n2 tk (g + 1) 0 (len + es.length) w.heap.size 0 newCap newCap hl' hcap (by omega)
                simpa using this
            · cases hs
          · cases hs
        · cases hs
      · cases hs
    · cases hc
  · cases hc

theorem op_cpy (s : Sim G T w) (he : EnvR G w E a) (hlo : lo ≤ T.length) {n : Nat} {x y : Opd} {v : AV} {T' : Tab} (hc : chkOp P (.cpy n x y) o = true) (hs : stepOp call lo E T (.cpy n x y) = some (v, T')) : OpOK P o a w (Res lo G T w T' v) := by
  simp only [chkOp] at hc
  split at hc
  · rename_i ys ts ho
    split at hc
    · rename_i x' y' t t' hys hts
      simp only [Bool.and_eq_true] at hc
      obtain ⟨⟨hsl, hx⟩, hy⟩ := hc
      obtain ⟨e, hte, hsz⟩ := slice_of_chk hsl
      have rx := val_sound he hx
      have ry := val_sound he hy
      simp only [stepOp] at hs
      split at hs
      · rename_i es n2 mb n' tk g off len hrd hn2 hxv
        split at hs
        · rename_i g' old htk
          split at hs
          · rename_i hb
            obtain ⟨hlt, rfl, hol, rfl, rfl, rfl⟩ := hb
            simp only [Option.some.injEq, Prod.mk.injEq] at hs
            obtain ⟨rfl, rfl⟩ := hs
            obtain ⟨B, bCap, n2', hcy, hble, hn2', _, hely, hxy, _⟩ := rd_sound s hrd ry
            obtain ⟨A, cap, hcx, hcap⟩ := alen_sound rx (n := len) (by rw [hxv]; rfl)
            have hmin : Nat.min es.length len = min es.length len := rfl
            obtain ⟨cs, hcs, hrv, hcsz⟩ := firstCells_run (P := P) s hrd ry hn2 (min es.length len) (Nat.min_le_left _ _)
            have htk2 : es.take (min es.length len) = es.take len := by rw [Nat.min_comm, ← List.take_take, List.take_length]
            rw [htk2] at hrv
            rw [hcy] at hcs
            have hone : ∀ x ∈ es.take len, AV.one x = true := fun x hx => by have := hely x (List.mem_of_mem_take hx); rw [hn2] at hn2'; cases hn2'; simpa [elemOk] using this
            rw [flat_ones hone] at hrv
            have fin : ∀ w', (∀ ad, A = some ad → (storeCells ad cs.toList).run P w = .ok () w') → (A = none → w' = w) → Res lo G T w (T.set tk (.arr g (wr old off (es.take len)))) (.int .i64 (min es.length len : Nat)) (.int .i64 (min es.length len : Nat)) w' →
                OpOK P o a w (Res lo G T w (T.set tk (.arr g (wr old off (es.take len)))) (.int .i64 (min es.length len : Nat))) := by
              intro w' h1 h2 hres
              refine opOK_value (run_call_builtin ho ?_) hres
              have e1 : ys.map a.eval = #[a.eval x', a.eval y'] := by rw [run_args hys]; rfl
              have e2 : ts = #[t, t'] := by rw [← Array.toArray_toList (xs := ts), hts]
              rw [e1, e2, hcx, hcy]
              cases A with
              | none =>
                rw [h2 rfl]
                simp [builtin, Builtin.copy_, run_underlying w hte, Builtin.lenOf, run_sizeOf w hsz, hmin, hcs, goInt]
              | some ad =>
                have h3 := h1 ad rfl
                simp [builtin, Builtin.copy_, run_underlying w hte, Builtin.lenOf, run_sizeOf w hsz, hmin, hcs, goInt, h3]
            have hsame : len = 0 ∨ es = [] → T.set tk (.arr g (wr old off (es.take len))) = T := by
              intro h
              have hnil : es.take len = [] := by rcases h with h | h <;> simp [h]
              have hwr : wr old off [] = old := by unfold wr; simp
              rw [hnil, hwr]
              have hlt2 : tk < T.length := tget_lt (by rw [htk]; simp)
              refine List.ext_getElem? fun i => ?_
              rw [List.getElem?_set]
              split
              · rename_i hi
                subst hi
                have := htk
                unfold tget at this
                rw [List.getElem?_eq_getElem hlt2] at this ⊢
                simpa using this.symm
              · rfl
            rw [hxv, hcx] at rx
            by_cases hz : len = 0 ∨ es = []
            · rw [hsame hz] at fin ⊢
              have hc0 : cs = #[] := Array.eq_empty_of_size_eq_zero (by rw [hcsz]; rcases hz with h | h <;> simp [h])
              exact fin w (fun ad _ => by rw [hc0]; simp [storeCells]) (fun _ => rfl) (res_same s (.int _ _))
            · cases rx with
              | slnil => exact absurd (.inl rfl) hz
              | slz => exact absurd (.inl rfl) hz
              | sl _ _ _ _ _ _ b base _ capT hl h1' h2' =>
                obtain ⟨_, ⟨_, hno⟩ | ⟨L, c, ety, Aa⟩⟩ := s.arr tk g old htk
                · rw [hno] at hl; cases hl
                · have hL : L = ⟨b, base, 1, capT⟩ := by rw [Aa.loc] at hl; exact Option.some.inj hl
                  subst hL
                  have heo : ∀ e ∈ old, elemOk 1 e = true := Aa.elem
                  have holdone : ∀ e ∈ old, AV.one e = true := fun e h => by have := heo e h; simpa [elemOk] using this
                  have hflo : flat old = old := flat_ones holdone
                  have hsz2 : base + capT * 1 ≤ c.size := Aa.size
                  have hcl : cs.size = min es.length len := by rw [hcsz]; simp
                  have h1c : ∀ v ∈ cs.toList, v.oneCell' = true := by
                    intro v hv
                    obtain ⟨j, hj, hjv⟩ := List.getElem_of_mem hv
                    have hjf : j < (es.take len).length := by rw [hrv.1]; exact hj
                    obtain ⟨v', hv', rv'⟩ := hrv.2 j _ (List.getElem?_eq_getElem hjf)
                    rw [List.getElem?_eq_getElem hj, hjv] at hv'
                    cases hv'
                    exact one_cell rv' (hone _ (List.getElem_mem hjf))
                  have hmin2 : min es.length len ≤ len := Nat.min_le_right _ _
                  obtain ⟨w', hst, hw⟩ := storeCells_run P b ety cs.toList w c (base + off * 1) 0 Aa.heap (by simp [hcl]; omega) h1c
                  have htl : (es.take len).length ≤ len := by simp; omega
                  have hwo : ∀ e ∈ wr old off (es.take len), AV.one e = true := fun e h => by
                    rcases wr_mem h with h | h
                    · exact holdone e h
                    · exact hone e h
                  obtain ⟨u, s'⟩ := set_arr s htk Aa (off * 1) (es.take len) cs.toList (by rw [hflo]; omega) (wr_length (by omega)) (fun e h => elemOk_one (hwo e h)) (by rw [flat_ones hwo, hflo]; simp) hrv (by simpa using hw)
                  exact fin w' (fun ad h => by cases h; exact hst) (fun h => by cases h) ⟨G, u.ext hlt, s', .int _ _⟩
          · cases hs
        · cases hs
      · cases hs
    · cases hc
  · cases hc
end
end Go.Proofs.Ytlilfiekkaolkaa.Am
