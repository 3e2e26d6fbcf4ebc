/- Operations, fourth part: what is made. -/
import Derived.Test.YtlilfiekkaolkaaAmI
set_option linter.unusedVariables false
set_option linter.unusedSimpArgs false
namespace Go.Proofs.Ytlilfiekkaolkaa.Am
open Go
section
variable {P : Program} {G : Gh} {T : Tab} {w : World} {E : Env} {a : Act} {o : Oper} {call : CallA} {lo : Nat}

theorem op_tnil (s : Sim G T w) (hlo : lo ≤ T.length) {n : Nat} (hc : chkOp P (.tnil n) o = true) : OpOK P o a w (Res lo G T w (T ++ [.arr 0 []]) (.sl true n T.length 0 0 0)) := by
  obtain ⟨u, s'⟩ := push_empty s
  have hr : Res lo G T w (T ++ [.arr 0 []]) (.sl true n T.length 0 0 0) (.slice none 0 0) w := ⟨G, u.ext hlo, s', .slnil _ _ _ _⟩
  simp only [chkOp] at hc
  split at hc
  · rename_i ho
    exact opOK_value (by simp [execOp, ho]; rfl) hr
  · rename_i ho
    exact opOK_value (by simp [execOp, ho]; rfl) hr
  · cases hc

/-- The cells of a value. -/
theorem cells_of {v : AV} {c : Value} (r : RV G w v c) (h1 : v.cells.all AV.one = true) : c.cells.size = v.cells.length ∧ ∀ (j : Nat) (x : AV), v.cells[j]? = some x → ∃ y, c.cells[j]? = some y ∧ RV G w x y := by
  cases r with
  | agg vs cvs hsz hr =>
    refine ⟨hsz, fun j x hx => ?_⟩
    have hj : j < cvs.size := by rw [hsz]; exact (List.getElem?_eq_some_iff.1 hx).1
    exact ⟨cvs[j], Array.getElem?_eq_getElem hj, hr j x _ hx (Array.getElem?_eq_getElem hj)⟩
  | unk v => simp [AV.cells, AV.one] at h1
  | tup vs cvs hsz hr => simp [AV.cells, AV.one] at h1
  | int k n => exact ⟨rfl, fun j x hx => by cases j <;> simp [AV.cells] at hx; subst hx; exact ⟨_, rfl, .int _ _⟩⟩
  | bool b => exact ⟨rfl, fun j x hx => by cases j <;> simp [AV.cells] at hx; subst hx; exact ⟨_, rfl, .bool _⟩⟩
  | fznil nl n h => exact ⟨rfl, fun j x hx => by cases j <;> simp [AV.cells] at hx; subst hx; exact ⟨_, rfl, .fznil _ _ h⟩⟩
  | fz0 nl n a cap h => exact ⟨rfl, fun j x hx => by cases j <;> simp [AV.cells] at hx; subst hx; exact ⟨_, rfl, .fz0 _ _ _ _ h⟩⟩
  | fz nl n es b o cap cs h hb hl he hc hr => exact ⟨rfl, fun j x hx => by cases j <;> simp [AV.cells] at hx; subst hx; exact ⟨_, rfl, .fz _ _ _ _ _ _ cs h hb hl he hc hr⟩⟩
  | slnil n t g off => exact ⟨rfl, fun j x hx => by cases j <;> simp [AV.cells] at hx; subst hx; exact ⟨_, rfl, .slnil _ _ _ _⟩⟩
  | slz mb n t g off a => exact ⟨rfl, fun j x hx => by cases j <;> simp [AV.cells] at hx; subst hx; exact ⟨_, rfl, .slz _ _ _ _ _ _⟩⟩
  | sl mb n t g off len b base cap capT hl h1' h2 => exact ⟨rfl, fun j x hx => by cases j <;> simp [AV.cells] at hx; subst hx; exact ⟨_, rfl, .sl _ _ _ _ _ _ b base _ capT hl h1' h2⟩⟩
  | asl t off len b cap h h1' => exact ⟨rfl, fun j x hx => by cases j <;> simp [AV.cells] at hx; subst hx; exact ⟨_, rfl, .asl _ _ _ _ _ h h1'⟩⟩
  | ptr t off b h => exact ⟨rfl, fun j x hx => by cases j <;> simp [AV.cells] at hx; subst hx; exact ⟨_, rfl, .ptr _ _ _ h⟩⟩
  | ep sv i off b o len cap n h hn hi => exact ⟨rfl, fun j x hx => by cases j <;> simp [AV.cells] at hx; subst hx; exact ⟨_, rfl, .ep _ _ _ _ _ _ _ _ h hn hi⟩⟩
  | clos f fs cs fvs cvs h1' h2 hf hc => exact ⟨rfl, fun j x hx => by cases j <;> simp [AV.cells] at hx; subst hx; exact ⟨_, rfl, .clos _ _ _ _ _ h1' h2 hf hc⟩⟩
  | iface ty v c h => exact ⟨rfl, fun j x hx => by cases j <;> simp [AV.cells] at hx; subst hx; exact ⟨_, rfl, .iface _ _ _ h⟩⟩
  | mapr t b h => exact ⟨rfl, fun j x hx => by cases j <;> simp [AV.cells] at hx; subst hx; exact ⟨_, rfl, .mapr _ _ h⟩⟩
  | nilf => exact ⟨rfl, fun j x hx => by cases j <;> simp [AV.cells] at hx; subst hx; exact ⟨_, rfl, .nilf⟩⟩

/-- The value of one cell is one that a cell can hold. -/
theorem one_cell {v : AV} {c : Value} (r : RV G w v c) (h : v.one = true) : c.oneCell' = true := by cases r <;> first | rfl | simp [AV.one] at h

theorem op_box (s : Sim G T w) (he : EnvR G w E a) (hlo : lo ≤ T.length) {x : Opd} {v : AV} {T' : Tab} (hc : chkOp P (.box x) o = true) (hs : stepOp call lo E T (.box x) = some (v, T')) : OpOK P o a w (Res lo G T w T' v) := by
  simp only [chkOp] at hc
  split at hc
  · rename_i t y ho
    have r := val_sound he hc
    simp only [stepOp] at hs
    split at hs
    · rename_i h1
      simp only [Option.some.injEq, Prod.mk.injEq] at hs
      obtain ⟨rfl, rfl⟩ := hs
      obtain ⟨hsz, hcell⟩ := cells_of r h1
      obtain ⟨G', u, s', hb⟩ := push_box s (val E x).cells (a.eval y).cells t hsz (fun x hx => List.all_eq_true.1 h1 x hx) hcell
      refine opOK_value (v := .pointer (some ⟨w.heap.size, 0, none⟩)) (w' := w.alloc (.cells (a.eval y).cells t)) ?_ ⟨G', u.ext hlo, s', .ptr _ _ _ hb⟩
      simp [execOp, ho, Instr.box, newVar, newRow]
    · cases hs
  · cases hc

/-- Fresh tokens in the place of nil slices. -/
theorem toks_sound (hlo : lo ≤ T.length) {cs : List Value} : ∀ {toks : List (Nat × Nat)} {z : List AV} {T1 : Tab} {z' : List AV} {T' : Tab}, Ext lo G T w G T1 w → T.length ≤ T1.length → Sim G T1 w →
    RVs G w z cs → (∀ x ∈ z, AV.one x = true) → (∀ p ∈ toks, cs[p.1]? = some (.slice none 0 0)) → toksInto z T1 toks = (z', T') →
    Ext lo G T w G T' w ∧ T.length ≤ T'.length ∧ Sim G T' w ∧ RVs G w z' cs ∧ (∀ x ∈ z', AV.one x = true) ∧ z'.length = z.length
  | [], z, T1, z', T', X, hl, s, r, h1, _, h => by
    simp only [toksInto, Prod.mk.injEq] at h
    obtain ⟨rfl, rfl⟩ := h
    exact ⟨X, hl, s, r, h1, rfl⟩
  | (off, n) :: toks, z, T1, z', T', X, hl, s, r, h1, hz, h => by
    simp only [toksInto] at h
    obtain ⟨u, s'⟩ := push_empty s
    obtain ⟨a1, a2, a3, a4, a5, a6⟩ := toks_sound hlo (toks := toks) (X.trans (u.ext (Nat.le_trans hlo hl))) (by simp; omega) s' (z := z.set off (.sl true n T1.length 0 0 0)) ⟨by simpa using r.1, fun j x hx => by
        rw [List.getElem?_set] at hx
        split at hx
        · rename_i hj
          subst hj
          split at hx
          · cases hx
            exact ⟨_, hz (off, n) List.mem_cons_self, .slnil _ _ _ _⟩
          · cases hx
        · exact r.2 j x hx⟩ (fun x hx => by
        rcases List.mem_or_eq_of_mem_set hx with hx | rfl
        · exact h1 x hx
        · rfl) (fun p hp => hz p (List.mem_cons_of_mem _ hp)) h
    exact ⟨a1, a2, a3, a4, a5, by rw [a6]; simp⟩

theorem toks_nil {z : List AV} {cs : List Value} (r : RVs G w z cs) : ∀ {toks : List (Nat × Nat)}, chkToks z toks = true → ∀ p ∈ toks, cs[p.1]? = some (.slice none 0 0)
  | [], _ => by simp
  | (off, n) :: toks, h => by
    simp only [chkToks, Bool.and_eq_true] at h
    intro p hp
    rcases List.mem_cons.1 hp with rfl | hp
    · have h1 := h.1
      split at h1
      · rename_i n' hz
        obtain ⟨c, hc, rc⟩ := r.2 _ _ hz
        cases rc with
        | fznil => exact hc
        | fz0 _ _ _ _ hn => exact absurd rfl hn
        | fz _ _ _ _ _ _ _ hn => exact absurd rfl hn
      · cases h1
    · exact toks_nil r h.2 p hp

theorem op_alloc (s : Sim G T w) (hlo : lo ≤ T.length) {z : List AV} {toks : List (Nat × Nat)} {v : AV} {T' : Tab} (hc : chkOp P (.alloc z toks) o = true) (hs : stepOp call lo E T (.alloc z toks) = some (v, T')) : OpOK P o a w (Res lo G T w T' v) := by
  simp only [chkOp] at hc
  split at hc
  · rename_i t ho
    simp only [Bool.and_eq_true] at hc
    obtain ⟨hz, ht⟩ := hc
    split at hz
    · rename_i zv hzv
      obtain ⟨r, h1⟩ := cells_sound (G := G) (w := w) hz
      simp only [stepOp] at hs
      cases htk : toksInto z T toks with
      | mk z' T1 =>
        rw [htk] at hs
        simp only [Option.some.injEq, Prod.mk.injEq] at hs
        obtain ⟨rfl, rfl⟩ := hs
        obtain ⟨X, hl, s1, r1, o1, _⟩ := toks_sound hlo (.refl _ _ _ _) (Nat.le_refl _) s r h1 (toks_nil r ht) htk
        obtain ⟨G', u, s', hb⟩ := push_box s1 z' zv.cells t (by rw [r1.1]; simp) o1 (fun j x hx => by
          obtain ⟨c, hc, rc⟩ := r1.2 j x hx
          exact ⟨c, by rw [← Array.getElem?_toList]; exact hc, rc⟩)
        refine opOK_value (v := .pointer (some ⟨w.heap.size, 0, none⟩)) (w' := w.alloc (.cells zv.cells t)) ?_ ⟨G', X.trans (u.ext (Nat.le_trans hlo hl)), s', .ptr _ _ _ hb⟩
        simp [execOp, ho, Instr.alloc, run_zeroValue w hzv, newVar, newRow]
    · cases hz
  · cases hc

/-! ### Parts of a struct or an array -/
theorem foldl_set (c : Array Value) : ∀ (l : List Value) (off k : Nat) (acc : Array Value), (l.zipIdx k).foldl (fun cs p => cs.setIfInBounds (off + p.2) p.1) acc = wrArr acc (off + k) l
  | [], off, k, acc => rfl
  | v :: l, off, k, acc => by
    rw [List.zipIdx_cons, List.foldl_cons, foldl_set c l off (k + 1), wrArr]
    rfl

theorem fill_step (c : Value) (acc : Array Value) (off : Nat) : (c.cells.zipIdx.foldl (fun cs (p : Value × Nat) => cs.setIfInBounds (off + p.2) p.1) acc) = wrArr acc off c.cells.toList := by
  rw [← Array.foldl_toList, Array.toList_zipIdx]
  exact foldl_set acc _ off 0 acc

/-- Cells and what they stand for, while parts are laid. -/
structure Cells (G : Gh) (w : World) (vs : List AV) (cs : Array Value) : Prop where
  size : cs.size = vs.length
  cell : ∀ (j : Nat) (x : AV), vs[j]? = some x → ∃ c, cs[j]? = some c ∧ RV G w x c

theorem Cells.wr {vs : List AV} {cs : Array Value} (h : Cells G w vs cs) {off : Nat} {us : List AV} {ds : List Value} (hr : RVs G w us ds) (hoff : off + us.length ≤ vs.length) : Cells G w (wr vs off us) (wrArr cs off ds) := by
  refine ⟨by rw [wrArr_size, wr_length hoff, h.size], fun j x hx => ?_⟩
  rw [wr_get hoff] at hx
  rw [wrArr_get _ _ _ _ (by rw [h.size, ← hr.1]; exact hoff), ← hr.1]
  split at hx
  · rename_i hj; rw [if_pos hj]; exact hr.2 _ _ hx
  · rename_i hj; rw [if_neg hj]; exact h.cell _ _ hx

theorem cells_rvs {v : AV} {c : Value} (r : RV G w v c) (h1 : v.cells.all AV.one = true) : RVs G w v.cells c.cells.toList := by
  obtain ⟨a, b⟩ := cells_of r h1
  exact ⟨by simp [a], fun j x hx => by obtain ⟨y, hy, r⟩ := b j x hx; exact ⟨y, by rw [Array.getElem?_toList]; exact hy, r⟩⟩

theorem fill_sound (he : EnvR G w E a) {place : Nat → Option (Nat × Nat)} : ∀ {parts : List (Nat × Nat × Opd)} {ps : List (Nat × Operand)} {l : List (Nat × List AV)} {z : List AV} {cs : Array Value},
    chkParts place parts ps = true → partsA E z.length parts = some l → Cells G w z cs → (∀ x ∈ z, AV.one x = true) →
    ∃ cs', Instr.fill place cs (ps.map fun p => (p.1, a.eval p.2)) = some cs' ∧ Cells G w (fillA z l) cs' ∧ (∀ x ∈ fillA z l, AV.one x = true)
  | [], [], l, z, cs, _, h, hc, h1 => by
    simp only [partsA, Option.some.injEq] at h
    subst h
    exact ⟨cs, rfl, hc, h1⟩
  | (off, size, x) :: parts, (i, y) :: ps, l, z, cs, hk, h, hc, h1 => by
    simp only [chkParts, Bool.and_eq_true, beq_iff_eq] at hk
    obtain ⟨⟨hp, hx⟩, hk⟩ := hk
    simp only [partsA] at h
    split at h
    · rename_i hb
      obtain ⟨hb1, hb2, hb3⟩ := hb
      cases hl : partsA E z.length parts with
      | none => rw [hl] at h; cases h
      | some l' =>
        rw [hl] at h
        simp only [Option.map_some, Option.some.injEq] at h
        subst h
        have r := val_sound he hx
        have rv := cells_rvs r hb3
        have hsz : (a.eval y).cells.size = size := by have := rv.1; simp at this; omega
        have hle : off + (val E x).cells.length ≤ z.length := by omega
        have hw := hc.wr rv hle
        obtain ⟨cs', h1', h2', h3'⟩ := fill_sound he (z := wr z off (val E x).cells) hk (by rw [wr_length hle]; exact hl) hw (fun u hu => by
          rcases wr_mem hu with h | h
          · exact h1 u h
          · exact List.all_eq_true.1 hb3 u h)
        refine ⟨cs', ?_, h2', h3'⟩
        rw [List.map_cons, Instr.fill]
        simp only [hp]
        rw [if_neg (by rw [hc.size]; simp; omega)]
        have := fill_step (a.eval y) cs off
        exact (congrArg (fun c => Instr.fill place c (ps.map fun p => (p.1, a.eval p.2))) this).trans h1'
    · cases h
  | [], _ :: _, _, _, _, h, _, _, _ => by cases h
  | _ :: _, [], _, _, _, h, _, _, _ => by cases h

theorem run_mapM {α β : Type} (f : α → Sem β) (g : α → β) : ∀ (l : List α), (∀ x ∈ l, (f x).run P w = .ok (g x) w) → (l.mapM f).run P w = .ok (l.map g) w
  | [], _ => by simp
  | x :: l, h => by
    rw [List.mapM_cons, Sem.run_bind, h x List.mem_cons_self]
    simp only [Result.andThen_ok, Sem.run_bind]
    rw [run_mapM f g l (fun y hy => h y (List.mem_cons_of_mem _ hy))]
    rfl
theorem run_mapMA {α β : Type} (f : α → Sem β) (g : α → β) (l : Array α) (h : ∀ x ∈ l.toList, (f x).run P w = .ok (g x) w) : (l.mapM f).run P w = .ok (l.map g) w := by
  rw [Array.mapM_eq_mapM_toList, Sem.run_map, run_mapM f g _ h]
  show Result.ok ((l.toList.map g).toArray) w = _
  rw [← Array.toList_map, Array.toArray_toList]

theorem run_build_struct {t : TypeId} {fs : Array Field} {zv : Value} {places : Array (Nat × Nat)} (hz : zeroP P t = some zv) (hfs : P.underlying t = some (.struct fs))
    (hm : (fs.mapM fun f => (do pure (f.offset, ← sizeOf f.type) : Sem (Nat × Nat))).run P w = .ok places w) {ps : Array (Nat × Value)} {cs : Array Value}
    (hf : Instr.fill (places[·]?) zv.cells ps.toList = some cs) : (Instr.build t ps).run P w = .ok (.agg cs) w := by
  simp only [Instr.build, Sem.run_bind, run_zeroValue w hz, Result.andThen_ok, run_underlying w hfs, hm, hf, Sem.run_pure]
theorem run_build_array {t e : TypeId} {k sz : Nat} {zv : Value} (hz : zeroP P t = some zv) (har : P.underlying t = some (.array k e)) (hsz : sizeP P e = some sz) {ps : Array (Nat × Value)} {cs : Array Value}
    (hf : Instr.fill (fun i => some (i * sz, sz)) zv.cells ps.toList = some cs) : (Instr.build t ps).run P w = .ok (.agg cs) w := by
  simp only [Instr.build, Sem.run_bind, run_zeroValue w hz, Result.andThen_ok, run_underlying w har, run_sizeOf w hsz, hf, Sem.run_pure]
theorem run_exec_build {t : TypeId} {ps : Array (Nat × Operand)} (ho : o.op = .build t ps) {v : Value} (h : (Instr.build t (ps.map fun p => (p.1, a.eval p.2))).run P w = .ok v w) : (execOp a.eval o).run P w = .ok (.value v) w := by
  have : execOp a.eval o = (do pure (.value (← Instr.build t (ps.map fun p => (p.1, a.eval p.2))))) := by simp only [execOp, ho]
  rw [this, Sem.run_bind, h]
  rfl

theorem op_build (s : Sim G T w) (he : EnvR G w E a) (hlo : lo ≤ T.length) {z : List AV} {toks : List (Nat × Nat)} {parts : List (Nat × Nat × Opd)} {v : AV} {T' : Tab} (hc : chkOp P (.build z toks parts) o = true)
    (hs : stepOp call lo E T (.build z toks parts) = some (v, T')) : OpOK P o a w (Res lo G T w T' v) := by
  simp only [chkOp] at hc
  split at hc
  · rename_i t ps ho
    simp only [Bool.and_eq_true] at hc
    obtain ⟨⟨hz, ht⟩, hp⟩ := hc
    split at hz
    · rename_i zv hzv
      obtain ⟨r, h1⟩ := cells_sound (G := G) (w := w) hz
      simp only [stepOp] at hs
      cases htk : toksInto z T toks with
      | mk z' T1 =>
        rw [htk] at hs
        simp only at hs
        obtain ⟨X, hl, s1, r1, o1, hlen⟩ := toks_sound hlo (.refl _ _ _ _) (Nat.le_refl _) s r h1 (toks_nil r ht) htk
        cases hpa : partsA E z.length parts with
        | none => rw [hpa] at hs; cases hs
        | some l =>
          rw [hpa] at hs
          simp only [Option.some.injEq, Prod.mk.injEq] at hs
          obtain ⟨rfl, rfl⟩ := hs
          have hcells : Cells G w z' zv.cells := ⟨by have := r1.1; simp at this; omega, fun j x hx => by obtain ⟨c, hc, rc⟩ := r1.2 j x hx; exact ⟨c, by rw [← Array.getElem?_toList]; exact hc, rc⟩⟩
          have fin : ∀ (place : Nat → Option (Nat × Nat)), chkParts place parts ps.toList = true →
              (∀ cs', Instr.fill place zv.cells (ps.map fun p => (p.1, a.eval p.2)).toList = some cs' → (execOp a.eval o).run P w = .ok (.value (.agg cs')) w) → OpOK P o a w (Res lo G T w T1 (.agg (fillA z' l))) := by
            intro place hk hrun
            obtain ⟨cs', hf, hcs, _⟩ := fill_sound he hk (by rw [hlen]; exact hpa) hcells o1
            refine opOK_value (v := .agg cs') (w' := w) (hrun cs' (by rw [Array.toList_map]; exact hf)) ⟨G, X, s1, .agg _ _ hcs.size fun i x c hx hcx => ?_⟩
            obtain ⟨c', hc', rc⟩ := hcs.cell i x hx
            rw [hc'] at hcx
            cases hcx
            exact rc
          split at hp
          · rename_i fs hfs
            simp only [Bool.and_eq_true] at hp
            obtain ⟨hp1, hp2⟩ := hp
            refine fin _ hp1 fun cs' hcs' => ?_
            have hm : (fs.mapM fun f => (do pure (f.offset, ← sizeOf f.type) : Sem (Nat × Nat))).run P w = .ok (fs.map fun f => (f.offset, (sizeP P f.type).getD 0)) w := by
              refine run_mapMA _ _ _ fun f hf => ?_
              have h2 := Array.all_eq_true'.1 hp2 f (Array.mem_toList_iff.1 hf)
              cases hsz : sizeP P f.type with
              | none => rw [hsz] at h2; cases h2
              | some n => simp [run_sizeOf w hsz]
            have hpl : (fun i => ((fs.map fun f => (f.offset, (sizeP P f.type).getD 0))[i]? : Option (Nat × Nat))) = fun i => match fieldP P t i with | some (off, ft) => (sizeP P ft).map fun s => (off, s) | none => none := by
              funext i
              unfold fieldP
              rw [hfs]
              simp only [Array.getElem?_map]
              cases hfi : fs[i]? with
              | none => rfl
              | some f =>
                have h2 := Array.all_eq_true'.1 hp2 f (Array.mem_of_getElem? hfi)
                cases hsz : sizeP P f.type with
                | none => rw [hsz] at h2; cases h2
                | some n => simp [hsz]
            exact run_exec_build ho (run_build_struct hzv hfs hm (by rw [hpl]; exact hcs'))
          · rename_i k e har
            split at hp
            · rename_i sz hsz
              refine fin _ hp fun cs' hcs' => ?_
              exact run_exec_build ho (run_build_array hzv har hsz hcs')
            · cases hp
          · cases hp
    · cases hz
  · cases hc

/-! ### Literal slices -/
theorem fillE_sound (he : EnvR G w E a) {n : Nat} : ∀ {es : List Opd} {ps : List (Nat × Operand)} {k : Nat} {cs : Array Value}, chkElems k es ps = true → (∀ x ∈ es, elemOk n (val E x) = true) → (k + es.length) * n ≤ cs.size →
    ∃ cs', Instr.fill (fun i => some (i * n, n)) cs (ps.map fun p => (p.1, a.eval p.2)) = some cs' ∧ cs'.size = cs.size ∧ (∀ j, j < k * n → cs'[j]? = cs[j]?) ∧
      ∀ (j : Nat) (x : AV), (flat (es.map (val E)))[j]? = some x → ∃ c, cs'[k * n + j]? = some c ∧ RV G w x c
  | [], [], k, cs, _, _, _ => ⟨cs, rfl, rfl, fun _ _ => rfl, fun j x h => by simp [flat] at h⟩
  | x :: es, (i, y) :: ps, k, cs, hk, hel, hsz => by
    simp only [chkElems, Bool.and_eq_true, beq_iff_eq] at hk
    obtain ⟨⟨rfl, hx⟩, hk⟩ := hk
    have hex := hel x List.mem_cons_self
    have r := val_sound he hx
    have hone : (val E x).cells.all AV.one = true := List.all_eq_true.2 (elem_one hex)
    have rv := cells_rvs r hone
    have hcn : (a.eval y).cells.size = n := by have h1 := rv.1; have h2 := elem_len hex; simp at h1; omega
    simp only [List.length_cons] at hsz
    have hin : i * n + n ≤ cs.size := by
      have : (i + 1) * n ≤ (i + (es.length + 1)) * n := Nat.mul_le_mul_right _ (by omega)
      rw [Nat.succ_mul] at this
      omega
    obtain ⟨cs', h1, h2, h3, h4⟩ := fillE_sound he (n := n) (k := i + 1) (cs := wrArr cs (i * n) (a.eval y).cells.toList) hk (fun z hz => hel z (List.mem_cons_of_mem _ hz)) (by rw [wrArr_size, show i + 1 + es.length = i + (es.length + 1) by omega]; exact hsz)
    refine ⟨cs', ?_, by rw [h2, wrArr_size], fun j hj => ?_, fun j z hz => ?_⟩
    · rw [List.map_cons, Instr.fill]
      dsimp only
      rw [if_neg (by simp; omega)]
      exact (congrArg (fun c => Instr.fill (fun i => some (i * n, n)) c (ps.map fun p => (p.1, a.eval p.2))) (fill_step (a.eval y) cs (i * n))).trans h1
    · rw [h3 j (by rw [Nat.succ_mul]; omega), wrArr_get _ _ _ _ (by simp; omega), if_neg (by omega)]
    · rw [List.map_cons, flat_cons] at hz
      by_cases hj : j < n
      · rw [List.getElem?_append_left (by rw [elem_len hex]; exact hj)] at hz
        obtain ⟨c, hc, rc⟩ := rv.2 j z hz
        refine ⟨c, ?_, rc⟩
        rw [h3 _ (by rw [Nat.succ_mul]; omega), wrArr_get _ _ _ _ (by simp; omega), if_pos (by simp; omega), show i * n + j - i * n = j by omega]
        exact hc
      · rw [List.getElem?_append_right (by rw [elem_len hex]; omega), elem_len hex] at hz
        obtain ⟨c, hc, rc⟩ := h4 (j - n) z hz
        refine ⟨c, ?_, rc⟩
        rw [← hc]
        congr 1
        rw [Nat.succ_mul]
        omega
  | [], _ :: _, _, _, h, _, _ => by cases h
  | _ :: _, [], _, _, h, _, _ => by cases h

theorem run_bsl (he : EnvR G w E a) {t : TypeId} {len n : Nat} {es : List Opd} {ps : Array (Nat × Operand)} (ho : o.op = .buildSlice t len ps) (hsl : chkSlice P t n = true) (hlen : len = es.length) (hk : chkElems 0 es ps.toList = true)
    (hb : len * n ≤ 2 ^ 24) (hn : 0 < n) (hz : (match elemP P t with | some e => (match zeroP P e with | some zv => zv.cells.size == n | none => false) | none => false) = true) (hel : ∀ x ∈ es, elemOk n (val E x) = true) :
    ∃ (cs : Array Value) (ety : TypeId), (execOp a.eval o).run P w = .ok (.value (.slice (some ⟨w.heap.size, 0, none⟩) len len)) (w.alloc (.cells cs ety)) ∧ cs.size = len * n ∧
      ∀ (j : Nat) (x : AV), (flat (es.map (val E)))[j]? = some x → ∃ c, cs[j]? = some c ∧ RV G w x c := by
  obtain ⟨e, hte, hsz⟩ := slice_of_chk hsl
  have hep : elemP P t = some e := by simp [elemP, hte]
  rw [hep] at hz
  simp only at hz
  split at hz
  · rename_i zv hzv
    simp only [beq_iff_eq] at hz
    have init : ∃ cs0 : Array Value, ((Array.range (len * n)).map fun i => cs0[i % cs0.size]!).size = len * n ∧ (cs0 = if len * n = 0 then #[] else zv.cells) := ⟨_, by simp, rfl⟩
    obtain ⟨cs0, hsize, hinit⟩ := init
    obtain ⟨cs, hf, hcsz, _, hcell⟩ := fillE_sound he (n := n) (k := 0) (cs := (Array.range (len * n)).map fun i => cs0[i % cs0.size]!) hk hel (by rw [hsize, hlen]; simp)
    refine ⟨cs, e, ?_, by rw [hcsz, hsize], fun j x hx => by obtain ⟨c, hc, rc⟩ := hcell j x hx; exact ⟨c, by simpa using hc, rc⟩⟩
    have hx : execOp a.eval o = (do pure (.value (← Instr.buildSlice t len (ps.map fun p => (p.1, a.eval p.2))))) := by simp only [execOp, ho]
    rw [hx, Sem.run_bind]
    have hr : (Instr.buildSlice t len (ps.map fun p => (p.1, a.eval p.2))).run P w = .ok (.slice (some ⟨w.heap.size, 0, none⟩) len len) (w.alloc (.cells cs e)) := by
      have hf' : Instr.fill (fun i => some (i * n, n)) ((Array.range (len * n)).map fun i => cs0[i % cs0.size]!) (ps.map fun p => (p.1, a.eval p.2)).toList = some cs := by rw [Array.toList_map]; exact hf
      unfold Instr.buildSlice
      simp only [Sem.run_bind, run_underlying w hte, Result.andThen_ok, run_sizeOf w hsz]
      rw [if_neg (by omega)]
      by_cases h0 : len * n = 0
      · rw [if_pos h0] at hinit ⊢
        subst hinit
        simp only [Sem.run_bind, Sem.run_pure, Result.andThen_ok]
        rw [hf']
        simp [newRow]
      · rw [if_neg h0] at hinit ⊢
        subst hinit
        simp only [Sem.run_bind, Sem.run_pure, Result.andThen_ok, run_zeroValue w hzv]
        rw [hf']
        simp [newRow]
    rw [hr]
    rfl
  · cases hz

theorem op_bslT (s : Sim G T w) (he : EnvR G w E a) (hlo : lo ≤ T.length) {n : Nat} {es : List Opd} {v : AV} {T' : Tab} (hc : chkOp P (.bslT n es) o = true) (hs : stepOp call lo E T (.bslT n es) = some (v, T')) : OpOK P o a w (Res lo G T w T' v) := by
  simp only [chkOp] at hc
  split at hc
  · rename_i t len ps ho
    simp only [Bool.and_eq_true, beq_iff_eq, decide_eq_true_eq] at hc
    obtain ⟨⟨⟨⟨⟨h1, h2⟩, h3⟩, h4⟩, h5⟩, h6⟩ := hc
    simp only [stepOp] at hs
    split at hs
    · rename_i hel
      simp only [Option.some.injEq, Prod.mk.injEq] at hs
      obtain ⟨rfl, rfl⟩ := hs
      have hel' : ∀ v ∈ es.map (val E), elemOk n v = true := fun v hv => List.all_eq_true.1 hel v hv
      obtain ⟨cs, ety, hr, hsz, hcell⟩ := run_bsl he ho h1 h2 h3 h4 h5 h6 (fun x hx => hel' _ (List.mem_map_of_mem hx))
      obtain ⟨G', u, s', hl⟩ := push_arr s n len (es.map (val E)) cs ety (by simp [h2]) (by omega) hel' hcell
      refine opOK_value hr ⟨G', u.ext hlo, s', ?_⟩
      have := RV.sl (G := G') (w := w.alloc (.cells cs ety)) false n T.length 0 0 len w.heap.size 0 len len hl (Nat.le_refl _) (by omega)
      simpa [h2] using this
    · cases hs
  · cases hc

theorem op_bsl (s : Sim G T w) (he : EnvR G w E a) (hlo : lo ≤ T.length) {f : Bool} {n : Nat} {es : List Opd} {v : AV} {T' : Tab} (hc : chkOp P (.bsl f n es) o = true) (hs : stepOp call lo E T (.bsl f n es) = some (v, T')) : OpOK P o a w (Res lo G T w T' v) := by
  simp only [chkOp] at hc
  split at hc
  · rename_i t len ps ho
    simp only [Bool.and_eq_true, beq_iff_eq, decide_eq_true_eq] at hc
    obtain ⟨⟨⟨⟨⟨h1, h2⟩, h3⟩, h4⟩, h5⟩, h6⟩ := hc
    simp only [stepOp] at hs
    cases f with
    | false =>
      simp only [Bool.false_eq_true, if_false] at hs
      split at hs
      · rename_i hel
        simp only [Option.some.injEq, Prod.mk.injEq] at hs
        obtain ⟨rfl, rfl⟩ := hs
        have hel' : ∀ v ∈ es.map (val E), elemOk n v = true := fun v hv => List.all_eq_true.1 hel v hv
        obtain ⟨cs, ety, hr, hsz, hcell⟩ := run_bsl he ho h1 h2 h3 h4 h5 h6 (fun x hx => hel' _ (List.mem_map_of_mem hx))
        obtain ⟨G', X, s', hfz, _⟩ := push_frozen s lo (.cells cs ety)
        refine opOK_value hr ⟨G', X, s', ?_⟩
        have hlen : (es.map (val E)).length = len := by simp [h2]
        rw [← hlen]
        refine .fz _ _ _ w.heap.size 0 _ (fun j => (cs[j]?).getD undef) (by simp) hfz (Nat.le_refl _) hel' (fun j x hx => ?_) (fun j x hx => ?_)
        · obtain ⟨c, hc, rc⟩ := hcell j x hx
          rw [cell_cells (heap_alloc_new w _)]
          simp [hc]
        · obtain ⟨c, hc, rc⟩ := hcell j x hx
          simp only [hc, Option.getD_some]
          exact rc.ext s X
      · cases hs
    | true =>
      simp only [if_true] at hs
      split at hs
      · rename_i mb n' tk g off ln hes
        split at hs
        · rename_i vs hrd
          split at hs
          · rename_i hb
            obtain ⟨hlt, rfl, hsc⟩ := hb
            simp only [Option.some.injEq, Prod.mk.injEq] at hs
            obtain ⟨rfl, rfl⟩ := hs
            have hlen1 : es.length = 1 := by have := congrArg List.length hes; simpa using this
            have hel' : ∀ v ∈ es.map (val E), elemOk 1 v = true := by
              intro v hv; rw [hes] at hv; rw [List.mem_singleton.1 hv]; rfl
            obtain ⟨cs, ety, hr, hsz, hcell⟩ := run_bsl he ho h1 h2 h3 h4 h5 h6 (fun x hx => hel' _ (List.mem_map_of_mem hx))
            rw [hes] at hcell
            obtain ⟨c0, hc0, rc0⟩ := hcell 0 _ (by rfl)
            obtain ⟨ad, cap, n2, hc, hle, hn2, _, helv, hx, _⟩ := rd_sound s hrd rc0
            have hn2' : n' = n2 := by simpa [esz] using hn2
            subst hn2'
            by_cases htT : tk < T.length
            · obtain ⟨G1, X1, s1, hown, hfz1, hloc1⟩ := kill s hlt htT
              obtain ⟨G2, X2, s2, hfz2, _⟩ := push_frozen s1 lo (.cells cs ety)
              have X := X1.trans X2
              refine opOK_value hr ⟨G2, X, s2, ?_⟩
              have hlen : len = 1 := by omega
              subst hlen
              have inner : RV G2 (w.alloc (.cells cs ety)) (.fz (if mb = true then .maybe else .nonnil) n' vs) c0 := by
                cases rc0 with
                | slnil =>
                  have : vs = [] := List.eq_nil_of_length_eq_zero (by simp only [Value.slice.injEq] at hc; omega)
                  subst this
                  exact .fznil _ _ (by simp)
                | slz =>
                  have : vs = [] := List.eq_nil_of_length_eq_zero (by simp only [Value.slice.injEq] at hc; omega)
                  subst this
                  exact .fz0 _ _ _ _ (by split <;> simp)
                | sl _ _ _ _ _ _ b base cap' capT hl h1' h2' =>
                  simp only [Value.slice.injEq] at hc
                  obtain ⟨rfl, rfl, rfl⟩ := hc
                  rcases hx with rfl | ⟨b', o', hb', R⟩
                  · exact .fz0 _ _ _ _ (by split <;> simp)
                  · simp only [Option.some.injEq, Addr.mk.injEq] at hb'
                    obtain ⟨rfl, rfl, _⟩ := hb'
                    have hf : ∀ j, ∃ cv, ∀ x, (flat vs)[j]? = some x → w.cell? ⟨b, base + off * n' + j, none⟩ = some cv ∧ RV G w x cv := by
                      intro j
                      cases hj : (flat vs)[j]? with
                      | none => exact ⟨undef, fun x hx => by cases hx⟩
                      | some x => obtain ⟨cv, h1, h2⟩ := R.cell j x hj; exact ⟨cv, fun y hy => by cases hy; exact ⟨h1, h2⟩⟩
                    have hob : own G T tk b := by
                      unfold own
                      simp only [rd] at hrd
                      split at hrd
                      · rename_i g' es' ht
                        split at hrd
                        · rename_i hg; rw [ht]; obtain ⟨rfl, _⟩ := hg; exact ⟨_, hl, rfl⟩
                        · cases hrd
                      · cases hrd
                    have hbs := (s.own_heap hob).1
                    refine .fz _ _ _ b _ _ (fun j => Classical.choose (hf j)) (by split <;> simp) (X2.fz _ (hown b hob)) hle helv (fun j x hx => ?_) (fun j x hx => ?_)
                    · rw [← (Classical.choose_spec (hf j) x hx).1]
                      exact cell_of_heap (heap_alloc w _ b (by omega)) _
                    · exact (Classical.choose_spec (hf j) x hx).2.ext s X
              refine .fz _ _ _ w.heap.size 0 _ (fun j => (cs[j]?).getD undef) (by simp) hfz2 (Nat.le_refl _) (fun e he => by rw [List.mem_singleton.1 he]; rfl) (fun j x hx => ?_) (fun j x hx => ?_)
              · have hj : j = 0 ∧ x = .fz (if mb = true then .maybe else .nonnil) n' vs := by cases j <;> simp [flat, AV.cells] at hx; exact ⟨rfl, hx.symm⟩
                obtain ⟨rfl, rfl⟩ := hj
                rw [cell_cells (heap_alloc_new w _)]
                simp [hc0]
              · have hj : j = 0 ∧ x = .fz (if mb = true then .maybe else .nonnil) n' vs := by cases j <;> simp [flat, AV.cells] at hx; exact ⟨rfl, hx.symm⟩
                obtain ⟨rfl, rfl⟩ := hj
                simp only [hc0, Option.getD_some]
                exact inner
            · exfalso
              simp only [rd, tget_beyond (Nat.le_of_not_lt htT)] at hrd
              cases hrd
          · cases hs
        · cases hs
      · cases hs
  · cases hc

/-! ### make -/
theorem op_mkmap (s : Sim G T w) (hlo : lo ≤ T.length) (hc : chkOp P .mkmap o = true) : OpOK P o a w (Res lo G T w (T ++ [.map []]) (.mapr T.length)) := by
  simp only [chkOp] at hc
  split at hc
  · rename_i t ho
    obtain ⟨G', u, s', hb⟩ := push_map s
    refine opOK_value (v := .map (some w.heap.size)) (w' := w.alloc (.map #[] 0)) ?_ ⟨G', u.ext hlo, s', .mapr _ _ hb⟩
    simp [execOp, ho, Instr.makeMap]
  · cases hc
end
end Go.Proofs.Ytlilfiekkaolkaa.Am
