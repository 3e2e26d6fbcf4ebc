/- Every operation; objects that are made in a place held free. -/
import Derived.Test.YtlilfiekkaolkaaAmN
set_option linter.unusedVariables false
set_option linter.unusedSimpArgs false
namespace Go.Proofs.Ytlilfiekkaolkaa.Am
open Go
section
variable {P : Program} {G : Gh} {T : Tab} {w : World} {E : Env} {a : Act} {o : Oper} {call : CallA} {lo : Nat}

theorem op_sound (ok : CallOK P call lo) (s : Sim G T w) (hlo : lo ≤ T.length) (he : EnvR G w E a) {m : MOp} {v : AV} {T' : Tab} (hc : chkOp P m o = true) (hs : stepOp call lo E T m = some (v, T')) :
    OpOK P o a w (Res lo G T w T' v) := by
  cases m with
  | mov x => simp only [stepOp, Option.some.injEq, Prod.mk.injEq] at hs; obtain ⟨rfl, rfl⟩ := hs; exact op_mov s he hc
  | tnil n => simp only [stepOp, Option.some.injEq, Prod.mk.injEq] at hs; obtain ⟨rfl, rfl⟩ := hs; exact op_tnil s hlo hc
  | pick c x y =>
    simp only [stepOp] at hs
    split at hs
    · rename_i b hb
      simp only [Option.some.injEq, Prod.mk.injEq] at hs; obtain ⟨rfl, rfl⟩ := hs
      exact op_pick s he hc hb
    · cases hs
  | box x => exact op_box s he hlo hc hs
  | alloc z toks => exact op_alloc s hlo hc hs
  | build z toks parts => exact op_build s he hlo hc hs
  | bsl f n es => exact op_bsl s he hlo hc hs
  | bslT n es => exact op_bslT s he hlo hc hs
  | ld agg n x => exact op_ld s he hc hs
  | st n x y => exact op_st s he hc hs
  | nilck x => exact op_nilck s he hc hs
  | bin op x y => exact op_bin s he hc hs
  | beq neg x y => exact op_beq s he hc hs
  | isn x => exact op_isn s he hc hs
  | not x => exact op_not s he hc hs
  | cvt k x => exact op_cvt s he hc hs
  | mkif ty x => simp only [stepOp, Option.some.injEq, Prod.mk.injEq] at hs; obtain ⟨rfl, rfl⟩ := hs; exact op_mkif s he hc
  | mkfn f fs cs => simp only [stepOp, Option.some.injEq, Prod.mk.injEq] at hs; obtain ⟨rfl, rfl⟩ := hs; exact op_mkfn s he hc
  | mkmap => simp only [stepOp, Option.some.injEq, Prod.mk.injEq] at hs; obtain ⟨rfl, rfl⟩ := hs; exact op_mkmap s hlo hc
  | mksl n z l => exact op_mksl s he hlo hc hs
  | mkrows n l => exact op_mkrows s he hlo hc hs
  | slc n x l h => exact op_slc s he hc hs
  | slcA n x => exact op_slcA s he hc hs
  | fld off x => exact op_fld s he hc hs
  | ixs n x i => exact op_ixs s he hc hs
  | ixa len n x i => exact op_ixa s he hc hs
  | ixv len n x i => exact op_ixv s he hc hs
  | lkp kn z m k => exact op_lkp s he hc hs
  | mup kn m k x => exact op_mup s he hc hs
  | ext x i => exact op_ext s he hc hs
  | tas ty x => exact op_tas s he hc hs
  | call f xs => exact op_call ok s hlo he hc hs
  | callv f xs => exact op_callv ok s hlo he hc hs
  | inv tbl x xs => exact op_inv ok s hlo he hc hs
  | len x => exact op_len s he hc hs
  | app n x y => exact op_app s he hlo hc hs
  | cpy n x y => exact op_cpy s he hlo hc hs
  | mx xs => exact op_mx s he hc hs
  | mn xs => exact op_mn s he hc hs
  | bad => cases hs
  | aeq neg n x y => exact op_aeq s he hc hs

/-! ### Places held free -/
structure Slot (G : Gh) (T : Tab) (t : Nat) : Prop where
  dead : tget T t = .dead
  lt : t < T.length
  box : G.box t = none
  mp : G.mp t = none
  loc : ∀ g, G.loc t g = none

theorem Slot.not_own {t : Nat} (h : Slot G T t) (b : Nat) : ¬ own G T t b := fun ho => by
  unfold own at ho
  rw [h.dead] at ho
  exact ho

theorem slot_empty (s : Sim G T w) {t : Nat} (h : Slot G T t) : Upd G T w G (T.set t (.arr 0 [])) w t ∧ Sim G (T.set t (.arr 0 [])) w := by
  have u : Upd G T w G (T.set t (.arr 0 [])) w t := {
    tab := fun t' h => tget_set_ne T _ h
    len := by simp
    loc := fun _ _ _ => rfl
    loct := fun _ _ h => h
    box := fun _ _ => rfl
    boxt := fun _ h => h
    mp := fun _ _ => rfl
    mpt := fun _ h => h
    fz := rfl
    size := Nat.le_refl _
    keep := fun _ _ _ => rfl
    own' := fun b ho => by
      unfold own at ho
      rw [tget_set_same _ h.lt] at ho
      obtain ⟨L, hl, _⟩ := ho
      rw [h.loc 0] at hl
      cases hl
    os := rfl
    tape := rfl
    output := rfl }
  refine ⟨u, u.sim s (fun g es ht => ?_) (fun cs ht => ?_) (fun kvs ht => ?_) (by simpa using h.lt)⟩
  · rw [tget_set_same _ h.lt] at ht
    cases ht
    exact ⟨fun g' _ => h.loc g', .inl ⟨rfl, h.loc 0⟩⟩
  · rw [tget_set_same _ h.lt] at ht; cases ht
  · rw [tget_set_same _ h.lt] at ht; cases ht

theorem slot_box (s : Sim G T w) {t : Nat} (h : Slot G T t) (cs : List AV) (c : Array Value) (ety : TypeId) (hsz : c.size = cs.length) (h1 : ∀ x ∈ cs, AV.one x = true)
    (hc : ∀ (j : Nat) (x : AV), cs[j]? = some x → ∃ v, c[j]? = some v ∧ RV G w x v) :
    ∃ G', Upd G T w G' (T.set t (.box cs)) (w.alloc (.cells c ety)) t ∧ Sim G' (T.set t (.box cs)) (w.alloc (.cells c ety)) ∧ G'.box t = some w.heap.size := by
  let G' : Gh := { G with box := fun t' => if t' = t then some w.heap.size else G.box t' }
  have hb : G'.box t = some w.heap.size := by simp [G']
  have u : Upd G T w G' (T.set t (.box cs)) (w.alloc (.cells c ety)) t := {
    tab := fun t' h => tget_set_ne T _ h
    len := by simp
    loc := fun _ _ _ => rfl
    loct := fun _ _ h => h
    box := fun t' h => by simp [G', h]
    boxt := fun b hb => by rw [h.box] at hb; cases hb
    mp := fun _ _ => rfl
    mpt := fun _ h => h
    fz := rfl
    size := by simp
    keep := fun b h _ => heap_alloc w _ b (by omega)
    own' := fun b ho => by
      unfold own at ho
      rw [tget_set_same _ h.lt] at ho
      simp only [hb, Option.some.injEq] at ho
      exact .inr (by omega)
    os := rfl
    tape := rfl
    output := rfl }
  refine ⟨G', u, u.sim s (fun g es ht => ?_) (fun cs' ht => ?_) (fun kvs ht => ?_) (by simpa using h.lt), hb⟩
  · rw [tget_set_same _ h.lt] at ht; cases ht
  · rw [tget_set_same _ h.lt] at ht
    cases ht
    exact ⟨w.heap.size, c, ety, hb, heap_alloc_new w _, hsz, h1, fun j x hx => by obtain ⟨v, hv, r⟩ := hc j x hx; exact ⟨v, hv, r.ext s (u.ext (Nat.zero_le _))⟩,
      fun h => by have := s.fzb _ h; omega⟩
  · rw [tget_set_same _ h.lt] at ht; cases ht

theorem slot_arr (s : Sim G T w) {t : Nat} (h : Slot G T t) (n cap : Nat) (es : List AV) (c : Array Value) (ety : TypeId) (hcap : es.length ≤ cap) (hsz : cap * n ≤ c.size)
    (he : ∀ e ∈ es, elemOk n e = true) (hc : ∀ (j : Nat) (x : AV), (flat es)[j]? = some x → ∃ v, c[j]? = some v ∧ RV G w x v) :
    ∃ G', Upd G T w G' (T.set t (.arr 0 es)) (w.alloc (.cells c ety)) t ∧ Sim G' (T.set t (.arr 0 es)) (w.alloc (.cells c ety)) ∧ G'.loc t 0 = some ⟨w.heap.size, 0, n, cap⟩ := by
  let G' : Gh := { G with loc := fun t' g => if t' = t ∧ g = 0 then some ⟨w.heap.size, 0, n, cap⟩ else G.loc t' g }
  have hb : G'.loc t 0 = some ⟨w.heap.size, 0, n, cap⟩ := by simp [G']
  have u : Upd G T w G' (T.set t (.arr 0 es)) (w.alloc (.cells c ety)) t := {
    tab := fun t' h => tget_set_ne T _ h
    len := by simp
    loc := fun t' g h => by simp [G', h]
    loct := fun g L hl => by rw [h.loc g] at hl; cases hl
    box := fun _ _ => rfl
    boxt := fun _ h => h
    mp := fun _ _ => rfl
    mpt := fun _ h => h
    fz := rfl
    size := by simp
    keep := fun b h _ => heap_alloc w _ b (by omega)
    own' := fun b ho => by
      unfold own at ho
      rw [tget_set_same _ h.lt] at ho
      obtain ⟨L, hl, rfl⟩ := ho
      rw [hb] at hl
      cases hl
      exact .inr (Nat.le_refl _)
    os := rfl
    tape := rfl
    output := rfl }
  refine ⟨G', u, u.sim s (fun g es' ht => ?_) (fun cs' ht => ?_) (fun kvs ht => ?_) (by simpa using h.lt), hb⟩
  · rw [tget_set_same _ h.lt] at ht
    cases ht
    refine ⟨fun g' hg => ?_, .inr ⟨_, c, ety, hb, heap_alloc_new w _, hcap, by simpa using hsz, he, fun j x hx => ?_, fun h => by have := s.fzb _ h; simp at this⟩⟩
    · have h1 := h.loc g'
      have h2 : ¬ g' = 0 := by omega
      simp [G', h1, h2]
    · obtain ⟨v, hv, r⟩ := hc j x hx
      exact ⟨v, by simpa using hv, r.ext s (u.ext (Nat.zero_le _))⟩
  · rw [tget_set_same _ h.lt] at ht; cases ht
  · rw [tget_set_same _ h.lt] at ht; cases ht

/-! ### Operations that make one object -/
/-- Like `Res`; one token alone is touched. -/
def ResU (lo : Nat) (G : Gh) (T : Tab) (w : World) (T' : Tab) (v : AV) (t : Nat) : Value → World → Prop := fun cv w' =>
  ∃ G', Ext lo G T w G' T' w' ∧ Sim G' T' w' ∧ RV G' w' v cv ∧ ∀ t', t' ≠ t → (∀ g, G'.loc t' g = G.loc t' g) ∧ G'.box t' = G.box t' ∧ G'.mp t' = G.mp t'

theorem at_mksl (s : Sim G T w) (he : EnvR G w E a) {t : Nat} (ht : Slot G T t) (hlo : lo ≤ t) {n : Nat} {z : AV} {l : Opd} {m : Int} (hc : chkOp P (.mksl n z l) o = true) (hm : val E l = .int .i64 m) (h0 : 0 ≤ m) (h1 : m ≤ 1073741824) :
    OpOK P o a w (ResU lo G T w (T.set t (.arr 0 (List.replicate m.toNat z))) (.sl false n t 0 0 m.toNat) t) := by
  simp only [chkOp] at hc
  split at hc
  · rename_i t0 x y ho
    simp only [Bool.and_eq_true] at hc
    obtain ⟨⟨hk, hx⟩, hy⟩ := hc
    obtain ⟨cs, ety, hr, hsz, hel, hcell⟩ := run_makeSlice (P := P) (w := w) hk h0 h1
    obtain ⟨G', u, s', hl⟩ := slot_arr s ht n m.toNat (List.replicate m.toNat z) cs ety (by simp) (by omega) (fun e he => by rw [(List.mem_replicate.1 he).2]; exact hel) (fun j x hx => by
      obtain ⟨c, hc, hcc⟩ := hcell j x hx; exact ⟨c, hc, const_sound hcc⟩)
    refine opOK_value (v := .slice (some ⟨w.heap.size, 0, none⟩) m.toNat m.toNat) (w' := w.alloc (.cells cs ety)) ?_ ⟨G', u.ext hlo, s', ?_, fun t' h => ⟨fun g => u.loc t' g h, u.box t' h, u.mp t' h⟩⟩
    · simp [execOp, ho, int_val he hx hm, int_val he hy hm, hr]
    · have := RV.sl (G := G') (w := w.alloc (.cells cs ety)) false n t 0 0 m.toNat w.heap.size 0 m.toNat m.toNat hl (Nat.le_refl _) (by omega)
      simpa using this
  · cases hc

theorem at_alloc (s : Sim G T w) {t : Nat} (ht : Slot G T t) (hlo : lo ≤ t) {z : List AV} (hc : chkOp P (.alloc z []) o = true) :
    OpOK P o a w (ResU lo G T w (T.set t (.box z)) (.ptr t 0) t) := by
  simp only [chkOp] at hc
  split at hc
  · rename_i t0 ho
    simp only [Bool.and_eq_true] at hc
    obtain ⟨hz, _⟩ := hc
    split at hz
    · rename_i zv hzv
      obtain ⟨r, h1⟩ := cells_sound (G := G) (w := w) hz
      obtain ⟨G', u, s', hb⟩ := slot_box s ht z zv.cells t0 (by rw [r.1]; simp) h1 (fun j x hx => by
        obtain ⟨c, hc, rc⟩ := r.2 j x hx
        exact ⟨c, by rw [← Array.getElem?_toList]; exact hc, rc⟩)
      refine opOK_value (v := .pointer (some ⟨w.heap.size, 0, none⟩)) (w' := w.alloc (.cells zv.cells t0)) ?_ ⟨G', u.ext hlo, s', .ptr _ _ _ hb, fun t' h => ⟨fun g => u.loc t' g h, u.box t' h, u.mp t' h⟩⟩
      simp [execOp, ho, Instr.alloc, run_zeroValue w hzv, newVar, newRow]
    · cases hz
  · cases hc

theorem at_app (s : Sim G T w) (he : EnvR G w E a) {tk : Nat} (htk : Slot G T tk) (hlo : lo ≤ tk) {n : Nat} {x y : Opd} {es : List AV} (hc : chkOp P (.app n x y) o = true) (hxv : val E x = .fz .isnil n []) (hrd : rd T (val E y) = some es) (hn2 : esz (val E y) = some n) (hlen : es.length ≤ 1073741824) :
    OpOK P o a w (ResU lo G T w (T.set tk (.arr 0 es)) (.sl true n tk 0 0 es.length) tk) := by
  simp only [chkOp] at hc
  split at hc
  · rename_i ys ts ho
    split at hc
    · rename_i x' y' t t' hys hts
      simp only [Bool.and_eq_true, decide_eq_true_eq] at hc
      obtain ⟨⟨⟨⟨⟨hsl, ht'⟩, hx⟩, hy⟩, hg⟩, hn0⟩ := hc
      obtain ⟨e, hte, hsz⟩ := slice_of_chk hsl
      have ht2 : ∃ e', P.underlying t' = some (.slice e') := by
        unfold elemP at ht'
        split at ht'
        · exact ⟨_, ‹_›⟩
        · cases ht'
      have rx := val_sound he hx
      have ry := val_sound he hy
      obtain ⟨B, bCap, n2', hcy, hble, hn2', _, hely, hxy, _⟩ := rd_sound s hrd ry
      rw [hn2] at hn2'
      obtain rfl := Option.some.inj hn2'
      have fin : ∀ cv w', (Builtin.append_ #[t, t'] o.type #[a.eval x', a.eval y']).run P w = .ok cv w' → ResU lo G T w (T.set tk (.arr 0 es)) (.sl true n tk 0 0 es.length) tk cv w' → OpOK P o a w (ResU lo G T w (T.set tk (.arr 0 es)) (.sl true n tk 0 0 es.length) tk) := by
        intro cv w' hr hres
        refine opOK_value (run_call_builtin ho ?_) hres
        have e1 : ys.map a.eval = #[a.eval x', a.eval y'] := by rw [run_args hys]; rfl
        have e2 : ts = #[t, t'] := by rw [← Array.toArray_toList (xs := ts), hts]
        rw [e1, e2]
        simp only [builtin, Sem.run_bind, hr, Result.andThen_ok, Sem.run_pure]
      have hap : ∀ ty as, Builtin.append_ #[t, t'] ty as = Builtin.append_ #[t, t'] t as := fun _ _ => rfl
      have hcx : a.eval x' = .slice none 0 0 := by
        rw [hxv] at rx
        generalize a.eval x' = u at rx ⊢
        cases rx with
        | fznil => rfl
        | fz0 _ _ _ _ hn => exact absurd rfl hn
        | fz _ _ _ _ _ _ _ hn => exact absurd rfl hn
      obtain ⟨new, hnew, hrv, hnsz⟩ := firstCells_run (P := P) s hrd ry hn2 es.length (Nat.le_refl _)
      rw [List.take_length] at hrv
      rw [hcy] at hnew ry
      obtain ⟨r1, r2⟩ := run_append (P := P) (w := w) hte hsz ht2 hg (A := none) (sLen := 0) (sCap := 0) (by omega) hnew
      by_cases hes : es = []
      · subst hes
        obtain ⟨u, s'⟩ := slot_empty s htk
        refine fin (.slice none 0 0) w ?_ ⟨G, u.ext hlo, s', .slnil _ _ _ _, fun t' h => ⟨fun g => rfl, rfl, rfl⟩⟩
        rw [hcx, hcy, hap]
        exact r1 (Nat.le_refl _) w (fun _ h => by cases h) fun _ => rfl
      · have hpos : 0 < es.length := List.length_pos_iff.2 hes
        obtain ⟨newCap, zs, hgr⟩ := r2 (by omega)
        obtain ⟨X1, s1⟩ := same_heap (w' := { w with drawn := w.drawn + 1 }) s lo rfl rfl rfl rfl
        obtain ⟨new1, hnew1, hrv1, hnsz1⟩ := firstCells_run (P := P) s1 hrd (ry.ext s X1) hn2 es.length (Nat.le_refl _)
        rw [List.take_length] at hrv1
        obtain ⟨hrun, hcap, hzs⟩ := hgr #[] new1 _ rfl (by simp [Builtin.firstCells]) hnew1
        have hcells : ∀ (j : Nat) (x : AV), (flat es)[j]? = some x → ∃ v, (#[] ++ new1 ++ zs : Array Value)[j]? = some v ∧ RV G { w with drawn := w.drawn + 1 } x v := by
          have := grow_rvs (es1 := []) (c1 := #[]) (zs := zs) ⟨rfl, fun j x h => by simp [flat] at h⟩ hrv1
          simpa using this
        have hel : ∀ e ∈ es, elemOk n e = true := hely
        obtain ⟨G', u, s', hl⟩ := slot_arr s1 htk n newCap es (#[] ++ new1 ++ zs) e (by omega) (by
          have hz : (#[] ++ new1 ++ zs : Array Value).size = new1.size + zs.size := by simp
          rw [hz, hnsz1, hzs, ← Nat.add_mul]
          exact Nat.mul_le_mul_right _ (by omega)) hel hcells
        refine fin _ _ (by rw [hcx, hcy, hap]; exact hrun) ⟨G', X1.trans (u.ext hlo), s', ?_, fun t' h => ⟨fun g => u.loc t' g h, u.box t' h, u.mp t' h⟩⟩
        have := RV.sl (G := G') (w := (({ w with drawn := w.drawn + 1 } : World).alloc (.cells (#[] ++ new1 ++ zs) e))) true n tk 0 0 es.length w.heap.size 0 newCap newCap hl (by omega) (by omega)
        simpa using this
    · cases hc
  · cases hc
end
end Go.Proofs.Ytlilfiekkaolkaa.Am
