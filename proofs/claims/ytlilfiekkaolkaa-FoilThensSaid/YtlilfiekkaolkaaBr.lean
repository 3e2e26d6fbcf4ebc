/- The bridge: what is read of the arguments as values of the machine; the machine's answer as the row's. -/
import Derived.Test.YtlilfiekkaolkaaEw
import Derived.Test.YtlilfiekkaolkaaBq
import Derived.Test.YtlilfiekkaolkaaRows
import Derived.ChangeSame
import Derived.JoinedOf
import Derived.JoinedAt
import Derived.RowKit3
import Derived.RowKit2
import Derived.ReadAgain
import Derived.ChangeOld
import Derived.ProofKit
import Derived.OpenShut
import Derived.Deep.Slices
set_option linter.unusedVariables false
set_option linter.unusedSimpArgs false
set_option maxRecDepth 100000
namespace Go.Proofs.Ytlilfiekkaolkaa.Am
open Go Go.ChangeShapes Go.WideShapes Go.ChangeAt Go.RowKit Go.Deep

/-! ### What is read -/
section
variable {H : Type} {enc : TypeId × Value → H} {W : World}
abbrev allF (W : World) : Nat → Prop := fun b => b < W.heap.size
abbrev RV0 (W : World) : AV → Value → Prop := RV (bare (allF W)) W

theorem dec_slice {t e : TypeId} (ht : Try.prog.underlying t = some (.slice e)) (hc : Try.prog.cellsOf e = 1) {α : Type} [Inhabited α] (f : α → AV) (ok : α → Prop) (h1 : ∀ a, (f a).one = true)
    (he : ∀ (n : Nat) (v : Value) (x : DataW H × List MemPlace), DataW.trod enc Try.prog W 0 (fun _ => true) true n e [v] = some x → ∃ a, ok a ∧ RV0 W (f a) v)
    {fuel : Nat} {cs : List Value} {x : DataW H × List MemPlace} (h : DataW.trod enc Try.prog W 0 (fun _ => true) true fuel t cs = some x) :
    ∃ l : List α, (∀ a ∈ l, ok a) ∧ l.length ≤ maxLen ∧ ∃ v, cs = [v] ∧ RV0 W (Ar .maybe f l) v := by
  rcases open_slice1 ht hc h with ⟨hcs, _⟩ | ⟨a, len, cap, m, n, V, D, Pl, hcs, _, hl, hm, hmm, _, hx⟩
  · exact ⟨[], by simp, Nat.zero_le _, _, hcs, .fznil _ _ (by simp)⟩
  · simp only [if_true] at hmm
    subst hmm
    have key : ∀ i, ∃ a, i < len → ok a ∧ RV0 W (f a) (V i) := fun i => by
      by_cases hi : i < len
      · obtain ⟨a, h⟩ := he n (V i) _ (hx i (by omega)).2
        exact ⟨a, fun _ => h⟩
      · exact ⟨default, fun h => absurd h hi⟩
    let A : Nat → α := fun i => Classical.choose (key i)
    have hA : ∀ i, i < len → ok (A i) ∧ RV0 W (f (A i)) (V i) := fun i => Classical.choose_spec (key i)
    refine ⟨(List.range len).map A, fun a ha => ?_, by simp; omega, _, hcs, ?_⟩
    · obtain ⟨i, hi, rfl⟩ := List.mem_map.1 ha
      exact (hA i (List.mem_range.1 hi)).1
    · cases hlen : len with
      | zero => exact .fz0 _ _ _ _ (by simp)
      | succ k =>
        rw [← hlen]
        obtain ⟨b, o, spot⟩ := a
        have hs : spot = none := by simpa [Addr.add] using World.cell?_spot (hx 0 (by omega)).1
        subst hs
        have hcell : ∀ i, i < len → W.cell? ⟨b, o + i, none⟩ = some (V i) := fun i hi => by
          have := (hx i (by omega)).1
          rwa [WideShapes.add_plain] at this
        have hb : b < W.heap.size := by
          have := hcell 0 (by omega)
          unfold World.cell? at this
          split at this
          · rename_i hb; exact (Array.getElem?_eq_some_iff.1 hb).1
          · cases this
        have hone : ∀ e ∈ ((List.range len).map A).map f, AV.one e = true := fun e he => by
          obtain ⟨a, _, rfl⟩ := List.mem_map.1 he
          exact h1 a
        have hfl : flat (((List.range len).map A).map f) = ((List.range len).map A).map f := flat_ones hone
        have := RV.fz (G := bare (allF W)) (w := W) .maybe 1 (((List.range len).map A).map f) b o m V (by simp) hb (by simp; omega) (fun e he => elemOk_one (hone e he))
          (fun j x hx => by
            rw [hfl] at hx
            have hj := (List.getElem?_eq_some_iff.1 hx).1
            simp at hj
            exact hcell j hj)
          (fun j x hx => by
            rw [hfl] at hx
            have hj := (List.getElem?_eq_some_iff.1 hx).1
            simp only [List.length_map, List.length_range] at hj
            simp only [List.getElem?_map, List.getElem?_range hj, Option.map_some, Option.some.injEq] at hx
            rw [← hx]
            exact (hA j hj).2)
        rw [show (((List.range len).map A).map f).length = len by simp] at this
        exact this

def okI (n : Int) : Prop := -9223372036854775808 ≤ n ∧ n ≤ 9223372036854775807
theorem okI_of {n : Int} (h : (Lit.int .i64 n).wf = true) : okI n := by
  simp only [Lit.wf, Bool.and_eq_true, decide_eq_true_eq] at h
  exact h
theorem elem_int (n : Nat) (v : Value) (x : DataW H × List MemPlace) (h : DataW.trod enc Try.prog W 0 (fun _ => true) true n 3 [v] = some x) : ∃ a, okI a ∧ RV0 W (I a) v := by
  obtain ⟨m, hm, _, hw⟩ := DataW.trod_int Try.underlying3 h
  simp only [List.cons.injEq, and_true] at hm
  subst hm
  exact ⟨m, okI_of hw, .int _ _⟩
theorem elem_bool (n : Nat) (v : Value) (x : DataW H × List MemPlace) (h : DataW.trod enc Try.prog W 0 (fun _ => true) true n 4 [v] = some x) : ∃ a : Bool, True ∧ RV0 W (B a) v := by
  obtain ⟨m, hm, _⟩ := DataW.trod_bool Try.underlying4 h
  simp only [List.cons.injEq, and_true] at hm
  subst hm
  exact ⟨m, trivial, .bool _⟩
theorem cells3 : Try.prog.cellsOf 3 = 1 := by kernel_rfl
theorem cells4 : Try.prog.cellsOf 4 = 1 := by kernel_rfl
theorem cells22 : Try.prog.cellsOf 22 = 1 := by kernel_rfl
theorem cells23 : Try.prog.cellsOf 23 = 1 := by kernel_rfl
theorem cells29 : Try.prog.cellsOf 29 = 1 := by kernel_rfl
theorem cells25 : Try.prog.cellsOf 25 = 2 := by kernel_rfl

def okIs (l : List Int) : Prop := (∀ n ∈ l, okI n) ∧ l.length ≤ maxLen
def okBs (l : List Bool) : Prop := l.length ≤ maxLen
theorem cs_ints {fuel : Nat} {cs : List Value} {x : DataW H × List MemPlace} (h : DataW.trod enc Try.prog W 0 (fun _ => true) true fuel 22 cs = some x) : ∃ l, okIs l ∧ ∃ v, cs = [v] ∧ RV0 W (Ar .maybe I l) v := by
  obtain ⟨l, a, b, c⟩ := dec_slice Try.underlying22 cells3 I okI (fun _ => rfl) elem_int h
  exact ⟨l, ⟨a, b⟩, c⟩
theorem cs_bools {fuel : Nat} {cs : List Value} {x : DataW H × List MemPlace} (h : DataW.trod enc Try.prog W 0 (fun _ => true) true fuel 29 cs = some x) : ∃ l, okBs l ∧ ∃ v, cs = [v] ∧ RV0 W (Ar .maybe B l) v := by
  obtain ⟨l, _, b, c⟩ := dec_slice Try.underlying29 cells4 B (fun _ => True) (fun _ => rfl) elem_bool h
  exact ⟨l, b, c⟩
def okIIs (l : List (List Int)) : Prop := (∀ r ∈ l, okIs r) ∧ l.length ≤ maxLen
def okBBs (l : List (List Bool)) : Prop := (∀ r ∈ l, okBs r) ∧ l.length ≤ maxLen
theorem cs_introws {fuel : Nat} {cs : List Value} {x : DataW H × List MemPlace} (h : DataW.trod enc Try.prog W 0 (fun _ => true) true fuel 23 cs = some x) : ∃ l, okIIs l ∧ ∃ v, cs = [v] ∧ RV0 W (Ar .maybe (Ar .maybe I) l) v := by
  obtain ⟨l, a, b, c⟩ := dec_slice Try.underlying23 cells22 (Ar .maybe I) okIs (fun _ => rfl) (fun n v x h => by
    obtain ⟨l, hl, v', hv, r⟩ := cs_ints h
    simp only [List.cons.injEq, and_true] at hv
    subst hv
    exact ⟨l, hl, r⟩) h
  exact ⟨l, ⟨a, b⟩, c⟩
theorem cs_boolrows {fuel : Nat} {cs : List Value} {x : DataW H × List MemPlace} (h : DataW.trod enc Try.prog W 0 (fun _ => true) true fuel 45 cs = some x) : ∃ l, okBBs l ∧ ∃ v, cs = [v] ∧ RV0 W (rowsV .maybe .maybe l) v := by
  obtain ⟨l, a, b, c⟩ := dec_slice Try.underlying45 cells29 (Ar .maybe B) okBs (fun _ => rfl) (fun n v x h => by
    obtain ⟨l, hl, v', hv, r⟩ := cs_bools h
    simp only [List.cons.injEq, and_true] at hv
    subst hv
    exact ⟨l, hl, r⟩) h
  exact ⟨l, ⟨a, b⟩, c⟩
/-- A game that was read. -/
def okG (o : List Int) (nx : List (List Int)) : Prop := okIs o ∧ okIIs nx

theorem one_val {v : Value} {c : Value} (h : v.cells.toList = [c]) (hs : ∃ a l k, v = .slice a l k) : v = c := by
  obtain ⟨a, l, k, rfl⟩ := hs
  simpa [Value.cells] using h
variable {base : Nat} {v : Value} {d : DataW H} {p : List MemPlace}
theorem arg_ints (hval : Value.okWide Try.prog W .any base 22 v) (h : DataW.Trod enc Try.prog W 0 (fun _ => true) true 22 v d p) : ∃ l, okIs l ∧ RV0 W (Ar .maybe I l) v := by
  obtain ⟨f, h⟩ := h
  obtain ⟨l, hl, c, hc, r⟩ := cs_ints h
  exact ⟨l, hl, by rw [one_val hc (okWide_slice Try.underlying22 hval)]; exact r⟩
theorem arg_bools (hval : Value.okWide Try.prog W .any base 29 v) (h : DataW.Trod enc Try.prog W 0 (fun _ => true) true 29 v d p) : ∃ l, okBs l ∧ RV0 W (Ar .maybe B l) v := by
  obtain ⟨f, h⟩ := h
  obtain ⟨l, hl, c, hc, r⟩ := cs_bools h
  exact ⟨l, hl, by rw [one_val hc (okWide_slice Try.underlying29 hval)]; exact r⟩
theorem arg_introws (hval : Value.okWide Try.prog W .any base 23 v) (h : DataW.Trod enc Try.prog W 0 (fun _ => true) true 23 v d p) : ∃ l, okIIs l ∧ RV0 W (Ar .maybe (Ar .maybe I) l) v := by
  obtain ⟨f, h⟩ := h
  obtain ⟨l, hl, c, hc, r⟩ := cs_introws h
  exact ⟨l, hl, by rw [one_val hc (okWide_slice Try.underlying23 hval)]; exact r⟩
theorem arg_boolrows (hval : Value.okWide Try.prog W .any base 45 v) (h : DataW.Trod enc Try.prog W 0 (fun _ => true) true 45 v d p) : ∃ l, okBBs l ∧ RV0 W (rowsV .maybe .maybe l) v := by
  obtain ⟨f, h⟩ := h
  obtain ⟨l, hl, c, hc, r⟩ := cs_boolrows h
  exact ⟨l, hl, by rw [one_val hc (okWide_slice Try.underlying45 hval)]; exact r⟩
theorem arg_int (hval : Value.okWide Try.prog W .any base 3 v) (h : DataW.Trod enc Try.prog W 0 (fun _ => true) true 3 v d p) : ∃ n, okI n ∧ RV0 W (I n) v := by
  obtain ⟨n, rfl, _, _, hw⟩ := open_int Try.underlying3 hval h
  exact ⟨n, okI_of hw, .int _ _⟩
theorem arg_game (hval : Value.okWide Try.prog W .any base 25 v) (h : DataW.Trod enc Try.prog W 0 (fun _ => true) true 25 v d p) : ∃ o nx, okG o nx ∧ RV0 W (gameV .maybe .maybe .maybe o nx) v := by
  obtain ⟨f, h⟩ := h
  have hv : ∃ cs, v = .agg cs := by
    simp only [Value.okWide, Try.underlying25] at hval
    obtain ⟨cs, h, _⟩ := hval
    exact ⟨cs, h⟩
  obtain ⟨cs, rfl⟩ := hv
  obtain ⟨y0, y1, n, _, hl, h0, h1⟩ := trod_struct2 Try.underlying25 h
  simp only [Value.cells] at hl h0 h1
  rw [cells25] at hl
  have c22 := cells22
  have c23 := cells23
  obtain ⟨l, hl0, c0, hc0, r0⟩ := cs_ints h0
  obtain ⟨nx, hl1, c1, hc1, r1⟩ := cs_introws h1
  match hcs : cs.toList, hl with
  | [a, b], _ =>
    rw [hcs] at hc0 hc1
    have e0 : a = c0 := by simpa [c22] using hc0
    have e1 : b = c1 := by simpa [c23] using hc1
    subst e0 e1
    refine ⟨l, nx, ⟨hl0, hl1⟩, .agg _ _ (by rw [← Array.length_toList, hcs]; rfl) fun i x c hx hc => ?_⟩
    rw [← Array.getElem?_toList, hcs] at hc
    match i with
    | 0 => simp at hx hc; subst hx hc; exact r0
    | 1 => simp at hx hc; subst hx hc; exact r1
    | i + 2 => simp at hx

/-! ### What is left behind -/
theorem kids : Kids Try.prog (· < Try.prog.types.size) := kids_rows (by kernel_rfl) (by kernel_rfl)
theorem full : ∀ t e, t < Try.prog.types.size → Try.prog.underlying t = some (.slice e) → 0 < Try.prog.cellsOf e := slices_full_of Try.prog (by kernel_rfl)
theorem own0 : ownKnob Try.prog.godebug = none := by kernel_rfl

theorem trodAll_carry {W W' : World} : ∀ {ts : List TypeId} {vs : List Value} {ds : List (DataW H)} {ps : List MemPlace}, DataW.TrodAll enc Try.prog W 0 (fun _ => true) true ts vs ds ps → (∀ p ∈ ps, W.sameAt W' p) →
    DataW.TrodAll enc Try.prog W' 0 (fun _ => true) true ts vs ds ps
  | [], [], [], _, h, _ => h
  | _ :: _, _ :: _, _ :: _, _, ⟨p, q, ⟨n, h1⟩, h2, e⟩, hs => ⟨p, q, ⟨n, DataW.trod_carry n _ _ _ h1 fun x hx => hs x (by rw [e]; exact List.mem_append_left _ hx)⟩, trodAll_carry h2 (fun x hx => hs x (by rw [e]; exact List.mem_append_right _ hx)), e⟩

/-- The same of what was there before. -/
structure Stood (W W' : World) : Prop where
  heap : ∀ b, b < W.heap.size → W'.heap[b]? = W.heap[b]?
  os : W'.os = W.os
  output : W'.output = W.output

theorem run_post {s : ChangeSpec} {fn : Func} {W' : World} {args : Array Value} {ds gs : List (DataW H)} {before : List MemPlace} (hW : DataW.Whole enc Try.prog fn.params.toList s.vars false W args.toList ds gs before) (hv : s.vars = [])
    (hfn : s.fn H (ds ++ gs) = { results := [.lit (.bool true)], args := ds }) (hpar : ∀ t ∈ fn.params.toList, t < Try.prog.types.size) (hres : fn.resultTypes = #[4]) (S : Stood W W') :
    s.post enc Try.prog fn false true false false W args (.bool true) W' := by
  have hW' := hW
  obtain ⟨p, q, hA, hV, hpq, hz, hn⟩ := hW
  rw [hv] at hV
  obtain ⟨rfl, rfl⟩ := trodVars_none hV
  have hlt : ∀ x ∈ before, x.block < W.heap.size := fun x hx => hW'.lt x hx
  have hb : before = p := by simpa using hpq
  have same : ∀ x ∈ before, W.sameAt W' x := fun x hx => by
    have := S.heap _ (hlt x hx)
    cases x with
    | cell b off => simp only [World.sameAt, World.cell?]; simp only [MemPlace.block] at this; rw [this]
    | map b => exact this
  have hargs : ∀ sp : Nat → Bool, (∀ p ∈ before, sp p.block = true) → DataW.TrodAll enc Try.prog W' 0 sp true fn.params.toList args.toList (s.fn H (ds ++ [])).args p := fun sp hsp => by
    rw [hfn]
    exact DataW.TrodAll.respare kids full hpar (trodAll_carry hA fun x hx => same x (by rw [hb]; exact hx)) fun x hx => hsp x (by rw [hb]; exact hx)
  have hresl : (Value.bool true).resultList fn.resultTypes.size = [.bool true] := by rw [hres]; rfl
  have hress : ∀ (b : Nat) (sp : Nat → Bool) (hd : Bool), DataW.TrodAll enc Try.prog W' b sp hd fn.resultTypes.toList ((Value.bool true).resultList fn.resultTypes.size) (s.fn H (ds ++ [])).results [] := fun b sp hd => by
    rw [hfn, hresl, hres]
    exact trodAll_mk1 (shut_bool Try.underlying4 true)
  have hvars : ∀ sp : Nat → Bool, DataW.TrodVars enc Try.prog W' sp s.vars (s.fn H (ds ++ [])).vars [] := fun sp => by rw [hfn, hv]; rfl
  have hk : W.keptBut W' (· ∈ before) := ⟨S.os, S.output, fun i hi => by rw [S.heap i hi]; cases W.heap[i]? with
    | none => rfl
    | some o => cases o <;> simp⟩
  have hold : ∀ p ∈ before, (fun b => decide (b < W.heap.size)) p.block = true := fun p hp => by simpa using hlt p hp
  refine ⟨ds, [], before, [], p, [], hW', hress _ _ _, hargs _ hold, hvars _, World.keptBut_mono (fun x hx => ⟨hx, ?_⟩) hk, fun _ => ?_⟩
  · rw [hb] at hx; exact Or.inr (by simpa using hx)
  · refine ⟨fun j t r ht hr => ?_, _, _, ([] ++ p) ++ [], ⟨[] ++ p, [], trodAll_append (hargs _ (fun _ _ => rfl)) (hress _ _ _), hvars _, rfl, ?_, ?_⟩, ?_⟩
    · exact ok_one (by rw [hres]) rfl (okWide_bool_mk Try.underlying4 true) j t r ht hr
    · intro b off hp
      have hp' : MemPlace.cell b off ∈ before := by rw [hb]; simpa using hp
      have := hz b off hp'
      have hh := S.heap b (hlt _ hp')
      simp only [World.frozen?] at this ⊢
      rw [hh]
      exact this
    · intro ha; cases ha
    · intro x hx _
      rw [hb]
      simpa using hx
end

theorem short_of {nx : List (List Int)} (h : okIIs nx) : ∀ l ∈ nx, l.length < 9223372036854775808 := fun l hl => by
  have := (h.1 l hl).2
  unfold maxLen at this
  omega
theorem lim_of {α : Type} {l : List α} (h : l.length ≤ maxLen) : l.length < 9223372036854775808 := by unfold maxLen at h; omega

/-- What the machine answers on values that were read. -/
theorem law_calls {f : Nat} {args : List AV} {T' : Tab} (h : acall prog 0 f args [] = some (B true, T')) {W : World} {cargs : List Value} (hr : RVs (bare (allF W)) W args cargs) :
    Calls Try.prog (f % 1000) cargs.toArray W fun e W' => e = .returned (.bool true) ∧ Stood W W' := by
  refine (acall_sound progOK h (bare_sim fun b hb => hb) (Nat.le_refl _) hr).mono fun e W' ⟨cv, he, G', X, _, rv⟩ => ?_
  cases rv
  exact ⟨he, fun b hb => X.keep b hb fun t _ ho => by have := own_lt ho; simp at this, X.os, X.output⟩
theorem rvs_nil {G : Gh} {w : World} : RVs G w [] [] := ⟨rfl, fun j x h => by simp at h⟩
theorem rvs_cons {G : Gh} {w : World} {x : AV} {c : Value} {l : List AV} {m : List Value} (h : RV G w x c) (t : RVs G w l m) : RVs G w (x :: l) (c :: m) := by
  refine ⟨by simp [t.1], fun j y hy => ?_⟩
  cases j with
  | zero => simp at hy; subst hy; exact ⟨c, rfl, h⟩
  | succ j => exact t.2 j y (by simpa using hy)
end Go.Proofs.Ytlilfiekkaolkaa.Am
