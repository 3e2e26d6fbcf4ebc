/- Freezing, and what a function hands back. -/
import Derived.Test.YtlilfiekkaolkaaAmO
set_option linter.unusedVariables false
set_option linter.unusedSimpArgs false
namespace Go.Proofs.Ytlilfiekkaolkaa.Am
open Go

/-- All from token n0 on is frozen. -/
def cut (n0 : Nat) (G : Gh) (T : Tab) : Gh where
  loc t g := if t < n0 then G.loc t g else none
  box t := if t < n0 then G.box t else none
  mp t := if t < n0 then G.mp t else none
  fz b := G.fz b ∨ ∃ t, n0 ≤ t ∧ own G T t b

theorem mapO_get {α β : Type} {f : α → Option β} : ∀ {l : List α} {l' : List β}, mapO f l = some l' → l'.length = l.length ∧ ∀ (j : Nat) (x' : β), l'[j]? = some x' → ∃ x, l[j]? = some x ∧ f x = some x'
  | [], l', h => by simp only [mapO, Option.some.injEq] at h; subst h; exact ⟨rfl, fun j x h => by simp at h⟩
  | v :: r, l', h => by
    simp only [mapO] at h
    split at h
    · rename_i v' r' h1 h2
      cases h
      obtain ⟨hl, hg⟩ := mapO_get h2
      refine ⟨by simp [hl], fun j x hx => ?_⟩
      cases j with
      | zero => simp at hx; subst hx; exact ⟨v, rfl, h1⟩
      | succ j => exact hg j x hx
    · cases h

theorem frz_one {n0 d : Nat} {T : Tab} {x x' : AV} (h : frz n0 T d x = some x') (h1 : x.one = true) : x'.one = true := by
  cases d with
  | zero => cases h
  | succ d =>
    cases x <;> simp only [frz] at h
    case int => cases h; rfl
    case bool => cases h; rfl
    case fz => simp only [Option.map_eq_some_iff] at h; obtain ⟨_, _, rfl⟩ := h; rfl
    case sl =>
      split at h
      · cases h; rfl
      · split at h
        · simp only [Option.map_eq_some_iff] at h; obtain ⟨_, _, rfl⟩ := h; rfl
        · cases h
    case ptr =>
      split at h
      · cases h; rfl
      · cases h
    case iface => simp only [Option.map_eq_some_iff] at h; obtain ⟨_, _, rfl⟩ := h; rfl
    case tup => cases h1
    case agg => cases h1
    all_goals cases h

theorem frz_cells {n0 d n : Nat} {T : Tab} {e e' : AV} (h : frz n0 T d e = some e') (he : elemOk n e = true) :
    elemOk n e' = true ∧ e'.cells.length = e.cells.length ∧ ∀ (j : Nat) (x' : AV), e'.cells[j]? = some x' → ∃ x d', d' ≤ d ∧ e.cells[j]? = some x ∧ frz n0 T d' x = some x' := by
  unfold elemOk at he
  split at he
  · rename_i hn
    subst hn
    have h1 := frz_one h he
    rw [one_cells he, one_cells h1]
    refine ⟨elemOk_one h1, rfl, fun j x' hx => ?_⟩
    cases j with
    | zero => simp at hx; subst hx; exact ⟨e, d, Nat.le_refl _, rfl, h⟩
    | succ j => simp at hx
  · rename_i hn
    split at he
    · rename_i cs
      simp only [Bool.and_eq_true, beq_iff_eq, List.all_eq_true] at he
      cases d with
      | zero => cases h
      | succ d =>
        simp only [frz, Option.map_eq_some_iff] at h
        obtain ⟨cs', hm, rfl⟩ := h
        obtain ⟨hl, hg⟩ := mapO_get hm
        refine ⟨?_, hl, fun j x' hx => ?_⟩
        · unfold elemOk
          rw [if_neg hn]
          simp only [Bool.and_eq_true, beq_iff_eq, List.all_eq_true]
          refine ⟨by omega, fun x hx => ?_⟩
          obtain ⟨j, hj⟩ := List.getElem?_of_mem hx
          obtain ⟨y, hy, hf⟩ := hg j x hj
          exact frz_one hf (he.2 y (List.mem_of_getElem? hy))
        · obtain ⟨y, hy, hf⟩ := hg j x' hx
          exact ⟨y, d, by omega, hy, hf⟩
    · cases he

theorem frz_flat {n0 d n : Nat} {T : Tab} : ∀ {es es' : List AV}, mapO (frz n0 T d) es = some es' → (∀ e ∈ es, elemOk n e = true) →
    (∀ e ∈ es', elemOk n e = true) ∧ ∀ (j : Nat) (x' : AV), (flat es')[j]? = some x' → ∃ x d', d' ≤ d ∧ (flat es)[j]? = some x ∧ frz n0 T d' x = some x'
  | [], es', h, _ => by simp only [mapO, Option.some.injEq] at h; subst h; exact ⟨by simp, fun j x h => by simp [flat] at h⟩
  | e :: es, es', h, hel => by
    simp only [mapO] at h
    split at h
    · rename_i e' r' h1 h2
      cases h
      obtain ⟨a1, a2⟩ := frz_flat h2 (fun x hx => hel x (List.mem_cons_of_mem _ hx))
      obtain ⟨b1, b2, b3⟩ := frz_cells h1 (hel e List.mem_cons_self)
      refine ⟨fun x hx => ?_, fun j x' hx => ?_⟩
      · rcases List.mem_cons.1 hx with rfl | hx
        · exact b1
        · exact a1 x hx
      · rw [flat_cons] at hx ⊢
        rcases Nat.lt_or_ge j e'.cells.length with hj | hj
        · rw [List.getElem?_append_left hj] at hx
          rw [List.getElem?_append_left (by omega)]
          exact b3 j x' hx
        · rw [List.getElem?_append_right hj] at hx
          rw [List.getElem?_append_right (by omega), ← b2]
          exact a2 _ x' hx
    · cases h

theorem own_of_rd {G : Gh} {T : Tab} {mb : Bool} {n t g off len b base cap : Nat} {es : List AV} (hrd : rd T (.sl mb n t g off len) = some es) (hl : G.loc t g = some ⟨b, base, n, cap⟩) : own G T t b := by
  unfold own
  simp only [rd] at hrd
  split at hrd
  · rename_i g' es' ht
    split at hrd
    · rename_i hg; rw [ht]; obtain ⟨rfl, _⟩ := hg; exact ⟨_, hl, rfl⟩
    · cases hrd
  · cases hrd

/-- What is frozen stands for the same. -/
theorem frz_sound {G : Gh} {T : Tab} {w : World} (s : Sim G T w) (n0 : Nat) : ∀ (d : Nat) (v v' : AV) (c : Value), frz n0 T d v = some v' → RV G w v c → RV (cut n0 G T) w v' c := by
  intro d
  induction d using Nat.strongRecOn with
  | _ d ih =>
    intro v v' c h r
    cases d with
    | zero => cases h
    | succ d =>
      have lists : ∀ (vs vs' : List AV) (cvs : Array Value), mapO (frz n0 T d) vs = some vs' → cvs.size = vs.length → (∀ (i : Nat) (x : AV) (c : Value), vs[i]? = some x → cvs[i]? = some c → RV G w x c) →
          cvs.size = vs'.length ∧ ∀ (i : Nat) (x : AV) (c : Value), vs'[i]? = some x → cvs[i]? = some c → RV (cut n0 G T) w x c := by
        intro vs vs' cvs hm h1 hr
        obtain ⟨hl, hg⟩ := mapO_get hm
        refine ⟨by omega, fun i x c hx hc => ?_⟩
        obtain ⟨y, hy, hf⟩ := hg i x hx
        exact ih d (by omega) y x c hf (hr i y c hy hc)
      cases v <;> simp only [frz] at h
      case int => cases h; cases r; exact .int _ _
      case bool => cases h; cases r; exact .bool _
      case fz nl n es =>
        simp only [Option.map_eq_some_iff] at h
        obtain ⟨es', hm, rfl⟩ := h
        cases r with
        | fznil _ _ hn => simp only [mapO, Option.some.injEq] at hm; subst hm; exact .fznil _ _ hn
        | fz0 _ _ a cap hn => simp only [mapO, Option.some.injEq] at hm; subst hm; exact .fz0 _ _ _ _ hn
        | fz _ _ _ b o cap cs hn hb hl he hc hr =>
          obtain ⟨a1, a2⟩ := frz_flat hm he
          have hlen := (mapO_get hm).1
          rw [← hlen]
          refine .fz _ _ _ b o cap cs hn (.inl hb) (by omega) a1 (fun j x' hx => ?_) (fun j x' hx => ?_)
          · obtain ⟨x, d', _, hx', _⟩ := a2 j x' hx; exact hc j x hx'
          · obtain ⟨x, d', hd', hx', hf⟩ := a2 j x' hx; exact ih d' (by omega) x x' _ hf (hr j x hx')
      case sl mb n t g off len =>
        split at h
        · rename_i ht
          cases h
          cases r with
          | slnil => exact .slnil _ _ _ _
          | slz => exact .slz _ _ _ _ _ _
          | sl _ _ _ _ _ _ b base cap capT hl h1 h2 => exact .sl _ _ _ _ _ _ b base cap capT (by simp only [cut, if_pos ht]; exact hl) h1 h2
        · rename_i ht
          split at h
          · rename_i es hrd
            simp only [Option.map_eq_some_iff] at h
            obtain ⟨es', hm, rfl⟩ := h
            obtain ⟨ad, cap, n2, hc, hle, hn2, _, helv, hx, _⟩ := rd_sound s hrd r
            have hn2' : n = n2 := by simpa [esz] using hn2
            subst hn2'
            obtain ⟨a1, a2⟩ := frz_flat hm helv
            have hlen := (mapO_get hm).1
            cases r with
            | slnil =>
              have : es' = [] := List.eq_nil_of_length_eq_zero (by simp only [Value.slice.injEq] at hc; omega)
              subst this
              exact .fznil _ _ (by simp)
            | slz =>
              have : es' = [] := List.eq_nil_of_length_eq_zero (by simp only [Value.slice.injEq] at hc; omega)
              subst this
              exact .fz0 _ _ _ _ (by split <;> simp)
            | sl _ _ _ _ _ _ b base cap' capT hl h1' h2' =>
              simp only [Value.slice.injEq] at hc
              obtain ⟨rfl, rfl, rfl⟩ := hc
              rcases hx with rfl | ⟨b', o', hb', R⟩
              · simp only [mapO, Option.some.injEq] at hm; subst hm; exact .fz0 _ _ _ _ (by split <;> simp)
              · simp only [Option.some.injEq, Addr.mk.injEq] at hb'
                obtain ⟨rfl, rfl, _⟩ := hb'
                have hf : ∀ j, ∃ cv, ∀ x, (flat es)[j]? = some x → w.cell? ⟨b, base + off * n + j, none⟩ = some cv ∧ RV G w x cv := by
                  intro j
                  cases hj : (flat es)[j]? with
                  | none => exact ⟨undef, fun x hx => by cases hx⟩
                  | some x => obtain ⟨cv, h1, h2⟩ := R.cell j x hj; exact ⟨cv, fun y hy => by cases hy; exact ⟨h1, h2⟩⟩
                have hob := own_of_rd hrd hl
                rw [← hlen]
                refine .fz _ _ _ b _ _ (fun j => Classical.choose (hf j)) (by split <;> simp) (.inr ⟨t, by omega, hob⟩) (by omega) a1 (fun j x' hx => ?_) (fun j x' hx => ?_)
                · obtain ⟨x, d', _, hx', _⟩ := a2 j x' hx; exact (Classical.choose_spec (hf j) x hx').1
                · obtain ⟨x, d', hd', hx', hff⟩ := a2 j x' hx; exact ih d' (by omega) x x' _ hff (Classical.choose_spec (hf j) x hx').2
          · cases h
      case ptr t off =>
        split at h
        · rename_i ht
          cases h
          cases r with
          | ptr _ _ b hb => exact .ptr _ _ b (by simp only [cut, if_pos ht]; exact hb)
        · cases h
      case tup vs =>
        simp only [Option.map_eq_some_iff] at h
        obtain ⟨vs', hm, rfl⟩ := h
        cases r with
        | tup _ cvs h1 hr =>
          obtain ⟨a1, a2⟩ := lists _ _ _ hm h1 hr
          exact .tup _ _ a1 a2
      case agg vs =>
        simp only [Option.map_eq_some_iff] at h
        obtain ⟨vs', hm, rfl⟩ := h
        cases r with
        | agg _ cvs h1 hr =>
          obtain ⟨a1, a2⟩ := lists _ _ _ hm h1 hr
          exact .agg _ _ a1 a2
      case iface ty v =>
        simp only [Option.map_eq_some_iff] at h
        obtain ⟨v2, hm, rfl⟩ := h
        cases r with
        | iface _ _ c hr => exact .iface _ _ _ (ih d (by omega) _ _ _ hm hr)
      all_goals cases h

section
variable {G G' : Gh} {T T' : Tab} {w w' : World} {lo : Nat}

/-- What was there before is as it was. -/
structure Kept (G : Gh) (T : Tab) (w : World) (G2 : Gh) (w' : World) : Prop where
  loc : ∀ t g, t < T.length → G2.loc t g = G.loc t g
  box : ∀ t, t < T.length → G2.box t = G.box t
  mp : ∀ t, t < T.length → G2.mp t = G.mp t
  fz : ∀ b, G.fz b → G2.fz b
  fz' : ∀ b, G2.fz b → b < w.heap.size → G.fz b
  heap : ∀ b, b < w.heap.size → w'.heap[b]? = w.heap[b]?
  size : w.heap.size ≤ w'.heap.size
  os : w'.os = w.os
  tape : w'.tape = w.tape
  output : w'.output = w.output

theorem Kept.own_iff {G2 : Gh} {T2 : Tab} (k : Kept G T w G2 w') (hT : ∀ t, t < T.length → tget T2 t = tget T t) {t b : Nat} (ht : t < T.length) : own G2 T2 t b ↔ own G T t b := by
  unfold Am.own
  rw [hT t ht]
  cases tget T t <;> simp [k.loc t _ ht, k.box t ht, k.mp t ht]

theorem not_own_beyond {t b : Nat} (h : T.length ≤ t) : ¬ own G T t b := fun ho => by have := own_lt ho; omega

theorem Kept.ext (s : Sim G T w) {G2 : Gh} {T2 : Tab} (k : Kept G T w G2 w') (hT : ∀ t, t < T.length → tget T2 t = tget T t) (hlen : T.length ≤ T2.length)
    (hnew : ∀ t b, T.length ≤ t → own G2 T2 t b → w.heap.size ≤ b) (hlo : lo ≤ T.length) : Ext lo G T w G2 T2 w' where
  loc t g L h := by
    rcases Nat.lt_or_ge t T.length with ht | ht
    · rw [k.loc t g ht]; exact h
    · rw [(s.dom t ht).2.2 g] at h; cases h
  box t b h := by
    rcases Nat.lt_or_ge t T.length with ht | ht
    · rw [k.box t ht]; exact h
    · rw [(s.dom t ht).1] at h; cases h
  mp t b h := by
    rcases Nat.lt_or_ge t T.length with ht | ht
    · rw [k.mp t ht]; exact h
    · rw [(s.dom t ht).2.1] at h; cases h
  fz := k.fz
  lowl t g ht := k.loc t g (by omega)
  lowT t ht := hT t (by omega)
  len := hlen
  size := k.size
  keep b hb _ := k.heap b hb
  own' t b ho hb := by
    rcases Nat.lt_or_ge t T.length with ht | ht
    · exact (k.own_iff hT ht).1 ho
    · have := hnew t b ht ho; omega
  os := k.os
  tape := k.tape
  output := k.output
  fz' b h hb := .inl (k.fz' b h hb)
  lowb t ht := k.box t (by omega)
  lowm t ht := k.mp t (by omega)

/-- The old objects stand. -/
theorem Kept.objs (s : Sim G T w) {G2 : Gh} {T2 : Tab} (k : Kept G T w G2 w') (X : Ext lo G T w G2 T2 w') :
    (∀ t g es, tget T t = .arr g es → (∀ g', g < g' → G2.loc t g' = none) ∧ ((es = [] ∧ G2.loc t g = none) ∨ ∃ L c ety, ArrAt G2 w' t g es L c ety)) ∧
    (∀ t cs, tget T t = .box cs → ∃ b c ety, BoxAt G2 w' t cs b c ety) ∧ (∀ t kvs, tget T t = .map kvs → ∃ b es clk, MapAt G2 w' t kvs b es clk) := by
  have hlt : ∀ {b o}, w.heap[b]? = some o → b < w.heap.size := fun h => (Array.getElem?_eq_some_iff.1 h).1
  refine ⟨fun t g es h => ?_, fun t cs h => ?_, fun t kvs h => ?_⟩
  · have ht : t < T.length := tget_lt (by rw [h]; simp)
    obtain ⟨h1, h2⟩ := s.arr t g es h
    refine ⟨fun g' hg => by rw [k.loc t g' ht]; exact h1 g' hg, ?_⟩
    rcases h2 with ⟨h2, h3⟩ | ⟨L, c, ety, A⟩
    · exact .inl ⟨h2, by rw [k.loc t g ht]; exact h3⟩
    · have hb := hlt A.heap
      exact .inr ⟨L, c, ety, by rw [k.loc t g ht]; exact A.loc, by rw [k.heap _ hb]; exact A.heap, A.len, A.size, A.elem,
        fun j x hx => by obtain ⟨v, hv, r⟩ := A.cell j x hx; exact ⟨v, hv, r.ext s X⟩, fun h => A.nfz (k.fz' _ h hb)⟩
  · have ht : t < T.length := tget_lt (by rw [h]; simp)
    obtain ⟨b, c, ety, A⟩ := s.box t cs h
    have hb := hlt A.heap
    exact ⟨b, c, ety, by rw [k.box t ht]; exact A.loc, by rw [k.heap _ hb]; exact A.heap, A.size, A.one,
      fun j x hx => by obtain ⟨v, hv, r⟩ := A.cell j x hx; exact ⟨v, hv, r.ext s X⟩, fun h => A.nfz (k.fz' _ h hb)⟩
  · have ht : t < T.length := tget_lt (by rw [h]; simp)
    obtain ⟨b, es, clk, A⟩ := s.map t kvs h
    have hb := hlt A.heap
    exact ⟨b, es, clk, by rw [k.mp t ht]; exact A.loc, by rw [k.heap _ hb]; exact A.heap, A.size,
      fun j x y hx hy => ⟨(A.ent j x y hx hy).key.ext s X, (A.ent j x y hx hy).val.ext s X⟩, fun h => A.nfz (k.fz' _ h hb)⟩

theorem cut_kept (X : Ext T.length G T w G' T' w') : Kept G T w (cut T.length G' T') w' where
  loc t g ht := by simp only [cut, if_pos ht]; exact X.lowl t g ht
  box t ht := by simp only [cut, if_pos ht]; exact X.lowb t ht
  mp t ht := by simp only [cut, if_pos ht]; exact X.lowm t ht
  fz b h := .inl (X.fz b h)
  fz' b h hb := by
    rcases h with h | ⟨t, ht, ho⟩
    · rcases X.fz' b h hb with h | ⟨t, ht, ho⟩
      · exact h
      · exact (not_own_beyond ht ho).elim
    · exact (not_own_beyond ht (X.own' t b ho hb)).elim
  heap b hb := X.keep b hb fun t ht => not_own_beyond ht
  size := X.size
  os := X.os
  tape := X.tape
  output := X.output

theorem ret_pure (s : Sim G T w) (X : Ext T.length G T w G' T' w') (s' : Sim G' T' w') (hlo : lo ≤ T.length) {v v' : AV} {c : Value} (hf : frz T.length T' deep v = some v') (r : RV G' w' v c) : Res lo G T w T v' c w' := by
  have k := cut_kept X
  have XE : Ext lo G T w (cut T.length G' T') T w' := k.ext s (fun _ _ => rfl) (Nat.le_refl _) (fun t b ht ho => (not_own_beyond ht ho).elim) hlo
  obtain ⟨o1, o2, o3⟩ := k.objs s XE
  have oi := fun {t b : Nat} (ho : own (cut T.length G' T') T t b) => (k.own_iff (fun _ _ => rfl) (own_lt ho)).1 ho
  refine ⟨_, XE, ⟨o1, o2, o3, fun t t' b h h' => s.inj t t' b (oi h) (oi h'), fun t ht => ?_, fun b h => ?_⟩, frz_sound s' _ _ _ _ _ hf r⟩
  · have : ¬ t < T.length := by omega
    simp [cut, this]
  · rcases h with h | ⟨t, _, ho⟩
    · exact s'.fzb b h
    · exact (s'.own_heap ho).1

/-! ### Calls that are handed values alone: they run over an empty table -/
def bare (fz : Nat → Prop) : Gh := { loc := fun _ _ => none, box := fun _ => none, mp := fun _ => none, fz := fz }

theorem RV.mono {G G' : Gh} {w : World} (hl : ∀ t g L, G.loc t g = some L → G'.loc t g = some L) (hbx : ∀ t b, G.box t = some b → G'.box t = some b) (hm : ∀ t b, G.mp t = some b → G'.mp t = some b) (hf : ∀ b, G.fz b → G'.fz b) {v : AV} {c : Value} (r : RV G w v c) : RV G' w v c := by
  induction r with
  | unk v => exact .unk v
  | int k n => exact .int k n
  | bool b => exact .bool b
  | fznil nl n hn => exact .fznil nl n hn
  | fz0 nl n a cap hn => exact .fz0 nl n a cap hn
  | fz nl n es b o cap cs hn hb hl he hc hr ih => exact .fz nl n es b o cap cs hn (hf b hb) hl he hc ih
  | slnil n t g off => exact .slnil n t g off
  | slz mb n t g off a => exact .slz mb n t g off a
  | sl mb n t g off len b base cap capT h h1 h2 => exact .sl mb n t g off len b base cap capT (hl _ _ _ h) h1 h2
  | asl t off len b cap hb h1 => exact .asl t off len b cap (hbx _ _ hb) h1
  | ptr t off b hb => exact .ptr t off b (hbx _ _ hb)
  | ep s i off b o len cap n _ hn hi ih => exact .ep s i off b o len cap n ih hn hi
  | clos f fs cs fvs cvs h1 h2 _ _ ihf ihc => exact .clos f fs cs fvs cvs h1 h2 ihf ihc
  | iface ty v c _ ih => exact .iface ty v c ih
  | mapr t b hb => exact .mapr t b (hm _ _ hb)
  | nilf => exact .nilf
  | tup vs cvs h1 _ ih => exact .tup vs cvs h1 ih
  | agg vs cvs h1 _ ih => exact .agg vs cvs h1 ih

theorem RV.bare_mono {f f' : Nat → Prop} (h : ∀ b, f b → f' b) {v : AV} {c : Value} (r : RV (bare f) w v c) : RV (bare f') w v c :=
  r.mono (fun _ _ _ h => by cases h) (fun _ _ h => by cases h) (fun _ _ h => by cases h) h

theorem RV.of_bare {f : Nat → Prop} (h : ∀ b, f b → G.fz b) {v : AV} {c : Value} (r : RV (bare f) w v c) : RV G w v c :=
  r.mono (fun _ _ _ h => by cases h) (fun _ _ h => by cases h) (fun _ _ h => by cases h) h

theorem RV.of_cut0 {v : AV} {c : Value} (r : RV (cut 0 G T) w v c) : RV (bare (cut 0 G T).fz) w v c :=
  r.mono (fun _ _ _ h => by simp [cut] at h) (fun _ _ h => by simp [cut] at h) (fun _ _ h => by simp [cut] at h) (fun _ h => h)

theorem bare_sim {fz : Nat → Prop} (h : ∀ b, fz b → b < w.heap.size) : Sim (bare fz) [] w where
  arr t g es h := by simp [tget] at h
  box t es h := by simp [tget] at h
  map t es h := by simp [tget] at h
  inj t t' b h := by have := own_lt h; simp at this
  dom t _ := ⟨rfl, rfl, fun _ => rfl⟩
  fzb := h

/-- What is no one's stands for the same where nothing is owned. -/
theorem closed_rv {G : Gh} {w : World} : ∀ (d : Nat) (v v' : AV) (c : Value), frz 0 [] d v = some v' → RV G w v c → RV (bare G.fz) w v' c := by
  intro d
  induction d using Nat.strongRecOn with
  | _ d ih =>
    intro v v' c h r
    cases d with
    | zero => cases h
    | succ d =>
      have lists : ∀ (vs vs' : List AV) (cvs : Array Value), mapO (frz 0 [] d) vs = some vs' → cvs.size = vs.length → (∀ (i : Nat) (x : AV) (c : Value), vs[i]? = some x → cvs[i]? = some c → RV G w x c) →
          cvs.size = vs'.length ∧ ∀ (i : Nat) (x : AV) (c : Value), vs'[i]? = some x → cvs[i]? = some c → RV (bare G.fz) w x c := by
        intro vs vs' cvs hm h1 hr
        obtain ⟨hl, hg⟩ := mapO_get hm
        refine ⟨by omega, fun i x c hx hc => ?_⟩
        obtain ⟨y, hy, hf⟩ := hg i x hx
        exact ih d (by omega) y x c hf (hr i y c hy hc)
      cases v <;> simp only [frz] at h
      case int => cases h; cases r; exact .int _ _
      case bool => cases h; cases r; exact .bool _
      case fz nl n es =>
        simp only [Option.map_eq_some_iff] at h
        obtain ⟨es', hm, rfl⟩ := h
        cases r with
        | fznil _ _ hn => simp only [mapO, Option.some.injEq] at hm; subst hm; exact .fznil _ _ hn
        | fz0 _ _ a cap hn => simp only [mapO, Option.some.injEq] at hm; subst hm; exact .fz0 _ _ _ _ hn
        | fz _ _ _ b o cap cs hn hb hl he hc hr =>
          obtain ⟨a1, a2⟩ := frz_flat hm he
          have hlen := (mapO_get hm).1
          rw [← hlen]
          refine .fz _ _ _ b o cap cs hn hb (by omega) a1 (fun j x' hx => ?_) (fun j x' hx => ?_)
          · obtain ⟨x, d', _, hx', _⟩ := a2 j x' hx; exact hc j x hx'
          · obtain ⟨x, d', hd', hx', hf⟩ := a2 j x' hx; exact ih d' (by omega) x x' _ hf (hr j x hx')
      case sl mb n t g off len => simp [rd, tget] at h
      case ptr t off => simp at h
      case tup vs =>
        simp only [Option.map_eq_some_iff] at h
        obtain ⟨vs', hm, rfl⟩ := h
        cases r with
        | tup _ cvs h1 hr =>
          obtain ⟨a1, a2⟩ := lists _ _ _ hm h1 hr
          exact .tup _ _ a1 a2
      case agg vs =>
        simp only [Option.map_eq_some_iff] at h
        obtain ⟨vs', hm, rfl⟩ := h
        cases r with
        | agg _ cvs h1 hr =>
          obtain ⟨a1, a2⟩ := lists _ _ _ hm h1 hr
          exact .agg _ _ a1 a2
      case iface ty v =>
        simp only [Option.map_eq_some_iff] at h
        obtain ⟨v2, hm, rfl⟩ := h
        cases r with
        | iface _ _ c hr => exact .iface _ _ _ (ih d (by omega) _ _ _ hm hr)
      all_goals cases h

theorem fresh_flat {T : Tab} {dd : Nat} {es : List AV} (h : es.all (fresh T dd) = true) (j : Nat) (x : AV) (hx : (flat es)[j]? = some x) : ∃ d2, fresh T d2 x = true := by
  have hmem := List.mem_of_getElem? hx
  simp only [flat, List.mem_flatMap] at hmem
  obtain ⟨e, he, hxe⟩ := hmem
  have hfe := List.all_eq_true.1 h e he
  cases dd with
  | zero => cases hfe
  | succ dd =>
    by_cases hag : ∃ cs, e = .agg cs
    · obtain ⟨cs, rfl⟩ := hag
      simp only [fresh] at hfe
      exact ⟨dd, List.all_eq_true.1 hfe x hxe⟩
    · have hce : e.cells = [e] := by cases e <;> first | rfl | (rename_i cs; exact absurd ⟨cs, rfl⟩ hag)
      rw [hce, List.mem_singleton] at hxe
      exact ⟨dd + 1, hxe ▸ hfe⟩

/-- What a call made itself is, frozen, no one else's. -/
theorem fresh_rv {G : Gh} {T : Tab} {w : World} (s : Sim G T w) : ∀ (d dd : Nat) (v v' : AV) (c : Value), frz 0 T d v = some v' → fresh T dd v = true → RV G w v c → RV (bare fun b => ∃ t, own G T t b) w v' c := by
  intro d
  induction d using Nat.strongRecOn with
  | _ d ih =>
    intro dd v v' c h hfr r
    cases d with
    | zero => cases h
    | succ d =>
    cases dd with
    | zero => cases hfr
    | succ dd =>
      have lists : ∀ (vs vs' : List AV) (cvs : Array Value), mapO (frz 0 T d) vs = some vs' → vs.all (fresh T dd) = true → cvs.size = vs.length → (∀ (i : Nat) (x : AV) (c : Value), vs[i]? = some x → cvs[i]? = some c → RV G w x c) →
          cvs.size = vs'.length ∧ ∀ (i : Nat) (x : AV) (c : Value), vs'[i]? = some x → cvs[i]? = some c → RV (bare fun b => ∃ t, own G T t b) w x c := by
        intro vs vs' cvs hm ha h1 hr
        obtain ⟨hl, hg⟩ := mapO_get hm
        refine ⟨by omega, fun i x c hx hc => ?_⟩
        obtain ⟨y, hy, hf⟩ := hg i x hx
        exact ih d (by omega) dd y x c hf (List.all_eq_true.1 ha y (List.mem_of_getElem? hy)) (hr i y c hy hc)
      cases v <;> simp only [frz] at h
      case int => cases h; cases r; exact .int _ _
      case bool => cases h; cases r; exact .bool _
      case fz nl n es =>
        cases es with
        | cons => simp [fresh] at hfr
        | nil =>
        simp only [mapO, Option.map_some, Option.some.injEq] at h
        subst h
        cases r with
        | fznil _ _ hn => exact .fznil _ _ hn
        | fz0 _ _ a cap hn => exact .fz0 _ _ _ _ hn
        | fz _ _ _ b o cap cs hn hb hl he hc hr => exact .fz0 _ _ _ _ hn
      case sl mb n t g off len =>
        split at h
        · rename_i ht; simp at ht
        · split at h
          · rename_i es hrd
            simp only [fresh, hrd] at hfr
            simp only [Option.map_eq_some_iff] at h
            obtain ⟨es', hm, rfl⟩ := h
            obtain ⟨ad, cap, n2, hc, hle, hn2, _, helv, hx, _⟩ := rd_sound s hrd r
            have hn2' : n = n2 := by simpa [esz] using hn2
            subst hn2'
            obtain ⟨a1, a2⟩ := frz_flat hm helv
            have hlen := (mapO_get hm).1
            have hflat := fresh_flat hfr
            cases r with
            | slnil =>
              have : es' = [] := List.eq_nil_of_length_eq_zero (by simp only [Value.slice.injEq] at hc; omega)
              subst this
              exact .fznil _ _ (by simp)
            | slz =>
              have : es' = [] := List.eq_nil_of_length_eq_zero (by simp only [Value.slice.injEq] at hc; omega)
              subst this
              exact .fz0 _ _ _ _ (by split <;> simp)
            | sl _ _ _ _ _ _ b base cap' capT hl h1' h2' =>
              simp only [Value.slice.injEq] at hc
              obtain ⟨rfl, rfl, rfl⟩ := hc
              rcases hx with rfl | ⟨b', o', hb', R⟩
              · simp only [mapO, Option.some.injEq] at hm; subst hm; exact .fz0 _ _ _ _ (by split <;> simp)
              · simp only [Option.some.injEq, Addr.mk.injEq] at hb'
                obtain ⟨rfl, rfl, _⟩ := hb'
                have hf : ∀ j, ∃ cv, ∀ x, (flat es)[j]? = some x → w.cell? ⟨b, base + off * n + j, none⟩ = some cv ∧ RV G w x cv := by
                  intro j
                  cases hj : (flat es)[j]? with
                  | none => exact ⟨undef, fun x hx => by cases hx⟩
                  | some x => obtain ⟨cv, h1, h2⟩ := R.cell j x hj; exact ⟨cv, fun y hy => by cases hy; exact ⟨h1, h2⟩⟩
                have hob := own_of_rd hrd hl
                rw [← hlen]
                refine .fz _ _ _ b _ _ (fun j => Classical.choose (hf j)) (by split <;> simp) ⟨t, hob⟩ (by omega) a1 (fun j x' hx => ?_) (fun j x' hx => ?_)
                · obtain ⟨x, d', _, hx', _⟩ := a2 j x' hx; exact (Classical.choose_spec (hf j) x hx').1
                · obtain ⟨x, d', hd', hx', hff⟩ := a2 j x' hx
                  obtain ⟨d2, hd2⟩ := hflat j x hx'
                  exact ih d' (by omega) d2 x x' _ hff hd2 (Classical.choose_spec (hf j) x hx').2
          · cases h
      case ptr t off => simp at h
      case tup vs =>
        simp only [fresh] at hfr
        simp only [Option.map_eq_some_iff] at h
        obtain ⟨vs', hm, rfl⟩ := h
        cases r with
        | tup _ cvs h1 hr =>
          obtain ⟨a1, a2⟩ := lists _ _ _ hm hfr h1 hr
          exact .tup _ _ a1 a2
      case agg vs =>
        simp only [fresh] at hfr
        simp only [Option.map_eq_some_iff] at h
        obtain ⟨vs', hm, rfl⟩ := h
        cases r with
        | agg _ cvs h1 hr =>
          obtain ⟨a1, a2⟩ := lists _ _ _ hm hfr h1 hr
          exact .agg _ _ a1 a2
      case iface ty v => simp [fresh] at hfr
      all_goals cases h

theorem ret_bare (s : Sim G T w) {fz0 : Nat → Prop} {G1 : Gh} {T1 : Tab} (X : Ext 0 (bare fz0) [] w G1 T1 w') (hlo : lo ≤ T.length) {fz2 : Nat → Prop} (h1 : ∀ b, G.fz b → fz2 b) (h2 : ∀ b, fz2 b → b < w.heap.size → G.fz b) (h3 : ∀ b, fz2 b → b < w'.heap.size)
    {v : AV} {c : Value} (r : RV (bare fz2) w' v c) : Res lo G T w T v c w' := by
  have no : ∀ t b, ¬ own (bare fz0) [] t b := fun t b ho => by have := own_lt ho; simp at this
  have k : Kept G T w { G with fz := fz2 } w' := ⟨fun _ _ _ => rfl, fun _ _ => rfl, fun _ _ => rfl, h1, h2, fun b hb => X.keep b hb fun t _ => no t b, X.size, X.os, X.tape, X.output⟩
  have XE : Ext lo G T w { G with fz := fz2 } T w' := k.ext s (fun _ _ => rfl) (Nat.le_refl _) (fun t b ht ho => (not_own_beyond ht ho).elim) hlo
  obtain ⟨o1, o2, o3⟩ := k.objs s XE
  have oi := fun {t b : Nat} (ho : own { G with fz := fz2 } T t b) => (k.own_iff (fun _ _ => rfl) (own_lt ho)).1 ho
  exact ⟨_, XE, ⟨o1, o2, o3, fun t t' b h h' => s.inj t t' b (oi h) (oi h'), fun t ht => s.dom t ht, h3⟩, r.of_bare (fun _ h => h)⟩

theorem ret_closed (s : Sim G T w) {G1 : Gh} {T1 : Tab} (X : Ext 0 (bare G.fz) [] w G1 T1 w') (s1 : Sim G1 T1 w') (hlo : lo ≤ T.length) {v v' : AV} {c : Value} (hf : frz 0 T1 deep v = some v') (r : RV G1 w' v c) : Res lo G T w T v' c w' := by
  refine ret_bare s X hlo (fz2 := (cut 0 G1 T1).fz) (fun b h => .inl (X.fz b h)) (fun b h hb => ?_) (fun b h => ?_) (frz_sound s1 0 _ _ _ _ hf r).of_cut0
  · rcases h with h | ⟨t, _, ho⟩
    · rcases X.fz' b h hb with h | ⟨t, _, ho⟩
      · exact h
      · have := own_lt ho; simp at this
    · have := own_lt (X.own' t b ho hb); simp at this
  · rcases h with h | ⟨t, _, ho⟩
    · exact s1.fzb b h
    · exact (s1.own_heap ho).1

theorem ret_fresh (s : Sim G T w) {G1 : Gh} {T1 : Tab} (X : Ext 0 (bare (cut 0 G T).fz) [] w G1 T1 w') (s1 : Sim G1 T1 w') (hlo : lo ≤ T.length) {v v' : AV} {c : Value} (hf : frz 0 T1 deep v = some v') {dd : Nat} (hfr : fresh T1 dd v = true) (r : RV G1 w' v c) : Res lo G T w T v' c w' := by
  refine ret_bare s X hlo (fz2 := fun b => G.fz b ∨ ∃ t, own G1 T1 t b) (fun b h => .inl h) (fun b h hb => ?_) (fun b h => ?_) ((fresh_rv s1 _ _ _ _ _ hf hfr r).bare_mono fun b h => .inr h)
  · rcases h with h | ⟨t, ho⟩
    · exact h
    · have := own_lt (X.own' t b ho hb); simp at this
  · rcases h with h | ⟨t, ho⟩
    · exact Nat.lt_of_lt_of_le (s.fzb b h) X.size
    · exact (s1.own_heap ho).1

theorem cut0_fzb (s : Sim G T w) (b : Nat) (h : (cut 0 G T).fz b) : b < w.heap.size := by
  rcases h with h | ⟨t, _, ho⟩
  · exact s.fzb b h
  · exact (s.own_heap ho).1

/-- An object is given up. -/
theorem drop_own {t t' b : Nat} (h : own G (T.set t .dead) t' b) : own G T t' b ∧ t' ≠ t := by
  by_cases e : t' = t
  · subst e
    have hlt : t' < T.length := by have := own_lt h; simpa using this
    unfold own at h
    rw [tget_set_same _ hlt] at h
    exact h.elim
  · unfold own at h ⊢
    rw [tget_set_ne T _ e] at h
    exact ⟨h, e⟩

theorem drop_tget {t t' : Nat} {o : Obj} (h : tget (T.set t .dead) t' = o) (ho : o ≠ .dead) : tget T t' = o := by
  by_cases e : t' = t
  · subst e
    rcases Nat.lt_or_ge t' T.length with hlt | hge
    · rw [tget_set_same _ hlt] at h; exact absurd h.symm ho
    · rw [tget_beyond (by simpa using hge)] at h; exact absurd h.symm ho
  · rw [tget_set_ne T _ e] at h; exact h

theorem Sim.drop (s : Sim G T w) (t : Nat) : Sim G (T.set t .dead) w where
  arr t' g es h := s.arr t' g es (drop_tget h (by simp))
  box t' cs h := s.box t' cs (drop_tget h (by simp))
  map t' kvs h := s.map t' kvs (drop_tget h (by simp))
  inj t1 t2 b h1 h2 := s.inj t1 t2 b (drop_own h1).1 (drop_own h2).1
  dom t' h := s.dom t' (by simpa using h)
  fzb := s.fzb

theorem Ext.drop (X : Ext lo G T w G' T' w') {t : Nat} (ht : lo ≤ t) : Ext lo G T w G' (T'.set t .dead) w' where
  loc := X.loc
  box := X.box
  mp := X.mp
  fz := X.fz
  lowl := X.lowl
  lowT t' h := (tget_set_ne T' _ (by omega)).trans (X.lowT t' h)
  len := by simpa using X.len
  size := X.size
  keep := X.keep
  own' t' b h hb := X.own' t' b (drop_own h).1 hb
  os := X.os
  tape := X.tape
  output := X.output
  fz' := X.fz'
  lowb := X.lowb
  lowm := X.lowm

theorem ret_sim (s : Sim G T w) {G2 : Gh} (k : Kept G T w G2 w') {es : List AV} (h0 : (es = [] ∧ G2.loc T.length 0 = none) ∨ ∃ L c ety, ArrAt G2 w' T.length 0 es L c ety ∧ w.heap.size ≤ L.b)
    (hloc : ∀ g, 0 < g → G2.loc T.length g = none) (hdom : ∀ t, T.length < t → G2.box t = none ∧ G2.mp t = none ∧ ∀ g, G2.loc t g = none) (hfz : ∀ b, G2.fz b → b < w'.heap.size) (hlo : lo ≤ T.length) :
    Ext lo G T w G2 (T ++ [.arr 0 es]) w' ∧ Sim G2 (T ++ [.arr 0 es]) w' := by
  have hT : ∀ t, t < T.length → tget (T ++ [.arr 0 es]) t = tget T t := fun t h => tget_old _ h
  have hnew : ∀ t b, T.length ≤ t → own G2 (T ++ [.arr 0 es]) t b → w.heap.size ≤ b := by
    intro t b ht ho
    have hl := own_lt ho
    have : t = T.length := by simp at hl; omega
    subst this
    unfold own at ho
    rw [tget_new] at ho
    obtain ⟨L, hL, rfl⟩ := ho
    rcases h0 with ⟨_, h0⟩ | ⟨L', c, ety, A, hb⟩
    · rw [h0] at hL; cases hL
    · rw [A.loc] at hL; cases hL; exact hb
  have XE : Ext lo G T w G2 (T ++ [.arr 0 es]) w' := k.ext s hT (by simp) hnew hlo
  obtain ⟨o1, o2, o3⟩ := k.objs s XE
  have split : ∀ t, t < T.length ∨ t = T.length ∨ T.length < t := fun t => by omega
  have far : ∀ t, T.length < t → tget (T ++ [.arr 0 es]) t = .dead := fun t h => tget_beyond (by simp; omega)
  refine ⟨XE, ⟨fun t g es' h => ?_, fun t cs h => ?_, fun t kvs h => ?_, fun t t' b h h' => ?_, fun t ht => hdom t (by simp at ht; omega), hfz⟩⟩
  · rcases split t with ht | rfl | ht
    · rw [hT t ht] at h; exact o1 t g es' h
    · rw [tget_new] at h
      cases h
      refine ⟨hloc, ?_⟩
      rcases h0 with h0 | ⟨L, c, ety, A, _⟩
      · exact .inl h0
      · exact .inr ⟨L, c, ety, A⟩
    · rw [far t ht] at h; cases h
  · rcases split t with ht | rfl | ht
    · rw [hT t ht] at h; exact o2 t cs h
    · rw [tget_new] at h; cases h
    · rw [far t ht] at h; cases h
  · rcases split t with ht | rfl | ht
    · rw [hT t ht] at h; exact o3 t kvs h
    · rw [tget_new] at h; cases h
    · rw [far t ht] at h; cases h
  · have old : ∀ t, t < T.length → own G2 (T ++ [.arr 0 es]) t b → own G T t b := fun t ht ho => (k.own_iff hT ht).1 ho
    have l1 := own_lt h
    have l2 := own_lt h'
    simp at l1 l2
    rcases Nat.lt_or_ge t T.length with a1 | a1
    · rcases Nat.lt_or_ge t' T.length with a2 | a2
      · exact s.inj t t' b (old t a1 h) (old t' a2 h')
      · have := (s.own_heap (old t a1 h)).1
        have := hnew t' b a2 h'
        omega
    · rcases Nat.lt_or_ge t' T.length with a2 | a2
      · have := (s.own_heap (old t' a2 h')).1
        have := hnew t b a1 h
        omega
      · omega

theorem ret_slice (s : Sim G T w) (X : Ext T.length G T w G' T' w') (s' : Sim G' T' w') (hlo : lo ≤ T.length) {mb : Bool} {n t g off len : Nat} {es es' : List AV} {c : Value} (ht : T.length ≤ t)
    (hrd : rd T' (.sl mb n t g off len) = some es) (hf : mapO (frz T.length (T'.set t .dead) deep) es = some es') (r : RV G' w' (.sl mb n t g off len) c) :
    Res lo G T w (T ++ [.arr 0 es']) (.sl mb n T.length 0 0 es'.length) c w' := by
  have s2 := s'.drop t
  have X2 := X.drop ht
  have k := cut_kept X2
  have hlen := (mapO_get hf).1
  obtain ⟨ad, cap, n2, hc, hle, hn2, _, helv, hx, _⟩ := rd_sound s' hrd r
  have hn2' : n = n2 := by simpa [esz] using hn2
  subst hn2'
  have hcutfz : ∀ b, (cut T.length G' (T'.set t .dead)).fz b → b < w'.heap.size := fun b h => by
    rcases h with h | ⟨t, _, ho⟩
    · exact s2.fzb b h
    · exact (s2.own_heap ho).1
  have hcutd : ∀ t', T.length ≤ t' → (cut T.length G' (T'.set t .dead)).box t' = none ∧ (cut T.length G' (T'.set t .dead)).mp t' = none ∧ ∀ g, (cut T.length G' (T'.set t .dead)).loc t' g = none := fun t' h => by
    have : ¬ t' < T.length := by omega
    simp [cut, this]
  have nil : es' = [] → (∀ G2, RV G2 w' (.sl mb n T.length 0 0 0) c) → Res lo G T w (T ++ [.arr 0 es']) (.sl mb n T.length 0 0 es'.length) c w' := by
    intro h hr
    subst h
    obtain ⟨XE, SE⟩ := ret_sim s k (es := []) (.inl ⟨rfl, (hcutd _ (Nat.le_refl _)).2.2 0⟩) (fun g _ => (hcutd _ (Nat.le_refl _)).2.2 g) (fun t' h => hcutd t' (by omega)) hcutfz hlo
    exact ⟨_, XE, SE, hr _⟩
  cases r with
  | slnil => exact nil (List.eq_nil_of_length_eq_zero (by simp only [Value.slice.injEq] at hc; omega)) fun _ => .slnil _ _ _ _
  | slz => exact nil (List.eq_nil_of_length_eq_zero (by simp only [Value.slice.injEq] at hc; omega)) fun _ => .slz _ _ _ _ _ _
  | sl _ _ _ _ _ _ b base cap' capT hl h1 h2 =>
    simp only [Value.slice.injEq] at hc
    obtain ⟨rfl, rfl, rfl⟩ := hc
    have hob := own_of_rd hrd hl
    have hbnew : w.heap.size ≤ b := by
      rcases Nat.lt_or_ge b w.heap.size with hb | hb
      · exact (not_own_beyond ht (X.own' t b hob hb)).elim
      · exact hb
    let G2 : Gh := { cut T.length G' (T'.set t .dead) with loc := fun t' g' => if t' = T.length ∧ g' = 0 then some ⟨b, base + off * n, n, cap'⟩ else (cut T.length G' (T'.set t .dead)).loc t' g' }
    have hG2 : G2.loc T.length 0 = some ⟨b, base + off * n, n, cap'⟩ := by simp [G2]
    have k2 : Kept G T w G2 w' := {
      loc := fun t' g' h => by
        have : ¬ (t' = T.length ∧ g' = 0) := by omega
        simp only [G2, if_neg this]
        exact k.loc t' g' h
      box := k.box
      mp := k.mp
      fz := k.fz
      fz' := k.fz'
      heap := k.heap
      size := k.size
      os := k.os
      tape := k.tape
      output := k.output }
    -- the values of the cells
    have rel : ∀ {v c}, RV (cut T.length G' (T'.set t .dead)) w' v c → RV G2 w' v c := by
      intro v c r
      induction r with
      | unk v => exact .unk v
      | int k n => exact .int k n
      | bool b => exact .bool b
      | fznil nl n hn => exact .fznil nl n hn
      | fz0 nl n a cap hn => exact .fz0 nl n a cap hn
      | fz nl n es b o cap cs hn hb hl he hc hr ih => exact .fz nl n es b o cap cs hn hb hl he hc ih
      | slnil n t g off => exact .slnil n t g off
      | slz mb n t g off a => exact .slz mb n t g off a
      | sl mb n t1 g1 off len b base cap capT hl h1 h2 =>
        refine .sl mb n t1 g1 off len b base cap capT ?_ h1 h2
        by_cases e : t1 = T.length ∧ g1 = 0
        · rw [e.1, (hcutd _ (Nat.le_refl _)).2.2] at hl; cases hl
        · simp only [G2, if_neg e]; exact hl
      | asl t off len b cap hb h1 => exact .asl t off len b cap hb h1
      | ptr t off b hb => exact .ptr t off b hb
      | ep s i off b o len cap n _ hn hi ih => exact .ep s i off b o len cap n ih hn hi
      | clos f fs cs fvs cvs h1 h2 _ _ ihf ihc => exact .clos f fs cs fvs cvs h1 h2 ihf ihc
      | iface ty v c _ ih => exact .iface ty v c ih
      | mapr t b hb => exact .mapr t b hb
      | nilf => exact .nilf
      | tup vs cvs h1 _ ih => exact .tup vs cvs h1 ih
      | agg vs cvs h1 _ ih => exact .agg vs cvs h1 ih
    obtain ⟨a1, a2⟩ := frz_flat hf helv
    -- the block
    have hrd' := hrd
    simp only [rd] at hrd'
    split at hrd'
    · rename_i g' old htk
      split at hrd'
      · rename_i hg
        obtain ⟨rfl, hol⟩ := hg
        simp only [Option.some.injEq] at hrd'
        obtain ⟨_, ⟨_, hn0⟩ | ⟨L, cc, ety, A⟩⟩ := s'.arr t g old htk
        · rw [hn0] at hl; cases hl
        · have hL : L = ⟨b, base, n, capT⟩ := by rw [A.loc] at hl; exact Option.some.inj hl
          subst hL
          have nf : ¬ G2.fz b := by
            intro h
            rcases h with h | ⟨t2, ht2, ho⟩
            · exact A.nfz h
            · obtain ⟨ho, hne⟩ := drop_own ho
              exact hne (s'.inj _ _ _ ho hob)
          have AA : ArrAt G2 w' T.length 0 es' ⟨b, base + off * n, n, cap'⟩ cc ety := {
            loc := hG2
            heap := A.heap
            len := by simp only; omega
            size := by
              have h3 := A.size
              simp only at h3 ⊢
              have h4 : (off + cap') * n ≤ capT * n := Nat.mul_le_mul_right _ h2
              rw [Nat.add_mul] at h4
              omega
            elem := a1
            cell := fun j x' hx' => by
              obtain ⟨x, d', _, hxx, hff⟩ := a2 j x' hx'
              rcases hx with rfl | ⟨b', o', hb', R⟩
              · simp [flat] at hxx
              · simp only [Option.some.injEq, Addr.mk.injEq] at hb'
                obtain ⟨rfl, rfl, _⟩ := hb'
                obtain ⟨cv, hcv, hr⟩ := R.cell j x hxx
                rw [cell_cells A.heap] at hcv
                exact ⟨cv, hcv, rel (frz_sound s2 _ _ _ _ _ hff hr)⟩
            nfz := nf }
          obtain ⟨XE, SE⟩ := ret_sim s k2 (es := es') (.inr ⟨_, cc, ety, AA, hbnew⟩) (fun g' hg' => by
            show (if T.length = T.length ∧ g' = 0 then _ else _) = none
            rw [if_neg (by omega)]
            exact (hcutd _ (Nat.le_refl _)).2.2 g') (fun t' h => by
              refine ⟨(hcutd t' (by omega)).1, (hcutd t' (by omega)).2.1, fun g' => ?_⟩
              have : ¬ (t' = T.length ∧ g' = 0) := by omega
              simp only [G2, if_neg this]
              exact (hcutd t' (by omega)).2.2 g') hcutfz hlo
          refine ⟨G2, XE, SE, ?_⟩
          rw [hlen]
          have := RV.sl (G := G2) (w := w') mb n T.length 0 0 es.length b (base + off * n) cap' cap' hG2 (by omega) (by omega)
          simpa using this
      · cases hrd'
    · cases hrd'

/-- The slice that a call over an empty table hands back is an object of its own. -/
theorem ret_own (s : Sim G T w) {fz0 : Nat → Prop} {G1 : Gh} {T1 : Tab} (X : Ext 0 (bare fz0) [] w G1 T1 w') (s1 : Sim G1 T1 w') (hlo : lo ≤ T.length) {fz2 : Nat → Prop} (h1 : ∀ b, G.fz b → fz2 b) (h2 : ∀ b, fz2 b → b < w.heap.size → G.fz b)
    (h3 : ∀ b, fz2 b → b < w'.heap.size) {mb : Bool} {n t g off len : Nat} {es es' : List AV} {c : Value} (h4 : ∀ b, own G1 T1 t b → ¬ fz2 b) (hrd : rd T1 (.sl mb n t g off len) = some es) (hf : mapO (frz 0 (T1.set t .dead) deep) es = some es')
    (hrel : ∀ (d : Nat) (j : Nat) (x x' : AV) (c : Value), frz 0 (T1.set t .dead) d x = some x' → (flat es)[j]? = some x → RV G1 w' x c → RV (bare fz2) w' x' c) (r : RV G1 w' (.sl mb n t g off len) c) :
    Res lo G T w (T ++ [.arr 0 es']) (.sl mb n T.length 0 0 es'.length) c w' := by
  have no : ∀ t b, ¬ own (bare fz0) [] t b := fun t b ho => by have := own_lt ho; simp at this
  have hlen := (mapO_get hf).1
  obtain ⟨ad, cap, n2, hc, hle, hn2, _, helv, hx, _⟩ := rd_sound s1 hrd r
  have hn2' : n = n2 := by simpa [esz] using hn2
  subst hn2'
  have k : ∀ L : Option Loc, Kept G T w { G with fz := fz2, loc := fun t' g' => if t' = T.length ∧ g' = 0 then L else G.loc t' g' } w' := fun L => {
    loc := fun t' g' h => by
      have : ¬ (t' = T.length ∧ g' = 0) := by omega
      simp only [if_neg this]
    box := fun _ _ => rfl
    mp := fun _ _ => rfl
    fz := h1
    fz' := h2
    heap := fun b hb => X.keep b hb fun t _ => no t b
    size := X.size
    os := X.os
    tape := X.tape
    output := X.output }
  have hloc : ∀ (L : Option Loc) (g' : Nat), 0 < g' → ({ G with fz := fz2, loc := fun t' g' => if t' = T.length ∧ g' = 0 then L else G.loc t' g' } : Gh).loc T.length g' = none := fun L g' hg' => by
    show (if T.length = T.length ∧ g' = 0 then _ else _) = none
    rw [if_neg (by omega)]
    exact (s.dom _ (Nat.le_refl _)).2.2 g'
  have hdom : ∀ (L : Option Loc) (t' : Nat), T.length < t' → ({ G with fz := fz2, loc := fun t' g' => if t' = T.length ∧ g' = 0 then L else G.loc t' g' } : Gh).box t' = none ∧ ({ G with fz := fz2, loc := fun t' g' => if t' = T.length ∧ g' = 0 then L else G.loc t' g' } : Gh).mp t' = none ∧
      ∀ g', ({ G with fz := fz2, loc := fun t' g' => if t' = T.length ∧ g' = 0 then L else G.loc t' g' } : Gh).loc t' g' = none := fun L t' h => by
    refine ⟨(s.dom t' (by omega)).1, (s.dom t' (by omega)).2.1, fun g' => ?_⟩
    have : ¬ (t' = T.length ∧ g' = 0) := by omega
    simp only [if_neg this]
    exact (s.dom t' (by omega)).2.2 g'
  have nil : es' = [] → (∀ G2, RV G2 w' (.sl mb n T.length 0 0 0) c) → Res lo G T w (T ++ [.arr 0 es']) (.sl mb n T.length 0 0 es'.length) c w' := by
    intro h hr
    subst h
    obtain ⟨XE, SE⟩ := ret_sim s (k none) (es := []) (.inl ⟨rfl, by simp⟩) (hloc none) (hdom none) h3 hlo
    exact ⟨_, XE, SE, hr _⟩
  cases r with
  | slnil => exact nil (List.eq_nil_of_length_eq_zero (by simp only [Value.slice.injEq] at hc; omega)) fun _ => .slnil _ _ _ _
  | slz => exact nil (List.eq_nil_of_length_eq_zero (by simp only [Value.slice.injEq] at hc; omega)) fun _ => .slz _ _ _ _ _ _
  | sl _ _ _ _ _ _ b base cap' capT hl h1' h2' =>
    simp only [Value.slice.injEq] at hc
    obtain ⟨rfl, rfl, rfl⟩ := hc
    have hob := own_of_rd hrd hl
    have hbnew : w.heap.size ≤ b := by
      rcases Nat.lt_or_ge b w.heap.size with hb | hb
      · exact (no _ _ (X.own' t b hob hb)).elim
      · exact hb
    obtain ⟨a1, a2⟩ := frz_flat hf helv
    have hrd' := hrd
    simp only [rd] at hrd'
    split at hrd'
    · rename_i g' old htk
      split at hrd'
      · rename_i hg
        obtain ⟨rfl, hol⟩ := hg
        simp only [Option.some.injEq] at hrd'
        obtain ⟨_, ⟨_, hn0⟩ | ⟨L, cc, ety, A⟩⟩ := s1.arr t g old htk
        · rw [hn0] at hl; cases hl
        · have hL : L = ⟨b, base, n, capT⟩ := by rw [A.loc] at hl; exact Option.some.inj hl
          subst hL
          have AA : ArrAt { G with fz := fz2, loc := fun t' g' => if t' = T.length ∧ g' = 0 then some ⟨b, base + off * n, n, cap'⟩ else G.loc t' g' } w' T.length 0 es' ⟨b, base + off * n, n, cap'⟩ cc ety := {
            loc := by simp
            heap := A.heap
            len := by simp only; omega
            size := by
              have h3 := A.size
              simp only at h3 ⊢
              have h4 : (off + cap') * n ≤ capT * n := Nat.mul_le_mul_right _ h2'
              rw [Nat.add_mul] at h4
              omega
            elem := a1
            cell := fun j x' hx' => by
              obtain ⟨x, d', _, hxx, hff⟩ := a2 j x' hx'
              rcases hx with rfl | ⟨b', o', hb', R⟩
              · simp [flat] at hxx
              · simp only [Option.some.injEq, Addr.mk.injEq] at hb'
                obtain ⟨rfl, rfl, _⟩ := hb'
                obtain ⟨cv, hcv, hr⟩ := R.cell j x hxx
                rw [cell_cells A.heap] at hcv
                exact ⟨cv, hcv, (hrel d' j x x' cv hff hxx hr).of_bare fun _ h => h⟩
            nfz := h4 _ hob }
          obtain ⟨XE, SE⟩ := ret_sim s (k _) (es := es') (.inr ⟨_, cc, ety, AA, hbnew⟩) (hloc _) (hdom _) h3 hlo
          refine ⟨_, XE, SE, ?_⟩
          rw [hlen]
          have := RV.sl (G := { G with fz := fz2, loc := fun t' g' => if t' = T.length ∧ g' = 0 then some ⟨b, base + off * n, n, cap'⟩ else G.loc t' g' }) (w := w') mb n T.length 0 0 es.length b (base + off * n) cap' cap' (by simp) (by omega) (by omega)
          simpa using this
      · cases hrd'
    · cases hrd'

theorem own_drop {t t' b : Nat} (h : own G (T.set t .dead) t' b) : own G T t' b := (drop_own h).1

theorem ret_own_closed (s : Sim G T w) {G1 : Gh} {T1 : Tab} (X : Ext 0 (bare G.fz) [] w G1 T1 w') (s1 : Sim G1 T1 w') (hlo : lo ≤ T.length) {mb : Bool} {n t g off len : Nat} {es es' : List AV} {c : Value} (hrd : rd T1 (.sl mb n t g off len) = some es)
    (hf : mapO (frz 0 (T1.set t .dead) deep) es = some es') (r : RV G1 w' (.sl mb n t g off len) c) : Res lo G T w (T ++ [.arr 0 es']) (.sl mb n T.length 0 0 es'.length) c w' := by
  refine ret_own s X s1 hlo (fz2 := (cut 0 G1 (T1.set t .dead)).fz) (fun b h => .inl (X.fz b h)) (fun b h hb => ?_) (fun b h => ?_) (fun b ho h => ?_) hrd hf (fun d j x x' c hff hxx hr => (frz_sound (s1.drop t) 0 _ _ _ _ hff hr).of_cut0) r
  · rcases h with h | ⟨t, _, ho⟩
    · rcases X.fz' b h hb with h | ⟨t, _, ho⟩
      · exact h
      · have := own_lt ho; simp at this
    · have := own_lt (X.own' t b (own_drop ho) hb); simp at this
  · rcases h with h | ⟨t, _, ho⟩
    · exact s1.fzb b h
    · exact (s1.own_heap (own_drop ho)).1
  · rcases h with h | ⟨t2, _, ho2⟩
    · exact (s1.own_heap ho).2 h
    · obtain ⟨ho2, hne⟩ := drop_own ho2
      exact hne (s1.inj _ _ _ ho2 ho)

theorem ret_own_fresh (s : Sim G T w) {G1 : Gh} {T1 : Tab} (X : Ext 0 (bare (cut 0 G T).fz) [] w G1 T1 w') (s1 : Sim G1 T1 w') (hlo : lo ≤ T.length) {mb : Bool} {n t g off len : Nat} {es es' : List AV} {c : Value} (hrd : rd T1 (.sl mb n t g off len) = some es)
    (hf : mapO (frz 0 (T1.set t .dead) deep) es = some es') {dd : Nat} (hfr : es.all (fresh (T1.set t .dead) dd) = true) (r : RV G1 w' (.sl mb n t g off len) c) : Res lo G T w (T ++ [.arr 0 es']) (.sl mb n T.length 0 0 es'.length) c w' := by
  refine ret_own s X s1 hlo (fz2 := fun b => G.fz b ∨ ∃ t', own G1 (T1.set t .dead) t' b) (fun b h => .inl h) (fun b h hb => ?_) (fun b h => ?_) (fun b ho h => ?_) hrd hf (fun d j x x' c hff hxx hr => ?_) r
  · rcases h with h | ⟨t, ho⟩
    · exact h
    · have := own_lt (X.own' t b (own_drop ho) hb); simp at this
  · rcases h with h | ⟨t, ho⟩
    · exact Nat.lt_of_lt_of_le (s.fzb b h) X.size
    · exact (s1.own_heap (own_drop ho)).1
  · rcases h with h | ⟨t2, ho2⟩
    · have := own_lt (X.own' t b ho (s.fzb b h)); simp at this
    · obtain ⟨ho2, hne⟩ := drop_own ho2
      exact hne (s1.inj _ _ _ ho2 ho)
  · obtain ⟨d2, hd2⟩ := fresh_flat hfr j x hxx
    exact (fresh_rv (s1.drop t) _ _ _ _ _ hff hd2 hr).bare_mono fun b h => .inr h
end
end Go.Proofs.Ytlilfiekkaolkaa.Am
