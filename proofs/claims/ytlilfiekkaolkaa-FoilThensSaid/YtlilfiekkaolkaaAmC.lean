/- How the abstract machine's values and objects stand to the model's memory. -/
import Derived.Test.YtlilfiekkaolkaaAmB
import Derived.Laws.World
import Derived.Laws.Sem
set_option linter.unusedVariables false
set_option linter.unusedSimpArgs false
namespace Go.Proofs.Ytlilfiekkaolkaa.Am
open Go

structure Loc where
  b : Nat
  base : Nat
  n : Nat
  cap : Nat

/-- Where things lie. -/
structure Gh where
  loc : Nat → Nat → Option Loc
  box : Nat → Option Nat
  mp : Nat → Option Nat
  fz : Nat → Prop

def flat (es : List AV) : List AV := es.flatMap AV.cells

inductive RV (G : Gh) (w : World) : AV → Value → Prop
  | unk (v : Value) : RV G w .unk v
  | int (k : IntKind) (n : Int) : RV G w (.int k n) (.int k n)
  | bool (b : Bool) : RV G w (.bool b) (.bool b)
  | fznil (nl : Nl) (n : Nat) (h : nl ≠ .nonnil) : RV G w (.fz nl n []) (.slice none 0 0)
  | fz0 (nl : Nl) (n : Nat) (a : Addr) (cap : Nat) (h : nl ≠ .isnil) : RV G w (.fz nl n []) (.slice (some a) 0 cap)
  | fz (nl : Nl) (n : Nat) (es : List AV) (b o cap : Nat) (cs : Nat → Value) (h : nl ≠ .isnil) (hb : G.fz b) (hl : es.length ≤ cap) (he : ∀ e ∈ es, elemOk n e = true)
      (hc : ∀ (j : Nat) (x : AV), (flat es)[j]? = some x → w.cell? ⟨b, o + j, none⟩ = some (cs j)) (hr : ∀ (j : Nat) (x : AV), (flat es)[j]? = some x → RV G w x (cs j)) :
      RV G w (.fz nl n es) (.slice (some ⟨b, o, none⟩) es.length cap)
  | slnil (n t g off : Nat) : RV G w (.sl true n t g off 0) (.slice none 0 0)
  | slz (mb : Bool) (n t g off : Nat) (a : Addr) : RV G w (.sl mb n t g off 0) (.slice (some a) 0 0)
  | sl (mb : Bool) (n t g off len b base cap capT : Nat) (hl : G.loc t g = some ⟨b, base, n, capT⟩) (h1 : len ≤ cap) (h2 : off + cap ≤ capT) :
      RV G w (.sl mb n t g off len) (.slice (some ⟨b, base + off * n, none⟩) len cap)
  | asl (t off len b cap : Nat) (h : G.box t = some b) (h1 : len ≤ cap) : RV G w (.asl t off len) (.slice (some ⟨b, off, none⟩) len cap)
  | ptr (t off b : Nat) (h : G.box t = some b) : RV G w (.ptr t off) (.pointer (some ⟨b, off, none⟩))
  | ep (s : AV) (i off b o len cap n : Nat) (h : RV G w s (.slice (some ⟨b, o, none⟩) len cap)) (hn : esz s = some n) (hi : i < len) :
      RV G w (.ep s i off) (.pointer (some ⟨b, o + i * n + off, none⟩))
  | clos (f : Nat) (fs cs : List AV) (fvs cvs : Array Value) (h1 : fvs.size = fs.length) (h2 : cvs.size = cs.length)
      (hf : ∀ (i : Nat) (x : AV) (c : Value), fs[i]? = some x → fvs[i]? = some c → RV G w x c) (hc : ∀ (i : Nat) (x : AV) (c : Value), cs[i]? = some x → cvs[i]? = some c → RV G w x c) :
      RV G w (.clos f fs cs) (.func (.func (f % 1000)) fvs cvs)
  | iface (ty : Nat) (v : AV) (c : Value) (h : RV G w v c) : RV G w (.iface ty v) (.iface ty c)
  | mapr (t b : Nat) (h : G.mp t = some b) : RV G w (.mapr t) (.map (some b))
  | nilf : RV G w .nilf .nilFunc
  | tup (vs : List AV) (cvs : Array Value) (h1 : cvs.size = vs.length) (h : ∀ (i : Nat) (x : AV) (c : Value), vs[i]? = some x → cvs[i]? = some c → RV G w x c) : RV G w (.tup vs) (.tuple cvs)
  | agg (vs : List AV) (cvs : Array Value) (h1 : cvs.size = vs.length) (h : ∀ (i : Nat) (x : AV) (c : Value), vs[i]? = some x → cvs[i]? = some c → RV G w x c) : RV G w (.agg vs) (.agg cvs)

/-- Whose block is it? -/
def own (G : Gh) (T : Tab) (t b : Nat) : Prop := match tget T t with
  | .arr g _ => ∃ L, G.loc t g = some L ∧ L.b = b
  | .box _ => G.box t = some b
  | .map _ => G.mp t = some b
  | .dead => False

structure EntR (G : Gh) (w : World) (x : AV × AV) (e : MapEntry) : Prop where
  key : RV G w x.1 e.key
  val : RV G w x.2 e.val

structure ArrAt (G : Gh) (w : World) (t g : Nat) (es : List AV) (L : Loc) (c : Array Value) (ety : TypeId) : Prop where
  loc : G.loc t g = some L
  heap : w.heap[L.b]? = some (.cells c ety (0, 0))
  len : es.length ≤ L.cap
  size : L.base + L.cap * L.n ≤ c.size
  elem : ∀ e ∈ es, elemOk L.n e = true
  cell : ∀ (j : Nat) (x : AV), (flat es)[j]? = some x → ∃ v, c[L.base + j]? = some v ∧ RV G w x v
  nfz : ¬ G.fz L.b

structure BoxAt (G : Gh) (w : World) (t : Nat) (cs : List AV) (b : Nat) (c : Array Value) (ety : TypeId) : Prop where
  loc : G.box t = some b
  heap : w.heap[b]? = some (.cells c ety (0, 0))
  size : c.size = cs.length
  one : ∀ x ∈ cs, AV.one x = true
  cell : ∀ (j : Nat) (x : AV), cs[j]? = some x → ∃ v, c[j]? = some v ∧ RV G w x v
  nfz : ¬ G.fz b

structure MapAt (G : Gh) (w : World) (t : Nat) (kvs : List (AV × AV)) (b : Nat) (es : Array MapEntry) (clk : Nat) : Prop where
  loc : G.mp t = some b
  heap : w.heap[b]? = some (.map es clk)
  size : es.size = kvs.length
  ent : ∀ (j : Nat) (x : AV × AV) (e : MapEntry), kvs[j]? = some x → es[j]? = some e → EntR G w x e
  nfz : ¬ G.fz b

structure Sim (G : Gh) (T : Tab) (w : World) : Prop where
  arr : ∀ t g es, tget T t = .arr g es → (∀ g', g < g' → G.loc t g' = none) ∧ ((es = [] ∧ G.loc t g = none) ∨ ∃ L c ety, ArrAt G w t g es L c ety)
  box : ∀ t cs, tget T t = .box cs → ∃ b c ety, BoxAt G w t cs b c ety
  map : ∀ t kvs, tget T t = .map kvs → ∃ b es clk, MapAt G w t kvs b es clk
  inj : ∀ t t' b, own G T t b → own G T t' b → t = t'
  dom : ∀ t, T.length ≤ t → G.box t = none ∧ G.mp t = none ∧ ∀ g, G.loc t g = none
  fzb : ∀ b, G.fz b → b < w.heap.size

/-- What a step from one state leads to. -/
structure Ext (lo : Nat) (G : Gh) (T : Tab) (w : World) (G' : Gh) (T' : Tab) (w' : World) : Prop where
  loc : ∀ t g L, G.loc t g = some L → G'.loc t g = some L
  box : ∀ t b, G.box t = some b → G'.box t = some b
  mp : ∀ t b, G.mp t = some b → G'.mp t = some b
  fz : ∀ b, G.fz b → G'.fz b
  lowl : ∀ t g, t < lo → G'.loc t g = G.loc t g
  lowT : ∀ t, t < lo → tget T' t = tget T t
  len : T.length ≤ T'.length
  size : w.heap.size ≤ w'.heap.size
  keep : ∀ b, b < w.heap.size → (∀ t, lo ≤ t → ¬ own G T t b) → w'.heap[b]? = w.heap[b]?
  own' : ∀ t b, own G' T' t b → b < w.heap.size → own G T t b
  os : w'.os = w.os
  tape : w'.tape = w.tape
  output : w'.output = w.output
  fz' : ∀ b, G'.fz b → b < w.heap.size → G.fz b ∨ ∃ t, lo ≤ t ∧ own G T t b
  lowb : ∀ t, t < lo → G'.box t = G.box t
  lowm : ∀ t, t < lo → G'.mp t = G.mp t

theorem tget_lt {T : Tab} {t : Nat} (h : tget T t ≠ .dead) : t < T.length := by
  rcases Nat.lt_or_ge t T.length with h' | h'
  · exact h'
  · exact absurd (by simp [tget, List.getElem?_eq_none h']) h

theorem own_lt {G : Gh} {T : Tab} {t b : Nat} (h : own G T t b) : t < T.length := by
  refine tget_lt fun hd => ?_
  unfold own at h
  rw [hd] at h
  exact h

theorem Sim.own_heap {G : Gh} {T : Tab} {w : World} (s : Sim G T w) {t b : Nat} (h : own G T t b) : b < w.heap.size ∧ ¬ G.fz b := by
  unfold own at h
  split at h
  · rename_i g es ht
    obtain ⟨L, hl, rfl⟩ := h
    obtain ⟨_, h1 | ⟨L', c, ety, a⟩⟩ := s.arr t g es ht
    · rw [h1.2] at hl; cases hl
    · have : L = L' := by rw [a.loc] at hl; exact (Option.some.inj hl).symm
      subst this
      exact ⟨(Array.getElem?_eq_some_iff.1 a.heap).1, a.nfz⟩
  · rename_i cs ht
    obtain ⟨b', c, ety, a⟩ := s.box t cs ht
    have : b = b' := by rw [a.loc] at h; exact (Option.some.inj h).symm
    subst this
    exact ⟨(Array.getElem?_eq_some_iff.1 a.heap).1, a.nfz⟩
  · rename_i kvs ht
    obtain ⟨b', c, ety, a⟩ := s.map t kvs ht
    have : b = b' := by rw [a.loc] at h; exact (Option.some.inj h).symm
    subst this
    exact ⟨(Array.getElem?_eq_some_iff.1 a.heap).1, a.nfz⟩
  · exact h.elim

theorem Ext.refl (lo : Nat) (G : Gh) (T : Tab) (w : World) : Ext lo G T w G T w :=
  ⟨fun _ _ _ h => h, fun _ _ h => h, fun _ _ h => h, fun _ h => h, fun _ _ _ => rfl, fun _ _ => rfl, Nat.le_refl _, Nat.le_refl _, fun _ _ _ => rfl, fun _ _ h _ => h, rfl, rfl, rfl, fun _ h _ => .inl h, fun _ _ => rfl, fun _ _ => rfl⟩

theorem Ext.trans {lo : Nat} {G G1 G2 : Gh} {T T1 T2 : Tab} {w w1 w2 : World} (h : Ext lo G T w G1 T1 w1) (k : Ext lo G1 T1 w1 G2 T2 w2) : Ext lo G T w G2 T2 w2 where
  loc t g L x := k.loc t g L (h.loc t g L x)
  box t b x := k.box t b (h.box t b x)
  mp t b x := k.mp t b (h.mp t b x)
  fz b x := k.fz b (h.fz b x)
  lowl t g x := (k.lowl t g x).trans (h.lowl t g x)
  lowT t x := (k.lowT t x).trans (h.lowT t x)
  len := Nat.le_trans h.len k.len
  size := Nat.le_trans h.size k.size
  keep b hb hn := (k.keep b (Nat.lt_of_lt_of_le hb h.size) fun t ht ho => hn t ht (h.own' t b ho hb)).trans (h.keep b hb hn)
  own' t b ho hb := h.own' t b (k.own' t b ho (Nat.lt_of_lt_of_le hb h.size)) hb
  os := k.os.trans h.os
  tape := k.tape.trans h.tape
  output := k.output.trans h.output
  fz' b hf hb := by
    rcases k.fz' b hf (Nat.lt_of_lt_of_le hb h.size) with h1 | ⟨t, ht, ho⟩
    · exact h.fz' b h1 hb
    · exact .inr ⟨t, ht, h.own' t b ho hb⟩
  lowb t x := (k.lowb t x).trans (h.lowb t x)
  lowm t x := (k.lowm t x).trans (h.lowm t x)

/-- A smaller bound asks less. -/
theorem Ext.mono {lo lo' : Nat} {G G' : Gh} {T T' : Tab} {w w' : World} (h : Ext lo G T w G' T' w') (hl : lo' ≤ lo) : Ext lo' G T w G' T' w' where
  loc := h.loc
  box := h.box
  mp := h.mp
  fz := h.fz
  lowl t g x := h.lowl t g (Nat.lt_of_lt_of_le x hl)
  lowT t x := h.lowT t (Nat.lt_of_lt_of_le x hl)
  len := h.len
  size := h.size
  keep b hb hn := h.keep b hb fun t ht => hn t (Nat.le_trans hl ht)
  own' := h.own'
  os := h.os
  tape := h.tape
  output := h.output
  fz' b hf hb := by
    rcases h.fz' b hf hb with h1 | ⟨t, ht, ho⟩
    · exact .inl h1
    · exact .inr ⟨t, Nat.le_trans hl ht, ho⟩
  lowb t x := h.lowb t (Nat.lt_of_lt_of_le x hl)
  lowm t x := h.lowm t (Nat.lt_of_lt_of_le x hl)

theorem cell_of_heap {w w' : World} {b : Nat} (h : w'.heap[b]? = w.heap[b]?) (o : Nat) : w'.cell? ⟨b, o, none⟩ = w.cell? ⟨b, o, none⟩ := by
  simp only [World.cell?, h]

theorem RV.ext {lo : Nat} {G G' : Gh} {T T' : Tab} {w w' : World} (s : Sim G T w) (h : Ext lo G T w G' T' w') {v : AV} {c : Value} (r : RV G w v c) : RV G' w' v c := by
  induction r with
  | unk v => exact .unk v
  | int k n => exact .int k n
  | bool b => exact .bool b
  | fznil nl n hn => exact .fznil nl n hn
  | fz0 nl n a cap hn => exact .fz0 nl n a cap hn
  | fz nl n es b o cap cs hn hb hl he hc hr ih =>
    have hk : w'.heap[b]? = w.heap[b]? := h.keep b (s.fzb b hb) fun t _ ho => (s.own_heap ho).2 hb
    exact .fz nl n es b o cap cs hn (h.fz b hb) hl he (fun j x hx => (cell_of_heap hk _).trans (hc j x hx)) ih
  | slnil n t g off => exact .slnil n t g off
  | slz mb n t g off a => exact .slz mb n t g off a
  | sl mb n t g off len b base cap capT hl h1 h2 => exact .sl mb n t g off len b base cap capT (h.loc _ _ _ hl) h1 h2
  | asl t off len b cap hb h1 => exact .asl t off len b cap (h.box _ _ hb) h1
  | ptr t off b hb => exact .ptr t off b (h.box _ _ hb)
  | ep s i off b o len cap n _ hn hi ih => exact .ep s i off b o len cap n ih hn hi
  | clos f fs cs fvs cvs h1 h2 _ _ ihf ihc => exact .clos f fs cs fvs cvs h1 h2 ihf ihc
  | iface ty v c _ ih => exact .iface ty v c ih
  | mapr t b hb => exact .mapr t b (h.mp _ _ hb)
  | nilf => exact .nilf
  | tup vs cvs h1 _ ih => exact .tup vs cvs h1 ih
  | agg vs cvs h1 _ ih => exact .agg vs cvs h1 ih

/-! ### The model's memory -/
theorem cell_cells {w : World} {b : Nat} {c : Array Value} {ety : TypeId} {fr : Nat × Nat} (h : w.heap[b]? = some (.cells c ety fr)) (o : Nat) : w.cell? ⟨b, o, none⟩ = c[o]? := by
  simp [World.cell?, h]
theorem frozen_cells {w : World} {b : Nat} {c : Array Value} {ety : TypeId} (h : w.heap[b]? = some (.cells c ety (0, 0))) (o : Nat) : w.frozen? ⟨b, o, none⟩ = false := by
  simp [World.frozen?, h]
theorem heap_setCell {w : World} {b : Nat} {c : Array Value} {ety : TypeId} {fr : Nat × Nat} (h : w.heap[b]? = some (.cells c ety fr)) (o : Nat) (v : Value) :
    (w.setCell ⟨b, o, none⟩ v).heap[b]? = some (.cells (c.setIfInBounds o v) ety fr) := by
  simp [World.setCell, Array.getElem?_modify, h]
theorem heap_setCell_ne {w : World} {b b' : Nat} (o : Nat) (v : Value) (h : b' ≠ b) : (w.setCell ⟨b, o, none⟩ v).heap[b']? = w.heap[b']? := by
  simp only [World.setCell, Array.getElem?_modify]
  rw [if_neg (fun e => h e.symm)]

theorem addr_add (b o k : Nat) : (⟨b, o, none⟩ : Addr).add k = ⟨b, o + k, none⟩ := by
  unfold Addr.add
  split
  · simp_all
  · rfl

/-- An array of which a row was written. -/
def wrArr (c : Array Value) : Nat → List Value → Array Value
  | _, [] => c
  | o, v :: vs => wrArr (c.setIfInBounds o v) (o + 1) vs
theorem wrArr_size (vs : List Value) : ∀ (c : Array Value) (o : Nat), (wrArr c o vs).size = c.size := by
  induction vs with
  | nil => intro c o; rfl
  | cons v vs ih => intro c o; simp [wrArr, ih]
theorem wrArr_get (vs : List Value) : ∀ (c : Array Value) (o j : Nat), o + vs.length ≤ c.size → (wrArr c o vs)[j]? = if o ≤ j ∧ j < o + vs.length then vs[j - o]? else c[j]? := by
  induction vs with
  | nil => intro c o j _; simp [wrArr]; intro h1 h2; omega
  | cons v vs ih =>
    intro c o j h
    simp only [List.length_cons] at h
    rw [wrArr, ih _ _ _ (by simp; omega)]
    simp only [List.length_cons]
    by_cases h1 : o = j
    · subst h1
      rw [if_neg (by omega), if_pos (by omega)]
      simp [Array.getElem?_setIfInBounds, show o < c.size by omega]
    · by_cases h2 : o + 1 ≤ j ∧ j < o + 1 + vs.length
      · rw [if_pos h2, if_pos (by omega)]
        rw [show j - o = (j - (o + 1)) + 1 by omega, List.getElem?_cons_succ]
      · rw [if_neg h2, if_neg (by omega)]
        simp [Array.getElem?_setIfInBounds, h1]

/-- The world behind a row of stores. -/
structure Wrote (w w' : World) (b : Nat) (c : Array Value) (ety : TypeId) : Prop where
  heap : w'.heap[b]? = some (.cells c ety (0, 0))
  rest : ∀ b', b' ≠ b → w'.heap[b']? = w.heap[b']?
  size : w'.heap.size = w.heap.size
  os : w'.os = w.os
  tape : w'.tape = w.tape
  output : w'.output = w.output

theorem storeCells_run (P : Program) (b : Nat) (ety : TypeId) (vs : List Value) : ∀ (w : World) (c : Array Value) (o i : Nat),
    w.heap[b]? = some (.cells c ety (0, 0)) → o + i + vs.length ≤ c.size → (∀ v ∈ vs, v.oneCell' = true) →
    ∃ w', (storeCells ⟨b, o, none⟩ vs i).run P w = .ok () w' ∧ Wrote w w' b (wrArr c (o + i) vs) ety := by
  induction vs with
  | nil => intro w c o i h _ _; exact ⟨w, rfl, h, fun _ _ => rfl, rfl, rfl, rfl, rfl⟩
  | cons v vs ih =>
    intro w c o i h hs hv
    simp only [List.length_cons] at hs
    have h1 : w.cell? ⟨b, o + i, none⟩ = some c[o + i] := by rw [cell_cells h]; simp [Array.getElem?_eq_getElem (show o + i < c.size by omega)]
    obtain ⟨w', hr, hw⟩ := ih (w.setCell ⟨b, o + i, none⟩ v) (c.setIfInBounds (o + i) v) o (i + 1) (heap_setCell h _ _) (by simp; omega) (fun x hx => hv x (List.mem_cons_of_mem _ hx))
    refine ⟨w', ?_, ?_⟩
    · unfold storeCells
      rw [Sem.run_bind, addr_add, run_store P w _ v .plain (hv v List.mem_cons_self), h1]
      simp only [frozen_cells h, Bool.false_eq_true, if_false, Result.andThen_ok]
      exact hr
    · exact ⟨by rw [wrArr]; exact hw.heap, fun b' hb => (hw.rest b' hb).trans (heap_setCell_ne _ _ hb), by rw [hw.size]; simp, hw.os, hw.tape, hw.output⟩

theorem loadCellsFrom_run (P : Program) (w : World) (b : Nat) (n : Nat) : ∀ (o i : Nat) (acc : Array Value) (f : Nat → Value),
    (∀ j, j < n → w.cell? ⟨b, o + i + j, none⟩ = some (f j)) → (loadCellsFrom ⟨b, o, none⟩ i n acc).run P w = .ok (acc ++ ((List.range n).map f).toArray) w := by
  induction n with
  | zero => intro o i acc f _; simp [loadCellsFrom]
  | succ n ih =>
    intro o i acc f h
    unfold loadCellsFrom
    have h0 := h 0 (by omega)
    rw [Sem.run_bind, addr_add, run_load]
    rw [Nat.add_zero] at h0
    rw [h0]
    simp only [Result.andThen_ok]
    rw [ih o (i + 1) _ (fun j => f (j + 1)) (fun j hj => by have := h (j + 1) (by omega); rwa [show o + (i + 1) + j = o + i + (j + 1) by omega])]
    congr 1
    rw [List.range_succ_eq_map]
    simp [Function.comp_def]

theorem loadCells_run (P : Program) (w : World) (b o n : Nat) (f : Nat → Value) (h : ∀ j, j < n → w.cell? ⟨b, o + j, none⟩ = some (f j)) :
    (loadCells ⟨b, o, none⟩ n).run P w = .ok ((List.range n).map f).toArray w := by
  unfold loadCells
  rw [loadCellsFrom_run P w b n o 0 #[] f (by simpa using h)]
  simp
end Go.Proofs.Ytlilfiekkaolkaa.Am
