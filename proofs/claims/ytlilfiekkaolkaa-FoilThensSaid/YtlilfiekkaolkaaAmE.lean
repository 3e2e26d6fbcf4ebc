/- Writing: what becomes of the relation when an object is made or changed. -/
import Derived.Test.YtlilfiekkaolkaaAmD
set_option linter.unusedVariables false
set_option linter.unusedSimpArgs false
namespace Go.Proofs.Ytlilfiekkaolkaa.Am
open Go

/-- One token alone is touched. -/
structure Upd (G : Gh) (T : Tab) (w : World) (G' : Gh) (T' : Tab) (w' : World) (t : Nat) : Prop where
  tab : ∀ t', t' ≠ t → tget T' t' = tget T t'
  len : T.length ≤ T'.length
  loc : ∀ t' g, t' ≠ t → G'.loc t' g = G.loc t' g
  loct : ∀ g L, G.loc t g = some L → G'.loc t g = some L
  box : ∀ t', t' ≠ t → G'.box t' = G.box t'
  boxt : ∀ b, G.box t = some b → G'.box t = some b
  mp : ∀ t', t' ≠ t → G'.mp t' = G.mp t'
  mpt : ∀ b, G.mp t = some b → G'.mp t = some b
  fz : G'.fz = G.fz
  size : w.heap.size ≤ w'.heap.size
  keep : ∀ b, b < w.heap.size → ¬ own G T t b → w'.heap[b]? = w.heap[b]?
  own' : ∀ b, own G' T' t b → own G T t b ∨ w.heap.size ≤ b
  os : w'.os = w.os
  tape : w'.tape = w.tape
  output : w'.output = w.output

theorem Upd.own_ne {G G' : Gh} {T T' : Tab} {w w' : World} {t : Nat} (u : Upd G T w G' T' w' t) {t' : Nat} (h : t' ≠ t) (b : Nat) : own G' T' t' b ↔ own G T t' b := by
  unfold own
  rw [u.tab t' h]
  cases tget T t' <;> simp [u.loc t' _ h, u.box t' h, u.mp t' h]

theorem Upd.ext {G G' : Gh} {T T' : Tab} {w w' : World} {t : Nat} (u : Upd G T w G' T' w' t) {lo : Nat} (hlo : lo ≤ t) : Ext lo G T w G' T' w' where
  loc t' g L h := by
    by_cases e : t' = t
    · subst e; exact u.loct g L h
    · rw [u.loc t' g e]; exact h
  box t' b h := by
    by_cases e : t' = t
    · subst e; exact u.boxt b h
    · rw [u.box t' e]; exact h
  mp t' b h := by
    by_cases e : t' = t
    · subst e; exact u.mpt b h
    · rw [u.mp t' e]; exact h
  fz b h := by rw [u.fz]; exact h
  lowl t' g h := u.loc t' g (by omega)
  lowT t' h := u.tab t' (by omega)
  len := u.len
  size := u.size
  keep b hb hn := u.keep b hb (hn t hlo)
  own' t' b h hb := by
    by_cases e : t' = t
    · subst e
      rcases u.own' b h with h | h
      · exact h
      · omega
    · exact (u.own_ne e b).1 h
  os := u.os
  tape := u.tape
  output := u.output
  fz' b h _ := .inl (by rw [u.fz] at h; exact h)
  lowb t' h := u.box t' (by omega)
  lowm t' h := u.mp t' (by omega)

theorem Upd.sim {G G' : Gh} {T T' : Tab} {w w' : World} {t : Nat} (s : Sim G T w) (u : Upd G T w G' T' w' t)
    (harr : ∀ g es, tget T' t = .arr g es → (∀ g', g < g' → G'.loc t g' = none) ∧ ((es = [] ∧ G'.loc t g = none) ∨ ∃ L c ety, ArrAt G' w' t g es L c ety))
    (hbox : ∀ cs, tget T' t = .box cs → ∃ b c ety, BoxAt G' w' t cs b c ety)
    (hmap : ∀ kvs, tget T' t = .map kvs → ∃ b es clk, MapAt G' w' t kvs b es clk)
    (hdom : t < T'.length) : Sim G' T' w' := by
  have X : Ext 0 G T w G' T' w' := u.ext (Nat.zero_le _)
  have keepB : ∀ t' b, t' ≠ t → own G T t' b → w'.heap[b]? = w.heap[b]? := fun t' b e ho => u.keep b (s.own_heap ho).1 fun h => e (s.inj _ _ _ ho h)
  constructor
  · intro t' g es h
    by_cases e : t' = t
    · subst e; exact harr g es h
    · rw [u.tab t' e] at h
      obtain ⟨h1, h2⟩ := s.arr t' g es h
      refine ⟨fun g' hg => by rw [u.loc t' g' e]; exact h1 g' hg, ?_⟩
      rcases h2 with ⟨h2, h3⟩ | ⟨L, c, ety, A⟩
      · exact .inl ⟨h2, by rw [u.loc t' g e]; exact h3⟩
      · have ho : own G T t' L.b := by unfold own; rw [h]; exact ⟨L, A.loc, rfl⟩
        exact .inr ⟨L, c, ety, by rw [u.loc t' g e]; exact A.loc, by rw [keepB t' _ e ho]; exact A.heap, A.len, A.size, A.elem,
          fun j x hx => by obtain ⟨v, hv, r⟩ := A.cell j x hx; exact ⟨v, hv, r.ext s X⟩, by rw [u.fz]; exact A.nfz⟩
  · intro t' cs h
    by_cases e : t' = t
    · subst e; exact hbox cs h
    · rw [u.tab t' e] at h
      obtain ⟨b, c, ety, A⟩ := s.box t' cs h
      have ho : own G T t' b := by unfold own; rw [h]; exact A.loc
      exact ⟨b, c, ety, by rw [u.box t' e]; exact A.loc, by rw [keepB t' _ e ho]; exact A.heap, A.size, A.one,
        fun j x hx => by obtain ⟨v, hv, r⟩ := A.cell j x hx; exact ⟨v, hv, r.ext s X⟩, by rw [u.fz]; exact A.nfz⟩
  · intro t' kvs h
    by_cases e : t' = t
    · subst e; exact hmap kvs h
    · rw [u.tab t' e] at h
      obtain ⟨b, es, clk, A⟩ := s.map t' kvs h
      have ho : own G T t' b := by unfold own; rw [h]; exact A.loc
      exact ⟨b, es, clk, by rw [u.mp t' e]; exact A.loc, by rw [keepB t' _ e ho]; exact A.heap, A.size,
        fun j x y hx hy => ⟨(A.ent j x y hx hy).key.ext s X, (A.ent j x y hx hy).val.ext s X⟩, by rw [u.fz]; exact A.nfz⟩
  · intro t1 t2 b h1 h2
    by_cases e1 : t1 = t
    · by_cases e2 : t2 = t
      · rw [e1, e2]
      · subst e1
        have h2' := (u.own_ne e2 b).1 h2
        rcases u.own' b h1 with h | h
        · exact s.inj _ _ _ h h2'
        · have := (s.own_heap h2').1; omega
    · have h1' := (u.own_ne e1 b).1 h1
      by_cases e2 : t2 = t
      · subst e2
        rcases u.own' b h2 with h | h
        · exact s.inj _ _ _ h1' h
        · have := (s.own_heap h1').1; omega
      · exact s.inj _ _ _ h1' ((u.own_ne e2 b).1 h2)
  · intro t' ht
    have e : t' ≠ t := by omega
    obtain ⟨a, b, c⟩ := s.dom t' (Nat.le_trans u.len ht)
    exact ⟨by rw [u.box t' e]; exact a, by rw [u.mp t' e]; exact b, fun g => by rw [u.loc t' g e]; exact c g⟩
  · intro b hb
    rw [u.fz] at hb
    exact Nat.lt_of_lt_of_le (s.fzb b hb) u.size

/-! ### Making -/
theorem tget_new (T : Tab) (o : Obj) : tget (T ++ [o]) T.length = o := by simp [tget]
theorem tget_old {T : Tab} (L : Tab) {t : Nat} (h : t < T.length) : tget (T ++ L) t = tget T t := by simp [tget, List.getElem?_append_left h]
theorem tget_beyond {T : Tab} {t : Nat} (h : T.length ≤ t) : tget T t = .dead := by simp [tget, List.getElem?_eq_none h]
theorem tget_push_ne (T : Tab) (o : Obj) {t : Nat} (h : t ≠ T.length) : tget (T ++ [o]) t = tget T t := by
  rcases Nat.lt_or_ge t T.length with h' | h'
  · exact tget_old _ h'
  · rw [tget_beyond h', tget_beyond (by simp; omega)]
theorem not_own_new {G : Gh} {T : Tab} (b : Nat) : ¬ own G T T.length b := fun h => by have := own_lt h; omega

/-- A token of no elements, behind a nil slice. -/
theorem push_empty {G : Gh} {T : Tab} {w : World} (s : Sim G T w) : Upd G T w G (T ++ [.arr 0 []]) w T.length ∧ Sim G (T ++ [.arr 0 []]) w := by
  have u : Upd G T w G (T ++ [.arr 0 []]) w T.length := {
    tab := fun t' h => tget_push_ne T _ h
    len := by simp
    loc := fun _ _ _ => rfl
    loct := fun _ _ h => h
    box := fun _ _ => rfl
    boxt := fun _ h => h
    mp := fun _ _ => rfl
    mpt := fun _ h => h
    fz := rfl
    size := Nat.le_refl _
    keep := fun _ _ _ => rfl
    own' := fun b h => by
      unfold own at h
      rw [tget_new] at h
      obtain ⟨L, hl, _⟩ := h
      rw [(s.dom T.length (Nat.le_refl _)).2.2 0] at hl
      cases hl
    os := rfl
    tape := rfl
    output := rfl }
  refine ⟨u, u.sim s (fun g es h => ?_) (fun cs h => ?_) (fun kvs h => ?_) (by simp)⟩
  · rw [tget_new] at h
    cases h
    exact ⟨fun g' _ => (s.dom T.length (Nat.le_refl _)).2.2 g', .inl ⟨rfl, (s.dom T.length (Nat.le_refl _)).2.2 0⟩⟩
  · rw [tget_new] at h; cases h
  · rw [tget_new] at h; cases h

theorem heap_alloc (w : World) (o : Go.Obj) (b : Nat) (h : b ≠ w.heap.size) : (w.alloc o).heap[b]? = w.heap[b]? := by
  show (w.heap.push o)[b]? = _
  rw [Array.getElem?_push, if_neg h]
theorem heap_alloc_new (w : World) (o : Go.Obj) : (w.alloc o).heap[w.heap.size]? = some o := by
  show (w.heap.push o)[w.heap.size]? = _
  simp

/-- A variable is made. -/
theorem push_box {G : Gh} {T : Tab} {w : World} (s : Sim G T w) (cs : List AV) (c : Array Value) (ety : TypeId) (hsz : c.size = cs.length) (h1 : ∀ x ∈ cs, AV.one x = true)
    (hc : ∀ (j : Nat) (x : AV), cs[j]? = some x → ∃ v, c[j]? = some v ∧ RV G w x v) :
    ∃ G', Upd G T w G' (T ++ [.box cs]) (w.alloc (.cells c ety)) T.length ∧ Sim G' (T ++ [.box cs]) (w.alloc (.cells c ety)) ∧ G'.box T.length = some w.heap.size := by
  let G' : Gh := { G with box := fun t => if t = T.length then some w.heap.size else G.box t }
  have hb : G'.box T.length = some w.heap.size := by simp [G']
  have u : Upd G T w G' (T ++ [.box cs]) (w.alloc (.cells c ety)) T.length := {
    tab := fun t' h => tget_push_ne T _ h
    len := by simp
    loc := fun _ _ _ => rfl
    loct := fun _ _ h => h
    box := fun t' h => by simp [G', h]
    boxt := fun b h => by rw [(s.dom T.length (Nat.le_refl _)).1] at h; cases h
    mp := fun _ _ => rfl
    mpt := fun _ h => h
    fz := rfl
    size := by simp
    keep := fun b h _ => heap_alloc w _ b (by omega)
    own' := fun b h => by
      unfold own at h
      rw [tget_new] at h
      simp only [hb, Option.some.injEq] at h
      exact .inr (by omega)
    os := rfl
    tape := rfl
    output := rfl }
  refine ⟨G', u, u.sim s (fun g es h => ?_) (fun cs' h => ?_) (fun kvs h => ?_) (by simp), hb⟩
  · rw [tget_new] at h; cases h
  · rw [tget_new] at h
    cases h
    exact ⟨w.heap.size, c, ety, hb, heap_alloc_new w _, hsz, h1, fun j x hx => by obtain ⟨v, hv, r⟩ := hc j x hx; exact ⟨v, hv, r.ext s (u.ext (Nat.zero_le _))⟩,
      fun h => by have := s.fzb _ h; omega⟩
  · rw [tget_new] at h; cases h

/-- A row is made. -/
theorem push_arr {G : Gh} {T : Tab} {w : World} (s : Sim G T w) (n cap : Nat) (es : List AV) (c : Array Value) (ety : TypeId) (hcap : es.length ≤ cap) (hsz : cap * n ≤ c.size)
    (he : ∀ e ∈ es, elemOk n e = true) (hc : ∀ (j : Nat) (x : AV), (flat es)[j]? = some x → ∃ v, c[j]? = some v ∧ RV G w x v) :
    ∃ G', Upd G T w G' (T ++ [.arr 0 es]) (w.alloc (.cells c ety)) T.length ∧ Sim G' (T ++ [.arr 0 es]) (w.alloc (.cells c ety)) ∧ G'.loc T.length 0 = some ⟨w.heap.size, 0, n, cap⟩ := by
  let G' : Gh := { G with loc := fun t g => if t = T.length ∧ g = 0 then some ⟨w.heap.size, 0, n, cap⟩ else G.loc t g }
  have hb : G'.loc T.length 0 = some ⟨w.heap.size, 0, n, cap⟩ := by simp [G']
  have u : Upd G T w G' (T ++ [.arr 0 es]) (w.alloc (.cells c ety)) T.length := {
    tab := fun t' h => tget_push_ne T _ h
    len := by simp
    loc := fun t' g h => by simp [G', h]
    loct := fun g L h => by rw [(s.dom T.length (Nat.le_refl _)).2.2 g] at h; cases h
    box := fun _ _ => rfl
    boxt := fun _ h => h
    mp := fun _ _ => rfl
    mpt := fun _ h => h
    fz := rfl
    size := by simp
    keep := fun b h _ => heap_alloc w _ b (by omega)
    own' := fun b h => by
      unfold own at h
      rw [tget_new] at h
      obtain ⟨L, hl, rfl⟩ := h
      rw [hb] at hl
      cases hl
      exact .inr (Nat.le_refl _)
    os := rfl
    tape := rfl
    output := rfl }
  refine ⟨G', u, u.sim s (fun g es' h => ?_) (fun cs' h => ?_) (fun kvs h => ?_) (by simp), hb⟩
  · rw [tget_new] at h
    cases h
    refine ⟨fun g' hg => ?_, .inr ⟨_, c, ety, hb, heap_alloc_new w _, hcap, by simpa using hsz, he, fun j x hx => ?_, fun h => by have := s.fzb _ h; simp at this⟩⟩
    · have h1 := (s.dom T.length (Nat.le_refl _)).2.2 g'
      have h2 : ¬ g' = 0 := by omega
      simp [G', h1, h2]
    · obtain ⟨v, hv, r⟩ := hc j x hx
      exact ⟨v, by simpa using hv, r.ext s (u.ext (Nat.zero_le _))⟩
  · rw [tget_new] at h; cases h
  · rw [tget_new] at h; cases h

/-- A map is made. -/
theorem push_map {G : Gh} {T : Tab} {w : World} (s : Sim G T w) :
    ∃ G', Upd G T w G' (T ++ [.map []]) (w.alloc (.map #[] 0)) T.length ∧ Sim G' (T ++ [.map []]) (w.alloc (.map #[] 0)) ∧ G'.mp T.length = some w.heap.size := by
  let G' : Gh := { G with mp := fun t => if t = T.length then some w.heap.size else G.mp t }
  have hb : G'.mp T.length = some w.heap.size := by simp [G']
  have u : Upd G T w G' (T ++ [.map []]) (w.alloc (.map #[] 0)) T.length := {
    tab := fun t' h => tget_push_ne T _ h
    len := by simp
    loc := fun _ _ _ => rfl
    loct := fun _ _ h => h
    box := fun _ _ => rfl
    boxt := fun _ h => h
    mp := fun t' h => by simp [G', h]
    mpt := fun b h => by rw [(s.dom T.length (Nat.le_refl _)).2.1] at h; cases h
    fz := rfl
    size := by simp
    keep := fun b h _ => heap_alloc w _ b (by omega)
    own' := fun b h => by
      unfold own at h
      rw [tget_new] at h
      simp only [hb, Option.some.injEq] at h
      exact .inr (by omega)
    os := rfl
    tape := rfl
    output := rfl }
  refine ⟨G', u, u.sim s (fun g es h => ?_) (fun cs' h => ?_) (fun kvs h => ?_) (by simp), hb⟩
  · rw [tget_new] at h; cases h
  · rw [tget_new] at h; cases h
  · rw [tget_new] at h
    cases h
    exact ⟨w.heap.size, #[], 0, hb, heap_alloc_new w _, rfl, fun j x e hx => by simp at hx, fun h => by have := s.fzb _ h; omega⟩

/-- A frozen row is made. -/
theorem push_frozen {G : Gh} {T : Tab} {w : World} (s : Sim G T w) (lo : Nat) (o : Go.Obj) :
    ∃ G', Ext lo G T w G' T (w.alloc o) ∧ Sim G' T (w.alloc o) ∧ G'.fz w.heap.size ∧ (∀ t g, G'.loc t g = G.loc t g) := by
  let G' : Gh := { G with fz := fun b => G.fz b ∨ b = w.heap.size }
  have X : ∀ lo, Ext lo G T w G' T (w.alloc o) := fun lo => {
    loc := fun _ _ _ h => h
    box := fun _ _ h => h
    mp := fun _ _ h => h
    fz := fun b h => .inl h
    lowl := fun _ _ _ => rfl
    lowT := fun _ _ => rfl
    len := Nat.le_refl _
    size := by simp
    keep := fun b h _ => heap_alloc w _ b (by omega)
    own' := fun t b h _ => h
    os := rfl
    tape := rfl
    output := rfl
    fz' := fun b h hb => h.imp id fun e => by omega
    lowb := fun _ _ => rfl
    lowm := fun _ _ => rfl }
  have nf : ∀ b, b < w.heap.size → ¬ G.fz b → ¬ G'.fz b := fun b hb h h' => by
    rcases h' with h' | h'
    · exact h h'
    · omega
  have hk : ∀ b o', w.heap[b]? = some o' → (w.alloc o).heap[b]? = some o' ∧ b < w.heap.size := fun b o' h => by
    have := (Array.getElem?_eq_some_iff.1 h).1
    exact ⟨by rw [heap_alloc w _ b (by omega)]; exact h, this⟩
  refine ⟨G', X lo, ?_, .inr rfl, fun _ _ => rfl⟩
  constructor
  · intro t g es h
    obtain ⟨h1, h2⟩ := s.arr t g es h
    refine ⟨h1, ?_⟩
    rcases h2 with h2 | ⟨L, c, ety, A⟩
    · exact .inl h2
    · exact .inr ⟨L, c, ety, A.loc, (hk _ _ A.heap).1, A.len, A.size, A.elem, fun j x hx => by obtain ⟨v, hv, r⟩ := A.cell j x hx; exact ⟨v, hv, r.ext s (X 0)⟩, nf _ (hk _ _ A.heap).2 A.nfz⟩
  · intro t cs h
    obtain ⟨b, c, ety, A⟩ := s.box t cs h
    exact ⟨b, c, ety, A.loc, (hk _ _ A.heap).1, A.size, A.one, fun j x hx => by obtain ⟨v, hv, r⟩ := A.cell j x hx; exact ⟨v, hv, r.ext s (X 0)⟩, nf _ (hk _ _ A.heap).2 A.nfz⟩
  · intro t kvs h
    obtain ⟨b, es, clk, A⟩ := s.map t kvs h
    exact ⟨b, es, clk, A.loc, (hk _ _ A.heap).1, A.size, fun j x y hx hy => ⟨(A.ent j x y hx hy).key.ext s (X 0), (A.ent j x y hx hy).val.ext s (X 0)⟩, nf _ (hk _ _ A.heap).2 A.nfz⟩
  · exact s.inj
  · exact s.dom
  · intro b hb
    rcases hb with hb | hb
    · have := s.fzb b hb; simp; omega
    · simp; omega
end Go.Proofs.Ytlilfiekkaolkaa.Am
