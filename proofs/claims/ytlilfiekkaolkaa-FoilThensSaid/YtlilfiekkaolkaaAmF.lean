/- Changing: stores, appends, maps, freezing. -/
import Derived.Test.YtlilfiekkaolkaaAmE
set_option linter.unusedVariables false
set_option linter.unusedSimpArgs false
namespace Go.Proofs.Ytlilfiekkaolkaa.Am
open Go

theorem wr_length {cs vs : List AV} {off : Nat} (h : off + vs.length ≤ cs.length) : (wr cs off vs).length = cs.length := by
  unfold wr; simp; omega
theorem wr_get {cs vs : List AV} {off : Nat} (h : off + vs.length ≤ cs.length) (j : Nat) : (wr cs off vs)[j]? = if off ≤ j ∧ j < off + vs.length then vs[j - off]? else cs[j]? := by
  unfold wr
  by_cases h1 : j < off
  · rw [if_neg (by omega), List.append_assoc, List.getElem?_append_left (by simp; omega), List.getElem?_take, if_pos h1]
  · have ht : (cs.take off).length = off := by simp; omega
    by_cases h2 : j < off + vs.length
    · rw [if_pos (by omega), List.append_assoc, List.getElem?_append_right (by omega), ht, List.getElem?_append_left (by omega)]
    · rw [if_neg (by omega), List.getElem?_append_right (by simp; omega), List.getElem?_drop]
      congr 1
      simp
      omega
theorem wr_mem {cs vs : List AV} {off : Nat} {x : AV} (h : x ∈ wr cs off vs) : x ∈ cs ∨ x ∈ vs := by
  unfold wr at h
  simp only [List.mem_append] at h
  rcases h with (h | h) | h
  · exact .inl (List.mem_of_mem_take h)
  · exact .inr h
  · exact .inl (List.mem_of_mem_drop h)

theorem tget_set_ne (T : Tab) (o : Obj) {t t' : Nat} (h : t' ≠ t) : tget (T.set t o) t' = tget T t' := by
  have : t ≠ t' := fun e => h e.symm
  simp [tget, List.getElem?_set, this]
theorem tget_set_same {T : Tab} (o : Obj) {t : Nat} (h : t < T.length) : tget (T.set t o) t = o := by simp [tget, List.getElem?_set, h]

/-- Values of a row, and what they stand for. -/
def RVs (G : Gh) (w : World) (vs : List AV) (cs : List Value) : Prop := vs.length = cs.length ∧ ∀ (j : Nat) (x : AV), vs[j]? = some x → ∃ c, cs[j]? = some c ∧ RV G w x c

/-- A variable is written. -/
theorem set_box {G : Gh} {T : Tab} {w w' : World} (s : Sim G T w) {t b : Nat} {cs : List AV} {c : Array Value} {ety : TypeId} (ht : tget T t = .box cs) (A : BoxAt G w t cs b c ety)
    (off : Nat) (vs : List AV) (cvs : List Value) (hoff : off + vs.length ≤ cs.length) (h1 : ∀ x ∈ vs, AV.one x = true) (hr : RVs G w vs cvs) (W : Wrote w w' b (wrArr c off cvs) ety) :
    Upd G T w G (T.set t (.box (wr cs off vs))) w' t ∧ Sim G (T.set t (.box (wr cs off vs))) w' := by
  have hlt : t < T.length := tget_lt (by rw [ht]; simp)
  have hown : own G T t b := by unfold own; rw [ht]; exact A.loc
  have u : Upd G T w G (T.set t (.box (wr cs off vs))) w' t := {
    tab := fun t' h => tget_set_ne T _ h
    len := by simp
    loc := fun _ _ _ => rfl
    loct := fun _ _ h => h
    box := fun _ _ => rfl
    boxt := fun _ h => h
    mp := fun _ _ => rfl
    mpt := fun _ h => h
    fz := rfl
    size := by rw [W.size]; exact Nat.le_refl _
    keep := fun b' _ hn => W.rest b' fun e => hn (e ▸ hown)
    own' := fun b' h => by
      unfold own at h
      rw [tget_set_same _ hlt] at h
      refine .inl ?_
      unfold own
      rw [ht]
      exact h
    os := W.os
    tape := W.tape
    output := W.output }
  refine ⟨u, u.sim s (fun g es h => ?_) (fun cs' h => ?_) (fun kvs h => ?_) (by simpa using hlt)⟩
  · rw [tget_set_same _ hlt] at h; cases h
  · rw [tget_set_same _ hlt] at h
    cases h
    refine ⟨b, _, ety, A.loc, W.heap, by rw [wrArr_size, wr_length hoff, A.size], fun x hx => ?_, fun j x hx => ?_, A.nfz⟩
    · rcases wr_mem hx with h | h
      · exact A.one x h
      · exact h1 x h
    · rw [wr_get hoff] at hx
      rw [wrArr_get _ _ _ _ (by rw [A.size, ← hr.1]; exact hoff), ← hr.1]
      split at hx
      · rename_i hj
        rw [if_pos hj]
        obtain ⟨v, hv, r⟩ := hr.2 _ _ hx
        exact ⟨v, hv, r.ext s (u.ext (Nat.zero_le _))⟩
      · rename_i hj
        rw [if_neg hj]
        obtain ⟨v, hv, r⟩ := A.cell _ _ hx
        exact ⟨v, hv, r.ext s (u.ext (Nat.zero_le _))⟩
  · rw [tget_set_same _ hlt] at h; cases h

/-- Cells of a row are written. -/
theorem set_arr {G : Gh} {T : Tab} {w w' : World} (s : Sim G T w) {t g : Nat} {L : Loc} {es es' : List AV} {c : Array Value} {ety : TypeId} (ht : tget T t = .arr g es) (A : ArrAt G w t g es L c ety)
    (k : Nat) (vs : List AV) (cvs : List Value) (hk : k + vs.length ≤ (flat es).length) (hlen : es'.length = es.length) (he : ∀ e ∈ es', elemOk L.n e = true) (hfl : flat es' = wr (flat es) k vs)
    (hr : RVs G w vs cvs) (W : Wrote w w' L.b (wrArr c (L.base + k) cvs) ety) :
    Upd G T w G (T.set t (.arr g es')) w' t ∧ Sim G (T.set t (.arr g es')) w' := by
  have hlt : t < T.length := tget_lt (by rw [ht]; simp)
  have hown : own G T t L.b := by unfold own; rw [ht]; exact ⟨L, A.loc, rfl⟩
  have u : Upd G T w G (T.set t (.arr g es')) w' t := {
    tab := fun t' h => tget_set_ne T _ h
    len := by simp
    loc := fun _ _ _ => rfl
    loct := fun _ _ h => h
    box := fun _ _ => rfl
    boxt := fun _ h => h
    mp := fun _ _ => rfl
    mpt := fun _ h => h
    fz := rfl
    size := by rw [W.size]; exact Nat.le_refl _
    keep := fun b' _ hn => W.rest b' fun e => hn (e ▸ hown)
    own' := fun b' h => by
      unfold own at h
      rw [tget_set_same _ hlt] at h
      refine .inl ?_
      unfold own
      rw [ht]
      exact h
    os := W.os
    tape := W.tape
    output := W.output }
  have hfit : L.base + k + cvs.length ≤ c.size := by
    have h1 := flat_len A.elem
    have h2 : es.length * L.n ≤ L.cap * L.n := Nat.mul_le_mul_right _ A.len
    have := A.size
    rw [← hr.1]
    omega
  refine ⟨u, u.sim s (fun g' es2 h => ?_) (fun cs' h => ?_) (fun kvs h => ?_) (by simpa using hlt)⟩
  · rw [tget_set_same _ hlt] at h
    cases h
    refine ⟨(s.arr t g es ht).1, .inr ⟨L, _, ety, A.loc, W.heap, by rw [hlen]; exact A.len, by rw [wrArr_size]; exact A.size, he, fun j x hx => ?_, A.nfz⟩⟩
    rw [hfl, wr_get hk] at hx
    rw [wrArr_get _ _ _ _ hfit, ← hr.1]
    split at hx
    · rename_i hj
      rw [if_pos (by omega), show L.base + j - (L.base + k) = j - k by omega]
      obtain ⟨v, hv, r⟩ := hr.2 _ _ hx
      exact ⟨v, hv, r.ext s (u.ext (Nat.zero_le _))⟩
    · rename_i hj
      rw [if_neg (by omega)]
      obtain ⟨v, hv, r⟩ := A.cell _ _ hx
      exact ⟨v, hv, r.ext s (u.ext (Nat.zero_le _))⟩
  · rw [tget_set_same _ hlt] at h; cases h
  · rw [tget_set_same _ hlt] at h; cases h

/-- A row of the next generation, in whatever block: the token's own, or a new one. -/
theorem next_arr {G : Gh} {T : Tab} {w w' : World} (s : Sim G T w) {t g : Nat} {L' : Loc} {es es' : List AV} {c' : Array Value} {ety : TypeId} (ht : tget T t = .arr g es)
    (heap : w'.heap[L'.b]? = some (.cells c' ety (0, 0))) (hlen : es'.length ≤ L'.cap) (hsize : L'.base + L'.cap * L'.n ≤ c'.size) (he : ∀ e ∈ es', elemOk L'.n e = true)
    (hcell : ∀ (j : Nat) (x : AV), (flat es')[j]? = some x → ∃ v, c'[L'.base + j]? = some v ∧ RV G w x v)
    (hb : own G T t L'.b ∨ L'.b = w.heap.size) (hsz : w.heap.size ≤ w'.heap.size) (hk : ∀ b, b < w.heap.size → ¬ own G T t b → w'.heap[b]? = w.heap[b]?)
    (os : w'.os = w.os) (tape : w'.tape = w.tape) (output : w'.output = w.output) :
    ∃ G', Upd G T w G' (T.set t (.arr (g + 1) es')) w' t ∧ Sim G' (T.set t (.arr (g + 1) es')) w' ∧ G'.loc t (g + 1) = some L' := by
  have hlt : t < T.length := tget_lt (by rw [ht]; simp)
  have hnone := (s.arr t g es ht).1
  let G' : Gh := { G with loc := fun t' g' => if t' = t ∧ g' = g + 1 then some L' else G.loc t' g' }
  have hl : G'.loc t (g + 1) = some L' := by simp [G']
  have u : Upd G T w G' (T.set t (.arr (g + 1) es')) w' t := {
    tab := fun t' h => tget_set_ne T _ h
    len := by simp
    loc := fun t' g' h => by simp [G', h]
    loct := fun g' L h => by
      have : g' ≠ g + 1 := fun e => by rw [e, hnone (g + 1) (by omega)] at h; cases h
      simp [G', this, h]
    box := fun _ _ => rfl
    boxt := fun _ h => h
    mp := fun _ _ => rfl
    mpt := fun _ h => h
    fz := rfl
    size := hsz
    keep := hk
    own' := fun b' h => by
      unfold own at h
      rw [tget_set_same _ hlt] at h
      obtain ⟨L, h, rfl⟩ := h
      rw [hl] at h
      cases h
      rcases hb with h | h
      · exact .inl h
      · exact .inr (by omega)
    os := os
    tape := tape
    output := output }
  refine ⟨G', u, u.sim s (fun g' es2 h => ?_) (fun cs' h => ?_) (fun kvs h => ?_) (by simpa using hlt), hl⟩
  · rw [tget_set_same _ hlt] at h
    cases h
    refine ⟨fun g' hg => ?_, .inr ⟨L', c', ety, hl, heap, hlen, hsize, he, fun j x hx => ?_, ?_⟩⟩
    · have : g' ≠ g + 1 := by omega
      simp only [G', this, and_false, if_false]
      exact hnone g' (by omega)
    · obtain ⟨v, hv, r⟩ := hcell j x hx
      exact ⟨v, hv, r.ext s (u.ext (Nat.zero_le _))⟩
    · intro h
      have h : G.fz L'.b := h
      rcases hb with hb | hb
      · exact (s.own_heap hb).2 h
      · have := s.fzb _ h; omega
  · rw [tget_set_same _ hlt] at h; cases h
  · rw [tget_set_same _ hlt] at h; cases h

/-- The next generation of a row of no elements, in no block. -/
theorem next_none {G : Gh} {T : Tab} {w : World} (s : Sim G T w) {t g : Nat} {es : List AV} (ht : tget T t = .arr g es) :
    Upd G T w G (T.set t (.arr (g + 1) [])) w t ∧ Sim G (T.set t (.arr (g + 1) [])) w := by
  have hlt : t < T.length := tget_lt (by rw [ht]; simp)
  have hnone := (s.arr t g es ht).1
  have u : Upd G T w G (T.set t (.arr (g + 1) [])) w t := {
    tab := fun t' h => tget_set_ne T _ h
    len := by simp
    loc := fun _ _ _ => rfl
    loct := fun _ _ h => h
    box := fun _ _ => rfl
    boxt := fun _ h => h
    mp := fun _ _ => rfl
    mpt := fun _ h => h
    fz := rfl
    size := Nat.le_refl _
    keep := fun _ _ _ => rfl
    own' := fun b' h => by
      unfold own at h
      rw [tget_set_same _ hlt] at h
      obtain ⟨L, h, _⟩ := h
      rw [hnone (g + 1) (by omega)] at h
      cases h
    os := rfl
    tape := rfl
    output := rfl }
  refine ⟨u, u.sim s (fun g' es2 h => ?_) (fun cs' h => ?_) (fun kvs h => ?_) (by simpa using hlt)⟩
  · rw [tget_set_same _ hlt] at h
    cases h
    exact ⟨fun g' hg => hnone g' (by omega), .inl ⟨rfl, hnone (g + 1) (by omega)⟩⟩
  · rw [tget_set_same _ hlt] at h; cases h
  · rw [tget_set_same _ hlt] at h; cases h

/-- A map is written. -/
theorem set_map {G : Gh} {T : Tab} {w w' : World} (s : Sim G T w) {t b : Nat} {kvs kvs' : List (AV × AV)} {es es' : Array MapEntry} {clk clk' : Nat} (ht : tget T t = .map kvs) (A : MapAt G w t kvs b es clk)
    (hheap : w'.heap[b]? = some (.map es' clk')) (hrest : ∀ b', b' ≠ b → w'.heap[b']? = w.heap[b']?) (hsz : w'.heap.size = w.heap.size)
    (hlen : es'.size = kvs'.length) (hent : ∀ (j : Nat) (x : AV × AV) (e : MapEntry), kvs'[j]? = some x → es'[j]? = some e → EntR G w x e)
    (os : w'.os = w.os) (tape : w'.tape = w.tape) (output : w'.output = w.output) :
    Upd G T w G (T.set t (.map kvs')) w' t ∧ Sim G (T.set t (.map kvs')) w' := by
  have hlt : t < T.length := tget_lt (by rw [ht]; simp)
  have hown : own G T t b := by unfold own; rw [ht]; exact A.loc
  have u : Upd G T w G (T.set t (.map kvs')) w' t := {
    tab := fun t' h => tget_set_ne T _ h
    len := by simp
    loc := fun _ _ _ => rfl
    loct := fun _ _ h => h
    box := fun _ _ => rfl
    boxt := fun _ h => h
    mp := fun _ _ => rfl
    mpt := fun _ h => h
    fz := rfl
    size := by rw [hsz]; exact Nat.le_refl _
    keep := fun b' _ hn => hrest b' fun e => hn (e ▸ hown)
    own' := fun b' h => by
      unfold own at h
      rw [tget_set_same _ hlt] at h
      refine .inl ?_
      unfold own
      rw [ht]
      exact h
    os := os
    tape := tape
    output := output }
  refine ⟨u, u.sim s (fun g es h => ?_) (fun cs' h => ?_) (fun kvs2 h => ?_) (by simpa using hlt)⟩
  · rw [tget_set_same _ hlt] at h; cases h
  · rw [tget_set_same _ hlt] at h; cases h
  · rw [tget_set_same _ hlt] at h
    cases h
    exact ⟨b, es', clk', A.loc, hheap, hlen, fun j x e hx he => ⟨(hent j x e hx he).key.ext s (u.ext (Nat.zero_le _)), (hent j x e hx he).val.ext s (u.ext (Nat.zero_le _))⟩, A.nfz⟩

/-- A row is frozen; its token dies. -/
theorem kill {G : Gh} {T : Tab} {w : World} (s : Sim G T w) {t lo : Nat} (hlo : lo ≤ t) (hlt : t < T.length) :
    ∃ G', Ext lo G T w G' (T.set t .dead) w ∧ Sim G' (T.set t .dead) w ∧ (∀ b, own G T t b → G'.fz b) ∧ (∀ b, G.fz b → G'.fz b) ∧ (∀ t g, G'.loc t g = G.loc t g) := by
  let G' : Gh := { G with fz := fun b => G.fz b ∨ own G T t b }
  have hne : ∀ t', t' ≠ t → ∀ b, own G' (T.set t .dead) t' b ↔ own G T t' b := by
    intro t' h b
    unfold own
    rw [tget_set_ne T _ h]
  have hd : ∀ b, ¬ own G' (T.set t .dead) t b := by
    intro b h
    unfold own at h
    rw [tget_set_same _ hlt] at h
    exact h
  have X : ∀ lo, lo ≤ t → Ext lo G T w G' (T.set t .dead) w := fun lo hlo => {
    loc := fun _ _ _ h => h
    box := fun _ _ h => h
    mp := fun _ _ h => h
    fz := fun b h => .inl h
    lowl := fun _ _ _ => rfl
    lowT := fun t' h => tget_set_ne T _ (by omega)
    len := by simp
    size := Nat.le_refl _
    keep := fun _ _ _ => rfl
    own' := fun t' b h _ => by
      by_cases e : t' = t
      · subst e; exact (hd b h).elim
      · exact (hne t' e b).1 h
    os := rfl
    tape := rfl
    output := rfl
    fz' := fun b h _ => h.imp id fun h => ⟨t, hlo, h⟩
    lowb := fun _ _ => rfl
    lowm := fun _ _ => rfl }
  have nf : ∀ t' b, t' ≠ t → own G T t' b → ¬ G'.fz b := fun t' b e h h' => by
    rcases h' with h' | h'
    · exact (s.own_heap h).2 h'
    · exact e (s.inj _ _ _ h h')
  refine ⟨G', X lo hlo, ?_, fun b h => .inr h, fun b h => .inl h, fun _ _ => rfl⟩
  constructor
  · intro t' g es h
    by_cases e : t' = t
    · subst e; rw [tget_set_same _ hlt] at h; cases h
    · rw [tget_set_ne T _ e] at h
      obtain ⟨h1, h2⟩ := s.arr t' g es h
      refine ⟨h1, ?_⟩
      rcases h2 with h2 | ⟨L, c, ety, A⟩
      · exact .inl h2
      · exact .inr ⟨L, c, ety, A.loc, A.heap, A.len, A.size, A.elem, fun j x hx => by obtain ⟨v, hv, r⟩ := A.cell j x hx; exact ⟨v, hv, r.ext s (X 0 (Nat.zero_le _))⟩, nf t' _ e (by unfold own; rw [h]; exact ⟨L, A.loc, rfl⟩)⟩
  · intro t' cs h
    by_cases e : t' = t
    · subst e; rw [tget_set_same _ hlt] at h; cases h
    · rw [tget_set_ne T _ e] at h
      obtain ⟨b, c, ety, A⟩ := s.box t' cs h
      exact ⟨b, c, ety, A.loc, A.heap, A.size, A.one, fun j x hx => by obtain ⟨v, hv, r⟩ := A.cell j x hx; exact ⟨v, hv, r.ext s (X 0 (Nat.zero_le _))⟩, nf t' _ e (by unfold own; rw [h]; exact A.loc)⟩
  · intro t' kvs h
    by_cases e : t' = t
    · subst e; rw [tget_set_same _ hlt] at h; cases h
    · rw [tget_set_ne T _ e] at h
      obtain ⟨b, es, clk, A⟩ := s.map t' kvs h
      exact ⟨b, es, clk, A.loc, A.heap, A.size, fun j x y hx hy => ⟨(A.ent j x y hx hy).key.ext s (X 0 (Nat.zero_le _)), (A.ent j x y hx hy).val.ext s (X 0 (Nat.zero_le _))⟩, nf t' _ e (by unfold own; rw [h]; exact A.loc)⟩
  · intro t1 t2 b h1 h2
    by_cases e1 : t1 = t
    · subst e1; exact (hd b h1).elim
    · by_cases e2 : t2 = t
      · subst e2; exact (hd b h2).elim
      · exact s.inj _ _ _ ((hne t1 e1 b).1 h1) ((hne t2 e2 b).1 h2)
  · intro t' h
    exact s.dom t' (by simpa using h)
  · intro b hb
    rcases hb with hb | hb
    · exact s.fzb b hb
    · exact (s.own_heap hb).1

/-- Another world of the same memory. -/
theorem same_heap {G : Gh} {T : Tab} {w w' : World} (s : Sim G T w) (lo : Nat) (h : w'.heap = w.heap) (os : w'.os = w.os) (tape : w'.tape = w.tape) (output : w'.output = w.output) : Ext lo G T w G T w' ∧ Sim G T w' := by
  have X : Ext lo G T w G T w' := ⟨fun _ _ _ h => h, fun _ _ h => h, fun _ _ h => h, fun _ h => h, fun _ _ _ => rfl, fun _ _ => rfl, Nat.le_refl _, by rw [h]; exact Nat.le_refl _, fun _ _ _ => by rw [h], fun _ _ h _ => h, os, tape, output, fun _ h _ => .inl h, fun _ _ => rfl, fun _ _ => rfl⟩
  refine ⟨X, ?_⟩
  constructor
  · intro t g es ht
    obtain ⟨h1, h2⟩ := s.arr t g es ht
    refine ⟨h1, ?_⟩
    rcases h2 with h2 | ⟨L, c, ety, A⟩
    · exact .inl h2
    · exact .inr ⟨L, c, ety, A.loc, by rw [h]; exact A.heap, A.len, A.size, A.elem, fun j x hx => by obtain ⟨v, hv, r⟩ := A.cell j x hx; exact ⟨v, hv, r.ext s X⟩, A.nfz⟩
  · intro t cs ht
    obtain ⟨b, c, ety, A⟩ := s.box t cs ht
    exact ⟨b, c, ety, A.loc, by rw [h]; exact A.heap, A.size, A.one, fun j x hx => by obtain ⟨v, hv, r⟩ := A.cell j x hx; exact ⟨v, hv, r.ext s X⟩, A.nfz⟩
  · intro t kvs ht
    obtain ⟨b, es, clk, A⟩ := s.map t kvs ht
    exact ⟨b, es, clk, A.loc, by rw [h]; exact A.heap, A.size, fun j x y hx hy => ⟨(A.ent j x y hx hy).key.ext s X, (A.ent j x y hx hy).val.ext s X⟩, A.nfz⟩
  · exact s.inj
  · exact s.dom
  · intro b hb; rw [h]; exact s.fzb b hb
end Go.Proofs.Ytlilfiekkaolkaa.Am
