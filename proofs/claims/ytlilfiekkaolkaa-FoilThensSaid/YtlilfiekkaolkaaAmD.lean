/- Reading: what the abstract machine reads is what the model reads. -/
import Derived.Test.YtlilfiekkaolkaaAmC
import Derived.Calls
set_option linter.unusedVariables false
set_option linter.unusedSimpArgs false
namespace Go.Proofs.Ytlilfiekkaolkaa.Am
open Go

/-! ### Elements and cells -/
theorem one_cells {v : AV} (h : v.one = true) : v.cells = [v] := by cases v <;> first | rfl | simp [AV.one] at h
theorem elem_len {n : Nat} {e : AV} (h : elemOk n e = true) : e.cells.length = n := by
  unfold elemOk at h
  split at h
  · rename_i hn; rw [one_cells h, hn]; rfl
  · split at h
    · simp at h; exact h.1
    · cases h
theorem elem_one {n : Nat} {e : AV} (h : elemOk n e = true) : ∀ x ∈ e.cells, AV.one x = true := by
  unfold elemOk at h
  split at h
  · rw [one_cells h]; intro x hx; rw [List.mem_singleton.1 hx]; exact h
  · split at h
    · simp at h; exact h.2
    · cases h
theorem flat_cons (e : AV) (es : List AV) : flat (e :: es) = e.cells ++ flat es := by simp [flat]
theorem flat_nil : flat [] = [] := rfl
theorem flat_append (es es' : List AV) : flat (es ++ es') = flat es ++ flat es' := by simp [flat]
theorem flat_len {n : Nat} : ∀ {es : List AV}, (∀ e ∈ es, elemOk n e = true) → (flat es).length = es.length * n
  | [], _ => by simp [flat]
  | e :: es, h => by
    rw [flat_cons, List.length_append, elem_len (h e List.mem_cons_self), flat_len (fun x hx => h x (List.mem_cons_of_mem _ hx))]
    rw [List.length_cons, Nat.succ_mul, Nat.add_comm]
theorem flat_drop {n : Nat} : ∀ {es : List AV} (k : Nat), (∀ e ∈ es, elemOk n e = true) → flat (es.drop k) = (flat es).drop (k * n)
  | es, 0, _ => by simp
  | [], k + 1, _ => by simp [flat]
  | e :: es, k + 1, h => by
    rw [List.drop_succ_cons, flat_drop k (fun x hx => h x (List.mem_cons_of_mem _ hx)), flat_cons]
    rw [Nat.succ_mul, Nat.add_comm, ← List.drop_drop]
    congr 1
    rw [← elem_len (h e List.mem_cons_self), List.drop_left]
theorem flat_take {n : Nat} : ∀ {es : List AV} (k : Nat), (∀ e ∈ es, elemOk n e = true) → flat (es.take k) = (flat es).take (k * n)
  | es, 0, _ => by simp [flat]
  | [], k + 1, _ => by simp [flat]
  | e :: es, k + 1, h => by
    rw [List.take_succ_cons, flat_cons, flat_take k (fun x hx => h x (List.mem_cons_of_mem _ hx)), flat_cons]
    have hl := elem_len (h e List.mem_cons_self)
    rw [Nat.succ_mul, Nat.add_comm, List.take_append, hl, show n + k * n - n = k * n by omega, List.take_of_length_le (show e.cells.length ≤ n + k * n by omega)]
theorem flat_at {n : Nat} {es : List AV} (h : ∀ e ∈ es, elemOk n e = true) {i : Nat} {e : AV} (hi : es[i]? = some e) (k : Nat) (hk : k < n) : (flat es)[i * n + k]? = e.cells[k]? := by
  have hd : flat (es.drop i) = (flat es).drop (i * n) := flat_drop i h
  have hil : i < es.length := (List.getElem?_eq_some_iff.1 hi).1
  have h2 : es.drop i = e :: es.drop (i + 1) := by
    rw [List.drop_eq_getElem_cons hil]
    congr 1
    exact (List.getElem?_eq_some_iff.1 hi).2
  rw [h2, flat_cons] at hd
  have h3 := congrArg (fun l => l[k]?) hd
  simp only [List.getElem?_drop] at h3
  rw [← h3, List.getElem?_append_left (by rw [elem_len (h e (List.mem_of_getElem? hi))]; exact hk)]

/-- The element in which a cell lies. -/
theorem elem_one_flat {n : Nat} : ∀ {es : List AV}, (∀ e ∈ es, elemOk n e = true) → ∀ x ∈ flat es, AV.one x = true
  | [], _ => by simp [flat]
  | e :: es, h => by
    intro x hx
    rw [flat_cons] at hx
    rcases List.mem_append.1 hx with hx | hx
    · exact elem_one (h e List.mem_cons_self) x hx
    · exact elem_one_flat (fun y hy => h y (List.mem_cons_of_mem _ hy)) x hx

/-- What was read of a slice. -/
structure Read (G : Gh) (w : World) (es : List AV) (n b o : Nat) : Prop where
  elem : ∀ e ∈ es, elemOk n e = true
  cell : ∀ (j : Nat) (x : AV), (flat es)[j]? = some x → ∃ v, w.cell? ⟨b, o + j, none⟩ = some v ∧ RV G w x v

theorem flat_ones : ∀ {cs : List AV}, (∀ x ∈ cs, AV.one x = true) → flat cs = cs
  | [], _ => rfl
  | c :: cs, h => by rw [flat_cons, one_cells (h c List.mem_cons_self), flat_ones (fun x hx => h x (List.mem_cons_of_mem _ hx))]; rfl

theorem elemOk_one {e : AV} (h : e.one = true) : elemOk 1 e = true := by simp [elemOk, h]

/-- A slice that can be read: nil, without elements, or in a block. -/
theorem rd_sound {G : Gh} {T : Tab} {w : World} (s : Sim G T w) {v : AV} {es : List AV} {c : Value} (hr : rd T v = some es) (r : RV G w v c) :
    ∃ (a : Option Addr) (cap n : Nat), c = .slice a es.length cap ∧ es.length ≤ cap ∧ esz v = some n ∧ alen v = some es.length ∧ (∀ e ∈ es, elemOk n e = true) ∧
      (es = [] ∨ ∃ b o, a = some ⟨b, o, none⟩ ∧ Read G w es n b o) ∧ (a = none → cap = 0) := by
  cases r with
  | fznil nl n h => simp only [rd, Option.some.injEq] at hr; subst hr; exact ⟨none, 0, n, rfl, Nat.le_refl _, rfl, rfl, by simp, .inl rfl, fun _ => rfl⟩
  | fz0 nl n a cap h => simp only [rd, Option.some.injEq] at hr; subst hr; exact ⟨some a, cap, n, rfl, Nat.zero_le _, rfl, rfl, by simp, .inl rfl, fun h => by cases h⟩
  | fz nl n es b o cap cs h hb hl he hc hrv =>
    simp only [rd, Option.some.injEq] at hr; subst hr
    exact ⟨some ⟨b, o, none⟩, cap, n, rfl, hl, rfl, rfl, he, .inr ⟨b, o, rfl, he, fun j x hx => ⟨cs j, hc j x hx, hrv j x hx⟩⟩, fun h => by cases h⟩
  | slnil n t g off =>
    simp only [rd] at hr
    split at hr
    · split at hr
      · simp only [List.take_zero, Option.some.injEq] at hr; subst hr
        exact ⟨none, 0, n, rfl, Nat.le_refl _, rfl, rfl, by simp, .inl rfl, fun _ => rfl⟩
      · cases hr
    · cases hr
  | slz mb n t g off a =>
    simp only [rd] at hr
    split at hr
    · split at hr
      · simp only [List.take_zero, Option.some.injEq] at hr; subst hr
        exact ⟨some a, 0, n, rfl, Nat.le_refl _, rfl, rfl, by simp, .inl rfl, fun h => by cases h⟩
      · cases hr
    · cases hr
  | sl mb n t g off len b base cap capT hl h1 h2 =>
    simp only [rd] at hr
    split at hr
    · rename_i g' es' ht
      split at hr
      · rename_i hg
        obtain ⟨rfl, hle⟩ := hg
        simp only [Option.some.injEq] at hr
        have hlen : es.length = len := by rw [← hr]; simp; omega
        obtain ⟨_, ⟨h0, hn⟩ | ⟨L, c, ety, A⟩⟩ := s.arr t g es' ht
        · rw [hn] at hl; cases hl
        · have hL : L = ⟨b, base, n, capT⟩ := by rw [A.loc] at hl; exact Option.some.inj hl
          subst hL
          have hel : ∀ e ∈ es, elemOk n e = true := by
            intro e he; rw [← hr] at he; exact A.elem e (List.mem_of_mem_drop (List.mem_of_mem_take he))
          refine ⟨some ⟨b, base + off * n, none⟩, cap, n, by rw [hlen], by omega, rfl, by rw [hlen]; rfl, hel, .inr ⟨b, _, rfl, hel, fun j x hx => ?_⟩, fun h => by cases h⟩
          rw [← hr, flat_take len (fun e he => A.elem e (List.mem_of_mem_drop he)), flat_drop off A.elem] at hx
          have hx2 : (flat es')[off * n + j]? = some x := by
            rw [List.getElem?_take] at hx
            split at hx
            · rwa [List.getElem?_drop] at hx
            · cases hx
          obtain ⟨v, hv, hrv⟩ := A.cell _ _ hx2
          exact ⟨v, by rw [cell_cells A.heap]; simpa [Nat.add_assoc] using hv, hrv⟩
      · cases hr
    · cases hr
  | asl t off len b cap hb h1 =>
    simp only [rd] at hr
    split at hr
    · rename_i cs ht
      split at hr
      · rename_i hle
        simp only [Option.some.injEq] at hr
        have hlen : es.length = len := by rw [← hr]; simp; omega
        obtain ⟨b', c, ety, A⟩ := s.box t cs ht
        have : b = b' := by rw [A.loc] at hb; exact (Option.some.inj hb).symm
        subst this
        have hone : ∀ x ∈ es, AV.one x = true := fun x hx => A.one x (by rw [← hr] at hx; exact List.mem_of_mem_drop (List.mem_of_mem_take hx))
        have hel : ∀ e ∈ es, elemOk 1 e = true := fun e he => elemOk_one (hone e he)
        refine ⟨some ⟨b, off, none⟩, cap, 1, by rw [hlen], by omega, rfl, by rw [hlen]; rfl, hel, .inr ⟨b, off, rfl, hel, fun j x hx => ?_⟩, fun h => by cases h⟩
        rw [flat_ones hone, ← hr, List.getElem?_take] at hx
        split at hx
        · rw [List.getElem?_drop] at hx
          obtain ⟨v, hv, hrv⟩ := A.cell _ _ hx
          exact ⟨v, by rw [cell_cells A.heap]; exact hv, hrv⟩
        · cases hx
      · cases hr
    · cases hr
  | _ => simp [rd] at hr

theorem pcells_sound {G : Gh} {T : Tab} {w : World} (s : Sim G T w) {p : AV} {cs : List AV} {c : Value} (hp : pcells T p = some cs) (r : RV G w p c) :
    ∃ b o, c = .pointer (some ⟨b, o, none⟩) ∧ (∀ x ∈ cs, AV.one x = true) ∧ ∀ (j : Nat) (x : AV), cs[j]? = some x → ∃ v, w.cell? ⟨b, o + j, none⟩ = some v ∧ RV G w x v := by
  cases r with
  | ptr t off b hb =>
    simp only [pcells] at hp
    split at hp
    · rename_i bs ht
      simp only [Option.some.injEq] at hp; subst hp
      obtain ⟨b', c, ety, A⟩ := s.box t bs ht
      have : b = b' := by rw [A.loc] at hb; exact (Option.some.inj hb).symm
      subst this
      refine ⟨b, off, rfl, fun x hx => A.one x (List.mem_of_mem_drop hx), fun j x hx => ?_⟩
      rw [List.getElem?_drop] at hx
      obtain ⟨v, hv, hrv⟩ := A.cell _ _ hx
      exact ⟨v, by rw [cell_cells A.heap]; exact hv, hrv⟩
    · cases hp
  | ep sv i off b o len cap n h hn hi =>
    simp only [pcells] at hp
    split at hp
    · rename_i es hes
      obtain ⟨a, cap', n', hc, hle, hn', _, hel, hx, _⟩ := rd_sound s hes h
      rw [hn] at hn'
      obtain rfl := Option.some.inj hn'
      simp only [Value.slice.injEq] at hc
      obtain ⟨rfl, rfl, rfl⟩ := hc
      obtain ⟨e, he, rfl⟩ : ∃ e, es[i]? = some e ∧ e.cells.drop off = cs := by
        cases hei : es[i]? with
        | none => rw [hei] at hp; cases hp
        | some e => rw [hei] at hp; exact ⟨e, rfl, Option.some.inj hp⟩
      have hoke := hel e (List.mem_of_getElem? he)
      rcases hx with rfl | ⟨b', o', hb', R⟩
      · simp at he
      · simp only [Option.some.injEq, Addr.mk.injEq] at hb'
        obtain ⟨rfl, rfl, _⟩ := hb'
        refine ⟨b, _, rfl, fun x hx => elem_one hoke x (List.mem_of_mem_drop hx), fun j x hx => ?_⟩
        rw [List.getElem?_drop] at hx
        have hlt : off + j < n := by
          have := (List.getElem?_eq_some_iff.1 hx).1
          rw [elem_len hoke] at this
          exact this
        have := flat_at hel he (off + j) hlt
        rw [hx] at this
        obtain ⟨v, hv, hrv⟩ := R.cell _ _ this
        exact ⟨v, by rw [← hv]; congr 2; omega, hrv⟩
    · cases hp
  | _ => simp [pcells] at hp
end Go.Proofs.Ytlilfiekkaolkaa.Am
