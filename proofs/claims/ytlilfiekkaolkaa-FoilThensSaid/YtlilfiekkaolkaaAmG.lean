/- The check that a code of the abstract machine is that of the program; operations that make and change no memory. -/
import Derived.Test.YtlilfiekkaolkaaAmF
set_option linter.unusedVariables false
set_option linter.unusedSimpArgs false
namespace Go.Proofs.Ytlilfiekkaolkaa.Am
open Go

/-! ### The check -/
def aggP (P : Program) (t : TypeId) : Option Bool := match P.underlying t with
  | some (.struct _) => some true
  | some (.array _ _) => some true
  | some _ => some false
  | none => none
def sizeP (P : Program) (t : TypeId) : Option Nat := (P.info? t).map (·.size)
def bytesP (P : Program) (t : TypeId) : Option Nat := (P.info? t).map (·.bytes)
def zeroP (P : Program) (t : TypeId) : Option Value := (P.info? t).bind (·.zero)
def elemP (P : Program) (t : TypeId) : Option TypeId := match P.underlying t with
  | some (.slice e) => some e
  | _ => none
def arrP (P : Program) (t : TypeId) : Option (Nat × TypeId) := match P.underlying t with
  | some (.array n e) => some (n, e)
  | _ => none
def fieldP (P : Program) (t : TypeId) (i : Nat) : Option (Nat × TypeId) := match P.underlying t with
  | some (.struct fs) => (fs[i]?).map fun f => (f.offset, f.type)
  | _ => none
def intP (P : Program) (t : TypeId) : Option IntKind := match P.underlying t with
  | some (.int k) => some k
  | _ => none

def chkConst : AV → Value → Bool
  | .unk, _ => true
  | .int k n, .int k' n' => decide (k = k') && decide (n = n')
  | .bool b, .bool b' => b == b'
  | .fz .isnil _ [], .slice none 0 0 => true
  | .nilf, .nilFunc => true
  | _, _ => false

def chkCells : List AV → List Value → Bool
  | [], [] => true
  | v :: vs, c :: cs => chkConst v c && v.one && chkCells vs cs
  | _, _ => false

def chkOpd : Opd → Operand → Bool
  | .t n, .tmp m => n == m
  | .c v, .const c => chkConst v c
  | .c (.clos f [] []), .func g => f % 1000 == g
  | _, _ => false
def chkOpds : List Opd → List Operand → Bool
  | [], [] => true
  | x :: xs, y :: ys => chkOpd x y && chkOpds xs ys
  | _, _ => false
def chkOpt : Option Opd → Option Operand → Bool
  | none, none => true
  | some x, some y => chkOpd x y
  | _, _ => false

def chkToks (z : List AV) : List (Nat × Nat) → Bool
  | [] => true
  | (off, _) :: r => (match z[off]? with | some (.fz .isnil _ []) => true | _ => false) && chkToks z r

def chkParts (place : Nat → Option (Nat × Nat)) : List (Nat × Nat × Opd) → List (Nat × Operand) → Bool
  | [], [] => true
  | (off, size, x) :: r, (i, y) :: r' => place i == some (off, size) && chkOpd x y && chkParts place r r'
  | _, _ => false

/-- The parts of a literal slice: all, in order. -/
def chkElems : Nat → List Opd → List (Nat × Operand) → Bool
  | _, [], [] => true
  | k, x :: r, (i, y) :: r' => i == k && chkOpd x y && chkElems (k + 1) r r'
  | _, _, _ => false

def notIface (P : Program) (t : TypeId) : Bool := match P.underlying t with
  | some (.interface _) => false
  | some _ => true
  | none => false

/-- A method of a type, called through an interface. -/
def chkMeth (P : Program) (name : String) (ty f : Nat) : Option (Bool × Nat) → Bool
  | none => match P.info? ty with
    | some i => match i.methods.find? (·.name == name) with
      | some m => m.path.isEmpty && (m.func == some (f % 1000, true)) && (match P.underlying ty with | some (.pointer _) => true | _ => false)
      | none => false
    | none => false
  | some (agg, n) => match P.info? ty with
    | some i => match i.methods.find? (·.name == name) with
      | some m => m.path.isEmpty && (m.func == some (f % 1000, false)) && (match P.underlying ty with | some (.pointer e) => aggP P e == some agg && sizeP P e == some n | _ => false)
      | none => false
    | none => false

def chkSlice (P : Program) (t : TypeId) (n : Nat) : Bool := match elemP P t with
  | some e => sizeP P e == some n
  | none => false

def chkMake (P : Program) (t : TypeId) (n : Nat) (z : AV) : Bool := match elemP P t with
  | some e => sizeP P e == some n && elemOk n z && (match bytesP P e with | some b => decide (b * 1073741824 ≤ 2 ^ 48) | none => false) &&
      (match zeroP P e with | some zv => chkCells z.cells zv.cells.toList | none => false)
  | none => false

/-- Keys of maps: whole numbers, or arrays of these. -/
def chkKey (P : Program) (kn : Option Nat) (k : TypeId) : Bool := match P.underlying k with
  | some (.int .i64) => kn == none
  | some (.array n e) => (match P.underlying e with | some (.int .i64) => true | _ => false) && sizeP P e == some 1 && kn == some n
  | _ => false
def mapP (P : Program) (t : TypeId) : Option (TypeId × TypeId) := match P.underlying t with
  | some (.map k e) => some (k, e)
  | _ => none

def chkZero (P : Program) (t : TypeId) (z : AV) : Bool := match zeroP P t with
  | some zv => match z, zv with
    | .agg cs, .agg cvs => chkCells cs cvs.toList
    | .int k n, zv => chkConst (.int k n) zv
    | .bool b, zv => chkConst (.bool b) zv
    | _, _ => false
  | none => false

def chkGrow (P : Program) (t : TypeId) (n : Nat) : Bool := match elemP P t with
  | some e => (match bytesP P e with | some b => decide (b * 8589934592 ≤ 2 ^ 48) && decide (0 < b) | none => false) && (match zeroP P e with | some zv => zv.cells.size == n | none => false)
  | none => false

/-- Fields that are whole numbers, one behind the other. -/
def chkInts (P : Program) (n : Nat) : Nat → List Field → Bool
  | i, [] => i == n
  | i, f :: fs => (f.name != "_") && (match P.underlying f.type with | some (.int .i64) => true | _ => false) && (f.offset == i) && chkInts P n (i + 1) fs

def chkOp (P : Program) (m : MOp) (o : Oper) : Bool :=
  match m with
  | .mov x => match o.op with
    | .move y => chkOpd x y
    | .assign y => chkOpd x y
    | _ => false
  | .tnil _ => match o.op with
    | .move (.const (.slice none 0 0)) => true
    | .assign (.const (.slice none 0 0)) => true
    | _ => false
  | .pick c a b => match o.op with
    | .pick c' a' b' => chkOpd c c' && chkOpd a a' && chkOpd b b'
    | _ => false
  | .box x => match o.op with
    | .box _ y => chkOpd x y
    | _ => false
  | .alloc z toks => match o.op with
    | .alloc t => (match zeroP P t with | some zv => chkCells z zv.cells.toList | none => false) && chkToks z toks
    | _ => false
  | .build z toks parts => match o.op with
    | .build t ps => (match zeroP P t with | some zv => chkCells z zv.cells.toList | none => false) && chkToks z toks &&
        (match P.underlying t with
         | some (.struct fs) => chkParts (fun i => match fieldP P t i with | some (off, ft) => (sizeP P ft).map fun s => (off, s) | none => none) parts ps.toList && fs.all fun f => (sizeP P f.type).isSome
         | some (.array _ e) => (match sizeP P e with | some s => chkParts (fun i => some (i * s, s)) parts ps.toList | none => false)
         | _ => false)
    | _ => false
  | .bsl _ n es => match o.op with
    | .buildSlice t len ps => chkSlice P t n && len == es.length && chkElems 0 es ps.toList && decide (len * n ≤ 2 ^ 24) && decide (0 < n) &&
        (match elemP P t with | some e => (match zeroP P e with | some zv => zv.cells.size == n | none => false) | none => false)
    | _ => false
  | .bslT n es => match o.op with
    | .buildSlice t len ps => chkSlice P t n && len == es.length && chkElems 0 es ps.toList && decide (len * n ≤ 2 ^ 24) && decide (0 < n) &&
        (match elemP P t with | some e => (match zeroP P e with | some zv => zv.cells.size == n | none => false) | none => false)
    | _ => false
  | .ld agg n a => match o.op with
    | .load t b => aggP P t == some agg && sizeP P t == some n && chkOpd a b
    | _ => false
  | .st n a x => match o.op with
    | .store t b y => sizeP P t == some n && chkOpd a b && chkOpd x y
    | _ => false
  | .nilck x => match o.op with
    | .nilCheck y => chkOpd x y
    | _ => false
  | .bin op x y => match o.op with
    | .binOp op' _ x' y' _ => decide (op = op') && chkOpd x x' && chkOpd y y'
    | _ => false
  | .beq neg x y => match o.op with
    | .binOp op' t x' y' _ => decide (op' = if neg then .neq else .eql) && chkOpd x x' && chkOpd y y' && (match P.underlying t with | some .bool => true | _ => false)
    | _ => false
  | .isn x => match o.op with
    | .binOp .eql t x' (.const (.slice none 0 0)) _ => chkOpd x x' && (elemP P t).isSome
    | _ => false
  | .not x => match o.op with
    | .unOp .not _ y => chkOpd x y
    | _ => false
  | .cvt k x => match o.op with
    | .convert src dst y => intP P dst == some k && (intP P src).isSome && chkOpd x y
    | _ => false
  | .mkif ty x => match o.op with
    | .makeInterface t y => ty == t && notIface P t && chkOpd x y
    | _ => false
  | .mkfn f fs cs => match o.op with
    | .makeFunc (.func g) first captured => f % 1000 == g && chkOpds fs first.toList && chkOpds cs captured.toList
    | _ => false
  | .mkmap => match o.op with
    | .makeMap _ none => true
    | _ => false
  | .mksl n z l => match o.op with
    | .makeSlice t a b => chkMake P t n z && chkOpd l a && chkOpd l b
    | _ => false
  | .mkrows n' l => match o.op with
    | .makeSlice t a b => chkMake P t 1 (.fz .isnil n' []) && chkOpd l a && chkOpd l b
    | _ => false
  | .slc n x l h => match o.op with
    | .slice t y lo hi none => chkSlice P t n && chkOpd x y && chkOpt l lo && chkOpt h hi
    | _ => false
  | .slcA n x => match o.op with
    | .slice t y none none none => (match arrP P t with | some (m, e) => m == n && sizeP P e == some 1 | none => false) && chkOpd x y
    | _ => false
  | .fld off x => match o.op with
    | .fieldAddr t y i => (match fieldP P t i with | some (o', ft) => o' == off && (match sizeP P ft with | some s => decide (s ≠ 0) | none => false) | none => false) && chkOpd x y
    | _ => false
  | .ixs n x i => match o.op with
    | .indexAddr t y j => chkSlice P t n && chkOpd x y && chkOpd i j
    | _ => false
  | .ixa len n x i => match o.op with
    | .indexAddr t y j => (match arrP P t with | some (m, e) => m == len && sizeP P e == some n | none => false) && chkOpd x y && chkOpd i j
    | _ => false
  | .ixv len n x i => match o.op with
    | .index t y j => (match arrP P t with | some (m, e) => m == len && sizeP P e == some n && aggP P e == some false | none => false) && chkOpd x y && chkOpd i j
    | _ => false
  | .lkp kn z m k => match o.op with
    | .lookup t y j false => (match mapP P t with | some (kt, et) => chkKey P kn kt && chkZero P et z | none => false) && chkOpd m y && chkOpd k j
    | _ => false
  | .mup kn m k v => match o.op with
    | .mapUpdate t y j x => (match mapP P t with | some (kt, _) => chkKey P kn kt | none => false) && chkOpd m y && chkOpd k j && chkOpd v x
    | _ => false
  | .ext x i => match o.op with
    | .extract y j => i == j && chkOpd x y
    | _ => false
  | .tas ty x => match o.op with
    | .typeAssert y _ t true => ty == t && notIface P t && chkOpd x y
    | _ => false
  | .call f args => match o.op with
    | .call { callee := .value (.func g), args := ys, .. } => f % 1000 == g && chkOpds args ys.toList
    | _ => false
  | .callv f args => match o.op with
    | .call { callee := .value y, args := ys, .. } => chkOpd f y && chkOpds args ys.toList
    | _ => false
  | .inv tbl x args => match o.op with
    | .call { callee := .invoke y name, args := ys, .. } => chkOpd x y && chkOpds args ys.toList && tbl.all fun r => chkMeth P name r.1 r.2.1 r.2.2
    | _ => false
  | .len x => match o.op with
    | .call { callee := .builtin .len, args := ys, argTypes := ts } => (match ys.toList, ts.toList with
      | [y], [t] => (elemP P t).isSome && chkOpd x y
      | _, _ => false)
    | _ => false
  | .app n s x => match o.op with
    | .call { callee := .builtin .append, args := ys, argTypes := ts } => (match ys.toList, ts.toList with
      | [y, u], [t, t'] => chkSlice P t n && (elemP P t').isSome && chkOpd s y && chkOpd x u && chkGrow P t n && decide (0 < n)
      | _, _ => false)
    | _ => false
  | .cpy n d s => match o.op with
    | .call { callee := .builtin .copy, args := ys, argTypes := ts } => (match ys.toList, ts.toList with
      | [y, u], [t, _] => chkSlice P t n && chkOpd d y && chkOpd s u
      | _, _ => false)
    | _ => false
  | .mx xs => match o.op with
    | .call { callee := .builtin .max, args := ys, .. } => chkOpds xs ys.toList
    | _ => false
  | .mn xs => match o.op with
    | .call { callee := .builtin .min, args := ys, .. } => chkOpds xs ys.toList
    | _ => false
  | .bad => true
  | .aeq neg n x y => match o.op with
    | .binOp op' t x' y' _ => decide (op' = if neg then .neq else .eql) && chkOpd x x' && chkOpd y y' &&
        (match P.underlying t with | some (.struct fs) => chkInts P n 0 fs.toList | _ => false) && !P.eqGuardType P.depth t && !P.stoodInHeld t
    | _ => false

/-! ### What is to be shown of an operation -/
/-- An operation goes on to whatever its result may be. -/
def OpOK (P : Program) (o : Oper) (a : Act) (w : World) (R : Value → World → Prop) : Prop :=
  ∀ (next : Act → World → Prop) (Q : Exit → Act → World → Prop), (∀ v w', R v w' → next (a.put o.dst v) w') → o.wp P a w next Q

theorem opOK_value {P : Program} {o : Oper} {a : Act} {w w' : World} {R : Value → World → Prop} {v : Value} (h : (execOp a.eval o).run P w = .ok (.value v) w') (hR : R v w') : OpOK P o a w R := by
  intro next Q hn
  unfold Oper.wp
  rw [h]
  exact hn _ _ hR
theorem opOK_skip {P : Program} {o : Oper} {a : Act} {w w' : World} {R : Value → World → Prop} (h : (execOp a.eval o).run P w = .ok .skip w') (hR : R undef w') : OpOK P o a w R := by
  intro next Q hn
  unfold Oper.wp
  rw [h]
  exact hn _ _ hR
theorem opOK_enter {P : Program} {o : Oper} {a : Act} {w w' : World} {R : Value → World → Prop} {f : FuncId} {args : Array Value} (h : (execOp a.eval o).run P w = .ok (.enter f args) w')
    (hR : Calls P f args w' fun e w'' => ∃ v, e = .returned v ∧ R v w'') : OpOK P o a w R := by
  intro next Q hn
  unfold Oper.wp
  rw [h]
  exact hR.mono fun e w'' ⟨v, he, hr⟩ => by subst he; exact hn _ _ hr
theorem OpOK.mono {P : Program} {o : Oper} {a : Act} {w : World} {R R' : Value → World → Prop} (h : OpOK P o a w R) (hr : ∀ v w', R v w' → R' v w') : OpOK P o a w R' :=
  fun next Q hn => h next Q fun v w' r => hn v w' (hr v w' r)

/-- The result of an operation. -/
def Res (lo : Nat) (G : Gh) (T : Tab) (w : World) (T' : Tab) (v : AV) : Value → World → Prop := fun cv w' => ∃ G', Ext lo G T w G' T' w' ∧ Sim G' T' w' ∧ RV G' w' v cv

theorem res_same {lo : Nat} {G : Gh} {T : Tab} {w : World} (s : Sim G T w) {v : AV} {cv : Value} (r : RV G w v cv) : Res lo G T w T v cv w := ⟨G, .refl _ _ _ _, s, r⟩

def EnvR (G : Gh) (w : World) (E : Env) (a : Act) : Prop := ∀ t, RV G w (get E t) (a.eval (.tmp t))

theorem const_sound {G : Gh} {w : World} {v : AV} {c : Value} (h : chkConst v c = true) : RV G w v c := by
  unfold chkConst at h
  split at h
  · exact .unk _
  · simp at h; obtain ⟨rfl, rfl⟩ := h; exact .int _ _
  · simp at h; subst h; exact .bool _
  · exact .fznil _ _ (by simp)
  · exact .nilf
  · cases h

theorem cells_sound {G : Gh} {w : World} : ∀ {vs : List AV} {cs : List Value}, chkCells vs cs = true → RVs G w vs cs ∧ ∀ x ∈ vs, AV.one x = true
  | [], [], _ => ⟨⟨rfl, fun j x h => by simp at h⟩, by simp⟩
  | v :: vs, c :: cs, h => by
    simp only [chkCells, Bool.and_eq_true] at h
    obtain ⟨⟨h1, h2⟩, h3⟩ := h
    obtain ⟨r, o⟩ := cells_sound (G := G) (w := w) h3
    refine ⟨⟨by simp [r.1], fun j x hx => ?_⟩, fun x hx => ?_⟩
    · cases j with
      | zero => simp at hx; subst hx; exact ⟨c, rfl, const_sound h1⟩
      | succ j => exact r.2 j x hx
    · rcases List.mem_cons.1 hx with rfl | hx
      · exact h2
      · exact o x hx
  | [], _ :: _, h => by cases h
  | _ :: _, [], h => by cases h

theorem val_sound {G : Gh} {w : World} {E : Env} {a : Act} (he : EnvR G w E a) {x : Opd} {y : Operand} (h : chkOpd x y = true) : RV G w (val E x) (a.eval y) := by
  unfold chkOpd at h
  split at h
  · simp at h; subst h; exact he _
  · exact const_sound h
  · simp at h; subst h
    exact .clos _ [] [] #[] #[] rfl rfl (fun i x c h => by simp at h) (fun i x c h => by simp at h)
  · cases h

theorem vals_sound {G : Gh} {w : World} {E : Env} {a : Act} (he : EnvR G w E a) : ∀ {xs : List Opd} {ys : List Operand}, chkOpds xs ys = true → RVs G w (xs.map (val E)) (ys.map a.eval)
  | [], [], _ => ⟨rfl, fun j x h => by simp at h⟩
  | x :: xs, y :: ys, h => by
    simp only [chkOpds, Bool.and_eq_true] at h
    obtain ⟨r1, r2⟩ := vals_sound he h.2
    refine ⟨by simpa using r1, fun j v hv => ?_⟩
    cases j with
    | zero => simp at hv; subst hv; exact ⟨_, rfl, val_sound he h.1⟩
    | succ j => exact r2 j v hv
  | [], _ :: _, h => by cases h
  | _ :: _, [], h => by cases h

theorem RVs.arr {G : Gh} {w : World} {vs : List AV} {cs : List Value} (h : RVs G w vs cs) : cs.toArray.size = vs.length ∧ ∀ (i : Nat) (x : AV) (c : Value), vs[i]? = some x → cs.toArray[i]? = some c → RV G w x c := by
  refine ⟨by simp [h.1], fun i x c hx hc => ?_⟩
  obtain ⟨c', hc', r⟩ := h.2 i x hx
  simp only [List.getElem?_toArray] at hc
  rw [hc'] at hc
  cases hc
  exact r

/-! ### Operations that look at no memory -/
section
variable {P : Program} {G : Gh} {T : Tab} {w : World} {E : Env} {a : Act} {o : Oper} {call : CallA} {lo : Nat}

theorem op_mov (s : Sim G T w) (he : EnvR G w E a) {x : Opd} (hc : chkOp P (.mov x) o = true) : OpOK P o a w (Res lo G T w T (val E x)) := by
  simp only [chkOp] at hc
  split at hc
  · rename_i y ho
    exact opOK_value (by simp [execOp, ho]) (res_same s (val_sound he hc))
  · rename_i y ho
    exact opOK_value (by simp [execOp, ho]) (res_same s (val_sound he hc))
  · cases hc

theorem op_pick (s : Sim G T w) (he : EnvR G w E a) {c x y : Opd} {b : Bool} (hc : chkOp P (.pick c x y) o = true) (hb : val E c = .bool b) : OpOK P o a w (Res lo G T w T (if b then val E x else val E y)) := by
  simp only [chkOp] at hc
  split at hc
  · rename_i c' x' y' ho
    simp only [Bool.and_eq_true] at hc
    have hv := val_sound he hc.1.1
    rw [hb] at hv
    have hv : a.eval c' = .bool b := by generalize a.eval c' = u at hv ⊢; cases hv; rfl
    refine opOK_value (v := if b then a.eval x' else a.eval y') (w' := w) ?_ (res_same s ?_)
    · simp [execOp, ho, hv, asBool]
    · cases b
      · exact val_sound he hc.2
      · exact val_sound he hc.1.2
  · cases hc

theorem op_nilck (s : Sim G T w) (he : EnvR G w E a) {x : Opd} {v : AV} {T' : Tab} (hc : chkOp P (.nilck x) o = true) (hs : stepOp call lo E T (.nilck x) = some (v, T')) : OpOK P o a w (Res lo G T w T' v) := by
  simp only [chkOp] at hc
  split at hc
  · rename_i y ho
    have hv := val_sound he hc
    simp only [stepOp] at hs
    split at hs
    · rename_i t off hx
      simp only [Option.some.injEq, Prod.mk.injEq] at hs
      obtain ⟨rfl, rfl⟩ := hs
      rw [hx] at hv
      refine opOK_value (v := a.eval y) (w' := w) ?_ (res_same s hv)
      generalize hu : a.eval y = u at hv
      cases hv
      simp [execOp, ho, hu]
    · rename_i t off hx
      simp only [Option.some.injEq, Prod.mk.injEq] at hs
      obtain ⟨rfl, rfl⟩ := hs
      rw [hx] at hv
      refine opOK_value (v := a.eval y) (w' := w) ?_ (res_same s hv)
      generalize hu : a.eval y = u at hv
      cases hv
      simp [execOp, ho, hu]
    · rename_i f fs cs hx
      simp only [Option.some.injEq, Prod.mk.injEq] at hs
      obtain ⟨rfl, rfl⟩ := hs
      rw [hx] at hv
      refine opOK_value (v := a.eval y) (w' := w) ?_ (res_same s hv)
      generalize hu : a.eval y = u at hv
      cases hv
      simp [execOp, ho, hu]
    · cases hs
  · cases hc

theorem op_not (s : Sim G T w) (he : EnvR G w E a) {x : Opd} {v : AV} {T' : Tab} (hc : chkOp P (.not x) o = true) (hs : stepOp call lo E T (.not x) = some (v, T')) : OpOK P o a w (Res lo G T w T' v) := by
  simp only [chkOp] at hc
  split at hc
  · rename_i t y ho
    have hv := val_sound he hc
    simp only [stepOp] at hs
    split at hs
    · rename_i b hx
      simp only [Option.some.injEq, Prod.mk.injEq] at hs
      obtain ⟨rfl, rfl⟩ := hs
      rw [hx] at hv
      refine opOK_value (v := .bool (!b)) (w' := w) ?_ (res_same s (.bool _))
      generalize hu : a.eval y = u at hv
      cases hv
      simp [execOp, ho, hu, Op.unary]
    · cases hs
  · cases hc

theorem run_underlying {P : Program} {t : TypeId} {d : TypeDesc} (w : World) (h : P.underlying t = some d) : (underlying t).run P w = .ok d w := by
  simp [underlying, h]
theorem run_typeInfo {P : Program} {t : TypeId} {i : TypeInfo} (w : World) (h : P.info? t = some i) : (typeInfo t).run P w = .ok i w := by
  simp [typeInfo, h]
theorem run_sizeOf {P : Program} {t : TypeId} {n : Nat} (w : World) (h : sizeP P t = some n) : (sizeOf t).run P w = .ok n w := by
  unfold sizeP at h
  cases hi : P.info? t with
  | none => rw [hi] at h; cases h
  | some i => rw [hi] at h; simp at h; simp [sizeOf, run_typeInfo w hi, h]
theorem run_zeroValue {P : Program} {t : TypeId} {z : Value} (w : World) (h : zeroP P t = some z) : (zeroValue t).run P w = .ok z w := by
  unfold zeroP at h
  cases hi : P.info? t with
  | none => rw [hi] at h; cases h
  | some i => rw [hi] at h; simp at h; simp [zeroValue, run_typeInfo w hi, h]
theorem run_isAgg {P : Program} {t : TypeId} {b : Bool} (w : World) (h : aggP P t = some b) : (isAgg t).run P w = .ok b w := by
  unfold aggP at h
  cases hu : P.underlying t with
  | none => rw [hu] at h; cases h
  | some d =>
    rw [hu] at h
    unfold isAgg
    rw [Sem.run_bind, run_underlying w hu]
    cases d <;> simp_all

theorem op_cvt (s : Sim G T w) (he : EnvR G w E a) {k : IntKind} {x : Opd} {v : AV} {T' : Tab} (hc : chkOp P (.cvt k x) o = true) (hs : stepOp call lo E T (.cvt k x) = some (v, T')) : OpOK P o a w (Res lo G T w T' v) := by
  simp only [chkOp] at hc
  split at hc
  · rename_i src dst y ho
    simp only [Bool.and_eq_true, beq_iff_eq] at hc
    obtain ⟨⟨h1, h2⟩, h3⟩ := hc
    have hv := val_sound he h3
    simp only [stepOp, Option.map_eq_some_iff, Prod.mk.injEq] at hs
    obtain ⟨u, hu, rfl, rfl⟩ := hs
    unfold wrapAll at hu
    split at hu
    · rename_i k' n hx
      cases hu
      rw [hx] at hv
      refine opOK_value (v := .int k (k.wrap n)) (w' := w) ?_ (res_same s (.int _ _))
      generalize hu : a.eval y = u at hv
      cases hv
      unfold intP at h1 h2
      cases hd : P.underlying dst with
      | none => rw [hd] at h1; cases h1
      | some dd =>
        rw [hd] at h1
        cases dd <;> simp at h1
        subst h1
        cases hsrc : P.underlying src with
        | none => rw [hsrc] at h2; cases h2
        | some ds =>
          rw [hsrc] at h2
          cases ds <;> simp at h2
          simp [execOp, ho, hu, convert, run_underlying w hd, run_underlying w hsrc, Conv.intToInt]
    · cases hu
  · cases hc

theorem op_mkif (s : Sim G T w) (he : EnvR G w E a) {ty : Nat} {x : Opd} (hc : chkOp P (.mkif ty x) o = true) : OpOK P o a w (Res lo G T w T (.iface ty (val E x))) := by
  simp only [chkOp] at hc
  split at hc
  · rename_i t y ho
    simp only [Bool.and_eq_true, beq_iff_eq] at hc
    obtain ⟨⟨rfl, h2⟩, h3⟩ := hc
    refine opOK_value (v := .iface ty (a.eval y)) (w' := w) ?_ (res_same s (.iface _ _ _ (val_sound he h3)))
    unfold notIface at h2
    cases hd : P.underlying ty with
    | none => rw [hd] at h2; cases h2
    | some dd =>
      rw [hd] at h2
      simp only [execOp, ho, Instr.makeInterface, Sem.run_bind, run_underlying w hd]
      cases dd <;> simp_all
  · cases hc

theorem op_mkfn (s : Sim G T w) (he : EnvR G w E a) {f : Nat} {fs cs : List Opd} (hc : chkOp P (.mkfn f fs cs) o = true) : OpOK P o a w (Res lo G T w T (.clos f (fs.map (val E)) (cs.map (val E)))) := by
  simp only [chkOp] at hc
  split at hc
  · rename_i g first captured ho
    simp only [Bool.and_eq_true, beq_iff_eq] at hc
    obtain ⟨⟨rfl, h2⟩, h3⟩ := hc
    obtain ⟨a1, a2⟩ := (vals_sound he h2).arr
    obtain ⟨b1, b2⟩ := (vals_sound he h3).arr
    have e1 : (first.toList.map a.eval).toArray = first.map a.eval := by rw [← Array.toList_map, Array.toArray_toList]
    have e2 : (captured.toList.map a.eval).toArray = captured.map a.eval := by rw [← Array.toList_map, Array.toArray_toList]
    rw [e1] at a1 a2
    rw [e2] at b1 b2
    refine opOK_value (v := .func (.func (f % 1000)) (first.map a.eval) (captured.map a.eval)) (w' := w) ?_ (res_same s (.clos _ _ _ _ _ a1 b1 a2 b2))
    simp [execOp, ho, Instr.makeFunc]
  · cases hc

theorem op_ext (s : Sim G T w) (he : EnvR G w E a) {x : Opd} {i : Nat} {v : AV} {T' : Tab} (hc : chkOp P (.ext x i) o = true) (hs : stepOp call lo E T (.ext x i) = some (v, T')) : OpOK P o a w (Res lo G T w T' v) := by
  simp only [chkOp] at hc
  split at hc
  · rename_i y j ho
    simp only [Bool.and_eq_true, beq_iff_eq] at hc
    obtain ⟨rfl, h3⟩ := hc
    have hv := val_sound he h3
    simp only [stepOp] at hs
    split at hs
    · rename_i vs hx
      simp only [Option.map_eq_some_iff, Prod.mk.injEq] at hs
      obtain ⟨u, hu, rfl, rfl⟩ := hs
      rw [hx] at hv
      generalize hy : a.eval y = z at hv
      cases hv with
      | tup _ cvs h1 hr =>
        have hi : i < cvs.size := by rw [h1]; exact (List.getElem?_eq_some_iff.1 hu).1
        refine opOK_value (v := cvs[i]) (w' := w) ?_ (res_same s (hr i _ _ hu (Array.getElem?_eq_getElem hi)))
        simp [execOp, ho, hy, Instr.extract, hi]
    · cases hs
  · cases hc

theorem op_tas (s : Sim G T w) (he : EnvR G w E a) {ty : Nat} {x : Opd} {v : AV} {T' : Tab} (hc : chkOp P (.tas ty x) o = true) (hs : stepOp call lo E T (.tas ty x) = some (v, T')) : OpOK P o a w (Res lo G T w T' v) := by
  simp only [chkOp] at hc
  split at hc
  · rename_i y xt t ho
    simp only [Bool.and_eq_true, beq_iff_eq] at hc
    obtain ⟨⟨rfl, h2⟩, h3⟩ := hc
    have hv := val_sound he h3
    simp only [stepOp] at hs
    split at hs
    · rename_i t v' hx
      split at hs
      · rename_i ht
        subst ht
        simp only [Option.some.injEq, Prod.mk.injEq] at hs
        obtain ⟨rfl, rfl⟩ := hs
        rw [hx] at hv
        generalize hy : a.eval y = z at hv
        cases hv with
        | iface _ _ c hr =>
          refine opOK_value (v := .tuple #[c, .bool true]) (w' := w) ?_ (res_same s (.tup _ _ rfl fun i x cc hi hci => ?_))
          · unfold notIface at h2
            cases hd : P.underlying t with
            | none => rw [hd] at h2; cases h2
            | some dd =>
              rw [hd] at h2
              simp only [execOp, ho, hy, Instr.typeAssert, Sem.run_bind, run_underlying w hd]
              cases dd <;> simp_all
          · match i with
            | 0 => simp at hi hci; subst hi; subst hci; exact hr
            | 1 => simp at hi hci; subst hi; subst hci; exact .bool _
            | i + 2 => simp at hi
      · cases hs
    · cases hs
  · cases hc

theorem run_args {ys : Array Operand} {l : List Operand} (h : ys.toList = l) (f : Operand → Value) : ys.map f = (l.map f).toArray := by
  rw [← h, ← Array.toList_map, Array.toArray_toList]

theorem op_len (s : Sim G T w) (he : EnvR G w E a) {x : Opd} {v : AV} {T' : Tab} (hc : chkOp P (.len x) o = true) (hs : stepOp call lo E T (.len x) = some (v, T')) : OpOK P o a w (Res lo G T w T' v) := by
  simp only [chkOp] at hc
  split at hc
  · rename_i ys ts ho
    split at hc
    · rename_i y t hys hts
      simp only [Bool.and_eq_true] at hc
      have hv := val_sound he hc.2
      simp only [stepOp, Option.map_eq_some_iff, Prod.mk.injEq] at hs
      obtain ⟨n, hn, rfl, rfl⟩ := hs
      have ht : ∃ e, P.underlying t = some (.slice e) := by
        have h1 := hc.1
        unfold elemP at h1
        split at h1
        · exact ⟨_, ‹_›⟩
        · cases h1
      obtain ⟨e, ht⟩ := ht
      have hl : ∃ A cap, a.eval y = .slice A n cap := by
        generalize a.eval y = u at hv
        generalize val E x = vx at hv hn
        cases hv <;> simp [alen] at hn <;> (try subst hn) <;> exact ⟨_, _, rfl⟩
      obtain ⟨A, cap, hl⟩ := hl
      have e1 : ts[0]? = some t := by rw [← Array.getElem?_toList, hts]; rfl
      refine opOK_value (v := .int .i64 n) (w' := w) ?_ (res_same s (.int _ _))
      simp [execOp, ho, resolve, invoke, builtin, Builtin.len_, run_args hys, e1, hl, run_underlying w ht, goInt]
    · cases hc
  · cases hc
end
end Go.Proofs.Ytlilfiekkaolkaa.Am
