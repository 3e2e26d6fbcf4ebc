/- How a run of the abstract machine is reckoned, step by step: equations for rewriting, and all of them in one bundle. -/
import Derived.Test.YtlilfiekkaolkaaAmT
import Derived.Test.YtlilfiekkaolkaaAmX
set_option linter.unusedVariables false
set_option linter.unusedSimpArgs false
namespace Go.Proofs.Ytlilfiekkaolkaa.Am
open Go

abbrev I (n : Int) : AV := .int .i64 n
abbrev N (n : Nat) : AV := .int .i64 (n : Int)
abbrev B (b : Bool) : AV := .bool b

def bindK (c : CallA) (lo : Nat) (r : List MOper) (E : Env) (d : Option Nat) : Option (AV × Tab) → Option (Env × Tab)
  | some (v, T) => runOps c lo r (put E d v) T
  | none => none
def guardK (c : CallA) (lo : Nat) (d : Option Nat) (m : MOp) (r : List MOper) (E : Env) (T : Tab) : Option Bool → Option (Env × Tab)
  | some true => bindK c lo r E d (stepOp c lo E T m)
  | some false => runOps c lo r (put E d (.tup [])) T
  | none => none
def wantK (b : Bool) : AV → Option Bool
  | .bool c => some (c == b)
  | .tup [] => some false
  | _ => none
theorem ro_guard' {c : CallA} {lo : Nat} {r : List MOper} {E : Env} {T : Tab} {d : Option Nat} {m : MOp} {cl : Cls} {st : Bool} {t : Nat} {b : Bool} : runOps c lo (⟨d, some (t, b), m, cl, st⟩ :: r) E T = guardK c lo d m r E T (wantK b (get E t)) := by
  have h : wants E (some (t, b)) = wantK b (get E t) := rfl
  simp only [runOps, h]
  cases wantK b (get E t) with
  | none => rfl
  | some x => cases x with
    | false => rfl
    | true => simp only [guardK, bindK]; cases stepOp c lo E T m <;> rfl
def regK (live : List Nat) : Option (Env × Tab) → Option Out
  | some (E, T) => some (.nrm (restrict live E) T)
  | none => none
noncomputable def seqK (prog : Nat → Option MFunc) (lo : Nat) (b : MCode) : Option Out → Option Out
  | some (.nrm E T) => exec prog lo b E T
  | r => r
noncomputable def condK (prog : Nat → Option MFunc) (lo : Nat) (a b : MCode) (E : Env) (T : Tab) : AV → Option Out
  | .bool c => if c then exec prog lo a E T else exec prog lo b E T
  | _ => none
def blkK (id : Nat) : Option Out → Option Out
  | some (.ext id' E T) => if id' = id then some (.nrm E T) else some (.ext id' E T)
  | r => r
noncomputable def loopK (prog : Nat → Option MFunc) (lo : Nat) (keep : List Nat) (b : MCode) : Option Out → Option Out
  | some (.nrm E T) => exec prog lo (.loop keep b) E T
  | r => r
theorem ex_seq' {prog : Nat → Option MFunc} {lo : Nat} {E : Env} {T : Tab} {a b : MCode} : exec prog lo (.seq a b) E T = seqK prog lo b (exec prog lo a E T) := by
  rw [exec_seq]; cases exec prog lo a E T with
  | none => rfl
  | some o => cases o <;> rfl
theorem ex_cond' {prog : Nat → Option MFunc} {lo : Nat} {E : Env} {T : Tab} {t : Nat} {a b : MCode} : exec prog lo (.cond t a b) E T = condK prog lo a b E T (get E t) := by
  have h : ∀ v, (match v with
    | .bool c => if c then execF (acall prog) (quietOf prog) (exec prog) lo a E T else execF (acall prog) (quietOf prog) (exec prog) lo b E T
    | _ => none) = condK prog lo a b E T v := fun v => by cases v <;> simp only [condK, ← exec_eq]
  rw [exec_eq]
  exact h _
theorem ex_block' {prog : Nat → Option MFunc} {lo : Nat} {E : Env} {T : Tab} {id : Nat} {b : MCode} : exec prog lo (.block id b) E T = blkK id (exec prog lo b E T) := by
  rw [exec_block]; cases exec prog lo b E T with
  | none => rfl
  | some o => cases o <;> rfl
theorem ex_loop {prog : Nat → Option MFunc} {lo : Nat} {E : Env} {T : Tab} {keep : List Nat} {b : MCode} : exec prog lo (.loop keep b) E T = loopK prog lo keep b (exec prog lo b (restrict keep E) T) := by
  rw [exec_loop]; cases exec prog lo b (restrict keep E) T with
  | none => rfl
  | some o => cases o <;> rfl
def valK (T : Tab) : Option AV → Option (AV × Tab)
  | some v => some (v, T)
  | none => none
def pickK (a b : AV) (T : Tab) : AV → Option (AV × Tab)
  | .bool c => some (if c then a else b, T)
  | _ => none
def boxK (T : Tab) (v : AV) : Option (AV × Tab) := if v.cells.all AV.one then some (.ptr T.length 0, T ++ [.box v.cells]) else none
def ixsK (n : Nat) (x : AV) (T : Tab) : AV → Option (AV × Tab)
  | .int .i64 m => match alen x, esz x with
      | some len, some n' => if 0 ≤ m ∧ m < len ∧ n = n' then some (.ep x m.toNat 0, T) else none
      | _, _ => none
  | _ => none
def ldK (T : Tab) (agg : Bool) (n : Nat) (a : AV) : Option (AV × Tab) := match ldv T agg n a with
  | some v => some (v, T)
  | none => none
def atK (j : Nat) : Option (List AV) → Option AV
  | some es => es[j]?
  | none => none
def oneK (T : Tab) : Option AV → Option (AV × Tab)
  | some e => valK T e.cells.head?
  | none => none
def aggK (T : Tab) (n : Nat) : Option AV → Option (AV × Tab)
  | some e => if n ≤ e.cells.length then some (.agg (e.cells.take n), T) else none
  | none => none
def celK (T : Tab) (o : Nat) : Option AV → Option (AV × Tab)
  | some (.agg cs) => valK T cs[o]?
  | some e => valK T (e.cells.drop o).head?
  | none => none
def boxLd (T : Tab) (o : Nat) : Obj → Option (AV × Tab)
  | .box cs => valK T cs[o]?
  | _ => none
def boxLdA (T : Tab) (o n : Nat) : Obj → Option (AV × Tab)
  | .box cs => if n ≤ (cs.drop o).length then some (.agg ((cs.drop o).take n), T) else none
  | _ => none
theorem head_drop {α : Type} (l : List α) (o : Nat) : (l.drop o).head? = l[o]? := by
  rw [List.head?_eq_getElem?, List.getElem?_drop]; rfl
theorem ld_ep' {T : Tab} {s : AV} {j : Nat} : ldK T false 1 (.ep s j 0) = oneK T (atK j (rd T s)) := by
  simp only [ldK, ldv, pcells]
  cases rd T s with
  | none => rfl
  | some es =>
    simp only [atK]
    cases es[j]? with
    | none => rfl
    | some e => simp only [Option.map_some, List.drop_zero, oneK, Bool.false_eq_true, if_false]; cases e.cells.head? <;> rfl
theorem ld_epA' {T : Tab} {s : AV} {n j : Nat} : ldK T true n (.ep s j 0) = aggK T n (atK j (rd T s)) := by
  simp only [ldK, ldv, pcells]
  cases rd T s with
  | none => rfl
  | some es =>
    simp only [atK]
    cases es[j]? with
    | none => rfl
    | some e =>
      simp only [Option.map_some, List.drop_zero, aggK, if_true]
      split <;> simp_all
theorem ld_epo' {T : Tab} {s : AV} {j o : Nat} : ldK T false 1 (.ep s j o) = celK T o (atK j (rd T s)) := by
  simp only [ldK, ldv, pcells]
  cases rd T s with
  | none => rfl
  | some es =>
    simp only [atK]
    cases es[j]? with
    | none => rfl
    | some e =>
      simp only [Option.map_some, Bool.false_eq_true, if_false]
      cases e <;> simp only [celK, AV.cells, head_drop] <;> split <;> simp_all [valK]
theorem ld_ptr' {T : Tab} {t o : Nat} : ldK T false 1 (.ptr t o) = boxLd T o (tget T t) := by
  simp only [ldK, ldv, pcells]
  cases tget T t with
  | box cs => simp only [boxLd, head_drop, Bool.false_eq_true, if_false]; cases cs[o]? <;> rfl
  | _ => rfl
theorem ld_ptrA' {T : Tab} {t o n : Nat} : ldK T true n (.ptr t o) = boxLdA T o n (tget T t) := by
  simp only [ldK, ldv, pcells]
  cases tget T t with
  | box cs =>
    simp only [boxLdA, if_true]
    split <;> simp_all
  | _ => rfl
def rdK (g len : Nat) : Obj → Option (List AV)
  | .arr g' es => if g = g' ∧ 0 + len ≤ es.length then some ((es.drop 0).take len) else none
  | _ => none
theorem rd_sl' {T : Tab} {mb : Bool} {n t g len : Nat} : rd T (.sl mb n t g 0 len) = rdK g len (tget T t) := by
  simp only [rd]
  cases tget T t <;> rfl
theorem rk_arr' {g len : Nat} {es : List AV} (h : (es.length == len) = true) : rdK g len (.arr g es) = some es := by
  simp at h; subst h; simp [rdK]
def stK (lo : Nat) (T : Tab) (n : Nat) (a x : AV) : Option (AV × Tab) := match stv lo T n a x with
  | some T' => some (.tup [], T')
  | none => none
def stA (T : Tab) (t g l i : Nat) (v : AV) : Obj → Option (AV × Tab)
  | .arr g' es => if g = g' ∧ l ≤ es.length then some (.tup [], T.set t (.arr g' (es.set i v))) else none
  | _ => none
def stB (T : Tab) (t o : Nat) (v : AV) : Obj → Option (AV × Tab)
  | .box cs => if o < cs.length then some (.tup [], T.set t (.box (cs.set o v))) else none
  | _ => none
theorem sk_ep' {lo : Nat} {T : Tab} {mb : Bool} {t g l i : Nat} {v : AV} (h1 : v.one = true) (h2 : decide (lo ≤ t) = true) (h3 : decide (i < l) = true) : stK lo T 1 (.ep (.sl mb 1 t g 0 l) i 0) v = stA T t g l i v (tget T t) := by
  simp at h2 h3
  simp only [stK, stv, one_cells h1]
  cases tget T t with
  | arr g' es =>
    simp only [stA]
    by_cases h : g = g' ∧ l ≤ es.length
    · simp [h1, h2, h3, h]
    · rw [if_neg h]
      have h' : ¬ (lo ≤ t ∧ g = g' ∧ 0 + l ≤ es.length ∧ i < l ∧ 0 + 1 ≤ 1) := fun x => h ⟨x.2.1, by omega⟩
      rw [if_neg h']
      simp [h1]
  | _ => simp [stA, h1]
theorem set_wr {cs : List AV} {o : Nat} {v : AV} (h : o < cs.length) : wr cs o [v] = cs.set o v := by
  simp only [wr, List.length_singleton]
  rw [List.set_eq_take_append_cons_drop, if_pos h]
  simp
theorem sk_ptr' {lo : Nat} {T : Tab} {t o : Nat} {v : AV} (h1 : v.one = true) (h2 : decide (lo ≤ t) = true) : stK lo T 1 (.ptr t o) v = stB T t o v (tget T t) := by
  simp at h2
  simp only [stK, stv, one_cells h1]
  cases tget T t with
  | box cs =>
    simp only [stB]
    by_cases h : o < cs.length
    · rw [if_pos h, set_wr h]
      have : o + 1 ≤ cs.length := h
      simp [h1, h2, this]
    · rw [if_neg h]
      have : ¬ (o + 1 ≤ cs.length) := h
      simp [h1, h2, this]
  | _ => simp [stB, h1]
def nilK (T : Tab) : AV → Option (AV × Tab)
  | .ptr t off => some (.ptr t off, T)
  | .ep s i off => some (.ep s i off, T)
  | .clos f fs cs => some (.clos f fs cs, T)
  | _ => none
def beqK (neg : Bool) (T : Tab) (x y : AV) : Option (AV × Tab) := match x, y with
  | .bool a, .bool b => some (.bool (if neg then !(a == b) else a == b), T)
  | _, _ => none
def isnK (T : Tab) (x : AV) : Option (AV × Tab) := match isNil x with
  | some b => some (.bool b, T)
  | none => none
def notK (T : Tab) : AV → Option (AV × Tab)
  | .bool b => some (.bool (!b), T)
  | _ => none
def cvtK (k : IntKind) (T : Tab) : AV → Option (AV × Tab)
  | .int _ n => some (.int k (k.wrap n), T)
  | _ => none
def mkslK (n : Nat) (z : AV) (T : Tab) : AV → Option (AV × Tab)
  | .int .i64 m => if 0 ≤ m ∧ m ≤ 1073741824 then some (.sl false n T.length 0 0 m.toNat, T ++ [.arr 0 (List.replicate m.toNat z)]) else none
  | _ => none
theorem ms_nat' {T : Tab} {n m : Nat} {z : AV} (h : decide (m ≤ 1073741824) = true) : mkslK n z T (.int .i64 (m : Int)) = some (.sl false n T.length 0 0 m, T ++ [.arr 0 (List.replicate m z)]) := by
  simp at h
  simp only [mkslK]
  rw [if_pos ⟨by omega, by omega⟩]
  simp
def fldK (o : Nat) (T : Tab) : AV → Option (AV × Tab)
  | .ptr t p => some (.ptr t (p + o), T)
  | .ep s i p => some (.ep s i (p + o), T)
  | _ => none
def extK (i : Nat) (T : Tab) : AV → Option (AV × Tab)
  | .tup vs => (vs[i]?).map fun v => (v, T)
  | _ => none
def lenK (T : Tab) (x : AV) : Option (AV × Tab) := match alen x with
  | some n => some (.int .i64 (n : Int), T)
  | none => none
def clvK (c : CallA) (lo : Nat) (T : Tab) (as : List AV) : AV → Option (AV × Tab)
  | .clos g fs cs => c lo g (fs ++ as ++ cs) T
  | _ => none
def bslK (n : Nat) (T : Tab) (vs : List AV) : Option (AV × Tab) := if vs.all (elemOk n) then some (.fz .nonnil n vs, T) else none
def bslTK (n : Nat) (T : Tab) (vs : List AV) : Option (AV × Tab) := if vs.all (elemOk n) then some (.sl false n T.length 0 0 vs.length, T ++ [.arr 0 vs]) else none
def appK (n lo : Nat) (T : Tab) (s : AV) (es : Option (List AV)) (n2 : Option Nat) : Option (AV × Tab) := match es, n2 with
    | some es, some n2 => match s with
      | .fz .isnil n' [] => if n' = n ∧ n2 = n ∧ es.length ≤ 1073741824 then
          some (.sl true n T.length 0 0 es.length, T ++ [.arr 0 es]) else none
      | .sl mb n' t g off len => match tget T t with
        | .arr g' old =>
          if lo ≤ t ∧ g = g' ∧ off + len ≤ old.length ∧ n' = n ∧ n2 = n ∧ len + es.length ≤ 1073741824 then
            some (.sl mb n t (g + 1) 0 (len + es.length), T.set t (.arr (g + 1) ((old.drop off).take len ++ es)))
          else none
        | _ => none
      | _ => none
    | _, _ => none
theorem ak_nil' {n lo : Nat} {T : Tab} {es : List AV} (h : decide (es.length ≤ 1073741824) = true) : appK n lo T (.fz .isnil n []) (some es) (some n) = some (.sl true n T.length 0 0 es.length, T ++ [.arr 0 es]) := by
  simp at h; simp [appK, h]
def appA (mb : Bool) (n : Nat) (T : Tab) (t g len : Nat) (es : List AV) : Obj → Option (AV × Tab)
  | .arr g' old => if g = g' ∧ 0 + len ≤ old.length ∧ len + es.length ≤ 1073741824 then some (.sl mb n t (g + 1) 0 (len + es.length), T.set t (.arr (g + 1) ((old.drop 0).take len ++ es))) else none
  | _ => none
theorem ak_sl' {n lo : Nat} {T : Tab} {mb : Bool} {t g len : Nat} {es : List AV} (h : decide (lo ≤ t) = true) : appK n lo T (.sl mb n t g 0 len) (some es) (some n) = appA mb n T t g len es (tget T t) := by
  simp at h
  simp only [appK]
  cases tget T t with
  | arr g' old => simp [appA, h]
  | _ => rfl
theorem aa_arr' {mb : Bool} {n : Nat} {T : Tab} {t g len : Nat} {es old : List AV} (h : (old.length == len) = true) (h2 : decide (len + es.length ≤ 1073741824) = true) : appA mb n T t g len es (.arr g old) = some (.sl mb n t (g + 1) 0 (len + es.length), T.set t (.arr (g + 1) (old ++ es))) := by
  simp at h h2; subst h; simp [appA, h2]
def aslK (off len : Nat) : Obj → Option (List AV)
  | .box cs => if off + len ≤ cs.length then some ((cs.drop off).take len) else none
  | _ => none
def slcAK (n : Nat) (T : Tab) : AV → Option (AV × Tab)
  | .ptr t off => some (.asl t off n, T)
  | _ => none
def ixaK (len n : Nat) (T : Tab) (x : AV) : AV → Option (AV × Tab)
  | .int .i64 m =>
      if 0 ≤ m ∧ m < len then
        match x with
        | .ptr t o => some (.ptr t (o + m.toNat * n), T)
        | .ep s j o => some (.ep s j (o + m.toNat * n), T)
        | _ => none
      else none
  | _ => none
theorem ia_ptr' {T : Tab} {len n j t o : Nat} (h : decide (j < len) = true) : ixaK len n T (.ptr t o) (.int .i64 (j : Int)) = some (.ptr t (o + j * n), T) := by
  simp at h
  simp only [ixaK]
  rw [if_pos ⟨by omega, by omega⟩]
  simp

def bldK (z : List AV) (T : Tab) : Option (List (Nat × List AV)) → Option (AV × Tab)
  | some l => some (.agg (fillA z l), T)
  | none => none
theorem pa_one' {E : Env} {z off : Nat} {x : Opd} {r : List (Nat × Nat × Opd)} (h1 : (val E x).one = true) (h2 : decide (off + 1 ≤ z) = true) : partsA E z ((off, 1, x) :: r) = (partsA E z r).map fun l => (off, [val E x]) :: l := by
  simp at h2
  simp only [partsA, one_cells h1]
  rw [if_pos ⟨by simp, h2, by simp [h1]⟩]
theorem pa_agg' {E : Env} {z off n : Nat} {x : Opd} {r : List (Nat × Nat × Opd)} (h0 : ((val E x).cells.length == n + 2) = true) (h1 : (val E x).cells.all AV.one = true) (h2 : decide (off + (n + 2) ≤ z) = true) : partsA E z ((off, n + 2, x) :: r) = (partsA E z r).map fun l => (off, (val E x).cells) :: l := by
  simp only [beq_iff_eq, decide_eq_true_eq] at h0 h2
  simp only [partsA]
  rw [if_pos ⟨h0, h2, h1⟩]
theorem wr_succ' {a : AV} {l vs : List AV} {k : Nat} : wr (a :: l) (k + 1) vs = a :: wr l k vs := by
  simp only [wr, List.take_succ_cons, List.cons_append]
  rw [show k + 1 + vs.length = (k + vs.length) + 1 by omega, List.drop_succ_cons]
def ixvK (len n : Nat) (T : Tab) (i x : AV) : Option (AV × Tab) := match i, x with
    | .int .i64 m, .agg cs => if 0 ≤ m ∧ m < len ∧ n = 1 then (cs[m.toNat]?).map fun v => (v, T) else none
    | _, _ => none
theorem so_ixv' {c : CallA} {lo : Nat} {E : Env} {T : Tab} {len n : Nat} {x i : Opd} : stepOp c lo E T (.ixv len n x i) = ixvK len n T (val E i) (val E x) := rfl
theorem iv_agg' {T : Tab} {len j : Nat} {cs : List AV} (h : decide (j < len) = true) : ixvK len 1 T (.int .i64 (j : Int)) (.agg cs) = valK T cs[j]? := by
  simp at h
  simp only [ixvK]
  rw [if_pos ⟨by omega, by omega, trivial⟩]
  simp only [Int.toNat_natCast]
  cases cs[j]? <;> rfl
def mxK (T : Tab) (x y : AV) : Option (AV × Tab) := match x, y with
  | .int .i64 a, .int .i64 b => some (.int .i64 (max a b), T)
  | _, _ => none
def mnK (T : Tab) (x y : AV) : Option (AV × Tab) := match x, y with
  | .int .i64 a, .int .i64 b => some (.int .i64 (min a b), T)
  | _, _ => none
theorem ints2 (x y : AV) : intArgs [x, y] = match x, y with
  | .int .i64 a, .int .i64 b => some [a, b]
  | _, _ => none := by
  cases x with
  | int k a => cases k <;> first | rfl | (cases y with
    | int j b => cases j <;> rfl
    | _ => rfl)
  | _ => rfl
theorem so_mx' {c : CallA} {lo : Nat} {E : Env} {T : Tab} {x y : Opd} : stepOp c lo E T (.mx [x, y]) = mxK T (val E x) (val E y) := by
  simp only [stepOp, List.map_cons, List.map_nil]
  cases val E x with
  | int k a => cases k <;> first | rfl | (cases val E y with
    | int j b => cases j <;> first | rfl | (simp only [intArgs, Option.map_some, List.foldl_cons, List.foldl_nil, mxK, Option.some.injEq, Prod.mk.injEq, AV.int.injEq, true_and, and_true]; split <;> omega)
    | _ => rfl)
  | _ => rfl
theorem mx_2' {T : Tab} {a b : Int} : mxK T (.int .i64 a) (.int .i64 b) = some (.int .i64 (max a b), T) := rfl
theorem so_mn' {c : CallA} {lo : Nat} {E : Env} {T : Tab} {x y : Opd} : stepOp c lo E T (.mn [x, y]) = mnK T (val E x) (val E y) := by
  simp only [stepOp, List.map_cons, List.map_nil]
  cases val E x with
  | int k a => cases k <;> first | rfl | (cases val E y with
    | int j b => cases j <;> first | rfl | (simp only [intArgs, Option.map_some, List.foldl_cons, List.foldl_nil, mnK, Option.some.injEq, Prod.mk.injEq, AV.int.injEq, true_and, and_true]; split <;> omega)
    | _ => rfl)
  | _ => rfl
theorem mn_2' {T : Tab} {a b : Int} : mnK T (.int .i64 a) (.int .i64 b) = some (.int .i64 (min a b), T) := rfl

theorem ro_nil {c : CallA} {lo : Nat} {E : Env} {T : Tab} : runOps c lo [] E T = some (E, T) := rfl
theorem ro_cons {c : CallA} {lo : Nat} {r : List MOper} {E : Env} {T : Tab} {d : Option Nat} {m : MOp} {cl : Cls} {st : Bool} : runOps c lo (⟨d, none, m, cl, st⟩ :: r) E T = bindK c lo r E d (stepOp c lo E T m) := by simp only [runOps, wants, bindK]; cases stepOp c lo E T m <;> rfl
theorem ro_guard {c : CallA} {lo : Nat} {r : List MOper} {E : Env} {T : Tab} {d : Option Nat} {m : MOp} {cl : Cls} {st : Bool} {t : Nat} {b : Bool} : runOps c lo (⟨d, some (t, b), m, cl, st⟩ :: r) E T = guardK c lo d m r E T (wantK b (get E t)) := ro_guard'
theorem bk_some {c : CallA} {lo : Nat} {r : List MOper} {E : Env} {T : Tab} {d : Option Nat} {v : AV} : bindK c lo r E d (some (v, T)) = runOps c lo r (put E d v) T := rfl
theorem gk_true {c : CallA} {lo : Nat} {d : Option Nat} {m : MOp} {r : List MOper} {E : Env} {T : Tab} : guardK c lo d m r E T (some true) = bindK c lo r E d (stepOp c lo E T m) := rfl
theorem gk_false {c : CallA} {lo : Nat} {d : Option Nat} {m : MOp} {r : List MOper} {E : Env} {T : Tab} : guardK c lo d m r E T (some false) = runOps c lo r (put E d (.tup [])) T := rfl
theorem wk_1 : wantK true (.bool true) = some true := rfl
theorem wk_2 : wantK true (.bool false) = some false := rfl
theorem wk_3 : wantK false (.bool true) = some false := rfl
theorem wk_4 : wantK false (.bool false) = some true := rfl
theorem wk_5 {b : Bool} : wantK b (.tup []) = some false := rfl
theorem ex_reg {prog : Nat → Option MFunc} {lo : Nat} {E : Env} {T : Tab} {live : List Nat} {ops : List MOper} : exec prog lo (.reg false ops live) E T = regK live (runOps (acall prog) lo ops E T) := by rw [exec_reg]; cases runOps (acall prog) lo ops E T <;> rfl
theorem ex_seq {prog : Nat → Option MFunc} {lo : Nat} {E : Env} {T : Tab} {a b : MCode} : exec prog lo (.seq a b) E T = seqK prog lo b (exec prog lo a E T) := ex_seq'
theorem ex_cond {prog : Nat → Option MFunc} {lo : Nat} {E : Env} {T : Tab} {t : Nat} {a b : MCode} : exec prog lo (.cond t a b) E T = condK prog lo a b E T (get E t) := ex_cond'
theorem ex_con {prog : Nat → Option MFunc} {lo : Nat} {E : Env} {T : Tab} {x : Bool} {a : MCode} : exec prog lo (.con x a) E T = exec prog lo a E T := by rw [exec_eq, exec_eq]; rfl
theorem ex_block {prog : Nat → Option MFunc} {lo : Nat} {E : Env} {T : Tab} {id : Nat} {b : MCode} : exec prog lo (.block id b) E T = blkK id (exec prog lo b E T) := ex_block'
theorem ex_exit {prog : Nat → Option MFunc} {lo : Nat} {E : Env} {T : Tab} {id : Nat} : exec prog lo (.exit id) E T = some (.ext id E T) := by rw [exec_eq]; rfl
theorem ex_ret {prog : Nat → Option MFunc} {lo : Nat} {E : Env} {T : Tab} : exec prog lo .ret E T = some (.ret E T) := by rw [exec_eq]; rfl
theorem ex_skip {prog : Nat → Option MFunc} {lo : Nat} {E : Env} {T : Tab} : exec prog lo .skip E T = some (.nrm E T) := by rw [exec_eq]; rfl
theorem rk_some {live : List Nat} {E : Env} {T : Tab} : regK live (some (E, T)) = some (.nrm (restrict live E) T) := rfl
theorem sk_nrm {prog : Nat → Option MFunc} {lo : Nat} {b : MCode} {E : Env} {T : Tab} : seqK prog lo b (some (.nrm E T)) = exec prog lo b E T := rfl
theorem sk_ext {prog : Nat → Option MFunc} {lo : Nat} {b : MCode} {id : Nat} {E : Env} {T : Tab} : seqK prog lo b (some (.ext id E T)) = some (.ext id E T) := rfl
theorem sk_ret {prog : Nat → Option MFunc} {lo : Nat} {b : MCode} {E : Env} {T : Tab} : seqK prog lo b (some (.ret E T)) = some (.ret E T) := rfl
theorem ck_true {prog : Nat → Option MFunc} {lo : Nat} {a b : MCode} {E : Env} {T : Tab} : condK prog lo a b E T (.bool true) = exec prog lo a E T := rfl
theorem ck_false {prog : Nat → Option MFunc} {lo : Nat} {a b : MCode} {E : Env} {T : Tab} : condK prog lo a b E T (.bool false) = exec prog lo b E T := rfl
theorem bl_nrm {id : Nat} {E : Env} {T : Tab} : blkK id (some (.nrm E T)) = some (.nrm E T) := rfl
theorem bl_ret {id : Nat} {E : Env} {T : Tab} : blkK id (some (.ret E T)) = some (.ret E T) := rfl
theorem bl_ext {id : Nat} {E : Env} {T : Tab} : blkK id (some (.ext id E T)) = some (.nrm E T) := by simp [blkK]
theorem bl_ne {id i : Nat} {E : Env} {T : Tab} (h : (i == id) = false) : blkK id (some (.ext i E T)) = some (.ext i E T) := by simp at h; simp [blkK, h]
theorem lk_nrm {prog : Nat → Option MFunc} {lo : Nat} {keep : List Nat} {b : MCode} {E : Env} {T : Tab} : loopK prog lo keep b (some (.nrm E T)) = exec prog lo (.loop keep b) E T := rfl
theorem lk_ret {prog : Nat → Option MFunc} {lo : Nat} {keep : List Nat} {b : MCode} {E : Env} {T : Tab} : loopK prog lo keep b (some (.ret E T)) = some (.ret E T) := rfl
theorem lk_ext {prog : Nat → Option MFunc} {lo : Nat} {keep : List Nat} {b : MCode} {id : Nat} {E : Env} {T : Tab} : loopK prog lo keep b (some (.ext id E T)) = some (.ext id E T) := rfl
theorem rs_nil {E : Env} : restrict [] E = [] := rfl
theorem rs_cons {t : Nat} {l : List Nat} {E : Env} : restrict (t :: l) E = (t, get E t) :: restrict l E := rfl
theorem get_hit {t : Nat} {v : AV} {E : Env} : get ((t, v) :: E) t = v := by simp [get]
theorem get_miss {t u : Nat} {v : AV} {E : Env} (h : (u == t) = false) : get ((u, v) :: E) t = get E t := by simp at h; simp [get, h]
theorem put_some {E : Env} {d : Nat} {v : AV} : put E (some d) v = (d, v) :: E := rfl
theorem put_none {E : Env} {v : AV} : put E none v = E := rfl
theorem val_t {E : Env} {n : Nat} : val E (.t n) = get E n := rfl
theorem val_c {E : Env} {v : AV} : val E (.c v) = v := rfl
theorem map_val_nil {E : Env} : List.map (val E) [] = [] := rfl
theorem map_val_cons {E : Env} {x : Opd} {l : List Opd} : List.map (val E) (x :: l) = val E x :: List.map (val E) l := rfl
theorem om_some {α β : Type} {f : α → β} {a : α} : Option.map f (some a) = some (f a) := rfl
theorem ab_lss {a b : Int} : abin .lss (.int .i64 a) (.int .i64 b) = some (.bool (decide (a < b))) := rfl
theorem ab_leq {a b : Int} : abin .leq (.int .i64 a) (.int .i64 b) = some (.bool (decide (a ≤ b))) := rfl
theorem ab_gtr {a b : Int} : abin .gtr (.int .i64 a) (.int .i64 b) = some (.bool (decide (b < a))) := rfl
theorem ab_geq {a b : Int} : abin .geq (.int .i64 a) (.int .i64 b) = some (.bool (decide (b ≤ a))) := rfl
theorem ab_eql {a b : Int} : abin .eql (.int .i64 a) (.int .i64 b) = some (.bool (decide (a = b))) := by simp only [abin, ibin, if_true]; rw [if_neg (by decide)]; congr
theorem ab_neq {a b : Int} : abin .neq (.int .i64 a) (.int .i64 b) = some (.bool (!decide (a = b))) := by simp only [abin, ibin, if_true]; rw [if_neg (by decide)]; congr
theorem ab_add {a b : Int} : abin .add (.int .i64 a) (.int .i64 b) = some (.int .i64 (IntKind.i64.wrap (a + b))) := rfl
theorem ab_sub {a b : Int} : abin .sub (.int .i64 a) (.int .i64 b) = some (.int .i64 (IntKind.i64.wrap (a - b))) := rfl
theorem ab_mul {a b : Int} : abin .mul (.int .i64 a) (.int .i64 b) = some (.int .i64 (IntKind.i64.wrap (a * b))) := rfl
theorem ab_rem {a b : Int} (h : (b == 0) = false) : abin .rem (.int .i64 a) (.int .i64 b) = some (.int .i64 (a.tmod b)) := by simp at h; simp [abin, ibin, h]
theorem ab_quo {a b : Int} (h : (b == 0) = false) : abin .quo (.int .i64 a) (.int .i64 b) = some (.int .i64 (IntKind.i64.wrap (a.tdiv b))) := by simp at h; simp [abin, ibin, h]
theorem so_mov {c : CallA} {lo : Nat} {E : Env} {T : Tab} {x : Opd} : stepOp c lo E T (.mov x) = some (val E x, T) := rfl
theorem so_tnil {c : CallA} {lo : Nat} {E : Env} {T : Tab} {n : Nat} : stepOp c lo E T (.tnil n) = some (.sl true n T.length 0 0 0, T ++ [.arr 0 []]) := rfl
theorem so_bin {c : CallA} {lo : Nat} {E : Env} {T : Tab} {op : BinOp} {x y : Opd} : stepOp c lo E T (.bin op x y) = valK T (abin op (val E x) (val E y)) := by simp only [stepOp]; cases abin op (val E x) (val E y) <;> rfl
theorem vk_some {T : Tab} {v : AV} : valK T (some v) = some (v, T) := rfl
theorem so_pick {c : CallA} {lo : Nat} {E : Env} {T : Tab} {x a b : Opd} : stepOp c lo E T (.pick x a b) = pickK (val E a) (val E b) T (val E x) := rfl
theorem pk_true {a b : AV} {T : Tab} : pickK a b T (.bool true) = some (a, T) := rfl
theorem pk_false {a b : AV} {T : Tab} : pickK a b T (.bool false) = some (b, T) := rfl
theorem so_box {c : CallA} {lo : Nat} {E : Env} {T : Tab} {x : Opd} : stepOp c lo E T (.box x) = boxK T (val E x) := rfl
theorem bx_int {T : Tab} {k : IntKind} {n : Int} : boxK T (.int k n) = some (.ptr T.length 0, T ++ [.box [.int k n]]) := rfl
theorem bx_bool {T : Tab} {b : Bool} : boxK T (.bool b) = some (.ptr T.length 0, T ++ [.box [.bool b]]) := rfl
theorem bx_fz {T : Tab} {nl : Nl} {n : Nat} {es : List AV} : boxK T (.fz nl n es) = some (.ptr T.length 0, T ++ [.box [.fz nl n es]]) := rfl
theorem bx_sl {T : Tab} {mb : Bool} {n t g off len : Nat} : boxK T (.sl mb n t g off len) = some (.ptr T.length 0, T ++ [.box [.sl mb n t g off len]]) := rfl
theorem bx_clos {T : Tab} {f : Nat} {fs cs : List AV} : boxK T (.clos f fs cs) = some (.ptr T.length 0, T ++ [.box [.clos f fs cs]]) := rfl
theorem bx_ptr {T : Tab} {t off : Nat} : boxK T (.ptr t off) = some (.ptr T.length 0, T ++ [.box [.ptr t off]]) := rfl
theorem bx_agg {T : Tab} {cs : List AV} (h : cs.all AV.one = true) : boxK T (.agg cs) = some (.ptr T.length 0, T ++ [.box cs]) := by simp only [boxK, AV.cells, h, if_true]
theorem one_int {k : IntKind} {n : Int} : AV.one (.int k n) = true := rfl
theorem one_bool {b : Bool} : AV.one (.bool b) = true := rfl
theorem one_fz {nl : Nl} {n : Nat} {es : List AV} : AV.one (.fz nl n es) = true := rfl
theorem one_sl {mb : Bool} {n t g off len : Nat} : AV.one (.sl mb n t g off len) = true := rfl
theorem one_ptr {t off : Nat} : AV.one (.ptr t off) = true := rfl
theorem one_clos {f : Nat} {fs cs : List AV} : AV.one (.clos f fs cs) = true := rfl
theorem all_nil {p : AV → Bool} : List.all [] p = true := rfl
theorem all_cons {p : AV → Bool} {a : AV} {l : List AV} : List.all (a :: l) p = (p a && List.all l p) := rfl
theorem b_and1 {b : Bool} : (true && b) = b := rfl
theorem b_and2 {b : Bool} : (false && b) = false := rfl
theorem b_and3 {b : Bool} : (b && true) = b := by cases b <;> rfl
theorem b_or1 {b : Bool} : (true || b) = true := rfl
theorem b_or2 {b : Bool} : (false || b) = b := rfl
theorem b_not1 : (!true) = false := rfl
theorem b_not2 : (!false) = true := rfl
theorem so_ixs {c : CallA} {lo : Nat} {E : Env} {T : Tab} {n : Nat} {x i : Opd} : stepOp c lo E T (.ixs n x i) = ixsK n (val E x) T (val E i) := by simp only [stepOp]; cases val E i <;> rfl
theorem ix_fz {T : Tab} {n j : Nat} {nl : Nl} {es : List AV} (h : j < es.length) : ixsK n (.fz nl n es) T (.int .i64 (j : Int)) = some (.ep (.fz nl n es) j 0, T) := by simp only [ixsK, alen, esz]; rw [if_pos ⟨by omega, by omega, trivial⟩]; simp
theorem ix_sl {T : Tab} {n j : Nat} {mb : Bool} {t g off len : Nat} (h : j < len) : ixsK n (.sl mb n t g off len) T (.int .i64 (j : Int)) = some (.ep (.sl mb n t g off len) j 0, T) := by simp only [ixsK, alen, esz]; rw [if_pos ⟨by omega, by omega, trivial⟩]; simp
theorem so_ld {c : CallA} {lo : Nat} {E : Env} {T : Tab} {agg : Bool} {n : Nat} {a : Opd} : stepOp c lo E T (.ld agg n a) = ldK T agg n (val E a) := by simp only [stepOp, ldK]; cases ldv T agg n (val E a) <;> rfl
theorem ld_ep {T : Tab} {s : AV} {j : Nat} : ldK T false 1 (.ep s j 0) = oneK T (atK j (rd T s)) := ld_ep'
theorem ld_epA {T : Tab} {s : AV} {n j : Nat} : ldK T true n (.ep s j 0) = aggK T n (atK j (rd T s)) := ld_epA'
theorem ld_epo {T : Tab} {s : AV} {j o : Nat} : ldK T false 1 (.ep s j (o + 1)) = celK T (o + 1) (atK j (rd T s)) := ld_epo'
theorem ld_ptr {T : Tab} {t o : Nat} : ldK T false 1 (.ptr t o) = boxLd T o (tget T t) := ld_ptr'
theorem ld_ptrA {T : Tab} {t o n : Nat} : ldK T true n (.ptr t o) = boxLdA T o n (tget T t) := ld_ptrA'
theorem at_some {j : Nat} {es : List AV} : atK j (some es) = es[j]? := rfl
theorem on_int {T : Tab} {k : IntKind} {n : Int} : oneK T (some (.int k n)) = some (.int k n, T) := rfl
theorem on_bool {T : Tab} {b : Bool} : oneK T (some (.bool b)) = some (.bool b, T) := rfl
theorem on_fz {T : Tab} {nl : Nl} {n : Nat} {es : List AV} : oneK T (some (.fz nl n es)) = some (.fz nl n es, T) := rfl
theorem on_sl {T : Tab} {mb : Bool} {n t g off len : Nat} : oneK T (some (.sl mb n t g off len)) = some (.sl mb n t g off len, T) := rfl
theorem on_ptr {T : Tab} {t o : Nat} : oneK T (some (.ptr t o)) = some (.ptr t o, T) := rfl
theorem on_clos {T : Tab} {f : Nat} {fs cs : List AV} : oneK T (some (.clos f fs cs)) = some (.clos f fs cs, T) := rfl
theorem on_map {T : Tab} {t : Nat} : oneK T (some (.mapr t)) = some (.mapr t, T) := rfl
theorem ag_agg {T : Tab} {n : Nat} {cs : List AV} (h : (cs.length == n) = true) : aggK T n (some (.agg cs)) = some (.agg cs, T) := by simp at h; subst h; simp [aggK, AV.cells]
theorem cl_agg {T : Tab} {o : Nat} {cs : List AV} : celK T o (some (.agg cs)) = valK T cs[o]? := rfl
theorem bl_box {T : Tab} {o : Nat} {cs : List AV} : boxLd T o (.box cs) = valK T cs[o]? := rfl
theorem bl_boxA {T : Tab} {n : Nat} {cs : List AV} (h : (cs.length == n) = true) : boxLdA T 0 n (.box cs) = some (.agg cs, T) := by simp at h; subst h; simp [boxLdA]
theorem rd_fz {T : Tab} {nl : Nl} {n : Nat} {es : List AV} : rd T (.fz nl n es) = some es := rfl
theorem rd_sl {T : Tab} {mb : Bool} {n t g len : Nat} : rd T (.sl mb n t g 0 len) = rdK g len (tget T t) := rd_sl'
theorem rk_arr {g len : Nat} {es : List AV} (h : (es.length == len) = true) : rdK g len (.arr g es) = some es := rk_arr' h
theorem tg_zero {o : Obj} {T : Tab} : tget (o :: T) 0 = o := rfl
theorem tg_succ {o : Obj} {T : Tab} {k : Nat} : tget (o :: T) (k + 1) = tget T k := rfl
theorem gz {α : Type} {a : α} {l : List α} : (a :: l)[0]? = some a := rfl
theorem gs {α : Type} {a : α} {l : List α} {k : Nat} : (a :: l)[k + 1]? = l[k]? := rfl
theorem gm {α β : Type} {f : α → β} {l : List α} {k : Nat} : (List.map f l)[k]? = Option.map f l[k]? := List.getElem?_map
theorem ll_nil {α : Type} : ([] : List α).length = 0 := rfl
theorem ll_cons {α : Type} {a : α} {l : List α} : (a :: l).length = l.length + 1 := rfl
theorem ll_map {α β : Type} {f : α → β} {l : List α} : (List.map f l).length = l.length := List.length_map f
theorem ap_nil {α : Type} {l : List α} : [] ++ l = l := rfl
theorem ap_cons {α : Type} {a : α} {l l' : List α} : a :: l ++ l' = a :: (l ++ l') := rfl
theorem st_zero {α : Type} {a b : α} {l : List α} : (a :: l).set 0 b = b :: l := rfl
theorem st_succ {α : Type} {a b : α} {l : List α} {k : Nat} : (a :: l).set (k + 1) b = a :: l.set k b := rfl
theorem so_st {c : CallA} {lo : Nat} {E : Env} {T : Tab} {n : Nat} {a x : Opd} : stepOp c lo E T (.st n a x) = stK lo T n (val E a) (val E x) := by simp only [stepOp, stK]; cases stv lo T n (val E a) (val E x) <;> rfl
theorem sk_ep {lo : Nat} {T : Tab} {mb : Bool} {t g l i : Nat} {v : AV} (h1 : v.one = true) (h2 : decide (lo ≤ t) = true) (h3 : decide (i < l) = true) : stK lo T 1 (.ep (.sl mb 1 t g 0 l) i 0) v = stA T t g l i v (tget T t) := sk_ep' h1 h2 h3
theorem sa_arr {T : Tab} {t g l i : Nat} {v : AV} {es : List AV} (h : (es.length == l) = true) : stA T t g l i v (.arr g es) = some (.tup [], T.set t (.arr g (es.set i v))) := by simp at h; subst h; simp [stA]
theorem sk_ptr {lo : Nat} {T : Tab} {t o : Nat} {v : AV} (h1 : v.one = true) (h2 : decide (lo ≤ t) = true) : stK lo T 1 (.ptr t o) v = stB T t o v (tget T t) := sk_ptr' h1 h2
theorem sb_box {T : Tab} {t o : Nat} {v : AV} {cs : List AV} (h : decide (o < cs.length) = true) : stB T t o v (.box cs) = some (.tup [], T.set t (.box (cs.set o v))) := by simp at h; simp [stB, h]
theorem so_nilck {c : CallA} {lo : Nat} {E : Env} {T : Tab} {x : Opd} : stepOp c lo E T (.nilck x) = nilK T (val E x) := by simp only [stepOp]; cases val E x <;> rfl
theorem nk_ptr {T : Tab} {t o : Nat} : nilK T (.ptr t o) = some (.ptr t o, T) := rfl
theorem nk_ep {T : Tab} {s : AV} {i o : Nat} : nilK T (.ep s i o) = some (.ep s i o, T) := rfl
theorem nk_clos {T : Tab} {f : Nat} {fs cs : List AV} : nilK T (.clos f fs cs) = some (.clos f fs cs, T) := rfl
theorem so_beq {c : CallA} {lo : Nat} {E : Env} {T : Tab} {n : Bool} {x y : Opd} : stepOp c lo E T (.beq n x y) = beqK n T (val E x) (val E y) := rfl
theorem bq_f {T : Tab} {a b : Bool} : beqK false T (.bool a) (.bool b) = some (.bool (a == b), T) := rfl
theorem bq_t {T : Tab} {a b : Bool} : beqK true T (.bool a) (.bool b) = some (.bool (!(a == b)), T) := rfl
theorem so_isn {c : CallA} {lo : Nat} {E : Env} {T : Tab} {x : Opd} : stepOp c lo E T (.isn x) = isnK T (val E x) := by simp only [stepOp, isnK]; cases isNil (val E x) <;> rfl
theorem is_nil {T : Tab} {n : Nat} {es : List AV} : isnK T (.fz .isnil n es) = some (.bool true, T) := rfl
theorem is_non {T : Tab} {n : Nat} {es : List AV} : isnK T (.fz .nonnil n es) = some (.bool false, T) := rfl
theorem so_not {c : CallA} {lo : Nat} {E : Env} {T : Tab} {x : Opd} : stepOp c lo E T (.not x) = notK T (val E x) := rfl
theorem nt_bool {T : Tab} {b : Bool} : notK T (.bool b) = some (.bool (!b), T) := rfl
theorem so_cvt {c : CallA} {lo : Nat} {E : Env} {T : Tab} {k : IntKind} {x : Opd} : stepOp c lo E T (.cvt k x) = cvtK k T (val E x) := by simp only [stepOp]; cases val E x <;> rfl
theorem cv_int {T : Tab} {k j : IntKind} {n : Int} : cvtK k T (.int j n) = some (.int k (k.wrap n), T) := rfl
theorem so_mkif {c : CallA} {lo : Nat} {E : Env} {T : Tab} {ty : Nat} {x : Opd} : stepOp c lo E T (.mkif ty x) = some (.iface ty (val E x), T) := rfl
theorem so_mkfn {c : CallA} {lo : Nat} {E : Env} {T : Tab} {f : Nat} {fs cs : List Opd} : stepOp c lo E T (.mkfn f fs cs) = some (.clos f (fs.map (val E)) (cs.map (val E)), T) := rfl
theorem so_mkmap {c : CallA} {lo : Nat} {E : Env} {T : Tab} : stepOp c lo E T .mkmap = some (.mapr T.length, T ++ [.map []]) := rfl
theorem so_mksl {c : CallA} {lo : Nat} {E : Env} {T : Tab} {n : Nat} {z : AV} {l : Opd} : stepOp c lo E T (.mksl n z l) = mkslK n z T (val E l) := by simp only [stepOp]; cases val E l <;> rfl
theorem ms_nat {T : Tab} {n m : Nat} {z : AV} (h : decide (m ≤ 1073741824) = true) : mkslK n z T (.int .i64 (m : Int)) = some (.sl false n T.length 0 0 m, T ++ [.arr 0 (List.replicate m z)]) := ms_nat' h
theorem so_fld {c : CallA} {lo : Nat} {E : Env} {T : Tab} {o : Nat} {x : Opd} : stepOp c lo E T (.fld o x) = fldK o T (val E x) := by simp only [stepOp]; cases val E x <;> rfl
theorem fk_ptr {T : Tab} {o t p : Nat} : fldK o T (.ptr t p) = some (.ptr t (p + o), T) := rfl
theorem fk_ep {T : Tab} {o i p : Nat} {s : AV} : fldK o T (.ep s i p) = some (.ep s i (p + o), T) := rfl
theorem so_ext {c : CallA} {lo : Nat} {E : Env} {T : Tab} {x : Opd} {i : Nat} : stepOp c lo E T (.ext x i) = extK i T (val E x) := by simp only [stepOp]; cases val E x <;> rfl
theorem et_tup {T : Tab} {i : Nat} {vs : List AV} : extK i T (.tup vs) = valK T vs[i]? := by simp only [extK]; cases vs[i]? <;> rfl
theorem so_len {c : CallA} {lo : Nat} {E : Env} {T : Tab} {x : Opd} : stepOp c lo E T (.len x) = lenK T (val E x) := by simp only [stepOp, lenK]; cases alen (val E x) <;> rfl
theorem ln_fz {T : Tab} {nl : Nl} {n : Nat} {es : List AV} : lenK T (.fz nl n es) = some (.int .i64 (es.length : Int), T) := rfl
theorem ln_sl {T : Tab} {mb : Bool} {n t g off len : Nat} : lenK T (.sl mb n t g off len) = some (.int .i64 (len : Int), T) := rfl
theorem so_call {c : CallA} {lo : Nat} {E : Env} {T : Tab} {f : Nat} {xs : List Opd} : stepOp c lo E T (.call f xs) = c lo f (xs.map (val E)) T := rfl
theorem so_callv {c : CallA} {lo : Nat} {E : Env} {T : Tab} {x : Opd} {xs : List Opd} : stepOp c lo E T (.callv x xs) = clvK c lo T (xs.map (val E)) (val E x) := by simp only [stepOp]; cases val E x <;> rfl
theorem cv_clos {c : CallA} {lo : Nat} {T : Tab} {f : Nat} {as fs cs : List AV} : clvK c lo T as (.clos f fs cs) = c lo f (fs ++ as ++ cs) T := rfl
theorem so_bsl {c : CallA} {lo : Nat} {E : Env} {T : Tab} {n : Nat} {es : List Opd} : stepOp c lo E T (.bsl false n es) = bslK n T (es.map (val E)) := by simp only [stepOp, bslK, Bool.false_eq_true, if_false]
theorem bs_ok {T : Tab} {n : Nat} {vs : List AV} (h : vs.all (elemOk n) = true) : bslK n T vs = some (.fz .nonnil n vs, T) := by simp only [bslK, h, if_true]
theorem so_bslT {c : CallA} {lo : Nat} {E : Env} {T : Tab} {n : Nat} {es : List Opd} : stepOp c lo E T (.bslT n es) = bslTK n T (es.map (val E)) := rfl
theorem bt_ok {T : Tab} {n : Nat} {vs : List AV} (h : vs.all (elemOk n) = true) : bslTK n T vs = some (.sl false n T.length 0 0 vs.length, T ++ [.arr 0 vs]) := by simp only [bslTK, h, if_true]
theorem el_one {v : AV} : elemOk 1 v = v.one := rfl
theorem so_app {c : CallA} {lo : Nat} {E : Env} {T : Tab} {n : Nat} {s x : Opd} : stepOp c lo E T (.app n s x) = appK n lo T (val E s) (rd T (val E x)) (esz (val E x)) := rfl
theorem esz_fz {nl : Nl} {n : Nat} {es : List AV} : esz (.fz nl n es) = some n := rfl
theorem esz_sl {mb : Bool} {n t g off len : Nat} : esz (.sl mb n t g off len) = some n := rfl
theorem esz_asl {t off len : Nat} : esz (.asl t off len) = some 1 := rfl
theorem ak_nil {n lo : Nat} {T : Tab} {es : List AV} (h : decide (es.length ≤ 1073741824) = true) : appK n lo T (.fz .isnil n []) (some es) (some n) = some (.sl true n T.length 0 0 es.length, T ++ [.arr 0 es]) := ak_nil' h
theorem ak_sl {n lo : Nat} {T : Tab} {mb : Bool} {t g len : Nat} {es : List AV} (h : decide (lo ≤ t) = true) : appK n lo T (.sl mb n t g 0 len) (some es) (some n) = appA mb n T t g len es (tget T t) := ak_sl' h
theorem aa_arr {mb : Bool} {n : Nat} {T : Tab} {t g len : Nat} {es old : List AV} (h : (old.length == len) = true) (h2 : decide (len + es.length ≤ 1073741824) = true) : appA mb n T t g len es (.arr g old) = some (.sl mb n t (g + 1) 0 (len + es.length), T.set t (.arr (g + 1) (old ++ es))) := aa_arr' h h2
theorem rk_asl {T : Tab} {t off len : Nat} : rd T (.asl t off len) = aslK off len (tget T t) := rfl
theorem ask_box {len : Nat} {cs : List AV} (h : (cs.length == len) = true) : aslK 0 len (.box cs) = some cs := by simp at h; subst h; simp [aslK]
theorem so_slcA {c : CallA} {lo : Nat} {E : Env} {T : Tab} {n : Nat} {x : Opd} : stepOp c lo E T (.slcA n x) = slcAK n T (val E x) := by simp only [stepOp]; cases val E x <;> rfl
theorem sc_ptr {T : Tab} {n t o : Nat} : slcAK n T (.ptr t o) = some (.asl t o n, T) := rfl
theorem so_alloc {c : CallA} {lo : Nat} {E : Env} {T : Tab} {z : List AV} : stepOp c lo E T (.alloc z []) = some (.ptr T.length 0, T ++ [.box z]) := rfl
theorem so_ixa {c : CallA} {lo : Nat} {E : Env} {T : Tab} {len n : Nat} {x i : Opd} : stepOp c lo E T (.ixa len n x i) = ixaK len n T (val E x) (val E i) := by simp only [stepOp]; cases val E i <;> rfl
theorem ia_ptr {T : Tab} {len n j t o : Nat} (h : decide (j < len) = true) : ixaK len n T (.ptr t o) (.int .i64 (j : Int)) = some (.ptr t (o + j * n), T) := ia_ptr' h
theorem so_build {c : CallA} {lo : Nat} {E : Env} {T : Tab} {z : List AV} {ps : List (Nat × Nat × Opd)} : stepOp c lo E T (.build z [] ps) = bldK z T (partsA E z.length ps) := by simp only [stepOp, toksInto]; cases partsA E z.length ps <;> rfl
theorem bd_some {z : List AV} {T : Tab} {l : List (Nat × List AV)} : bldK z T (some l) = some (.agg (fillA z l), T) := rfl
theorem pa_nil {E : Env} {z : Nat} : partsA E z [] = some [] := rfl
theorem pa_one {E : Env} {z off : Nat} {x : Opd} {r : List (Nat × Nat × Opd)} (h1 : (val E x).one = true) (h2 : decide (off + 1 ≤ z) = true) : partsA E z ((off, 1, x) :: r) = (partsA E z r).map fun l => (off, [val E x]) :: l := pa_one' h1 h2
theorem pa_agg {E : Env} {z off n : Nat} {x : Opd} {r : List (Nat × Nat × Opd)} (h0 : ((val E x).cells.length == n + 2) = true) (h1 : (val E x).cells.all AV.one = true) (h2 : decide (off + (n + 2) ≤ z) = true) : partsA E z ((off, n + 2, x) :: r) = (partsA E z r).map fun l => (off, (val E x).cells) :: l := pa_agg' h0 h1 h2
theorem cells_agg {cs : List AV} : AV.cells (.agg cs) = cs := rfl
theorem fa_nil {z : List AV} : fillA z [] = z := rfl
theorem fa_cons {z vs : List AV} {off : Nat} {r : List (Nat × List AV)} : fillA z ((off, vs) :: r) = fillA (wr z off vs) r := rfl
theorem wr_nil {l : List AV} : wr l 0 [] = l := by simp [wr]
theorem wr_zero {a v : AV} {l vs : List AV} : wr (a :: l) 0 (v :: vs) = v :: wr l 0 vs := by simp [wr]
theorem wr_succ {a : AV} {l vs : List AV} {k : Nat} : wr (a :: l) (k + 1) vs = a :: wr l k vs := wr_succ'
theorem so_ixv {c : CallA} {lo : Nat} {E : Env} {T : Tab} {len n : Nat} {x i : Opd} : stepOp c lo E T (.ixv len n x i) = ixvK len n T (val E i) (val E x) := so_ixv'
theorem iv_agg {T : Tab} {len j : Nat} {cs : List AV} (h : decide (j < len) = true) : ixvK len 1 T (.int .i64 (j : Int)) (.agg cs) = valK T cs[j]? := iv_agg' h
theorem so_mx {c : CallA} {lo : Nat} {E : Env} {T : Tab} {x y : Opd} : stepOp c lo E T (.mx [x, y]) = mxK T (val E x) (val E y) := so_mx'
theorem mx_2 {T : Tab} {a b : Int} : mxK T (.int .i64 a) (.int .i64 b) = some (.int .i64 (max a b), T) := mx_2'
theorem so_mn {c : CallA} {lo : Nat} {E : Env} {T : Tab} {x y : Opd} : stepOp c lo E T (.mn [x, y]) = mnK T (val E x) (val E y) := so_mn'
theorem mn_2 {T : Tab} {a b : Int} : mnK T (.int .i64 a) (.int .i64 b) = some (.int .i64 (min a b), T) := mn_2'
theorem ev :
    (∀ {c : CallA} {lo : Nat} {E : Env} {T : Tab}, runOps c lo [] E T = some (E, T)) ∧
    (∀ {c : CallA} {lo : Nat} {r : List MOper} {E : Env} {T : Tab} {d : Option Nat} {m : MOp} {cl : Cls} {st : Bool}, runOps c lo (⟨d, none, m, cl, st⟩ :: r) E T = bindK c lo r E d (stepOp c lo E T m)) ∧
    (∀ {c : CallA} {lo : Nat} {r : List MOper} {E : Env} {T : Tab} {d : Option Nat} {m : MOp} {cl : Cls} {st : Bool} {t : Nat} {b : Bool}, runOps c lo (⟨d, some (t, b), m, cl, st⟩ :: r) E T = guardK c lo d m r E T (wantK b (get E t))) ∧
    (∀ {c : CallA} {lo : Nat} {r : List MOper} {E : Env} {T : Tab} {d : Option Nat} {v : AV}, bindK c lo r E d (some (v, T)) = runOps c lo r (put E d v) T) ∧
    (∀ {c : CallA} {lo : Nat} {d : Option Nat} {m : MOp} {r : List MOper} {E : Env} {T : Tab}, guardK c lo d m r E T (some true) = bindK c lo r E d (stepOp c lo E T m)) ∧
    (∀ {c : CallA} {lo : Nat} {d : Option Nat} {m : MOp} {r : List MOper} {E : Env} {T : Tab}, guardK c lo d m r E T (some false) = runOps c lo r (put E d (.tup [])) T) ∧
    (wantK true (.bool true) = some true) ∧
    (wantK true (.bool false) = some false) ∧
    (wantK false (.bool true) = some false) ∧
    (wantK false (.bool false) = some true) ∧
    (∀ {b : Bool}, wantK b (.tup []) = some false) ∧
    (∀ {prog : Nat → Option MFunc} {lo : Nat} {E : Env} {T : Tab} {live : List Nat} {ops : List MOper}, exec prog lo (.reg false ops live) E T = regK live (runOps (acall prog) lo ops E T)) ∧
    (∀ {prog : Nat → Option MFunc} {lo : Nat} {E : Env} {T : Tab} {a b : MCode}, exec prog lo (.seq a b) E T = seqK prog lo b (exec prog lo a E T)) ∧
    (∀ {prog : Nat → Option MFunc} {lo : Nat} {E : Env} {T : Tab} {t : Nat} {a b : MCode}, exec prog lo (.cond t a b) E T = condK prog lo a b E T (get E t)) ∧
    (∀ {prog : Nat → Option MFunc} {lo : Nat} {E : Env} {T : Tab} {x : Bool} {a : MCode}, exec prog lo (.con x a) E T = exec prog lo a E T) ∧
    (∀ {prog : Nat → Option MFunc} {lo : Nat} {E : Env} {T : Tab} {id : Nat} {b : MCode}, exec prog lo (.block id b) E T = blkK id (exec prog lo b E T)) ∧
    (∀ {prog : Nat → Option MFunc} {lo : Nat} {E : Env} {T : Tab} {id : Nat}, exec prog lo (.exit id) E T = some (.ext id E T)) ∧
    (∀ {prog : Nat → Option MFunc} {lo : Nat} {E : Env} {T : Tab}, exec prog lo .ret E T = some (.ret E T)) ∧
    (∀ {prog : Nat → Option MFunc} {lo : Nat} {E : Env} {T : Tab}, exec prog lo .skip E T = some (.nrm E T)) ∧
    (∀ {live : List Nat} {E : Env} {T : Tab}, regK live (some (E, T)) = some (.nrm (restrict live E) T)) ∧
    (∀ {prog : Nat → Option MFunc} {lo : Nat} {b : MCode} {E : Env} {T : Tab}, seqK prog lo b (some (.nrm E T)) = exec prog lo b E T) ∧
    (∀ {prog : Nat → Option MFunc} {lo : Nat} {b : MCode} {id : Nat} {E : Env} {T : Tab}, seqK prog lo b (some (.ext id E T)) = some (.ext id E T)) ∧
    (∀ {prog : Nat → Option MFunc} {lo : Nat} {b : MCode} {E : Env} {T : Tab}, seqK prog lo b (some (.ret E T)) = some (.ret E T)) ∧
    (∀ {prog : Nat → Option MFunc} {lo : Nat} {a b : MCode} {E : Env} {T : Tab}, condK prog lo a b E T (.bool true) = exec prog lo a E T) ∧
    (∀ {prog : Nat → Option MFunc} {lo : Nat} {a b : MCode} {E : Env} {T : Tab}, condK prog lo a b E T (.bool false) = exec prog lo b E T) ∧
    (∀ {id : Nat} {E : Env} {T : Tab}, blkK id (some (.nrm E T)) = some (.nrm E T)) ∧
    (∀ {id : Nat} {E : Env} {T : Tab}, blkK id (some (.ret E T)) = some (.ret E T)) ∧
    (∀ {id : Nat} {E : Env} {T : Tab}, blkK id (some (.ext id E T)) = some (.nrm E T)) ∧
    (∀ {id i : Nat} {E : Env} {T : Tab} (h : (i == id) = false), blkK id (some (.ext i E T)) = some (.ext i E T)) ∧
    (∀ {prog : Nat → Option MFunc} {lo : Nat} {keep : List Nat} {b : MCode} {E : Env} {T : Tab}, loopK prog lo keep b (some (.nrm E T)) = exec prog lo (.loop keep b) E T) ∧
    (∀ {prog : Nat → Option MFunc} {lo : Nat} {keep : List Nat} {b : MCode} {E : Env} {T : Tab}, loopK prog lo keep b (some (.ret E T)) = some (.ret E T)) ∧
    (∀ {prog : Nat → Option MFunc} {lo : Nat} {keep : List Nat} {b : MCode} {id : Nat} {E : Env} {T : Tab}, loopK prog lo keep b (some (.ext id E T)) = some (.ext id E T)) ∧
    (∀ {E : Env}, restrict [] E = []) ∧
    (∀ {t : Nat} {l : List Nat} {E : Env}, restrict (t :: l) E = (t, get E t) :: restrict l E) ∧
    (∀ {t : Nat} {v : AV} {E : Env}, get ((t, v) :: E) t = v) ∧
    (∀ {t u : Nat} {v : AV} {E : Env} (h : (u == t) = false), get ((u, v) :: E) t = get E t) ∧
    (∀ {E : Env} {d : Nat} {v : AV}, put E (some d) v = (d, v) :: E) ∧
    (∀ {E : Env} {v : AV}, put E none v = E) ∧
    (∀ {E : Env} {n : Nat}, val E (.t n) = get E n) ∧
    (∀ {E : Env} {v : AV}, val E (.c v) = v) ∧
    (∀ {E : Env}, List.map (val E) [] = []) ∧
    (∀ {E : Env} {x : Opd} {l : List Opd}, List.map (val E) (x :: l) = val E x :: List.map (val E) l) ∧
    (∀ {α β : Type} {f : α → β} {a : α}, Option.map f (some a) = some (f a)) ∧
    (∀ {a b : Int}, abin .lss (.int .i64 a) (.int .i64 b) = some (.bool (decide (a < b)))) ∧
    (∀ {a b : Int}, abin .leq (.int .i64 a) (.int .i64 b) = some (.bool (decide (a ≤ b)))) ∧
    (∀ {a b : Int}, abin .gtr (.int .i64 a) (.int .i64 b) = some (.bool (decide (b < a)))) ∧
    (∀ {a b : Int}, abin .geq (.int .i64 a) (.int .i64 b) = some (.bool (decide (b ≤ a)))) ∧
    (∀ {a b : Int}, abin .eql (.int .i64 a) (.int .i64 b) = some (.bool (decide (a = b)))) ∧
    (∀ {a b : Int}, abin .neq (.int .i64 a) (.int .i64 b) = some (.bool (!decide (a = b)))) ∧
    (∀ {a b : Int}, abin .add (.int .i64 a) (.int .i64 b) = some (.int .i64 (IntKind.i64.wrap (a + b)))) ∧
    (∀ {a b : Int}, abin .sub (.int .i64 a) (.int .i64 b) = some (.int .i64 (IntKind.i64.wrap (a - b)))) ∧
    (∀ {a b : Int}, abin .mul (.int .i64 a) (.int .i64 b) = some (.int .i64 (IntKind.i64.wrap (a * b)))) ∧
    (∀ {a b : Int} (h : (b == 0) = false), abin .rem (.int .i64 a) (.int .i64 b) = some (.int .i64 (a.tmod b))) ∧
    (∀ {a b : Int} (h : (b == 0) = false), abin .quo (.int .i64 a) (.int .i64 b) = some (.int .i64 (IntKind.i64.wrap (a.tdiv b)))) ∧
    (∀ {c : CallA} {lo : Nat} {E : Env} {T : Tab} {x : Opd}, stepOp c lo E T (.mov x) = some (val E x, T)) ∧
    (∀ {c : CallA} {lo : Nat} {E : Env} {T : Tab} {n : Nat}, stepOp c lo E T (.tnil n) = some (.sl true n T.length 0 0 0, T ++ [.arr 0 []])) ∧
    (∀ {c : CallA} {lo : Nat} {E : Env} {T : Tab} {op : BinOp} {x y : Opd}, stepOp c lo E T (.bin op x y) = valK T (abin op (val E x) (val E y))) ∧
    (∀ {T : Tab} {v : AV}, valK T (some v) = some (v, T)) ∧
    (∀ {c : CallA} {lo : Nat} {E : Env} {T : Tab} {x a b : Opd}, stepOp c lo E T (.pick x a b) = pickK (val E a) (val E b) T (val E x)) ∧
    (∀ {a b : AV} {T : Tab}, pickK a b T (.bool true) = some (a, T)) ∧
    (∀ {a b : AV} {T : Tab}, pickK a b T (.bool false) = some (b, T)) ∧
    (∀ {c : CallA} {lo : Nat} {E : Env} {T : Tab} {x : Opd}, stepOp c lo E T (.box x) = boxK T (val E x)) ∧
    (∀ {T : Tab} {k : IntKind} {n : Int}, boxK T (.int k n) = some (.ptr T.length 0, T ++ [.box [.int k n]])) ∧
    (∀ {T : Tab} {b : Bool}, boxK T (.bool b) = some (.ptr T.length 0, T ++ [.box [.bool b]])) ∧
    (∀ {T : Tab} {nl : Nl} {n : Nat} {es : List AV}, boxK T (.fz nl n es) = some (.ptr T.length 0, T ++ [.box [.fz nl n es]])) ∧
    (∀ {T : Tab} {mb : Bool} {n t g off len : Nat}, boxK T (.sl mb n t g off len) = some (.ptr T.length 0, T ++ [.box [.sl mb n t g off len]])) ∧
    (∀ {T : Tab} {f : Nat} {fs cs : List AV}, boxK T (.clos f fs cs) = some (.ptr T.length 0, T ++ [.box [.clos f fs cs]])) ∧
    (∀ {T : Tab} {t off : Nat}, boxK T (.ptr t off) = some (.ptr T.length 0, T ++ [.box [.ptr t off]])) ∧
    (∀ {T : Tab} {cs : List AV} (h : cs.all AV.one = true), boxK T (.agg cs) = some (.ptr T.length 0, T ++ [.box cs])) ∧
    (∀ {k : IntKind} {n : Int}, AV.one (.int k n) = true) ∧
    (∀ {b : Bool}, AV.one (.bool b) = true) ∧
    (∀ {nl : Nl} {n : Nat} {es : List AV}, AV.one (.fz nl n es) = true) ∧
    (∀ {mb : Bool} {n t g off len : Nat}, AV.one (.sl mb n t g off len) = true) ∧
    (∀ {t off : Nat}, AV.one (.ptr t off) = true) ∧
    (∀ {f : Nat} {fs cs : List AV}, AV.one (.clos f fs cs) = true) ∧
    (∀ {p : AV → Bool}, List.all [] p = true) ∧
    (∀ {p : AV → Bool} {a : AV} {l : List AV}, List.all (a :: l) p = (p a && List.all l p)) ∧
    (∀ {b : Bool}, (true && b) = b) ∧
    (∀ {b : Bool}, (false && b) = false) ∧
    (∀ {b : Bool}, (b && true) = b) ∧
    (∀ {b : Bool}, (true || b) = true) ∧
    (∀ {b : Bool}, (false || b) = b) ∧
    ((!true) = false) ∧
    ((!false) = true) ∧
    (∀ {c : CallA} {lo : Nat} {E : Env} {T : Tab} {n : Nat} {x i : Opd}, stepOp c lo E T (.ixs n x i) = ixsK n (val E x) T (val E i)) ∧
    (∀ {T : Tab} {n j : Nat} {nl : Nl} {es : List AV} (h : j < es.length), ixsK n (.fz nl n es) T (.int .i64 (j : Int)) = some (.ep (.fz nl n es) j 0, T)) ∧
    (∀ {T : Tab} {n j : Nat} {mb : Bool} {t g off len : Nat} (h : j < len), ixsK n (.sl mb n t g off len) T (.int .i64 (j : Int)) = some (.ep (.sl mb n t g off len) j 0, T)) ∧
    (∀ {c : CallA} {lo : Nat} {E : Env} {T : Tab} {agg : Bool} {n : Nat} {a : Opd}, stepOp c lo E T (.ld agg n a) = ldK T agg n (val E a)) ∧
    (∀ {T : Tab} {s : AV} {j : Nat}, ldK T false 1 (.ep s j 0) = oneK T (atK j (rd T s))) ∧
    (∀ {T : Tab} {s : AV} {n j : Nat}, ldK T true n (.ep s j 0) = aggK T n (atK j (rd T s))) ∧
    (∀ {T : Tab} {s : AV} {j o : Nat}, ldK T false 1 (.ep s j (o + 1)) = celK T (o + 1) (atK j (rd T s))) ∧
    (∀ {T : Tab} {t o : Nat}, ldK T false 1 (.ptr t o) = boxLd T o (tget T t)) ∧
    (∀ {T : Tab} {t o n : Nat}, ldK T true n (.ptr t o) = boxLdA T o n (tget T t)) ∧
    (∀ {j : Nat} {es : List AV}, atK j (some es) = es[j]?) ∧
    (∀ {T : Tab} {k : IntKind} {n : Int}, oneK T (some (.int k n)) = some (.int k n, T)) ∧
    (∀ {T : Tab} {b : Bool}, oneK T (some (.bool b)) = some (.bool b, T)) ∧
    (∀ {T : Tab} {nl : Nl} {n : Nat} {es : List AV}, oneK T (some (.fz nl n es)) = some (.fz nl n es, T)) ∧
    (∀ {T : Tab} {mb : Bool} {n t g off len : Nat}, oneK T (some (.sl mb n t g off len)) = some (.sl mb n t g off len, T)) ∧
    (∀ {T : Tab} {t o : Nat}, oneK T (some (.ptr t o)) = some (.ptr t o, T)) ∧
    (∀ {T : Tab} {f : Nat} {fs cs : List AV}, oneK T (some (.clos f fs cs)) = some (.clos f fs cs, T)) ∧
    (∀ {T : Tab} {t : Nat}, oneK T (some (.mapr t)) = some (.mapr t, T)) ∧
    (∀ {T : Tab} {n : Nat} {cs : List AV} (h : (cs.length == n) = true), aggK T n (some (.agg cs)) = some (.agg cs, T)) ∧
    (∀ {T : Tab} {o : Nat} {cs : List AV}, celK T o (some (.agg cs)) = valK T cs[o]?) ∧
    (∀ {T : Tab} {o : Nat} {cs : List AV}, boxLd T o (.box cs) = valK T cs[o]?) ∧
    (∀ {T : Tab} {n : Nat} {cs : List AV} (h : (cs.length == n) = true), boxLdA T 0 n (.box cs) = some (.agg cs, T)) ∧
    (∀ {T : Tab} {nl : Nl} {n : Nat} {es : List AV}, rd T (.fz nl n es) = some es) ∧
    (∀ {T : Tab} {mb : Bool} {n t g len : Nat}, rd T (.sl mb n t g 0 len) = rdK g len (tget T t)) ∧
    (∀ {g len : Nat} {es : List AV} (h : (es.length == len) = true), rdK g len (.arr g es) = some es) ∧
    (∀ {o : Obj} {T : Tab}, tget (o :: T) 0 = o) ∧
    (∀ {o : Obj} {T : Tab} {k : Nat}, tget (o :: T) (k + 1) = tget T k) ∧
    (∀ {α : Type} {a : α} {l : List α}, (a :: l)[0]? = some a) ∧
    (∀ {α : Type} {a : α} {l : List α} {k : Nat}, (a :: l)[k + 1]? = l[k]?) ∧
    (∀ {α β : Type} {f : α → β} {l : List α} {k : Nat}, (List.map f l)[k]? = Option.map f l[k]?) ∧
    (∀ {α : Type}, ([] : List α).length = 0) ∧
    (∀ {α : Type} {a : α} {l : List α}, (a :: l).length = l.length + 1) ∧
    (∀ {α β : Type} {f : α → β} {l : List α}, (List.map f l).length = l.length) ∧
    (∀ {α : Type} {l : List α}, [] ++ l = l) ∧
    (∀ {α : Type} {a : α} {l l' : List α}, a :: l ++ l' = a :: (l ++ l')) ∧
    (∀ {α : Type} {a b : α} {l : List α}, (a :: l).set 0 b = b :: l) ∧
    (∀ {α : Type} {a b : α} {l : List α} {k : Nat}, (a :: l).set (k + 1) b = a :: l.set k b) ∧
    (∀ {c : CallA} {lo : Nat} {E : Env} {T : Tab} {n : Nat} {a x : Opd}, stepOp c lo E T (.st n a x) = stK lo T n (val E a) (val E x)) ∧
    (∀ {lo : Nat} {T : Tab} {mb : Bool} {t g l i : Nat} {v : AV} (h1 : v.one = true) (h2 : decide (lo ≤ t) = true) (h3 : decide (i < l) = true), stK lo T 1 (.ep (.sl mb 1 t g 0 l) i 0) v = stA T t g l i v (tget T t)) ∧
    (∀ {T : Tab} {t g l i : Nat} {v : AV} {es : List AV} (h : (es.length == l) = true), stA T t g l i v (.arr g es) = some (.tup [], T.set t (.arr g (es.set i v)))) ∧
    (∀ {lo : Nat} {T : Tab} {t o : Nat} {v : AV} (h1 : v.one = true) (h2 : decide (lo ≤ t) = true), stK lo T 1 (.ptr t o) v = stB T t o v (tget T t)) ∧
    (∀ {T : Tab} {t o : Nat} {v : AV} {cs : List AV} (h : decide (o < cs.length) = true), stB T t o v (.box cs) = some (.tup [], T.set t (.box (cs.set o v)))) ∧
    (∀ {c : CallA} {lo : Nat} {E : Env} {T : Tab} {x : Opd}, stepOp c lo E T (.nilck x) = nilK T (val E x)) ∧
    (∀ {T : Tab} {t o : Nat}, nilK T (.ptr t o) = some (.ptr t o, T)) ∧
    (∀ {T : Tab} {s : AV} {i o : Nat}, nilK T (.ep s i o) = some (.ep s i o, T)) ∧
    (∀ {T : Tab} {f : Nat} {fs cs : List AV}, nilK T (.clos f fs cs) = some (.clos f fs cs, T)) ∧
    (∀ {c : CallA} {lo : Nat} {E : Env} {T : Tab} {n : Bool} {x y : Opd}, stepOp c lo E T (.beq n x y) = beqK n T (val E x) (val E y)) ∧
    (∀ {T : Tab} {a b : Bool}, beqK false T (.bool a) (.bool b) = some (.bool (a == b), T)) ∧
    (∀ {T : Tab} {a b : Bool}, beqK true T (.bool a) (.bool b) = some (.bool (!(a == b)), T)) ∧
    (∀ {c : CallA} {lo : Nat} {E : Env} {T : Tab} {x : Opd}, stepOp c lo E T (.isn x) = isnK T (val E x)) ∧
    (∀ {T : Tab} {n : Nat} {es : List AV}, isnK T (.fz .isnil n es) = some (.bool true, T)) ∧
    (∀ {T : Tab} {n : Nat} {es : List AV}, isnK T (.fz .nonnil n es) = some (.bool false, T)) ∧
    (∀ {c : CallA} {lo : Nat} {E : Env} {T : Tab} {x : Opd}, stepOp c lo E T (.not x) = notK T (val E x)) ∧
    (∀ {T : Tab} {b : Bool}, notK T (.bool b) = some (.bool (!b), T)) ∧
    (∀ {c : CallA} {lo : Nat} {E : Env} {T : Tab} {k : IntKind} {x : Opd}, stepOp c lo E T (.cvt k x) = cvtK k T (val E x)) ∧
    (∀ {T : Tab} {k j : IntKind} {n : Int}, cvtK k T (.int j n) = some (.int k (k.wrap n), T)) ∧
    (∀ {c : CallA} {lo : Nat} {E : Env} {T : Tab} {ty : Nat} {x : Opd}, stepOp c lo E T (.mkif ty x) = some (.iface ty (val E x), T)) ∧
    (∀ {c : CallA} {lo : Nat} {E : Env} {T : Tab} {f : Nat} {fs cs : List Opd}, stepOp c lo E T (.mkfn f fs cs) = some (.clos f (fs.map (val E)) (cs.map (val E)), T)) ∧
    (∀ {c : CallA} {lo : Nat} {E : Env} {T : Tab}, stepOp c lo E T .mkmap = some (.mapr T.length, T ++ [.map []])) ∧
    (∀ {c : CallA} {lo : Nat} {E : Env} {T : Tab} {n : Nat} {z : AV} {l : Opd}, stepOp c lo E T (.mksl n z l) = mkslK n z T (val E l)) ∧
    (∀ {T : Tab} {n m : Nat} {z : AV} (h : decide (m ≤ 1073741824) = true), mkslK n z T (.int .i64 (m : Int)) = some (.sl false n T.length 0 0 m, T ++ [.arr 0 (List.replicate m z)])) ∧
    (∀ {c : CallA} {lo : Nat} {E : Env} {T : Tab} {o : Nat} {x : Opd}, stepOp c lo E T (.fld o x) = fldK o T (val E x)) ∧
    (∀ {T : Tab} {o t p : Nat}, fldK o T (.ptr t p) = some (.ptr t (p + o), T)) ∧
    (∀ {T : Tab} {o i p : Nat} {s : AV}, fldK o T (.ep s i p) = some (.ep s i (p + o), T)) ∧
    (∀ {c : CallA} {lo : Nat} {E : Env} {T : Tab} {x : Opd} {i : Nat}, stepOp c lo E T (.ext x i) = extK i T (val E x)) ∧
    (∀ {T : Tab} {i : Nat} {vs : List AV}, extK i T (.tup vs) = valK T vs[i]?) ∧
    (∀ {c : CallA} {lo : Nat} {E : Env} {T : Tab} {x : Opd}, stepOp c lo E T (.len x) = lenK T (val E x)) ∧
    (∀ {T : Tab} {nl : Nl} {n : Nat} {es : List AV}, lenK T (.fz nl n es) = some (.int .i64 (es.length : Int), T)) ∧
    (∀ {T : Tab} {mb : Bool} {n t g off len : Nat}, lenK T (.sl mb n t g off len) = some (.int .i64 (len : Int), T)) ∧
    (∀ {c : CallA} {lo : Nat} {E : Env} {T : Tab} {f : Nat} {xs : List Opd}, stepOp c lo E T (.call f xs) = c lo f (xs.map (val E)) T) ∧
    (∀ {c : CallA} {lo : Nat} {E : Env} {T : Tab} {x : Opd} {xs : List Opd}, stepOp c lo E T (.callv x xs) = clvK c lo T (xs.map (val E)) (val E x)) ∧
    (∀ {c : CallA} {lo : Nat} {T : Tab} {f : Nat} {as fs cs : List AV}, clvK c lo T as (.clos f fs cs) = c lo f (fs ++ as ++ cs) T) ∧
    (∀ {c : CallA} {lo : Nat} {E : Env} {T : Tab} {n : Nat} {es : List Opd}, stepOp c lo E T (.bsl false n es) = bslK n T (es.map (val E))) ∧
    (∀ {T : Tab} {n : Nat} {vs : List AV} (h : vs.all (elemOk n) = true), bslK n T vs = some (.fz .nonnil n vs, T)) ∧
    (∀ {c : CallA} {lo : Nat} {E : Env} {T : Tab} {n : Nat} {es : List Opd}, stepOp c lo E T (.bslT n es) = bslTK n T (es.map (val E))) ∧
    (∀ {T : Tab} {n : Nat} {vs : List AV} (h : vs.all (elemOk n) = true), bslTK n T vs = some (.sl false n T.length 0 0 vs.length, T ++ [.arr 0 vs])) ∧
    (∀ {v : AV}, elemOk 1 v = v.one) ∧
    (∀ {c : CallA} {lo : Nat} {E : Env} {T : Tab} {n : Nat} {s x : Opd}, stepOp c lo E T (.app n s x) = appK n lo T (val E s) (rd T (val E x)) (esz (val E x))) ∧
    (∀ {nl : Nl} {n : Nat} {es : List AV}, esz (.fz nl n es) = some n) ∧
    (∀ {mb : Bool} {n t g off len : Nat}, esz (.sl mb n t g off len) = some n) ∧
    (∀ {t off len : Nat}, esz (.asl t off len) = some 1) ∧
    (∀ {n lo : Nat} {T : Tab} {es : List AV} (h : decide (es.length ≤ 1073741824) = true), appK n lo T (.fz .isnil n []) (some es) (some n) = some (.sl true n T.length 0 0 es.length, T ++ [.arr 0 es])) ∧
    (∀ {n lo : Nat} {T : Tab} {mb : Bool} {t g len : Nat} {es : List AV} (h : decide (lo ≤ t) = true), appK n lo T (.sl mb n t g 0 len) (some es) (some n) = appA mb n T t g len es (tget T t)) ∧
    (∀ {mb : Bool} {n : Nat} {T : Tab} {t g len : Nat} {es old : List AV} (h : (old.length == len) = true) (h2 : decide (len + es.length ≤ 1073741824) = true), appA mb n T t g len es (.arr g old) = some (.sl mb n t (g + 1) 0 (len + es.length), T.set t (.arr (g + 1) (old ++ es)))) ∧
    (∀ {T : Tab} {t off len : Nat}, rd T (.asl t off len) = aslK off len (tget T t)) ∧
    (∀ {len : Nat} {cs : List AV} (h : (cs.length == len) = true), aslK 0 len (.box cs) = some cs) ∧
    (∀ {c : CallA} {lo : Nat} {E : Env} {T : Tab} {n : Nat} {x : Opd}, stepOp c lo E T (.slcA n x) = slcAK n T (val E x)) ∧
    (∀ {T : Tab} {n t o : Nat}, slcAK n T (.ptr t o) = some (.asl t o n, T)) ∧
    (∀ {c : CallA} {lo : Nat} {E : Env} {T : Tab} {z : List AV}, stepOp c lo E T (.alloc z []) = some (.ptr T.length 0, T ++ [.box z])) ∧
    (∀ {c : CallA} {lo : Nat} {E : Env} {T : Tab} {len n : Nat} {x i : Opd}, stepOp c lo E T (.ixa len n x i) = ixaK len n T (val E x) (val E i)) ∧
    (∀ {T : Tab} {len n j t o : Nat} (h : decide (j < len) = true), ixaK len n T (.ptr t o) (.int .i64 (j : Int)) = some (.ptr t (o + j * n), T)) ∧
    (∀ {c : CallA} {lo : Nat} {E : Env} {T : Tab} {z : List AV} {ps : List (Nat × Nat × Opd)}, stepOp c lo E T (.build z [] ps) = bldK z T (partsA E z.length ps)) ∧
    (∀ {z : List AV} {T : Tab} {l : List (Nat × List AV)}, bldK z T (some l) = some (.agg (fillA z l), T)) ∧
    (∀ {E : Env} {z : Nat}, partsA E z [] = some []) ∧
    (∀ {E : Env} {z off : Nat} {x : Opd} {r : List (Nat × Nat × Opd)} (h1 : (val E x).one = true) (h2 : decide (off + 1 ≤ z) = true), partsA E z ((off, 1, x) :: r) = (partsA E z r).map fun l => (off, [val E x]) :: l) ∧
    (∀ {E : Env} {z off n : Nat} {x : Opd} {r : List (Nat × Nat × Opd)} (h0 : ((val E x).cells.length == n + 2) = true) (h1 : (val E x).cells.all AV.one = true) (h2 : decide (off + (n + 2) ≤ z) = true), partsA E z ((off, n + 2, x) :: r) = (partsA E z r).map fun l => (off, (val E x).cells) :: l) ∧
    (∀ {cs : List AV}, AV.cells (.agg cs) = cs) ∧
    (∀ {z : List AV}, fillA z [] = z) ∧
    (∀ {z vs : List AV} {off : Nat} {r : List (Nat × List AV)}, fillA z ((off, vs) :: r) = fillA (wr z off vs) r) ∧
    (∀ {l : List AV}, wr l 0 [] = l) ∧
    (∀ {a v : AV} {l vs : List AV}, wr (a :: l) 0 (v :: vs) = v :: wr l 0 vs) ∧
    (∀ {a : AV} {l vs : List AV} {k : Nat}, wr (a :: l) (k + 1) vs = a :: wr l k vs) ∧
    (∀ {c : CallA} {lo : Nat} {E : Env} {T : Tab} {len n : Nat} {x i : Opd}, stepOp c lo E T (.ixv len n x i) = ixvK len n T (val E i) (val E x)) ∧
    (∀ {T : Tab} {len j : Nat} {cs : List AV} (h : decide (j < len) = true), ixvK len 1 T (.int .i64 (j : Int)) (.agg cs) = valK T cs[j]?) ∧
    (∀ {c : CallA} {lo : Nat} {E : Env} {T : Tab} {x y : Opd}, stepOp c lo E T (.mx [x, y]) = mxK T (val E x) (val E y)) ∧
    (∀ {T : Tab} {a b : Int}, mxK T (.int .i64 a) (.int .i64 b) = some (.int .i64 (max a b), T)) ∧
    (∀ {c : CallA} {lo : Nat} {E : Env} {T : Tab} {x y : Opd}, stepOp c lo E T (.mn [x, y]) = mnK T (val E x) (val E y)) ∧
    (∀ {T : Tab} {a b : Int}, mnK T (.int .i64 a) (.int .i64 b) = some (.int .i64 (min a b), T)) :=
  ⟨@ro_nil, @ro_cons, @ro_guard, @bk_some, @gk_true, @gk_false, @wk_1, @wk_2, @wk_3, @wk_4, @wk_5, @ex_reg, @ex_seq, @ex_cond, @ex_con, @ex_block, @ex_exit, @ex_ret, @ex_skip, @rk_some, @sk_nrm, @sk_ext, @sk_ret, @ck_true, @ck_false, @bl_nrm, @bl_ret, @bl_ext, @bl_ne, @lk_nrm, @lk_ret, @lk_ext, @rs_nil, @rs_cons, @get_hit, @get_miss, @put_some, @put_none, @val_t, @val_c, @map_val_nil, @map_val_cons, @om_some, @ab_lss, @ab_leq, @ab_gtr, @ab_geq, @ab_eql, @ab_neq, @ab_add, @ab_sub, @ab_mul, @ab_rem, @ab_quo, @so_mov, @so_tnil, @so_bin, @vk_some, @so_pick, @pk_true, @pk_false, @so_box, @bx_int, @bx_bool, @bx_fz, @bx_sl, @bx_clos, @bx_ptr, @bx_agg, @one_int, @one_bool, @one_fz, @one_sl, @one_ptr, @one_clos, @all_nil, @all_cons, @b_and1, @b_and2, @b_and3, @b_or1, @b_or2, @b_not1, @b_not2, @so_ixs, @ix_fz, @ix_sl, @so_ld, @ld_ep, @ld_epA, @ld_epo, @ld_ptr, @ld_ptrA, @at_some, @on_int, @on_bool, @on_fz, @on_sl, @on_ptr, @on_clos, @on_map, @ag_agg, @cl_agg, @bl_box, @bl_boxA, @rd_fz, @rd_sl, @rk_arr, @tg_zero, @tg_succ, @gz, @gs, @gm, @ll_nil, @ll_cons, @ll_map, @ap_nil, @ap_cons, @st_zero, @st_succ, @so_st, @sk_ep, @sa_arr, @sk_ptr, @sb_box, @so_nilck, @nk_ptr, @nk_ep, @nk_clos, @so_beq, @bq_f, @bq_t, @so_isn, @is_nil, @is_non, @so_not, @nt_bool, @so_cvt, @cv_int, @so_mkif, @so_mkfn, @so_mkmap, @so_mksl, @ms_nat, @so_fld, @fk_ptr, @fk_ep, @so_ext, @et_tup, @so_len, @ln_fz, @ln_sl, @so_call, @so_callv, @cv_clos, @so_bsl, @bs_ok, @so_bslT, @bt_ok, @el_one, @so_app, @esz_fz, @esz_sl, @esz_asl, @ak_nil, @ak_sl, @aa_arr, @rk_asl, @ask_box, @so_slcA, @sc_ptr, @so_alloc, @so_ixa, @ia_ptr, @so_build, @bd_some, @pa_nil, @pa_one, @pa_agg, @cells_agg, @fa_nil, @fa_cons, @wr_nil, @wr_zero, @wr_succ, @so_ixv, @iv_agg, @so_mx, @mx_2, @so_mn, @mn_2⟩
end Go.Proofs.Ytlilfiekkaolkaa.Am
