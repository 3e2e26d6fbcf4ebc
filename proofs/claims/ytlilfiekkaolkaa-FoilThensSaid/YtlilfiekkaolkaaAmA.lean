/- The abstract machine of this seat: values, objects, code, and what a run of it answers. Plain definitions. -/
import GoSem.Core.Ast
import GoSem.Core.Value
import GoSem.Core.View
namespace Go.Proofs.Ytlilfiekkaolkaa.Am
open Go

/-- Is a slice nil? -/
inductive Nl where
  | isnil | nonnil | maybe
  deriving DecidableEq

/-- Abstract values. -/
inductive AV where
  | unk
  | int (k : IntKind) (n : Int)
  | bool (b : Bool)
  | fz (nl : Nl) (n : Nat) (es : List AV)
  | sl (mb : Bool) (n t g off len : Nat)
  | asl (t off len : Nat)
  | ptr (t off : Nat)
  | ep (s : AV) (i off : Nat)
  | clos (f : Nat) (fs cs : List AV)
  | iface (ty : Nat) (v : AV)
  | mapr (t : Nat)
  | tup (vs : List AV)
  | agg (cs : List AV)
  | nilf
  deriving Inhabited

def AV.cells : AV → List AV
  | .agg cs => cs
  | v => [v]

/-- The value of one cell. -/
def AV.one : AV → Bool
  | .agg _ => false
  | .tup _ => false
  | .unk => false
  | _ => true

/-- An element of a slice whose elements have n cells. -/
def elemOk (n : Nat) (v : AV) : Bool :=
  if n = 1 then v.one else match v with
  | .agg cs => cs.length == n && cs.all AV.one
  | _ => false

def scalar : AV → Bool
  | .int _ _ => true
  | .bool _ => true
  | _ => false

/-- Objects that a run owns. -/
inductive Obj where
  | dead
  | arr (g : Nat) (es : List AV)
  | box (cs : List AV)
  | map (kvs : List (AV × AV))
  deriving Inhabited

abbrev Tab := List Obj
def tget (T : Tab) (t : Nat) : Obj := (T[t]?).getD .dead

/-- What a slice holds. -/
def rd (T : Tab) : AV → Option (List AV)
  | .fz _ _ es => some es
  | .sl _ _ t g off len => match tget T t with
    | .arr g' es => if g = g' ∧ off + len ≤ es.length then some ((es.drop off).take len) else none
    | _ => none
  | .asl t off len => match tget T t with
    | .box cs => if off + len ≤ cs.length then some ((cs.drop off).take len) else none
    | _ => none
  | _ => none

def alen : AV → Option Nat
  | .fz _ _ es => some es.length
  | .sl _ _ _ _ _ len => some len
  | .asl _ _ len => some len
  | _ => none

def esz : AV → Option Nat
  | .fz _ n _ => some n
  | .sl _ n _ _ _ _ => some n
  | .asl _ _ _ => some 1
  | _ => none

def isNil : AV → Option Bool
  | .fz .isnil _ _ => some true
  | .fz .nonnil _ _ => some false
  | .fz .maybe _ es => match es with
    | [] => none
    | _ :: _ => some false
  | .sl mb _ _ _ _ len => if 0 < len then some false else if mb then none else some false
  | .asl _ _ _ => some false
  | _ => none

/-- The cells that lie from a pointer on. -/
def pcells (T : Tab) : AV → Option (List AV)
  | .ptr t off => match tget T t with
    | .box cs => some (cs.drop off)
    | _ => none
  | .ep s i off => match rd T s with
    | some es => (es[i]?).map fun e => e.cells.drop off
    | none => none
  | _ => none

def ldv (T : Tab) (agg : Bool) (n : Nat) (p : AV) : Option AV :=
  match pcells T p with
  | some cs => if agg then (if n ≤ cs.length then some (.agg (cs.take n)) else none) else cs.head?
  | none => none

def wr (cs : List AV) (off : Nat) (vs : List AV) : List AV := cs.take off ++ vs ++ cs.drop (off + vs.length)
def ewr (e : AV) (off : Nat) (vs : List AV) : AV := match e with
  | .agg cs => .agg (wr cs off vs)
  | e => e

/-- A store. -/
def stv (lo : Nat) (T : Tab) (n : Nat) (p v : AV) : Option Tab :=
  if v.cells.length = n ∧ v.cells.all AV.one = true then
    match p with
    | .ptr t off => match tget T t with
      | .box cs => if lo ≤ t ∧ off + n ≤ cs.length then some (T.set t (.box (wr cs off v.cells))) else none
      | _ => none
    | .ep (.sl _ n' t g o l) i off => match tget T t with
      | .arr g' es =>
        if lo ≤ t ∧ g = g' ∧ o + l ≤ es.length ∧ i < l ∧ off + n ≤ n' then
          if n' = 1 then (if v.one then some (T.set t (.arr g' (es.set (o + i) v))) else none)
          else some (T.set t (.arr g' (es.modify (o + i) fun e => ewr e off v.cells)))
        else none
      | _ => none
    | _ => none
  else none

/-- Operands: a temporary, or a constant. -/
inductive Opd where
  | t (n : Nat)
  | c (v : AV)
  deriving Inhabited

inductive MOp where
  | mov (x : Opd)
  | tnil (n : Nat)
  | pick (c a b : Opd)
  | box (x : Opd)
  | alloc (z : List AV) (toks : List (Nat × Nat))
  | build (z : List AV) (toks : List (Nat × Nat)) (parts : List (Nat × Nat × Opd))
  | bsl (frz : Bool) (n : Nat) (es : List Opd)
  | bslT (n : Nat) (es : List Opd)
  | ld (agg : Bool) (n : Nat) (a : Opd)
  | st (n : Nat) (a x : Opd)
  | nilck (x : Opd)
  | bin (op : BinOp) (x y : Opd)
  | beq (neg : Bool) (x y : Opd)
  | isn (x : Opd)
  | not (x : Opd)
  | cvt (k : IntKind) (x : Opd)
  | mkif (ty : Nat) (x : Opd)
  | mkfn (f : Nat) (fs cs : List Opd)
  | mkmap
  | mksl (n : Nat) (z : AV) (l : Opd)
  | mkrows (n' : Nat) (l : Opd)
  | slc (n : Nat) (x : Opd) (lo hi : Option Opd)
  | slcA (n : Nat) (x : Opd)
  | fld (off : Nat) (x : Opd)
  | ixs (n : Nat) (x i : Opd)
  | ixa (len n : Nat) (x i : Opd)
  | ixv (len n : Nat) (x i : Opd)
  | lkp (kn : Option Nat) (z : AV) (m k : Opd)
  | mup (kn : Option Nat) (m k v : Opd)
  | ext (x : Opd) (i : Nat)
  | tas (ty : Nat) (x : Opd)
  | call (f : Nat) (args : List Opd)
  | callv (f : Opd) (args : List Opd)
  | inv (tbl : List (Nat × Nat × Option (Bool × Nat))) (x : Opd) (args : List Opd)
  | len (x : Opd)
  | app (n : Nat) (s x : Opd)
  | cpy (n : Nat) (d s : Opd)
  | mx (xs : List Opd)
  | mn (xs : List Opd)
  | bad
  | aeq (neg : Bool) (n : Nat) (x y : Opd)
  deriving Inhabited

/-- E: no memory is looked at. R: memory is read. A: an object is made. L: an object is changed. -/
inductive Cls where
  | E | R | A | L
  deriving DecidableEq, Inhabited

structure MOper where
  dst : Option Nat
  guard : Option (Nat × Bool)
  op : MOp
  cls : Cls := .E
  stab : Bool := false
  deriving Inhabited

inductive MCode where
  | reg (draw : Bool) (ops : List MOper) (live : List Nat)
  | seq (a b : MCode)
  | cond (t : Nat) (a b : MCode)
  | con (c : Bool) (a : MCode)
  | block (id : Nat) (b : MCode)
  | loop (keep : List Nat) (b : MCode)
  | frzv (t : Nat) (b : MCode)
  | exit (id : Nat)
  | ret
  | skip
  deriving Inhabited

inductive MRes where
  | tmp (t : Nat)
  | cell (a : Nat) (agg : Bool) (n : Nat)

/-- pol: 0: what it made stays; 1: its results are frozen, nothing else stays, it writes nothing that was there; 2: its result is a slice of its own; 3: it is handed values alone, and hands back values; 4: it is handed values alone, its result is a slice of its own. -/
structure MFunc where
  pol : Nat
  res : List MRes
  code : MCode

abbrev Env := List (Nat × AV)
def get : Env → Nat → AV
  | [], _ => .unk
  | (u, v) :: r, t => if u = t then v else get r t
def put (E : Env) (d : Option Nat) (v : AV) : Env := match d with
  | some t => (t, v) :: E
  | none => E
def restrict (l : List Nat) (E : Env) : Env := l.map fun t => (t, get E t)
def val (E : Env) : Opd → AV
  | .t n => get E n
  | .c v => v

/-! ### Freezing -/
def mapO {α β : Type} (f : α → Option β) : List α → Option (List β)
  | [] => some []
  | v :: r => match f v, mapO f r with
    | some v', some r' => some (v' :: r')
    | _, _ => none

/-- What a value is when all that was made from token n0 on is frozen; the depth bounds how far it goes. -/
def frz (n0 : Nat) (T : Tab) : Nat → AV → Option AV
  | 0, _ => none
  | d + 1, v => match v with
    | .int k n => some (.int k n)
    | .bool b => some (.bool b)
    | .fz nl n es => (mapO (frz n0 T d) es).map (.fz nl n)
    | .sl mb n t g off len => if t < n0 then some (.sl mb n t g off len) else
      match rd T (.sl mb n t g off len) with
      | some es => (mapO (frz n0 T d) es).map (.fz (if mb then .maybe else .nonnil) n)
      | none => none
    | .ptr t off => if t < n0 then some (.ptr t off) else none
    | .tup vs => (mapO (frz n0 T d) vs).map .tup
    | .agg vs => (mapO (frz n0 T d) vs).map .agg
    | .iface ty v => (frz n0 T d v).map (.iface ty)
    | _ => none

/-- How deep it goes. -/
def deep : Nat := 5

/-! ### Operations -/
def ibin (op : BinOp) (k : IntKind) (a b : Int) : Option AV :=
  match op with
  | .add => some (.int k (k.wrap (a + b)))
  | .sub => some (.int k (k.wrap (a - b)))
  | .mul => some (.int k (k.wrap (a * b)))
  | .quo => if b = 0 then none else some (.int k (k.wrap (a.tdiv b)))
  | .rem => if b = 0 then none else some (.int k (a.tmod b))
  | .and => some (.int k (k.wrap ((BitVec.ofInt k.bits a &&& BitVec.ofInt k.bits b).toNat : Int)))
  | .eql => some (.bool (a == b))
  | .neq => some (.bool (a != b))
  | .lss => some (.bool (decide (a < b)))
  | .leq => some (.bool (decide (a ≤ b)))
  | .gtr => some (.bool (decide (a > b)))
  | .geq => some (.bool (decide (a ≥ b)))
  | _ => none

def abin (op : BinOp) (x y : AV) : Option AV :=
  match x, y with
  | .int k a, .int k' b =>
    if op = .shr then (if b < 0 then none else some (.int k (a.fdiv (2 ^ (min b.toNat k.bits)))))
    else if k = k' then ibin op k a b else none
  | _, _ => none

def wrapAll (k : IntKind) (v : AV) : Option AV := match v with
  | .int _ n => some (.int k (k.wrap n))
  | _ => none

/-- Fresh tokens of no elements in the place of nil slices. -/
def toksInto (z : List AV) (T : Tab) : List (Nat × Nat) → List AV × Tab
  | [] => (z, T)
  | (off, n) :: r => toksInto (z.set off (.sl true n T.length 0 0 0)) (T ++ [.arr 0 []]) r

def fillA : List AV → List (Nat × List AV) → List AV
  | z, [] => z
  | z, (off, vs) :: r => fillA (wr z off vs) r

def partsA (E : Env) (z : Nat) : List (Nat × Nat × Opd) → Option (List (Nat × List AV))
  | [] => some []
  | (off, size, x) :: r =>
    if (val E x).cells.length = size ∧ off + size ≤ z ∧ (val E x).cells.all AV.one = true then (partsA E z r).map fun l => (off, (val E x).cells) :: l else none

def intArgs : List AV → Option (List Int)
  | [] => some []
  | .int .i64 n :: r => (intArgs r).map (n :: ·)
  | _ :: _ => none

/-- The key of a map: its numbers. -/
def keyOf (kn : Option Nat) (v : AV) : Option (List Int) := match kn, v with
  | none, .int .i64 n => some [n]
  | some L, .agg cs => match intArgs cs with
    | some l => if l.length = L then some l else none
    | none => none
  | _, _ => none

def findK (kn : Option Nat) (k : List Int) : List (AV × AV) → Option (Option AV)
  | [] => some none
  | (x, v) :: r => match keyOf kn x with
    | some k' => if k' = k then some (some v) else findK kn k r
    | none => none

def putK (kn : Option Nat) (key : AV) (k : List Int) (v : AV) : List (AV × AV) → Option (List (AV × AV))
  | [] => some [(key, v)]
  | (x, u) :: r => match keyOf kn x with
    | some k' => if k' = k then some ((key, v) :: r) else (putK kn key k v r).map fun r' => (x, u) :: r'
    | none => none

def findM (ty : Nat) : List (Nat × Nat × Option (Bool × Nat)) → Option (Nat × Option (Bool × Nat))
  | [] => none
  | (t, f, d) :: r => if t = ty then some (f, d) else findM ty r

/-- The bounds of a slice expression. -/
def hiA (E : Env) (len : Nat) : Option Opd → Option Int
  | none => some (len : Int)
  | some o => match val E o with
    | .int .i64 m => some m
    | _ => none
def loA (E : Env) : Option Opd → Option Int
  | none => some (0 : Int)
  | some o => match val E o with
    | .int .i64 m => some m
    | _ => none

abbrev CallA := Nat → Nat → List AV → Tab → Option (AV × Tab)

/-- One operation: its value, and the objects behind it. -/
def stepOp (call : CallA) (lo : Nat) (E : Env) (T : Tab) : MOp → Option (AV × Tab)
  | .mov x => some (val E x, T)
  | .tnil n => some (.sl true n T.length 0 0 0, T ++ [.arr 0 []])
  | .pick c a b => match val E c with
    | .bool c => some (if c then val E a else val E b, T)
    | _ => none
  | .box x => if (val E x).cells.all AV.one then some (.ptr T.length 0, T ++ [.box (val E x).cells]) else none
  | .alloc z toks => match toksInto z T toks with
    | (z', T') => some (.ptr T'.length 0, T' ++ [.box z'])
  | .build z toks parts => match toksInto z T toks with
    | (z', T') => match partsA E z.length parts with
      | some l => some (.agg (fillA z' l), T')
      | none => none
  | .bsl f n es =>
    let vs := es.map (val E)
    if f then
      match vs with
      | [.sl mb n' t g off len] => match rd T (.sl mb n' t g off len) with
        | some es => if lo ≤ t ∧ n = 1 ∧ es.all scalar = true then some (.fz .nonnil 1 [.fz (if mb then .maybe else .nonnil) n' es], T.set t .dead) else none
        | none => none
      | _ => none
    else if vs.all (elemOk n) then some (.fz .nonnil n vs, T) else none
  | .bslT n es =>
    let vs := es.map (val E)
    if vs.all (elemOk n) then some (.sl false n T.length 0 0 vs.length, T ++ [.arr 0 vs]) else none
  | .ld agg n a => (ldv T agg n (val E a)).map fun v => (v, T)
  | .st n a x => (stv lo T n (val E a) (val E x)).map fun T' => (.tup [], T')
  | .nilck x => match val E x with
    | .ptr t off => some (.ptr t off, T)
    | .ep s i off => some (.ep s i off, T)
    | .clos f fs cs => some (.clos f fs cs, T)
    | _ => none
  | .bin op x y => (abin op (val E x) (val E y)).map fun v => (v, T)
  | .beq neg x y => match val E x, val E y with
    | .bool a, .bool b => some (.bool (if neg then !(a == b) else a == b), T)
    | _, _ => none
  | .isn x => (isNil (val E x)).map fun b => (.bool b, T)
  | .not x => match val E x with
    | .bool b => some (.bool (!b), T)
    | _ => none
  | .cvt k x => (wrapAll k (val E x)).map fun v => (v, T)
  | .mkif ty x => some (.iface ty (val E x), T)
  | .mkfn f fs cs => some (.clos f (fs.map (val E)) (cs.map (val E)), T)
  | .mkmap => some (.mapr T.length, T ++ [.map []])
  | .mksl n z l => match val E l with
    | .int .i64 m => if 0 ≤ m ∧ m ≤ 1073741824 then some (.sl false n T.length 0 0 m.toNat, T ++ [.arr 0 (List.replicate m.toNat z)]) else none
    | _ => none
  | .mkrows n' l => match val E l with
    | .int .i64 m =>
      if 0 ≤ m ∧ m ≤ 1073741824 then
        some (.sl false 1 T.length 0 0 m.toNat, T ++ .arr 0 ((List.range m.toNat).map fun i => .sl true n' (T.length + 1 + i) 0 0 0) :: List.replicate m.toNat (.arr 0 []))
      else none
    | _ => none
  | .slc n x l h =>
    let s := val E x
    match alen s with
    | none => none
    | some len =>
      match hiA E len h, loA E l with
      | some hi, some lw =>
        if 0 ≤ lw ∧ lw ≤ hi ∧ hi ≤ len then
          match s with
          | .fz nl n' es => if n = n' then some (.fz nl n' ((es.take hi.toNat).drop lw.toNat), T) else none
          | .sl mb n' t g off _ => if n = n' then some (.sl mb n' t g (off + lw.toNat) (hi - lw).toNat, T) else none
          | _ => none
        else none
      | _, _ => none
  | .slcA n x => match val E x with
    | .ptr t off => some (.asl t off n, T)
    | _ => none
  | .fld off x => match val E x with
    | .ptr t o => some (.ptr t (o + off), T)
    | .ep s i o => some (.ep s i (o + off), T)
    | _ => none
  | .ixs n x i => match val E i with
    | .int .i64 m => match alen (val E x), esz (val E x) with
      | some len, some n' => if 0 ≤ m ∧ m < len ∧ n = n' then some (.ep (val E x) m.toNat 0, T) else none
      | _, _ => none
    | _ => none
  | .ixa len n x i => match val E i with
    | .int .i64 m =>
      if 0 ≤ m ∧ m < len then
        match val E x with
        | .ptr t o => some (.ptr t (o + m.toNat * n), T)
        | .ep s j o => some (.ep s j (o + m.toNat * n), T)
        | _ => none
      else none
    | _ => none
  | .ixv len n x i => match val E i, val E x with
    | .int .i64 m, .agg cs => if 0 ≤ m ∧ m < len ∧ n = 1 then (cs[m.toNat]?).map fun v => (v, T) else none
    | _, _ => none
  | .lkp kn z m k => match val E m, keyOf kn (val E k) with
    | .mapr t, some k => match tget T t with
      | .map kvs => match findK kn k kvs with
        | some r => some (r.getD z, T)
        | none => none
      | _ => none
    | _, _ => none
  | .mup kn m k v => match val E m, keyOf kn (val E k) with
    | .mapr t, some key => match tget T t with
      | .map kvs => match putK kn (val E k) key (val E v) kvs with
        | some kvs' => if lo ≤ t then some (.tup [], T.set t (.map kvs')) else none
        | none => none
      | _ => none
    | _, _ => none
  | .ext x i => match val E x with
    | .tup vs => (vs[i]?).map fun v => (v, T)
    | _ => none
  | .tas ty x => match val E x with
    | .iface t v => if t = ty then some (.tup [v, .bool true], T) else none
    | _ => none
  | .call f args => call lo f (args.map (val E)) T
  | .callv f args => match val E f with
    | .clos g fs cs => call lo g (fs ++ args.map (val E) ++ cs) T
    | _ => none
  | .inv tbl x args => match val E x with
    | .iface ty v => match findM ty tbl with
      | some (f, none) => call lo f (v :: args.map (val E)) T
      | some (f, some (agg, n)) => match ldv T agg n v with
        | some u => call lo f (u :: args.map (val E)) T
        | none => none
      | none => none
    | _ => none
  | .len x => (alen (val E x)).map fun (n : Nat) => (.int .i64 (n : Int), T)
  | .app n s x => match rd T (val E x), esz (val E x) with
    | some es, some n2 => match val E s with
      | .fz .isnil n' [] => if n' = n ∧ n2 = n ∧ es.length ≤ 1073741824 then
          some (.sl true n T.length 0 0 es.length, T ++ [.arr 0 es]) else none
      | .sl mb n' t g off len => match tget T t with
        | .arr g' old =>
          if lo ≤ t ∧ g = g' ∧ off + len ≤ old.length ∧ n' = n ∧ n2 = n ∧ len + es.length ≤ 1073741824 then
            some (.sl mb n t (g + 1) 0 (len + es.length), T.set t (.arr (g + 1) ((old.drop off).take len ++ es)))
          else none
        | _ => none
      | _ => none
    | _, _ => none
  | .cpy n d s => match rd T (val E s), esz (val E s), val E d with
    | some es, some n2, .sl _ n' t g off len => match tget T t with
      | .arr g' old =>
        if lo ≤ t ∧ g = g' ∧ off + len ≤ old.length ∧ n' = n ∧ n2 = n ∧ n = 1 then
          some (.int .i64 (min es.length len : Nat), T.set t (.arr g' (wr old off (es.take len))))
        else none
      | _ => none
    | _, _, _ => none
  | .mx xs => match intArgs (xs.map (val E)) with
    | some (x :: r) => some (.int .i64 (r.foldl (fun x y => if y > x then y else x) x), T)
    | _ => none
  | .mn xs => match intArgs (xs.map (val E)) with
    | some (x :: r) => some (.int .i64 (r.foldl (fun x y => if y < x then y else x) x), T)
    | _ => none
  | .bad => none
  | .aeq neg n x y => match val E x, val E y with
    | .agg cs, .agg ds => match intArgs cs, intArgs ds with
      | some a, some b => if a.length = n ∧ b.length = n then some (.bool (if neg then !decide (a = b) else decide (a = b)), T) else none
      | _, _ => none
    | _, _ => none

/-! ### Regions -/
def wants (E : Env) (g : Option (Nat × Bool)) : Option Bool := match g with
  | none => some true
  | some (t, want) => match get E t with
    | .bool b => some (b == want)
    | .tup [] => some false
    | _ => none

def runOps (call : CallA) (lo : Nat) : List MOper → Env → Tab → Option (Env × Tab)
  | [], E, T => some (E, T)
  | o :: r, E, T => match wants E o.guard with
    | none => none
    | some false => runOps call lo r (put E o.dst (.tup [])) T
    | some true => match stepOp call lo E T o.op with
      | some (v, T') => runOps call lo r (put E o.dst v) T'
      | none => none

/-! ### Are two values surely the same? -/
def all2 {α : Type} (f : α → α → Bool) : List α → List α → Bool
  | [], [] => true
  | a :: l, b :: l' => f a b && all2 f l l'
  | _, _ => false

def same : Nat → AV → AV → Bool
  | 0, _, _ => false
  | d + 1, v, u => match v, u with
    | .int k a, .int j b => decide (k = j) && decide (a = b)
    | .bool a, .bool b => a == b
    | .fz nl n es, .fz nl' n' es' => decide (nl = nl') && decide (n = n') && all2 (same d) es es'
    | .sl mb n t g o l, .sl mb' n' t' g' o' l' => (mb == mb') && decide (n = n') && decide (t = t') && decide (g = g') && decide (o = o') && decide (l = l')
    | .ptr t o, .ptr t' o' => decide (t = t') && decide (o = o')
    | _, _ => false

/-! ### A region whose order is open -/
structure Pend where
  agg : Bool
  n : Nat
  p : AV
  v : AV

def Pend.ok (T : Tab) (x : Pend) : Bool := match ldv T x.agg x.n x.p with
  | some u => same deep x.v u
  | none => false

def MOp.isE : MOp → Bool
  | .mov _ | .pick .. | .nilck _ | .bin .. | .beq .. | .isn _ | .not _ | .cvt .. | .mkif .. | .mkfn .. | .slc .. | .slcA .. | .fld .. | .ixs .. | .ixa .. | .ixv .. | .ext .. | .tas .. | .len _ | .mx _ | .mn _ | .aeq .. => true
  | .bsl f _ _ => !f
  | .build _ toks _ => toks.isEmpty
  | _ => false

/-- Does the operation only read? (The callee is quiet.) -/
def MOp.isR (quiet : Nat → Bool) (E : Env) : MOp → Bool
  | .ld .. | .lkp .. => true
  | .call f _ => quiet f
  | .callv f _ => match val E f with
    | .clos g _ _ => quiet g
    | _ => false
  | _ => false

/-- Does it make one object, whatever else is done? -/
def MOp.isA (E : Env) : MOp → Bool
  | .alloc _ [] | .mksl .. => true
  | .app _ s x => match val E s, val E x with
    | .fz .isnil _ [], .fz .. => true
    | _, _ => false
  | _ => false

/-- A place for each object that a region makes. -/
def nA : List MOper → Nat
  | [] => 0
  | o :: r => (if o.cls = .A then 1 else 0) + nA r
def pad (ops : List MOper) (T : Tab) : Tab := T ++ List.replicate (nA ops) .dead

def MOper.pend (o : MOper) (E : Env) (v : AV) : List Pend :=
  if o.stab then match o.op with
    | .ld agg n a => [⟨agg, n, val E a, v⟩]
    | _ => []
  else []

def runD (call : CallA) (quiet : Nat → Bool) (lo : Nat) (T0 : Tab) : List MOper → Bool → List Pend → Env → Tab → Option (Env × Tab)
  | [], _, _, E, T => some (E, T)
  | o :: r, seen, pd, E, T => match wants E o.guard with
    | none => none
    | some false => runD call quiet lo T0 r (seen || decide (o.cls = .L)) pd (put E o.dst (.tup [])) T
    | some true => match o.cls with
      | .E => if o.op.isE then
          match stepOp call lo E T o.op with
          | some (v, _) => runD call quiet lo T0 r seen pd (put E o.dst v) T
          | none => none
        else none
      | .R => if o.op.isR quiet E then
          match stepOp call lo E (if seen then T else T0) o.op with
          | some (v, _) => runD call quiet lo T0 r seen (o.pend E v ++ pd) (put E o.dst v) T
          | none => none
        else none
      | .A => if o.op.isA E && !seen then
          match stepOp call lo E T o.op with
          | some (v, T') => runD call quiet lo T0 r seen pd (put E o.dst v) T'
          | none => none
        else none
      | .L => match stepOp call lo E T o.op with
        | some (v, T') => if pd.all (Pend.ok T') then runD call quiet lo T0 r true pd (put E o.dst v) T' else none
        | none => none

/-! ### Code -/
inductive Out where
  | nrm (E : Env) (T : Tab)
  | ext (id : Nat) (E : Env) (T : Tab)
  | ret (E : Env) (T : Tab)

abbrev ExecA := Nat → MCode → Env → Tab → Option Out

def execF (call : CallA) (quiet : Nat → Bool) (ih : ExecA) (lo : Nat) : MCode → Env → Tab → Option Out
  | .reg draw ops live, E, T => match (if draw then runD call quiet lo (pad ops T) ops false [] E T else runOps call lo ops E T) with
    | some (E', T') => some (.nrm (restrict live E') T')
    | none => none
  | .seq a b, E, T => match execF call quiet ih lo a E T with
    | some (.nrm E' T') => execF call quiet ih lo b E' T'
    | r => r
  | .cond t a b, E, T => match get E t with
    | .bool c => if c then execF call quiet ih lo a E T else execF call quiet ih lo b E T
    | _ => none
  | .con _ a, E, T => execF call quiet ih lo a E T
  | .block id b, E, T => match execF call quiet ih lo b E T with
    | some (.ext id' E' T') => if id' = id then some (.nrm E' T') else some (.ext id' E' T')
    | r => r
  | .loop keep b, E, T => match execF call quiet ih lo b (restrict keep E) T with
    | some (.nrm E' T') => ih lo (.loop keep b) E' T'
    | r => r
  | .frzv t b, E, T => match get E t with
    | .sl mb n k g off len => match rd T (.sl mb n k g off len) with
      | some es => if lo ≤ k then execF call quiet ih lo b ((t, .fz (if mb then .maybe else .nonnil) n es) :: E) (T.set k .dead) else none
      | none => none
    | _ => none
  | .exit id, E, T => some (.ext id E T)
  | .ret, E, T => some (.ret E T)
  | .skip, E, T => some (.nrm E T)

def enter : Nat → List AV → Env
  | _, [] => []
  | i, v :: r => (i, v) :: enter (i + 1) r

def resA (E : Env) (T : Tab) : MRes → Option AV
  | .tmp t => some (get E t)
  | .cell a agg n => ldv T agg n (get E a)

def fin (m : MFunc) : Out → Option (AV × Tab)
  | .nrm E T | .ret E T => match mapO (resA E T) m.res with
    | some [v] => some (v, T)
    | some vs => some (.tup vs, T)
    | none => none
  | .ext .. => none

/-- Was all that lies behind a value made by the call itself? -/
def fresh (T : Tab) : Nat → AV → Bool
  | 0, _ => false
  | d + 1, v => match v with
    | .int _ _ => true
    | .bool _ => true
    | .fz _ _ [] => true
    | .sl mb n t g off len => match rd T (.sl mb n t g off len) with
      | some es => es.all (fresh T d)
      | none => false
    | .tup vs => vs.all (fresh T d)
    | .agg vs => vs.all (fresh T d)
    | _ => false

/-- A run over an empty table: what is handed back, frozen; and whether it is all the call's own. -/
def prunF (ex : ExecA) (m : MFunc) (as : List AV) : Option (AV × Bool) :=
  match ex 0 m.code (enter 0 as) [] with
  | some o => match fin m o with
    | some (v, T') => match frz 0 T' deep v with
      | some v' => some (v', fresh T' deep v)
      | none => none
    | none => none
  | none => none

def pcallF (ex : ExecA) (m : MFunc) (args : List AV) (T : Tab) : Option AV :=
  match mapO (frz 0 [] deep) args with
  | some as => match prunF ex m as with
    | some (v, _) => some v
    | none => none
  | none => match mapO (frz 0 T deep) args with
    | some as => match prunF ex m as with
      | some (v, b) => if b then some v else none
      | none => none
    | none => none

/-- The same, where a slice is handed back that is no one else's. -/
def ownF (ex : ExecA) (m : MFunc) (as : List AV) : Option ((Bool × Nat × List AV) × Bool) :=
  match ex 0 m.code (enter 0 as) [] with
  | some o => match fin m o with
    | some (.sl mb n t g off len, T') => match rd T' (.sl mb n t g off len) with
      | some es => match mapO (frz 0 (T'.set t .dead) deep) es with
        | some es' => some ((mb, n, es'), es.all (fresh (T'.set t .dead) deep))
        | none => none
      | none => none
    | _ => none
  | none => none

def ocallF (ex : ExecA) (m : MFunc) (args : List AV) (T : Tab) : Option (Bool × Nat × List AV) :=
  match mapO (frz 0 [] deep) args with
  | some as => match ownF ex m as with
    | some (v, _) => some v
    | none => none
  | none => match mapO (frz 0 T deep) args with
    | some as => match ownF ex m as with
      | some (v, b) => if b then some v else none
      | none => none
    | none => none

def callF (prog : Nat → Option MFunc) (ex : ExecA) (lo f : Nat) (args : List AV) (T : Tab) : Option (AV × Tab) :=
  match prog f with
  | none => none
  | some m =>
    if m.pol = 0 then
      match ex lo m.code (enter 0 args) T with
      | some o => fin m o
      | none => none
    else if m.pol = 3 then
      match pcallF ex m args T with
      | some v => some (v, T)
      | none => none
    else if m.pol = 4 then
      match ocallF ex m args T with
      | some (mb, n, es) => some (.sl mb n T.length 0 0 es.length, T ++ [.arr 0 es])
      | none => none
    else
      match ex T.length m.code (enter 0 args) T with
      | some o => match fin m o with
        | some (v, T') =>
          if m.pol = 1 then (frz T.length T' deep v).map fun v' => (v', T)
          else match v with
            | .sl mb n t g off len => if t < T.length then none else match rd T' (.sl mb n t g off len) with
              | some es => (mapO (frz T.length (T'.set t .dead) deep) es).map fun es' => (.sl mb n T.length 0 0 es'.length, T ++ [.arr 0 es'])
              | none => none
            | _ => none
        | none => none
      | none => none

def quietOf (prog : Nat → Option MFunc) (f : Nat) : Bool := match prog f with
  | some m => m.pol == 1 || m.pol == 3
  | none => false

/-- What a run with so much fuel answers. -/
def execN (prog : Nat → Option MFunc) : Nat → ExecA
  | 0 => fun _ _ _ _ => none
  | n + 1 => execF (callF prog (execN prog n)) (quietOf prog) (execN prog n)
end Go.Proofs.Ytlilfiekkaolkaa.Am
