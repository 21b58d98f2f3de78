/- A plain machine: Go's functions over values without addresses. Definitions alone. -/
import Derived.Calls
import Derived.Laws.BytesArg
set_option linter.unusedVariables false
set_option linter.unusedSimpArgs false
namespace Go.Am
open Go

/-- A plain value: slices that nobody writes are lists (sl; of a nil one the mark is true); rows that this run writes, and its variables in memory, have numbers (row, ref); imm is a pointer to what nobody writes. -/
inductive LV where
  | int (k : IntKind) (n : Int)
  | bool (b : Bool)
  | str (s : ByteArray)
  | agg (fs : List LV)
  | tup (fs : List LV)
  | sl (nil : Bool) (es : List LV)
  | slz
  | row (r z off len : Nat)
  | ref (r j k : Nat)
  | imm (e : LV) (k : Nat)
  | mp (r : Nat)
  | yld (r : Nat)
  | nilp
  | fn (f : Nat) (first caps : List LV)
  | undef
  deriving Inhabited

def LV.leaves : LV → List LV
  | .agg fs => fs
  | x => [x]

abbrev Env := Nat → LV
def upd (e : Env) (d : Nat) (v : LV) : Env := fun t => if t = d then v else e t

inductive Opd where
  | t (n : Nat)
  | c (v : LV)
  deriving Inhabited

def Opd.ev (e : Env) : Opd → LV
  | .t n => e n
  | .c v => v

inductive AOp where
  | mov (x : Opd)
  | pick (c a b : Opd)
  | box (x : Opd)
  | alc (v : LV)
  | build (zero : List LV) (parts : List (Nat × Nat × Opd))
  | bsl (E z : Nat) (parts : List Opd)
  | load (agg : Bool) (sz : Nat) (x : Opd)
  | store (sz : Nat) (x v : Opd)
  | nck (x : Opd)
  | bin (op : BinOp) (x y : Opd)
  | eqb (neg : Bool) (x y : Opd)
  | eqn (neg : Bool) (x : Opd)
  | eqs (neg : Bool) (x : Opd)
  | un (op : UnOp) (x : Opd)
  | conv (k : IntKind) (x : Opd)
  | b2s (x : Opd)
  | mkf (f : Nat) (first caps : List Opd)
  | mks (E z b : Nat) (zero : LV) (len : Opd)
  | slc (z : Nat) (x : Opd) (lo hi mx : Option Opd)
  | fad (off : Nat) (x : Opd)
  | fld (agg : Bool) (sz off : Nat) (x : Opd)
  | idx (z : Nat) (x i : Opd)
  | idxa (n z : Nat) (x i : Opd)
  | sidx (x i : Opd)
  | ext (x : Opd) (i : Nat)
  | len (x : Opd)
  | slen (x : Opd)
  | app (E z b : Nat) (x y : Opd)
  | mx (x : Opd) (ys : List Opd)
  | mn (x : Opd) (ys : List Opd)
  | cpy (E z : Nat) (x y : Opd)
  | clr (E : Nat) (zero : LV) (x : Opd)
  | call (f : Opd) (args : List Opd)
  | mkm
  | mup (x k v : Opd)
  | mlk (x k : Opd) (ok : Bool)
  | bad
  | at (r : Nat) (op : AOp)
  deriving Inhabited

structure AOper where
  dst : Option Nat
  guard : Option (Nat × Bool)
  op : AOp
  deriving Inhabited

inductive Ex where
  | nrm
  | exit (id : Nat)
  | ret
  deriving DecidableEq, Inhabited

inductive AC where
  | skip
  | reg (ops : List AOper) (pairs : List (Opd × Opd)) (q : Bool)
  | rgv (k : Nat) (ops : List AOper) (pairs : List (Opd × Opd)) (q : Bool)
  | seq (a b : AC)
  | cond (c : Opd) (a b : AC)
  | block (id : Nat) (a : AC)
  | loop (a : AC)
  | exit (id : Nat)
  | ret
  | scope (a : AC)
  | rng (f : Opd) (ps : List Nat) (asg body : AC)
  deriving Inhabited

inductive ARes where
  | tmp (t : Nat)
  | cell (t : Nat) (agg : Bool) (sz : Nat)
  deriving Inhabited

structure AF where
  ntmps : Nat
  res : List ARes
  code : AC
  deriving Inhabited

/-- How far a loop over a function is: a round may begin; one is under way; one has left by a jump. -/
inductive LSt where
  | ready
  | busy
  | done (x : Ex)
  | over
  deriving Inhabited

/-- What has a number: a variable in memory, a row (its elements' type; how many cells an element has; its elements; may it be written), a map, a loop over a function (its slots, where yield's values go, its assignments, its body), or what is no more. -/
inductive Obj where
  | cell (v : LV)
  | row (E z : Nat) (es : List LV) (mu : Bool)
  | mapo (es : List (Int × Int))
  | lp (st : LSt) (nt : Nat) (e : Env) (ps : List Nat) (asg body : AC)
  | dead
  deriving Inhabited

abbrev Store := List Obj

/-! ### what is asked of values -/

/-- A value without numbers, out of one with rows. -/
def closeLeaf (S : Store) : LV → Option LV
  | .row r _ off len => match S[r]? with
    | some (.row _ _ es _) => if off + len ≤ es.length then some (.sl false ((es.drop off).take len)) else none
    | _ => none
  | .int k n => some (.int k n)
  | .bool b => some (.bool b)
  | .str s => some (.str s)
  | .sl n es => some (.sl n es)
  | .slz => some .slz
  | .nilp => some .nilp
  | .imm e k => some (.imm e k)
  | .fn f [] [] => some (.fn f [] [])
  | _ => none

def mapO {α β : Type} (g : α → Option β) : List α → Option (List β)
  | [] => some []
  | x :: xs => match g x with
    | none => none
    | some y => match mapO g xs with
      | none => none
      | some ys => some (y :: ys)

def close (S : Store) : LV → Option LV
  | .agg fs => match mapO (closeLeaf S) fs with
    | none => none
    | some gs => some (.agg gs)
  | v => closeLeaf S v

/-- Has a value numbers of variables? -/
def refLeaf : LV → Bool
  | .ref _ _ _ => true
  | .yld _ => true
  | .fn _ (_ :: _) _ => true
  | .fn _ [] (_ :: _) => true
  | .agg _ => true
  | .tup _ => true
  | .undef => true
  | _ => false

def hasRef : LV → Bool
  | .agg fs => fs.any refLeaf
  | v => refLeaf v

/-- The rows of a value. -/
def rowsLeaf : LV → List Nat
  | .row r _ _ _ => [r]
  | _ => []
def rowsOf (v : LV) : List Nat := v.leaves.flatMap rowsLeaf

def freeze1 : Obj → Obj
  | .row E z es _ => .row E z es false
  | o => o
/-- These rows are no longer written. -/
def freeze (S : Store) : List Nat → Store
  | [] => S
  | r :: rs => freeze (S.modify r freeze1) rs

def plainLeaf : LV → Bool
  | .int _ _ => true
  | .bool _ => true
  | .str _ => true
  | _ => false

/-- Does a result hold memory that may be another's? -/
def foreignLeaf (S : Store) : LV → Bool
  | .int _ _ => false
  | .bool _ => false
  | .str _ => false
  | .nilp => false
  | .sl true [] => false
  | .fn _ [] [] => false
  | .row r _ _ _ => match S[r]? with
    | some (.row _ _ es _) => !(es.all plainLeaf)
    | _ => true
  | _ => true
def foreign (S : Store) : LV → Bool
  | .agg fs => fs.any (foreignLeaf S)
  | .tup fs => fs.any fun v => v.leaves.any (foreignLeaf S)
  | v => foreignLeaf S v

def closeRes (S : Store) : LV → Option LV
  | .tup fs => match mapO (close S) fs with
    | none => none
    | some gs => some (.tup gs)
  | v => close S v

/-- A result whose rows become the caller's own: the rows at the top, each once. -/
def ownLeaf (S : Store) (base : Nat) (have_ : List Nat) (G : List Obj) : LV → Option (LV × List Nat × List Obj)
  | .row r zz off len => match S[r]? with
    | some (.row E z es true) =>
      if off = 0 ∧ len = es.length ∧ zz = z ∧ r ∉ have_ ∧ es.all plainLeaf = true then some (.row (base + G.length) z 0 len, r :: have_, G ++ [.row E z es true]) else none
    | _ => none
  | .int k n => some (.int k n, have_, G)
  | .bool b => some (.bool b, have_, G)
  | .str s => some (.str s, have_, G)
  | .sl true [] => some (.sl true [], have_, G)
  | .nilp => some (.nilp, have_, G)
  | _ => none

def ownLeaves (S : Store) (base : Nat) : List Nat → List Obj → List LV → Option (List LV × List Nat × List Obj)
  | h, G, [] => some ([], h, G)
  | h, G, v :: vs => match ownLeaf S base h G v with
    | none => none
    | some (u, h', G') => match ownLeaves S base h' G' vs with
      | none => none
      | some (us, h'', G'') => some (u :: us, h'', G'')

def ownVal (S : Store) (base : Nat) (h : List Nat) (G : List Obj) : LV → Option (LV × List Nat × List Obj)
  | .agg fs => match ownLeaves S base h G fs with
    | none => none
    | some (us, h', G') => some (.agg us, h', G')
  | v => ownLeaf S base h G v

def ownVals (S : Store) (base : Nat) : List Nat → List Obj → List LV → Option (List LV × List Nat × List Obj)
  | h, G, [] => some ([], h, G)
  | h, G, v :: vs => match ownVal S base h G v with
    | none => none
    | some (u, h', G') => match ownVals S base h' G' vs with
      | none => none
      | some (us, h'', G'') => some (u :: us, h'', G'')

def ownRes (S : Store) (base : Nat) : LV → Option (LV × List Obj)
  | .tup fs => match ownVals S base [] [] fs with
    | none => none
    | some (us, _, G) => some (.tup us, G)
  | v => match ownVal S base [] [] v with
    | none => none
    | some (u, _, G) => some (u, G)

/-- A value that can be stored. -/
def solid : LV → Bool
  | .undef => false
  | .tup _ => false
  | _ => true

def byteOf : LV → Option Int
  | .int .u8 n => some n
  | _ => none

/-! ### operations -/
def intBits (op : BinOp) (k : IntKind) (x y : Int) : Option Int :=
  let a := BitVec.ofInt k.bits x
  let b := BitVec.ofInt k.bits y
  match op with
  | .and => some (k.wrap (a &&& b).toNat)
  | .or => some (k.wrap (a ||| b).toNat)
  | .xor => some (k.wrap (a ^^^ b).toNat)
  | .andNot => some (k.wrap (a &&& ~~~b).toNat)
  | _ => none

def abin (op : BinOp) : LV → LV → Option LV
  | .int k a, .int k' b =>
    match op with
    | .shl => if b < 0 then none else some (.int k (k.wrap (a * 2 ^ (min b.toNat k.bits))))
    | .shr => if b < 0 then none else some (.int k (a.fdiv (2 ^ (min b.toNat k.bits))))
    | op => if k ≠ k' then none else
      match op with
      | .add => some (.int k (k.wrap (a + b)))
      | .sub => some (.int k (k.wrap (a - b)))
      | .mul => some (.int k (k.wrap (a * b)))
      | .quo => if b = 0 then none else some (.int k (k.wrap (a.tdiv b)))
      | .rem => if b = 0 then none else some (.int k (a.tmod b))
      | .and | .or | .xor | .andNot => (intBits op k a b).map (LV.int k)
      | .eql => some (.bool (a == b))
      | .neq => some (.bool (a != b))
      | .lss => some (.bool (decide (a < b)))
      | .leq => some (.bool (decide (a ≤ b)))
      | .gtr => some (.bool (decide (a > b)))
      | .geq => some (.bool (decide (a ≥ b)))
      | _ => none
  | .str x, .str y =>
    match op with
    | .add => if x.size + y.size ≤ 9223372036854775807 then some (.str (x ++ y)) else none
    | .eql => some (.bool (x.toList == y.toList))
    | .neq => some (.bool (!(x.toList == y.toList)))
    | .lss => some (.bool (Op.bytesLess x.toList y.toList))
    | .leq => some (.bool (Op.bytesLess x.toList y.toList || x.toList == y.toList))
    | .gtr => some (.bool (!(Op.bytesLess x.toList y.toList || x.toList == y.toList)))
    | .geq => some (.bool (!Op.bytesLess x.toList y.toList))
    | _ => none
  | _, _ => none

def aun (op : UnOp) : LV → Option LV
  | .int k n => match op with
    | .neg => some (.int k (k.wrap (0 - n)))
    | .xor => (intBits .xor k (if k.signed then -1 else k.max) n).map (LV.int k)
    | _ => none
  | .bool b => match op with
    | .not => some (.bool (!b))
    | _ => none
  | _ => none

/-- A part of a value: of so many cells from one on. -/
def sub (agg : Bool) (sz k : Nat) (v : LV) : Option LV :=
  if agg then (if k + sz ≤ v.leaves.length then some (.agg ((v.leaves.drop k).take sz)) else none) else v.leaves[k]?

/-- A value with a part put in; a variable of one cell takes it whole. -/
def splice (k : Nat) (v : LV) (u : LV) : Option LV :=
  match v with
  | .agg fs => if k + u.leaves.length ≤ fs.length then some (.agg (fs.take k ++ u.leaves ++ fs.drop (k + u.leaves.length))) else none
  | _ => if k = 0 then (match u with | .agg _ => none | .tup _ => none | u => some u) else none

def fillZ (zero : List LV) : List (Nat × Nat × LV) → Option (List LV)
  | [] => some zero
  | (off, sz, v) :: rest =>
    if v.leaves.length = sz ∧ off + sz ≤ zero.length ∧ solid v = true then fillZ (zero.take off ++ v.leaves ++ zero.drop (off + sz)) rest else none

def lenOf (S : Store) : LV → Option Nat
  | .sl _ es => some es.length
  | .slz => some 0
  | .row _ _ _ len => some len
  | _ => none

/-- The elements of a slice. -/
def elems (S : Store) : LV → Option (List LV)
  | .sl _ es => some es
  | .slz => some []
  | .row r _ off len => match S[r]? with
    | some (.row _ _ es _) => if off + len ≤ es.length then some ((es.drop off).take len) else none
    | _ => none
  | _ => none

def natOf : LV → Option Nat
  | .int _ n => if 0 ≤ n then some n.toNat else none
  | _ => none

/-- The first element has so many cells (and so each). -/
def headSized (z : Nat) : List LV → Bool
  | [] => true
  | v :: _ => v.leaves.length == z

def wellSized (z : Nat) (vs : List LV) : Bool := vs.all fun v => v.leaves.length == z

/-- The bounds of 'x[lo:hi]' of something that is so long. -/
def bounds (n : Nat) (lo hi : Option LV) : Option (Nat × Nat) :=
  match (match lo with | none => some 0 | some v => natOf v), (match hi with | none => some n | some v => natOf v) with
  | some l, some h => if l ≤ h ∧ h ≤ n then some (l, h) else none
  | _, _ => none

def aslice (z : Nat) (x : LV) (lo hi mx : Option LV) : Option LV :=
  match mx with
  | some m => match lo, hi, natOf m with
    | none, some h, some 0 => if natOf h = some 0 then (match x with | .sl false _ => some .slz | .row _ _ _ _ => some .slz | .sl true [] => some (.sl true []) | _ => none) else none
    | _, _, _ => none
  | none =>
    match x with
    | .str s => if z = 0 then (bounds s.size lo hi).map fun (l, h) => .str (s.extract l h) else none
    | .sl n es => if z ≠ 0 ∧ headSized z es = true then (bounds es.length lo hi).map fun (l, h) => .sl n ((es.drop l).take (h - l)) else none
    | .row r z' off len => if z ≠ 0 ∧ z' = z then (bounds len lo hi).map fun (l, h) => .row r z' (off + l) (h - l) else none
    | _ => none

/-- The address of an element. -/
def aidx (z : Nat) : LV → Int → Option LV
  | .sl _ es, n => if 0 ≤ n then (match es[n.toNat]? with
    | some v => if solid v = true ∧ v.leaves.length = z then some (.imm v 0) else none
    | none => none) else none
  | .row r z' off len, n => if 0 ≤ n ∧ n < len ∧ z' = z then some (.ref r (off + n.toNat) 0) else none
  | _, _ => none

/-- Elements put behind a slice: a new row. -/
def aapp (E z : Nat) (S : Store) : LV → List LV → Option (LV × Store)
  | .sl true [], ys => if ys = [] then some (.sl true [], S) else if ys.length ≤ 4294967296 then some (.row S.length z 0 ys.length, S ++ [.row E z ys true]) else none
  | .row r _ off len, ys => match S[r]? with
    | some (.row E' z' es true) =>
      if off = 0 ∧ len = es.length ∧ E' = E ∧ z' = z ∧ es.length + ys.length ≤ 4294967296 then
        some (.row S.length z 0 (es.length + ys.length), S.set r .dead ++ [.row E z (es ++ ys) true])
      else none
    | _ => none
  | .slz, ys => if ys = [] then some (.slz, S) else if ys.length ≤ 4294967296 then some (.row S.length z 0 ys.length, S ++ [.row E z ys true]) else none
  | _, _ => none

def amax (x : LV) : List LV → Option LV
  | [] => some x
  | y :: ys => match x, y with
    | .int k a, .int k' b => amax (.int k (if b > a then b else a)) ys
    | _, _ => none
def amin (x : LV) : List LV → Option LV
  | [] => some x
  | y :: ys => match x, y with
    | .int k a, .int k' b => amin (.int k (if b < a then b else a)) ys
    | _, _ => none

/-- How functions are called: which work in the caller's store; of which the results' rows become the caller's own. -/
structure Cfg where
  bor : Nat → Bool
  own : Nat → Bool
  /-- are the rows in what comes closed, where it works in the caller's store? -/
  cl : Nat → Bool
  /-- may a calm call work in the caller's store, if it but adds to it? -/
  weak : Bool

/-- The number under which yield is called. -/
def yB : Nat := 1000000007

abbrev Call := Nat → List LV → Store → Option (LV × Store)

/-- The rows of a result. -/
def resRows : LV → List Nat
  | .tup fs => fs.flatMap rowsOf
  | v => rowsOf v
/-- A result whose rows are written no more. -/
def closeOut (S : Store) (r : LV) : Option (LV × Store) :=
  match closeRes S r with
  | none => none
  | some r' => some (r', freeze S (resRows r))

/-- A call in the caller's store. -/
def acallR (C : Cfg) (W : Call) (f : Nat) (args : List LV) (S : Store) : Option (LV × Store) :=
  match W f args S with
  | none => none
  | some (r, S') => if C.cl f then closeOut S' r else some (r, S')

open Classical in
/-- A call: with numbers of variables handed in, or if it is said so, in this very store; else on values without numbers, in a store of its own. -/
noncomputable def acallM (C : Cfg) (W : Call) (q : Bool) (f : Nat) (args : List LV) (S : Store) : Option (LV × Store) :=
  if f = yB then none
  else if C.bor f || args.any hasRef then (if q then (if C.weak then (match acallR C W f args S with
      | none => none
      | some (r, S') => if ∃ G, S' = S ++ G then some (r, S') else none) else none) else acallR C W f args S)
  else match mapO (close S) args with
    | none => none
    | some ds => match W f ds [] with
      | none => none
      | some (r, S1) =>
        if C.own f then match ownRes S1 S.length r with
          | none => none
          | some (r', G) => some (r', S ++ G)
        else match closeRes S1 r with
          | none => none
          | some r' => if (args.flatMap rowsOf).isEmpty || !foreign S1 r then some (r', S) else if q then none else some (r', freeze S (args.flatMap rowsOf))

/-- Elements that go into a row: without numbers; the rows in them are no longer written. -/
def closeAll (S : Store) (vs : List LV) : Option (List LV × Store) :=
  match mapO (close S) vs with
  | none => none
  | some ds => some (ds, freeze S (vs.flatMap rowsOf))

def mget : List (Int × Int) → Int → Option Int
  | [], _ => none
  | (k, v) :: es, a => if a = k then some v else mget es a
def mset : List (Int × Int) → Int → Int → List (Int × Int)
  | [], a, b => [(a, b)]
  | (k, v) :: es, a, b => if a = k then (a, b) :: es else (k, v) :: mset es a b

/-- A new object where room was kept for it. -/
def rsv (r : Nat) (e : Env) : AOp → Option (LV × Obj)
  | .alc v => if solid v && (close [] v).isSome then some (.ref r 0 0, .cell v) else none
  | .mks E z b zero len => match len.ev e with
    | .int _ n => if 0 ≤ n ∧ n ≤ 4294967296 then some (.row r z 0 n.toNat, .row E z (List.replicate n.toNat zero) true) else none
    | _ => none
  | .bsl E z parts => match mapO (close []) (parts.map (·.ev e)) with
    | none => none
    | some ds => if wellSized z ds then some (.row r z 0 ds.length, .row E z ds true) else none
  | _ => none

noncomputable def aop (C : Cfg) (W : Call) (q : Bool) (e : Env) (S : Store) : AOp → Option (LV × Store)
  | .mov x => some (x.ev e, S)
  | .pick c a b => match c.ev e with
    | .bool t => some (if t then a.ev e else b.ev e, S)
    | _ => none
  | .box x => if solid (x.ev e) then some (.ref S.length 0 0, S ++ [.cell (x.ev e)]) else none
  | .alc v => if solid v then some (.ref S.length 0 0, S ++ [.cell v]) else none
  | .build zero parts => match fillZ zero (parts.map fun (o, s, x) => (o, s, x.ev e)) with
    | none => none
    | some fs => some (.agg fs, S)
  | .bsl E z parts => match closeAll S (parts.map (·.ev e)) with
    | none => none
    | some (ds, S') => if wellSized z ds && !(q && !((parts.map (·.ev e)).flatMap rowsOf).isEmpty) then some (.row S.length z 0 ds.length, S' ++ [.row E z ds true]) else none
  | .load agg sz x => match x.ev e with
    | .ref r j k => match S[r]? with
      | some (.cell v) => if j = 0 then (sub agg sz k v).map fun u => (u, S) else none
      | some (.row _ _ es _) => match es[j]? with
        | some v => (sub agg sz k v).map fun u => (u, S)
        | none => none
      | _ => none
    | .imm v k => (sub agg sz k v).map fun u => (u, S)
    | _ => none
  | .store sz x v => match x.ev e with
    | .ref r j k => match S[r]? with
      | some (.cell u) => if j = 0 ∧ (v.ev e).leaves.length = sz ∧ solid (v.ev e) = true then (splice k u (v.ev e)).map fun u' => (.undef, S.set r (.cell u')) else none
      | some (.row E z es true) => match es[j]?, close S (v.ev e) with
        | some u, some d => if d.leaves.length = sz ∧ rowsOf (v.ev e) = [] then (splice k u d).map fun u' => (.undef, S.set r (.row E z (es.set j u') true)) else none
        | _, _ => none
      | _ => none
    | _ => none
  | .nck x => match x.ev e with
    | .ref r j k => some (.ref r j k, S)
    | .imm v k => some (.imm v k, S)
    | _ => none
  | .bin op x y => (abin op (x.ev e) (y.ev e)).map fun v => (v, S)
  | .eqb neg x y => match x.ev e, y.ev e with
    | .bool a, .bool b => some (.bool (if neg then !(a == b) else a == b), S)
    | _, _ => none
  | .eqn neg x => match x.ev e with
    | .nilp => some (.bool (!neg), S)
    | .ref _ _ _ => some (.bool neg, S)
    | .imm _ _ => some (.bool neg, S)
    | _ => none
  | .eqs neg x => match x.ev e with
    | .sl n _ => some (.bool (if neg then !n else n), S)
    | .row _ _ _ _ => some (.bool neg, S)
    | _ => none
  | .un op x => (aun op (x.ev e)).map fun v => (v, S)
  | .conv k x => match x.ev e with
    | .int _ n => some (.int k (k.wrap n), S)
    | _ => none
  | .b2s x => match elems S (x.ev e) with
    | none => none
    | some es => (mapO byteOf es).map fun l => (.str (strOfNums l), S)
  | .mkf f first caps => some (.fn f (first.map (·.ev e)) (caps.map (·.ev e)), S)
  | .mks E z b zero len => match len.ev e with
    | .int _ n => if 0 ≤ n ∧ n ≤ 4294967296 then some (.row S.length z 0 n.toNat, S ++ [.row E z (List.replicate n.toNat zero) true]) else none
    | _ => none
  | .slc z x lo hi mx => (aslice z (x.ev e) (lo.map (·.ev e)) (hi.map (·.ev e)) (mx.map (·.ev e))).map fun v => (v, S)
  | .fad off x => match x.ev e with
    | .ref r j k => some (.ref r j (k + off), S)
    | .imm v k => some (.imm v (k + off), S)
    | _ => none
  | .fld agg sz off x => match x.ev e with
    | .agg fs => (sub agg sz off (.agg fs)).map fun u => (u, S)
    | _ => none
  | .idx z x i => match i.ev e with
    | .int _ n => (aidx z (x.ev e) n).map fun v => (v, S)
    | _ => none
  | .idxa n z x i => match x.ev e, i.ev e with
    | .ref r j k, .int _ m => if 0 ≤ m ∧ m < n then some (.ref r j (k + m.toNat * z), S) else none
    | .imm v k, .int _ m => if 0 ≤ m ∧ m < n then some (.imm v (k + m.toNat * z), S) else none
    | _, _ => none
  | .sidx x i => match x.ev e, i.ev e with
    | .str s, .int _ n => if 0 ≤ n then (match s[n.toNat]? with | some b => some (.int .u8 b.toNat, S) | none => none) else none
    | _, _ => none
  | .ext x i => match x.ev e with
    | .tup vs => match vs[i]? with
      | some v => some (v, S)
      | none => none
    | _ => none
  | .len x => (lenOf S (x.ev e)).map fun (n : Nat) => (LV.int .i64 (n : Int), S)
  | .slen x => match x.ev e with
    | .str s => some (.int .i64 s.size, S)
    | _ => none
  | .app E z b x y => match elems S (y.ev e) with
    | none => none
    | some ys => if wellSized z ys then aapp E z S (x.ev e) ys else none
  | .mx x ys => (amax (x.ev e) (ys.map (·.ev e))).map fun v => (v, S)
  | .mn x ys => (amin (x.ev e) (ys.map (·.ev e))).map fun v => (v, S)
  | .cpy E z x y => match x.ev e, elems S (y.ev e) with
    | .row r _ off len, some ys => match S[r]? with
      | some (.row E' z' es true) =>
        if off + len ≤ es.length ∧ E' = E ∧ z' = z ∧ wellSized z ys then
          some (.int .i64 (min ys.length len : Nat), S.set r (.row E z (es.take off ++ ys.take len ++ es.drop (off + min ys.length len)) true))
        else none
      | _ => none
    | .sl true [], some ys => if wellSized z ys then some (.int .i64 0, S) else none
    | _, _ => none
  | .clr E zero x => match x.ev e with
    | .row r _ off len => match S[r]? with
      | some (.row E' z es true) =>
        if off + len ≤ es.length ∧ E' = E ∧ zero.leaves.length = z then
          some (.undef, S.set r (.row E z (es.take off ++ List.replicate len zero ++ es.drop (off + len)) true))
        else none
      | _ => none
    | .sl true [] => some (.undef, S)
    | _ => none
  | .mkm => some (.mp S.length, S ++ [.mapo []])
  | .mup x k v => match x.ev e, k.ev e, v.ev e with
    | .mp r, .int .i64 a, .int .i64 b => match S[r]? with
      | some (.mapo es) => some (.undef, S.set r (.mapo (mset es a b)))
      | _ => none
    | _, _, _ => none
  | .mlk x k ok => match x.ev e, k.ev e with
    | .mp r, .int .i64 a => match S[r]? with
      | some (.mapo es) => some (if ok then .tup [.int .i64 ((mget es a).getD 0), .bool (mget es a).isSome] else .int .i64 ((mget es a).getD 0), S)
      | _ => none
    | _, _ => none
  | .bad => none
  | .call f args => match f.ev e with
    | .fn f first caps => acallM C W q f (first ++ args.map (·.ev e) ++ caps) S
    | .yld r => if q then none else W yB (.yld r :: args.map (·.ev e)) S
    | _ => none
  | .at r op => match rsv r e op, S[r]? with
    | some (v, ob), some .dead => some (v, S.set r ob)
    | _, _ => none

/-- One operation of a region. -/
noncomputable def aop1 (C : Cfg) (W : Call) (q : Bool) (nt : Nat) (o : AOper) (e : Env) (S : Store) : Option (Env × Store) :=
  match (match o.guard with | none => some true | some (g, want) => (match e g with | .bool b => some (b == want) | .tup [] => some false | _ => none)) with
  | none => none
  | some false => (match o.dst with
    | none => some (e, S)
    | some d => if d < nt then some (upd e d (.tup []), S) else none)
  | some true => match aop C W q e S o.op with
    | none => none
    | some (v, S') => match o.dst with
      | none => some (e, S')
      | some d => if d < nt then some (upd e d v, S') else none

noncomputable def aops (C : Cfg) (W : Call) (q : Bool) (nt : Nat) : List AOper → Env → Store → Option (Env × Store)
  | [], e, S => some (e, S)
  | o :: os, e, S => match aop1 C W q nt o e S with
    | none => none
    | some (e', S') => aops C W q nt os e' S'

/-- Where room begins. -/
def AOp.shift (b : Nat) : AOp → AOp
  | .at j op => .at (b + j) op
  | op => op
def AOper.shift (b : Nat) (o : AOper) : AOper := { o with op := o.op.shift b }

abbrev R3 := Option (Ex × Env × Store)

def aloop (body : Env → Store → R3) : Nat → Env → Store → R3
  | 0, _, _ => none
  | k + 1, e, S => match body e S with
    | some (.nrm, e', S') => aloop body k e' S'
    | r => r

open Classical in
noncomputable def loopW (body : Env → Store → R3) (e : Env) (S : Store) : R3 :=
  if h : ∃ k, aloop body k e S ≠ none then aloop body (Classical.choose h) e S else none

def objOf : LV → Option Nat
  | .ref r _ _ => some r
  | _ => none

/-- Two addresses that lie in different objects; or the one in what nobody writes. -/
def apartOk (e : Env) : List (Opd × Opd) → Bool
  | [] => true
  | (x, y) :: ps => (match x.ev e, y.ev e with
    | .ref r _ _, .ref q _ _ => r != q
    | .imm _ _, .ref _ _ _ => true
    | _, _ => false) && apartOk e ps

noncomputable def acode (C : Cfg) (W : Call) (nt : Nat) : AC → Env → Store → R3
  | .skip, e, S => some (.nrm, e, S)
  | .reg ops pairs q, e, S => match aops { C with weak := true } W q nt ops e S with
    | none => none
    | some (e', S') => if apartOk e' pairs then some (.nrm, e', S') else none
  | .rgv k ops pairs q, e, S => match aops { C with weak := false } W q nt (ops.map (AOper.shift S.length)) e (S ++ List.replicate k .dead) with
    | none => none
    | some (e', S') => if apartOk e' pairs then some (.nrm, e', S') else none
  | .seq a b, e, S => match acode C W nt a e S with
    | some (.nrm, e', S') => acode C W nt b e' S'
    | r => r
  | .cond c a b, e, S => match c.ev e with
    | .bool t => if t then acode C W nt a e S else acode C W nt b e S
    | _ => none
  | .block id a, e, S => match acode C W nt a e S with
    | some (.exit j, e', S') => if j = id then some (.nrm, e', S') else some (.exit j, e', S')
    | r => r
  | .loop a, e, S => loopW (acode C W nt a) e S
  | .exit id, e, S => some (.exit id, e, S)
  | .ret, e, S => some (.ret, e, S)
  | .scope a, e, S => acode C W nt a e S
  | .rng f ps asg body, e, S => match f.ev e with
    | .fn g first caps => if g = yB then none else match W g (first ++ [.yld S.length] ++ caps) (S ++ [.lp .ready nt e ps asg body]) with
      | none => none
      | some (_, S') => match S'[S.length]? with
        | some (.lp .ready _ _ _ _ _) => some (.nrm, e, S'.set S.length .dead)
        | some (.lp (.done x) _ _ _ _ _) => some (x, e, S'.set S.length .dead)
        | _ => none
    | _ => none

/-- Where yield's values go. -/
def putL : List Nat → List LV → Env → Env
  | p :: ps, x :: xs, e => putL ps xs (upd e p x)
  | _, _, e => e

/-- A round of a loop over a function. -/
noncomputable def around (C : Cfg) (W : Call) (args : List LV) (S : Store) : Option (LV × Store) :=
  match args with
  | .yld r :: xs => match S[r]? with
    | some (.lp .ready nt e ps asg body) =>
      if xs.length = ps.length ∧ ps.all (fun p => decide (p < nt)) = true then
        match acode C W nt asg (putL ps xs e) S with
        | some (.nrm, e1, S1) => match S1[r]? with
          | some (.lp .ready nt1 f1 p1 a1 b1) => match acode C W nt body e1 (S1.set r (.lp .busy nt1 f1 p1 a1 b1)) with
            | some (x, _, S2) => match S2[r]? with
              | some (.lp .busy nt2 f2 p2 a2 b2) => some (.bool (decide (x = .nrm)), S2.set r (.lp (if x = .nrm then .ready else .done x) nt2 f2 p2 a2 b2))
              | _ => none
            | none => none
          | _ => none
        | _ => none
      else none
    | _ => none
  | _ => none

def ares (e : Env) (S : Store) : ARes → Option LV
  | .tmp t => some (e t)
  | .cell t agg sz => match e t with
    | .ref r 0 0 => match S[r]? with
      | some (.cell v) => sub agg sz 0 v
      | _ => none
    | _ => none

def aresults (rs : List ARes) (e : Env) (S : Store) : Option LV :=
  match mapO (ares e S) rs with
  | none => none
  | some [v] => some v
  | some vs => some (.tup vs)

/-- What a function is: code, or given by what it answers. -/
inductive Fun where
  | code (f : AF)
  | ext (g : List LV → Store → Option (LV × Store))

noncomputable def abody (C : Cfg) (W : Call) (f : AF) (args : List LV) (S : Store) : Option (LV × Store) :=
  if args.length ≤ f.ntmps then
    match acode C W f.ntmps f.code (fun t => args.getD t .undef) S with
    | some (.nrm, e, S') => (aresults f.res e S').map fun v => (v, S')
    | some (.ret, e, S') => (aresults f.res e S').map fun v => (v, S')
    | _ => none
  else none

noncomputable def acall (C : Cfg) (T : Nat → Option Fun) : Nat → Call
  | 0, _, _, _ => none
  | n + 1, f, args, S => match T f with
    | some (.code a) => abody C (acall C T n) a args S
    | some (.ext g) => g args S
    | none => if f = yB then around C (acall C T n) args S else none

open Classical in
noncomputable def W (C : Cfg) (T : Nat → Option Fun) : Call := fun f args S =>
  if h : ∃ n, acall C T n f args S ≠ none then acall C T (Classical.choose h) f args S else none

end Go.Am
