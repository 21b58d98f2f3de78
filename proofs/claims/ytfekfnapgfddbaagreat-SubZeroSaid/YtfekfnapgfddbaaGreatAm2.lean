/- How the loaded program's functions are turned into the plain machine's code. -/
import Derived.Test.YtfekfnapgfddbaaGreatAm1
set_option linter.unusedVariables false
set_option linter.unusedSimpArgs false
namespace Go.Am
open Go

def ofLeaf : Value → LV
  | .int k n => .int k n
  | .bool b => .bool b
  | .string s => .str s
  | .pointer none => .nilp
  | .slice none 0 0 => .sl true []
  | _ => .undef
def ofV : Value → LV
  | .agg cs => .agg (cs.toList.map ofLeaf)
  | v => ofLeaf v

def oneCell : Value → Bool
  | .agg _ => false
  | .tuple _ => false
  | _ => true

def cOpd : Operand → Option Opd
  | .tmp t => some (.t t)
  | .const v => if v.cells.toList.all oneCell then some (.c (ofV v)) else none
  | .func f => some (.c (.fn f [] []))
  | .global _ => none

def cOpds (xs : List Operand) : Option (List Opd) := mapO cOpd xs

def isAggT (P : Program) (t : TypeId) : Option Bool :=
  match P.underlying t with
  | some (.struct _) => some true
  | some (.array _ _) => some true
  | some _ => some false
  | none => none
def sizeT (P : Program) (t : TypeId) : Option Nat := (P.info? t).map (·.size)
def zeroT (P : Program) (t : TypeId) : Option Value :=
  match P.info? t with
  | some i => match i.zero with
    | some z => if z.cells.size = i.size ∧ z.cells.toList.all oneCell = true then some z else none
    | none => none
  | none => none
def elemT (P : Program) (t : TypeId) : Option TypeId :=
  match P.underlying t with
  | some (.slice e) => some e
  | _ => none

/-- A slice type's element: its number, its cells, its bytes. -/
def rowT (P : Program) (t : TypeId) : Option (Nat × Nat × Nat) :=
  match elemT P t with
  | none => none
  | some e => match P.info? e with
    | none => none
    | some i => match zeroT P e with
      | none => none
      | some z => if 0 < i.size ∧ i.bytes ≤ 4096 then some (e, i.size, i.bytes) else none

def fieldT (P : Program) (t : TypeId) (f : Nat) : Option (Nat × Nat × TypeId) :=
  match P.underlying t with
  | some (.struct fs) => match fs[f]? with
    | some f => match sizeT P f.type with
      | some n => if n = 0 then none else some (f.offset, n, f.type)
      | none => none
    | none => none
  | _ => none

/-- Maps of whole numbers to whole numbers. -/
def mapT (P : Program) (t : TypeId) : Bool :=
  match P.underlying t with
  | some (.map k e) => (match P.underlying k, P.underlying e, zeroT P e with
    | some (.int .i64), some (.int .i64), some (.int .i64 0) => true
    | _, _, _ => false)
  | _ => false

/-- Where part i of a struct or an array lies, and how many cells it has. -/
def placeT (P : Program) (t : TypeId) (i : Nat) : Option (Nat × Nat) :=
  match P.underlying t with
  | some (.struct fs) => match fs[i]? with
    | some f => match sizeT P f.type with
      | some n => some (f.offset, n)
      | none => none
    | none => none
  | some (.array _ e) => match sizeT P e with
    | some n => some (i * n, n)
    | none => none
  | _ => none

def fieldsOk (P : Program) (t : TypeId) : Bool :=
  match P.underlying t with
  | some (.struct fs) => fs.toList.all fun f => (sizeT P f.type).isSome
  | some (.array _ e) => (sizeT P e).isSome
  | _ => false

def cParts (P : Program) (t : TypeId) : List (Nat × Operand) → Option (List (Nat × Nat × Opd))
  | [] => some []
  | (i, x) :: rest => match placeT P t i, cOpd x, cParts P t rest with
    | some (o, s), some y, some ys => some ((o, s, y) :: ys)
    | _, _, _ => none

def cElems : Nat → List (Nat × Operand) → Option (List Opd)
  | _, [] => some []
  | k, (i, x) :: rest => if i = k then (match cOpd x, cElems (k + 1) rest with
    | some y, some ys => some (y :: ys)
    | _, _ => none) else none

def cOO : Option Operand → Option (Option Opd)
  | none => some none
  | some x => (cOpd x).map some

def sameOpd : Operand → Operand → Bool
  | .tmp a, .tmp b => a == b
  | _, _ => false

def cCall (P : Program) (c : Go.Call) : Option AOp :=
  match c.callee with
  | .value f => match cOpd f, cOpds c.args.toList with
    | some g, some xs => some (.call g xs)
    | _, _ => none
  | .builtin .len => match c.args.toList, c.argTypes.toList with
    | [x], [t] => match P.underlying t, cOpd x with
      | some .string, some y => some (.slen y)
      | some (.slice _), some y => some (.len y)
      | _, _ => none
    | _, _ => none
  | .builtin .append => match c.args.toList, c.argTypes.toList with
    | [x, y], [t, t'] => if t = t' then (match rowT P t, cOpd x, cOpd y with
      | some (e, z, b), some x', some y' => some (.app e z b x' y')
      | _, _, _ => none) else none
    | _, _ => none
  | .builtin .max => match cOpds c.args.toList with
    | some (x :: xs) => some (.mx x xs)
    | _ => none
  | .builtin .min => match cOpds c.args.toList with
    | some (x :: xs) => some (.mn x xs)
    | _ => none
  | .builtin .copy => match c.args.toList, c.argTypes.toList with
    | [x, y], t :: _ => match rowT P t, cOpd x, cOpd y with
      | some (e, z, _), some x', some y' => if z = 1 ∧ (c.argTypes.toList.length = 2) ∧ c.argTypes.toList = [t, t] then some (.cpy e z x' y') else none
      | _, _, _ => none
    | _, _ => none
  | .builtin .clear => match c.args.toList, c.argTypes.toList with
    | [x], [t] => match rowT P t, cOpd x with
      | some (e, _, _), some x' => match zeroT P e with
        | some z => some (.clr e (ofV z) x')
        | none => none
      | _, _ => none
    | _, _ => none
  | _ => none

def cOp (P : Program) : Op → Option AOp
  | .move x => (cOpd x).map .mov
  | .assign x => (cOpd x).map .mov
  | .pick c a b => match cOpd c, cOpd a, cOpd b with
    | some c, some a, some b => some (.pick c a b)
    | _, _, _ => none
  | .alloc t => match zeroT P t with
    | some z => some (.alc (ofV z))
    | none => none
  | .box t x => (cOpd x).map .box
  | .build t parts => match isAggT P t, zeroT P t, cParts P t parts.toList with
    | some true, some z, some ps => if fieldsOk P t then some (.build (ofV z).leaves ps) else none
    | _, _, _ => none
  | .buildSlice t n parts => match rowT P t, cElems 0 parts.toList with
    | some (e, z, _), some xs => if parts.size = n ∧ 0 < n ∧ n ≤ 4096 ∧ z ≤ 4096 then some (.bsl e z xs) else if parts.size = 0 ∧ n = 0 then some (.mov (.c .slz)) else none
    | _, _ => none
  | .load t x => match isAggT P t, sizeT P t, cOpd x with
    | some a, some n, some y => some (.load a n y)
    | _, _, _ => none
  | .store t x v => match sizeT P t, cOpd x, cOpd v with
    | some n, some y, some u => some (.store n y u)
    | _, _, _ => none
  | .nilCheck x => (cOpd x).map .nck
  | .binOp op t x y _ => match P.underlying t, cOpd x, cOpd y with
    | some (.int _), some x', some y' => some (.bin op x' y')
    | some .string, some x', some y' => some (.bin op x' y')
    | some .bool, some x', some y' => (match op with | .eql => some (.eqb false x' y') | .neq => some (.eqb true x' y') | _ => none)
    | some (.pointer _), some x', _ => (match op, y with
      | .eql, .const (.pointer none) => some (.eqn false x')
      | .neq, .const (.pointer none) => some (.eqn true x')
      | _, _ => none)
    | some (.slice _), some x', _ => (match op, y with
      | .eql, .const (.slice none 0 0) => some (.eqs false x')
      | .neq, .const (.slice none 0 0) => some (.eqs true x')
      | _, _ => none)
    | _, _, _ => none
  | .unOp op _ x => (cOpd x).map (.un op)
  | .convert src dst x => match P.underlying src, P.underlying dst, cOpd x with
    | some (.int _), some (.int k), some y => some (.conv k y)
    | some (.slice e), some .string, some y => (match P.underlying e with | some (.int .u8) => some (.b2s y) | _ => none)
    | _, _, _ => none
  | .makeFunc (.func f) first caps => match cOpds first.toList, cOpds caps.toList with
    | some xs, some ys => some (.mkf f xs ys)
    | _, _ => none
  | .makeSlice t l c => match rowT P t, cOpd l with
    | some (e, z, b), some x => if sameOpd l c then (match zeroT P e with | some v => some (.mks e z b (ofV v) x) | none => none) else none
    | _, _ => none
  | .slice t x lo hi mx => match P.underlying t, cOpd x, cOO lo, cOO hi, cOO mx with
    | some .string, some x', some lo', some hi', some none => some (.slc 0 x' lo' hi' none)
    | some (.slice e), some x', some lo', some hi', some mx' => (match sizeT P e with | some z => if 0 < z then some (.slc z x' lo' hi' mx') else none | none => none)
    | _, _, _, _, _ => none
  | .fieldAddr t x f => match fieldT P t f, cOpd x with
    | some (o, _, _), some y => some (.fad o y)
    | _, _ => none
  | .makeMap t none => match mapT P t with
    | true => some .mkm
    | false => none
  | .mapUpdate t x k v => match mapT P t, cOpd x, cOpd k, cOpd v with
    | true, some x', some k', some v' => some (.mup x' k' v')
    | _, _, _, _ => none
  | .lookup t x k ok => match mapT P t, cOpd x, cOpd k with
    | true, some x', some k' => some (.mlk x' k' ok)
    | _, _, _ => none
  | .field t x f => match fieldT P t f, cOpd x with
    | some (o, n, ty), some y => (match isAggT P ty with | some a => some (.fld a n o y) | none => none)
    | _, _ => none
  | .indexAddr t x i => match P.underlying t, cOpd x, cOpd i with
    | some (.slice e), some x', some i' => (match sizeT P e with | some z => some (.idx z x' i') | none => none)
    | some (.array n e), some x', some i' => (match sizeT P e with | some z => some (.idxa n z x' i') | none => none)
    | _, _, _ => none
  | .index t x i => match P.underlying t, cOpd x, cOpd i with
    | some .string, some x', some i' => some (.sidx x' i')
    | _, _, _ => none
  | .extract x i => (cOpd x).map (.ext · i)
  | .call c => cCall P c
  | .makeInterface _ _ => some .bad
  | .panic _ => some .bad
  | _ => none

def cOper (P : Program) (ops : Array Oper) (o : Oper) : Option AOper :=
  match cOp P o.op with
  | none => none
  | some op => match o.guard with
    | none => some ⟨o.dst, none, op⟩
    | some (j, want) => match (ops[j]?).bind (·.dst) with
      | some d => some ⟨o.dst, some (d, want), op⟩
      | none => none

/-! ### regions that draw their order -/
/-- Does an operation look into what has numbers, or add to it? -/
def dep : AOp → Bool
  | .load .. | .bsl .. | .b2s .. | .app .. | .cpy .. | .clr .. | .call .. | .store .. | .box .. | .alc .. | .mks .. | .mkm | .mup .. | .mlk .. => true
  | _ => false
/-- Does it write what is there? (q: calls are calm) -/
def mods (q : Bool) : AOp → Bool
  | .store .. | .app .. | .cpy .. | .clr .. | .mup .. => true
  | .call .. | .bsl .. => !q
  | _ => false

def slO : Opd → List Nat
  | .t n => [n]
  | .c _ => []
def slP : Option Opd → List Nat
  | some x => slO x
  | none => []
def slL (l : List Opd) : List Nat := l.flatMap slO

/-- The slots that an operation reads. -/
def opSlots : AOp → List Nat
  | .mov x => slO x
  | .pick c a b => slO c ++ slO a ++ slO b
  | .box x => slO x
  | .alc _ => []
  | .build _ parts => slL (parts.map fun p => p.2.2)
  | .bsl _ _ parts => slL parts
  | .load _ _ x => slO x
  | .store _ x v => slO x ++ slO v
  | .nck x => slO x
  | .bin _ x y => slO x ++ slO y
  | .eqb _ x y => slO x ++ slO y
  | .eqn _ x => slO x
  | .eqs _ x => slO x
  | .un _ x => slO x
  | .conv _ x => slO x
  | .b2s x => slO x
  | .mkf _ first caps => slL first ++ slL caps
  | .mks _ _ _ _ l => slO l
  | .slc _ x lo hi mx => slO x ++ slP lo ++ slP hi ++ slP mx
  | .fad _ x => slO x
  | .fld _ _ _ x => slO x
  | .idx _ x i => slO x ++ slO i
  | .idxa _ _ x i => slO x ++ slO i
  | .sidx x i => slO x ++ slO i
  | .ext x _ => slO x
  | .len x => slO x
  | .slen x => slO x
  | .app _ _ _ x y => slO x ++ slO y
  | .mx x ys => slO x ++ slL ys
  | .mn x ys => slO x ++ slL ys
  | .cpy _ _ x y => slO x ++ slO y
  | .clr _ _ x => slO x
  | .call f args => slO f ++ slL args
  | .mkm => []
  | .mup x k v => slO x ++ slO k ++ slO v
  | .mlk x k _ => slO x ++ slO k
  | .bad => []
  | .at _ op => opSlots op

def AOper.slots (o : AOper) : List Nat := opSlots o.op ++ (match o.guard with | some (g, _) => [g] | none => [])

def isLoad : AOp → Bool
  | .load .. => true
  | _ => false
def isAt : AOp → Bool
  | .at .. => true
  | _ => false
def isCall : AOp → Bool
  | .call .. => true
  | _ => false
/-- Those that are done in the order of the text. -/
def chain (o : AOp) : Bool := dep o && !isLoad o

/-- A pair (load, store) that is looked at. -/
def paired (ps : List (Opd × Opd)) (l s : AOp) : Bool :=
  match l, s with
  | .load _ _ (.t a), .store _ (.t b) _ => ps.any fun p => match p with | (.t x, .t y) => x == a && y == b | _ => false
  | _, _ => false
/-- No later operation puts something into the slot of its address. -/
def addrSlot : AOp → Option Nat
  | .load _ _ (.t a) => some a
  | .store _ (.t b) _ => some b
  | _ => none

def neSlot : Option Nat → List Nat → Bool
  | none, _ => true
  | some d, l => !l.contains d

/-- Two operations of which neither is said to be ahead, the first that of the text. -/
def looseOk (q : Bool) (ps : List (Opd × Opd)) (p o : AOper) : Bool :=
  neSlot p.dst o.slots && neSlot p.dst o.dst.toList && neSlot o.dst p.slots &&
  !(chain p.op && chain o.op) &&
  (!(isAt p.op && chain o.op) || (q && isCall o.op)) && (!(chain p.op && isAt o.op) || (q && isCall p.op)) &&
  (!(isLoad p.op && mods q o.op) || paired ps p.op o.op) && (!(mods q p.op && isLoad o.op) || paired ps o.op p.op)

def atOf : AOp → Option Nat
  | .at r _ => some r
  | _ => none

def fixedFrom (s : Nat) (l : List AOper) : Bool := l.all fun o => neSlot o.dst [s]

def okFrom (q : Bool) (ps : List (Opd × Opd)) (o : AOper) (m i : Nat) : List AOper → Nat → Bool
  | [], _ => true
  | p :: l, j => (if j < i then m.testBit j || looseOk q ps p o else true) && okFrom q ps o m i l (j + 1)

/-- May these be taken in every order that is left open? -/
def okRow (q : Bool) (k : Nat) (ps : List (Opd × Opd)) (bf : Array Nat) (all : List AOper) : List AOper → Nat → Bool
  | [], _ => true
  | o :: l, i => (bf.getD i 0 < 2 ^ i) && okFrom q ps o (bf.getD i 0) i all 0 &&
      (match addrSlot o.op with | some s => fixedFrom s (o :: l) | none => true) &&
      (match o.op with | .at r _ => q && o.guard.isNone && decide (r < k) && l.all (fun p => atOf p.op != some r) | _ => true) &&
      okRow q k ps bf all l (i + 1)

def loosePairs (q : Bool) (bf : Array Nat) (ops : List (AOp × Nat)) : List (AOp × AOp) :=
  ops.flatMap fun (m, i) => if mods q m then ops.filterMap fun (d, j) =>
    if i ≠ j ∧ isLoad d = true ∧ ((bf.getD i 0).testBit j = false) ∧ ((bf.getD j 0).testBit i = false) then some (d, m) else none
  else []

def pairsOf : List (AOp × AOp) → List (Opd × Opd)
  | [] => []
  | (.load _ _ x, .store _ y _) :: rest => (x, y) :: pairsOf rest
  | _ :: rest => pairsOf rest

def canAt : AOp → Bool
  | .alc _ => true
  | .mks .. => true
  | .bsl .. => true
  | _ => false

/-- Which new objects get their room beforehand: those that are loose from another that has its place in the order. -/
def withRoom (bf : Array Nat) (all : List (AOper × Nat)) : List (AOper × Nat) → Nat → List AOper
  | [], _ => []
  | (o, i) :: l, k =>
    if canAt o.op && o.guard.isNone && all.any (fun (p, j) => i != j && chain p.op && !(bf.getD i 0).testBit j && !(bf.getD j 0).testBit i) then
      { o with op := .at k o.op } :: withRoom bf all l (k + 1)
    else o :: withRoom bf all l k

def tryDraw (bf : Array Nat) (q : Bool) (k : Nat) (as : List AOper) : Option (List (Opd × Opd)) :=
  let ps := pairsOf (loosePairs q bf (as.map (·.op)).zipIdx)
  if okRow q k ps bf as as 0 then some ps else none

/-- Operations in an order that is drawn. -/
inductive Drawn where
  | plain (ps : List (Opd × Opd)) (q : Bool)
  | room (k : Nat) (as : List AOper) (ps : List (Opd × Opd))

def countAt (l : List AOper) : Nat := (l.filter fun o => isAt o.op).length

def cDraw (ops : Array Oper) (as : List AOper) : Option Drawn :=
  let bf := Region.before ops
  match tryDraw bf false 0 as with
  | some ps => some (.plain ps false)
  | none => match tryDraw bf true 0 as with
    | some ps => some (.plain ps true)
    | none =>
      let bs := withRoom bf as.zipIdx as.zipIdx 0
      match tryDraw bf true (countAt bs) bs with
      | some ps => some (.room (countAt bs) bs ps)
      | none => none

/-- No loop over a function. -/
def noRng : AC → Bool
  | .seq a b => noRng a && noRng b
  | .cond _ a b => noRng a && noRng b
  | .block _ a => noRng a
  | .loop a => noRng a
  | .scope a => noRng a
  | .rng _ _ _ _ => false
  | _ => true

def cCode (P : Program) : Code → Option AC
  | .skip => some .skip
  | .label _ => some .skip
  | .region _ ops draw => match mapO (cOper P ops) ops.toList with
    | none => none
    | some as => if draw then (match cDraw ops as with
      | some (.plain ps q) => some (.reg as ps q)
      | some (.room k bs ps) => some (.rgv k bs ps true)
      | none => none) else some (.reg as [] false)
  | .seq a b => match cCode P a, cCode P b with
    | some x, some y => some (.seq x y)
    | _, _ => none
  | .cond c a b => match cOpd c, cCode P a, cCode P b with
    | some c, some x, some y => some (.cond c x y)
    | _, _, _ => none
  | .block id a => (cCode P a).map (.block id)
  | .loop a => (cCode P a).map .loop
  | .exit id => some (.exit id)
  | .ret => some .ret
  | .scope a => (cCode P a).map .scope
  | .rangeFunc f ps a b => match cOpd f, cCode P a, cCode P b with
    | some f, some x, some y => if noRng x && noRng y then some (.rng f ps.toList x y) else none
    | _, _, _ => none
  | _ => none

/-- The program whose code the records of loops bear. -/
class HasProg where
  prog : Program

/-- The code of a loop's assignments and body. -/
def KC [HasProg] (a b : AC) (ca cb : Code) : Prop := cCode HasProg.prog ca = some a ∧ cCode HasProg.prog cb = some b ∧ noRng a = true ∧ noRng b = true

def cRes (P : Program) : ResultVar → Option ARes
  | .tmp t => some (.tmp t)
  | .cell a t => match isAggT P t, sizeT P t with
    | some g, some n => some (.cell a g n)
    | _, _ => none

def cFun (P : Program) (f : FuncId) : Option AF :=
  match P.funcs[f]? with
  | none => none
  | some fn => match fn.body with
    | none => none
    | some c => if fn.name = "runtime.NumGoroutine" then none else match cCode P c, mapO (cRes P) fn.results.toList with
      | some a, some rs => some ⟨fn.ntmps, rs, a⟩
      | _, _ => none

end Go.Am
