/- What the plain machine's values and store say of the model's memory. -/
import Derived.Test.YtfekfnapgfddbaaGreatAm2
import Derived.Below
import Derived.Orders
import Derived.Laws.AppendOwn
import Derived.Laws.OwnMore
import Derived.Laws.MakeOwn
set_option linter.unusedVariables false
set_option linter.unusedSimpArgs false
set_option linter.unusedSectionVars false
namespace Go.Am
open Go Go.RowKit
variable [HasProg]

/-- Of a number: its block; how many cells an element has; how many elements have room. -/
abbrev MM := Nat → Option (Nat × Nat × Nat)
def M0 : MM := fun _ => none

def flat (es : List LV) : List LV := es.flatMap LV.leaves
def sized (z : Nat) (es : List LV) : Prop := ∀ v ∈ es, v.leaves.length = z

/-- A value of the machine is one of the model's, in a world; X: the blocks that it may not lie in. -/
inductive V (w : World) (X : Nat → Prop) : MM → LV → Value → Prop
  | int {m : MM} {k : IntKind} {n : Int} : V w X m (.int k n) (.int k n)
  | bool {m : MM} {b : Bool} : V w X m (.bool b) (.bool b)
  | str {m : MM} {s : ByteArray} : V w X m (.str s) (.string s)
  | agg {m : MM} {fs : List LV} {vs : Array Value} (hl : vs.size = fs.length) (h1 : ∀ i, i < fs.length → oneCell (vs.getD i undef) = true)
      (h : ∀ i, i < fs.length → V w X m (fs.getD i .undef) (vs.getD i undef)) : V w X m (.agg fs) (.agg vs)
  | tup {m : MM} {fs : List LV} {vs : Array Value} (hl : vs.size = fs.length)
      (h : ∀ i, i < fs.length → V w X m (fs.getD i .undef) (vs.getD i undef)) : V w X m (.tup fs) (.tuple vs)
  | sl {m : MM} {nil : Bool} {es : List LV} {a : Option Addr} {n c z : Nat} {cv : Nat → Value} (hn : es.length = n) (hc : n ≤ c) (hcm : c ≤ maxLen)
      (hnil : nil = true ↔ a = none) (h0 : nil = true → c = 0) (hz : sized z es)
      (hb : 0 < n → ∃ b o, a = some ⟨b, o, none⟩ ∧ ¬ X b ∧ b < w.heap.size ∧ ∀ q, q < n * z → w.cell? ⟨b, o + q, none⟩ = some (cv q))
      (h1 : ∀ q, q < n * z → oneCell (cv q) = true)
      (hv : ∀ q, q < n * z → V w X M0 ((flat es).getD q .undef) (cv q)) : V w X m (.sl nil es) (.slice a n c)
  | slz {m : MM} {a : Option Addr} : V w X m .slz (.slice a 0 0)
  | row {m : MM} {r z off len b cap o c : Nat} (hm : m r = some (b, z, cap)) (ha : 0 < len ∨ off = 0 → o = off * z ∧ c = cap - off)
      (hl : len ≤ c) (hc : off + len ≤ cap) (hcm : c ≤ maxLen) : V w X m (.row r z off len) (.slice (some ⟨b, o, none⟩) len c)
  | ref {m : MM} {r j k b z cap : Nat} (hm : m r = some (b, z, cap)) : V w X m (.ref r j k) (.pointer (some ⟨b, j * z + k, none⟩))
  | imm {m : MM} {e : LV} {k b o : Nat} {cv : Nat → Value} (hs : solid e = true) (hx : ¬ X b) (hb : b < w.heap.size)
      (hc : ∀ q, q < e.leaves.length → w.cell? ⟨b, o + q, none⟩ = some (cv q))
      (h1 : ∀ q, q < e.leaves.length → oneCell (cv q) = true)
      (hv : ∀ q, q < e.leaves.length → V w X M0 (e.leaves.getD q .undef) (cv q)) : V w X m (.imm e k) (.pointer (some ⟨b, o + k, none⟩))
  | mp {m : MM} {r b z cap : Nat} (hm : m r = some (b, z, cap)) : V w X m (.mp r) (.map (some b))
  | yld {m : MM} {r b z cap : Nat} (hm : m r = some (b, z, cap)) : V w X m (.yld r) (.func (.yield b) #[] #[])
  | nilp {m : MM} : V w X m .nilp (.pointer none)
  | fn {m : MM} {f : Nat} {xs ys : List LV} {us vs : Array Value} (hl : us.size = xs.length) (hl' : vs.size = ys.length)
      (h : ∀ i, i < xs.length → V w X m (xs.getD i .undef) (us.getD i undef))
      (h' : ∀ i, i < ys.length → V w X m (ys.getD i .undef) (vs.getD i undef)) : V w X m (.fn f xs ys) (.func (.func f) us vs)
  | undef {m : MM} {v : Value} : V w X m .undef v

/-- May this object be written? -/
def ownO : Obj → Prop
  | .cell _ => True
  | .row _ _ _ mu => mu = true
  | .mapo _ => True
  | .lp _ _ _ _ _ _ => True
  | .dead => False
def ownAt (S : Store) (r : Nat) : Prop := ∃ o, S[r]? = some o ∧ ownO o
def liveAt (S : Store) (r : Nat) : Prop := ∃ o, S[r]? = some o ∧ o ≠ .dead

/-- The blocks that may be written. -/
def Own (m : MM) (S : Store) (b : Nat) : Prop := ∃ r z cap, m r = some (b, z, cap) ∧ ownAt S r
def XX (F : Nat → Prop) (m : MM) (S : Store) (b : Nat) : Prop := F b ∨ Own m S b

def codeEx : Ex → Code
  | .nrm => .skip
  | .exit id => .exit id
  | .ret => .ret

/-- How far a loop's record says that it is. -/
def stR : LSt → Loop → Prop
  | .ready, rc => rc.state = .ready ∧ rc.pending = none
  | .busy, rc => rc.state = .busy
  | .done x, rc => rc.state = .done ∧ x ≠ .nrm ∧ rc.pending = some (codeEx x)
  | .over, rc => True

def ObjR (w : World) (X : Nat → Prop) (m : MM) (b z cap : Nat) : Obj → Prop
  | .cell v => ∃ T c, w.heap[b]? = some (.cells c T (0, 0)) ∧ c.size = v.leaves.length ∧ solid v = true ∧
      (∀ q, q < c.size → oneCell (c.getD q undef) = true) ∧ ∀ q, q < c.size → V w X m (v.leaves.getD q .undef) (c.getD q undef)
  | .row E z' es mu => z' = z ∧ 0 < z ∧ sized z es ∧ ∃ c, w.heap[b]? = some (.cells c E (0, 0)) ∧ c.size = cap * z ∧ es.length ≤ cap ∧ cap ≤ maxLen ∧
      (∀ q, q < es.length * z → oneCell (c.getD q undef) = true) ∧ ∀ q, q < es.length * z → V w X M0 ((flat es).getD q .undef) (c.getD q undef)
  | .mapo es => ∃ en ck, w.heap[b]? = some (.map en ck) ∧ en.toList.map (fun x => (x.key, x.val)) = es.map fun x => (Value.int .i64 x.1, Value.int .i64 x.2)
  | .lp st nt e ps asg body => ∃ rc : Loop, w.heap[b]? = some (.loop rc) ∧ stR st rc ∧ rc.params.toList = ps ∧ KC asg body rc.assign rc.body ∧ rc.tmps.size = nt ∧ ∀ t, V w X m (e t) (rc.tmps.getD t undef)
  | .dead => True

/-- The store is in the world. F: blocks that others may write. -/
structure Rel (w : World) (F : Nat → Prop) (m : MM) (S : Store) : Prop where
  obj : ∀ r b z cap, m r = some (b, z, cap) → ∃ o, S[r]? = some o ∧ ObjR w (XX F m S) m b z cap o
  ne : ∀ r r' b z cap z' cap', r ≠ r' → m r = some (b, z, cap) → m r' = some (b, z', cap') → ownAt S r → liveAt S r' → False
  sep : ∀ r b z cap, m r = some (b, z, cap) → liveAt S r → ¬ F b
  lt : ∀ b, F b → b < w.heap.size

/-- From a store and a world to later ones. -/
structure Ev (F : Nat → Prop) (m : MM) (S : Store) (w : World) (m' : MM) (S' : Store) (w' : World) : Prop where
  rel : Rel w' F m' S'
  mm : ∀ r x, m r = some x → m' r = some x
  os : w'.os = w.os
  tape : w'.tape = w.tape
  output : w'.output = w.output
  size : w.heap.size ≤ w'.heap.size
  keep : ∀ b, b < w.heap.size → ¬ Own m S b → w'.heap[b]? = w.heap[b]?
  own : ∀ b, Own m' S' b → Own m S b ∨ w.heap.size ≤ b
  blk : ∀ r b z cap, m' r = some (b, z, cap) → (∃ r0 z0 c0, m r0 = some (b, z0, c0)) ∨ w.heap.size ≤ b
  len : S.length ≤ S'.length
  old : ∀ r, r < S.length → m' r = m r
  dfr : ∀ D : Nat, w.heap[D]? = some (Go.Obj.deferred (some [])) → w'.heap[D]? = some (Go.Obj.deferred (some []))

/-- Nothing that was there has turned. -/
def Kp (G : Prop) (w w' : World) : Prop := G → ∀ b, b < w.heap.size → w'.heap[b]? = w.heap[b]?

theorem Rel.own_lt {w : World} {F : Nat → Prop} {m : MM} {S : Store} (h : Rel w F m S) {b : Nat} (hb : Own m S b) : b < w.heap.size := by
  obtain ⟨r, z, cap, hm, o, ho, hown⟩ := hb
  obtain ⟨o', ho', hr⟩ := h.obj r b z cap hm
  rw [ho] at ho'
  obtain rfl := Option.some.inj ho'
  cases o with
  | cell v =>
    obtain ⟨T, c, hh, _⟩ := hr
    exact (Array.getElem?_eq_some_iff.1 hh).1
  | row E z' es mu =>
    obtain ⟨_, _, _, c, hh, _⟩ := hr
    exact (Array.getElem?_eq_some_iff.1 hh).1
  | mapo es =>
    obtain ⟨en, ck, hh, _⟩ := hr
    exact (Array.getElem?_eq_some_iff.1 hh).1
  | lp st nt e ps asg body =>
    obtain ⟨rc, hh, _⟩ := hr
    exact (Array.getElem?_eq_some_iff.1 hh).1
  | dead => exact hown.elim

/-- Blocks for deferred calls are nobody's. -/
theorem Rel.own_ne_dfr {w : World} {F : Nat → Prop} {m : MM} {S : Store} (h : Rel w F m S) {r b z cap : Nat} (hm : m r = some (b, z, cap)) (hown : ownAt S r) : w.heap[b]? ≠ some (Go.Obj.deferred (some [])) := by
  obtain ⟨o, ho, hown⟩ := hown
  obtain ⟨o', ho', hr⟩ := h.obj r b z cap hm
  rw [ho] at ho'
  obtain rfl := Option.some.inj ho'
  cases o with
  | cell v => obtain ⟨T, c, hh, _⟩ := hr; rw [hh]; simp
  | row E z' es mu => obtain ⟨_, _, _, c, hh, _⟩ := hr; rw [hh]; simp
  | mapo es => obtain ⟨en, ck, hh, _⟩ := hr; rw [hh]; simp
  | lp st nt e ps asg body => obtain ⟨rc, hh, _⟩ := hr; rw [hh]; simp
  | dead => exact hown.elim

theorem heap_lt {w : World} {b : Nat} {o : Go.Obj} (h : w.heap[b]? = some o) : b < w.heap.size := (Array.getElem?_eq_some_iff.1 h).1

theorem Rel.xx_lt {w : World} {F : Nat → Prop} {m : MM} {S : Store} (h : Rel w F m S) {b : Nat} (hb : XX F m S b) : b < w.heap.size := by
  rcases hb with hb | hb
  · exact h.lt b hb
  · exact h.own_lt hb

/-- A value is carried on to a later world. -/
theorem V.on {w w' : World} {X X' : Nat → Prop} {m m' : MM} {v : LV} {u : Value} (h : V w X m v u)
    (hs : w.heap.size ≤ w'.heap.size) (hk : ∀ b, b < w.heap.size → ¬ X b → w'.heap[b]? = w.heap[b]?) (hx : ∀ b, b < w.heap.size → X' b → X b)
    (hm : ∀ r x, m r = some x → m' r = some x) : V w' X' m' v u := by
  induction h generalizing m' with
  | int => exact .int
  | bool => exact .bool
  | str => exact .str
  | agg hl h1 h ih => exact .agg hl h1 fun i hi => ih i hi hm
  | tup hl h ih => exact .tup hl fun i hi => ih i hi hm
  | sl hn hc hcm hnil h0 hz hb h1 hv ih =>
    refine .sl hn hc hcm hnil h0 hz (fun hp => ?_) h1 fun q hq => ih q hq fun _ _ h => h
    obtain ⟨b, o, e, hx1, hlt, hcell⟩ := hb hp
    refine ⟨b, o, e, fun hx2 => hx1 (hx b hlt hx2), by omega, fun q hq => ?_⟩
    rw [← hcell q hq]
    exact World.cell?_of_block (hk b hlt hx1)
  | slz => exact .slz
  | row hm1 ha hl hc hcm => exact .row (hm _ _ hm1) ha hl hc hcm
  | ref hm1 => exact .ref (hm _ _ hm1)
  | imm hs1 hx1 hb hc h1 hv ih =>
    refine .imm hs1 (fun hx2 => hx1 (hx _ hb hx2)) (by omega) (fun q hq => ?_) h1 fun q hq => ih q hq fun _ _ h => h
    rw [← hc q hq]
    exact World.cell?_of_block (hk _ hb hx1)
  | mp hm1 => exact .mp (hm _ _ hm1)
  | yld hm1 => exact .yld (hm _ _ hm1)
  | nilp => exact .nilp
  | fn hl hl' h h' ih ih' => exact .fn hl hl' (fun i hi => ih i hi hm) fun i hi => ih' i hi hm
  | undef => exact .undef

theorem Ev.xx {F : Nat → Prop} {m m' : MM} {S S' : Store} {w w' : World} (h : Ev F m S w m' S' w') {b : Nat} (hb : b < w.heap.size) (hx : XX F m' S' b) : XX F m S b := by
  rcases hx with hx | hx
  · exact .inl hx
  · rcases h.own b hx with h1 | h1
    · exact .inr h1
    · omega

theorem V.ev {F : Nat → Prop} {m m' : MM} {S S' : Store} {w w' : World} {v : LV} {u : Value} (h : V w (XX F m S) m v u) (e : Ev F m S w m' S' w') : V w' (XX F m' S') m' v u :=
  h.on e.size (fun b hb hx => e.keep b hb fun ho => hx (.inr ho)) (fun b hb hx => e.xx hb hx) e.mm

theorem Ev.refl {F : Nat → Prop} {m : MM} {S : Store} {w : World} (h : Rel w F m S) : Ev F m S w m S w :=
  ⟨h, fun _ _ h => h, rfl, rfl, rfl, Nat.le_refl _, fun _ _ _ => rfl, fun _ h => .inl h, fun r b z cap h => .inl ⟨r, z, cap, h⟩, Nat.le_refl _, fun _ _ => rfl, fun _ h => h⟩

theorem Ev.trans {F : Nat → Prop} {m m1 m2 : MM} {S S1 S2 : Store} {w w1 w2 : World} (h : Ev F m S w m1 S1 w1) (k : Ev F m1 S1 w1 m2 S2 w2) : Ev F m S w m2 S2 w2 := by
  have hsz := h.size
  refine ⟨k.rel, fun r x hx => k.mm r x (h.mm r x hx), k.os.trans h.os, k.tape.trans h.tape, k.output.trans h.output, Nat.le_trans h.size k.size, fun b hb ho => ?_, fun b hb => ?_, fun r b z cap hm => ?_, Nat.le_trans h.len k.len, fun r hr => (k.old r (Nat.lt_of_lt_of_le hr h.len)).trans (h.old r hr), fun D hD => k.dfr D (h.dfr D hD)⟩
  · rw [k.keep b (by omega) fun h1 => ?_, h.keep b hb ho]
    rcases h.own b h1 with h2 | h2
    · exact ho h2
    · omega
  · rcases k.own b hb with h1 | h1
    · exact h.own b h1
    · exact .inr (by omega)
  · rcases k.blk r b z cap hm with ⟨r0, z0, c0, h1⟩ | h1
    · exact h.blk r0 b z0 c0 h1
    · exact .inr (by omega)

/-- A value's cells. -/
theorem V.cells {w : World} {X : Nat → Prop} {m : MM} {v : LV} {u : Value} (h : V w X m v u) (hs : solid v = true) :
    u.cells.size = v.leaves.length ∧ (∀ q, q < v.leaves.length → oneCell (u.cells.getD q Go.undef) = true) ∧ ∀ q, q < v.leaves.length → V w X m (v.leaves.getD q .undef) (u.cells.getD q Go.undef) := by
  have one : ∀ {v : LV} {u : Value}, V w X m v u → v.leaves = [v] → u.cells = #[u] → oneCell u = true →
      u.cells.size = v.leaves.length ∧ (∀ q, q < v.leaves.length → oneCell (u.cells.getD q Go.undef) = true) ∧ ∀ q, q < v.leaves.length → V w X m (v.leaves.getD q .undef) (u.cells.getD q Go.undef) := by
    intro v u h h1 h2 h3
    rw [h1, h2]
    refine ⟨by simp, ?_, ?_⟩ <;> intro q hq <;> obtain rfl : q = 0 := by simpa using hq
    · simpa using h3
    · simpa using h
  cases h with
  | agg hl h1 h => exact ⟨hl, h1, h⟩
  | tup => cases hs
  | undef => cases hs
  | int => exact one .int rfl rfl rfl
  | bool => exact one .bool rfl rfl rfl
  | str => exact one .str rfl rfl rfl
  | sl hn hc hcm hnil h0 hz hb h1 hv => exact one (.sl hn hc hcm hnil h0 hz hb h1 hv) rfl rfl rfl
  | slz => exact one .slz rfl rfl rfl
  | row hm ha hl hc hcm => exact one (.row hm ha hl hc hcm) rfl rfl rfl
  | ref hm => exact one (.ref hm) rfl rfl rfl
  | imm hs1 hx hb hc h1 hv => exact one (.imm hs1 hx hb hc h1 hv) rfl rfl rfl
  | mp hm => exact one (.mp hm) rfl rfl rfl
  | yld hm => exact one (.yld hm) rfl rfl rfl
  | nilp => exact one .nilp rfl rfl rfl
  | fn hl hl' h h' => exact one (.fn hl hl' h h') rfl rfl rfl

theorem oneCell_eq (v : Value) : v.oneCell' = oneCell v := by cases v <;> rfl

/-- A new object. -/
def mput (m : MM) (r : Nat) (x : Nat × Nat × Nat) : MM := fun q => if q = r then some x else m q

theorem getElem?_snoc_lt {α : Type} (l : List α) (x : α) {r : Nat} (h : r < l.length) : (l ++ [x])[r]? = l[r]? := List.getElem?_append_left h
theorem getElem?_snoc_len {α : Type} (l : List α) (x : α) : (l ++ [x])[l.length]? = some x := by simp

theorem Rel.dom {w : World} {F : Nat → Prop} {m : MM} {S : Store} (h : Rel w F m S) {r : Nat} {x : Nat × Nat × Nat} (hm : m r = some x) : r < S.length := by
  obtain ⟨o, ho, _⟩ := h.obj r x.1 x.2.1 x.2.2 hm
  exact (List.getElem?_eq_some_iff.1 ho).1

theorem ObjR.on {w w' : World} {X X' : Nat → Prop} {m m' : MM} {b z cap : Nat} {o : Obj} (h : ObjR w X m b z cap o)
    (hb : o ≠ .dead → w'.heap[b]? = w.heap[b]?)
    (hs : w.heap.size ≤ w'.heap.size) (hk : ∀ b, b < w.heap.size → ¬ X b → w'.heap[b]? = w.heap[b]?) (hx : ∀ b, b < w.heap.size → X' b → X b)
    (hm : ∀ r x, m r = some x → m' r = some x) : ObjR w' X' m' b z cap o := by
  cases o with
  | cell v =>
    obtain ⟨T, c, hh, h1, h2, h3, h4⟩ := h
    exact ⟨T, c, (hb (by simp)).trans hh, h1, h2, h3, fun q hq => (h4 q hq).on hs hk hx hm⟩
  | row E z' es mu =>
    obtain ⟨h0, hz, h1, c, hh, h2, h3, h4, h5, h6⟩ := h
    exact ⟨h0, hz, h1, c, (hb (by simp)).trans hh, h2, h3, h4, h5, fun q hq => (h6 q hq).on hs hk hx fun _ _ h => h⟩
  | mapo es =>
    obtain ⟨en, ck, hh, h1⟩ := h
    exact ⟨en, ck, (hb (by simp)).trans hh, h1⟩
  | lp st nt e ps asg body =>
    obtain ⟨rc, hh, h1, h2, h3, h4, h5⟩ := h
    exact ⟨rc, (hb (by simp)).trans hh, h1, h2, h3, h4, fun t => (h5 t).on hs hk hx hm⟩
  | dead => trivial

/-- An object is added, with a block of its own. -/
theorem Ev.add {F : Nat → Prop} {m : MM} {S : Store} {w w' : World} (h : Rel w F m S) (o : Obj) (b z cap : Nat)
    (hb : w.heap.size ≤ b) (hos : w'.os = w.os) (htape : w'.tape = w.tape) (hout : w'.output = w.output) (hsz : w.heap.size ≤ w'.heap.size) (hblt : b < w'.heap.size)
    (hk : ∀ b, b < w.heap.size → w'.heap[b]? = w.heap[b]?)
    (ho : ∀ X, (∀ q, q < w.heap.size → X q → XX F m S q) → ObjR w' X (mput m S.length (b, z, cap)) b z cap o) :
    Ev F m S w (mput m S.length (b, z, cap)) (S ++ [o]) w' := by
  have hmm : ∀ r x, m r = some x → mput m S.length (b, z, cap) r = some x := fun r x hx => by
    have := h.dom hx
    simp only [mput]; rw [if_neg (by omega)]; exact hx
  have hold : ∀ r x, mput m S.length (b, z, cap) r = some x → r = S.length ∧ x = (b, z, cap) ∨ m r = some x := by
    intro r x hx
    simp only [mput] at hx
    split at hx
    · rename_i e; exact .inl ⟨e, (Option.some.inj hx).symm⟩
    · exact .inr hx
  have hown : ∀ q, Own (mput m S.length (b, z, cap)) (S ++ [o]) q → Own m S q ∨ w.heap.size ≤ q := by
    rintro q ⟨r, z', cap', hm, ob, hob, hw⟩
    rcases hold r _ hm with ⟨rfl, he⟩ | hm'
    · injection he with he _
      exact .inr (by omega)
    · have := h.dom hm'
      rw [getElem?_snoc_lt _ _ this] at hob
      exact .inl ⟨r, z', cap', hm', ob, hob, hw⟩
  have hxx : ∀ q, q < w.heap.size → XX F (mput m S.length (b, z, cap)) (S ++ [o]) q → XX F m S q := by
    rintro q hq (hx | hx)
    · exact .inl hx
    · rcases hown q hx with h1 | h1
      · exact .inr h1
      · omega
  have hblk : ∀ r b' z' cap', mput m S.length (b, z, cap) r = some (b', z', cap') → (∃ r0 z0 c0, m r0 = some (b', z0, c0)) ∨ w.heap.size ≤ b' := by
    intro r b' z' cap' hm
    rcases hold r _ hm with ⟨_, he⟩ | hm'
    · cases he; exact .inr hb
    · exact .inl ⟨r, z', cap', hm'⟩
  refine ⟨⟨?_, ?_, ?_, ?_⟩, hmm, hos, htape, hout, hsz, fun q hq _ => hk q hq, hown, hblk, by simp, fun r hr => by simp only [mput]; rw [if_neg (by omega)], fun D hD => (hk D (heap_lt hD)).trans hD⟩
  · intro r b' z' cap' hm
    rcases hold r _ hm with ⟨rfl, he⟩ | hm'
    · cases he
      exact ⟨o, getElem?_snoc_len S o, ho _ hxx⟩
    · have hd := h.dom hm'
      obtain ⟨ob, hob, hr⟩ := h.obj r b' z' cap' hm'
      refine ⟨ob, by rw [getElem?_snoc_lt _ _ hd]; exact hob, ObjR.on hr (fun hnd => ?_) hsz (fun q hq _ => hk q hq) hxx hmm⟩
      cases ob with
      | cell v => obtain ⟨T, c, hh, _⟩ := hr; exact hk _ (Array.getElem?_eq_some_iff.1 hh).1
      | mapo es => obtain ⟨en, ck, hh, _⟩ := hr; exact hk _ (Array.getElem?_eq_some_iff.1 hh).1
      | lp st nt e ps asg body => obtain ⟨rc, hh, _⟩ := hr; exact hk _ (Array.getElem?_eq_some_iff.1 hh).1
      | row E z'' es mu => obtain ⟨_, _, _, c, hh, _⟩ := hr; exact hk _ (Array.getElem?_eq_some_iff.1 hh).1
      | dead => exact (hnd rfl).elim
  · rintro r r' b' z1 cap1 z2 cap2 hne hm hm' ⟨ob, hob, hw⟩ ⟨ob', hob', hl⟩
    have old : ∀ r b' z' cap', m r = some (b', z', cap') → ∀ ob, S[r]? = some ob → ob ≠ .dead → b' < w.heap.size := by
      intro r b' z' cap' hm ob hob hnd
      obtain ⟨ob2, hob2, hr⟩ := h.obj r b' z' cap' hm
      rw [hob] at hob2; obtain rfl := Option.some.inj hob2
      cases ob with
      | cell v => obtain ⟨T, c, hh, _⟩ := hr; exact (Array.getElem?_eq_some_iff.1 hh).1
      | mapo es => obtain ⟨en, ck, hh, _⟩ := hr; exact (Array.getElem?_eq_some_iff.1 hh).1
      | lp st nt e ps asg body => obtain ⟨rc, hh, _⟩ := hr; exact (Array.getElem?_eq_some_iff.1 hh).1
      | row E z'' es mu => obtain ⟨_, _, _, c, hh, _⟩ := hr; exact (Array.getElem?_eq_some_iff.1 hh).1
      | dead => exact (hnd rfl).elim
    rcases hold r _ hm with ⟨rfl, he⟩ | hm1 <;> rcases hold r' _ hm' with ⟨rfl, he'⟩ | hm2
    · exact hne rfl
    · injection he with he _
      have hd := h.dom hm2
      rw [getElem?_snoc_lt _ _ hd] at hob'
      have := old r' b' z2 cap2 hm2 ob' hob' hl
      omega
    · injection he' with he' _
      have hd := h.dom hm1
      rw [getElem?_snoc_lt _ _ hd] at hob
      have := old r b' z1 cap1 hm1 ob hob (fun e => by subst e; exact hw)
      omega
    · have hd := h.dom hm1
      have hd' := h.dom hm2
      rw [getElem?_snoc_lt _ _ hd] at hob
      rw [getElem?_snoc_lt _ _ hd'] at hob'
      exact h.ne r r' b' z1 cap1 z2 cap2 hne hm1 hm2 ⟨ob, hob, hw⟩ ⟨ob', hob', hl⟩
  · rintro r b' z' cap' hm ⟨ob, hob, hw⟩ hF
    rcases hold r _ hm with ⟨rfl, he⟩ | hm1
    · injection he with he _
      have := h.lt b' hF
      omega
    · have hd := h.dom hm1
      rw [getElem?_snoc_lt _ _ hd] at hob
      exact h.sep r b' z' cap' hm1 ⟨ob, hob, hw⟩ hF
  · intro q hq
    have := h.lt q hq
    omega

/-- The same, where what had no object may have one. -/
structure EvP (F : Nat → Prop) (m : MM) (S : Store) (w : World) (m' : MM) (S' : Store) (w' : World) : Prop where
  rel : Rel w' F m' S'
  mm : ∀ r x, m r = some x → m' r = some x
  os : w'.os = w.os
  tape : w'.tape = w.tape
  output : w'.output = w.output
  size : w.heap.size ≤ w'.heap.size
  keep : ∀ b, b < w.heap.size → ¬ Own m S b → w'.heap[b]? = w.heap[b]?
  own : ∀ b, Own m' S' b → Own m S b ∨ w.heap.size ≤ b
  blk : ∀ r b z cap, m' r = some (b, z, cap) → (∃ r0 z0 c0, m r0 = some (b, z0, c0)) ∨ w.heap.size ≤ b
  len : S.length ≤ S'.length
  dfr : ∀ D : Nat, w.heap[D]? = some (Go.Obj.deferred (some [])) → w'.heap[D]? = some (Go.Obj.deferred (some []))

theorem Ev.toP {F : Nat → Prop} {m m' : MM} {S S' : Store} {w w' : World} (h : Ev F m S w m' S' w') : EvP F m S w m' S' w' :=
  ⟨h.rel, h.mm, h.os, h.tape, h.output, h.size, h.keep, h.own, h.blk, h.len, h.dfr⟩

theorem EvP.xx {F : Nat → Prop} {m m' : MM} {S S' : Store} {w w' : World} (h : EvP F m S w m' S' w') {b : Nat} (hb : b < w.heap.size) (hx : XX F m' S' b) : XX F m S b := by
  rcases hx with hx | hx
  · exact .inl hx
  · rcases h.own b hx with h1 | h1
    · exact .inr h1
    · omega

theorem V.evP {F : Nat → Prop} {m m' : MM} {S S' : Store} {w w' : World} {v : LV} {u : Value} (h : V w (XX F m S) m v u) (e : EvP F m S w m' S' w') : V w' (XX F m' S') m' v u :=
  h.on e.size (fun b hb hx => e.keep b hb fun ho => hx (.inr ho)) (fun b hb hx => e.xx hb hx) e.mm

theorem Ev.transP {F : Nat → Prop} {m m1 m2 : MM} {S S1 S2 : Store} {w w1 w2 : World} (h : Ev F m S w m1 S1 w1) (k : EvP F m1 S1 w1 m2 S2 w2) (hold : ∀ r, r < S.length → m2 r = m1 r) : Ev F m S w m2 S2 w2 := by
  have hsz := h.size
  refine ⟨k.rel, fun r x hx => k.mm r x (h.mm r x hx), k.os.trans h.os, k.tape.trans h.tape, k.output.trans h.output, Nat.le_trans h.size k.size, fun b hb ho => ?_, fun b hb => ?_, fun r b z cap hm => ?_, Nat.le_trans h.len k.len, fun r hr => (hold r hr).trans (h.old r hr), fun D hD => k.dfr D (h.dfr D hD)⟩
  · rw [k.keep b (by omega) fun h1 => ?_, h.keep b hb ho]
    rcases h.own b h1 with h2 | h2
    · exact ho h2
    · omega
  · rcases k.own b hb with h1 | h1
    · exact h.own b h1
    · exact .inr (by omega)
  · rcases k.blk r b z cap hm with ⟨r0, z0, c0, h1⟩ | h1
    · exact h.blk r0 b z0 c0 h1
    · exact .inr (by omega)

/-- An object is laid where room was kept, with a block of its own. -/
theorem Ev.put {F : Nat → Prop} {m : MM} {S : Store} {w w' : World} (h : Rel w F m S) (o : Obj) (s b z cap : Nat) (hs : S[s]? = some .dead) (hms : m s = none)
    (hb : w.heap.size ≤ b) (hos : w'.os = w.os) (htape : w'.tape = w.tape) (hout : w'.output = w.output) (hsz : w.heap.size ≤ w'.heap.size) (hblt : b < w'.heap.size)
    (hk : ∀ b, b < w.heap.size → w'.heap[b]? = w.heap[b]?)
    (ho : ObjR w' (XX F (mput m s (b, z, cap)) (S.set s o)) (mput m s (b, z, cap)) b z cap o) :
    EvP F m S w (mput m s (b, z, cap)) (S.set s o) w' := by
  have hsl : s < S.length := (List.getElem?_eq_some_iff.1 hs).1
  have hmm : ∀ r x, m r = some x → mput m s (b, z, cap) r = some x := fun r x hx => by
    simp only [mput]; rw [if_neg (fun e => by subst e; rw [hms] at hx; cases hx)]; exact hx
  have hget : ∀ r x, m r = some x → (S.set s o)[r]? = S[r]? := fun r x hx => List.getElem?_set_ne (fun e => by subst e; rw [hms] at hx; cases hx)
  have hold : ∀ r x, mput m s (b, z, cap) r = some x → r = s ∧ x = (b, z, cap) ∨ m r = some x := by
    intro r x hx
    simp only [mput] at hx
    split at hx
    · rename_i e; exact .inl ⟨e, (Option.some.inj hx).symm⟩
    · exact .inr hx
  have hown : ∀ q, Own (mput m s (b, z, cap)) (S.set s o) q → Own m S q ∨ w.heap.size ≤ q := by
    rintro q ⟨r, z', cap', hm, ob, hob, hw⟩
    rcases hold r _ hm with ⟨rfl, he⟩ | hm'
    · injection he with he _
      exact .inr (by omega)
    · rw [hget r _ hm'] at hob
      exact .inl ⟨r, z', cap', hm', ob, hob, hw⟩
  have hxx : ∀ q, q < w.heap.size → XX F (mput m s (b, z, cap)) (S.set s o) q → XX F m S q := by
    rintro q hq (hx | hx)
    · exact .inl hx
    · rcases hown q hx with h1 | h1
      · exact .inr h1
      · omega
  have hblk : ∀ r b' z' cap', mput m s (b, z, cap) r = some (b', z', cap') → (∃ r0 z0 c0, m r0 = some (b', z0, c0)) ∨ w.heap.size ≤ b' := by
    intro r b' z' cap' hm
    rcases hold r _ hm with ⟨_, he⟩ | hm'
    · cases he; exact .inr hb
    · exact .inl ⟨r, z', cap', hm'⟩
  have old : ∀ r b' z' cap', m r = some (b', z', cap') → ∀ ob, S[r]? = some ob → ob ≠ .dead → b' < w.heap.size := by
    intro r b' z' cap' hm ob hob hnd
    obtain ⟨ob2, hob2, hr⟩ := h.obj r b' z' cap' hm
    rw [hob] at hob2; obtain rfl := Option.some.inj hob2
    cases ob with
    | cell v => obtain ⟨T, c, hh, _⟩ := hr; exact (Array.getElem?_eq_some_iff.1 hh).1
    | mapo es => obtain ⟨en, ck, hh, _⟩ := hr; exact (Array.getElem?_eq_some_iff.1 hh).1
    | lp st nt e ps asg body => obtain ⟨rc, hh, _⟩ := hr; exact (Array.getElem?_eq_some_iff.1 hh).1
    | row E z'' es mu => obtain ⟨_, _, _, c, hh, _⟩ := hr; exact (Array.getElem?_eq_some_iff.1 hh).1
    | dead => exact (hnd rfl).elim
  refine ⟨⟨?_, ?_, ?_, ?_⟩, hmm, hos, htape, hout, hsz, fun q hq _ => hk q hq, hown, hblk, by simp, fun D hD => (hk D (heap_lt hD)).trans hD⟩
  · intro r b' z' cap' hm
    rcases hold r _ hm with ⟨rfl, he⟩ | hm'
    · cases he
      exact ⟨o, List.getElem?_set_self hsl, ho⟩
    · obtain ⟨ob, hob, hr⟩ := h.obj r b' z' cap' hm'
      refine ⟨ob, by rw [hget r _ hm']; exact hob, ObjR.on hr (fun hnd => ?_) hsz (fun q hq _ => hk q hq) hxx hmm⟩
      exact hk _ (old r b' z' cap' hm' ob hob hnd)
  · rintro r r' b' z1 cap1 z2 cap2 hne hm hm' ⟨ob, hob, hw⟩ ⟨ob', hob', hl⟩
    rcases hold r _ hm with ⟨rfl, he⟩ | hm1 <;> rcases hold r' _ hm' with ⟨rfl, he'⟩ | hm2
    · exact hne rfl
    · injection he with he _
      rw [hget r' _ hm2] at hob'
      have := old r' b' z2 cap2 hm2 ob' hob' hl
      omega
    · injection he' with he' _
      rw [hget r _ hm1] at hob
      have := old r b' z1 cap1 hm1 ob hob (fun e => by subst e; exact hw)
      omega
    · rw [hget r _ hm1] at hob
      rw [hget r' _ hm2] at hob'
      exact h.ne r r' b' z1 cap1 z2 cap2 hne hm1 hm2 ⟨ob, hob, hw⟩ ⟨ob', hob', hl⟩
  · rintro r b' z' cap' hm ⟨ob, hob, hw⟩ hF
    rcases hold r _ hm with ⟨rfl, he⟩ | hm1
    · injection he with he _
      have := h.lt b' hF
      omega
    · rw [hget r _ hm1] at hob
      exact h.sep r b' z' cap' hm1 ⟨ob, hob, hw⟩ hF
  · intro q hq
    have := h.lt q hq
    omega

/-- Room is kept. -/
theorem Ev.room {F : Nat → Prop} {m : MM} {S : Store} {w : World} (h : Rel w F m S) (k : Nat) : Ev F m S w m (S ++ List.replicate k .dead) w := by
  have hown : ∀ q, Own m (S ++ List.replicate k .dead) q → Own m S q := by
    rintro q ⟨r, z, cap, hm, ob, hob, hw⟩
    rw [List.getElem?_append_left (h.dom hm)] at hob
    exact ⟨r, z, cap, hm, ob, hob, hw⟩
  have hxx : ∀ q, XX F m (S ++ List.replicate k .dead) q → XX F m S q := fun q hq => hq.imp id (hown q)
  refine ⟨⟨fun r b z cap hm => ?_, ?_, ?_, h.lt⟩, fun _ _ h => h, rfl, rfl, rfl, Nat.le_refl _, fun _ _ _ => rfl, fun q hq => .inl (hown q hq), fun r b z cap h => .inl ⟨r, z, cap, h⟩, by simp, fun _ _ => rfl, fun _ h => h⟩
  · obtain ⟨o, ho, hr⟩ := h.obj r b z cap hm
    exact ⟨o, by rw [List.getElem?_append_left (h.dom hm)]; exact ho, hr.on (fun _ => rfl) (Nat.le_refl _) (fun _ _ _ => rfl) (fun q _ hq => hxx q hq) fun _ _ h => h⟩
  · rintro r r' b z1 c1 z2 c2 hne hm hm' ⟨o, ho, hw⟩ ⟨o', ho', hl⟩
    rw [List.getElem?_append_left (h.dom hm)] at ho
    rw [List.getElem?_append_left (h.dom hm')] at ho'
    exact h.ne r r' b z1 c1 z2 c2 hne hm hm' ⟨o, ho, hw⟩ ⟨o', ho', hl⟩
  · rintro r b z cap hm ⟨o, ho, hl⟩
    rw [List.getElem?_append_left (h.dom hm)] at ho
    exact h.sep r b z cap hm ⟨o, ho, hl⟩

/-- The world draws: nothing turns. -/
theorem Rel.world {w w' : World} {F : Nat → Prop} {m : MM} {S : Store} (h : Rel w F m S) (hh : w'.heap = w.heap) : Rel w' F m S := by
  refine ⟨fun r b z cap hm => ?_, h.ne, h.sep, fun b hb => by rw [hh]; exact h.lt b hb⟩
  obtain ⟨o, ho, hr⟩ := h.obj r b z cap hm
  exact ⟨o, ho, hr.on (fun _ => by rw [hh]) (by rw [hh]; exact Nat.le_refl _) (fun b _ _ => by rw [hh]) (fun _ _ h => h) fun _ _ h => h⟩

theorem Ev.drawn {F : Nat → Prop} {m : MM} {S : Store} {w : World} (h : Rel w F m S) : Ev F m S w m S { w with drawn := w.drawn + 1 } :=
  ⟨h.world rfl, fun _ _ h => h, rfl, rfl, rfl, Nat.le_refl _, fun _ _ _ => rfl, fun _ h => .inl h, fun r b z cap h => .inl ⟨r, z, cap, h⟩, Nat.le_refl _, fun _ _ => rfl, fun _ h => h⟩

/-- The world has grown. -/
theorem Ev.ext {F : Nat → Prop} {m : MM} {S : Store} {w w' : World} (h : Rel w F m S) (hos : w'.os = w.os) (htape : w'.tape = w.tape) (hout : w'.output = w.output) (hsz : w.heap.size ≤ w'.heap.size)
    (hk : ∀ b, b < w.heap.size → w'.heap[b]? = w.heap[b]?) : Ev F m S w m S w' := by
  refine ⟨⟨fun r b z cap hm => ?_, h.ne, h.sep, fun b hb => by have := h.lt b hb; omega⟩, fun _ _ h => h, hos, htape, hout, hsz, fun b hb _ => hk b hb, fun _ h => .inl h, fun r b z cap h => .inl ⟨r, z, cap, h⟩, Nat.le_refl _, fun _ _ => rfl, fun D hD => (hk D (heap_lt hD)).trans hD⟩
  obtain ⟨o, ho, hr⟩ := h.obj r b z cap hm
  refine ⟨o, ho, hr.on (fun hnd => ?_) hsz (fun b hb _ => hk b hb) (fun _ _ h => h) fun _ _ h => h⟩
  cases o with
  | cell v => obtain ⟨T, c, hh, _⟩ := hr; exact hk _ (Array.getElem?_eq_some_iff.1 hh).1
  | mapo es => obtain ⟨en, ck, hh, _⟩ := hr; exact hk _ (Array.getElem?_eq_some_iff.1 hh).1
  | lp st nt e ps asg body => obtain ⟨rc, hh, _⟩ := hr; exact hk _ (Array.getElem?_eq_some_iff.1 hh).1
  | row E z'' es mu => obtain ⟨_, _, _, c, hh, _⟩ := hr; exact hk _ (Array.getElem?_eq_some_iff.1 hh).1
  | dead => exact (hnd rfl).elim

end Go.Am
