/- Calls: on values without numbers, in a store of their own; or in the caller's. -/
import Derived.Test.YtfekfnapgfddbaaGreatAm12
import Derived.RangeFuncLeaves
import Derived.RangeFuncRecord
import Derived.OrdersIn
set_option linter.unusedVariables false
set_option linter.unusedSimpArgs false
set_option linter.unusedSectionVars false
namespace Go.Am
open Go Go.RowKit
variable [HasProg]

/-- What a call comes to. -/
def Ret (F : Nat → Prop) (m : MM) (S : Store) (w : World) (r : LV) (S' : Store) (e : Ending) (w' : World) : Prop :=
  ∃ u m', e = .returned u ∧ V w' (XX F m' S') m' r u ∧ Ev F m S w m' S' w'

def SoundAt (P : Program) (f : Nat) (args : List LV) (S : Store) (r : LV) (S' : Store) : Prop :=
  (∀ (w : World) (vs : Array Value), (callFunc f vs).run P w = .ok (.enter f vs) w) ∧
  ∀ (F : Nat → Prop) (m : MM) (w : World) (vs : Array Value), Rel w F m S → vs.size = args.length → (∀ i, i < args.length → V w (XX F m S) m (args.getD i .undef) (vs.getD i Go.undef)) →
    Calls P f vs w (Ret F m S w r S')

/-- The fence that lets all in, of a function's frames, or of a round's. -/
def fen (ro : Option Nat) : Fence := { Fence.wide with round := ro }

theorem fen_fn (ro : Option Nat) (f : Nat) : (fen ro).fn f := trivial
theorem fen_depth (ro : Option Nat) (n : Nat) : (fen ro).depth.isSome = true → 1 ≤ n := fun h => by simp [fen, Fence.wide] at h
theorem calls_fen {ro : Option Nat} {n : Nat} {P : Program} {f : FuncId} {args : Array Value} {w : World} {R : Ending → World → Prop} (h : Calls P f args w R) : CallsIn (fen ro) n P f args w R :=
  (callsIn_wide (n := n)).2 h

/-- What a call of yield comes to: a round. -/
def SoundYield (P : Program) (args : List LV) (S : Store) (r : LV) (S' : Store) : Prop :=
  ∃ k xs, args = .yld k :: xs ∧ ∀ (F : Nat → Prop) (m : MM) (w : World) (l z cap : Nat) (vs : Array Value), Rel w F m S → m k = some (l, z, cap) → vs.size = xs.length →
    (∀ i, i < xs.length → V w (XX F m S) m (xs.getD i .undef) (vs.getD i Go.undef)) →
    ∃ fn tmps asg body, (Instr.yield l vs).run P w = .ok (.round l fn tmps asg body) w ∧ ∀ ro n, RoundIn (fen ro) n P l fn tmps asg body w (Ret F m S w r S')

/-- What is said of calls is so. -/
def SoundW (P : Program) (W : Call) : Prop :=
  (∀ f args S r S', f ≠ yB → W f args S = some (r, S') → SoundAt P f args S r S') ∧ ∀ args S r S', W yB args S = some (r, S') → SoundYield P args S r S'

section
variable {P : Program} {F : Nat → Prop} {m : MM} {S : Store} {w : World}

theorem plain_V {v : LV} {u : Value} {X X' : Nat → Prop} {m m' : MM} {w' : World} (hp : plainLeaf v = true) (h : V w X m v u) : V w' X' m' v u := by
  cases v <;> simp [plainLeaf] at hp
  · cases h; exact .int
  · cases h; exact .bool
  · cases h; exact .str

theorem plain_leaves {v : LV} (hp : plainLeaf v = true) : v.leaves = [v] := by cases v <;> simp [plainLeaf] at hp <;> rfl

theorem flat_plain : ∀ {es : List LV}, es.all plainLeaf = true → flat es = es
  | [], _ => rfl
  | v :: vs, h => by
    simp only [List.all_cons, Bool.and_eq_true] at h
    have := flat_plain h.2
    simp only [flat, List.flatMap_cons, plain_leaves h.1] at this ⊢
    rw [this]; rfl

theorem all_getD {es : List LV} (h : es.all plainLeaf = true) {q : Nat} (hq : q < es.length) : plainLeaf (es.getD q .undef) = true := by
  rw [List.getD_eq_getElem?_getD, List.getElem?_eq_getElem hq]
  exact List.all_eq_true.1 h _ (List.getElem_mem hq)

/-- A slice of a row of plain elements, as a list: it may lie in any block that isn't barred. -/
theorem row_as_list_plain (h : Rel w F m S) {X : Nat → Prop} {r zz off len E z : Nat} {es : List LV} {mu : Bool} {u : Value}
    (hv : V w (XX F m S) m (.row r zz off len) u) (ho : S[r]? = some (.row E z es mu)) (hle : off + len ≤ es.length) (hp : es.all plainLeaf = true)
    (hX2 : ∀ b z cap, m r = some (b, z, cap) → ¬ X b) : V w X M0 (.sl false ((es.drop off).take len)) u := by
  have h0 := row_as_list h (X := fun b => XX F m S b ∧ X b) hv ho hle (fun q hq => hq.1) fun b z cap hm hx => hX2 b z cap hm hx.2
  cases h0 with
  | @sl _ _ _ a n c z' cv hn hc hcm hnil h00 hz hb h1 hvv =>
    refine .sl hn hc hcm hnil h00 hz (fun hpos => ?_) h1 fun q hq => ?_
    · obtain ⟨b, o, ea, hx, hlt, hcell⟩ := hb hpos
      refine ⟨b, o, ea, fun hxb => ?_, hlt, hcell⟩
      cases hv with
      | @row _ _ _ _ _ b' cap o' c' hm ha hl hc' hcm' =>
        cases ea
        exact hX2 _ _ _ hm hxb
    · have hd : ((es.drop off).take len).all plainLeaf = true := List.all_eq_true.2 fun v hv => List.all_eq_true.1 hp v (List.mem_of_mem_drop (List.mem_of_mem_take hv))
      by_cases hlt : q < ((es.drop off).take len).length
      · have hpl := all_getD hd hlt
        have := hvv q hq
        rw [flat_plain hd] at this ⊢
        exact plain_V hpl this
      · have : (flat ((es.drop off).take len)).getD q .undef = .undef := by
          rw [flat_plain hd, List.getD_eq_getElem?_getD, List.getElem?_eq_none (by omega)]; rfl
        rw [this]; exact .undef

/-- A leaf of a result that holds nobody else's memory. -/
theorem closeLeaf_own (h : Rel w F m S) {X : Nat → Prop} {v d : LV} {u : Value} (hv : V w (XX F m S) m v u) (hc : closeLeaf S v = some d) (hf : foreignLeaf S v = false)
    (hX2 : ∀ r, r ∈ rowsLeaf v → ∀ b z cap, m r = some (b, z, cap) → ¬ X b) : V w X M0 d u := by
  cases v <;> simp only [closeLeaf] at hc <;> try (cases hc; done)
  · cases hc; cases hv; exact .int
  · cases hc; cases hv; exact .bool
  · cases hc; cases hv; exact .str
  · rename_i nil es
    cases hc
    cases nil with
    | false => simp [foreignLeaf] at hf
    | true =>
      cases es with
      | cons => simp [foreignLeaf] at hf
      | nil =>
        rw [hv.nil_inv]
        exact .sl (z := 1) (cv := fun _ => Go.undef) rfl (Nat.le_refl _) (Nat.zero_le _) (by simp) (by simp) (fun v hv => by simp at hv) (fun h => by omega) (fun q hq => by omega) fun q hq => by omega
  · simp [foreignLeaf] at hf
  · rename_i r zz off len
    split at hc
    · rename_i E z es mu ho
      split at hc
      · rename_i hle
        cases hc
        simp only [foreignLeaf, ho, Bool.not_eq_false'] at hf
        exact row_as_list_plain h hv ho hle hf fun b z cap hm => hX2 r (by simp [rowsLeaf]) b z cap hm
      · cases hc
    · cases hc
  · simp [foreignLeaf] at hf
  · cases hc; cases hv; exact .nilp
  · rename_i f first caps
    cases first with
    | cons => simp [closeLeaf] at hc
    | nil =>
      cases caps with
      | cons => simp [closeLeaf] at hc
      | nil =>
        simp only [closeLeaf] at hc
        cases hc
        cases hv with
        | fn hl hl' h1 h2 => exact .fn hl hl' (fun i hi => by simp at hi) fun i hi => by simp at hi

theorem close_own (h : Rel w F m S) {X : Nat → Prop} {v d : LV} {u : Value} (hv : V w (XX F m S) m v u) (hc : close S v = some d) (hf : v.leaves.any (foreignLeaf S) = false)
    (hX2 : ∀ r, r ∈ rowsOf v → ∀ b z cap, m r = some (b, z, cap) → ¬ X b) : V w X M0 d u := by
  by_cases ha : ∃ fs, v = .agg fs
  · obtain ⟨fs, rfl⟩ := ha
    simp only [close] at hc
    split at hc
    · cases hc
    · rename_i gs hgs
      cases hc
      cases hv with
      | agg hl h1 hh =>
        have hlen := mapO_length hgs
        refine .agg (by omega) (fun i hi => h1 i (by omega)) fun i hi => ?_
        have hi' : i < fs.length := by omega
        obtain ⟨b, hb, hb'⟩ := mapO_get hgs i fs[i] (List.getElem?_eq_getElem hi')
        have hvi := hh i hi'
        rw [List.getD_eq_getElem?_getD, List.getElem?_eq_getElem hi'] at hvi
        rw [List.getD_eq_getElem?_getD, hb']
        have hfi : foreignLeaf S fs[i] = false := by
          simp only [LV.leaves, List.any_eq_false] at hf
          simpa using hf _ (List.getElem_mem hi')
        exact closeLeaf_own h hvi hb hfi fun r hr => hX2 r (List.mem_flatMap.2 ⟨fs[i], by simp [LV.leaves], hr⟩)
  · have hcl : close S v = closeLeaf S v := by
      cases v <;> first | rfl | exact (ha ⟨_, rfl⟩).elim
    have hl : v.leaves = [v] := by cases v <;> first | rfl | exact (ha ⟨_, rfl⟩).elim
    rw [hcl] at hc
    rw [hl] at hf
    simp only [List.any_cons, List.any_nil, Bool.or_false] at hf
    refine closeLeaf_own h hv hc hf fun r hr => hX2 r ?_
    simp only [rowsOf, hl, List.flatMap_cons, List.flatMap_nil, List.append_nil]; exact hr

/-- A closed result, in whatever store: nothing in it has a number. -/
theorem freeze_app (S : Store) (a b : List Nat) : freeze S (a ++ b) = freeze (freeze S a) b := by
  induction a generalizing S with
  | nil => rfl
  | cons r rs ih => simp only [List.cons_append, freeze, ih]

/-- A result whose rows are written no more. -/
theorem closeOut_V (h : Rel w F m S) {v d : LV} {u : Value} (hv : V w (XX F m S) m v u) (hc : closeRes S v = some d) {m' : MM} : V w (XX F m (freeze S (resRows v))) m' d u := by
  have on0 : V w (XX F m (freeze S (resRows v))) M0 d u → V w (XX F m (freeze S (resRows v))) m' d u := fun k => k.on (Nat.le_refl _) (fun _ _ _ => rfl) (fun _ _ h => h) fun r x hx => by cases hx
  refine on0 ?_
  by_cases ht : ∃ fs, v = .tup fs
  · obtain ⟨fs, rfl⟩ := ht
    simp only [closeRes] at hc
    split at hc
    · cases hc
    · rename_i gs hgs
      cases hc
      cases hv with
      | tup hl hh =>
        have hlen := mapO_length hgs
        refine .tup (by omega) fun i hi => ?_
        have hi' : i < fs.length := by omega
        obtain ⟨b, hb, hb'⟩ := mapO_get hgs i fs[i] (List.getElem?_eq_getElem hi')
        have hvi := hh i hi'
        rw [List.getD_eq_getElem?_getD, List.getElem?_eq_getElem hi'] at hvi
        rw [List.getD_eq_getElem?_getD, hb']
        exact close_freeze h hvi hb fun r hr => List.mem_flatMap.2 ⟨_, List.getElem_mem hi', hr⟩
  · have hcl : closeRes S v = close S v := by cases v <;> first | rfl | exact (ht ⟨_, rfl⟩).elim
    have hrr : resRows v = rowsOf v := by cases v <;> first | rfl | exact (ht ⟨_, rfl⟩).elim
    rw [hcl] at hc
    exact close_freeze h hv hc fun r hr => by rw [hrr]; exact hr

theorem closeRes_V (h : Rel w F m S) {X : Nat → Prop} {v d : LV} {u : Value} (hv : V w (XX F m S) m v u) (hc : closeRes S v = some d)
    (hcase : (∀ q, X q → XX F m S q) ∨ foreign S v = false) (hX2 : ∀ r b z cap, m r = some (b, z, cap) → liveAt S r → ¬ X b) (hlive : ∀ r b z cap, m r = some (b, z, cap) → (∃ E z es mu, S[r]? = some (.row E z es mu)) → ¬ X b) : V w X M0 d u := by
  have rows : ∀ {x d : LV}, close S x = some d → ∀ r, r ∈ rowsOf x → ∀ b z cap, m r = some (b, z, cap) → ¬ X b := by
    intro x d hcx r hr b z cap hm
    refine hlive r b z cap hm ?_
    obtain ⟨y, hy, hry⟩ := List.mem_flatMap.1 hr
    have hcy : closeLeaf S y ≠ none := by
      by_cases hag : ∃ fs, x = .agg fs
      · obtain ⟨fs, rfl⟩ := hag
        simp only [close] at hcx
        split at hcx
        · cases hcx
        · rename_i gs hgs
          obtain ⟨i, hi⟩ := List.mem_iff_getElem?.1 hy
          obtain ⟨b, hb, _⟩ := mapO_get hgs i y hi
          rw [hb]; simp
      · have hl : x.leaves = [x] := by cases x <;> first | rfl | exact (hag ⟨_, rfl⟩).elim
        rw [hl] at hy
        obtain rfl : y = x := by simpa using hy
        have : close S y = closeLeaf S y := by cases y <;> first | rfl | exact (hag ⟨_, rfl⟩).elim
        rw [← this, hcx]; simp
    cases y <;> simp [rowsLeaf] at hry
    subst hry
    simp only [closeLeaf] at hcy
    split at hcy
    · rename_i E z es mu hS; exact ⟨_, _, _, _, hS⟩
    · exact (hcy rfl).elim
  have one : ∀ {x d : LV} {u : Value}, V w (XX F m S) m x u → close S x = some d → ((∀ q, X q → XX F m S q) ∨ x.leaves.any (foreignLeaf S) = false) → V w X M0 d u := by
    intro x d u hv hc hcase
    rcases hcase with hX | hf
    · exact close_V h hv hc hX (rows hc)
    · exact close_own h hv hc hf (rows hc)
  by_cases ht : ∃ fs, v = .tup fs
  · obtain ⟨fs, rfl⟩ := ht
    simp only [closeRes] at hc
    split at hc
    · cases hc
    · rename_i gs hgs
      cases hc
      cases hv with
      | tup hl hh =>
        have hlen := mapO_length hgs
        refine .tup (by omega) fun i hi => ?_
        have hi' : i < fs.length := by omega
        obtain ⟨b, hb, hb'⟩ := mapO_get hgs i fs[i] (List.getElem?_eq_getElem hi')
        have hvi := hh i hi'
        rw [List.getD_eq_getElem?_getD, List.getElem?_eq_getElem hi'] at hvi
        rw [List.getD_eq_getElem?_getD, hb']
        refine one hvi hb (hcase.imp id fun hf => ?_)
        simp only [foreign, List.any_eq_false] at hf
        simpa using hf _ (List.getElem_mem hi')
  · have hcl : closeRes S v = close S v := by cases v <;> first | rfl | exact (ht ⟨_, rfl⟩).elim
    rw [hcl] at hc
    refine one hv hc (hcase.imp id fun hf => ?_)
    cases v <;> first
      | exact hf
      | exact (ht ⟨_, rfl⟩).elim
      | simpa [foreign, LV.leaves] using hf

end
end Go.Am
