/- Objects that are made, read, and written. -/
import Derived.Test.YtfekfnapgfddbaaGreatAm4
import Derived.Laws.CopyOwn
set_option linter.unusedVariables false
set_option linter.unusedSimpArgs false
set_option linter.unusedSectionVars false
namespace Go.Am
open Go Go.RowKit
variable [HasProg]

theorem own_live {S : Store} {r : Nat} (h : ownAt S r) : liveAt S r := by
  obtain ⟨o, ho, hw⟩ := h
  exact ⟨o, ho, fun e => by subst e; exact hw⟩

theorem liveAt_block {w : World} {F : Nat → Prop} {m : MM} {S : Store} (h : Rel w F m S) {r b z cap : Nat} (hm : m r = some (b, z, cap)) (hl : liveAt S r) : b < w.heap.size := by
  obtain ⟨o, ho, hnd⟩ := hl
  obtain ⟨o2, ho2, hr⟩ := h.obj r b z cap hm
  rw [ho] at ho2; obtain rfl := Option.some.inj ho2
  cases o with
  | cell v => obtain ⟨T, c, hh, _⟩ := hr; exact (Array.getElem?_eq_some_iff.1 hh).1
  | mapo es => obtain ⟨en, ck, hh, _⟩ := hr; exact (Array.getElem?_eq_some_iff.1 hh).1
  | lp st nt e ps asg body => obtain ⟨rc, hh, _⟩ := hr; exact (Array.getElem?_eq_some_iff.1 hh).1
  | row E z' es mu => obtain ⟨_, _, _, c, hh, _⟩ := hr; exact (Array.getElem?_eq_some_iff.1 hh).1
  | dead => exact (hnd rfl).elim

theorem get_set_ne (S : Store) {r q : Nat} (o : Obj) (h : r ≠ q) : (S.set r o)[q]? = S[q]? := List.getElem?_set_ne h

/-- An object that may be written is another now. -/
theorem Ev.set {F : Nat → Prop} {m : MM} {S : Store} {w w' : World} (h : Rel w F m S) {r b z cap : Nat} (hm : m r = some (b, z, cap)) (hown : ownAt S r) (o : Obj) (ho1 : ownO o)
    (hos : w'.os = w.os) (htape : w'.tape = w.tape) (hout : w'.output = w.output) (hsz : w'.heap.size = w.heap.size)
    (hk : ∀ q, q ≠ b → w'.heap[q]? = w.heap[q]?)
    (ho : (∀ {v : LV} {u : Value} {m' : MM}, V w (XX F m S) m' v u → V w' (XX F m S) m' v u) → ObjR w' (XX F m S) m b z cap o) : Ev F m S w m (S.set r o) w' := by
  have hr : r < S.length := h.dom hm
  have hsame : (S.set r o)[r]? = some o := by simp [hr]
  have hownS : ∀ q, ownAt (S.set r o) q → ownAt S q := by
    rintro q ⟨x, hx, hw⟩
    by_cases e : r = q
    · subst e; exact hown
    · rw [get_set_ne S o e] at hx; exact ⟨x, hx, hw⟩
  have hliveS : ∀ q, liveAt (S.set r o) q → liveAt S q := by
    rintro q ⟨x, hx, hw⟩
    by_cases e : r = q
    · subst e; exact own_live hown
    · rw [get_set_ne S o e] at hx; exact ⟨x, hx, hw⟩
  have hXX : ∀ q, XX F m (S.set r o) q → XX F m S q := by
    rintro q (hq | ⟨r', z', cap', hm', hw⟩)
    · exact .inl hq
    · exact .inr ⟨r', z', cap', hm', hownS _ hw⟩
  have hkx : ∀ q, q < w.heap.size → ¬ XX F m S q → w'.heap[q]? = w.heap[q]? := fun q hq hx => hk q fun e => hx (by subst e; exact .inr ⟨r, z, cap, hm, hown⟩)
  refine ⟨⟨fun r' b' z' cap' hm' => ?_, ?_, ?_, fun q hq => by have := h.lt q hq; omega⟩, fun _ _ h => h, hos, htape, hout, by omega, fun q hq hx => hk q fun e => hx (by subst e; exact ⟨r, z, cap, hm, hown⟩), ?_, fun r b z cap h => .inl ⟨r, z, cap, h⟩, by simp, fun _ _ => rfl, fun D hD => (hk D fun e => by subst e; exact h.own_ne_dfr hm hown hD).trans hD⟩
  · by_cases e : r = r'
    · subst e
      rw [hm] at hm'
      cases hm'
      refine ⟨o, hsame, ?_⟩
      have hv : ∀ {v : LV} {u : Value} {m' : MM}, V w (XX F m S) m' v u → V w' (XX F m S) m' v u := fun hv => hv.on (by omega) hkx (fun _ _ h => h) fun _ _ h => h
      exact (ho hv).on (fun _ => rfl) (Nat.le_refl _) (fun _ _ _ => rfl) (fun q _ hq => hXX q hq) fun _ _ h => h
    · obtain ⟨ob, hob, hr'⟩ := h.obj r' b' z' cap' hm'
      refine ⟨ob, by rw [get_set_ne S o e]; exact hob, hr'.on (fun hnd => ?_) (by omega) hkx (fun q _ hq => hXX q hq) fun _ _ h => h⟩
      refine hk _ fun eb => ?_
      subst eb
      exact h.ne r r' _ _ _ _ _ e hm hm' hown ⟨ob, hob, hnd⟩
  · rintro r1 r2 b' z1 c1 z2 c2 hne h1 h2 h3 h4
    exact h.ne r1 r2 b' z1 c1 z2 c2 hne h1 h2 (hownS _ h3) (hliveS _ h4)
  · rintro r1 b' z1 c1 h1 h2
    exact h.sep r1 b' z1 c1 h1 (hliveS _ h2)
  · rintro q ⟨r', z', cap', hm', hw⟩
    exact .inl ⟨r', z', cap', hm', hownS _ hw⟩

/-- A row that may be written is no more; what it held, and more, is a new one's: in its block, or in a new one. -/
theorem Ev.grow {F : Nat → Prop} {m : MM} {S : Store} {w w' : World} (h : Rel w F m S) {r b z cap : Nat} (hm : m r = some (b, z, cap)) (hown : ownAt S r) (o : Obj) (g z' cap' : Nat)
    (hg : g = b ∨ w.heap.size ≤ g) (hglt : g < w'.heap.size)
    (hos : w'.os = w.os) (htape : w'.tape = w.tape) (hout : w'.output = w.output) (hsz : w.heap.size ≤ w'.heap.size)
    (hk : ∀ q, q < w.heap.size → q ≠ b → w'.heap[q]? = w.heap[q]?)
    (ho : ∀ X : Nat → Prop, (∀ q, q < w.heap.size → X q → XX F m S q) → (∀ {v : LV} {u : Value} {m' : MM}, V w (XX F m S) m' v u → V w' X m' v u) → ObjR w' X (mput m S.length (g, z', cap')) g z' cap' o) :
    Ev F m S w (mput m S.length (g, z', cap')) (S.set r .dead ++ [o]) w' := by
  have hr : r < S.length := h.dom hm
  have hlen : (S.set r .dead).length = S.length := by simp
  have hmm : ∀ r x, m r = some x → mput m S.length (g, z', cap') r = some x := fun r x hx => by
    have := h.dom hx
    simp only [mput]; rw [if_neg (by omega)]; exact hx
  have hold : ∀ r x, mput m S.length (g, z', cap') r = some x → r = S.length ∧ x = (g, z', cap') ∨ m r = some x := by
    intro r x hx
    simp only [mput] at hx
    split at hx
    · rename_i e; exact .inl ⟨e, (Option.some.inj hx).symm⟩
    · exact .inr hx
  have hlook : ∀ q, q < S.length → (S.set r .dead ++ [o])[q]? = if r = q then some .dead else S[q]? := by
    intro q hq
    rw [getElem?_snoc_lt _ _ (by omega)]
    split
    · rename_i e; subst e; simp [hr]
    · rename_i e; exact get_set_ne S _ e
  have hnew : (S.set r .dead ++ [o])[S.length]? = some o := by
    have := getElem?_snoc_len (S.set r .dead) o
    rw [hlen] at this; exact this
  have liveOld : ∀ q, q < S.length → liveAt (S.set r .dead ++ [o]) q → r ≠ q ∧ liveAt S q := by
    rintro q hq ⟨x, hx, hnd⟩
    rw [hlook q hq] at hx
    split at hx
    · exact (hnd (Option.some.inj hx).symm).elim
    · rename_i e; exact ⟨e, x, hx, hnd⟩
  have ownOld : ∀ q, q < S.length → ownAt (S.set r .dead ++ [o]) q → r ≠ q ∧ ownAt S q := by
    rintro q hq ⟨x, hx, hw⟩
    rw [hlook q hq] at hx
    split at hx
    · obtain rfl := Option.some.inj hx; exact hw.elim
    · rename_i e; exact ⟨e, x, hx, hw⟩
  have hOwn : ∀ q, Own (mput m S.length (g, z', cap')) (S.set r .dead ++ [o]) q → Own m S q ∨ w.heap.size ≤ q := by
    rintro q ⟨r', z1, c1, hm', hw⟩
    rcases hold r' _ hm' with ⟨rfl, he⟩ | hm1
    · cases he
      rcases hg with rfl | hg
      · exact .inl ⟨r, z, cap, hm, hown⟩
      · exact .inr hg
    · exact .inl ⟨r', z1, c1, hm1, (ownOld r' (h.dom hm1) hw).2⟩
  have hXX : ∀ q, q < w.heap.size → XX F (mput m S.length (g, z', cap')) (S.set r .dead ++ [o]) q → XX F m S q := by
    rintro q hq (hx | hx)
    · exact .inl hx
    · rcases hOwn q hx with h1 | h1
      · exact .inr h1
      · omega
  have hkx : ∀ q, q < w.heap.size → ¬ XX F m S q → w'.heap[q]? = w.heap[q]? := fun q hq hx => hk q hq fun e => hx (by subst e; exact .inr ⟨r, z, cap, hm, hown⟩)
  refine ⟨⟨fun r' b' z1 c1 hm' => ?_, ?_, ?_, fun q hq => by have := h.lt q hq; omega⟩, hmm, hos, htape, hout, hsz, fun q hq hx => hk q hq fun e => hx (by subst e; exact ⟨r, z, cap, hm, hown⟩), hOwn, fun r' b' z1 c1 hm' => ?_, by simp, fun r' hr' => by simp only [mput]; rw [if_neg (by omega)], fun D hD => (hk D (heap_lt hD) fun e => by subst e; exact h.own_ne_dfr hm hown hD).trans hD⟩
  rotate_left 3
  · rcases hold r' _ hm' with ⟨_, he⟩ | hm1
    · cases he
      rcases hg with rfl | hg
      · exact .inl ⟨r, z, cap, hm⟩
      · exact .inr hg
    · exact .inl ⟨r', z1, c1, hm1⟩
  · rcases hold r' _ hm' with ⟨rfl, he⟩ | hm1
    · cases he
      exact ⟨o, hnew, ho _ hXX fun hv => hv.on hsz hkx hXX fun _ _ h => h⟩
    · have hd := h.dom hm1
      obtain ⟨ob, hob, hr'⟩ := h.obj r' b' z1 c1 hm1
      by_cases e : r = r'
      · subst e
        exact ⟨.dead, by rw [hlook _ hd, if_pos rfl], trivial⟩
      · refine ⟨ob, by rw [hlook _ hd, if_neg e]; exact hob, hr'.on (fun hnd => ?_) hsz hkx hXX hmm⟩
        have hl : liveAt S r' := ⟨ob, hob, hnd⟩
        refine hk _ (liveAt_block h hm1 hl) fun eb => ?_
        subst eb
        exact h.ne r r' _ _ _ _ _ e hm hm1 hown hl
  · rintro r1 r2 b' z1 c1 z2 c2 hne h1 h2 h3 h4
    rcases hold r1 _ h1 with ⟨rfl, e1⟩ | k1 <;> rcases hold r2 _ h2 with ⟨rfl, e2⟩ | k2
    · exact hne rfl
    · cases e1
      obtain ⟨hn, hl⟩ := liveOld r2 (h.dom k2) h4
      have := liveAt_block h k2 hl
      rcases hg with rfl | hg
      · exact h.ne r r2 _ _ _ _ _ hn hm k2 hown hl
      · omega
    · cases e2
      obtain ⟨hn, hl⟩ := ownOld r1 (h.dom k1) h3
      have := liveAt_block h k1 (own_live hl)
      rcases hg with rfl | hg
      · exact h.ne r r1 _ _ _ _ _ hn hm k1 hown (own_live hl)
      · omega
    · exact h.ne r1 r2 b' z1 c1 z2 c2 hne k1 k2 (ownOld r1 (h.dom k1) h3).2 (liveOld r2 (h.dom k2) h4).2
  · rintro r1 b' z1 c1 h1 h2 hF
    rcases hold r1 _ h1 with ⟨rfl, e1⟩ | k1
    · cases e1
      have := h.lt _ hF
      rcases hg with rfl | hg
      · exact h.sep r _ z cap hm (own_live hown) hF
      · omega
    · exact h.sep r1 b' z1 c1 k1 (liveOld r1 (h.dom k1) h2).2 hF

/-- An object is no more. -/
theorem Ev.kill {F : Nat → Prop} {m : MM} {S : Store} {w : World} (h : Rel w F m S) (r : Nat) : Ev F m S w m (S.set r .dead) w := by
  have look : ∀ q x, (S.set r Obj.dead)[q]? = some x → x = Obj.dead ∨ S[q]? = some x := fun q x hx => by
    by_cases e : r = q
    · subst e
      by_cases hl : r < S.length
      · rw [List.getElem?_set_self hl] at hx; exact .inl (Option.some.inj hx).symm
      · rw [List.getElem?_eq_none (by simp; omega)] at hx; cases hx
    · rw [get_set_ne S _ e] at hx; exact .inr hx
  have hown : ∀ q, ownAt (S.set r .dead) q → ownAt S q := by
    rintro q ⟨x, hx, hw⟩
    rcases look q x hx with rfl | h1
    · exact hw.elim
    · exact ⟨x, h1, hw⟩
  have hlive : ∀ q, liveAt (S.set r .dead) q → liveAt S q := by
    rintro q ⟨x, hx, hw⟩
    rcases look q x hx with rfl | h1
    · exact (hw rfl).elim
    · exact ⟨x, h1, hw⟩
  have hXX : ∀ q, XX F m (S.set r .dead) q → XX F m S q := by
    rintro q (hq | ⟨r', z', cap', hm', hw⟩)
    · exact .inl hq
    · exact .inr ⟨r', z', cap', hm', hown _ hw⟩
  refine ⟨⟨fun r' b z cap hm => ?_, ?_, ?_, h.lt⟩, fun _ _ h => h, rfl, rfl, rfl, Nat.le_refl _, fun _ _ _ => rfl, ?_, fun r b z cap h => .inl ⟨r, z, cap, h⟩, by simp, fun _ _ => rfl, fun _ h => h⟩
  · obtain ⟨o, ho, hr⟩ := h.obj r' b z cap hm
    by_cases e : r = r'
    · subst e
      exact ⟨.dead, by simp [h.dom hm], trivial⟩
    · exact ⟨o, by rw [get_set_ne S _ e]; exact ho, hr.on (fun _ => rfl) (Nat.le_refl _) (fun _ _ _ => rfl) (fun q _ hq => hXX q hq) fun _ _ h => h⟩
  · rintro r1 r2 b z cap z' cap' hne h1 h2 h3 h4
    exact h.ne r1 r2 b z cap z' cap' hne h1 h2 (hown _ h3) (hlive _ h4)
  · rintro r1 b z cap h1 h2
    exact h.sep r1 b z cap h1 (hlive _ h2)
  · rintro q ⟨r', z', cap', hm', hw⟩
    exact .inl ⟨r', z', cap', hm', hown _ hw⟩

/-! ### rows that are no longer written -/
theorem freeze_look (rs : List Nat) : ∀ (S : Store) (q : Nat), (freeze S rs)[q]? = (S[q]?).map fun o => if q ∈ rs then freeze1 o else o := by
  induction rs with
  | nil => intro S q; simp [freeze]
  | cons r rs ih =>
    intro S q
    have f2 : ∀ o, freeze1 (freeze1 o) = freeze1 o := fun o => by cases o <;> rfl
    simp only [freeze, ih, List.getElem?_modify]
    cases hq : S[q]? with
    | none => simp
    | some o =>
      by_cases e : r = q
      · subst e; simp [f2]
      · have e' : ¬ q = r := fun h => e h.symm
        simp [e, e']

theorem freeze_length (rs : List Nat) : ∀ (S : Store), (freeze S rs).length = S.length := by
  induction rs with
  | nil => intro S; rfl
  | cons r rs ih => intro S; simp [freeze, ih]

theorem freeze1_own {o : Obj} (h : ownO (freeze1 o)) : ownO o := by
  cases o with
  | row => exact (by simp [freeze1, ownO] at h)
  | cell => trivial
  | mapo => trivial
  | lp => trivial
  | dead => exact h

theorem freeze_own {S : Store} {rs : List Nat} {q : Nat} (h : ownAt (freeze S rs) q) : ownAt S q := by
  obtain ⟨o, ho, hw⟩ := h
  rw [freeze_look] at ho
  cases hq : S[q]? with
  | none => rw [hq] at ho; cases ho
  | some o' =>
    rw [hq] at ho
    simp only [Option.map_some, Option.some.injEq] at ho
    subst ho
    refine ⟨o', hq, ?_⟩
    split at hw
    · exact freeze1_own hw
    · exact hw

theorem freeze_live {S : Store} {rs : List Nat} {q : Nat} (h : liveAt (freeze S rs) q) : liveAt S q := by
  obtain ⟨o, ho, hw⟩ := h
  rw [freeze_look] at ho
  cases hq : S[q]? with
  | none => rw [hq] at ho; cases ho
  | some o' =>
    rw [hq] at ho
    simp only [Option.map_some, Option.some.injEq] at ho
    subst ho
    refine ⟨o', hq, fun e => hw ?_⟩
    subst e
    simp [freeze1]

theorem Ev.freeze {F : Nat → Prop} {m : MM} {S : Store} {w : World} (h : Rel w F m S) (rs : List Nat) : Ev F m S w m (freeze S rs) w := by
  have hXX : ∀ q, XX F m (Am.freeze S rs) q → XX F m S q := by
    rintro q (hq | ⟨r', z', cap', hm', hw⟩)
    · exact .inl hq
    · exact .inr ⟨r', z', cap', hm', freeze_own hw⟩
  refine ⟨⟨fun r b z cap hm => ?_, ?_, ?_, h.lt⟩, fun _ _ h => h, rfl, rfl, rfl, Nat.le_refl _, fun _ _ _ => rfl, ?_, fun r b z cap h => .inl ⟨r, z, cap, h⟩, by rw [freeze_length]; exact Nat.le_refl _, fun _ _ => rfl, fun _ h => h⟩
  · obtain ⟨o, ho, hr⟩ := h.obj r b z cap hm
    have hr' := ObjR.on hr (fun _ => rfl) (Nat.le_refl _) (fun _ _ _ => rfl) (fun q _ hq => hXX q hq) fun _ _ h => h
    refine ⟨_, by rw [freeze_look, ho]; rfl, ?_⟩
    split
    · cases o <;> exact hr'
    · exact hr'
  · rintro r r' b z cap z' cap' hne h1 h2 h3 h4
    exact h.ne r r' b z cap z' cap' hne h1 h2 (freeze_own h3) (freeze_live h4)
  · rintro r b z cap h1 h2
    exact h.sep r b z cap h1 (freeze_live h2)
  · rintro q ⟨r', z', cap', hm', hw⟩
    exact .inl ⟨r', z', cap', hm', freeze_own hw⟩

/-! ### values without numbers -/
theorem mapO_length {α β : Type} {g : α → Option β} : ∀ {l : List α} {l' : List β}, mapO g l = some l' → l'.length = l.length
  | [], l', h => by cases h; rfl
  | x :: xs, l', h => by
    simp only [mapO] at h
    cases hx : g x with
    | none => rw [hx] at h; cases h
    | some y =>
      rw [hx] at h
      cases hxs : mapO g xs with
      | none => rw [hxs] at h; cases h
      | some ys => rw [hxs] at h; cases h; simp [mapO_length hxs]

theorem mapO_get {α β : Type} {g : α → Option β} : ∀ {l : List α} {l' : List β}, mapO g l = some l' → ∀ (i : Nat) (a : α), l[i]? = some a → ∃ b : β, g a = some b ∧ l'[i]? = some b
  | [], l', h, i, a, hi => by simp at hi
  | x :: xs, l', h, i, a, hi => by
    simp only [mapO] at h
    cases hx : g x with
    | none => rw [hx] at h; cases h
    | some y =>
      rw [hx] at h
      cases hxs : mapO g xs with
      | none => rw [hxs] at h; cases h
      | some ys =>
        rw [hxs] at h; cases h
        cases i with
        | zero => simp at hi; subst hi; exact ⟨y, hx, by simp⟩
        | succ i => simp at hi; obtain ⟨b, hb, hb'⟩ := mapO_get hxs i a hi; exact ⟨b, hb, by simpa using hb'⟩

theorem mapO_mem {α β : Type} {g : α → Option β} {l : List α} {l' : List β} (h : mapO g l = some l') {b : β} (hb : b ∈ l') : ∃ a, a ∈ l ∧ g a = some b := by
  obtain ⟨i, hi⟩ := List.mem_iff_getElem?.1 hb
  have hlt := (List.getElem?_eq_some_iff.1 hi).1
  rw [mapO_length h] at hlt
  obtain ⟨b', h1, h2⟩ := mapO_get h i l[i] (List.getElem?_eq_getElem hlt)
  rw [hi] at h2
  obtain rfl := Option.some.inj h2
  exact ⟨_, List.getElem_mem hlt, h1⟩

theorem flat_getD {z : Nat} : ∀ {es : List LV}, sized z es → ∀ {j k : Nat}, j < es.length → k < z → (flat es).getD (j * z + k) .undef = (es.getD j .undef).leaves.getD k .undef
  | [], _, j, k, hj, _ => by simp at hj
  | v :: vs, hz, j, k, hj, hk => by
    have hv : v.leaves.length = z := hz v (by simp)
    have hvs : sized z vs := fun u hu => hz u (by simp [hu])
    cases j with
    | zero =>
      simp only [flat, List.flatMap_cons, Nat.zero_mul, Nat.zero_add, List.getD_cons_zero]
      rw [List.getD_eq_getElem?_getD, List.getElem?_append_left (by omega), ← List.getD_eq_getElem?_getD]
    | succ j =>
      simp only [flat, List.flatMap_cons, List.getD_cons_succ]
      rw [List.getD_eq_getElem?_getD, List.getElem?_append_right (by rw [hv, Nat.add_mul]; omega), hv, ← List.getD_eq_getElem?_getD]
      have : (j + 1) * z + k - z = j * z + k := by rw [Nat.add_mul]; omega
      rw [this]
      exact flat_getD hvs (by simpa using hj) hk

theorem flat_length {z : Nat} : ∀ {es : List LV}, sized z es → (flat es).length = es.length * z
  | [], _ => by simp [flat]
  | v :: vs, hz => by
    have hv : v.leaves.length = z := hz v (by simp)
    have ih := flat_length (es := vs) (z := z) fun u hu => hz u (by simp [hu])
    simp only [flat, List.flatMap_cons, List.length_append, hv, List.length_cons] at ih ⊢
    rw [ih, Nat.add_mul]; omega

theorem sized_take {z : Nat} {es : List LV} (h : sized z es) (a b : Nat) : sized z ((es.drop a).take b) := fun v hv => h v (List.mem_of_mem_drop (List.mem_of_mem_take hv))

/-- A slice of a row that is in the world, as a list. -/
theorem row_as_list {w : World} {F : Nat → Prop} {m : MM} {S : Store} (h : Rel w F m S) {X : Nat → Prop} {r zz off len E z : Nat} {es : List LV} {mu : Bool} {u : Value}
    (hv : V w (XX F m S) m (.row r zz off len) u) (ho : S[r]? = some (.row E z es mu)) (hle : off + len ≤ es.length)
    (hX : ∀ q, X q → XX F m S q) (hX2 : ∀ b z cap, m r = some (b, z, cap) → ¬ X b) : V w X M0 (.sl false ((es.drop off).take len)) u := by
  cases hv with
  | @row _ _ _ _ _ b cap o c hm ha hl hc hcm =>
    obtain ⟨ob, hob, hr⟩ := h.obj r b zz cap hm
    rw [ho] at hob; obtain rfl := Option.some.inj hob
    obtain ⟨rfl, hz0, hsz, cur, hh, hcs, hlc, hcap, h1, hv⟩ := hr
    have hlen : ((es.drop off).take len).length = len := by simp; omega
    have hdiv : ∀ q, q < len * z → q / z < len ∧ q % z < z ∧ q = q / z * z + q % z := by
      intro q hq
      refine ⟨(Nat.div_lt_iff_lt_mul hz0).2 hq, Nat.mod_lt _ hz0, ?_⟩
      have := Nat.div_add_mod q z
      rw [Nat.mul_comm] at this; omega
    have hidx : ∀ q, q < len * z → off * z + q < es.length * z := by
      intro q hq
      have : (off + len) * z ≤ es.length * z := Nat.mul_le_mul_right _ hle
      rw [Nat.add_mul] at this; omega
    refine .sl (z := z) (cv := fun q => cur.getD (off * z + q) Go.undef) hlen hl hcm (by simp) (by simp) (sized_take hsz _ _) (fun hp => ?_) (fun q hq => h1 _ (hidx q hq)) fun q hq => ?_
    · obtain ⟨e1, _⟩ := ha (.inl hp)
      refine ⟨b, o, rfl, hX2 _ _ _ hm, (Array.getElem?_eq_some_iff.1 hh).1, fun q hq => ?_⟩
      rw [cell_of_row w b _ cur E (0, 0) hh, e1]
      have : off * z + q < cur.size := by
        have := hidx q hq
        have : es.length * z ≤ cap * z := Nat.mul_le_mul_right _ hlc
        omega
      simp [Array.getD, this]
    · obtain ⟨a1, a2, a3⟩ := hdiv q hq
      have e1 : (flat ((es.drop off).take len)).getD q .undef = (flat es).getD (off * z + q) .undef := by
        conv => lhs; rw [a3]
        rw [flat_getD (sized_take hsz _ _) (by rw [hlen]; exact a1) a2, list_getD_drop_take _ _ _ _ _ a1]
        have : off * z + q = (off + q / z) * z + q % z := by rw [Nat.add_mul]; omega
        rw [this, flat_getD hsz (by omega) a2]
      rw [e1]
      exact (hv _ (hidx q hq)).on (Nat.le_refl _) (fun _ _ _ => rfl) (fun q _ hq => hX q hq) fun _ _ h => h

/-- A value that holds no number is the same under every numbering. -/
theorem closeLeaf_V {w : World} {F : Nat → Prop} {m : MM} {S : Store} (h : Rel w F m S) {X : Nat → Prop} {v d : LV} {u : Value} (hv : V w (XX F m S) m v u) (hc : closeLeaf S v = some d)
    (hX : ∀ q, X q → XX F m S q) (hX2 : ∀ r, r ∈ rowsLeaf v → ∀ b z cap, m r = some (b, z, cap) → ¬ X b) : V w X M0 d u := by
  have on0 : ∀ {v : LV} {u : Value}, V w (XX F m S) M0 v u → V w X M0 v u := fun hv => hv.on (Nat.le_refl _) (fun _ _ _ => rfl) (fun q _ hq => hX q hq) fun _ _ h => h
  cases v <;> simp only [closeLeaf] at hc <;> try (cases hc; done)
  · cases hc; cases hv; exact .int
  · cases hc; cases hv; exact .bool
  · cases hc; cases hv; exact .str
  · cases hc
    cases hv with
    | sl hn hc hcm hnil h0 hz hb h1 hv => exact on0 (.sl hn hc hcm hnil h0 hz hb h1 hv)
  · cases hc; cases hv; exact .slz
  · rename_i r zz off len
    split at hc
    · rename_i E z es mu ho
      split at hc
      · rename_i hle
        cases hc
        exact row_as_list h hv ho hle hX fun b z cap hm => hX2 r (by simp [rowsLeaf]) b z cap hm
      · cases hc
    · cases hc
  · cases hc
    cases hv with
    | imm hs hx hb hc h1 hv => exact on0 (.imm hs hx hb hc h1 hv)
  · cases hc; cases hv; exact .nilp
  · rename_i f first caps
    cases first with
    | cons => simp [closeLeaf] at hc
    | nil =>
      cases caps with
      | cons => simp [closeLeaf] at hc
      | nil =>
        simp only [closeLeaf] at hc
        cases hc
        cases hv with
        | fn hl hl' h1 h2 => exact .fn hl hl' (fun i hi => by simp at hi) fun i hi => by simp at hi

theorem close_V {w : World} {F : Nat → Prop} {m : MM} {S : Store} (h : Rel w F m S) {X : Nat → Prop} {v d : LV} {u : Value} (hv : V w (XX F m S) m v u) (hc : close S v = some d)
    (hX : ∀ q, X q → XX F m S q) (hX2 : ∀ r, r ∈ rowsOf v → ∀ b z cap, m r = some (b, z, cap) → ¬ X b) : V w X M0 d u := by
  by_cases ha : ∃ fs, v = .agg fs
  · obtain ⟨fs, rfl⟩ := ha
    simp only [close] at hc
    split at hc
    · cases hc
    · rename_i gs hgs
      cases hc
      cases hv with
      | agg hl h1 hh =>
        have hlen := mapO_length hgs
        refine .agg (by omega) (fun i hi => h1 i (by omega)) fun i hi => ?_
        have hi' : i < fs.length := by omega
        obtain ⟨b, hb, hb'⟩ := mapO_get hgs i fs[i] (List.getElem?_eq_getElem hi')
        have hvi := hh i hi'
        rw [List.getD_eq_getElem?_getD, List.getElem?_eq_getElem hi'] at hvi
        rw [List.getD_eq_getElem?_getD, hb']
        exact closeLeaf_V h hvi hb hX fun r hr => hX2 r (List.mem_flatMap.2 ⟨fs[i], by simp [LV.leaves], hr⟩)
  · have hcl : close S v = closeLeaf S v := by
      cases v <;> first | rfl | exact (ha ⟨_, rfl⟩).elim
    rw [hcl] at hc
    refine closeLeaf_V h hv hc hX fun r hr => hX2 r ?_
    have : v.leaves = [v] := by cases v <;> first | rfl | exact (ha ⟨_, rfl⟩).elim
    simp only [rowsOf, this, List.flatMap_cons, List.flatMap_nil, List.append_nil]; exact hr

theorem closeLeaf_solid {S : Store} {v d : LV} (h : closeLeaf S v = some d) : solid d = true ∧ d.leaves.length = 1 := by
  cases v <;> simp only [closeLeaf] at h <;> try (cases h; done)
  case row =>
    split at h
    · split at h
      · cases h; exact ⟨rfl, rfl⟩
      · cases h
    · cases h
  case fn f a b =>
    cases a <;> cases b <;> simp [closeLeaf] at h
    subst h; exact ⟨rfl, rfl⟩
  all_goals cases h; exact ⟨rfl, rfl⟩

theorem close_solid {S : Store} {v d : LV} (h : close S v = some d) : solid d = true := by
  cases v
  case agg fs =>
    simp only [close] at h
    split at h
    · cases h
    · cases h; rfl
  all_goals exact (closeLeaf_solid (S := S) (by simpa only [close] using h)).1

end Go.Am
