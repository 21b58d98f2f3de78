/- The operations on memory: what the plain machine says of them the model does. -/
import Derived.Test.YtfekfnapgfddbaaGreatAm5
set_option linter.unusedVariables false
set_option linter.unusedSimpArgs false
set_option linter.unusedSectionVars false
namespace Go.Am
open Go Go.RowKit
variable [HasProg]

section
variable {G : Prop} {P : Program} {F : Nat → Prop} {m : MM} {S : Store} {w : World}

/-- A value comes, in a later world. -/
def Val (G : Prop) (F : Nat → Prop) (m : MM) (S : Store) (w : World) (v : LV) (S' : Store) (r : Result Value) : Prop :=
  ∃ u w' m', r = .ok u w' ∧ V w' (XX F m' S') m' v u ∧ Ev F m S w m' S' w' ∧ Kp G w w'

theorem Val.out {v : LV} {S' : Store} {s : Sem Value} (h : Val G F m S w v S' (s.run P w)) : Out G F m S w v S' ((do let u ← s; pure (Next.value u) : Sem Next).run P w) := by
  obtain ⟨u, w', m', hr, hv, he, hk⟩ := h
  exact ⟨_, w', m', by simp [hr], .inl ⟨u, rfl, hv⟩, he, hk⟩

theorem Val.same {v : LV} {s : Sem Value} {u : Value} (h : Rel w F m S) (hr : s.run P w = .ok u w) (hv : V w (XX F m S) m v u) : Val G F m S w v S (s.run P w) :=
  ⟨u, w, m, hr, hv, .refl h, fun _ _ _ => rfl⟩

theorem heap_push_new (w : World) (o : Go.Obj) : (w.alloc o).heap[w.heap.size]? = some o := by
  show (w.heap.push o)[w.heap.size]? = _
  simp
theorem heap_push_old (w : World) (o : Go.Obj) {r : Nat} (h : r < w.heap.size) : (w.alloc o).heap[r]? = w.heap[r]? := by
  show (w.heap.push o)[r]? = _
  rw [Array.getElem?_push_lt h, Array.getElem?_eq_getElem h]
theorem heap_push_size (w : World) (o : Go.Obj) : (w.alloc o).heap.size = w.heap.size + 1 := by
  show (w.heap.push o).size = _
  simp

theorem V.alloc {lv : LV} {u : Value} {X X' : Nat → Prop} {m m' : MM} (h : V w X m lv u) (o : Go.Obj) (hx : ∀ q, q < w.heap.size → X' q → X q) (hm : ∀ r x, m r = some x → m' r = some x) : V (w.alloc o) X' m' lv u :=
  h.on (by rw [heap_push_size]; omega) (fun b hb _ => heap_push_old w o hb) hx hm

theorem mput_old (h : Rel w F m S) (x : Nat × Nat × Nat) : ∀ r y, m r = some y → mput m S.length x r = some y := fun r y hy => by
  have := h.dom hy
  simp only [mput]; rw [if_neg (by omega)]; exact hy
theorem mput_new (m : MM) (n : Nat) (x : Nat × Nat × Nat) : mput m n x n = some x := by simp [mput]

theorem sim_newVar (h : Rel w F m S) {lv : LV} {u : Value} (hs : solid lv = true) (hv : V w (XX F m S) m lv u) (T : TypeId) :
    Val G F m S w (.ref S.length 0 0) (S ++ [.cell lv]) ((do pure (Value.pointer (some (← newVar T u))) : Sem Value).run P w) := by
  obtain ⟨h1, h2, h3⟩ := hv.cells hs
  have hev : Ev F m S w (mput m S.length (w.heap.size, 0, 0)) (S ++ [.cell lv]) (w.alloc (.cells u.cells T)) := by
    refine Ev.add h (.cell lv) w.heap.size 0 0 (Nat.le_refl _) rfl rfl rfl (by rw [heap_push_size]; omega) (by rw [heap_push_size]; omega) (fun b hb => heap_push_old w _ hb) fun X hX => ?_
    refine ⟨T, u.cells, heap_push_new w _, h1, hs, fun q hq => h2 q (by omega), fun q hq => ?_⟩
    exact (h3 q (by omega)).alloc _ hX (mput_old h _)
  refine ⟨.pointer (some ⟨w.heap.size, 0, none⟩), _, _, ?_, ?_, hev, fun _ b hb => heap_push_old w _ hb⟩
  · simp [newVar, newRow]
  · have := V.ref (w := w.alloc (.cells u.cells T)) (X := XX F (mput m S.length (w.heap.size, 0, 0)) (S ++ [.cell lv])) (j := 0) (k := 0) (mput_new m S.length (w.heap.size, 0, 0))
    simpa using this

theorem ofLeaf_V {X : Nat → Prop} {m : MM} (u : Value) (h : oneCell u = true) : V w X m (ofLeaf u) u := by
  unfold ofLeaf
  split
  · exact .int
  · exact .bool
  · exact .str
  · exact .nilp
  · exact .sl (z := 1) (cv := fun _ => Go.undef) rfl (Nat.le_refl _) (Nat.zero_le _) (by simp) (by simp) (fun v hv => by simp at hv) (fun h => by omega) (fun q hq => by omega) fun q hq => by omega
  · exact .undef

theorem ofV_V {X : Nat → Prop} {m : MM} (u : Value) (h : u.cells.toList.all oneCell = true) : V w X m (ofV u) u := by
  by_cases ha : ∃ cs, u = .agg cs
  · obtain ⟨cs, rfl⟩ := ha
    simp only [Value.cells, List.all_eq_true] at h
    refine .agg (by simp) (fun i hi => ?_) fun i hi => ?_
    · have hi' : i < cs.size := by simpa using hi
      rw [Array.getD, dif_pos hi']
      exact h _ (by simp)
    · have hi' : i < cs.size := by simpa using hi
      have e1 : (cs.toList.map ofLeaf).getD i .undef = ofLeaf cs[i] := by simp [List.getD, hi']
      rw [e1, Array.getD, dif_pos hi']
      exact ofLeaf_V _ (h _ (by simp))
  · have e : ofV u = ofLeaf u := by cases u <;> first | rfl | exact (ha ⟨_, rfl⟩).elim
    rw [e]
    by_cases ho : oneCell u = true
    · exact ofLeaf_V u ho
    · have : ofLeaf u = .undef := by cases u <;> first | rfl | exact (ho rfl).elim
      rw [this]; exact .undef

theorem zeroT_run {t : TypeId} {z : Value} (h : zeroT P t = some z) (w : World) : (zeroValue t).run P w = .ok z w ∧ sizeT P t = some z.cells.size ∧ z.cells.toList.all oneCell = true := by
  unfold zeroT at h
  cases hi : P.info? t with
  | none => rw [hi] at h; cases h
  | some i =>
    rw [hi] at h
    cases hz : i.zero with
    | none => simp [hz] at h
    | some z' =>
      simp only [hz] at h
      split at h
      · rename_i hh
        cases h
        exact ⟨by simp [zeroValue, typeInfo, hi, hz], by simp [sizeT, hi, hh.1], hh.2⟩
      · cases h

/-- Cells that an address shows. -/
theorem V.ref_read (h : Rel w F m S) {r j k : Nat} {a : Value} (hv : V w (XX F m S) m (.ref r j k) a) {t : TypeId} {agg : Bool} {sz : Nat} (ha : isAggT P t = some agg) (hs : sizeT P t = some sz)
    {lv v : LV} (ho : S[r]? = some (.cell lv) ∧ j = 0 ∨ ∃ E z es mu, S[r]? = some (.row E z es mu) ∧ es[j]? = some lv) (hsub : Am.sub agg sz k lv = some v) :
    ∃ u, (Instr.loadAt t a).run P w = .ok u w ∧ V w (XX F m S) m v u := by
  cases hv with
  | @ref _ _ _ _ b z cap hm =>
    obtain ⟨ob, hob, hr⟩ := h.obj r b z cap hm
    have key : ∃ cv : Nat → Value, (∀ q, q < lv.leaves.length → w.cell? ⟨b, j * z + q, none⟩ = some (cv q)) ∧ (∀ q, q < lv.leaves.length → oneCell (cv q) = true) ∧
        ∀ q, q < lv.leaves.length → V w (XX F m S) m (lv.leaves.getD q .undef) (cv q) := by
      rcases ho with ⟨ho, rfl⟩ | ⟨E, z', es, mu, ho, hj⟩
      · rw [ho] at hob; obtain rfl := Option.some.inj hob
        obtain ⟨T, c, hh, h1, h2, h3, h4⟩ := hr
        refine ⟨fun q => c.getD q Go.undef, fun q hq => ?_, fun q hq => h3 q (by omega), fun q hq => h4 q (by omega)⟩
        rw [cell_of_row w b _ c T (0, 0) hh]
        simp only [Nat.zero_mul, Nat.zero_add]
        have : q < c.size := by omega
        simp [Array.getD, this]
      · rw [ho] at hob; obtain rfl := Option.some.inj hob
        obtain ⟨rfl, hz0, hsz, c, hh, hcs, hlc, hcap, h1, h2⟩ := hr
        have hjl := (List.getElem?_eq_some_iff.1 hj).1
        have hlz : lv.leaves.length = z' := hsz lv (List.mem_of_getElem? hj)
        have hidx : ∀ q, q < z' → j * z' + q < es.length * z' := by
          intro q hq
          have : (j + 1) * z' ≤ es.length * z' := Nat.mul_le_mul_right _ hjl
          rw [Nat.add_mul] at this; omega
        have hcz : es.length * z' ≤ cap * z' := Nat.mul_le_mul_right _ hlc
        refine ⟨fun q => c.getD (j * z' + q) Go.undef, fun q hq => ?_, fun q hq => h1 _ (hidx q (by omega)), fun q hq => ?_⟩
        · rw [cell_of_row w b _ c E (0, 0) hh]
          have := hidx q (by omega)
          have : j * z' + q < c.size := by omega
          simp [Array.getD, this]
        · have := h2 _ (hidx q (by omega))
          rw [flat_getD hsz hjl (by omega), List.getD_eq_getElem?_getD (l := es), hj] at this
          exact this.on (Nat.le_refl _) (fun _ _ _ => rfl) (fun _ _ h => h) fun r x hx => by cases hx
    obtain ⟨cv, hc, h1, hvv⟩ := key
    have hsub' := hsub
    unfold Am.sub at hsub'
    obtain ⟨cs, hcs, hload⟩ := run_loadVar_at (P := P) (w := w) (t := t) (b := b) (o := j * z + k) ha hs (fun q => cv (k + q)) fun q hq => by
      cases agg with
      | true =>
        simp only [if_true] at hq hsub'
        split at hsub'
        · rw [Nat.add_assoc]; exact hc _ (by omega)
        · cases hsub'
      | false =>
        simp only [Bool.false_eq_true, if_false] at hq hsub'
        have := (List.getElem?_eq_some_iff.1 hsub').1
        rw [Nat.add_assoc]; exact hc _ (by omega)
    exact ⟨_, by simp [Instr.loadAt, Instr.sureAddr, hload], (V.sub h1 hvv hsub cs hcs).1⟩

theorem V.ref_load (h : Rel w F m S) {r j k : Nat} {a : Value} (hv : V w (XX F m S) m (.ref r j k) a) {t : TypeId} {agg : Bool} {sz : Nat} (ha : isAggT P t = some agg) (hs : sizeT P t = some sz)
    {lv v : LV} (ho : S[r]? = some (.cell lv) ∧ j = 0 ∨ ∃ E z es mu, S[r]? = some (.row E z es mu) ∧ es[j]? = some lv) (hsub : Am.sub agg sz k lv = some v) :
    Val G F m S w v S ((Instr.loadAt t a).run P w) := by
  obtain ⟨u, hr, hu⟩ := V.ref_read (P := P) h hv ha hs ho hsub
  exact Val.same h hr hu

theorem V.imm_load (h : Rel w F m S) {e : LV} {k : Nat} {a : Value} (hv : V w (XX F m S) m (.imm e k) a) {t : TypeId} {agg : Bool} {sz : Nat} (ha : isAggT P t = some agg) (hs : sizeT P t = some sz)
    {v : LV} (hsub : Am.sub agg sz k e = some v) : Val G F m S w v S ((Instr.loadAt t a).run P w) := by
  cases hv with
  | @imm _ _ _ b o cv hsol hx hb hc h1 hvv =>
    have hsub' := hsub
    unfold Am.sub at hsub'
    obtain ⟨cs, hcs, hload⟩ := run_loadVar_at (P := P) (w := w) (t := t) (b := b) (o := o + k) ha hs (fun q => cv (k + q)) fun q hq => by
      cases agg with
      | true =>
        simp only [if_true] at hq hsub'
        split at hsub'
        · rw [Nat.add_assoc]; exact hc _ (by omega)
        · cases hsub'
      | false =>
        simp only [Bool.false_eq_true, if_false] at hq hsub'
        have := (List.getElem?_eq_some_iff.1 hsub').1
        rw [Nat.add_assoc]; exact hc _ (by omega)
    refine Val.same h (by simp [Instr.loadAt, Instr.sureAddr, hload]; rfl) ?_
    exact ((V.sub h1 hvv hsub cs hcs).1).on (Nat.le_refl _) (fun _ _ _ => rfl) (fun _ _ h => h) fun r x hx => by cases hx

/-! ### writing -/
theorem spliced {k : Nat} {u x u' : LV} (h : splice k u x = some u') (hx : solid x = true) :
    u'.leaves = u.leaves.take k ++ x.leaves ++ u.leaves.drop (k + x.leaves.length) ∧ k + x.leaves.length ≤ u.leaves.length ∧ solid u' = true := by
  unfold splice at h
  split at h
  · split at h
    · rename_i hle
      cases h
      exact ⟨rfl, hle, rfl⟩
    · cases h
  · rename_i hna
    have hl : u.leaves = [u] := by cases u <;> first | rfl | exact (hna _ rfl).elim
    split at h
    · rename_i hk
      subst hk
      split at h
      · cases h
      · cases h
      · rename_i h1 h2
        cases h
        have hl' : x.leaves = [x] := by cases x <;> first | rfl | exact (h1 _ rfl).elim
        rw [hl, hl']
        exact ⟨rfl, by simp, hx⟩
    · cases h

theorem run_storeVar_at {t : TypeId} {sz b o : Nat} (hs : sizeT P t = some sz) {T : TypeId} {c : Array Value} (hh : w.heap[b]? = some (.cells c T (0, 0))) {u : Value} (hu : u.cells.size = sz) (hle : o + sz ≤ c.size)
    (h1 : ∀ q, q < sz → oneCell (u.cells.getD q Go.undef) = true) :
    (storeVar t ⟨b, o, none⟩ u).run P w = .ok () (w.setRow b (c.toList.take o ++ u.cells.toList ++ c.toList.drop (o + sz)).toArray) := by
  have hst := run_storeCells_at P b o T u.cells.toList 0 c w hh (by simp; omega) (fun v hv => by
    obtain ⟨i, hi, rfl⟩ := List.mem_iff_getElem.1 hv
    have hi' : i < u.cells.size := by simpa using hi
    have := h1 i (by omega)
    rw [Array.getD, dif_pos hi'] at this
    rw [oneCell_eq]
    simpa using this)
  simp only [Nat.add_zero, Array.length_toList, hu] at hst
  simp [storeVar, sizeOf_run hs, hu, hst]

theorem getD_splice (c : Array Value) (o : Nat) (us : List Value) (q : Nat) (hle : o + us.length ≤ c.size) :
    ((c.toList.take o ++ us ++ c.toList.drop (o + us.length)).toArray).getD q Go.undef = if q < o then c.getD q Go.undef else if q < o + us.length then us.getD (q - o) Go.undef else c.getD q Go.undef := by
  have hl : (c.toList.take o).length = o := by simp; omega
  have hA : ∀ (l : List Value) q, l.toArray.getD q Go.undef = l.getD q Go.undef := fun l q => by
    by_cases hq : q < l.length <;> simp [Array.getD, List.getD, hq]
  have hB : ∀ q, c.getD q Go.undef = c.toList.getD q Go.undef := fun q => by
    by_cases hq : q < c.size <;> simp [Array.getD, List.getD, hq]
  rw [hA, hB]
  by_cases h1 : q < o
  · rw [if_pos h1, List.append_assoc, List.getD_eq_getElem?_getD, List.getElem?_append_left (by omega), List.getElem?_take, if_pos h1, ← List.getD_eq_getElem?_getD]
  · rw [if_neg h1]
    by_cases h2 : q < o + us.length
    · rw [if_pos h2, List.getD_eq_getElem?_getD, List.getElem?_append_left (by simp; omega), List.getElem?_append_right (by omega), hl, ← List.getD_eq_getElem?_getD]
    · rw [if_neg h2, List.getD_eq_getElem?_getD, List.getElem?_append_right (by simp; omega), List.getElem?_drop, List.getD_eq_getElem?_getD]
      congr 2
      simp; omega

theorem list_getD_splice (l : List LV) (o : Nat) (us : List LV) (q : Nat) (hle : o + us.length ≤ l.length) :
    (l.take o ++ us ++ l.drop (o + us.length)).getD q .undef = if q < o then l.getD q .undef else if q < o + us.length then us.getD (q - o) .undef else l.getD q .undef := by
  have hl : (l.take o).length = o := by simp; omega
  by_cases h1 : q < o
  · rw [if_pos h1, List.append_assoc, List.getD_eq_getElem?_getD, List.getElem?_append_left (by omega), List.getElem?_take, if_pos h1, ← List.getD_eq_getElem?_getD]
  · rw [if_neg h1]
    by_cases h2 : q < o + us.length
    · rw [if_pos h2, List.getD_eq_getElem?_getD, List.getElem?_append_left (by simp; omega), List.getElem?_append_right (by omega), hl, ← List.getD_eq_getElem?_getD]
    · rw [if_neg h2, List.getD_eq_getElem?_getD, List.getElem?_append_right (by simp; omega), List.getElem?_drop, List.getD_eq_getElem?_getD]
      congr 2
      simp; omega

theorem setRow_ev_heap {b : Nat} {c : Array Value} {T : TypeId} (hh : w.heap[b]? = some (.cells c T (0, 0))) (c' : Array Value) : (w.setRow b c').heap[b]? = some (.cells c' T (0, 0)) := setRow_heap w b c c' T (0, 0) hh

theorem setRow_ev_other {b q : Nat} (c' : Array Value) (h : q ≠ b) : (w.setRow b c').heap[q]? = w.heap[q]? := by
  unfold World.setRow
  simp only [Array.getElem?_modify]
  rw [if_neg (fun e => h e.symm)]

theorem setRow_ev_size {b : Nat} (c' : Array Value) : (w.setRow b c').heap.size = w.heap.size := by simp [World.setRow]

/-- A part of a variable is written. -/
theorem sim_store_cell (h : Rel w F m S) {r k : Nat} {a ux : Value} (hv : V w (XX F m S) m (.ref r 0 k) a) {t : TypeId} {sz : Nat} (hs : sizeT P t = some sz)
    {u x u' : LV} (ho : S[r]? = some (.cell u)) (hx : V w (XX F m S) m x ux) (hxs : solid x = true) (hxl : x.leaves.length = sz) (hsp : splice k u x = some u') :
    ∃ w', (Instr.storeAt t a ux).run P w = .ok () w' ∧ Ev F m S w m (S.set r (.cell u')) w' := by
  cases hv with
  | @ref _ _ _ _ b z cap hm =>
    obtain ⟨ob, hob, hr⟩ := h.obj r b z cap hm
    rw [ho] at hob; obtain rfl := Option.some.inj hob
    obtain ⟨T, c, hh, hc1, hc2, hc3, hc4⟩ := hr
    obtain ⟨hl, hle, hsol⟩ := spliced hsp hxs
    obtain ⟨x1, x2, x3⟩ := hx.cells hxs
    have hst := run_storeVar_at (P := P) (t := t) (o := 0 * z + k) hs hh (u := ux) (by omega) (by omega) (fun q hq => x2 q (by omega))
    have hk0 : 0 * z + k = k := by omega
    rw [hk0] at hst
    refine ⟨_, by simp [Instr.storeAt, Instr.sureAddr]; exact hst, ?_⟩
    have hown : ownAt S r := ⟨_, ho, trivial⟩
    refine Ev.set h hm hown _ trivial rfl rfl rfl (setRow_ev_size _) (fun q hq => setRow_ev_other _ hq) fun on => ?_
    have hul : ux.cells.toList.length = sz := by simp; omega
    have hlen : u'.leaves.length = u.leaves.length := by rw [hl]; simp; omega
    have hsz' : (c.toList.take k ++ ux.cells.toList ++ c.toList.drop (k + sz)).toArray.size = c.size := by simp; omega
    have hgv : ∀ q, ((c.toList.take k ++ ux.cells.toList ++ c.toList.drop (k + sz)).toArray).getD q Go.undef = if q < k then c.getD q Go.undef else if q < k + sz then ux.cells.getD (q - k) Go.undef else c.getD q Go.undef := by
      intro q
      have := getD_splice c k ux.cells.toList q (by omega)
      rw [hul] at this
      rw [this]
      have hB : ux.cells.toList.getD (q - k) Go.undef = ux.cells.getD (q - k) Go.undef := by
        by_cases hq : q - k < ux.cells.size <;> simp [Array.getD, List.getD, hq]
      rw [hB]
    have hgl : ∀ q, u'.leaves.getD q .undef = if q < k then u.leaves.getD q .undef else if q < k + sz then x.leaves.getD (q - k) .undef else u.leaves.getD q .undef := by
      intro q
      rw [hl, ← hxl]
      exact list_getD_splice u.leaves k x.leaves q (by omega)
    refine ⟨T, _, setRow_ev_heap hh _, by rw [hsz']; omega, hsol, fun q hq => ?_, fun q hq => ?_⟩
    · rw [hgv]
      rw [hsz'] at hq
      by_cases c1 : q < k
      · rw [if_pos c1]; exact hc3 q hq
      · rw [if_neg c1]
        by_cases c2 : q < k + sz
        · rw [if_pos c2]; exact x2 _ (by omega)
        · rw [if_neg c2]; exact hc3 q hq
    · rw [hgv, hgl]
      rw [hsz'] at hq
      by_cases c1 : q < k
      · rw [if_pos c1, if_pos c1]; exact on (hc4 q hq)
      · rw [if_neg c1, if_neg c1]
        by_cases c2 : q < k + sz
        · rw [if_pos c2, if_pos c2]; exact on (x3 _ (by omega))
        · rw [if_neg c2, if_neg c2]; exact on (hc4 q hq)

/-- A part of an element of a row is written. -/
theorem sim_store_row (h : Rel w F m S) {r j k : Nat} {a ux : Value} (hv : V w (XX F m S) m (.ref r j k) a) {t : TypeId} {sz : Nat} (hs : sizeT P t = some sz)
    {E z' : Nat} {es : List LV} {u x u' : LV} (ho : S[r]? = some (.row E z' es true)) (hj : es[j]? = some u) (hx : V w (XX F m S) M0 x ux) (hxs : solid x = true) (hxl : x.leaves.length = sz) (hsp : splice k u x = some u') :
    ∃ w', (Instr.storeAt t a ux).run P w = .ok () w' ∧ Ev F m S w m (S.set r (.row E z' (es.set j u') true)) w' := by
  cases hv with
  | @ref _ _ _ _ b z cap hm =>
    obtain ⟨ob, hob, hr⟩ := h.obj r b z cap hm
    rw [ho] at hob; obtain rfl := Option.some.inj hob
    obtain ⟨rfl, hz0, hsz, c, hh, hcs, hlc, hcap, h1, h2⟩ := hr
    obtain ⟨hl, hle, hsol⟩ := spliced hsp hxs
    obtain ⟨x1, x2, x3⟩ := hx.cells hxs
    have hjl := (List.getElem?_eq_some_iff.1 hj).1
    have hlz : u.leaves.length = z' := hsz u (List.mem_of_getElem? hj)
    have hcz : es.length * z' ≤ cap * z' := Nat.mul_le_mul_right _ hlc
    have hjz : (j + 1) * z' ≤ es.length * z' := Nat.mul_le_mul_right _ hjl
    rw [Nat.add_mul] at hjz
    have hst := run_storeVar_at (P := P) (t := t) (o := j * z' + k) hs hh (u := ux) (by omega) (by omega) (fun q hq => x2 q (by omega))
    refine ⟨_, by simp [Instr.storeAt, Instr.sureAddr]; exact hst, ?_⟩
    have hown : ownAt S r := ⟨_, ho, rfl⟩
    refine Ev.set h hm hown (.row E z' (es.set j u') true) rfl rfl rfl rfl (setRow_ev_size _) (fun q hq => setRow_ev_other _ hq) fun on => ?_
    have hul : ux.cells.toList.length = sz := by simp; omega
    have hlen : u'.leaves.length = z' := by rw [hl]; simp; omega
    have hsz' : (c.toList.take (j * z' + k) ++ ux.cells.toList ++ c.toList.drop (j * z' + k + sz)).toArray.size = c.size := by simp; omega
    have hsized : sized z' (es.set j u') := by
      intro v hv
      rcases List.mem_or_eq_of_mem_set hv with hv | rfl
      · exact hsz v hv
      · exact hlen
    have hgv : ∀ q, ((c.toList.take (j * z' + k) ++ ux.cells.toList ++ c.toList.drop (j * z' + k + sz)).toArray).getD q Go.undef = if q < j * z' + k then c.getD q Go.undef else if q < j * z' + k + sz then ux.cells.getD (q - (j * z' + k)) Go.undef else c.getD q Go.undef := by
      intro q
      have := getD_splice c (j * z' + k) ux.cells.toList q (by omega)
      rw [hul] at this
      rw [this]
      have hB : ux.cells.toList.getD (q - (j * z' + k)) Go.undef = ux.cells.getD (q - (j * z' + k)) Go.undef := by
        by_cases hq : q - (j * z' + k) < ux.cells.size <;> simp [Array.getD, List.getD, hq]
      rw [hB]
    have hgl : ∀ q, u'.leaves.getD q .undef = if q < k then u.leaves.getD q .undef else if q < k + sz then x.leaves.getD (q - k) .undef else u.leaves.getD q .undef := by
      intro q
      rw [hl, ← hxl]
      exact list_getD_splice u.leaves k x.leaves q (by omega)
    -- the flat row behind the store
    have hdiv : ∀ q, q < es.length * z' → q / z' < es.length ∧ q % z' < z' ∧ q = q / z' * z' + q % z' := by
      intro q hq
      refine ⟨(Nat.div_lt_iff_lt_mul hz0).2 hq, Nat.mod_lt _ hz0, ?_⟩
      have := Nat.div_add_mod q z'
      rw [Nat.mul_comm] at this; omega
    have hfl : ∀ q, q < es.length * z' → (flat (es.set j u')).getD q .undef = if q < j * z' + k then (flat es).getD q .undef else if q < j * z' + k + sz then x.leaves.getD (q - (j * z' + k)) .undef else (flat es).getD q .undef := by
      intro q hq
      obtain ⟨a1, a2, a3⟩ := hdiv q hq
      have e1 : (flat (es.set j u')).getD q .undef = ((es.set j u').getD (q / z') .undef).leaves.getD (q % z') .undef := by
        conv => lhs; rw [a3]
        exact flat_getD hsized (by simpa using a1) a2
      have e2 : (flat es).getD q .undef = (es.getD (q / z') .undef).leaves.getD (q % z') .undef := by
        conv => lhs; rw [a3]
        exact flat_getD hsz a1 a2
      rw [e1, e2]
      by_cases hqj : q / z' = j
      · have e3 : (es.set j u').getD (q / z') .undef = u' := by rw [hqj, List.getD_eq_getElem?_getD, List.getElem?_set_self hjl]; rfl
        have e4 : es.getD (q / z') .undef = u := by rw [hqj, List.getD_eq_getElem?_getD, hj]; rfl
        rw [e3, e4, hgl]
        rw [hqj] at a3
        by_cases c1 : q % z' < k
        · rw [if_pos c1, if_pos (by omega)]
        · rw [if_neg c1, if_neg (show ¬ q < j * z' + k by omega)]
          by_cases c2 : q % z' < k + sz
          · rw [if_pos c2, if_pos (show q < j * z' + k + sz by omega)]
            congr 1
            omega
          · rw [if_neg c2, if_neg (show ¬ q < j * z' + k + sz by omega)]
      · have e3 : (es.set j u').getD (q / z') .undef = es.getD (q / z') .undef := by rw [List.getD_eq_getElem?_getD, List.getElem?_set_ne (fun e => hqj e.symm), ← List.getD_eq_getElem?_getD]
        rw [e3]
        rcases Nat.lt_or_ge (q / z') j with c1 | c1
        · have : (q / z' + 1) * z' ≤ j * z' := Nat.mul_le_mul_right _ c1
          rw [Nat.add_mul] at this
          rw [if_pos (by omega)]
        · have : (j + 1) * z' ≤ q / z' * z' := Nat.mul_le_mul_right _ (by omega)
          rw [Nat.add_mul] at this
          rw [if_neg (by omega), if_neg (by omega)]
    refine ⟨rfl, hz0, hsized, _, setRow_ev_heap hh _, by rw [hsz']; exact hcs, by simpa using hlc, hcap, fun q hq => ?_, fun q hq => ?_⟩
    · rw [List.length_set] at hq
      rw [hgv]
      split
      · exact h1 q hq
      · split
        · exact x2 _ (by omega)
        · exact h1 q hq
    · rw [List.length_set] at hq
      rw [hgv, hfl q hq]
      split
      · exact on (h2 q hq)
      · split
        · exact on (x3 _ (by omega))
        · exact on (h2 q hq)

end
end Go.Am
