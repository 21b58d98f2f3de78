/- The other operations. -/
import Derived.Test.YtfekfnapgfddbaaGreatAm7
set_option linter.unusedVariables false
set_option linter.unusedSimpArgs false
set_option linter.unusedSectionVars false
namespace Go.Am
open Go Go.RowKit
variable [HasProg]

section
variable {G : Prop} {P : Program} {F : Nat → Prop} {m : MM} {S : Store} {w : World}

/-! ### structs and arrays that are built -/
theorem fold_splice (off : Nat) : ∀ (l : List Value) (k : Nat) (cs : Array Value), off + k + l.length ≤ cs.size →
    ((l.zipIdx k).foldl (fun cs (c, j) => cs.setIfInBounds (off + j) c) cs) = (cs.toList.take (off + k) ++ l ++ cs.toList.drop (off + k + l.length)).toArray
  | [], k, cs, h => by
    simp only [List.zipIdx_nil, List.foldl_nil, List.append_nil, List.length_nil, Nat.add_zero, List.take_append_drop, Array.toArray_toList]
  | v :: vs, k, cs, h => by
    simp only [List.length_cons] at h
    simp only [List.zipIdx_cons, List.foldl_cons]
    rw [fold_splice off vs (k + 1) _ (by simp; omega)]
    congr 1
    have hlt : off + k < cs.toList.length := by simp; omega
    have e1 : (cs.setIfInBounds (off + k) v).toList = cs.toList.set (off + k) v := by simp
    rw [e1]
    have e2 : (cs.toList.set (off + k) v).take (off + (k + 1)) = cs.toList.take (off + k) ++ [v] := by
      rw [← Nat.add_assoc, List.take_succ_eq_append_getElem (by simpa using hlt)]
      simp [List.take_set_of_le]
    have e3 : (cs.toList.set (off + k) v).drop (off + (k + 1) + vs.length) = cs.toList.drop (off + k + (vs.length + 1)) := by
      rw [List.drop_set_of_lt (by omega)]
      congr 1; omega
    rw [e2, e3]
    simp

def fillV (zero : List Value) : List (Nat × Nat × Value) → Option (List Value)
  | [] => some zero
  | (off, sz, v) :: rest => if v.cells.size = sz ∧ off + sz ≤ zero.length then fillV (zero.take off ++ v.cells.toList ++ zero.drop (off + sz)) rest else none

theorem fill_eq (place : Nat → Option (Nat × Nat)) : ∀ (l : List (Nat × Value)) (ps : List (Nat × Nat × Value)) (z : List Value) (r : List Value),
    l.length = ps.length → (∀ (i : Nat) (x : Nat × Value) (y : Nat × Nat × Value), l[i]? = some x → ps[i]? = some y → place x.1 = some (y.1, y.2.1) ∧ x.2 = y.2.2) → fillV z ps = some r →
    Instr.fill place z.toArray l = some r.toArray
  | [], ps, z, r, hl, h, hf => by
    obtain rfl : ps = [] := List.eq_nil_of_length_eq_zero (by simpa using hl.symm)
    cases hf; rfl
  | (i, v) :: l, ps, z, r, hl, h, hf => by
    cases ps with
    | nil => simp at hl
    | cons p ps =>
      obtain ⟨off, sz, v'⟩ := p
      obtain ⟨hp, hv⟩ := h 0 (i, v) (off, sz, v') (by simp) (by simp)
      simp only at hp hv
      subst hv
      simp only [fillV] at hf
      split at hf
      · rename_i hh
        simp only [Instr.fill, hp]
        have q1 : z.toArray.size = z.length := List.size_toArray
        have q2 : v.cells.toList.length = sz := by rw [Array.length_toList]; exact hh.1
        have hno : ¬ (v.cells.size ≠ sz ∨ off + v.cells.size > z.toArray.size) := by
          rintro (h1 | h1)
          · exact h1 hh.1
          · rw [hh.1, q1] at h1; omega
        rw [if_neg (by simpa using hno)]
        have hfold : (v.cells.zipIdx.foldl (fun cs (c, j) => cs.setIfInBounds (off + j) c) z.toArray) = (z.take off ++ v.cells.toList ++ z.drop (off + sz)).toArray := by
          have := fold_splice off v.cells.toList 0 z.toArray (by rw [q1, q2]; omega)
          simp only [Nat.add_zero, Array.length_toList, hh.1] at this
          rw [← this, ← Array.foldl_toList]
          simp
        rw [hfold]
        exact fill_eq place l ps _ r (by simpa using hl) (fun i x y hx hy => h (i + 1) x y (by simpa using hx) (by simpa using hy)) hf
      · cases hf

theorem fillV_of {X : Nat → Prop} {m : MM} : ∀ (ps : List (Nat × Nat × LV)) (vs : List (Nat × Nat × Value)) (z : List LV) (zv : List Value) (r : List LV),
    ps.length = vs.length → (∀ (i : Nat) (x : Nat × Nat × LV) (y : Nat × Nat × Value), ps[i]? = some x → vs[i]? = some y → x.1 = y.1 ∧ x.2.1 = y.2.1 ∧ V w X m x.2.2 y.2.2) →
    z.length = zv.length → (∀ q, q < z.length → oneCell (zv.getD q Go.undef) = true) → (∀ q, q < z.length → V w X m (z.getD q .undef) (zv.getD q Go.undef)) → fillZ z ps = some r →
    ∃ rv, fillV zv vs = some rv ∧ r.length = rv.length ∧ (∀ q, q < r.length → oneCell (rv.getD q Go.undef) = true) ∧ ∀ q, q < r.length → V w X m (r.getD q .undef) (rv.getD q Go.undef)
  | [], vs, z, zv, r, hl, h, hz, h1, hv, hf => by
    obtain rfl : vs = [] := List.eq_nil_of_length_eq_zero (by simpa using hl.symm)
    cases hf
    exact ⟨zv, rfl, hz, h1, hv⟩
  | (off, sz, x) :: ps, vs, z, zv, r, hl, h, hz, h1, hv, hf => by
    cases vs with
    | nil => simp at hl
    | cons p vs =>
      obtain ⟨off', sz', u⟩ := p
      obtain ⟨e1, e2, hx⟩ := h 0 (off, sz, x) (off', sz', u) (by simp) (by simp)
      simp only at e1 e2 hx
      subst e1
      subst e2
      simp only [fillZ] at hf
      split at hf
      · rename_i hh
        obtain ⟨hxl, hle, hsol⟩ := hh
        obtain ⟨c1, c2, c3⟩ := hx.cells hsol
        have hzl : (z.take off ++ x.leaves ++ z.drop (off + sz)).length = z.length := by simp; omega
        have hgz : ∀ q, (z.take off ++ x.leaves ++ z.drop (off + sz)).getD q .undef = if q < off then z.getD q .undef else if q < off + sz then x.leaves.getD (q - off) .undef else z.getD q .undef := by
          intro q
          have := list_getD_splice z off x.leaves q (by omega)
          rw [hxl] at this; exact this
        have hgv : ∀ q, (zv.take off ++ u.cells.toList ++ zv.drop (off + sz)).getD q Go.undef = if q < off then zv.getD q Go.undef else if q < off + sz then u.cells.getD (q - off) Go.undef else zv.getD q Go.undef := by
          intro q
          have q1 : zv.toArray.size = zv.length := List.size_toArray
          have q2 : u.cells.toList.length = sz := by rw [Array.length_toList]; omega
          have := getD_splice zv.toArray off u.cells.toList q (by rw [q1, q2]; omega)
          rw [arr_getD] at this
          simp only [List.toList_toArray, Array.length_toList, c1, hxl] at this
          rw [this, show zv.toArray.getD q Go.undef = zv.getD q Go.undef from arr_getD, show u.cells.toList.getD (q - off) Go.undef = u.cells.getD (q - off) Go.undef from arr_getD'.symm]
        obtain ⟨rv, g1, g2, g3, g4⟩ := fillV_of ps vs (z.take off ++ x.leaves ++ z.drop (off + sz)) (zv.take off ++ u.cells.toList ++ zv.drop (off + sz)) r (by simpa using hl)
          (fun i x y hx hy => h (i + 1) x y (by simpa using hx) (by simpa using hy)) (by rw [hzl]; simp; omega)
          (fun q hq => by
            rw [hzl] at hq
            rw [hgv]
            by_cases b1 : q < off
            · rw [if_pos b1]; exact h1 q hq
            · rw [if_neg b1]
              by_cases b2 : q < off + sz
              · rw [if_pos b2]; exact c2 _ (by omega)
              · rw [if_neg b2]; exact h1 q hq)
          (fun q hq => by
            rw [hzl] at hq
            rw [hgv, hgz]
            by_cases b1 : q < off
            · rw [if_pos b1, if_pos b1]; exact hv q hq
            · rw [if_neg b1, if_neg b1]
              by_cases b2 : q < off + sz
              · rw [if_pos b2, if_pos b2]; exact c3 _ (by omega)
              · rw [if_neg b2, if_neg b2]; exact hv q hq) hf
        exact ⟨rv, by simp only [fillV]; rw [if_pos ⟨by omega, by omega⟩]; exact g1, g2, g3, g4⟩
      · cases hf

theorem mapM_places (fs : List Field) (h : ∀ f ∈ fs, (sizeT P f.type).isSome = true) : (fs.mapM fun f => do pure (f.offset, ← Go.sizeOf f.type) : Sem (List (Nat × Nat))).run P w = .ok (fs.map fun f => (f.offset, (sizeT P f.type).getD 0)) w := by
  induction fs with
  | nil => simp
  | cons f fs ih =>
    obtain ⟨n, hn⟩ := Option.isSome_iff_exists.1 (h f (by simp))
    have ih' := ih fun g hg => h g (by simp [hg])
    simp only [List.mapM_cons, Sem.run_bind, sizeOf_run hn, Result.andThen_ok, Sem.run_pure, List.map_cons, hn, Option.getD_some]
    rw [ih']
    rfl

theorem cParts_spec {t : TypeId} : ∀ {l : List (Nat × Operand)} {ps : List (Nat × Nat × Opd)}, cParts P t l = some ps → ps.length = l.length ∧
    ∀ (i : Nat) (x : Nat × Operand) (y : Nat × Nat × Opd), l[i]? = some x → ps[i]? = some y → placeT P t x.1 = some (y.1, y.2.1) ∧ cOpd x.2 = some y.2.2
  | [], ps, h => by cases h; exact ⟨rfl, fun i x y hx => by simp at hx⟩
  | (j, x) :: l, ps, h => by
    simp only [cParts] at h
    split at h
    · rename_i o s y ys h1 h2 h3
      cases h
      obtain ⟨g1, g2⟩ := cParts_spec h3
      refine ⟨by simp [g1], fun i a b ha hb => ?_⟩
      cases i with
      | zero => simp at ha hb; subst ha; subst hb; exact ⟨h1, h2⟩
      | succ i => exact g2 i a b (by simpa using ha) (by simpa using hb)
    · cases h

theorem sim_build (h : Rel w F m S) {t : TypeId} {z : Value} {e : Env} {ρ : Operand → Value} (ha : isAggT P t = some true) (hz : zeroT P t = some z) (hf : fieldsOk P t = true)
    {parts : Array (Nat × Operand)} {ps : List (Nat × Nat × Opd)} (hp : cParts P t parts.toList = some ps)
    (hρ : ∀ x x', cOpd x = some x' → V w (XX F m S) m (x'.ev e) (ρ x)) {fs : List LV} (hfill : fillZ (ofV z).leaves (ps.map fun (o, s, x) => (o, s, x.ev e)) = some fs) :
    Val G F m S w (.agg fs) S ((Instr.build t (parts.map fun (i, x) => (i, ρ x))).run P w) := by
  obtain ⟨hz1, hz2, hz3⟩ := zeroT_run hz w
  obtain ⟨g1, g2⟩ := cParts_spec hp
  -- the zero value's cells
  have hzV : V w (XX F m S) m (ofV z) z := ofV_V z hz3
  have hzc : (ofV z).leaves.length = z.cells.size ∧ ∀ q, q < (ofV z).leaves.length → V w (XX F m S) m ((ofV z).leaves.getD q .undef) (z.cells.getD q Go.undef) := by
    by_cases hag : ∃ cs, z = .agg cs
    · obtain ⟨cs, rfl⟩ := hag
      obtain ⟨c1, c2, c3⟩ := hzV.cells rfl
      exact ⟨c1.symm, c3⟩
    · have e1 : (ofV z).leaves = [ofV z] := by
        have : ofV z = ofLeaf z := by cases z <;> first | rfl | exact (hag ⟨_, rfl⟩).elim
        rw [this]
        unfold ofLeaf
        split <;> rfl
      have e2 : z.cells = #[z] := by cases z <;> first | rfl | exact (hag ⟨_, rfl⟩).elim
      rw [e1, e2]
      refine ⟨rfl, fun q hq => ?_⟩
      obtain rfl : q = 0 := by simpa using hq
      simpa using hzV
  have hone : ∀ q, q < (ofV z).leaves.length → oneCell (z.cells.toList.getD q Go.undef) = true := by
    intro q hq
    have hq' : q < z.cells.toList.length := by simp; omega
    rw [List.getD_eq_getElem?_getD, List.getElem?_eq_getElem hq']
    exact (List.all_eq_true.1 hz3) _ (List.getElem_mem hq')
  obtain ⟨rv, r1, r2, r3, r4⟩ := fillV_of (w := w) (X := XX F m S) (m := m) (ps.map fun (o, s, x) => (o, s, x.ev e))
    ((ps.zip parts.toList).map fun (p, x) => (p.1, p.2.1, ρ x.2)) (ofV z).leaves z.cells.toList fs (by simp [g1])
    (fun i x y hx hy => by
      rw [List.getElem?_map] at hx hy
      cases hpi : ps[i]? with
      | none => rw [hpi] at hx; cases hx
      | some p =>
        rw [hpi] at hx
        have hil := (List.getElem?_eq_some_iff.1 hpi).1
        have hil' : i < parts.toList.length := by omega
        have hxi := List.getElem?_eq_getElem hil'
        rw [(List.getElem?_zip_eq_some (z := (p, parts.toList[i]))).2 ⟨hpi, hxi⟩] at hy
        simp at hx hy
        subst hx
        subst hy
        exact ⟨rfl, rfl, hρ _ _ (g2 i _ p hxi hpi).2⟩)
    (by simp; exact hzc.1) hone (fun q hq => by rw [← arr_getD']; exact hzc.2 q hq) hfill
  -- the places
  have hplace : ∀ (place : Nat → Option (Nat × Nat)), (∀ i o s, placeT P t i = some (o, s) → place i = some (o, s)) →
      Instr.fill place z.cells (parts.map fun (i, x) => (i, ρ x)).toList = some rv.toArray := by
    intro place hpl
    have := fill_eq place (parts.map fun (i, x) => (i, ρ x)).toList ((ps.zip parts.toList).map fun (p, x) => (p.1, p.2.1, ρ x.2)) z.cells.toList rv (by simp [g1])
      (fun i x y hx hy => by
        rw [Array.toList_map, List.getElem?_map] at hx
        rw [List.getElem?_map] at hy
        cases hxi : parts.toList[i]? with
        | none => rw [hxi] at hx; cases hx
        | some a =>
          rw [hxi] at hx
          have hil := (List.getElem?_eq_some_iff.1 hxi).1
          have hil' : i < ps.length := by omega
          have hpi := List.getElem?_eq_getElem hil'
          rw [(List.getElem?_zip_eq_some (z := (ps[i], a))).2 ⟨hpi, hxi⟩] at hy
          simp at hx hy
          subst hx
          subst hy
          exact ⟨hpl _ _ _ (g2 i a _ hxi hpi).1, rfl⟩) r1
    simpa using this
  have hres : V w (XX F m S) m (.agg fs) (.agg rv.toArray) := .agg (by simp; omega) (fun i hi => by rw [arr_getD]; exact r3 i hi) fun i hi => by rw [arr_getD]; exact r4 i hi
  unfold isAggT at ha
  cases hu : P.underlying t with
  | none => rw [hu] at ha; cases ha
  | some d =>
    rw [hu] at ha
    cases d <;> simp at ha
    case struct fds =>
      have hfo : ∀ f ∈ fds.toList, (sizeT P f.type).isSome = true := by
        unfold fieldsOk at hf; rw [hu] at hf
        exact fun f hf' => List.all_eq_true.1 hf f hf'
      have hm := mapM_places (P := P) (w := w) fds.toList hfo
      have hm' : (fds.mapM fun f => do pure (f.offset, ← Go.sizeOf f.type) : Sem (Array (Nat × Nat))).run P w = .ok (fds.toList.map fun f => (f.offset, (sizeT P f.type).getD 0)).toArray w := by
        rw [Array.mapM_eq_mapM_toList]
        rw [Sem.run_map, hm]
        rfl
      have hfl := hplace (fun i => (fds.toList.map fun f => (f.offset, (sizeT P f.type).getD 0)).toArray[i]?) fun i o s hps => by
        unfold placeT at hps
        rw [hu] at hps
        simp only at hps
        cases hfi : fds[i]? with
        | none => rw [hfi] at hps; cases hps
        | some f =>
          rw [hfi] at hps
          simp only at hps
          cases hsf : sizeT P f.type with
          | none => rw [hsf] at hps; cases hps
          | some n =>
            rw [hsf] at hps; cases hps
            simp [hfi, hsf]
      refine Val.same h (u := .agg rv.toArray) ?_ hres
      simp only [Instr.build, Sem.run_bind, hz1, Result.andThen_ok, run_underlying hu]
      rw [hm']
      simp only [Result.andThen_ok]
      rw [hfl]
      rfl
    case array n el =>
      have hso : (sizeT P el).isSome = true := by
        unfold fieldsOk at hf; rw [hu] at hf; exact hf
      obtain ⟨sz, hsz⟩ := Option.isSome_iff_exists.1 hso
      have hfl := hplace (fun i => some (i * sz, sz)) fun i o s hps => by
        unfold placeT at hps
        rw [hu] at hps
        simp only [hsz] at hps
        exact hps
      refine Val.same h (u := .agg rv.toArray) ?_ hres
      simp only [Instr.build, Sem.run_bind, hz1, Result.andThen_ok, run_underlying hu, sizeOf_run hsz]
      rw [hfl]
      rfl

end
end Go.Am
