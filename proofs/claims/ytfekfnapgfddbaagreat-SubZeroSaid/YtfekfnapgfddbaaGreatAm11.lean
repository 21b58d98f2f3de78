/- An operation of the model's is the plain machine's. -/
import Derived.Test.YtfekfnapgfddbaaGreatAm10
set_option linter.unusedVariables false
set_option linter.unusedSimpArgs false
set_option linter.unusedSectionVars false
namespace Go.Am
open Go Go.RowKit
variable [HasProg]

section
variable {G : Prop} {P : Program} {F : Nat → Prop} {m : MM} {S : Store} {w : World}

theorem flat_take {z : Nat} : ∀ {es : List LV} (k : Nat), sized z es → flat (es.take k) = (flat es).take (k * z)
  | [], k, _ => by simp [flat]
  | v :: vs, 0, _ => by simp [flat]
  | v :: vs, k + 1, hz => by
    have hv : v.leaves.length = z := hz v (by simp)
    have hvs : sized z vs := fun u hu => hz u (by simp [hu])
    have ih := flat_take k hvs
    simp only [flat, List.take_succ_cons, List.flatMap_cons] at ih ⊢
    rw [ih, List.take_append, hv, List.take_of_length_le (l := v.leaves) (by rw [hv, Nat.add_mul]; omega)]
    congr 2
    rw [Nat.add_mul]; omega

theorem flat_drop {z : Nat} : ∀ {es : List LV} (k : Nat), sized z es → flat (es.drop k) = (flat es).drop (k * z)
  | [], k, _ => by simp [flat]
  | v :: vs, 0, _ => by simp [flat]
  | v :: vs, k + 1, hz => by
    have hv : v.leaves.length = z := hz v (by simp)
    have hvs : sized z vs := fun u hu => hz u (by simp [hu])
    have ih := flat_drop k hvs
    simp only [flat, List.drop_succ_cons, List.flatMap_cons] at ih ⊢
    rw [ih, List.drop_append, hv, List.drop_eq_nil_of_le (as := v.leaves) (by rw [hv, Nat.add_mul]; omega)]
    simp only [List.nil_append]
    congr 1
    rw [Nat.add_mul]; omega

/-- A piece of a row is written. -/
theorem ev_piece (h : Rel w F m S) {r b z cap E off : Nat} {es ys : List LV} (hm : m r = some (b, z, cap)) (ho : S[r]? = some (.row E z es true)) {c : Array Value} (hh : w.heap[b]? = some (.cells c E (0, 0)))
    (hle : off + ys.length ≤ es.length) (hys : sized z ys) (news : List Value) (hnl : news.length = ys.length * z)
    (hno : ∀ q, q < ys.length * z → oneCell (news.getD q Go.undef) = true) (hnv : ∀ q, q < ys.length * z → V w (XX F m S) M0 ((flat ys).getD q .undef) (news.getD q Go.undef)) :
    Ev F m S w m (S.set r (.row E z (es.take off ++ ys ++ es.drop (off + ys.length)) true)) (w.setRow b (c.toList.take (off * z) ++ news ++ c.toList.drop (off * z + news.length)).toArray) := by
  obtain ⟨ob, hob, hr⟩ := h.obj r b z cap hm
  rw [ho] at hob; obtain rfl := Option.some.inj hob
  obtain ⟨_, hz0, hsz, c', hh', hcs, hlc, hcap, h1, h2⟩ := hr
  rw [hh] at hh'
  obtain ⟨rfl⟩ : c = c' := by cases hh'; rfl
  have hcz : es.length * z ≤ cap * z := Nat.mul_le_mul_right _ hlc
  have hoz : (off + ys.length) * z ≤ es.length * z := Nat.mul_le_mul_right _ hle
  rw [Nat.add_mul] at hoz
  have hfl := flat_length hsz
  have hfy := flat_length hys
  have hlen : (es.take off ++ ys ++ es.drop (off + ys.length)).length = es.length := by simp; omega
  have hsn : sized z (es.take off ++ ys ++ es.drop (off + ys.length)) := sized_append (sized_append (fun v hv => hsz v (List.mem_of_mem_take hv)) hys) fun v hv => hsz v (List.mem_of_mem_drop hv)
  have hfn : flat (es.take off ++ ys ++ es.drop (off + ys.length)) = (flat es).take (off * z) ++ flat ys ++ (flat es).drop (off * z + (flat ys).length) := by
    rw [flat_append, flat_append, flat_take off hsz, flat_drop _ hsz, hfy, Nat.add_mul]
  have hgl : ∀ q, (flat (es.take off ++ ys ++ es.drop (off + ys.length))).getD q .undef = if q < off * z then (flat es).getD q .undef else if q < off * z + (flat ys).length then (flat ys).getD (q - off * z) .undef else (flat es).getD q .undef := by
    intro q
    rw [hfn]
    exact list_getD_splice (flat es) (off * z) (flat ys) q (by omega)
  have hgv := fun q => getD_splice c (off * z) news q (by omega)
  refine Ev.set h hm ⟨_, ho, rfl⟩ _ rfl rfl rfl rfl (setRow_ev_size _) (fun q hq => setRow_ev_other _ hq) fun on => ?_
  refine ⟨rfl, hz0, hsn, _, setRow_ev_heap hh _, by rw [← hcs]; simp; omega, by omega, hcap, fun q hq => ?_, fun q hq => ?_⟩
  · rw [hlen] at hq
    rw [hgv]
    by_cases c1 : q < off * z
    · rw [if_pos c1]; exact h1 q hq
    · rw [if_neg c1]
      by_cases c2 : q < off * z + news.length
      · rw [if_pos c2]; exact hno _ (by omega)
      · rw [if_neg c2]; exact h1 q hq
  · rw [hlen] at hq
    rw [hgv, hgl, hfy, ← hnl]
    by_cases c1 : q < off * z
    · rw [if_pos c1, if_pos c1]; exact on (h2 q hq)
    · rw [if_neg c1, if_neg c1]
      by_cases c2 : q < off * z + news.length
      · rw [if_pos c2, if_pos c2]; exact on (hnv _ (by omega))
      · rw [if_neg c2, if_neg c2]; exact on (h2 q hq)

theorem sim_copy (h : Rel w F m S) {t ty E b : Nat} (hT : rowT P t = some (E, 1, b)) {r zz off len : Nat} {ux uy : Value} {y : LV} {es ys : List LV}
    (hvx : V w (XX F m S) m (.row r zz off len) ux) (hvy : V w (XX F m S) m y uy) (hy : elems S y = some ys) (hys : wellSized 1 ys = true) (ho : S[r]? = some (.row E 1 es true)) (hle : off + len ≤ es.length) :
    Val False F m S w (.int .i64 (min ys.length len : Nat)) (S.set r (.row E 1 (es.take off ++ ys.take len ++ es.drop (off + min ys.length len)) true)) ((Builtin.copy_ #[t, t] ty #[ux, uy]).run P w) := by
  obtain ⟨hu, i, zv, hi, hzv, hsi, hbi, hzs, hz0, hb, hzt⟩ := rowT_spec hT
  have hsz := wellSized_iff hys
  obtain ⟨a, n, c, rfl, hnc, hcm, hlies, hac⟩ := elems_lies h hvy hy hsz
  have hyl := hlies.1
  obtain ⟨news, hnl, hn1, hnv, hno, hnf, hna⟩ := hlies.first (P := P) (w := w) (min n len) c (Nat.min_le_left _ _) (by omega)
  simp only [Nat.mul_one] at hnl hnv hno
  cases hvx with
  | @row _ _ _ _ _ bk cap o cx hm ha hl hc hcm' =>
    obtain ⟨ob, hob, hr⟩ := h.obj r bk zz cap hm
    rw [ho] at hob; obtain rfl := Option.some.inj hob
    obtain ⟨rfl, _, hsz', cur, hh, hcs, hlc, hcap, h1, h2⟩ := hr
    have hmin : min ys.length len = min n len := by rw [hyl]
    have hstz : sized 1 (ys.take len) := fun v hv => hsz v (List.mem_of_mem_take hv)
    have htl : (ys.take len).length = min n len := by simp; omega
    have hpc := ev_piece h hm ho (off := off) (ys := ys.take len) hh (by omega) hstz news (by omega)
      (fun q hq => hno q (by omega)) (fun q hq => by
        have := hnv q (by omega)
        rw [flat_take len hsz, List.getD_eq_getElem?_getD, List.getElem?_take, if_pos (by omega), ← List.getD_eq_getElem?_getD]
        exact this)
    rw [htl, ← hmin] at hpc
    simp only [Nat.mul_one] at hpc
    by_cases hp : 0 < min n len
    · obtain ⟨ad, rfl, had⟩ := hna hp
      obtain ⟨e1, _⟩ := ha (.inl (by omega))
      simp only [Nat.mul_one] at e1
      have hcp := run_copy_row (P := P) w t t ty E bk off len cx ad n c cur E news hu (by simp [hi, hsi]) hh (by rw [hnl]) had (by rw [hnl, hcs]; omega) hn1
      rw [← e1] at hcp
      rw [e1] at hcp
      refine ⟨goInt news.length, _, m, by rw [e1]; exact hcp, ?_, hpc, fun h => h.elim⟩
      rw [hnl, hmin]
      exact .int
    · have hz : min n len = 0 := by omega
      have hcp := run_copy_none (P := P) w t t ty E (some ⟨bk, o, none⟩) a len cx n c hu (by simp [hi, hsi]) (by rw [← hz])
      have hnews : news = [] := List.eq_nil_of_length_eq_zero (by omega)
      have hself : w.setRow bk (cur.toList.take off ++ news ++ cur.toList.drop (off + news.length)).toArray = w := by
        rw [hnews]
        simp only [List.append_nil, List.length_nil, Nat.add_zero, List.take_append_drop, Array.toArray_toList]
        exact setRow_self w bk cur E (0, 0) hh
      rw [hself] at hpc
      refine ⟨_, w, m, hcp, ?_, hpc, fun h => h.elim⟩
      rw [hmin, hz]
      exact .int

theorem run_copy_nil {t ty E b : Nat} (hT : rowT P t = some (E, 1, b)) {y : LV} {uy : Value} {ys : List LV} (h : Rel w F m S) (hvy : V w (XX F m S) m y uy) (hy : elems S y = some ys) (hys : sized 1 ys) :
    (Builtin.copy_ #[t, t] ty #[.slice none 0 0, uy]).run P w = .ok (goInt 0) w := by
  obtain ⟨hu, i, zv, hi, hzv, hsi, hbi, hzs, hz0, hb, hzt⟩ := rowT_spec hT
  obtain ⟨a, n, c, rfl, hnc, hcm, hlies, hac⟩ := elems_lies h hvy hy hys
  exact run_copy_none (P := P) w t t ty E none a 0 0 n c hu (by simp [hi, hsi]) (Nat.min_zero n)

theorem sim_clear (h : Rel w F m S) {t ty E z b : Nat} (hT : rowT P t = some (E, z, b)) {zv : Value} (hzt : zeroT P E = some zv) {r zz off len z' : Nat} {ux : Value} {es : List LV}
    (hvx : V w (XX F m S) m (.row r zz off len) ux) (ho : S[r]? = some (.row E z' es true)) (hle : off + len ≤ es.length) (hzl : (ofV zv).leaves.length = z') :
    ∃ w', (Builtin.clear_ #[t] ty #[ux]).run P w = .ok (.tuple #[]) w' ∧ Ev F m S w m (S.set r (.row E z' (es.take off ++ List.replicate len (ofV zv) ++ es.drop (off + len)) true)) w' := by
  obtain ⟨hu, i, zv', hi, hzv, hsi, hbi, hzs, hz0, hb, hzt'⟩ := rowT_spec hT
  rw [hzt] at hzt'
  obtain rfl := Option.some.inj hzt'
  obtain ⟨c1, c2, c3⟩ := zero_V (P := P) (w := w) (X := XX F m S) (m := M0) hzt
  obtain ⟨hz1, _, _⟩ := zeroT_run hzt w
  cases hvx with
  | @row _ _ _ _ _ bk cap o cx hm ha hl hc hcm' =>
    obtain ⟨ob, hob, hr⟩ := h.obj r bk zz cap hm
    rw [ho] at hob; obtain rfl := Option.some.inj hob
    obtain ⟨rfl, _, hsz', cur, hh, hcs, hlc, hcap, h1, h2⟩ := hr
    obtain rfl : z = z' := by omega
    have hgz : ∀ q, q < len * z → (Builtin.zeroCells zv.cells len).toList.getD q Go.undef = zv.cells.getD (q % z) Go.undef := by
      intro q hq
      have hm2 : q % z < z := Nat.mod_lt _ hz0
      have hm' : q % zv.cells.size < zv.cells.size := by rw [hzs]; exact hm2
      have hq2 : q < len * zv.cells.size := by rw [hzs]; exact hq
      rw [← arr_getD', Array.getD, dif_pos (by rw [size_zeroCells]; exact hq2), Array.getD, dif_pos (by rw [hzs]; exact hm2)]
      simp [Builtin.zeroCells, hm', hzs, hm2]
    have hzl2 : (Builtin.zeroCells zv.cells len).toList.length = len * z := by rw [Array.length_toList, size_zeroCells, hzs]
    have hpc := ev_piece h hm ho (off := off) (ys := List.replicate len (ofV zv)) hh (by simpa using hle) (sized_replicate hzl) (Builtin.zeroCells zv.cells len).toList (by simpa using hzl2)
      (fun q hq => by
        simp only [List.length_replicate] at hq
        rw [hgz q hq]; exact c3 _ (by rw [hzs]; exact Nat.mod_lt _ hz0))
      (fun q hq => by
        simp only [List.length_replicate] at hq
        rw [hgz q hq, flat_replicate hzl hz0 hq]; exact c2 _ (by rw [hzs]; exact Nat.mod_lt _ hz0))
    simp only [List.length_replicate] at hpc
    have hcz : es.length * z ≤ cap * z := Nat.mul_le_mul_right _ hlc
    have hoz : (off + len) * z ≤ es.length * z := Nat.mul_le_mul_right _ hle
    rw [Nat.add_mul] at hoz
    rcases Nat.eq_zero_or_pos len with rfl | hp
    · have hz : (Builtin.zeroCells zv.cells 0).toList = [] := List.eq_nil_of_length_eq_zero (by rw [hzl2]; simp)
      rw [hz] at hpc
      simp only [List.append_nil, List.length_nil, Nat.add_zero, List.take_append_drop, Array.toArray_toList] at hpc
      rw [setRow_self w bk cur E (0, 0) hh] at hpc
      exact ⟨w, by simp [Builtin.clear_, run_underlying hu], by simpa using hpc⟩
    · obtain ⟨e1, _⟩ := ha (.inl hp)
      subst e1
      have hst := run_storeCells_at P bk (off * z) E (Builtin.zeroCells zv.cells len).toList 0 cur w hh (by rw [hzl2]; omega) (fun v hv => by
        obtain ⟨q, hq, rfl⟩ := List.mem_iff_getElem.1 hv
        have := hgz q (by rw [hzl2] at hq; exact hq)
        rw [List.getD_eq_getElem?_getD, List.getElem?_eq_getElem hq] at this
        rw [oneCell_eq]
        simp only [Option.getD_some] at this
        rw [this]; exact c3 _ (by rw [hzs]; exact Nat.mod_lt _ hz0))
      simp only [Nat.add_zero] at hst
      refine ⟨_, ?_, hpc⟩
      have hl0 : len ≠ 0 := by omega
      obtain ⟨k, rfl⟩ : ∃ k, len = k + 1 := ⟨len - 1, by omega⟩
      simp [Builtin.clear_, hst, run_underlying hu, hz1]

theorem sim_max {k : IntKind} : ∀ (ys : List LV) (us : List Value) (a : Int) {v : LV} {X : Nat → Prop} {m : MM}, ys.length = us.length → (∀ i, i < ys.length → V w X m (ys.getD i .undef) (us.getD i Go.undef)) →
    amax (.int k a) ys = some v → ∃ u, (us.foldlM Builtin.max2 (.int k a)).run P w = .ok u w ∧ V w X m v u
  | [], us, a, v, X, m, hl, h, hm => by
    obtain rfl : us = [] := List.eq_nil_of_length_eq_zero (by simpa using hl.symm)
    cases hm
    exact ⟨_, by simp, .int⟩
  | y :: ys, us, a, v, X, m, hl, h, hm => by
    cases us with
    | nil => simp at hl
    | cons u us =>
      have hy := h 0 (by simp)
      simp only [List.getD_cons_zero] at hy
      cases y <;> simp only [amax] at hm <;> try (cases hm; done)
      obtain rfl := hy.int_inv
      obtain ⟨r, hr, hv⟩ := sim_max ys us _ (by simpa using hl) (fun i hi => by have := h (i + 1) (by simpa using hi); simpa using this) hm
      exact ⟨r, by simp only [List.foldlM_cons, Sem.run_bind, Builtin.max2, Sem.run_pure, Result.andThen_ok]; exact hr, hv⟩

theorem sim_min {k : IntKind} : ∀ (ys : List LV) (us : List Value) (a : Int) {v : LV} {X : Nat → Prop} {m : MM}, ys.length = us.length → (∀ i, i < ys.length → V w X m (ys.getD i .undef) (us.getD i Go.undef)) →
    amin (.int k a) ys = some v → ∃ u, (us.foldlM Builtin.min2 (.int k a)).run P w = .ok u w ∧ V w X m v u
  | [], us, a, v, X, m, hl, h, hm => by
    obtain rfl : us = [] := List.eq_nil_of_length_eq_zero (by simpa using hl.symm)
    cases hm
    exact ⟨_, by simp, .int⟩
  | y :: ys, us, a, v, X, m, hl, h, hm => by
    cases us with
    | nil => simp at hl
    | cons u us =>
      have hy := h 0 (by simp)
      simp only [List.getD_cons_zero] at hy
      cases y <;> simp only [amin] at hm <;> try (cases hm; done)
      obtain rfl := hy.int_inv
      obtain ⟨r, hr, hv⟩ := sim_min ys us _ (by simpa using hl) (fun i hi => by have := h (i + 1) (by simpa using hi); simpa using this) hm
      exact ⟨r, by simp only [List.foldlM_cons, Sem.run_bind, Builtin.min2, Sem.run_pure, Result.andThen_ok]; exact hr, hv⟩

end
end Go.Am
