/- Slices: what the plain machine says of them the model does. -/
import Derived.Test.YtfekfnapgfddbaaGreatAm6
set_option linter.unusedVariables false
set_option linter.unusedSimpArgs false
set_option linter.unusedSectionVars false
namespace Go.Am
open Go Go.RowKit
variable [HasProg]

section
variable {G : Prop} {P : Program} {F : Nat → Prop} {m : MM} {S : Store} {w : World}

/-- A slice's elements as they lie in memory. -/
def Lies (w : World) (X : Nat → Prop) (z : Nat) (es : List LV) (a : Option Addr) (n : Nat) : Prop :=
  es.length = n ∧ ∃ cv : Nat → Value, (0 < n → ∃ b o, a = some ⟨b, o, none⟩ ∧ ∀ q, q < n * z → w.cell? ⟨b, o + q, none⟩ = some (cv q)) ∧
    (∀ q, q < n * z → oneCell (cv q) = true) ∧ ∀ q, q < n * z → V w X M0 ((flat es).getD q .undef) (cv q)

theorem wellSized_iff {z : Nat} {es : List LV} (h : wellSized z es = true) : sized z es := by
  intro v hv
  simp only [wellSized, List.all_eq_true, beq_iff_eq] at h
  exact h v hv

theorem sized_same {z z' : Nat} {es : List LV} (h : sized z es) (h' : sized z' es) (h0 : 0 < es.length) : z = z' := by
  cases es with
  | nil => simp at h0
  | cons v vs => rw [← h v (by simp), h' v (by simp)]

theorem elems_lies (h : Rel w F m S) {x : LV} {u : Value} (hv : V w (XX F m S) m x u) {es : List LV} (he : elems S x = some es) {z : Nat} (hz : sized z es) :
    ∃ a n c, u = .slice a n c ∧ n ≤ c ∧ c ≤ maxLen ∧ Lies w (XX F m S) z es a n ∧ (a = none → c = 0) := by
  cases x <;> simp only [elems] at he <;> try (cases he; done)
  · cases he
    cases hv with
    | @sl _ _ _ a n c z' cv hn hc hcm hnil h0 hz' hb h1 hvv =>
      refine ⟨a, n, c, rfl, hc, hcm, ⟨hn, cv, ?_⟩, fun e => h0 (hnil.2 e)⟩
      by_cases hp : 0 < n
      · obtain rfl := sized_same hz hz' (by omega)
        refine ⟨fun _ => ?_, h1, hvv⟩
        obtain ⟨b, o, e, _, _, hcell⟩ := hb hp
        exact ⟨b, o, e, hcell⟩
      · obtain rfl : n = 0 := by omega
        exact ⟨fun h => absurd h hp, fun q hq => by simp at hq, fun q hq => by simp at hq⟩
  · cases he
    cases hv with
    | @slz _ a => exact ⟨a, 0, 0, rfl, Nat.le_refl _, Nat.zero_le _, ⟨rfl, fun _ => Go.undef, fun h => by omega, fun q hq => by omega, fun q hq => by omega⟩, fun _ => rfl⟩
  · rename_i r zz off len
    split at he
    · rename_i E z' es' mu ho
      split at he
      · rename_i hle
        cases he
        have hv' := hv
        cases hv with
        | @row _ _ _ _ _ b cap o c hm ha hl hc hcm =>
          obtain ⟨ob, hob, hr⟩ := h.obj r b zz cap hm
          rw [ho] at hob; obtain rfl := Option.some.inj hob
          obtain ⟨rfl, hz0, hsz, cur, hh, hcs, hlc, hcap, h1, h2⟩ := hr
          have hlen : ((es'.drop off).take len).length = len := by simp; omega
          refine ⟨_, len, c, rfl, hl, hcm, ⟨hlen, ?_⟩, fun e => by cases e⟩
          by_cases hp : 0 < len
          · obtain rfl := sized_same hz (sized_take hsz off len) (by omega)
            obtain ⟨e1, _⟩ := ha (.inl hp)
            have hidx : ∀ q, q < len * z → off * z + q < es'.length * z := by
              intro q hq
              have : (off + len) * z ≤ es'.length * z := Nat.mul_le_mul_right _ hle
              rw [Nat.add_mul] at this; omega
            have hcz : es'.length * z ≤ cap * z := Nat.mul_le_mul_right _ hlc
            refine ⟨fun q => cur.getD (off * z + q) Go.undef, fun _ => ⟨b, o, rfl, fun q hq => ?_⟩, fun q hq => h1 _ (hidx q hq), fun q hq => ?_⟩
            · rw [cell_of_row w b _ cur E (0, 0) hh, e1]
              have := hidx q hq
              have : off * z + q < cur.size := by omega
              simp [Array.getD, this]
            · have a1 : q / z < len := (Nat.div_lt_iff_lt_mul hz0).2 hq
              have a2 : q % z < z := Nat.mod_lt _ hz0
              have a3 : q = q / z * z + q % z := by have := Nat.div_add_mod q z; rw [Nat.mul_comm] at this; omega
              have e2 : (flat ((es'.drop off).take len)).getD q .undef = (flat es').getD (off * z + q) .undef := by
                conv => lhs; rw [a3]
                rw [flat_getD (sized_take hsz _ _) (by rw [hlen]; exact a1) a2, list_getD_drop_take _ _ _ _ _ a1]
                have : off * z + q = (off + q / z) * z + q % z := by rw [Nat.add_mul]; omega
                rw [this, flat_getD hsz (by omega) a2]
              rw [e2]; exact h2 _ (hidx q hq)
          · obtain rfl : len = 0 := by omega
            exact ⟨fun _ => Go.undef, fun h => absurd h hp, fun q hq => by simp at hq, fun q hq => by simp at hq⟩
      · cases he
    · cases he

/-- The cells of a slice, read. -/
theorem Lies.first {X : Nat → Prop} {z : Nat} {es : List LV} {a : Option Addr} {n : Nat} (h : Lies w X z es a n) (k c : Nat) (hk : k ≤ n) (hz0 : 0 < z) :
    ∃ news : List Value, news.length = k * z ∧ (∀ v ∈ news, v.oneCell' = true) ∧ (∀ q, q < k * z → V w X M0 ((flat es).getD q .undef) (news.getD q Go.undef)) ∧
      (∀ q, q < k * z → oneCell (news.getD q Go.undef) = true) ∧
      (Builtin.firstCells z k (.slice a n c)).run P w = .ok news.toArray w ∧ (0 < k → ∃ ad, a = some ad ∧ ∀ j u, news[j]? = some u → w.cell? (ad.add j) = some u) := by
  obtain ⟨hn, cv, hb, h1, hv⟩ := h
  let news : List Value := (List.range (k * z)).map cv
  have hkz : k * z ≤ n * z := Nat.mul_le_mul_right _ hk
  have hget : ∀ q, q < k * z → news.getD q Go.undef = cv q := fun q hq => by simp [news, List.getD, hq]
  have hlen : news.length = k * z := by simp [news]
  refine ⟨news, hlen, fun v hv' => ?_, fun q hq => by rw [hget q hq]; exact hv q (by omega), fun q hq => by rw [hget q hq]; exact h1 q (by omega), ?_, fun hp => ?_⟩
  · obtain ⟨q, hq, rfl⟩ := List.mem_map.1 hv'
    rw [oneCell_eq]; exact h1 q (by have := List.mem_range.1 hq; omega)
  · by_cases hp : 0 < k
    · obtain ⟨b, o, e, hcell⟩ := hb (by omega)
      subst e
      refine run_firstCells_some (P := P) w z k ⟨b, o, none⟩ n c news hlen fun j v hj => ?_
      have hjl : j < k * z := by have := (List.getElem?_eq_some_iff.1 hj).1; omega
      rw [add_plain, hcell j (by omega)]
      have := hget j hjl
      rw [List.getD_eq_getElem?_getD, hj] at this; simp at this; rw [this]
    · obtain rfl : k = 0 := by omega
      have : news = [] := List.eq_nil_of_length_eq_zero (by simpa using hlen)
      rw [this]
      cases a <;> simp [Builtin.firstCells, loadCells, loadCellsFrom]
  · obtain ⟨b, o, e, hcell⟩ := hb (by omega)
    refine ⟨_, e, fun j v hj => ?_⟩
    have hjl : j < k * z := by have := (List.getElem?_eq_some_iff.1 hj).1; omega
    rw [add_plain, hcell j (by omega)]
    have := hget j hjl
    rw [List.getD_eq_getElem?_getD, hj] at this; simp at this; rw [this]

theorem rowT_spec {t e z b : Nat} (h : rowT P t = some (e, z, b)) : P.underlying t = some (.slice e) ∧ ∃ i v, P.info? e = some i ∧ i.zero = some v ∧ i.size = z ∧ i.bytes = b ∧ v.cells.size = z ∧ 0 < z ∧ b ≤ 4096 ∧ zeroT P e = some v := by
  unfold rowT at h
  cases he : elemT P t with
  | none => rw [he] at h; cases h
  | some e' =>
    rw [he] at h
    simp only at h
    cases hi : P.info? e' with
    | none => rw [hi] at h; cases h
    | some i =>
      rw [hi] at h
      simp only at h
      cases hz : zeroT P e' with
      | none => rw [hz] at h; cases h
      | some v =>
        rw [hz] at h
        simp only at h
        split at h
        · rename_i hh
          cases h
          unfold elemT at he
          cases hu : P.underlying t with
          | none => rw [hu] at he; cases he
          | some d =>
            rw [hu] at he
            cases d <;> simp at he
            subst he
            refine ⟨rfl, i, v, hi, ?_, rfl, rfl, ?_, hh.1, hh.2, hz⟩
            · unfold zeroT at hz
              rw [hi] at hz
              simp only at hz
              cases hz2 : i.zero with
              | none => rw [hz2] at hz; cases hz
              | some v' => rw [hz2] at hz; simp only at hz; split at hz <;> cases hz; rfl
            · have := (zeroT_run (P := P) hz default)
              have h2 := this.2.1
              simp [sizeT, hi] at h2
              exact h2.symm
        · cases h

theorem flat_append (xs ys : List LV) : flat (xs ++ ys) = flat xs ++ flat ys := by simp [flat]
theorem sized_append {z : Nat} {xs ys : List LV} (h : sized z xs) (h' : sized z ys) : sized z (xs ++ ys) := fun v hv => by
  rcases List.mem_append.1 hv with h1 | h1
  · exact h v h1
  · exact h' v h1

theorem getD_app_left {α : Type} (l r : List α) (q : Nat) (d : α) (h : q < l.length) : (l ++ r).getD q d = l.getD q d := by
  rw [List.getD_eq_getElem?_getD, List.getElem?_append_left h, ← List.getD_eq_getElem?_getD]
theorem getD_app_right {α : Type} (l r : List α) (q : Nat) (d : α) (h : l.length ≤ q) : (l ++ r).getD q d = r.getD (q - l.length) d := by
  rw [List.getD_eq_getElem?_getD, List.getElem?_append_right h, ← List.getD_eq_getElem?_getD]
theorem arr_getD {l : List Value} {q : Nat} : l.toArray.getD q Go.undef = l.getD q Go.undef := by
  by_cases hq : q < l.length <;> simp [Array.getD, List.getD, hq]
theorem arr_getD' {c : Array Value} {q : Nat} : c.getD q Go.undef = c.toList.getD q Go.undef := by
  by_cases hq : q < c.size <;> simp [Array.getD, List.getD, hq]

/-- A new row that holds given elements, and room. -/
theorem sim_newrow (h : Rel w F m S) {E z : Nat} (hz0 : 0 < z) {es : List LV} (hz : sized z es) (c : Array Value) (cap : Nat) (hcs : c.size = cap * z) (hle : es.length ≤ cap) (hcap : cap ≤ maxLen)
    (h1 : ∀ q, q < es.length * z → oneCell (c.getD q Go.undef) = true) (hv : ∀ q, q < es.length * z → V w (XX F m S) M0 ((flat es).getD q .undef) (c.getD q Go.undef))
    (w0 : World) (hw0 : w0.heap = w.heap) (ho : w0.os = w.os) (ht : w0.tape = w.tape) (hout : w0.output = w.output) :
    Ev F m S w (mput m S.length (w.heap.size, z, cap)) (S ++ [.row E z es true]) (w0.alloc (.cells c E)) ∧
      V (w0.alloc (.cells c E)) (XX F (mput m S.length (w.heap.size, z, cap)) (S ++ [.row E z es true])) (mput m S.length (w.heap.size, z, cap)) (.row S.length z 0 es.length) (.slice (some ⟨w.heap.size, 0, none⟩) es.length cap) := by
  have hold : ∀ b, b < w.heap.size → (w0.alloc (.cells c E)).heap[b]? = w.heap[b]? := fun b hb => by rw [heap_push_old w0 _ (by rw [hw0]; exact hb), hw0]
  have hsz : (w0.alloc (.cells c E)).heap.size = w.heap.size + 1 := by rw [heap_push_size, hw0]
  constructor
  · refine Ev.add h _ w.heap.size z cap (Nat.le_refl _) ho ht hout (by omega) (by omega) hold fun X hX => ?_
    refine ⟨rfl, hz0, hz, c, ?_, hcs, hle, hcap, h1, fun q hq => (hv q hq).on (by omega) (fun b hb _ => hold b hb) hX fun _ _ h => h⟩
    have := heap_push_new w0 (.cells c E)
    rw [hw0] at this; exact this
  · exact .row (mput_new m S.length _) (fun _ => by simp) hle (by omega) hcap

theorem sim_append (h : Rel w F m S) {t ty e z b : Nat} (hT : rowT P t = some (e, z, b)) {x : LV} {ux uy : Value} {a' : Option Addr} {n' c' : Nat} {ys : List LV}
    (hvx : V w (XX F m S) m x ux) (huy : uy = .slice a' n' c') (hl : Lies w (XX F m S) z ys a' n') (hc0 : a' = none → c' = 0) (hys : sized z ys)
    {v : LV} {S' : Store}
    (hx : aapp e z S x ys = some (v, S')) : Val False F m S w v S' ((Builtin.append_ #[t, t] ty #[ux, uy]).run P w) := by
  obtain ⟨hu, i, zv, hi, hzv, hsi, hbi, hzs, hz0, hb, hzt⟩ := rowT_spec hT
  subst huy
  obtain ⟨news, hnl, hn1, hnv, hno, hnf, hna⟩ := hl.first (P := P) (w := w) n' c' (Nat.le_refl _) hz0
  have hyl := hl.1
  have hml : maxLen = 9223372036854775807 := rfl
  -- a new row
  have fresh : ∀ (sLen sCap : Nat), ys ≠ [] → ys.length ≤ 4294967296 → ∀ r, (r = .ok (.slice (some ⟨w.heap.size, 0, none⟩) n' (grownCap w n' 0 e)) (w.drew.alloc (.cells (news.toArray ++ Builtin.zeroCells zv.cells (grownCap w n' 0 e - n')) e))) →
      Val False F m S w (.row S.length z 0 ys.length) (S ++ [.row e z ys true]) r := by
    intro _ _ hne hlen r hr
    have hge := grownCap_ge w n' 0 e
    have hcm := grownCap_le_maxLen w n' 0 e (by omega)
    have hns := sim_newrow (w := w) h (E := e) hz0 hys (news.toArray ++ Builtin.zeroCells zv.cells (grownCap w n' 0 e - n')) (grownCap w n' 0 e)
      (by simp only [Array.size_append, List.size_toArray, size_zeroCells, hnl, hzs, ← Nat.add_mul]; congr 1; omega) (by omega) hcm
      (fun q hq => by
        rw [hyl] at hq
        rw [arr_getD']; simp only [Array.toList_append]; rw [getD_app_left _ _ _ _ (by omega)]; exact hno q hq)
      (fun q hq => by
        rw [hyl] at hq
        rw [arr_getD']; simp only [Array.toList_append]; rw [getD_app_left _ _ _ _ (by omega)]; exact hnv q hq) w.drew rfl rfl rfl rfl
    rw [hyl] at hns ⊢
    exact ⟨_, _, _, hr, hns.2, hns.1, fun h => h.elim⟩
  have hn0 : ys ≠ [] → 0 < n' := fun hne => by
    cases ys with
    | nil => exact (hne rfl).elim
    | cons => simp at hyl; omega
  have hbb : n' ≤ 4294967296 → n' * b ≤ 281474976710656 := fun hh => by
    have : n' * b ≤ 4294967296 * 4096 := Nat.mul_le_mul hh hb
    omega
  unfold aapp at hx
  split at hx
  · -- nil
    cases hvx with
    | @sl _ _ _ a n c z' cv hn hc hcm hnil h0 hz' hb' h1 hvv =>
      obtain rfl : n = 0 := by simpa using hn.symm
      obtain rfl : c = 0 := h0 rfl
      obtain rfl : a = none := hnil.1 rfl
      split at hx
      · rename_i hy0
        cases hx
        subst hy0
        obtain rfl : n' = 0 := by simpa using hyl.symm
        refine ⟨_, w, m, ?_, .sl (z := z') (cv := cv) rfl hc hcm hnil h0 hz' hb' h1 hvv, .refl h, fun h => h.elim⟩
        have hn2 : news = [] := List.eq_nil_of_length_eq_zero (by simpa using hnl)
        rw [hn2] at hnf
        simp [Builtin.append_, run_underlying hu, Go.sizeOf, typeInfo, hi, Builtin.lenOf, hsi, hnf]
      · rename_i hne
        split at hx
        · rename_i hlen
          cases hx
          obtain ⟨ad, ea, had⟩ := hna (hn0 hne)
          subst ea
          exact fresh 0 0 hne hlen _ (run_append_nil (P := P) w t ty e i zv hu hi hzv ad n' c' news (by rw [hsi]; exact hnl) had (hn0 hne) (by omega) (by rw [hbi]; exact hbb (by omega)))
        · cases hx
  · -- a row of the run's own
    rename_i r zz off len
    split at hx
    · rename_i E' z' es ho
      split at hx
      · rename_i hh
        obtain ⟨rfl, rfl, rfl, rfl, hlen⟩ := hh
        cases hx
        cases hvx with
        | @row _ _ _ _ _ bk cap o c hm ha hl' hc hcm =>
          obtain ⟨ob, hob, hr⟩ := h.obj r bk zz cap hm
          rw [ho] at hob; obtain rfl := Option.some.inj hob
          obtain ⟨rfl, _, hsz, cur, hh, hcs, hlc, hcap, h1, h2⟩ := hr
          obtain ⟨eo, ec⟩ := ha (.inr rfl)
          simp only [Nat.zero_mul, Nat.sub_zero] at eo ec
          subst eo
          subst ec
          have hown : ownAt S r := ⟨_, ho, rfl⟩
          have hsn : sized z' (es ++ ys) := sized_append hsz hys
          have hfl := flat_length hsz
          have hlen2 : (es ++ ys).length = es.length + n' := by simp [hyl]
          have hcz : es.length * z' ≤ c * z' := Nat.mul_le_mul_right _ hlc
          by_cases hroom : es.length + n' ≤ c
          · -- in its own block
            have hfit : es.length * z' + news.length ≤ cur.size := by rw [hnl, hcs, ← Nat.add_mul]; exact Nat.mul_le_mul_right _ hroom
            have hst := run_storeCells_at P bk (es.length * z') E' news 0 cur w hh (by simpa using hfit) hn1
            simp only [Nat.add_zero] at hst
            have hrun : (Builtin.append_ #[t, t] ty #[.slice (some ⟨bk, 0, none⟩) es.length c, .slice a' n' c']).run P w =
                .ok (.slice (some ⟨bk, 0, none⟩) (es.length + n') c) (w.setRow bk (cur.toList.take (es.length * z') ++ news ++ cur.toList.drop (es.length * z' + news.length)).toArray) := by
              simp [Builtin.append_, run_underlying hu, Go.sizeOf, typeInfo, hi, Builtin.lenOf, hroom, hsi, hnf, add_plain, hst]
            have hgv : ∀ q, ((cur.toList.take (es.length * z') ++ news ++ cur.toList.drop (es.length * z' + news.length)).toArray).getD q Go.undef = if q < es.length * z' then cur.getD q Go.undef else if q < es.length * z' + news.length then news.getD (q - es.length * z') Go.undef else cur.getD q Go.undef := fun q => getD_splice cur (es.length * z') news q hfit
            refine ⟨_, _, _, hrun, ?_, (Ev.grow (w' := w.setRow bk _) h hm hown (.row E' z' (es ++ ys) true) bk z' c (.inl rfl) (by rw [setRow_ev_size]; exact (Array.getElem?_eq_some_iff.1 hh).1) rfl rfl rfl (by rw [setRow_ev_size]; exact Nat.le_refl _) (fun q _ hq => setRow_ev_other _ hq) fun X hX on => ?_), fun h => h.elim⟩
            · rw [hyl]
              exact .row (mput_new m S.length _) (fun _ => by simp) hroom (by omega) hcm
            · refine ⟨rfl, hz0, hsn, _, setRow_ev_heap hh _, by rw [← hcs]; simp; omega, by omega, hcap, fun q hq => ?_, fun q hq => ?_⟩
              · rw [hlen2, Nat.add_mul] at hq
                rw [hgv]
                by_cases c1 : q < es.length * z'
                · rw [if_pos c1]; exact h1 q c1
                · rw [if_neg c1, if_pos (by omega)]; exact hno _ (by omega)
              · rw [hlen2, Nat.add_mul] at hq
                rw [hgv, flat_append]
                by_cases c1 : q < es.length * z'
                · rw [if_pos c1, getD_app_left _ _ _ _ (by omega)]; exact on (h2 q c1)
                · rw [if_neg c1, if_pos (by omega), getD_app_right _ _ _ _ (by omega), hfl]; exact on (hnv _ (by omega))
          · -- in a new one
            have hp : 0 < n' := by omega
            obtain ⟨ad, ea, had⟩ := hna hp
            subst ea
            have holds : ∀ j v, (cur.toList.take (es.length * z'))[j]? = some v → w.cell? ((⟨bk, 0, none⟩ : Addr).add j) = some v := by
              intro j v hj
              rw [add_plain, Nat.zero_add, cell_of_row w bk j cur E' (0, 0) hh]
              rw [List.getElem?_take] at hj
              split at hj
              · simpa using hj
              · cases hj
            have hol : (cur.toList.take (es.length * z')).length = es.length * z' := by simp; omega
            have hrun := run_append_grow (P := P) w t ty E' i zv hu hi hzv ⟨bk, 0, none⟩ es.length c (cur.toList.take (es.length * z')) (by rw [hsi]; exact hol) holds ad n' c' news (by rw [hsi]; exact hnl) had (by omega) (by omega)
              (growslice_fits (by omega) (by
                rw [hbi]
                have : (es.length + n') * b ≤ 4294967296 * 4096 := Nat.mul_le_mul (by omega) hb
                omega))
            have hge := grownCap_ge w (es.length + n') c E'
            have hcm' := grownCap_le_maxLen w (es.length + n') c E' (by omega)
            have hcsz : ((cur.toList.take (es.length * z')).toArray ++ news.toArray ++ Builtin.zeroCells zv.cells (grownCap w (es.length + n') c E' - (es.length + n'))).size = grownCap w (es.length + n') c E' * z' := by
              simp only [Array.size_append, List.size_toArray, size_zeroCells, hnl, hzs, hol, ← Nat.add_mul]; congr 1; omega
            have hgv : ∀ q, q < es.length * z' + n' * z' → ((cur.toList.take (es.length * z')).toArray ++ news.toArray ++ Builtin.zeroCells zv.cells (grownCap w (es.length + n') c E' - (es.length + n'))).getD q Go.undef = if q < es.length * z' then cur.getD q Go.undef else news.getD (q - es.length * z') Go.undef := by
              intro q hq
              rw [arr_getD']
              simp only [Array.toList_append]
              rw [getD_app_left _ _ _ _ (by simp; omega)]
              by_cases c1 : q < es.length * z'
              · rw [if_pos c1, getD_app_left _ _ _ _ (by omega), arr_getD', List.getD_eq_getElem?_getD, List.getElem?_take, if_pos c1, ← List.getD_eq_getElem?_getD]
              · rw [if_neg c1, getD_app_right _ _ _ _ (by omega), hol]
            refine ⟨_, _, _, hrun, ?_, (Ev.grow (w' := w.drew.alloc _) h hm hown (.row E' z' (es ++ ys) true) w.heap.size z' (grownCap w (es.length + n') c E') (.inr (Nat.le_refl _)) (by rw [heap_push_size]; exact Nat.lt_succ_self _) rfl rfl rfl (by rw [heap_push_size]; exact Nat.le_succ _) (fun q hq _ => heap_push_old w.drew _ hq) fun X hX on => ?_), fun h => h.elim⟩
            · rw [hyl]
              exact .row (mput_new m S.length _) (fun _ => by simp) (by omega) (by omega) hcm'
            · refine ⟨rfl, hz0, hsn, _, heap_push_new w.drew _, hcsz, by omega, hcm', fun q hq => ?_, fun q hq => ?_⟩
              · rw [hlen2, Nat.add_mul] at hq
                rw [hgv q hq]
                by_cases c1 : q < es.length * z'
                · rw [if_pos c1]; exact h1 q c1
                · rw [if_neg c1]; exact hno _ (by omega)
              · rw [hlen2, Nat.add_mul] at hq
                rw [hgv q hq, flat_append]
                by_cases c1 : q < es.length * z'
                · rw [if_pos c1, getD_app_left _ _ _ _ (by omega)]; exact on (h2 q c1)
                · rw [if_neg c1, getD_app_right _ _ _ _ (by omega), hfl]; exact on (hnv _ (by omega))
      · cases hx
    · cases hx
  · -- of no room
    cases hvx with
    | @slz _ a =>
      split at hx
      · rename_i hy0
        cases hx
        subst hy0
        obtain rfl : n' = 0 := by simpa using hyl.symm
        refine ⟨.slice a 0 0, w, m, ?_, .slz, .refl h, fun h => h.elim⟩
        have hn2 : news = [] := List.eq_nil_of_length_eq_zero (by simpa using hnl)
        rw [hn2] at hnf
        cases a <;> simp [Builtin.append_, run_underlying hu, Go.sizeOf, typeInfo, hi, Builtin.lenOf, hsi, hnf, storeCells]
      · rename_i hne
        split at hx
        · rename_i hlen
          cases hx
          obtain ⟨ad, ea, had⟩ := hna (hn0 hne)
          subst ea
          cases a with
          | none => exact fresh 0 0 hne hlen _ (run_append_nil (P := P) w t ty e i zv hu hi hzv ad n' c' news (by rw [hsi]; exact hnl) had (hn0 hne) (by omega) (by rw [hbi]; exact hbb (by omega)))
          | some a0 =>
            have hrun := run_append_grow (P := P) w t ty e i zv hu hi hzv a0 0 0 [] (by simp) (fun j v hj => by simp at hj) ad n' c' news (by rw [hsi]; exact hnl) had (by have := hn0 hne; omega) (by omega)
              (growslice_fits (by have := hn0 hne; omega) (by
                rw [hbi, Nat.zero_add]
                have : n' * b ≤ 4294967296 * 4096 := Nat.mul_le_mul (by omega) hb
                omega))
            simp only [Nat.zero_add, Array.empty_append] at hrun
            exact fresh 0 0 hne hlen _ hrun
        · cases hx
  · cases hx

end
end Go.Am
