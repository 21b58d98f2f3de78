/- A call's result whose rows become the caller's own; and the join for calls. -/
import Derived.Test.YtfekfnapgfddbaaGreatAm13
set_option linter.unusedVariables false
set_option linter.unusedSimpArgs false
set_option linter.unusedSectionVars false
namespace Go.Am
open Go Go.RowKit
variable [HasProg]

section
variable {P : Program} {w : World}

/-- Numbers of the caller's, and of the rows that came. -/
def mo (m m1 : MM) (base : Nat) (srcs : List Nat) : MM := fun q => if q < base then m q else match srcs[q - base]? with | some s => m1 s | none => none

structure OI (S1 : Store) (h : List Nat) (G : List Am.Obj) : Prop where
  len : G.length = h.length
  row : ∀ (i s : Nat), h.reverse[i]? = some s → ∃ (E z : Nat) (es : List LV), S1[s]? = some (Obj.row E z es true) ∧ G[i]? = some (Obj.row E z es true) ∧ es.all plainLeaf = true
  nodup : h.Nodup

theorem own_leaf {F1 : Nat → Prop} {S1 : Store} {m m1 : MM} {base : Nat} {h h' : List Nat} {G G' : List Am.Obj} {v u : LV} {val : Value} (hi : OI S1 h G) (ho : ownLeaf S1 base h G v = some (u, h', G'))
    (hv : V w F1 m1 v val) : OI S1 h' G' ∧ h.reverse <+: h'.reverse ∧ ∀ srcs, h'.reverse <+: srcs → ∀ X, V w X (mo m m1 base srcs) u val := by
  cases v <;> simp only [ownLeaf] at ho <;> try (cases ho; done)
  · cases ho; cases hv; exact ⟨hi, List.prefix_refl _, fun _ _ _ => .int⟩
  · cases ho; cases hv; exact ⟨hi, List.prefix_refl _, fun _ _ _ => .bool⟩
  · cases ho; cases hv; exact ⟨hi, List.prefix_refl _, fun _ _ _ => .str⟩
  · rename_i nil es
    cases nil with
    | false => simp [ownLeaf] at ho
    | true =>
      cases es with
      | cons => simp [ownLeaf] at ho
      | nil =>
        simp only [ownLeaf] at ho
        cases ho
        rw [hv.nil_inv]
        exact ⟨hi, List.prefix_refl _, fun _ _ _ => .sl (z := 1) (cv := fun _ => Go.undef) rfl (Nat.le_refl _) (Nat.zero_le _) (by simp) (by simp) (fun v hv => by simp at hv) (fun h => by omega) (fun q hq => by omega) fun q hq => by omega⟩
  · rename_i r zz off len
    split at ho
    · rename_i E z es hS
      split at ho
      · rename_i hh
        obtain ⟨rfl, rfl, rfl, hnot, hpl⟩ := hh
        cases ho
        cases hv with
        | @row _ _ _ _ _ b cap o c hm ha hl hc hcm =>
          refine ⟨⟨by simp [hi.len], fun i s hs => ?_, List.nodup_cons.2 ⟨hnot, hi.nodup⟩⟩, by simp, fun srcs hpre X => ?_⟩
          · rw [List.reverse_cons] at hs
            by_cases hlt : i < h.reverse.length
            · rw [List.getElem?_append_left hlt] at hs
              obtain ⟨E', z', es', h1, h2, h3⟩ := hi.row i s hs
              have : i < G.length := by rw [hi.len]; simpa using hlt
              exact ⟨E', z', es', h1, by rw [List.getElem?_append_left this]; exact h2, h3⟩
            · rw [List.getElem?_append_right (by omega)] at hs
              have hil := (List.getElem?_eq_some_iff.1 hs).1
              simp at hil
              have hi0 : i = G.length := by rw [hi.len]; simp at hlt; omega
              have : i - h.reverse.length = 0 := by simp; omega
              rw [this] at hs
              simp at hs
              subst hs
              subst hi0
              exact ⟨E, _, _, hS, by simp, hpl⟩
          · refine .row (b := b) (cap := cap) ?_ ha hl hc hcm
            have hk : srcs[G.length]? = some r := by
              obtain ⟨t, rfl⟩ := hpre
              rw [List.reverse_cons, List.append_assoc, List.getElem?_append_right (by simp [hi.len])]
              simp [hi.len]
            simp only [mo]
            rw [if_neg (by omega), show base + G.length - base = G.length by omega, hk]
            exact hm
      · cases ho
    · cases ho
  · cases ho; cases hv; exact ⟨hi, List.prefix_refl _, fun _ _ _ => .nilp⟩

theorem own_leaves {F1 : Nat → Prop} {S1 : Store} {m m1 : MM} {base : Nat} : ∀ {vs : List LV} {h h' : List Nat} {G G' : List Am.Obj} {us : List LV} {vals : List Value}, OI S1 h G → ownLeaves S1 base h G vs = some (us, h', G') →
    vals.length = vs.length → (∀ i, i < vs.length → V w F1 m1 (vs.getD i .undef) (vals.getD i Go.undef)) →
    us.length = vs.length ∧ OI S1 h' G' ∧ h.reverse <+: h'.reverse ∧ ∀ srcs, h'.reverse <+: srcs → ∀ X, ∀ i, i < us.length → V w X (mo m m1 base srcs) (us.getD i .undef) (vals.getD i Go.undef)
  | [], h, h', G, G', us, vals, hi, ho, hl, hv => by
    cases ho
    exact ⟨rfl, hi, List.prefix_refl _, fun _ _ _ i hi => by simp at hi⟩
  | v :: vs, h, h', G, G', us, vals, hi, ho, hl, hv => by
    simp only [ownLeaves] at ho
    split at ho
    · cases ho
    · rename_i u h1 G1 ho1
      split at ho
      · cases ho
      · rename_i us' h2 G2 ho2
        cases ho
        cases vals with
        | nil => simp at hl
        | cons val vals =>
          have v0 := hv 0 (by simp)
          simp only [List.getD_cons_zero] at v0
          obtain ⟨i1, p1, r1⟩ := own_leaf (m := m) hi ho1 v0
          obtain ⟨l2, i2, p2, r2⟩ := own_leaves (m := m) i1 ho2 (by simpa using hl) fun i hi => by have := hv (i + 1) (by simpa using hi); simpa using this
          refine ⟨by simp [l2], i2, p1.trans p2, fun srcs hpre X i hi => ?_⟩
          cases i with
          | zero => simp only [List.getD_cons_zero]; exact r1 srcs (p2.trans hpre) X
          | succ i => simp only [List.getD_cons_succ]; exact r2 srcs hpre X i (by simpa using hi)

theorem own_val {F1 : Nat → Prop} {S1 : Store} {m m1 : MM} {base : Nat} {h h' : List Nat} {G G' : List Am.Obj} {v u : LV} {val : Value} (hi : OI S1 h G) (ho : ownVal S1 base h G v = some (u, h', G'))
    (hv : V w F1 m1 v val) : OI S1 h' G' ∧ h.reverse <+: h'.reverse ∧ ∀ srcs, h'.reverse <+: srcs → ∀ X, V w X (mo m m1 base srcs) u val := by
  by_cases ha : ∃ fs, v = .agg fs
  · obtain ⟨fs, rfl⟩ := ha
    simp only [ownVal] at ho
    split at ho
    · cases ho
    · rename_i us h1 G1 ho1
      cases ho
      cases hv with
      | @agg _ _ vs hl h1 hh =>
        obtain ⟨l2, i2, p2, r2⟩ := own_leaves (m := m) (vals := vs.toList) hi ho1 (by simpa using hl) fun i hi => by rw [← arr_getD']; exact hh i hi
        refine ⟨i2, p2, fun srcs hpre X => .agg (by omega) (fun i hi => h1 i (by omega)) fun i hi => ?_⟩
        rw [arr_getD']; exact r2 srcs hpre X i hi
  · have hcl : ownVal S1 base h G v = ownLeaf S1 base h G v := by cases v <;> first | rfl | exact (ha ⟨_, rfl⟩).elim
    rw [hcl] at ho
    exact own_leaf hi ho hv

theorem own_vals {F1 : Nat → Prop} {S1 : Store} {m m1 : MM} {base : Nat} : ∀ {vs : List LV} {h h' : List Nat} {G G' : List Am.Obj} {us : List LV} {vals : List Value}, OI S1 h G → ownVals S1 base h G vs = some (us, h', G') →
    vals.length = vs.length → (∀ i, i < vs.length → V w F1 m1 (vs.getD i .undef) (vals.getD i Go.undef)) →
    us.length = vs.length ∧ OI S1 h' G' ∧ h.reverse <+: h'.reverse ∧ ∀ srcs, h'.reverse <+: srcs → ∀ X, ∀ i, i < us.length → V w X (mo m m1 base srcs) (us.getD i .undef) (vals.getD i Go.undef)
  | [], h, h', G, G', us, vals, hi, ho, hl, hv => by
    cases ho
    exact ⟨rfl, hi, List.prefix_refl _, fun _ _ _ i hi => by simp at hi⟩
  | v :: vs, h, h', G, G', us, vals, hi, ho, hl, hv => by
    simp only [ownVals] at ho
    split at ho
    · cases ho
    · rename_i u h1 G1 ho1
      split at ho
      · cases ho
      · rename_i us' h2 G2 ho2
        cases ho
        cases vals with
        | nil => simp at hl
        | cons val vals =>
          have v0 := hv 0 (by simp)
          simp only [List.getD_cons_zero] at v0
          obtain ⟨i1, p1, r1⟩ := own_val (m := m) hi ho1 v0
          obtain ⟨l2, i2, p2, r2⟩ := own_vals (m := m) i1 ho2 (by simpa using hl) fun i hi => by have := hv (i + 1) (by simpa using hi); simpa using this
          refine ⟨by simp [l2], i2, p1.trans p2, fun srcs hpre X i hi => ?_⟩
          cases i with
          | zero => simp only [List.getD_cons_zero]; exact r1 srcs (p2.trans hpre) X
          | succ i => simp only [List.getD_cons_succ]; exact r2 srcs hpre X i (by simpa using hi)

theorem own_res {F1 : Nat → Prop} {S1 : Store} {m m1 : MM} {base : Nat} {G : List Am.Obj} {v u : LV} {val : Value} (ho : ownRes S1 base v = some (u, G)) (hv : V w F1 m1 v val) :
    ∃ srcs, OI S1 srcs.reverse G ∧ ∀ X, V w X (mo m m1 base srcs) u val := by
  have h0 : OI S1 [] [] := ⟨rfl, fun i s hs => by simp at hs, List.nodup_nil⟩
  by_cases ht : ∃ fs, v = .tup fs
  · obtain ⟨fs, rfl⟩ := ht
    simp only [ownRes] at ho
    split at ho
    · cases ho
    · rename_i us h1 G1 ho1
      cases ho
      cases hv with
      | @tup _ _ vs hl hh =>
        obtain ⟨l2, i2, p2, r2⟩ := own_vals (m := m) (vals := vs.toList) h0 ho1 (by simpa using hl) fun i hi => by rw [← arr_getD']; exact hh i hi
        refine ⟨h1.reverse, by rw [List.reverse_reverse]; exact i2, fun X => .tup (by omega) fun i hi => ?_⟩
        rw [arr_getD']; exact r2 _ (List.prefix_refl _) X i hi
  · have hcl : ownRes S1 base v = match ownVal S1 base [] [] v with | none => none | some (u, _, G) => some (u, G) := by cases v <;> first | rfl | exact (ht ⟨_, rfl⟩).elim
    rw [hcl] at ho
    split at ho
    · cases ho
    · rename_i u' h1 G1 ho1
      cases ho
      obtain ⟨i1, p1, r1⟩ := own_val (m := m) h0 ho1 hv
      exact ⟨h1.reverse, by rw [List.reverse_reverse]; exact i1, fun X => r1 _ (List.prefix_refl _) X⟩

/-- Rows that came with a result are the caller's own. -/
theorem own_ev {F F1 : Nat → Prop} {m m1 : MM} {S S1 : Store} {w w' : World} {srcs : List Nat} {G : List Am.Obj} (h : Rel w F m S) (he : Ev F1 M0 [] w m1 S1 w') (hi : OI S1 srcs.reverse G) :
    Ev F m S w (mo m m1 S.length srcs) (S ++ G) w' := by
  have hOwn0 : ∀ q, ¬ Own M0 ([] : Store) q := fun q ⟨r, z, c, hm, _⟩ => by cases hm
  have hnew : ∀ s b z cap, m1 s = some (b, z, cap) → ownAt S1 s → w.heap.size ≤ b := by
    intro s b z cap hm hw
    rcases he.own b ⟨s, z, cap, hm, hw⟩ with h1 | h1
    · exact (hOwn0 _ h1).elim
    · exact h1
  have hmm : ∀ r x, m r = some x → mo m m1 S.length srcs r = some x := fun r x hx => by
    have := h.dom hx
    simp only [mo]; rw [if_pos this]; exact hx
  have hrl : srcs.reverse.reverse = srcs := List.reverse_reverse _
  have hsl : G.length = srcs.length := by rw [hi.len]; simp
  have hold : ∀ r x, mo m m1 S.length srcs r = some x → m r = some x ∨ (S.length ≤ r ∧ ∃ s E z es, srcs[r - S.length]? = some s ∧ m1 s = some x ∧ S1[s]? = some (Obj.row E z es true) ∧ (S ++ G)[r]? = some (Obj.row E z es true) ∧ es.all plainLeaf = true) := by
    intro r x hx
    simp only [mo] at hx
    split at hx
    · exact .inl hx
    · rename_i hge
      split at hx
      · rename_i s hs
        obtain ⟨E, z, es, k1, k2, k3⟩ := hi.row (r - S.length) s (by rw [hrl]; exact hs)
        refine .inr ⟨by omega, s, E, z, es, hs, hx, k1, ?_, k3⟩
        rw [List.getElem?_append_right (by omega)]; exact k2
      · cases hx
  have hlook : ∀ r, r < S.length → (S ++ G)[r]? = S[r]? := fun r hr => List.getElem?_append_left hr
  have hkeep : ∀ b, b < w.heap.size → w'.heap[b]? = w.heap[b]? := fun b hb => he.keep b hb (hOwn0 b)
  have hOwn : ∀ q, Own (mo m m1 S.length srcs) (S ++ G) q → Own m S q ∨ w.heap.size ≤ q := by
    rintro q ⟨r, z, cap, hm, o, ho, hw⟩
    rcases hold r _ hm with hm1 | ⟨hge, s, E, z', es, hs, hm1, k1, k2, k3⟩
    · have := h.dom hm1
      rw [hlook r this] at ho
      exact .inl ⟨r, z, cap, hm1, o, ho, hw⟩
    · exact .inr (hnew s q z cap hm1 ⟨_, k1, rfl⟩)
  have hXX : ∀ q, q < w.heap.size → XX F (mo m m1 S.length srcs) (S ++ G) q → XX F m S q := by
    rintro q hq (hx | hx)
    · exact .inl hx
    · rcases hOwn q hx with h1 | h1
      · exact .inr h1
      · omega
  have hsz := he.size
  refine ⟨⟨fun r b z cap hm => ?_, ?_, ?_, fun b hb => by have := h.lt b hb; omega⟩, hmm, he.os, he.tape, he.output, hsz, fun b hb _ => hkeep b hb, hOwn, fun r b z cap hm => ?_, by simp, fun r hr => by simp only [mo]; rw [if_pos hr], fun D hD => (hkeep D (heap_lt hD)).trans hD⟩
  rotate_left 3
  · rcases hold r _ hm with hm1 | ⟨hge, s, E, z', es, hs, hm1, k1, k2, k3⟩
    · exact .inl ⟨r, z, cap, hm1⟩
    · exact .inr (hnew s b z cap hm1 ⟨_, k1, rfl⟩)
  · rcases hold r _ hm with hm1 | ⟨hge, s, E, z', es, hs, hm1, k1, k2, k3⟩
    · obtain ⟨o, ho, hr⟩ := h.obj r b z cap hm1
      refine ⟨o, by rw [hlook r (h.dom hm1)]; exact ho, hr.on (fun hnd => hkeep _ (liveAt_block h hm1 ⟨o, ho, hnd⟩)) hsz (fun q hq _ => hkeep q hq) hXX hmm⟩
    · obtain ⟨o, ho, hr⟩ := he.rel.obj s b z cap hm1
      rw [k1] at ho; obtain rfl := Option.some.inj ho
      refine ⟨_, k2, ?_⟩
      obtain ⟨e1, hz0, hszd, c, hh, hcs, hlc, hcap, h1, h2⟩ := hr
      refine ⟨e1, hz0, hszd, c, hh, hcs, hlc, hcap, h1, fun q hq => ?_⟩
      have hv := h2 q hq
      have hfl := flat_length hszd
      rw [flat_plain k3] at hv hfl ⊢
      exact plain_V (all_getD k3 (by omega)) hv
  · rintro r r' b z1 c1 z2 c2 hne hm hm' hw hl
    rcases hold r _ hm with hm1 | ⟨hge, s, E, z', es, hs, hm1, k1, k2, k3⟩ <;> rcases hold r' _ hm' with hm2 | ⟨hge', s', E', z'', es', hs', hm2, k1', k2', k3'⟩
    · have hd := h.dom hm1
      have hd' := h.dom hm2
      obtain ⟨o, ho, how⟩ := hw
      obtain ⟨o', ho', hol⟩ := hl
      rw [hlook r hd] at ho
      rw [hlook r' hd'] at ho'
      exact h.ne r r' b z1 c1 z2 c2 hne hm1 hm2 ⟨o, ho, how⟩ ⟨o', ho', hol⟩
    · have := hnew s' b z2 c2 hm2 ⟨_, k1', rfl⟩
      have hd := h.dom hm1
      obtain ⟨o, ho, how⟩ := hw
      rw [hlook r hd] at ho
      have := liveAt_block h hm1 (own_live ⟨o, ho, how⟩)
      omega
    · have := hnew s b z1 c1 hm1 ⟨_, k1, rfl⟩
      have hd := h.dom hm2
      obtain ⟨o, ho, how⟩ := hl
      rw [hlook r' hd] at ho
      have := liveAt_block h hm2 ⟨o, ho, how⟩
      omega
    · have hss : s ≠ s' := by
        intro e
        subst e
        have hnd : srcs.Nodup := by
          have := hi.nodup
          rw [List.Nodup, List.pairwise_reverse] at this
          exact this.imp fun h => h.symm
        have h1 := (List.getElem?_eq_some_iff.1 hs)
        have h2 := (List.getElem?_eq_some_iff.1 hs')
        obtain ⟨l1, e1⟩ := h1
        obtain ⟨l2, e2⟩ := h2
        have hij : r - S.length ≠ r' - S.length := by omega
        rcases Nat.lt_or_gt_of_ne hij with hlt | hlt
        · exact (List.pairwise_iff_getElem.1 hnd _ _ l1 l2 hlt) (e1.trans e2.symm)
        · exact (List.pairwise_iff_getElem.1 hnd _ _ l2 l1 hlt) (e2.trans e1.symm)
      exact he.rel.ne s s' b z1 c1 z2 c2 hss hm1 hm2 ⟨_, k1, rfl⟩ ⟨_, k1', by simp⟩
  · rintro r b z cap hm ⟨o, ho, hnd⟩ hF
    rcases hold r _ hm with hm1 | ⟨hge, s, E, z', es, hs, hm1, k1, k2, k3⟩
    · rw [hlook r (h.dom hm1)] at ho
      exact h.sep r b z cap hm1 ⟨o, ho, hnd⟩ hF
    · have := hnew s b z cap hm1 ⟨_, k1, rfl⟩
      have := h.lt b hF
      omega

theorem acallR_sound {C : Cfg} {W : Call} (hW : SoundW P W) {f : Nat} (hy : f ≠ yB) {args : List LV} {S S' : Store} {r : LV} (hc : acallR C W f args S = some (r, S')) : SoundAt P f args S r S' := by
  unfold acallR at hc
  split at hc
  · cases hc
  · rename_i r1 S1 hcall
    have h0 := hW.1 _ _ _ _ _ hy hcall
    split at hc
    · unfold closeOut at hc
      split at hc
      · cases hc
      · rename_i d hd
        cases hc
        refine ⟨h0.1, fun F m w vs h hl hv => (h0.2 F m w vs h hl hv).mono ?_⟩
        rintro e w' ⟨u, m', rfl, hvu, hev⟩
        exact ⟨u, m', rfl, closeOut_V hev.rel hvu hd, hev.trans (Ev.freeze hev.rel _)⟩
    · cases hc; exact h0

/-- A call, whichever way. -/
theorem acallM_sound {C : Cfg} {W : Call} (hW : SoundW P W) {q : Bool} {f : Nat} {args : List LV} {S S' : Store} {r : LV} (hc : acallM C W q f args S = some (r, S')) : SoundAt P f args S r S' := by
  unfold acallM at hc
  split at hc
  · cases hc
  rename_i hy
  split at hc
  · split at hc
    · split at hc
      · split at hc
        · cases hc
        · rename_i hcall
          split at hc
          · cases hc; exact acallR_sound hW hy hcall
          · cases hc
      · cases hc
    · exact acallR_sound hW hy hc
  · split at hc
    · cases hc
    · rename_i ds hds
      split at hc
      · cases hc
      · rename_i r1 S1 hcall
        obtain ⟨hcf, hcalls⟩ := hW.1 _ _ _ _ _ hy hcall
        refine ⟨hcf, fun F m w vs h hl hv => ?_⟩
        -- the caller's store, its rows that are handed in frozen
        have efr := Ev.freeze h (args.flatMap rowsOf)
        have hxsub : ∀ q, XX F m (freeze S (args.flatMap rowsOf)) q → XX F m S q := by
          rintro q (hq | ⟨r', z', cap', hm', hw⟩)
          · exact .inl hq
          · exact .inr ⟨r', z', cap', hm', freeze_own hw⟩
        have hrel0 : Rel w (XX F m (freeze S (args.flatMap rowsOf))) M0 [] := ⟨(fun r b z cap hm => by cases hm), (fun r r' b z cap z' cap' _ hm => by cases hm), (fun r b z cap hm => by cases hm), fun b hb => efr.rel.xx_lt hb⟩
        have hOwn0 : ∀ q, ¬ Own M0 ([] : Store) q := fun q ⟨r, z, c, hm, _⟩ => by cases hm
        have hdl := mapO_length hds
        have hargs : ∀ i, i < ds.length → V w (XX (XX F m (freeze S (args.flatMap rowsOf))) M0 []) M0 (ds.getD i .undef) (vs.getD i Go.undef) := by
          intro i hi
          have hi' : i < args.length := by omega
          obtain ⟨d, hd, hd'⟩ := mapO_get hds i _ (List.getElem?_eq_getElem hi')
          have hvi := hv i hi'
          rw [List.getD_eq_getElem?_getD, List.getElem?_eq_getElem hi'] at hvi
          rw [List.getD_eq_getElem?_getD, hd']
          have := close_freeze h hvi hd (rs := args.flatMap rowsOf) fun r hr => closeAll_rows (List.getElem_mem hi') hr
          refine this.on (Nat.le_refl _) (fun _ _ _ => rfl) (fun q _ hq => ?_) fun _ _ h => h
          rcases hq with hq | hq
          · exact hq
          · exact (hOwn0 q hq).elim
        refine (hcalls _ M0 w vs hrel0 (by omega) hargs).mono ?_
        rintro e w' ⟨u, m1, rfl, hvu, hev⟩
        have hkeep : ∀ b, b < w.heap.size → w'.heap[b]? = w.heap[b]? := fun b hb => hev.keep b hb (hOwn0 b)
        have hblk : ∀ s b z cap, m1 s = some (b, z, cap) → w.heap.size ≤ b := by
          intro s b z cap hm
          rcases hev.blk s b z cap hm with ⟨r0, z0, c0, h1⟩ | h1
          · cases h1
          · exact h1
        split at hc
        · -- its rows are the caller's own
          split at hc
          · cases hc
          · rename_i r' G hown
            cases hc
            obtain ⟨srcs, hi, hvv⟩ := own_res (w := w') (m := m) hown hvu
            exact ⟨u, _, rfl, hvv _, own_ev h hev hi⟩
        · split at hc
          · cases hc
          · rename_i r' hcl
            -- a store that is as it was, or frozen
            have fin : ∀ S', (S' = S ∨ S' = freeze S (args.flatMap rowsOf)) → (S' = freeze S (args.flatMap rowsOf) ∨ foreign S1 r1 = false ∨ args.flatMap rowsOf = []) → Ret F m S w r' S' (.returned u) w' := by
              intro S' h1 h2
              have hrelS' : Rel w F m S' := by rcases h1 with rfl | rfl; exact h; exact efr.rel
              have hsub' : ∀ q, XX F m S' q → XX F m S q := by rcases h1 with rfl | rfl; exact fun _ h => h; exact hxsub
              have hOS : ∀ q, Own m S' q → Own m S q := by
                rcases h1 with rfl | rfl
                · exact fun _ h => h
                · rintro q ⟨r, z, c, hm, hw⟩; exact ⟨r, z, c, hm, freeze_own hw⟩
              have hlt' : ∀ q, XX F m S' q → q < w.heap.size := fun q hq => hrelS'.xx_lt hq
              have hno : ∀ s b z cap, m1 s = some (b, z, cap) → ¬ XX F m S' b := fun s b z cap hm hx => by
                have := hlt' b hx
                have := hblk s b z cap hm
                omega
              have hEv : Ev F m S w m S' w := by rcases h1 with rfl | rfl; exact Ev.refl h; exact efr
              refine ⟨u, m, rfl, ?_, hEv.trans (Ev.ext hrelS' hev.os hev.tape hev.output hev.size hkeep)⟩
              have hres := closeRes_V (X := XX F m S') hev.rel hvu hcl ?_ (fun s b z cap hm _ => hno s b z cap hm) fun s b z cap hm _ => hno s b z cap hm
              · exact hres.on (Nat.le_refl _) (fun _ _ _ => rfl) (fun _ _ h => h) fun r x hx => by cases hx
              · rcases h2 with rfl | h2 | h2
                · exact .inl fun q hq => .inl hq
                · exact .inr h2
                · refine .inl fun q hq => .inl ?_
                  rw [h2]
                  rcases h1 with rfl | rfl
                  · exact hq
                  · rw [h2] at hq; exact hq
            split at hc
            · rename_i hh
              cases hc
              simp only [Bool.or_eq_true, List.isEmpty_iff, Bool.not_eq_true'] at hh
              exact fin _ (.inl rfl) (.inr (hh.symm.imp id id))
            · split at hc
              · cases hc
              · cases hc
                exact fin _ (.inr rfl) (.inl rfl)

end
end Go.Am
