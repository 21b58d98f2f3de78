/- One step in another order. -/
import Derived.Test.YtfekfnapgfddbaaGreatAm22
set_option linter.unusedVariables false
set_option linter.unusedSimpArgs false
namespace Go.Am
open Go

section
variable {C : Cfg} {W : Call} {q : Bool} {nt lo k : Nat} {ps : List (Opd × Opd)} {bf : Array Nat} {bs : List AOper} {E : Nat → Env} {T : Nat → Store}

theorem loose_chain {p o : AOper} (h : looseOk q ps p o = true) : ¬ (chain p.op = true ∧ chain o.op = true) := by
  simp only [looseOk, Bool.and_eq_true, Bool.not_eq_true'] at h
  rintro ⟨h1, h2⟩
  have := h.1.1.1.1.2
  rw [h1, h2] at this
  cases this

theorem loose_at_chain {p o : AOper} (h : looseOk q ps p o = true) (h1 : isAt p.op = true) (h2 : chain o.op = true) : q = true ∧ isCall o.op = true := by
  simp only [looseOk, Bool.and_eq_true, Bool.or_eq_true, Bool.not_eq_true'] at h
  rcases h.1.1.1.2 with h3 | h3
  · rw [h1, h2] at h3; cases h3
  · exact h3

theorem loose_chain_at {p o : AOper} (h : looseOk q ps p o = true) (h1 : chain p.op = true) (h2 : isAt o.op = true) : q = true ∧ isCall p.op = true := by
  simp only [looseOk, Bool.and_eq_true, Bool.or_eq_true, Bool.not_eq_true'] at h
  rcases h.1.1.2 with h3 | h3
  · rw [h1, h2] at h3; cases h3
  · exact h3

theorem loose_load_mod {p o : AOper} (h : looseOk q ps p o = true) (h1 : isLoad p.op = true) (h2 : mods q o.op = true) : paired ps p.op o.op = true := by
  simp only [looseOk, Bool.and_eq_true, Bool.or_eq_true, Bool.not_eq_true'] at h
  rcases h.1.2 with h3 | h3
  · rw [h1, h2] at h3; cases h3
  · exact h3

theorem loose_mod_load {p o : AOper} (h : looseOk q ps p o = true) (h1 : mods q p.op = true) (h2 : isLoad o.op = true) : paired ps o.op p.op = true := by
  simp only [looseOk, Bool.and_eq_true, Bool.or_eq_true, Bool.not_eq_true'] at h
  rcases h.2 with h3 | h3
  · rw [h1, h2] at h3; cases h3
  · exact h3

/-- A load and a step of the chain that is loose from it: the step leaves alone what the load reads. -/
theorem Trace.loose (tr : Trace C W q nt bs E T) (ok : Ok q lo k ps bf bs) (hap : apartOk (E bs.length) ps = true) {i j : Nat} {o p : AOper} (hi : bs[i]? = some o) (hj : bs[j]? = some p)
    (hl : isLoad o.op = true) (hc : chain p.op = true) (hlo : (i < j ∧ looseOk q ps o p = true) ∨ (j < i ∧ looseOk q ps p o = true)) {r : Nat} (hr : usesId (E i) o.op r) (hlt : r < (T j).length) : (T (j + 1))[r]? = (T j)[r]? := by
  obtain ⟨v, _, h⟩ := aop1_move (tr j p hj) (fun _ _ => rfl)
  rcases h with ⟨h, _⟩ | ⟨h, _⟩
  · rw [h]
  · cases hm : mods q p.op with
    | false =>
      obtain ⟨G, hG⟩ := aop_grow hm (chain_not_at hc) h
      rw [hG, List.getElem?_append_left hlt]
    | true =>
      have hp : paired ps o.op p.op = true := by
        rcases hlo with ⟨_, hlo⟩ | ⟨_, hlo⟩
        · exact loose_load_mod hlo hl hm
        · exact loose_mod_load hlo hm hl
      obtain ⟨a, n, x, b, n', y, eo, ep, hmem⟩ := paired_spec hp
      rw [ep] at h
      obtain ⟨_, r', j', k', hx, hoth⟩ := store_local h
      rw [eo] at hr
      obtain ⟨j0, k0, hr⟩ := hr
      have e1 : E bs.length x = E i x := tr.slot (fun j' p' hj' hp' => ok.fix i o x hi (by rw [eo]; rfl) j' p' hj' hp') _ (Nat.le_of_lt (lt_of_get hi)) (Nat.le_refl _)
      have e2 : E bs.length b = E j b := tr.slot (fun j' p' hj' hp' => ok.fix j p b hj (by rw [ep]; rfl) j' p' hj' hp') _ (Nat.le_of_lt (lt_of_get hj)) (Nat.le_refl _)
      exact hoth r (apart_mem hap x b hmem r j0 k0 r' j' k' (e1.trans hr) (e2.trans hx))

theorem lt_of_some {S : Store} {r : Nat} {o : Obj} (h : S[r]? = some o) : r < S.length := (List.getElem?_eq_some_iff.1 h).1

theorem St.step (hwk : C.weak = true → ∀ (j : Nat) (p : AOper) (r : Nat), bs[j]? = some p → atOf p.op ≠ some r) (tr : Trace C W q nt bs E T) (ok : Ok q lo k ps bf bs) (h0 : ∀ (i : Nat) (o : AOper) (r : Nat), bs[i]? = some o → atOf o.op = some r → (T 0)[r]? = some .dead) (hap : apartOk (E bs.length) ps = true)
    {L L' : Nat → Bool} {c : Nat} {S : Store} (st : St bs T L c S) {i : Nat} {o : AOper} (hi : bs[i]? = some o) (hLi : L i = false) (hL' : ∀ j, L' j = (L j || j == i))
    (hrd : ∀ j, (bf.getD i 0).testBit j = true → L j = true) (hcl : ∀ j, L j = true → ∀ j', (bf.getD j 0).testBit j' = true → L j' = true)
    {e2 : Env} (he2 : ∀ t, t ∈ o.slots → e2 t = E i t) (hid : ∀ r, usesId e2 o.op r → r < S.length ∧ ∀ (j : Nat) (p : AOper), bs[j]? = some p → atOf p.op = some r → L j = true) :
    ∃ S2 v c', aop1 C W q nt o e2 S = some (updO e2 o.dst v, S2) ∧ E (i + 1) = updO (E i) o.dst v ∧ St bs T L' c' S2 ∧
      (∀ op r, o.op = .at r op → ∃ ob, rsv r e2 op = some (v, ob) ∧ S[r]? = some .dead ∧ S2 = S.set r ob) := by
  have hlti := lt_of_get hi
  have hLeq : ∀ j, j ≠ i → L' j = L j := fun j hj => by
    have h1 : (j == i) = false := by simp [hj]
    rw [hL', h1, Bool.or_false]
  have hLi' : L' i = true := by rw [hL']; simp
  have hids : usesId e2 o.op = usesId (E i) o.op := usesId_congr o.op fun t ht => he2 t (List.mem_append.2 (.inl ht))
  rw [hids] at hid
  obtain ⟨v, hv, hmv⟩ := aop1_move (tr i o hi) he2
  -- a chain step that is ahead in the text has been done, or is loose; and so on
  have before : ∀ (j : Nat) (p : AOper), bs[j]? = some p → j < i → L j = true ∨ looseOk q ps p o = true := fun j p hp hj => (ok.pair i j p o hj hp hi).imp (hrd j) id
  have after : ∀ (j : Nat) (p : AOper), bs[j]? = some p → i < j → L j = false ∨ looseOk q ps o p = true := fun j p hp hj => by
    rcases ok.pair j i o p hj hi hp with h | h
    · cases hLj : L j with
      | false => exact .inl rfl
      | true => rw [hcl j hLj i h] at hLi; cases hLi
    · exact .inr h
  have same : chain o.op = false → isAt o.op = false → St bs T L' c S := by
    intro hc ha
    refine ⟨st.cn, fun j p hp hcp => ?_, st.cc, st.len, st.other, fun j p r hp hr hL => ?_, fun j p r hp hr hL => ?_⟩
    · have : j ≠ i := fun e => by subst e; rw [hi] at hp; cases hp; rw [hc] at hcp; cases hcp
      rw [hLeq j this]; exact st.ch j p hp hcp
    · have : j ≠ i := fun e => by subst e; rw [hi] at hp; cases hp; exact isAt_not ha r hr
      rw [hLeq j this] at hL; exact st.unborn j p r hp hr hL
    · have : j ≠ i := fun e => by subst e; rw [hi] at hp; cases hp; exact isAt_not ha r hr
      rw [hLeq j this] at hL; exact st.born j p r hp hr hL
  cases hc : chain o.op with
  | true =>
    have hna := chain_not_at hc
    have noat : ∀ op r, o.op = .at r op → ∃ ob, rsv r e2 op = some (v, ob) ∧ S[r]? = some .dead ∧ ∀ S2 : Store, S2 = S.set r ob := fun op r e => by rw [e] at hna; cases hna
    have hci : c = i := by
      have h1 : ¬ i < c := fun h => by have := (st.ch i o hi hc).2 h; rw [hLi] at this; cases this
      refine Nat.le_antisymm (Nat.le_of_not_lt h1) (Nat.le_of_not_lt fun h2 => ?_)
      obtain ⟨p, hp⟩ := get_of_lt (bs := bs) (i := c) (by omega)
      have hcp := st.cc p hp
      rcases before c p hp h2 with h | h
      · have := (st.ch c p hp hcp).1 h; omega
      · exact loose_chain h ⟨hcp, hc⟩
    subst hci
    have hch' : ∀ (j : Nat) (p : AOper), bs[j]? = some p → chain p.op = true → (L' j = true ↔ j < c + 1) := fun j p hp hcp => by
      by_cases e : j = c
      · subst e; simp [hLi']
      · rw [hLeq j e, st.ch j p hp hcp]; omega
    have atne : ∀ (j : Nat) (p : AOper) (r : Nat), bs[j]? = some p → atOf p.op = some r → j ≠ c := fun j p r hp hr e => by subst e; rw [hi] at hp; cases hp; exact isAt_not hna r hr
    -- from the facts after this step to the state
    have fin : ∀ S2 : Store, S2.length = (T (c + 1)).length → (∀ (r : Nat), (∀ (j : Nat) (p : AOper), bs[j]? = some p → atOf p.op ≠ some r) → S2[r]? = (T (c + 1))[r]?) →
        (∀ (j : Nat) (p : AOper) (r : Nat), bs[j]? = some p → atOf p.op = some r → L j = false → S2[r]? = some .dead) →
        (∀ (j : Nat) (p : AOper) (r : Nat), bs[j]? = some p → atOf p.op = some r → L j = true → S2[r]? = (T (max (c + 1) (j + 1)))[r]?) → ∃ c', St bs T L' c' S2 := fun S2 h1 h2 h3 h4 =>
      St.adv tr ok (by omega) hch' h1 h2 (fun j p r hp hr hL => h3 j p r hp hr (by rw [hLeq j (atne j p r hp hr)] at hL; exact hL)) fun j p r hp hr hL => h4 j p r hp hr (by rw [hLeq j (atne j p r hp hr)] at hL; exact hL)
    have close : ∀ S2 : Store, (∃ c', St bs T L' c' S2) → aop1 C W q nt o e2 S = some (updO e2 o.dst v, S2) → ∃ S2 v c', aop1 C W q nt o e2 S = some (updO e2 o.dst v, S2) ∧ E (c + 1) = updO (E c) o.dst v ∧ St bs T L' c' S2 ∧
      (∀ op r, o.op = .at r op → ∃ ob, rsv r e2 op = some (v, ob) ∧ S[r]? = some .dead ∧ S2 = S.set r ob) := fun S2 ⟨c', h1⟩ h2 => ⟨S2, v, c', h2, hv, h1, fun op r e => by rw [e] at hna; cases hna⟩
    rcases hmv with ⟨hT, _, hrun⟩ | ⟨hop, hrun⟩
    · -- not wanted
      refine close S (fin S (by rw [hT]; exact st.len) (by rw [hT]; exact st.other) st.unborn fun j p r hp hr hL => ?_) (hrun S)
      rw [st.born j p r hp hr hL]
      rcases Nat.lt_or_ge j c with hj | hj
      · rw [Nat.max_eq_left (by omega), Nat.max_eq_left (by omega), hT]
      · have := atne j p r hp hr
        rw [Nat.max_eq_right (by omega), Nat.max_eq_right (by omega)]
    · by_cases hord : ∀ (j : Nat) (p : AOper) (r : Nat), bs[j]? = some p → atOf p.op = some r → (j < c → L j = true) ∧ (c < j → L j = false)
      · -- just as in the text
        have hS : S = T c := by
          refine List.ext_getElem? fun r => ?_
          by_cases h : ∃ (j : Nat) (p : AOper), bs[j]? = some p ∧ atOf p.op = some r
          · obtain ⟨j, p, hp, hr⟩ := h
            obtain ⟨o1, o2⟩ := hord j p r hp hr
            have hjc := atne j p r hp hr
            rcases Nat.lt_or_gt_of_ne hjc with hlt | hgt
            · rw [st.born j p r hp hr (o1 hlt), Nat.max_eq_left (by omega)]
            · rw [st.unborn j p r hp hr (o2 hgt), tr.dead ok h0 hp hr c (by omega)]
          · exact st.other r fun j p hp hr => h ⟨j, p, hp, hr⟩
        refine close (T (c + 1)) (fin _ rfl (fun _ _ => rfl) (fun j p r hp hr hL => ?_) fun j p r hp hr hL => ?_) (hrun S _ ?_)
        · obtain ⟨o1, o2⟩ := hord j p r hp hr
          have hjc := atne j p r hp hr
          have : c < j := by
            rcases Nat.lt_or_gt_of_ne hjc with hlt | hgt
            · rw [o1 hlt] at hL; cases hL
            · exact hgt
          exact tr.dead ok h0 hp hr (c + 1) (by omega)
        · obtain ⟨o1, o2⟩ := hord j p r hp hr
          have hjc := atne j p r hp hr
          have : j < c := by
            rcases Nat.lt_or_gt_of_ne hjc with hlt | hgt
            · exact hlt
            · rw [o2 hgt] at hL; cases hL
          rw [Nat.max_eq_left (by omega)]
        · rw [hS]; exact hop
      · -- a calm call
        have hqc : q = true ∧ isCall o.op = true := by
          refine Classical.byContradiction fun hnot => hord fun j p r hp hr => ⟨fun hj => ?_, fun hj => ?_⟩
          · rcases before j p hp hj with h | h
            · exact h
            · refine (hnot (loose_at_chain h ?_ hc)).elim
              cases ha : isAt p.op with
              | true => rfl
              | false => exact (isAt_not ha r hr).elim
          · rcases after j p hp hj with h | h
            · exact h
            · refine (hnot (loose_chain_at h hc ?_)).elim
              cases ha : isAt p.op with
              | true => rfl
              | false => exact (isAt_not ha r hr).elim
        obtain ⟨hq, hcall⟩ := hqc
        subst hq
        obtain ⟨f, args, hopc⟩ : ∃ f args, o.op = .call f args := by
          cases hop' : o.op <;> rw [hop'] at hcall <;> first | (cases hcall; done) | exact ⟨_, _, rfl⟩
        rw [hopc] at hop hrun hid
        have hop0 := hop
        simp only [aop] at hop
        split at hop
        · rename_i g first caps hfe
          have hwk' : C.weak = false := by
            cases hcw : C.weak with
            | false => rfl
            | true => exact (hord fun j p r hp hr => (hwk hcw j p r hp hr).elim).elim
          obtain ⟨hlive, G, hG, hmove⟩ := acallM_calm hwk' hop
          have hids' : ∀ a r, a ∈ first ++ args.map (·.ev (E c)) ++ caps → r ∈ rowsOf a → S[r]? = (T c)[r]? := fun a r ha hr => by
            obtain ⟨_, hk⟩ := hid r ⟨g, first, caps, hfe, a, ha, hr⟩
            by_cases h : ∃ (j : Nat) (p : AOper), bs[j]? = some p ∧ atOf p.op = some r
            · obtain ⟨j, p, hp, hr'⟩ := h
              have hjc := atne j p r hp hr'
              rcases Nat.lt_or_gt_of_ne hjc with hlt | hgt
              · rw [st.born j p r hp hr' (hk j p hp hr'), Nat.max_eq_left (by omega)]
              · exact (hlive a r ha hr (tr.dead ok h0 hp hr' c (by omega))).elim
            · exact st.other r fun j p hp hr => h ⟨j, p, hp, hr⟩
          have hcall2 := hmove S st.len hids'
          have hget : ∀ r, (S ++ G)[r]? = if r < S.length then S[r]? else G[r - S.length]? := fun r => by rw [List.getElem?_append]
          have hgetT : ∀ r, (T (c + 1))[r]? = if r < S.length then (T c)[r]? else G[r - S.length]? := fun r => by rw [hG, List.getElem?_append, st.len]
          refine close (S ++ G) (fin _ (by rw [hG]; simp [st.len]) (fun r hr => ?_) (fun j p r hp hr hL => ?_) fun j p r hp hr hL => ?_) (hrun S _ ?_)
          · rw [hget, hgetT, st.other r hr]
          · have := st.unborn j p r hp hr hL
            rw [hget, if_pos (lt_of_some this)]; exact this
          · have hb := st.born j p r hp hr hL
            have hjc := atne j p r hp hr
            rcases Nat.lt_or_gt_of_ne hjc with hlt | hgt
            · rw [Nat.max_eq_left (by omega)] at hb ⊢
              rw [hget, hgetT, hb]
            · rw [Nat.max_eq_right (by omega)] at hb ⊢
              obtain ⟨op, v', ob, _, _, hd, hset, _⟩ := tr.at ok hp hr
              have : (T (j + 1))[r]? = some ob := by rw [hset, List.getElem?_set_self (lt_of_some hd)]
              rw [this] at hb ⊢
              rw [hget, if_pos (lt_of_some hb)]; exact hb
          · simp only [aop, hfe]
            exact hcall2
        · simp at hop
        · cases hop
  | false =>
    cases ha : isAt o.op with
    | true =>
      -- room that was kept
      obtain ⟨r, hr⟩ := isAt_some ha
      obtain ⟨op, v', ob, hop, hrsv, hdead, hset, hE⟩ := tr.at ok hi hr
      have hun := st.unborn i o r hi hr hLi
      have hrs2 : rsv r e2 op = some (v', ob) := by
        rw [rsv_congr op fun t ht => he2 t (List.mem_append.2 (.inl (by rw [hop]; exact ht)))]; exact hrsv
      have hgd := (ok.room i o r hi hr).2.1
      refine ⟨S.set r ob, v', c, ?_, hE, ?_, fun op' r' e => ?_⟩
      · rcases hmv with ⟨_, hg, _⟩ | ⟨h1, hrun⟩
        · exact (hg hgd).elim
        · rw [hop] at h1 hrun
          simp only [aop, hrsv, hdead] at h1
          simp only [Option.some.injEq, Prod.mk.injEq] at h1
          obtain ⟨rfl, _⟩ := h1
          refine hrun S _ ?_
          simp only [aop, hrsv, hun]
      · refine ⟨st.cn, fun j p hp hcp => ?_, st.cc, by rw [List.length_set]; exact st.len, fun r' hr' => ?_, fun j p r' hp hr' hL => ?_, fun j p r' hp hr' hL => ?_⟩
        · have : j ≠ i := fun e => by subst e; rw [hi] at hp; cases hp; rw [hc] at hcp; cases hcp
          rw [hLeq j this]; exact st.ch j p hp hcp
        · rw [List.getElem?_set_ne fun e => by subst e; exact hr' i o hi hr]; exact st.other r' hr'
        · have hji : j ≠ i := fun e => by subst e; rw [hLi'] at hL; cases hL
          rw [hLeq j hji] at hL
          rw [List.getElem?_set_ne fun e => by subst e; exact hji (ok.one j i p o r hp hi hr' hr)]; exact st.unborn j p r' hp hr' hL
        · by_cases hji : j = i
          · subst hji
            rw [hi] at hp; cases hp
            rw [hr] at hr'; cases hr'
            rw [List.getElem?_set_self (lt_of_some hun)]
            have h1 : (T (j + 1))[r]? = some ob := by rw [hset, List.getElem?_set_self (lt_of_some hdead)]
            rw [← h1]
            refine (stay (by omega) (fun j' hj hj' hlt => ?_) (lt_of_some h1)).symm
            have hcn := st.cn
            obtain ⟨p, hp⟩ := get_of_lt (bs := bs) (i := j') (by omega)
            cases hcp : chain p.op with
            | false => exact tr.off ok hp hcp fun h => by have := ok.one j' j p o r hp hi h hr; omega
            | true =>
              have hLj := (st.ch j' p hp hcp).2 (by omega)
              rcases after j' p hp (by omega) with h | h
              · rw [hLj] at h; cases h
              · obtain ⟨hq, hcall⟩ := loose_at_chain h ha hcp
                subst hq
                obtain ⟨v2, _, h⟩ := aop1_move (tr j' p hp) (fun _ _ => rfl)
                rcases h with ⟨h, _⟩ | ⟨h, _⟩
                · rw [h]
                · obtain ⟨G, hG⟩ := aop_grow (by cases hop' : p.op <;> rw [hop'] at hcall <;> first | (cases hcall; done) | rfl) (chain_not_at hcp) h
                  rw [hG, List.getElem?_append_left hlt]
          · rw [hLeq j hji] at hL
            rw [List.getElem?_set_ne fun e => by subst e; exact hji (ok.one j i p o r hp hi hr' hr)]; exact st.born j p r' hp hr' hL
      · rw [hop] at e
        cases e
        exact ⟨ob, hrs2, hun, rfl⟩
    | false =>
      have noat : ∀ op r, o.op = .at r op → ∃ ob, rsv r e2 op = some (v, ob) ∧ S[r]? = some .dead ∧ S = S.set r ob := fun op r e => by rw [e] at ha; cases ha
      have hst := same hc ha
      rcases hmv with ⟨hT, _, hrun⟩ | ⟨hop, hrun⟩
      · exact ⟨S, v, c, hrun S, hv, hst, noat⟩
      · have hgo : aop C W q (E i) S o.op = some (v, S) → ∃ S2 v c', aop1 C W q nt o e2 S = some (updO e2 o.dst v, S2) ∧ E (i + 1) = updO (E i) o.dst v ∧ St bs T L' c' S2 ∧
            (∀ op r, o.op = .at r op → ∃ ob, rsv r e2 op = some (v, ob) ∧ S[r]? = some .dead ∧ S2 = S.set r ob) := fun h =>
          ⟨S, v, c, hrun S S h, hv, hst, noat⟩
        cases hd : dep o.op with
        | false => exact hgo ((aop_pure hd ha hop).2 S)
        | true =>
          have hld : isLoad o.op = true := by simpa [chain, hd] using hc
          obtain ⟨a, n, x, hol⟩ : ∃ a n x, o.op = .load a n x := by
            cases hop' : o.op <;> rw [hop'] at hld <;> first | (cases hld; done) | exact ⟨_, _, _, rfl⟩
          refine hgo ?_
          rw [hol] at hop ⊢
          obtain ⟨hTi, halive, hmove⟩ := load_local hop
          refine hmove S fun r j k hx => ?_
          have hu : usesId (E i) o.op r := by rw [hol]; exact ⟨j, k, hx⟩
          obtain ⟨hrl, hk⟩ := hid r hu
          obtain ⟨ob, hob, hnd⟩ := halive r j k hx
          have hnot : ∀ (j : Nat) (p : AOper), bs[j]? = some p → chain p.op = true → j ≠ i := fun j p hp hcp e => by subst e; rw [hi] at hp; cases hp; rw [hc] at hcp; cases hcp
          -- from where the object is to where the text has it
          have go : ∀ a, c ≤ a → a ≤ bs.length → S[r]? = (T a)[r]? → (∀ (j : Nat) (p : AOper), bs[j]? = some p → atOf p.op = some r → j < a ∧ j < i) → (i < a → a = c) → S[r]? = (T i)[r]? := by
            intro a hca han hSa hat hac
            rw [hSa]
            rcases Nat.le_total a i with hle | hle
            · refine (stay hle (fun j' hj hj' hlt => ?_) ?_).symm
              · obtain ⟨p, hp⟩ := get_of_lt (bs := bs) (i := j') (by omega)
                cases hcp : chain p.op with
                | false => exact tr.off ok hp hcp fun h => by have := (hat j' p hp h).1; omega
                | true =>
                  refine tr.loose ok hap hi hp hld hcp (.inr ⟨hj', ?_⟩) hu hlt
                  rcases before j' p hp hj' with h | h
                  · have := (st.ch j' p hp hcp).1 h; omega
                  · exact h
              · have : ∃ o', S[r]? = some o' := ⟨_, List.getElem?_eq_getElem hrl⟩
                obtain ⟨o', ho'⟩ := this
                rw [ho'] at hSa
                exact lt_of_some hSa.symm
            · refine stay hle (fun j' hj hj' hlt => ?_) (lt_of_some hob)
              obtain ⟨p, hp⟩ := get_of_lt (bs := bs) (i := j') (by omega)
              cases hcp : chain p.op with
              | false => exact tr.off ok hp hcp fun h => by have := (hat j' p hp h).2; omega
              | true =>
                have hne := hnot j' p hp hcp
                have hac' := hac (by omega)
                refine tr.loose ok hap hi hp hld hcp (.inl ⟨by omega, ?_⟩) hu hlt
                rcases after j' p hp (by omega) with h | h
                · rw [(st.ch j' p hp hcp).2 (by omega)] at h; cases h
                · exact h
          by_cases h : ∃ (j : Nat) (p : AOper), bs[j]? = some p ∧ atOf p.op = some r
          · obtain ⟨j', p, hp, hr⟩ := h
            have hji : j' < i := by
              refine Nat.lt_of_not_le fun hle => hnd ?_
              rw [tr.dead ok h0 hp hr i hle] at hob
              exact (Option.some.inj hob).symm
            have hltj := lt_of_get hp
            have hcn := st.cn
            refine go (max c (j' + 1)) (by omega) (by omega) (st.born j' p r hp hr (hk j' p hp hr)) (fun j2 p2 hp2 hr2 => ?_) (by omega)
            have := ok.one j2 j' p2 p r hp2 hp hr2 hr
            omega
          · exact go c (Nat.le_refl _) st.cn (st.other r fun j p hp hr => h ⟨j, p, hp, hr⟩) (fun j p hp hr => (h ⟨j, p, hp, hr⟩).elim) fun _ => rfl

end
end Go.Am
