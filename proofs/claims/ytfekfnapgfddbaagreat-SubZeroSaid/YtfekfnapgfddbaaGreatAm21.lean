/- A region in its text's order, and in every other that is left open. -/
import Derived.Test.YtfekfnapgfddbaaGreatAm20
set_option linter.unusedVariables false
set_option linter.unusedSimpArgs false
namespace Go.Am
open Go

def updO (e : Env) : Option Nat → LV → Env
  | none, _ => e
  | some d, v => upd e d v

theorem updO_at (e : Env) (d : Option Nat) (v : LV) (t : Nat) : updO e d v t = if d = some t then v else e t := by
  cases d with
  | none => simp [updO]
  | some d =>
    simp only [updO, upd, Option.some.injEq]
    by_cases h : t = d
    · simp [h]
    · simp [h, Ne.symm h]

/-- The steps. -/
def Trace (C : Cfg) (W : Call) (q : Bool) (nt : Nat) (bs : List AOper) (E : Nat → Env) (T : Nat → Store) : Prop :=
  ∀ k o, bs[k]? = some o → aop1 C W q nt o (E k) (T k) = some (E (k + 1), T (k + 1))

theorem trace_of {C : Cfg} {W : Call} {q : Bool} {nt : Nat} : ∀ {bs : List AOper} {e : Env} {S : Store} {e' : Env} {S' : Store}, aops C W q nt bs e S = some (e', S') →
    ∃ E T, Trace C W q nt bs E T ∧ E 0 = e ∧ T 0 = S ∧ E bs.length = e' ∧ T bs.length = S'
  | [], e, S, e', S', h => by
    cases h
    exact ⟨fun _ => e, fun _ => S, fun k o ho => by simp at ho, rfl, rfl, rfl, rfl⟩
  | o :: bs, e, S, e', S', h => by
    simp only [aops] at h
    split at h
    · cases h
    · rename_i e1 S1 h1
      obtain ⟨E, T, ht, e0, t0, en, tn⟩ := trace_of h
      refine ⟨fun k => match k with | 0 => e | k + 1 => E k, fun k => match k with | 0 => S | k + 1 => T k, fun k p hp => ?_, rfl, rfl, en, tn⟩
      cases k with
      | zero => simp at hp; subst hp; simp only [e0, t0]; exact h1
      | succ k => exact ht k p (by simpa using hp)

def gdv (o : AOper) (e : Env) : Option Bool :=
  match o.guard with
  | none => some true
  | some (g, want) => match e g with
    | .bool b => some (b == want)
    | .tup [] => some false
    | _ => none

theorem aop1_eq (C : Cfg) (W : Call) (q : Bool) (nt : Nat) (o : AOper) (e : Env) (S : Store) : aop1 C W q nt o e S =
    match gdv o e with
    | none => none
    | some false => (match o.dst with
      | none => some (e, S)
      | some d => if d < nt then some (upd e d (.tup []), S) else none)
    | some true => match aop C W q e S o.op with
      | none => none
      | some (v, S') => match o.dst with
        | none => some (e, S')
        | some d => if d < nt then some (upd e d v, S') else none := by
  unfold aop1 gdv
  cases o.guard with
  | none => rfl
  | some p =>
    obtain ⟨g, want⟩ := p
    simp only
    cases e g <;> first | rfl | (rename_i l; cases l <;> rfl)

/-- One step, done elsewhere with the same in its slots. -/
theorem aop1_move {C : Cfg} {W : Call} {q : Bool} {nt : Nat} {o : AOper} {e e2 e' : Env} {S S' : Store} (h : aop1 C W q nt o e S = some (e', S')) (hs : ∀ t, t ∈ o.slots → e2 t = e t) :
    ∃ v, e' = updO e o.dst v ∧ ((S' = S ∧ o.guard ≠ none ∧ ∀ S2, aop1 C W q nt o e2 S2 = some (updO e2 o.dst v, S2)) ∨
      (aop C W q e S o.op = some (v, S') ∧ ∀ S2 S2', aop C W q e S2 o.op = some (v, S2') → aop1 C W q nt o e2 S2 = some (updO e2 o.dst v, S2'))) := by
  have hop : ∀ S2, aop C W q e2 S2 o.op = aop C W q e S2 o.op := fun S2 => aop_congr o.op fun t ht => hs t (List.mem_append.2 (.inl ht))
  have hg : gdv o e2 = gdv o e := by
    unfold gdv
    cases hgd : o.guard with
    | none => rfl
    | some p =>
      obtain ⟨g, want⟩ := p
      have := hs g (List.mem_append.2 (.inr (by rw [hgd]; simp)))
      simp only [this]
  rw [aop1_eq] at h
  split at h
  · cases h
  · rename_i hgf
    have hgn : o.guard ≠ none := fun e1 => by rw [gdv, e1] at hgf; cases hgf
    cases hd : o.dst with
    | none =>
      rw [hd] at h; cases h
      refine ⟨.tup [], rfl, .inl ⟨rfl, hgn, fun S2 => ?_⟩⟩
      rw [aop1_eq, hg, hgf, hd]; rfl
    | some d =>
      rw [hd] at h
      simp only at h
      split at h
      · rename_i hlt; cases h
        refine ⟨.tup [], rfl, .inl ⟨rfl, hgn, fun S2 => ?_⟩⟩
        rw [aop1_eq, hg, hgf, hd]; simp only [if_pos hlt]; rfl
      · cases h
  · rename_i hgt
    split at h
    · cases h
    · rename_i v S1 hv
      cases hd : o.dst with
      | none =>
        rw [hd] at h; cases h
        refine ⟨v, rfl, .inr ⟨hv, fun S2 S2' h2 => ?_⟩⟩
        rw [aop1_eq, hg, hgt]; simp only [hop, h2, hd]; rfl
      | some d =>
        rw [hd] at h
        simp only at h
        split at h
        · rename_i hlt; cases h
          refine ⟨v, rfl, .inr ⟨hv, fun S2 S2' h2 => ?_⟩⟩
          rw [aop1_eq, hg, hgt]; simp only [hop, h2, hd, if_pos hlt]; rfl
        · cases h

/-! ### the slots -/
def eAt (L : Nat → Bool) (ds : Nat → Option Nat) (E : Nat → Env) : Nat → Env
  | 0 => E 0
  | k + 1 => fun t => if L k = true ∧ ds k = some t then E (k + 1) t else eAt L ds E k t

section
variable {L : Nat → Bool} {ds : Nat → Option Nat} {E : Nat → Env} {n : Nat}

theorem eAt_use (hE : ∀ k, k < n → ∀ t, ds k ≠ some t → E (k + 1) t = E k t) {i t : Nat} (hi : i ≤ n) (h1 : ∀ j, j < i → ds j = some t → L j = true) (h2 : ∀ j, i ≤ j → j < n → L j = true → ds j ≠ some t) :
    eAt L ds E n t = E i t := by
  have a : ∀ k, k ≤ i → eAt L ds E k t = E k t := by
    intro k
    induction k with
    | zero => intro _; rfl
    | succ k ih =>
      intro hk
      simp only [eAt]
      split
      · rfl
      · rename_i hh
        rw [ih (by omega)]
        by_cases hd : ds k = some t
        · exact (hh ⟨h1 k (by omega) hd, hd⟩).elim
        · exact (hE k (by omega) t hd).symm
  have b : ∀ k, i ≤ k → k ≤ n → eAt L ds E k t = E i t := by
    intro k
    induction k with
    | zero => intro h _; obtain rfl : i = 0 := by omega
              exact a 0 (Nat.le_refl _)
    | succ k ih =>
      intro h hk
      by_cases e1 : i = k + 1
      · subst e1; exact a _ (Nat.le_refl _)
      · simp only [eAt]
        rw [if_neg fun hh => h2 k (by omega) (by omega) hh.1 hh.2]
        exact ih (by omega) (by omega)
  exact b n hi (Nat.le_refl _)

theorem eAt_put {L' : Nat → Bool} {i : Nat} (hi : i < n) (hL : ∀ j, L' j = (L j || j == i)) (hLi : L i = false) (h2 : ∀ j, i < j → j < n → L j = true → ∀ d, ds i = some d → ds j ≠ some d) (t : Nat) :
    eAt L' ds E n t = if ds i = some t then E (i + 1) t else eAt L ds E n t := by
  have hlo : ∀ k, k ≤ i → eAt L' ds E k t = eAt L ds E k t := by
    intro k
    induction k with
    | zero => intro _; rfl
    | succ k ih =>
      intro hk
      have : L' k = L k := by rw [hL]; have : (k == i) = false := by simp; omega
                              rw [this, Bool.or_false]
      simp only [eAt, this, ih (by omega)]
  have hhi : ∀ k, i < k → k ≤ n → eAt L' ds E k t = if ds i = some t then E (i + 1) t else eAt L ds E k t := by
    intro k
    induction k with
    | zero => intro h _; omega
    | succ k ih =>
      intro h hk
      by_cases e1 : k = i
      · subst e1
        have hLk : L' k = true := by rw [hL]; simp
        simp only [eAt, hLk, hLi, true_and, Bool.false_eq_true, false_and, if_false, hlo k (Nat.le_refl _)]
      · have hLk : L' k = L k := by rw [hL]; have : (k == i) = false := by simp; omega
                                    rw [this, Bool.or_false]
        simp only [eAt, hLk]
        rw [ih (by omega) (by omega)]
        by_cases c1 : ds i = some t
        · have : ¬ (L k = true ∧ ds k = some t) := fun hh => h2 k (by omega) (by omega) hh.1 t c1 hh.2
          rw [if_neg this, if_pos c1, if_pos c1]
        · rw [if_neg c1, if_neg c1]
  exact hhi n hi (Nat.le_refl _)
end

/-! ### what was looked at beforehand -/
structure Ok (q : Bool) (lo k : Nat) (ps : List (Opd × Opd)) (bf : Array Nat) (bs : List AOper) : Prop where
  lt : ∀ (i : Nat) (o : AOper), bs[i]? = some o → bf.getD i 0 < 2 ^ i
  pair : ∀ (i j : Nat) (p o : AOper), j < i → bs[j]? = some p → bs[i]? = some o → (bf.getD i 0).testBit j = true ∨ looseOk q ps p o = true
  fix : ∀ (i : Nat) (o : AOper) (s : Nat), bs[i]? = some o → addrSlot o.op = some s → ∀ (j : Nat) (p : AOper), i ≤ j → bs[j]? = some p → p.dst ≠ some s
  room : ∀ (i : Nat) (o : AOper) (r : Nat), bs[i]? = some o → atOf o.op = some r → q = true ∧ o.guard = none ∧ lo ≤ r ∧ r < lo + k
  one : ∀ (i j : Nat) (o p : AOper) (r : Nat), bs[i]? = some o → bs[j]? = some p → atOf o.op = some r → atOf p.op = some r → i = j

theorem neSlot_spec {d : Option Nat} {l : List Nat} (h : neSlot d l = true) {t : Nat} (ht : t ∈ l) : d ≠ some t := by
  intro e
  subst e
  simp [neSlot, ht] at h

theorem okFrom_spec {q : Bool} {ps : List (Opd × Opd)} {o : AOper} {m i : Nat} : ∀ {l : List AOper} {j0 : Nat}, okFrom q ps o m i l j0 = true → ∀ j p, l[j]? = some p → j0 + j < i → m.testBit (j0 + j) = true ∨ looseOk q ps p o = true
  | [], j0, h, j, p, hp, hj => by simp at hp
  | a :: l, j0, h, j, p, hp, hj => by
    simp only [okFrom, Bool.and_eq_true] at h
    cases j with
    | zero =>
      simp at hp; subst hp
      have := h.1
      rw [if_pos (by simpa using hj)] at this
      simpa [Bool.or_eq_true] using this
    | succ j =>
      have := okFrom_spec h.2 j p (by simpa using hp) (by omega)
      rw [show j0 + 1 + j = j0 + (j + 1) by omega] at this
      exact this

theorem okRow_spec {q : Bool} {k : Nat} {ps : List (Opd × Opd)} {bf : Array Nat} {all : List AOper} : ∀ {l : List AOper} {i0 : Nat}, okRow q k ps bf all l i0 = true →
    ∀ i o, l[i]? = some o → bf.getD (i0 + i) 0 < 2 ^ (i0 + i) ∧ okFrom q ps o (bf.getD (i0 + i) 0) (i0 + i) all 0 = true ∧
      (∀ s, addrSlot o.op = some s → ∀ j p, i ≤ j → l[j]? = some p → p.dst ≠ some s) ∧
      (∀ r, atOf o.op = some r → q = true ∧ o.guard = none ∧ r < k ∧ ∀ j p, i < j → l[j]? = some p → atOf p.op ≠ some r)
  | [], i0, h, i, o, ho => by simp at ho
  | a :: l, i0, h, i, o, ho => by
    simp only [okRow, Bool.and_eq_true, decide_eq_true_eq] at h
    obtain ⟨⟨⟨⟨h1, h2⟩, h3⟩, h4⟩, h5⟩ := h
    cases i with
    | zero =>
      simp at ho; subst ho
      refine ⟨h1, h2, fun s hs j p _ hp => ?_, fun r hr => ?_⟩
      · rw [hs] at h3
        simp only [fixedFrom, List.all_eq_true] at h3
        exact neSlot_spec (h3 p (List.mem_of_getElem? hp)) (by simp)
      · cases hop : a.op <;> rw [hop] at hr h4 <;> simp only [atOf] at hr <;> try (cases hr; done)
        cases hr
        simp only [Bool.and_eq_true, decide_eq_true_eq, List.all_eq_true, Option.isNone_iff_eq_none] at h4
        refine ⟨h4.1.1.1, h4.1.1.2, h4.1.2, fun j p hj hp => ?_⟩
        cases j with
        | zero => omega
        | succ j => simpa using h4.2 p (List.mem_of_getElem? (by simpa using hp))
    | succ i =>
      obtain ⟨k1, k2, k3, k4⟩ := okRow_spec h5 i o (by simpa using ho)
      rw [show i0 + 1 + i = i0 + (i + 1) by omega] at k1 k2
      refine ⟨k1, k2, fun s hs j p hj hp => ?_, fun r hr => ?_⟩
      · cases j with
        | zero => omega
        | succ j => exact k3 s hs j p (by omega) (by simpa using hp)
      · obtain ⟨a1, a2, a3, a4⟩ := k4 r hr
        refine ⟨a1, a2, a3, fun j p hj hp => ?_⟩
        cases j with
        | zero => omega
        | succ j => exact a4 j p (by omega) (by simpa using hp)

theorem okRow_ok {q : Bool} {k : Nat} {ps : List (Opd × Opd)} {bf : Array Nat} {bs : List AOper} (h : okRow q k ps bf bs bs 0 = true) : Ok q 0 k ps bf bs := by
  have hs := okRow_spec h
  refine ⟨fun i o ho => ?_, fun i j p o hj hp ho => ?_, fun i o s ho hs' => (hs i o ho).2.2.1 s hs', fun i o r ho hr => ?_, fun i j o p r ho hp hr hr' => ?_⟩
  · have := (hs i o ho).1; simpa using this
  · have h2 := (hs i o ho).2.1
    have := okFrom_spec h2 j p hp (by omega)
    simpa using this
  · obtain ⟨a1, a2, a3, _⟩ := (hs i o ho).2.2.2 r hr
    exact ⟨a1, a2, Nat.zero_le _, by omega⟩
  · rcases Nat.lt_trichotomy i j with hlt | rfl | hlt
    · exact ((((hs i o ho).2.2.2 r hr).2.2.2 j p hlt hp) hr').elim
    · rfl
    · exact ((((hs j p hp).2.2.2 r hr').2.2.2 i o hlt ho) hr).elim

theorem shift_op (b : Nat) (op : AOp) : opSlots (op.shift b) = opSlots op ∧ chain (op.shift b) = chain op ∧ isAt (op.shift b) = isAt op ∧ isCall (op.shift b) = isCall op ∧ isLoad (op.shift b) = isLoad op ∧
    (∀ q, mods q (op.shift b) = mods q op) ∧ addrSlot (op.shift b) = addrSlot op ∧ atOf (op.shift b) = (atOf op).map (b + ·) ∧ (∀ ps s, paired ps (op.shift b) s = paired ps op s) ∧ (∀ ps l, paired ps l (op.shift b) = paired ps l op) := by
  cases op <;> refine ⟨rfl, rfl, rfl, rfl, rfl, fun _ => rfl, rfl, rfl, fun _ s => (by first | rfl | (cases s <;> rfl)), fun _ l => (by first | rfl | (cases l <;> first | rfl | (rename_i x; cases x <;> rfl)))⟩

theorem loose_shift (q : Bool) (ps : List (Opd × Opd)) (b : Nat) (p o : AOper) : looseOk q ps (p.shift b) (o.shift b) = looseOk q ps p o := by
  obtain ⟨p1, p2, p3, p4, p5, p6, p7, p8, p9, p10⟩ := shift_op b p.op
  obtain ⟨o1, o2, o3, o4, o5, o6, o7, o8, o9, o10⟩ := shift_op b o.op
  simp only [looseOk, AOper.shift, AOper.slots, p1, p2, p3, p4, p5, p6, p9, p10, o1, o2, o3, o4, o5, o6, o9, o10]

theorem Ok.shift {q : Bool} {k : Nat} {ps : List (Opd × Opd)} {bf : Array Nat} {bs : List AOper} (h : Ok q 0 k ps bf bs) (b : Nat) : Ok q b k ps bf (bs.map (AOper.shift b)) := by
  have inv : ∀ {i : Nat} {o : AOper}, (bs.map (AOper.shift b))[i]? = some o → ∃ p, bs[i]? = some p ∧ o = p.shift b := fun ho => by
    rw [List.getElem?_map, Option.map_eq_some_iff] at ho
    obtain ⟨p, hp, e⟩ := ho
    exact ⟨p, hp, e.symm⟩
  have hat : ∀ {p : AOper} {r : Nat}, atOf (p.shift b).op = some r → ∃ r0, atOf p.op = some r0 ∧ r = b + r0 := fun hr => by
    simp only [AOper.shift] at hr
    rw [(shift_op b _).2.2.2.2.2.2.2.1, Option.map_eq_some_iff] at hr
    obtain ⟨r0, h1, h2⟩ := hr
    exact ⟨r0, h1, h2.symm⟩
  refine ⟨fun i o ho => ?_, fun i j p o hj hp ho => ?_, fun i o s ho hs j p hj hp => ?_, fun i o r ho hr => ?_, fun i j o p r ho hp hr hr' => ?_⟩
  · obtain ⟨o', ho', rfl⟩ := inv ho; exact h.lt i o' ho'
  · obtain ⟨o', ho', rfl⟩ := inv ho
    obtain ⟨p', hp', rfl⟩ := inv hp
    rw [loose_shift]; exact h.pair i j p' o' hj hp' ho'
  · obtain ⟨o', ho', rfl⟩ := inv ho
    obtain ⟨p', hp', rfl⟩ := inv hp
    simp only [AOper.shift] at hs
    rw [(shift_op b _).2.2.2.2.2.2.1] at hs
    exact h.fix i o' s ho' hs j p' hj hp'
  · obtain ⟨o', ho', rfl⟩ := inv ho
    obtain ⟨r0, h1, rfl⟩ := hat hr
    obtain ⟨a1, a2, a3, a4⟩ := h.room i o' r0 ho' h1
    exact ⟨a1, a2, by omega, by omega⟩
  · obtain ⟨o', ho', rfl⟩ := inv ho
    obtain ⟨p', hp', rfl⟩ := inv hp
    obtain ⟨r0, h1, e1⟩ := hat hr
    obtain ⟨r1, h2, e2⟩ := hat hr'
    obtain rfl : r0 = r1 := by omega
    exact h.one i j o' p' r0 ho' hp' h1 h2

end Go.Am
