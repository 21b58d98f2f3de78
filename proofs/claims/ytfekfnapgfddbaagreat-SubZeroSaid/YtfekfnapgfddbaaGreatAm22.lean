/- Every order that is left open comes to the same. -/
import Derived.Test.YtfekfnapgfddbaaGreatAm21
set_option linter.unusedVariables false
set_option linter.unusedSimpArgs false
namespace Go.Am
open Go

theorem at_of {op : AOp} {r : Nat} (h : atOf op = some r) : ∃ op', op = .at r op' := by
  cases op <;> simp only [atOf] at h <;> try (cases h; done)
  cases h; exact ⟨_, rfl⟩

theorem isAt_not {op : AOp} (h : isAt op = false) (r : Nat) : atOf op ≠ some r := by
  cases op <;> simp only [isAt] at h <;> first | (intro e; cases e; done) | (cases h; done)

theorem isAt_some {op : AOp} (h : isAt op = true) : ∃ r, atOf op = some r := by
  cases op <;> simp only [isAt] at h <;> first | (cases h; done) | exact ⟨_, rfl⟩

theorem chain_not_at {op : AOp} (h : chain op = true) : isAt op = false := by
  cases op <;> first | rfl | (simp [chain, dep] at h; done)

theorem chain_not_load {op : AOp} (h : chain op = true) : isLoad op = false := by
  cases op <;> first | rfl | (simp [chain, dep, isLoad] at h; done)

theorem stay {T : Nat → Store} {r a b : Nat} (hab : a ≤ b) (h : ∀ j, a ≤ j → j < b → r < (T j).length → (T (j + 1))[r]? = (T j)[r]?) (hr : r < (T a).length) : (T b)[r]? = (T a)[r]? := by
  induction b with
  | zero => obtain rfl : a = 0 := by omega
            rfl
  | succ b ih =>
    by_cases e : a = b + 1
    · subst e; rfl
    · have h1 := ih (by omega) fun j hj hj' => h j hj (by omega)
      have h2 : r < (T b).length := by
        refine Nat.lt_of_not_le fun hle => ?_
        rw [List.getElem?_eq_none hle, List.getElem?_eq_getElem hr] at h1
        cases h1
      rw [h b (by omega) (by omega) h2, h1]

theorem stay' {T : Nat → Store} {r a b : Nat} (hab : a ≤ b) (h : ∀ j, a ≤ j → j < b → (T (j + 1))[r]? = (T j)[r]?) : (T b)[r]? = (T a)[r]? := by
  induction b with
  | zero => obtain rfl : a = 0 := by omega
            rfl
  | succ b ih =>
    by_cases e : a = b + 1
    · subst e; rfl
    · rw [h b (by omega) (by omega)]
      exact ih (by omega) fun j hj hj' => h j hj (by omega)

section
variable {C : Cfg} {W : Call} {q : Bool} {nt lo k : Nat} {ps : List (Opd × Opd)} {bf : Array Nat} {bs : List AOper} {E : Nat → Env} {T : Nat → Store}

theorem Trace.calm (tr : Trace C W q nt bs E T) {i : Nat} {o : AOper} (hi : bs[i]? = some o) (hc : chain o.op = false) (ha : isAt o.op = false) : T (i + 1) = T i := by
  obtain ⟨v, _, h⟩ := aop1_move (tr i o hi) (fun _ _ => rfl)
  rcases h with ⟨h, _⟩ | ⟨h, _⟩
  · exact h
  · simp only [chain, Bool.and_eq_false_iff, Bool.not_eq_false'] at hc
    rcases hc with hc | hc
    · exact (aop_pure hc ha h).1
    · cases hop : o.op <;> rw [hop] at hc h <;> simp only [isLoad] at hc <;> try (cases hc; done)
      exact (load_local h).1

theorem Trace.at (tr : Trace C W q nt bs E T) (ok : Ok q lo k ps bf bs) {i : Nat} {o : AOper} {r : Nat} (hi : bs[i]? = some o) (hr : atOf o.op = some r) :
    ∃ op v ob, o.op = .at r op ∧ rsv r (E i) op = some (v, ob) ∧ (T i)[r]? = some .dead ∧ T (i + 1) = (T i).set r ob ∧ E (i + 1) = updO (E i) o.dst v := by
  obtain ⟨op, hop⟩ := at_of hr
  obtain ⟨v, hv, h⟩ := aop1_move (tr i o hi) (fun _ _ => rfl)
  obtain ⟨_, hg, _⟩ := ok.room i o r hi hr
  rcases h with ⟨_, h, _⟩ | ⟨h, _⟩
  · exact (h hg).elim
  · rw [hop] at h
    simp only [aop] at h
    split at h
    · rename_i v' ob h1 h2
      simp only [Option.some.injEq, Prod.mk.injEq] at h
      obtain ⟨rfl, hT⟩ := h
      exact ⟨op, _, ob, hop, h1, h2, hT.symm, hv⟩
    · cases h

theorem get_of_lt {i : Nat} (h : i < bs.length) : ∃ o, bs[i]? = some o := ⟨_, List.getElem?_eq_getElem h⟩
theorem lt_of_get {i : Nat} {o : AOper} (h : bs[i]? = some o) : i < bs.length := (List.getElem?_eq_some_iff.1 h).1

/-- A place that no step outside the chain makes. -/
theorem Trace.off (tr : Trace C W q nt bs E T) (ok : Ok q lo k ps bf bs) {i : Nat} {o : AOper} (hi : bs[i]? = some o) (hc : chain o.op = false) {r : Nat} (hr : atOf o.op ≠ some r) : (T (i + 1))[r]? = (T i)[r]? := by
  cases ha : isAt o.op with
  | false => rw [tr.calm hi hc ha]
  | true =>
    obtain ⟨r', hr'⟩ := isAt_some ha
    obtain ⟨op, v, ob, _, _, _, h, _⟩ := tr.at ok hi hr'
    rw [h, List.getElem?_set_ne]
    intro e; subst e; exact hr hr'

theorem Trace.len (tr : Trace C W q nt bs E T) (ok : Ok q lo k ps bf bs) {i : Nat} {o : AOper} (hi : bs[i]? = some o) (hc : chain o.op = false) : (T (i + 1)).length = (T i).length := by
  cases ha : isAt o.op with
  | false => rw [tr.calm hi hc ha]
  | true =>
    obtain ⟨r', hr'⟩ := isAt_some ha
    obtain ⟨op, v, ob, _, _, _, h, _⟩ := tr.at ok hi hr'
    rw [h, List.length_set]

theorem Trace.dead (tr : Trace C W q nt bs E T) (ok : Ok q lo k ps bf bs) (h0 : ∀ (i : Nat) (o : AOper) (r : Nat), bs[i]? = some o → atOf o.op = some r → (T 0)[r]? = some .dead) {i : Nat} {o : AOper} {r : Nat} (hi : bs[i]? = some o) (hr : atOf o.op = some r) :
    ∀ j, j ≤ i → (T j)[r]? = some .dead := by
  intro j
  induction j with
  | zero => intro _; exact h0 i o r hi hr
  | succ j ih =>
    intro hj
    have hd := ih (by omega)
    obtain ⟨p, hp⟩ := get_of_lt (bs := bs) (i := j) (by have := lt_of_get hi; omega)
    obtain ⟨hq, _⟩ := ok.room i o r hi hr
    subst hq
    have hne : atOf p.op ≠ some r := fun h => by have := ok.one j i p o r hp hi h hr; omega
    cases hc : chain p.op with
    | false => rw [tr.off ok hp hc hne]; exact hd
    | true =>
      obtain ⟨v, _, h⟩ := aop1_move (tr j p hp) (fun _ _ => rfl)
      rcases h with ⟨h, _⟩ | ⟨h, _⟩
      · rw [h]; exact hd
      · exact aop_dead (chain_not_at hc) h hd

/-- Where the store is. -/
structure St (bs : List AOper) (T : Nat → Store) (L : Nat → Bool) (c : Nat) (S : Store) : Prop where
  cn : c ≤ bs.length
  ch : ∀ (i : Nat) (o : AOper), bs[i]? = some o → chain o.op = true → (L i = true ↔ i < c)
  cc : ∀ (o : AOper), bs[c]? = some o → chain o.op = true
  len : S.length = (T c).length
  other : ∀ (r : Nat), (∀ (i : Nat) (o : AOper), bs[i]? = some o → atOf o.op ≠ some r) → S[r]? = (T c)[r]?
  unborn : ∀ (i : Nat) (o : AOper) (r : Nat), bs[i]? = some o → atOf o.op = some r → L i = false → S[r]? = some .dead
  born : ∀ (i : Nat) (o : AOper) (r : Nat), bs[i]? = some o → atOf o.op = some r → L i = true → S[r]? = (T (max c (i + 1)))[r]?

theorem next_chain (bs : List AOper) : ∀ (d i : Nat), i + d = bs.length → ∃ c, i ≤ c ∧ c ≤ bs.length ∧ (∀ (j : Nat) (o : AOper), i ≤ j → j < c → bs[j]? = some o → chain o.op = false) ∧ ∀ o, bs[c]? = some o → chain o.op = true
  | 0, i, h => ⟨i, Nat.le_refl _, by omega, fun j o h1 h2 => by omega, fun o ho => by have := lt_of_get ho; omega⟩
  | d + 1, i, h => by
    obtain ⟨o, ho⟩ := get_of_lt (bs := bs) (i := i) (by omega)
    cases hc : chain o.op with
    | true => exact ⟨i, Nat.le_refl _, by omega, fun j o h1 h2 => by omega, fun p hp => by rw [ho] at hp; cases hp; exact hc⟩
    | false =>
      obtain ⟨c, h1, h2, h3, h4⟩ := next_chain bs d (i + 1) (by omega)
      refine ⟨c, by omega, h2, fun j p hj hj' hp => ?_, h4⟩
      by_cases e : j = i
      · subst e; rw [ho] at hp; cases hp; exact hc
      · exact h3 j p (by omega) hj' hp

theorem St.adv (tr : Trace C W q nt bs E T) (ok : Ok q lo k ps bf bs) {i : Nat} (hi : i ≤ bs.length) {L : Nat → Bool} {S : Store}
    (hch : ∀ (j : Nat) (o : AOper), bs[j]? = some o → chain o.op = true → (L j = true ↔ j < i)) (len : S.length = (T i).length)
    (other : ∀ (r : Nat), (∀ (j : Nat) (o : AOper), bs[j]? = some o → atOf o.op ≠ some r) → S[r]? = (T i)[r]?)
    (unborn : ∀ (j : Nat) (o : AOper) (r : Nat), bs[j]? = some o → atOf o.op = some r → L j = false → S[r]? = some .dead)
    (born : ∀ (j : Nat) (o : AOper) (r : Nat), bs[j]? = some o → atOf o.op = some r → L j = true → S[r]? = (T (max i (j + 1)))[r]?) : ∃ c, St bs T L c S := by
  obtain ⟨c, h1, h2, h3, h4⟩ := next_chain bs (bs.length - i) i (by omega)
  refine ⟨c, h2, fun j o ho hc => ?_, h4, ?_, fun r hr => ?_, unborn, fun j o r ho hr hL => ?_⟩
  · rw [hch j o ho hc]
    constructor
    · intro h; omega
    · intro h
      refine Nat.lt_of_not_le fun hle => ?_
      have := h3 j o hle h ho
      rw [hc] at this; cases this
  · rw [len]
    have : ∀ d, i + d ≤ c → (T (i + d)).length = (T i).length := by
      intro d
      induction d with
      | zero => intro _; rfl
      | succ d ih =>
        intro hd
        obtain ⟨o, ho⟩ := get_of_lt (bs := bs) (i := i + d) (by omega)
        rw [← ih (by omega), ← Nat.add_assoc]
        exact tr.len ok ho (h3 _ o (by omega) (by omega) ho)
    have := this (c - i) (by omega)
    rw [show i + (c - i) = c by omega] at this
    exact this.symm
  · rw [other r hr]
    refine (stay' h1 fun j hj hj' => ?_).symm
    obtain ⟨o, ho⟩ := get_of_lt (bs := bs) (i := j) (by omega)
    exact tr.off ok ho (h3 j o hj hj' ho) (hr j o ho)
  · rw [born j o r ho hr hL]
    refine (stay' (by omega) fun j' hj hj' => ?_).symm
    have hlt := lt_of_get ho
    obtain ⟨p, hp⟩ := get_of_lt (bs := bs) (i := j') (by omega)
    refine tr.off ok hp (h3 j' p (by omega) (by omega) hp) fun h => ?_
    have := ok.one j' j p o r hp ho h hr
    omega

/-- At the end. -/
theorem St.all {L : Nat → Bool} {c : Nat} {S : Store} (st : St bs T L c S) (hL : ∀ i, i < bs.length → L i = true) : S = T bs.length := by
  have hc : c = bs.length := by
    refine Nat.le_antisymm st.cn (Nat.le_of_not_lt fun hlt => ?_)
    obtain ⟨o, ho⟩ := get_of_lt hlt
    have := (st.ch c o ho (st.cc o ho)).1 (hL c hlt)
    omega
  subst hc
  refine List.ext_getElem? fun r => ?_
  by_cases h : ∃ (i : Nat) (o : AOper), bs[i]? = some o ∧ atOf o.op = some r
  · obtain ⟨i, o, ho, hr⟩ := h
    have hlt := lt_of_get ho
    rw [st.born i o r ho hr (hL i hlt), Nat.max_eq_left (by omega)]
  · exact st.other r fun i o ho hr => h ⟨i, o, ho, hr⟩

/-- What an operation reads by its number. -/
def usesId (e : Env) : AOp → Nat → Prop
  | .load _ _ x => fun r => ∃ j k, x.ev e = .ref r j k
  | .call f args => fun r => ∃ g first caps, f.ev e = .fn g first caps ∧ ∃ a, a ∈ first ++ args.map (·.ev e) ++ caps ∧ r ∈ rowsOf a
  | _ => fun _ => False

theorem usesId_congr {e e' : Env} (op : AOp) (h : ∀ t, t ∈ opSlots op → e t = e' t) : usesId e op = usesId e' op := by
  cases op <;> simp only [opSlots, List.mem_append, or_imp, forall_and] at h <;> simp only [usesId]
  case load a n x => rw [ev_congr h]
  case call f args => rw [ev_congr h.1, evL_congr h.2]

theorem apart_mem {e : Env} : ∀ {ps : List (Opd × Opd)}, apartOk e ps = true → ∀ a b, (Opd.t a, Opd.t b) ∈ ps → ∀ r j k r' j' k', e a = .ref r j k → e b = .ref r' j' k' → r ≠ r'
  | [], h, a, b, hm, _, _, _, _, _, _, _, _ => by simp at hm
  | (x, y) :: ps, h, a, b, hm, r, j, k, r', j', k', ha, hb => by
    simp only [apartOk, Bool.and_eq_true] at h
    rcases List.mem_cons.1 hm with hm | hm
    · injection hm with h1 h2
      subst h1; subst h2
      have := h.1
      simp only [Opd.ev, ha, hb, bne_iff_ne] at this
      exact this
    · exact apart_mem h.2 a b hm r j k r' j' k' ha hb

theorem paired_spec {l s : AOp} (h : paired ps l s = true) : ∃ a n x b n' y, l = .load a n (.t x) ∧ s = .store n' (.t b) y ∧ (Opd.t x, Opd.t b) ∈ ps := by
  unfold paired at h
  split at h
  · rename_i a n x n' b y
    simp only [List.any_eq_true] at h
    obtain ⟨p, hp, hh⟩ := h
    split at hh
    · simp only [Bool.and_eq_true, beq_iff_eq] at hh
      obtain ⟨rfl, rfl⟩ := hh
      exact ⟨a, n, _, _, n', y, rfl, rfl, hp⟩
    · cases hh
  · cases h

theorem Trace.slot (tr : Trace C W q nt bs E T) {s i : Nat} (h : ∀ (j : Nat) (p : AOper), i ≤ j → bs[j]? = some p → p.dst ≠ some s) : ∀ n, i ≤ n → n ≤ bs.length → E n s = E i s := by
  intro n
  induction n with
  | zero => intro h1 _; obtain rfl : i = 0 := by omega
            rfl
  | succ n ih =>
    intro h1 h2
    by_cases e : i = n + 1
    · subst e; rfl
    · obtain ⟨p, hp⟩ := get_of_lt (bs := bs) (i := n) (by omega)
      obtain ⟨v, hv, _⟩ := aop1_move (tr n p hp) (fun _ _ => rfl)
      rw [hv, updO_at, if_neg (h n p (by omega) hp)]
      exact ih (by omega) (by omega)

end
end Go.Am
