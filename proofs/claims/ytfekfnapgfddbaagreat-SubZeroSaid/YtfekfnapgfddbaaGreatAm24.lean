/- Which operations are said to be ahead of another. -/
import Derived.Below
import Derived.Orders
set_option linter.unusedVariables false
set_option linter.unusedSimpArgs false
namespace Go.Am
open Go Go.Region

def oneB (look : Nat → Nat) (o : Oper) : Nat := o.after.toList.foldl (fun s e => if Region.binds .any e then s ||| 2 ^ e.on ||| look e.on else s) 0

theorem foldB_bit (look : Nat → Nat) (j : Nat) : ∀ (l : List Edge) (s : Nat), (l.foldl (fun s e => if Region.binds .any e then s ||| 2 ^ e.on ||| look e.on else s) s).testBit j = true ↔
    s.testBit j = true ∨ ∃ e, e ∈ l ∧ Region.binds .any e = true ∧ (j = e.on ∨ (look e.on).testBit j = true)
  | [], s => by simp
  | e :: l, s => by
    rw [List.foldl_cons, foldB_bit look j l]
    by_cases hb : Region.binds .any e = true
    · rw [if_pos hb]
      simp only [Nat.testBit_or, Nat.testBit_two_pow, Bool.or_eq_true, decide_eq_true_eq, List.mem_cons]
      constructor
      · rintro (((h | h) | h) | ⟨e', h1, h2, h3⟩)
        · exact .inl h
        · exact .inr ⟨e, .inl rfl, hb, .inl h.symm⟩
        · exact .inr ⟨e, .inl rfl, hb, .inr h⟩
        · exact .inr ⟨e', .inr h1, h2, h3⟩
      · rintro (h | ⟨e', rfl | h1, h2, h3⟩)
        · exact .inl (.inl (.inl h))
        · rcases h3 with h3 | h3
          · exact .inl (.inl (.inr h3.symm))
          · exact .inl (.inr h3)
        · exact .inr ⟨e', h1, h2, h3⟩
    · rw [if_neg hb]
      simp only [List.mem_cons]
      constructor
      · rintro (h | ⟨e', h1, h2, h3⟩)
        · exact .inl h
        · exact .inr ⟨e', .inr h1, h2, h3⟩
      · rintro (h | ⟨e', rfl | h1, h2, h3⟩)
        · exact .inl h
        · exact (hb h2).elim
        · exact .inr ⟨e', h1, h2, h3⟩

theorem oneB_bit (look : Nat → Nat) (o : Oper) (j : Nat) : (oneB look o).testBit j = true ↔ ∃ e, e ∈ o.after ∧ Region.binds .any e = true ∧ (j = e.on ∨ (look e.on).testBit j = true) := by
  rw [oneB, foldB_bit]
  simp

def beforeB (l : List Oper) (A : Array Nat) : Array Nat := l.foldl (fun acc o => acc.push (oneB (fun i => acc.getD i 0) o)) A

theorem beforeB_eq (ops : Array Oper) : Region.before ops = beforeB ops.toList #[] := by
  unfold Region.before beforeB oneB
  rw [← Array.foldl_toList]
  congr 1
  funext acc o
  rw [← Array.foldl_toList]

theorem beforeB_spec : ∀ (l : List Oper) (A : Array Nat), (∀ i, i < A.size → (beforeB l A).getD i 0 = A.getD i 0) ∧
    ∀ t o, l[t]? = some o → (beforeB l A).getD (A.size + t) 0 = oneB (fun i => if i < A.size + t then (beforeB l A).getD i 0 else 0) o
  | [], A => ⟨fun i _ => rfl, fun t o h => by simp at h⟩
  | p :: l, A => by
    obtain ⟨h1, h2⟩ := beforeB_spec l (A.push (oneB (fun i => A.getD i 0) p))
    have hd : beforeB (p :: l) A = beforeB l (A.push (oneB (fun i => A.getD i 0) p)) := rfl
    rw [hd]
    have hA : ∀ i, i < A.size → (A.push (oneB (fun i => A.getD i 0) p)).getD i 0 = A.getD i 0 := fun i hi => by
      simp [Array.getD, hi, Nat.lt_succ_of_lt hi, Array.getElem_push_lt]
    have hlast : (A.push (oneB (fun i => A.getD i 0) p)).getD A.size 0 = oneB (fun i => A.getD i 0) p := by simp [Array.getD]
    refine ⟨fun i hi => ?_, fun t o ho => ?_⟩
    · rw [h1 i (by simp; omega), hA i hi]
    · cases t with
      | zero =>
        simp at ho; subst ho
        rw [Nat.add_zero, h1 A.size (by simp), hlast]
        congr 1
        funext i
        by_cases hi : i < A.size
        · rw [if_pos hi, h1 i (by simp; omega), hA i hi]
        · rw [if_neg hi]; simp [Array.getD, hi]
      | succ t =>
        have := h2 t o (by simpa using ho)
        simp only [Array.size_push] at this
        rw [show A.size + 1 + t = A.size + (t + 1) by omega] at this
        exact this

theorem before_bit {ops : Array Oper} {i : Nat} {o : Oper} (ho : ops[i]? = some o) (j : Nat) : ((Region.before ops).getD i 0).testBit j = true ↔
    ∃ e, e ∈ o.after ∧ Region.binds .any e = true ∧ (j = e.on ∨ (e.on < i ∧ ((Region.before ops).getD e.on 0).testBit j = true)) := by
  rw [beforeB_eq]
  have := (beforeB_spec ops.toList #[]).2 i o (by simpa using ho)
  simp only [Array.size_empty, Nat.zero_add] at this
  rw [this, oneB_bit]
  constructor
  · rintro ⟨e, h1, h2, h3⟩
    refine ⟨e, h1, h2, h3.imp id fun h => ?_⟩
    by_cases hlt : e.on < i
    · rw [if_pos hlt] at h; exact ⟨hlt, h⟩
    · rw [if_neg hlt] at h; simp at h
  · rintro ⟨e, h1, h2, h3⟩
    refine ⟨e, h1, h2, h3.imp id fun h => ?_⟩
    rw [if_pos h.1]; exact h.2

end Go.Am
