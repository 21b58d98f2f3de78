/- The kernel's run, with calls that are known. -/
import Derived.Test.YtfekfnapgfddbaaGreatAk1
set_option linter.unusedVariables false
namespace Go.Am
open Go

/-- A table in which some functions answer what W is known to answer. -/
def Known (C : Cfg) (T T' : Nat → Option Fun) : Prop :=
  ∀ f, T' f = T f ∨ ∃ g, T' f = some (.ext g) ∧ ∀ args S r, g args S = some r → W C T f args S = some r

theorem known_le {C : Cfg} {T T' : Nat → Option Fun} (h : Known C T T') : ∀ n, CLe (acall C T' n) (W C T)
  | 0 => fun f args S r hc => by cases hc
  | n + 1 => fun f args S r hc => by
    simp only [acall] at hc
    rcases h f with hf | ⟨g, hf, hg⟩
    · rw [hf] at hc
      cases hT : T f with
      | none =>
        rw [hT] at hc
        dsimp only at hc
        split at hc
        · rename_i hy
          subst hy
          exact W_yield hT (around_mono (known_le h n) hc)
        · cases hc
      | some x =>
        rw [hT] at hc
        cases x with
        | code a => exact W_code hT (abody_mono (known_le h n) hc)
        | ext g => exact W_ext hT hc
    · rw [hf] at hc
      exact hg _ _ _ hc

theorem W_of_known {C : Cfg} {T T' : Nat → Option Fun} (h : Known C T T') (K n : Nat) {f : Nat} {args : List LV} {S : Store} {r : LV × Store} (hc : kcall C T' K n f args S = some r) : W C T f args S = some r :=
  known_le h n _ _ _ _ (kcall_le n f args S r hc)

/-- One call without arguments is known. -/
noncomputable def T1 (T : Nat → Option Fun) (f0 : Nat) (r0 : LV × Store) (f : Nat) : Option Fun :=
  bif Nat.beq f f0 then some (.ext fun args S => match args, S with | [], [] => some r0 | _, _ => none) else T f
theorem T1_known {C : Cfg} {T : Nat → Option Fun} {f0 : Nat} {r0 : LV × Store} (h : W C T f0 [] [] = some r0) : Known C T (T1 T f0 r0) := by
  intro f
  unfold T1
  cases e : Nat.beq f f0 with
  | false => exact .inl rfl
  | true =>
    obtain rfl := Nat.eq_of_beq_eq_true e
    refine .inr ⟨_, rfl, fun args S r hr => ?_⟩
    split at hr
    · cases hr; exact h
    · cases hr

noncomputable def okT : Option (LV × Store) → Bool | some (.bool true, _) => true | _ => false
theorem okT_some : ∀ {r : Option (LV × Store)}, okT r = true → ∃ S, r = some (.bool true, S) := by
  intro r h
  unfold okT at h
  split at h
  · exact ⟨_, rfl⟩
  · cases h
/-- A call without arguments that answers true: in a store that is not looked at. -/
theorem T1_run {C : Cfg} {T : Nat → Option Fun} {f0 : Nat} (h0 : okT (W C T f0 [] []) = true) {K n f : Nat} {args : List LV} (h : ∀ S0, okT (kcall C (T1 T f0 (.bool true, S0)) K n f args []) = true) : ∃ S, W C T f args [] = some (.bool true, S) := by
  obtain ⟨S0, h1⟩ := okT_some h0
  obtain ⟨S, h2⟩ := okT_some (h S0)
  exact ⟨S, W_of_known (T1_known h1) K n h2⟩
end Go.Am
