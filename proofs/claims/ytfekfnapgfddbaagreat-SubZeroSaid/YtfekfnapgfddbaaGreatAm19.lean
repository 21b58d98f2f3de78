/- How W is reckoned: a function's code, with W at its calls; a loop, round by round. -/
import Derived.Test.YtfekfnapgfddbaaGreatAm1
set_option linter.unusedVariables false
set_option linter.unusedSimpArgs false
namespace Go.Am
open Go

/-! ### loops -/
theorem aloop_mono (body : Env → Store → R3) : ∀ (k : Nat) {e : Env} {S : Store} {r : Ex × Env × Store}, aloop body k e S = some r → ∀ j, aloop body (k + j) e S = some r
  | 0, e, S, r, h, j => by cases h
  | k + 1, e, S, r, h, j => by
    rw [Nat.add_right_comm]
    simp only [aloop] at h ⊢
    cases hb : body e S with
    | none => rw [hb] at h; cases h
    | some x =>
      obtain ⟨ex, e', S'⟩ := x
      rw [hb] at h
      cases ex with
      | nrm => exact aloop_mono body k h j
      | exit id => exact h
      | ret => exact h

theorem loopW_of {body : Env → Store → R3} {k : Nat} {e : Env} {S : Store} {r : Ex × Env × Store} (h : aloop body k e S = some r) : loopW body e S = some r := by
  have hex : ∃ k, aloop body k e S ≠ none := ⟨k, by rw [h]; simp⟩
  unfold loopW
  rw [dif_pos hex]
  cases hc : aloop body (Classical.choose hex) e S with
  | none => exact (Classical.choose_spec hex hc).elim
  | some r' =>
    have h1 := aloop_mono body _ hc k
    have h2 := aloop_mono body _ h (Classical.choose hex)
    rw [Nat.add_comm] at h2
    rw [h1] at h2
    exact h2

theorem loopW_some {body : Env → Store → R3} {e : Env} {S : Store} {r : Ex × Env × Store} (h : loopW body e S = some r) : ∃ k, aloop body k e S = some r := by
  unfold loopW at h
  split at h
  · exact ⟨_, h⟩
  · cases h

theorem loopW_nrm {body : Env → Store → R3} {e e' : Env} {S S' : Store} {r : Ex × Env × Store} (hb : body e S = some (.nrm, e', S')) (h : loopW body e' S' = some r) : loopW body e S = some r := by
  obtain ⟨k, hk⟩ := loopW_some h
  exact loopW_of (k := k + 1) (by simp only [aloop, hb]; exact hk)

theorem loopW_out {body : Env → Store → R3} {e e' : Env} {S S' : Store} {x : Ex} (hb : body e S = some (x, e', S')) (hx : x ≠ .nrm) : loopW body e S = some (x, e', S') :=
  loopW_of (k := 1) (by
    simp only [aloop, hb]
    cases x with
    | nrm => exact (hx rfl).elim
    | exit id => rfl
    | ret => rfl)

/-- A loop by what holds at each round's head, and a measure. -/
theorem loopW_inv {body : Env → Store → R3} (I : Nat → Env → Store → Prop) (R : Ex × Env × Store → Prop)
    (hr : ∀ n e S, I n e S → ∃ x e' S', body e S = some (x, e', S') ∧ ((x = .nrm ∧ ∃ k, k < n ∧ I k e' S') ∨ (x ≠ .nrm ∧ R (x, e', S')))) :
    ∀ n e S, I n e S → ∃ r, loopW body e S = some r ∧ R r := by
  intro n
  induction n using Nat.strongRecOn with
  | _ n ih =>
    intro e S hi
    obtain ⟨x, e', S', hb, h⟩ := hr n e S hi
    rcases h with ⟨rfl, k, hk, hi'⟩ | ⟨hx, hR⟩
    · obtain ⟨r, h1, h2⟩ := ih k hk e' S' hi'
      exact ⟨r, loopW_nrm hb h1, h2⟩
    · exact ⟨_, loopW_out hb hx, hR⟩

/-! ### calls -/
/-- What one says, the other says too. -/
def CLe (W1 W2 : Call) : Prop := ∀ f args S r, W1 f args S = some r → W2 f args S = some r

theorem acallR_mono {C : Cfg} {W1 W2 : Call} (h : CLe W1 W2) {f : Nat} {args : List LV} {S : Store} {r : LV × Store} (hc : acallR C W1 f args S = some r) : acallR C W2 f args S = some r := by
  unfold acallR at hc ⊢
  cases h1 : W1 f args S with
  | none => rw [h1] at hc; cases hc
  | some x => rw [h1] at hc; rw [h _ _ _ _ h1]; exact hc

theorem acallM_mono {C : Cfg} {W1 W2 : Call} (h : CLe W1 W2) {q : Bool} {f : Nat} {args : List LV} {S : Store} {r : LV × Store} (hc : acallM C W1 q f args S = some r) : acallM C W2 q f args S = some r := by
  unfold acallM at hc ⊢
  split at hc
  · cases hc
  rename_i hy
  rw [if_neg hy]
  split
  · rename_i hb
    rw [if_pos hb] at hc
    split at hc
    · rename_i hq
      rw [if_pos hq]
      split at hc
      · rename_i hwk
        rw [if_pos hwk]
        cases h1 : acallR C W1 f args S with
        | none => rw [h1] at hc; cases hc
        | some x => rw [h1] at hc; rw [acallR_mono h h1]; exact hc
      · cases hc
    · rename_i hq; rw [if_neg hq]; exact acallR_mono h hc
  · rename_i hb
    rw [if_neg hb] at hc
    cases hm : mapO (close S) args with
    | none => rw [hm] at hc; cases hc
    | some ds =>
      rw [hm] at hc
      simp only at hc ⊢
      cases h1 : W1 f ds [] with
      | none => rw [h1] at hc; cases hc
      | some x => rw [h1] at hc; rw [h _ _ _ _ h1]; exact hc

theorem aop_mono {C : Cfg} {W1 W2 : Call} (h : CLe W1 W2) {q : Bool} {e : Env} {S : Store} {op : AOp} {r : LV × Store} (hc : aop C W1 q e S op = some r) : aop C W2 q e S op = some r := by
  cases op with
  | call f xs =>
    simp only [aop] at hc ⊢
    split at hc
    · exact acallM_mono h hc
    · split at hc
      · cases hc
      · rename_i hq; rw [if_neg hq]; exact h _ _ _ _ hc
    · cases hc
  | _ => exact hc

theorem aop1_mono {C : Cfg} {W1 W2 : Call} (h : CLe W1 W2) {q : Bool} {nt : Nat} {o : AOper} {e : Env} {S : Store} {r : Env × Store} (hc : aop1 C W1 q nt o e S = some r) : aop1 C W2 q nt o e S = some r := by
  unfold aop1 at hc ⊢
  split at hc
  · cases hc
  · exact hc
  · cases ha : aop C W1 q e S o.op with
    | none => rw [ha] at hc; cases hc
    | some x => rw [ha] at hc; rw [aop_mono h ha]; exact hc

theorem aops_mono {C : Cfg} {W1 W2 : Call} (h : CLe W1 W2) {q : Bool} {nt : Nat} : ∀ {os : List AOper} {e : Env} {S : Store} {r : Env × Store}, aops C W1 q nt os e S = some r → aops C W2 q nt os e S = some r
  | [], _, _, _, hc => hc
  | o :: os, e, S, r, hc => by
    simp only [aops] at hc ⊢
    cases ha : aop1 C W1 q nt o e S with
    | none => rw [ha] at hc; cases hc
    | some x => rw [ha] at hc; rw [aop1_mono h ha]; exact aops_mono h hc

theorem aloop_body_mono {b1 b2 : Env → Store → R3} (h : ∀ e S r, b1 e S = some r → b2 e S = some r) : ∀ {k : Nat} {e : Env} {S : Store} {r : Ex × Env × Store}, aloop b1 k e S = some r → aloop b2 k e S = some r
  | 0, _, _, _, hc => by cases hc
  | k + 1, e, S, r, hc => by
    simp only [aloop] at hc ⊢
    cases hb : b1 e S with
    | none => rw [hb] at hc; cases hc
    | some x =>
      obtain ⟨ex, e', S'⟩ := x
      rw [hb] at hc
      rw [h _ _ _ hb]
      cases ex with
      | nrm => exact aloop_body_mono h hc
      | exit id => exact hc
      | ret => exact hc

theorem acode_mono {C : Cfg} {W1 W2 : Call} (h : CLe W1 W2) {nt : Nat} : ∀ (c : AC) {e : Env} {S : Store} {r : Ex × Env × Store}, acode C W1 nt c e S = some r → acode C W2 nt c e S = some r := by
  intro c
  induction c with
  | skip => intro e S r hc; exact hc
  | reg ops ps q =>
    intro e S r hc
    simp only [acode] at hc ⊢
    cases ha : aops { C with weak := true } W1 q nt ops e S with
    | none => rw [ha] at hc; cases hc
    | some x => rw [ha] at hc; rw [aops_mono h ha]; exact hc
  | rgv k ops ps q =>
    intro e S r hc
    simp only [acode] at hc ⊢
    cases ha : aops { C with weak := false } W1 q nt (ops.map (AOper.shift S.length)) e (S ++ List.replicate k .dead) with
    | none => rw [ha] at hc; cases hc
    | some x => rw [ha] at hc; rw [aops_mono h ha]; exact hc
  | seq a b iha ihb =>
    intro e S r hc
    simp only [acode] at hc ⊢
    cases ha : acode C W1 nt a e S with
    | none => rw [ha] at hc; cases hc
    | some x =>
      obtain ⟨ex, e', S'⟩ := x
      rw [ha] at hc
      rw [iha ha]
      cases ex with
      | nrm => exact ihb hc
      | exit id => exact hc
      | ret => exact hc
  | cond c a b iha ihb =>
    intro e S r hc
    simp only [acode] at hc ⊢
    split at hc
    · rename_i t ht
      cases t with
      | true => exact iha hc
      | false => exact ihb hc
    · cases hc
  | block id a iha =>
    intro e S r hc
    simp only [acode] at hc ⊢
    cases ha : acode C W1 nt a e S with
    | none => rw [ha] at hc; cases hc
    | some x => rw [ha] at hc; rw [iha ha]; exact hc
  | loop a iha =>
    intro e S r hc
    simp only [acode] at hc ⊢
    obtain ⟨k, hk⟩ := loopW_some hc
    exact loopW_of (aloop_body_mono (fun e S r hb => iha hb) hk)
  | exit id => intro e S r hc; exact hc
  | ret => intro e S r hc; exact hc
  | scope a iha => intro e S r hc; exact iha hc
  | rng f ps a b _ _ =>
    intro e S r hc
    simp only [acode] at hc ⊢
    split at hc
    · split at hc
      · cases hc
      · rename_i hg
        rw [if_neg hg]
        split at hc
        · cases hc
        · rename_i hw; rw [h _ _ _ _ hw]; exact hc
    · cases hc

theorem around_mono {C : Cfg} {W1 W2 : Call} (h : CLe W1 W2) {args : List LV} {S : Store} {r : LV × Store} (hc : around C W1 args S = some r) : around C W2 args S = some r := by
  unfold around at hc ⊢
  split at hc
  · rename_i k xs
    split at hc
    · rename_i hS
      try simp only [hS]
      split at hc
      · rename_i hp
        rw [if_pos hp]
        split at hc
        · rename_i h1
          rw [acode_mono h _ h1]
          simp only
          split at hc
          · rename_i h2
            try simp only [h2]
            split at hc
            · rename_i h3
              rw [acode_mono h _ h3]
              exact hc
            · cases hc
          · cases hc
        · cases hc
      · cases hc
    · cases hc
  · cases hc

theorem abody_mono {C : Cfg} {W1 W2 : Call} (h : CLe W1 W2) {f : AF} {args : List LV} {S : Store} {r : LV × Store} (hc : abody C W1 f args S = some r) : abody C W2 f args S = some r := by
  unfold abody at hc ⊢
  split
  · rename_i hle
    rw [if_pos hle] at hc
    cases ha : acode C W1 f.ntmps f.code (fun t => args.getD t .undef) S with
    | none => rw [ha] at hc; cases hc
    | some x => rw [ha] at hc; rw [acode_mono h _ ha]; exact hc
  · rename_i hle; rw [if_neg hle] at hc; exact hc

theorem acall_succ {C : Cfg} {T : Nat → Option Fun} : ∀ n, CLe (acall C T n) (acall C T (n + 1))
  | 0 => fun f args S r h => by cases h
  | n + 1 => fun f args S r h => by
    simp only [acall] at h ⊢
    cases hT : T f with
    | none =>
      rw [hT] at h
      dsimp only at h ⊢
      split at h
      · rename_i hf; rw [if_pos hf]; exact around_mono (acall_succ n) h
      · cases h
    | some x =>
      rw [hT] at h
      cases x with
      | code a => exact abody_mono (acall_succ n) h
      | ext g => exact h

theorem acall_le {C : Cfg} {T : Nat → Option Fun} (n : Nat) : ∀ k, CLe (acall C T n) (acall C T (n + k))
  | 0 => fun _ _ _ _ h => h
  | k + 1 => fun f args S r h => acall_succ (n + k) f args S r (acall_le n k f args S r h)

theorem W_of_acall {C : Cfg} {T : Nat → Option Fun} {n f : Nat} {args : List LV} {S : Store} {r : LV × Store} (h : acall C T n f args S = some r) : W C T f args S = some r := by
  have hex : ∃ n, acall C T n f args S ≠ none := ⟨n, by rw [h]; simp⟩
  unfold W
  rw [dif_pos hex]
  cases hc : acall C T (Classical.choose hex) f args S with
  | none => exact (Classical.choose_spec hex hc).elim
  | some r' =>
    have h1 := acall_le _ n f args S r' hc
    have h2 := acall_le _ (Classical.choose hex) f args S r h
    rw [Nat.add_comm] at h2
    rw [h1] at h2
    exact h2

theorem acall_of_W {C : Cfg} {T : Nat → Option Fun} {f : Nat} {args : List LV} {S : Store} {r : LV × Store} (h : W C T f args S = some r) : ∃ n, acall C T n f args S = some r := by
  unfold W at h
  split at h
  · exact ⟨_, h⟩
  · cases h

/-! ### what W says comes of finitely many calls -/
section
variable {C : Cfg} {T : Nat → Option Fun}

theorem acallR_cont {D : Cfg} {f : Nat} {args : List LV} {S : Store} {r : LV × Store} (hc : acallR D (W C T) f args S = some r) : ∃ n, acallR D (acall C T n) f args S = some r := by
  unfold acallR at hc
  cases h1 : W C T f args S with
  | none => rw [h1] at hc; cases hc
  | some x =>
    rw [h1] at hc
    obtain ⟨n, hn⟩ := acall_of_W h1
    exact ⟨n, by unfold acallR; rw [hn]; exact hc⟩

theorem acallM_cont {D : Cfg} {q : Bool} {f : Nat} {args : List LV} {S : Store} {r : LV × Store} (hc : acallM D (W C T) q f args S = some r) : ∃ n, acallM D (acall C T n) q f args S = some r := by
  unfold acallM at hc
  split at hc
  · cases hc
  rename_i hy
  split at hc
  · rename_i hb
    split at hc
    · rename_i hq
      split at hc
      · rename_i hwk
        cases h1 : acallR D (W C T) f args S with
        | none => rw [h1] at hc; cases hc
        | some x =>
          rw [h1] at hc
          obtain ⟨n, hn⟩ := acallR_cont h1
          exact ⟨n, by unfold acallM; rw [if_neg hy, if_pos hb, if_pos hq, if_pos hwk, hn]; exact hc⟩
      · cases hc
    · rename_i hq
      obtain ⟨n, hn⟩ := acallR_cont hc
      exact ⟨n, by unfold acallM; rw [if_neg hy, if_pos hb, if_neg hq]; exact hn⟩
  · rename_i hb
    cases hm : mapO (close S) args with
    | none => rw [hm] at hc; cases hc
    | some ds =>
      rw [hm] at hc
      simp only at hc
      cases h1 : W C T f ds [] with
      | none => rw [h1] at hc; cases hc
      | some x =>
        rw [h1] at hc
        obtain ⟨n, hn⟩ := acall_of_W h1
        exact ⟨n, by unfold acallM; rw [if_neg hy, if_neg hb, hm]; simp only; rw [hn]; exact hc⟩

theorem aop_cont {D : Cfg} {q : Bool} {e : Env} {S : Store} {op : AOp} {r : LV × Store} (hc : aop D (W C T) q e S op = some r) : ∃ n, aop D (acall C T n) q e S op = some r := by
  cases op with
  | call f xs =>
    simp only [aop] at hc ⊢
    split at hc
    · exact acallM_cont hc
    · split at hc
      · cases hc
      · rename_i hq
        obtain ⟨n, hn⟩ := acall_of_W hc
        exact ⟨n, by rw [if_neg hq]; exact hn⟩
    · cases hc
  | _ => exact ⟨0, hc⟩

theorem aop1_cont {D : Cfg} {q : Bool} {nt : Nat} {o : AOper} {e : Env} {S : Store} {r : Env × Store} (hc : aop1 D (W C T) q nt o e S = some r) : ∃ n, aop1 D (acall C T n) q nt o e S = some r := by
  unfold aop1 at hc ⊢
  split at hc
  · cases hc
  · exact ⟨0, hc⟩
  · cases ha : aop D (W C T) q e S o.op with
    | none => rw [ha] at hc; cases hc
    | some x =>
      rw [ha] at hc
      obtain ⟨n, hn⟩ := aop_cont ha
      exact ⟨n, by rw [hn]; exact hc⟩

theorem aops_cont {D : Cfg} {q : Bool} {nt : Nat} : ∀ {os : List AOper} {e : Env} {S : Store} {r : Env × Store}, aops D (W C T) q nt os e S = some r → ∃ n, aops D (acall C T n) q nt os e S = some r
  | [], _, _, _, hc => ⟨0, hc⟩
  | o :: os, e, S, r, hc => by
    simp only [aops] at hc ⊢
    cases ha : aop1 D (W C T) q nt o e S with
    | none => rw [ha] at hc; cases hc
    | some x =>
      rw [ha] at hc
      obtain ⟨n, hn⟩ := aop1_cont ha
      obtain ⟨k, hk⟩ := aops_cont hc
      refine ⟨n + k, ?_⟩
      rw [aop1_mono (acall_le n k) hn]
      have := aops_mono (acall_le k n) hk
      rw [Nat.add_comm] at this
      exact this

theorem acode_cont {nt : Nat} : ∀ (c : AC) {e : Env} {S : Store} {r : Ex × Env × Store}, acode C (W C T) nt c e S = some r → ∃ n, acode C (acall C T n) nt c e S = some r := by
  intro c
  induction c with
  | skip => intro e S r hc; exact ⟨0, hc⟩
  | reg ops ps q =>
    intro e S r hc
    simp only [acode] at hc ⊢
    cases ha : aops { C with weak := true } (W C T) q nt ops e S with
    | none => rw [ha] at hc; cases hc
    | some x =>
      rw [ha] at hc
      obtain ⟨n, hn⟩ := aops_cont ha
      exact ⟨n, by rw [hn]; exact hc⟩
  | rgv k ops ps q =>
    intro e S r hc
    simp only [acode] at hc ⊢
    cases ha : aops { C with weak := false } (W C T) q nt (ops.map (AOper.shift S.length)) e (S ++ List.replicate k .dead) with
    | none => rw [ha] at hc; cases hc
    | some x =>
      rw [ha] at hc
      obtain ⟨n, hn⟩ := aops_cont ha
      exact ⟨n, by rw [hn]; exact hc⟩
  | seq a b iha ihb =>
    intro e S r hc
    simp only [acode] at hc ⊢
    cases ha : acode C (W C T) nt a e S with
    | none => rw [ha] at hc; cases hc
    | some x =>
      obtain ⟨ex, e', S'⟩ := x
      rw [ha] at hc
      obtain ⟨n, hn⟩ := iha ha
      cases ex with
      | nrm =>
        obtain ⟨k, hk⟩ := ihb hc
        refine ⟨n + k, ?_⟩
        rw [acode_mono (acall_le n k) a hn]
        have := acode_mono (acall_le k n) b hk
        rw [Nat.add_comm] at this
        exact this
      | exit id => exact ⟨n, by rw [hn]; exact hc⟩
      | ret => exact ⟨n, by rw [hn]; exact hc⟩
  | cond c a b iha ihb =>
    intro e S r hc
    simp only [acode] at hc ⊢
    split at hc
    · rename_i t ht
      cases t with
      | true => exact iha hc
      | false => exact ihb hc
    · cases hc
  | block id a iha =>
    intro e S r hc
    simp only [acode] at hc ⊢
    cases ha : acode C (W C T) nt a e S with
    | none => rw [ha] at hc; cases hc
    | some x =>
      rw [ha] at hc
      obtain ⟨n, hn⟩ := iha ha
      exact ⟨n, by rw [hn]; exact hc⟩
  | loop a iha =>
    intro e S r hc
    simp only [acode] at hc ⊢
    obtain ⟨k, hk⟩ := loopW_some hc
    have key : ∀ (k : Nat) {e : Env} {S : Store}, aloop (acode C (W C T) nt a) k e S = some r → ∃ n, aloop (acode C (acall C T n) nt a) k e S = some r := by
      intro k
      induction k with
      | zero => intro e S h; cases h
      | succ k ih =>
        intro e S h
        simp only [aloop] at h ⊢
        cases hb : acode C (W C T) nt a e S with
        | none => rw [hb] at h; cases h
        | some x =>
          obtain ⟨ex, e', S'⟩ := x
          rw [hb] at h
          obtain ⟨n, hn⟩ := iha hb
          cases ex with
          | nrm =>
            obtain ⟨j, hj⟩ := ih h
            refine ⟨n + j, ?_⟩
            rw [acode_mono (acall_le n j) a hn]
            have := aloop_body_mono (fun e S r hb => acode_mono (acall_le j n) a hb) hj
            rw [Nat.add_comm] at this
            exact this
          | exit id => exact ⟨n, by rw [hn]; exact h⟩
          | ret => exact ⟨n, by rw [hn]; exact h⟩
    obtain ⟨n, hn⟩ := key k hk
    exact ⟨n, loopW_of hn⟩
  | exit id => intro e S r hc; exact ⟨0, hc⟩
  | ret => intro e S r hc; exact ⟨0, hc⟩
  | scope a iha => intro e S r hc; exact iha hc
  | rng f ps a b _ _ =>
    intro e S r hc
    simp only [acode] at hc ⊢
    split at hc
    · split at hc
      · cases hc
      · rename_i hg
        split at hc
        · cases hc
        · rename_i hw
          obtain ⟨n, hn⟩ := acall_of_W hw
          exact ⟨n, by rw [if_neg hg, hn]; exact hc⟩
    · cases hc

theorem around_cont {args : List LV} {S : Store} {r : LV × Store} (hc : around C (W C T) args S = some r) : ∃ n, around C (acall C T n) args S = some r := by
  unfold around at hc
  split at hc
  · rename_i k xs
    split at hc
    · rename_i hS
      split at hc
      · rename_i hp
        split at hc
        · rename_i h1
          split at hc
          · rename_i h2
            split at hc
            · rename_i h3
              obtain ⟨n1, e1⟩ := acode_cont _ h1
              obtain ⟨n2, e2⟩ := acode_cont _ h3
              have e1' := acode_mono (acall_le n1 n2) _ e1
              have e2' := acode_mono (acall_le n2 n1) _ e2
              rw [Nat.add_comm] at e2'
              refine ⟨n1 + n2, ?_⟩
              unfold around
              simp only [hS, if_pos hp, e1', h2, e2']
              exact hc
            · cases hc
          · cases hc
        · cases hc
      · cases hc
    · cases hc
  · cases hc

/-- A function's answer is its code's, with W at its calls. -/
theorem W_code {f : Nat} {af : AF} (hT : T f = some (.code af)) {args : List LV} {S : Store} {r : LV × Store} (h : abody C (W C T) af args S = some r) : W C T f args S = some r := by
  have : ∃ n, abody C (acall C T n) af args S = some r := by
    unfold abody at h ⊢
    split at h
    · rename_i hle
      cases ha : acode C (W C T) af.ntmps af.code (fun t => args.getD t .undef) S with
      | none => rw [ha] at h; cases h
      | some x =>
        rw [ha] at h
        obtain ⟨n, hn⟩ := acode_cont _ ha
        exact ⟨n, by rw [if_pos hle, hn]; exact h⟩
    · cases h
  obtain ⟨n, hn⟩ := this
  exact W_of_acall (n := n + 1) (by simp only [acall, hT]; exact hn)

/-- A call of yield. -/
theorem W_yield (hT : T yB = none) {args : List LV} {S : Store} {r : LV × Store} (h : around C (W C T) args S = some r) : W C T yB args S = some r := by
  obtain ⟨n, hn⟩ := around_cont h
  exact W_of_acall (n := n + 1) (by simp only [acall, hT, if_true]; exact hn)

theorem W_ext {f : Nat} {g : List LV → Store → Option (LV × Store)} (hT : T f = some (.ext g)) {args : List LV} {S : Store} {r : LV × Store} (h : g args S = some r) : W C T f args S = some r :=
  W_of_acall (n := 1) (by simp only [acall, hT]; exact h)

end
end Go.Am
