/- The law NavZero of topiarylaw17, run by the kernel. -/
import Derived.Test.YtfekfnapgfddbaaGreatFit
set_option maxRecDepth 100000
set_option linter.unusedVariables false
namespace Go.Am
open Go
noncomputable def okT : Option (LV × Store) → Bool | some (.bool true, _) => true | _ => false
theorem okT_some : ∀ {r : Option (LV × Store)}, okT r = true → ∃ S, r = some (.bool true, S) := by
  intro r h
  unfold okT at h
  split at h
  · exact ⟨_, rfl⟩
  · cases h
theorem nz0 : okT (kcall Cb Tb 10000 50 n_law17_NavZero [.int .i64 (.ofNat 0)] []) = true := by kernel_rfl
theorem nz1 (m : Nat) : okT (kcall Cb Tb 10000 50 n_law17_NavZero [.int .i64 (.ofNat (m + 1))] []) = true := by kernel_rfl
theorem nz2 : okT (kcall Cb Tb 10000 50 n_law17_NavZero [.int .i64 (.negSucc 0)] []) = true := by kernel_rfl
theorem nz3 (m : Nat) : okT (kcall Cb Tb 10000 50 n_law17_NavZero [.int .i64 (.negSucc (m + 1))] []) = true := by kernel_rfl
theorem nz (i : Int) : ∃ S', W Cb Tb n_law17_NavZero [.int .i64 i] [] = some (.bool true, S') := by
  have h : okT (kcall Cb Tb 10000 50 n_law17_NavZero [.int .i64 i] []) = true := by
    cases i with
    | ofNat m => cases m with
      | zero => exact nz0
      | succ m => exact nz1 m
    | negSucc m => cases m with
      | zero => exact nz2
      | succ m => exact nz3 m
  obtain ⟨S, hS⟩ := okT_some h
  exact ⟨S, W_of_kcall 10000 50 hS⟩
end Go.Am
