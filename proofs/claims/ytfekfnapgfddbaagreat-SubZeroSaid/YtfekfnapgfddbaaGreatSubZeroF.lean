/- Closed facts of the row of the law SubZero, each by itself. -/
import Derived.Test.YtfekfnapgfddbaaGreatRows
import Derived.WalkKit
import Derived.ProofKit
import Derived.OpenShut
set_option maxRecDepth 100000
namespace Go.Proofs.YtfekfnapgfddbaaGreat.subZero
open Go
theorem f1 : (Rows.subZeroRow.inPlace == Tryz.prog.inPlace 14) = true := by kernel_rfl
theorem f2 : (Rows.subZeroRow.unfollowed == Tryz.prog.unfollowed 14) = true := by kernel_rfl
theorem f3 : (Rows.subZeroRow.recurses == Tryz.prog.recurses 14) = true := by kernel_rfl
theorem f4 : (Rows.subZeroRow.named == Tryz.prog.varsNamed 14) = true := by kernel_rfl
theorem closed : joinedFacts Tryz.prog 14 Tryz.f14 Rows.subZeroSpec Rows.subZeroRow = true := by
  unfold joinedFacts
  rw [f1, f2, f3, f4]
  kernel_rfl
end Go.Proofs.YtfekfnapgfddbaaGreat.subZero
