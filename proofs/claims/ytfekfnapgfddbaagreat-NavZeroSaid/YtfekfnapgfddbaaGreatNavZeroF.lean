/- Closed facts of the row of the law NavZero, each by itself. -/
import Derived.Test.YtfekfnapgfddbaaGreatRows
import Derived.WalkKit
import Derived.ProofKit
import Derived.OpenShut
set_option maxRecDepth 100000
namespace Go.Proofs.YtfekfnapgfddbaaGreat.navZero
open Go
theorem f1 : (Rows.navZeroRow.inPlace == Tryz.prog.inPlace 15) = true := by kernel_rfl
theorem f2 : (Rows.navZeroRow.unfollowed == Tryz.prog.unfollowed 15) = true := by kernel_rfl
theorem f3 : (Rows.navZeroRow.recurses == Tryz.prog.recurses 15) = true := by kernel_rfl
theorem f4 : (Rows.navZeroRow.named == Tryz.prog.varsNamed 15) = true := by kernel_rfl
theorem closed : joinedFacts Tryz.prog 15 Tryz.f15 Rows.navZeroSpec Rows.navZeroRow = true := by
  unfold joinedFacts
  rw [f1, f2, f3, f4]
  kernel_rfl
end Go.Proofs.YtfekfnapgfddbaaGreat.navZero
