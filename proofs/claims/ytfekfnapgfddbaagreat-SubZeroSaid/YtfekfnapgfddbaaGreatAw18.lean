/- awake of topiarylaw18, run by the kernel. -/
import Derived.Test.YtfekfnapgfddbaaGreatFit
import Derived.Test.YtfekfnapgfddbaaGreatAk2
set_option maxRecDepth 100000
namespace Go.Am
open Go
theorem aw18k : okT (kcall Cb Tb 10000 50 n_law18_awake [] []) = true := by kernel_rfl
theorem aw18 : okT (W Cb Tb n_law18_awake [] []) = true := by
  obtain ⟨S, h⟩ := okT_some aw18k
  rw [W_of_kcall 10000 50 h]
  rfl
end Go.Am
