/- RvmArgs: cases, by the kernel's reckoning. -/
import Derived.Test.YtplnnlnkcfappaaGreatYg
namespace Go.Proofs.YtplnnlnkcfappaaGreat.Ew
open Go Go.RowKit

theorem args_7_0 : okAR 7 0 2 = true := by kernel_rfl
theorem args_7_2 : okAR 7 2 2 = true := by kernel_rfl
theorem args_7_4 : okAR 7 4 2 = true := by kernel_rfl
theorem args_7_6 : okAR 7 6 2 = true := by kernel_rfl
theorem args_7 (b : Nat) (hb : b < 8) : okA 7 b = true := by
  by_cases h0 : b < 2
  · exact okAR_spec 2 args_7_0 b (by omega) (by omega)
  by_cases h2 : b < 4
  · exact okAR_spec 2 args_7_2 b (by omega) (by omega)
  by_cases h4 : b < 6
  · exact okAR_spec 2 args_7_4 b (by omega) (by omega)
  exact okAR_spec 2 args_7_6 b (by omega) (by omega)

end Go.Proofs.YtplnnlnkcfappaaGreat.Ew
