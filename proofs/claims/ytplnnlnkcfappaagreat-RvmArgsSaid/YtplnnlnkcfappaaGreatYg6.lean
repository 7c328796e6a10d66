/- RvmArgs: cases, by the kernel's reckoning. -/
import Derived.Test.YtplnnlnkcfappaaGreatYg
namespace Go.Proofs.YtplnnlnkcfappaaGreat.Ew
open Go Go.RowKit

theorem args_6_0 : okAR 6 0 2 = true := by kernel_rfl
theorem args_6_2 : okAR 6 2 2 = true := by kernel_rfl
theorem args_6_4 : okAR 6 4 2 = true := by kernel_rfl
theorem args_6_6 : okAR 6 6 2 = true := by kernel_rfl
theorem args_6 (b : Nat) (hb : b < 8) : okA 6 b = true := by
  by_cases h0 : b < 2
  · exact okAR_spec 2 args_6_0 b (by omega) (by omega)
  by_cases h2 : b < 4
  · exact okAR_spec 2 args_6_2 b (by omega) (by omega)
  by_cases h4 : b < 6
  · exact okAR_spec 2 args_6_4 b (by omega) (by omega)
  exact okAR_spec 2 args_6_6 b (by omega) (by omega)

end Go.Proofs.YtplnnlnkcfappaaGreat.Ew
