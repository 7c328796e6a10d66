/- OpsWholes: cases, by the kernel's reckoning. -/
import Derived.Test.YtplnnlnkcfappaaYc
namespace Go.Proofs.Ytplnnlnkcfappaa.Ew
open Go Go.RowKit

theorem whole_200_0 : all4 (ok2 0 0) 0 = true := by kernel_rfl
theorem whole_200_4 : all4 (ok2 0 0) 4 = true := by kernel_rfl
theorem whole_200_8 : all4 (ok2 0 0) 8 = true := by kernel_rfl
theorem whole_200_12 : all4 (ok2 0 0) 12 = true := by kernel_rfl
theorem whole_200 (r : Nat) (hr : r < 16) : ok2 0 0 r = true := all16 whole_200_0 whole_200_4 whole_200_8 whole_200_12 r hr

end Go.Proofs.Ytplnnlnkcfappaa.Ew
