/- OpsWholes: cases, by the kernel's reckoning. -/
import Derived.Test.YtplnnlnkcfappaaYc
namespace Go.Proofs.Ytplnnlnkcfappaa.Ew
open Go Go.RowKit

theorem whole_201_0 : all4 (ok2 0 1) 0 = true := by kernel_rfl
theorem whole_201_4 : all4 (ok2 0 1) 4 = true := by kernel_rfl
theorem whole_201_8 : all4 (ok2 0 1) 8 = true := by kernel_rfl
theorem whole_201_12 : all4 (ok2 0 1) 12 = true := by kernel_rfl
theorem whole_201 (r : Nat) (hr : r < 16) : ok2 0 1 r = true := all16 whole_201_0 whole_201_4 whole_201_8 whole_201_12 r hr

end Go.Proofs.Ytplnnlnkcfappaa.Ew
