/- OpsWholes: cases, by the kernel's reckoning. -/
import Derived.Test.YtplnnlnkcfappaaYc
namespace Go.Proofs.Ytplnnlnkcfappaa.Ew
open Go Go.RowKit

theorem whole_220_0 : all4 (ok2 2 0) 0 = true := by kernel_rfl
theorem whole_220_4 : all4 (ok2 2 0) 4 = true := by kernel_rfl
theorem whole_220_8 : all4 (ok2 2 0) 8 = true := by kernel_rfl
theorem whole_220_12 : all4 (ok2 2 0) 12 = true := by kernel_rfl
theorem whole_220 (r : Nat) (hr : r < 16) : ok2 2 0 r = true := all16 whole_220_0 whole_220_4 whole_220_8 whole_220_12 r hr

end Go.Proofs.Ytplnnlnkcfappaa.Ew
