/- OpsWholes: cases, by the kernel's reckoning. -/
import Derived.Test.YtplnnlnkcfappaaYc
namespace Go.Proofs.Ytplnnlnkcfappaa.Ew
open Go Go.RowKit

theorem whole_221_0 : all4 (ok2 2 1) 0 = true := by kernel_rfl
theorem whole_221_4 : all4 (ok2 2 1) 4 = true := by kernel_rfl
theorem whole_221_8 : all4 (ok2 2 1) 8 = true := by kernel_rfl
theorem whole_221_12 : all4 (ok2 2 1) 12 = true := by kernel_rfl
theorem whole_221 (r : Nat) (hr : r < 16) : ok2 2 1 r = true := all16 whole_221_0 whole_221_4 whole_221_8 whole_221_12 r hr

end Go.Proofs.Ytplnnlnkcfappaa.Ew
