/- OpsWholes: cases, by the kernel's reckoning. -/
import Derived.Test.YtplnnlnkcfappaaYc
namespace Go.Proofs.Ytplnnlnkcfappaa.Ew
open Go Go.RowKit

theorem whole_202_0 : all4 (ok2 0 2) 0 = true := by kernel_rfl
theorem whole_202_4 : all4 (ok2 0 2) 4 = true := by kernel_rfl
theorem whole_202_8 : all4 (ok2 0 2) 8 = true := by kernel_rfl
theorem whole_202_12 : all4 (ok2 0 2) 12 = true := by kernel_rfl
theorem whole_202 (r : Nat) (hr : r < 16) : ok2 0 2 r = true := all16 whole_202_0 whole_202_4 whole_202_8 whole_202_12 r hr

end Go.Proofs.Ytplnnlnkcfappaa.Ew
