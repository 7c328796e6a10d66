/- OpsWholes: cases, by the kernel's reckoning. -/
import Derived.Test.YtplnnlnkcfappaaYc
namespace Go.Proofs.Ytplnnlnkcfappaa.Ew
open Go Go.RowKit

theorem whole_100_0 : all4 (ok1 0 0) 0 = true := by kernel_rfl
theorem whole_100_4 : all4 (ok1 0 0) 4 = true := by kernel_rfl
theorem whole_100_8 : all4 (ok1 0 0) 8 = true := by kernel_rfl
theorem whole_100_12 : all4 (ok1 0 0) 12 = true := by kernel_rfl
theorem whole_100 (r : Nat) (hr : r < 16) : ok1 0 0 r = true := all16 whole_100_0 whole_100_4 whole_100_8 whole_100_12 r hr

end Go.Proofs.Ytplnnlnkcfappaa.Ew
