/- OpsWholes: cases, by the kernel's reckoning. -/
import Derived.Test.YtplnnlnkcfappaaYc
namespace Go.Proofs.Ytplnnlnkcfappaa.Ew
open Go Go.RowKit

theorem whole_121_0 : all4 (ok1 2 1) 0 = true := by kernel_rfl
theorem whole_121_4 : all4 (ok1 2 1) 4 = true := by kernel_rfl
theorem whole_121_8 : all4 (ok1 2 1) 8 = true := by kernel_rfl
theorem whole_121_12 : all4 (ok1 2 1) 12 = true := by kernel_rfl
theorem whole_121 (r : Nat) (hr : r < 16) : ok1 2 1 r = true := all16 whole_121_0 whole_121_4 whole_121_8 whole_121_12 r hr

end Go.Proofs.Ytplnnlnkcfappaa.Ew
