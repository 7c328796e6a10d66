/- OpsWholes: cases, by the kernel's reckoning. -/
import Derived.Test.YtplnnlnkcfappaaYc
namespace Go.Proofs.Ytplnnlnkcfappaa.Ew
open Go Go.RowKit

theorem whole_122_0 : all4 (ok1 2 2) 0 = true := by kernel_rfl
theorem whole_122_4 : all4 (ok1 2 2) 4 = true := by kernel_rfl
theorem whole_122_8 : all4 (ok1 2 2) 8 = true := by kernel_rfl
theorem whole_122_12 : all4 (ok1 2 2) 12 = true := by kernel_rfl
theorem whole_122 (r : Nat) (hr : r < 16) : ok1 2 2 r = true := all16 whole_122_0 whole_122_4 whole_122_8 whole_122_12 r hr

end Go.Proofs.Ytplnnlnkcfappaa.Ew
