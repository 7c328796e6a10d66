/- OpsWholes: cases, by the kernel's reckoning. -/
import Derived.Test.YtplnnlnkcfappaaYc
namespace Go.Proofs.Ytplnnlnkcfappaa.Ew
open Go Go.RowKit

theorem whole_212_0 : all4 (ok2 1 2) 0 = true := by kernel_rfl
theorem whole_212_4 : all4 (ok2 1 2) 4 = true := by kernel_rfl
theorem whole_212_8 : all4 (ok2 1 2) 8 = true := by kernel_rfl
theorem whole_212_12 : all4 (ok2 1 2) 12 = true := by kernel_rfl
theorem whole_212 (r : Nat) (hr : r < 16) : ok2 1 2 r = true := all16 whole_212_0 whole_212_4 whole_212_8 whole_212_12 r hr

end Go.Proofs.Ytplnnlnkcfappaa.Ew
