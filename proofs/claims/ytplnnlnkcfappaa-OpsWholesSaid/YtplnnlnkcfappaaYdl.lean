/- OpsWholes: cases, by the kernel's reckoning. -/
import Derived.Test.YtplnnlnkcfappaaYc
namespace Go.Proofs.Ytplnnlnkcfappaa.Ew
open Go Go.RowKit

theorem whole_222_0 : all4 (ok2 2 2) 0 = true := by kernel_rfl
theorem whole_222_4 : all4 (ok2 2 2) 4 = true := by kernel_rfl
theorem whole_222_8 : all4 (ok2 2 2) 8 = true := by kernel_rfl
theorem whole_222_12 : all4 (ok2 2 2) 12 = true := by kernel_rfl
theorem whole_222 (r : Nat) (hr : r < 16) : ok2 2 2 r = true := all16 whole_222_0 whole_222_4 whole_222_8 whole_222_12 r hr

end Go.Proofs.Ytplnnlnkcfappaa.Ew
