/- OpsWholes: cases, by the kernel's reckoning. -/
import Derived.Test.YtplnnlnkcfappaaYc
namespace Go.Proofs.Ytplnnlnkcfappaa.Ew
open Go Go.RowKit

theorem whole_210_0 : all4 (ok2 1 0) 0 = true := by kernel_rfl
theorem whole_210_4 : all4 (ok2 1 0) 4 = true := by kernel_rfl
theorem whole_210_8 : all4 (ok2 1 0) 8 = true := by kernel_rfl
theorem whole_210_12 : all4 (ok2 1 0) 12 = true := by kernel_rfl
theorem whole_210 (r : Nat) (hr : r < 16) : ok2 1 0 r = true := all16 whole_210_0 whole_210_4 whole_210_8 whole_210_12 r hr

end Go.Proofs.Ytplnnlnkcfappaa.Ew
