/- StackTicks: cases, by the kernel's reckoning. -/
import Derived.Test.YteaaahcgkodcdaaYb
namespace Go.Proofs.Yteaaahcgkodcdaa.Ew
open Go Go.RowKit

theorem ticks_13_0 : okRange 13 0 3 = true := by kernel_rfl
theorem ticks_13_3 : okRange 13 3 3 = true := by kernel_rfl
theorem ticks_13_6 : okRange 13 6 3 = true := by kernel_rfl
theorem ticks_13_9 : okRange 13 9 3 = true := by kernel_rfl
theorem ticks_13_12 : okRange 13 12 3 = true := by kernel_rfl

end Go.Proofs.Yteaaahcgkodcdaa.Ew
