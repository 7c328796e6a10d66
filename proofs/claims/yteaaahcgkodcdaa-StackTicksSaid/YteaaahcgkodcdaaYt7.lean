/- StackTicks: cases, by the kernel's reckoning. -/
import Derived.Test.YteaaahcgkodcdaaYb
namespace Go.Proofs.Yteaaahcgkodcdaa.Ew
open Go Go.RowKit

theorem ticks_15_0 : okRange 15 0 3 = true := by kernel_rfl
theorem ticks_15_3 : okRange 15 3 3 = true := by kernel_rfl
theorem ticks_15_6 : okRange 15 6 3 = true := by kernel_rfl
theorem ticks_15_9 : okRange 15 9 3 = true := by kernel_rfl
theorem ticks_15_12 : okRange 15 12 3 = true := by kernel_rfl
theorem ticks_15_15 : okRange 15 15 2 = true := by kernel_rfl

end Go.Proofs.Yteaaahcgkodcdaa.Ew
