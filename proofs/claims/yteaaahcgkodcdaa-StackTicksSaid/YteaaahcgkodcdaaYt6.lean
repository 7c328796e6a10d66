/- StackTicks: cases, by the kernel's reckoning. -/
import Derived.Test.YteaaahcgkodcdaaYb
namespace Go.Proofs.Yteaaahcgkodcdaa.Ew
open Go Go.RowKit

theorem ticks_14_0 : okRange 14 0 3 = true := by kernel_rfl
theorem ticks_14_3 : okRange 14 3 3 = true := by kernel_rfl
theorem ticks_14_6 : okRange 14 6 3 = true := by kernel_rfl
theorem ticks_14_9 : okRange 14 9 3 = true := by kernel_rfl
theorem ticks_14_12 : okRange 14 12 3 = true := by kernel_rfl
theorem ticks_14_15 : okRange 14 15 1 = true := by kernel_rfl

end Go.Proofs.Yteaaahcgkodcdaa.Ew
