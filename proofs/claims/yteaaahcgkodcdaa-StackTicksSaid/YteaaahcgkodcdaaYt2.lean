/- StackTicks: cases, by the kernel's reckoning. -/
import Derived.Test.YteaaahcgkodcdaaYb
namespace Go.Proofs.Yteaaahcgkodcdaa.Ew
open Go Go.RowKit

theorem ticks_9_0 : okRange 9 0 3 = true := by kernel_rfl
theorem ticks_9_3 : okRange 9 3 3 = true := by kernel_rfl
theorem ticks_9_6 : okRange 9 6 3 = true := by kernel_rfl
theorem ticks_9_9 : okRange 9 9 2 = true := by kernel_rfl
theorem ticks_10_0 : okRange 10 0 3 = true := by kernel_rfl
theorem ticks_10_3 : okRange 10 3 3 = true := by kernel_rfl
theorem ticks_10_6 : okRange 10 6 3 = true := by kernel_rfl
theorem ticks_10_9 : okRange 10 9 3 = true := by kernel_rfl

end Go.Proofs.Yteaaahcgkodcdaa.Ew
