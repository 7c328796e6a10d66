/- StackTicks: cases, by the kernel's reckoning. -/
import Derived.Test.YteaaahcgkodcdaaYb
namespace Go.Proofs.Yteaaahcgkodcdaa.Ew
open Go Go.RowKit

theorem ticks_12_0 : okRange 12 0 3 = true := by kernel_rfl
theorem ticks_12_3 : okRange 12 3 3 = true := by kernel_rfl
theorem ticks_12_6 : okRange 12 6 3 = true := by kernel_rfl
theorem ticks_12_9 : okRange 12 9 3 = true := by kernel_rfl
theorem ticks_12_12 : okRange 12 12 2 = true := by kernel_rfl

end Go.Proofs.Yteaaahcgkodcdaa.Ew
