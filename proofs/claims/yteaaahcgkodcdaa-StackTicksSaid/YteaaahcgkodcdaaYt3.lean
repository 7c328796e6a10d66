/- StackTicks: cases, by the kernel's reckoning. -/
import Derived.Test.YteaaahcgkodcdaaYb
namespace Go.Proofs.Yteaaahcgkodcdaa.Ew
open Go Go.RowKit

theorem ticks_11_0 : okRange 11 0 3 = true := by kernel_rfl
theorem ticks_11_3 : okRange 11 3 3 = true := by kernel_rfl
theorem ticks_11_6 : okRange 11 6 3 = true := by kernel_rfl
theorem ticks_11_9 : okRange 11 9 3 = true := by kernel_rfl
theorem ticks_11_12 : okRange 11 12 1 = true := by kernel_rfl

end Go.Proofs.Yteaaahcgkodcdaa.Ew
