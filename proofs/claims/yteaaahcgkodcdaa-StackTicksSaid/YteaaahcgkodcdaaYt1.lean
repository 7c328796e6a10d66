/- StackTicks: cases, by the kernel's reckoning. -/
import Derived.Test.YteaaahcgkodcdaaYb
namespace Go.Proofs.Yteaaahcgkodcdaa.Ew
open Go Go.RowKit

theorem ticks_7_0 : okRange 7 0 4 = true := by kernel_rfl
theorem ticks_7_4 : okRange 7 4 4 = true := by kernel_rfl
theorem ticks_7_8 : okRange 7 8 1 = true := by kernel_rfl
theorem ticks_8_0 : okRange 8 0 4 = true := by kernel_rfl
theorem ticks_8_4 : okRange 8 4 4 = true := by kernel_rfl
theorem ticks_8_8 : okRange 8 8 2 = true := by kernel_rfl

end Go.Proofs.Yteaaahcgkodcdaa.Ew
