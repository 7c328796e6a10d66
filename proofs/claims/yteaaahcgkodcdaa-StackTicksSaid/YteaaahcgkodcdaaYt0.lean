/- StackTicks: cases, by the kernel's reckoning. -/
import Derived.Test.YteaaahcgkodcdaaYb
namespace Go.Proofs.Yteaaahcgkodcdaa.Ew
open Go Go.RowKit

theorem ticks_0_0 : okRange 0 0 2 = true := by kernel_rfl
theorem ticks_1_0 : okRange 1 0 3 = true := by kernel_rfl
theorem ticks_2_0 : okRange 2 0 4 = true := by kernel_rfl
theorem ticks_3_0 : okRange 3 0 5 = true := by kernel_rfl
theorem ticks_4_0 : okRange 4 0 6 = true := by kernel_rfl
theorem ticks_5_0 : okRange 5 0 4 = true := by kernel_rfl
theorem ticks_5_4 : okRange 5 4 3 = true := by kernel_rfl
theorem ticks_6_0 : okRange 6 0 4 = true := by kernel_rfl
theorem ticks_6_4 : okRange 6 4 4 = true := by kernel_rfl

end Go.Proofs.Yteaaahcgkodcdaa.Ew
