/- StackGrows: cases, by the kernel's reckoning. -/
import Derived.Test.YteaaahcgkodcdaaYv
namespace Go.Proofs.Yteaaahcgkodcdaa.Ew
open Go Go.RowKit

theorem grows_0 : okGR 0 8 = true := by kernel_rfl
theorem grows_8 : okGR 8 8 = true := by kernel_rfl
theorem grows_16 : okGR 16 4 = true := by kernel_rfl
theorem grows_20 : okGR 20 4 = true := by kernel_rfl
theorem grows_24 : okGR 24 4 = true := by kernel_rfl
theorem grows_28 : okGR 28 4 = true := by kernel_rfl

end Go.Proofs.Yteaaahcgkodcdaa.Ew
