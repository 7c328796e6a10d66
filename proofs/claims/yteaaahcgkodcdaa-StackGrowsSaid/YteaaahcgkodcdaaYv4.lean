/- StackGrows: cases, by the kernel's reckoning. -/
import Derived.Test.YteaaahcgkodcdaaYv
namespace Go.Proofs.Yteaaahcgkodcdaa.Ew
open Go Go.RowKit

theorem grows_58 : okGR 58 1 = true := by kernel_rfl
theorem grows_59 : okGR 59 1 = true := by kernel_rfl
theorem grows_60 : okGR 60 1 = true := by kernel_rfl
theorem grows_61 : okGR 61 1 = true := by kernel_rfl
theorem grows_62 : okGR 62 1 = true := by kernel_rfl
theorem grows_63 : okGR 63 1 = true := by kernel_rfl

end Go.Proofs.Yteaaahcgkodcdaa.Ew
