/- StackGrows: cases, by the kernel's reckoning. -/
import Derived.Test.YteaaahcgkodcdaaYv
namespace Go.Proofs.Yteaaahcgkodcdaa.Ew
open Go Go.RowKit

theorem grows_32 : okGR 32 2 = true := by kernel_rfl
theorem grows_34 : okGR 34 2 = true := by kernel_rfl
theorem grows_36 : okGR 36 2 = true := by kernel_rfl
theorem grows_38 : okGR 38 2 = true := by kernel_rfl
theorem grows_40 : okGR 40 2 = true := by kernel_rfl
theorem grows_42 : okGR 42 2 = true := by kernel_rfl

end Go.Proofs.Yteaaahcgkodcdaa.Ew
