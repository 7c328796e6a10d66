/- StackGrows: cases, by the kernel's reckoning. -/
import Derived.Test.YteaaahcgkodcdaaYv
namespace Go.Proofs.Yteaaahcgkodcdaa.Ew
open Go Go.RowKit

theorem grows_44 : okGR 44 1 = true := by kernel_rfl
theorem grows_45 : okGR 45 1 = true := by kernel_rfl
theorem grows_46 : okGR 46 1 = true := by kernel_rfl
theorem grows_47 : okGR 47 1 = true := by kernel_rfl
theorem grows_48 : okGR 48 1 = true := by kernel_rfl
theorem grows_49 : okGR 49 1 = true := by kernel_rfl
theorem grows_50 : okGR 50 1 = true := by kernel_rfl
theorem grows_51 : okGR 51 1 = true := by kernel_rfl

end Go.Proofs.Yteaaahcgkodcdaa.Ew
