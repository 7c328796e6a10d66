/- StackGrows: cases, by the kernel's reckoning. -/
import Derived.Test.YteaaahcgkodcdaaYv
namespace Go.Proofs.Yteaaahcgkodcdaa.Ew
open Go Go.RowKit

theorem grows_64 : okGR 64 2 = true := by kernel_rfl
theorem grows_66 : okGR 66 2 = true := by kernel_rfl
theorem grows_68 : okGR 68 2 = true := by kernel_rfl
theorem grows_70 : okGR 70 2 = true := by kernel_rfl
theorem grows_72 : okGR 72 2 = true := by kernel_rfl
theorem grows_74 : okGR 74 2 = true := by kernel_rfl
theorem grows_76 : okGR 76 2 = true := by kernel_rfl
theorem grows_78 : okGR 78 2 = true := by kernel_rfl

end Go.Proofs.Yteaaahcgkodcdaa.Ew
