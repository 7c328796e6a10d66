/- StackGrows: cases, by the kernel's reckoning. -/
import Derived.Test.YteaaahcgkodcdaaYv
namespace Go.Proofs.Yteaaahcgkodcdaa.Ew
open Go Go.RowKit

theorem grows_52 : okGR 52 1 = true := by kernel_rfl
theorem grows_53 : okGR 53 1 = true := by kernel_rfl
theorem grows_54 : okGR 54 1 = true := by kernel_rfl
theorem grows_55 : okGR 55 1 = true := by kernel_rfl
theorem grows_56 : okGR 56 1 = true := by kernel_rfl
theorem grows_57 : okGR 57 1 = true := by kernel_rfl

end Go.Proofs.Yteaaahcgkodcdaa.Ew
