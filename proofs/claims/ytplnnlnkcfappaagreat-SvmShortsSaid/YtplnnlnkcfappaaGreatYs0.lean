/- SvmShorts: cases, by the kernel's reckoning. -/
import Derived.Test.YtplnnlnkcfappaaGreatYa
namespace Go.Proofs.YtplnnlnkcfappaaGreat.Ew
open Go Go.RowKit

theorem shorts_0 : isTrue (rec Tryz.prog noOrc sk kn 200 6 [.bool false, .bool false, .bool false] mem0) = true := by kernel_rfl
theorem shorts_1 : isTrue (rec Tryz.prog noOrc sk kn 200 6 [.bool false, .bool false, .bool true] mem0) = true := by kernel_rfl

end Go.Proofs.YtplnnlnkcfappaaGreat.Ew
