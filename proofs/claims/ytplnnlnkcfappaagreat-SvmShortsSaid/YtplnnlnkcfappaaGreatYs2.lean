/- SvmShorts: cases, by the kernel's reckoning. -/
import Derived.Test.YtplnnlnkcfappaaGreatYa
namespace Go.Proofs.YtplnnlnkcfappaaGreat.Ew
open Go Go.RowKit

theorem shorts_4 : isTrue (rec Tryz.prog noOrc sk kn 200 6 [.bool true, .bool false, .bool false] mem0) = true := by kernel_rfl
theorem shorts_5 : isTrue (rec Tryz.prog noOrc sk kn 200 6 [.bool true, .bool false, .bool true] mem0) = true := by kernel_rfl

end Go.Proofs.YtplnnlnkcfappaaGreat.Ew
