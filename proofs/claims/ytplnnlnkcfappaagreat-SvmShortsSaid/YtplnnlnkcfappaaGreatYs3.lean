/- SvmShorts: cases, by the kernel's reckoning. -/
import Derived.Test.YtplnnlnkcfappaaGreatYa
namespace Go.Proofs.YtplnnlnkcfappaaGreat.Ew
open Go Go.RowKit

theorem shorts_6 : isTrue (rec Tryz.prog noOrc sk kn 200 6 [.bool true, .bool true, .bool false] mem0) = true := by kernel_rfl
theorem shorts_7 : isTrue (rec Tryz.prog noOrc sk kn 200 6 [.bool true, .bool true, .bool true] mem0) = true := by kernel_rfl

end Go.Proofs.YtplnnlnkcfappaaGreat.Ew
