/- RvmSlots: the counts and ticks of code of 58 to 60 unknown instructions. -/
import Derived.Test.YtplnnlnkcfappaaGreatRb
import Derived.KernelRfl
namespace Go.Proofs.YtplnnlnkcfappaaGreat.Rs
open Go.RowKit Ew
theorem codes7 : ((List.range' 58 3).all fun m => te (goodC m) (goodT m) false) = true := by kernel_rfl
end Go.Proofs.YtplnnlnkcfappaaGreat.Rs
