/- RvmSlots: the counts and ticks of code of 0 to 19 unknown instructions. -/
import Derived.Test.YtplnnlnkcfappaaGreatRb
import Derived.KernelRfl
namespace Go.Proofs.YtplnnlnkcfappaaGreat.Rs
open Go.RowKit Ew
theorem codes0 : ((List.range' 0 20).all fun m => te (goodC m) (goodT m) false) = true := by kernel_rfl
end Go.Proofs.YtplnnlnkcfappaaGreat.Rs
