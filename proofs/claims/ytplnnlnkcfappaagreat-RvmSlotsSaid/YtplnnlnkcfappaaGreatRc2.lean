/- RvmSlots: the counts and ticks of code of 32 to 39 unknown instructions. -/
import Derived.Test.YtplnnlnkcfappaaGreatRb
import Derived.KernelRfl
namespace Go.Proofs.YtplnnlnkcfappaaGreat.Rs
open Go.RowKit Ew
theorem codes2 : ((List.range' 32 8).all fun m => te (goodC m) (goodT m) false) = true := by kernel_rfl
end Go.Proofs.YtplnnlnkcfappaaGreat.Rs
