/- RvmSlots: the counts and ticks of code of 55 to 57 unknown instructions. -/
import Derived.Test.YtplnnlnkcfappaaGreatRb
import Derived.KernelRfl
namespace Go.Proofs.YtplnnlnkcfappaaGreat.Rs
open Go.RowKit Ew
theorem codes6 : ((List.range' 55 3).all fun m => te (goodC m) (goodT m) false) = true := by kernel_rfl
end Go.Proofs.YtplnnlnkcfappaaGreat.Rs
