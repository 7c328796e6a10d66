/- RvmSlots: the counts and ticks of code of 20 to 31 unknown instructions. -/
import Derived.Test.YtplnnlnkcfappaaGreatRb
import Derived.KernelRfl
namespace Go.Proofs.YtplnnlnkcfappaaGreat.Rs
open Go.RowKit Ew
theorem codes1 : ((List.range' 20 12).all fun m => te (goodC m) (goodT m) false) = true := by kernel_rfl
end Go.Proofs.YtplnnlnkcfappaaGreat.Rs
