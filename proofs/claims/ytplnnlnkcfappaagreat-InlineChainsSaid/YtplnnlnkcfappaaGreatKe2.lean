/- InlineChains: each text is lifted to these rows (part 2). (Printed by gen_ic.py.) -/
import Derived.Test.YtplnnlnkcfappaaGreatKd
import Derived.KernelRfl
namespace Go.Proofs.YtplnnlnkcfappaaGreat.Sv
open Go.RowKit E3
set_option maxRecDepth 10000000
set_option maxHeartbeats 0


theorem stA10 : isTrue (stA tx10 nx10 rs10 rt10) = true := by kernel_rfl

end Go.Proofs.YtplnnlnkcfappaaGreat.Sv
