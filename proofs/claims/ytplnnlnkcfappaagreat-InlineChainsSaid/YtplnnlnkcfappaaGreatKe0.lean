/- InlineChains: each text is lifted to these rows (part 0). (Printed by gen_ic.py.) -/
import Derived.Test.YtplnnlnkcfappaaGreatKd
import Derived.KernelRfl
namespace Go.Proofs.YtplnnlnkcfappaaGreat.Sv
open Go.RowKit E3
set_option maxRecDepth 10000000
set_option maxHeartbeats 0


theorem stA1 : isTrue (stA tx1 nx1 rs1 rt1) = true := by kernel_rfl
theorem stA2 : isTrue (stA tx2 nx2 rs2 rt2) = true := by kernel_rfl
theorem stA3 : isTrue (stA tx3 nx3 rs3 rt3) = true := by kernel_rfl
theorem stA4 : isTrue (stA tx4 nx4 rs4 rt4) = true := by kernel_rfl

end Go.Proofs.YtplnnlnkcfappaaGreat.Sv
