/- InlineChains: each text is lifted to these rows (part 1). (Printed by gen_ic.py.) -/
import Derived.Test.YtplnnlnkcfappaaGreatKd
import Derived.KernelRfl
namespace Go.Proofs.YtplnnlnkcfappaaGreat.Sv
open Go.RowKit E3
set_option maxRecDepth 10000000
set_option maxHeartbeats 0


theorem stA5 : isTrue (stA tx5 nx5 rs5 rt5) = true := by kernel_rfl
theorem stA6 : isTrue (stA tx6 nx6 rs6 rt6) = true := by kernel_rfl
theorem stA7 : isTrue (stA tx7 nx7 rs7 rt7) = true := by kernel_rfl
theorem stA8 : isTrue (stA tx8 nx8 rs8 rt8) = true := by kernel_rfl
theorem stA9 : isTrue (stA tx9 nx9 rs9 rt9) = true := by kernel_rfl

end Go.Proofs.YtplnnlnkcfappaaGreat.Sv
