/- InlineChains: each text's code laid open so deep runs as it should (part 4). (Printed by gen_ic.py.) -/
import Derived.Test.YtplnnlnkcfappaaGreatKd
import Derived.KernelRfl
namespace Go.Proofs.YtplnnlnkcfappaaGreat.Sv
open Go.RowKit E3
set_option maxRecDepth 10000000
set_option maxHeartbeats 0


theorem stB8b : isTrue (stB (ocL ocB) nx8 rs8 rt8 (.sym 0) 8 0) = true := by kernel_rfl
theorem stB7b : isTrue (stB (ocL ocB) nx7 rs7 rt7 (.sym 0) 7 0) = true := by kernel_rfl
theorem stB6b : isTrue (stB (ocL ocB) nx6 rs6 rt6 (.sym 0) 6 0) = true := by kernel_rfl
theorem stB6d4 : isTrue (stB noOrc nx6 rs6 rt6 (.nat 4) 6 1) = true := by kernel_rfl
theorem stB5d4 : isTrue (stB noOrc nx5 rs5 rt5 (.nat 4) 5 1) = true := by kernel_rfl
theorem stB5d2 : isTrue (stB noOrc nx5 rs5 rt5 (.nat 2) 5 1) = true := by kernel_rfl
theorem stB5d1 : isTrue (stB noOrc nx5 rs5 rt5 (.nat 1) 5 1) = true := by kernel_rfl
theorem stB5d0 : isTrue (stB noOrc nx5 rs5 rt5 (.nat 0) 5 1) = true := by kernel_rfl

end Go.Proofs.YtplnnlnkcfappaaGreat.Sv
