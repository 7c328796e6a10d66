/- InlineChains: each text's code laid open so deep runs as it should (part 6). (Printed by gen_ic.py.) -/
import Derived.Test.YtplnnlnkcfappaaGreatKd
import Derived.KernelRfl
namespace Go.Proofs.YtplnnlnkcfappaaGreat.Sv
open Go.RowKit E3
set_option maxRecDepth 10000000
set_option maxHeartbeats 0


theorem stB8d7 : isTrue (stB noOrc nx8 rs8 rt8 (.nat 7) 8 1) = true := by kernel_rfl
theorem stB8d6 : isTrue (stB noOrc nx8 rs8 rt8 (.nat 6) 8 1) = true := by kernel_rfl
theorem stB9d4 : isTrue (stB noOrc nx9 rs9 rt9 (.nat 4) 9 1) = true := by kernel_rfl
theorem stB7d4 : isTrue (stB noOrc nx7 rs7 rt7 (.nat 4) 7 1) = true := by kernel_rfl
theorem stB5d3 : isTrue (stB noOrc nx5 rs5 rt5 (.nat 3) 5 1) = true := by kernel_rfl
theorem stB6d2 : isTrue (stB noOrc nx6 rs6 rt6 (.nat 2) 6 1) = true := by kernel_rfl
theorem stB8d0 : isTrue (stB noOrc nx8 rs8 rt8 (.nat 0) 8 1) = true := by kernel_rfl
theorem stB2d1 : isTrue (stB noOrc nx2 rs2 rt2 (.nat 1) 2 1) = true := by kernel_rfl
theorem stB2d0 : isTrue (stB noOrc nx2 rs2 rt2 (.nat 0) 2 1) = true := by kernel_rfl

end Go.Proofs.YtplnnlnkcfappaaGreat.Sv
