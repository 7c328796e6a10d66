/- InlineChains: each text's code laid open so deep runs as it should (part 2). (Printed by gen_ic.py.) -/
import Derived.Test.YtplnnlnkcfappaaGreatKd
import Derived.KernelRfl
namespace Go.Proofs.YtplnnlnkcfappaaGreat.Sv
open Go.RowKit E3
set_option maxRecDepth 10000000
set_option maxHeartbeats 0


theorem stB10d7 : isTrue (stB noOrc nx10 rs10 rt10 (.nat 7) 10 1) = true := by kernel_rfl
theorem stB10d4 : isTrue (stB noOrc nx10 rs10 rt10 (.nat 4) 10 1) = true := by kernel_rfl
theorem stB9d3 : isTrue (stB noOrc nx9 rs9 rt9 (.nat 3) 9 1) = true := by kernel_rfl
theorem stB5b : isTrue (stB (ocL ocB) nx5 rs5 rt5 (.sym 0) 5 0) = true := by kernel_rfl
theorem stB6d3 : isTrue (stB noOrc nx6 rs6 rt6 (.nat 3) 6 1) = true := by kernel_rfl
theorem stB10d0 : isTrue (stB noOrc nx10 rs10 rt10 (.nat 0) 10 1) = true := by kernel_rfl
theorem stB4d2 : isTrue (stB noOrc nx4 rs4 rt4 (.nat 2) 4 1) = true := by kernel_rfl
theorem stB6d0 : isTrue (stB noOrc nx6 rs6 rt6 (.nat 0) 6 1) = true := by kernel_rfl

end Go.Proofs.YtplnnlnkcfappaaGreat.Sv
