/- InlineChains: each text's code laid open so deep runs as it should (part 5). (Printed by gen_ic.py.) -/
import Derived.Test.YtplnnlnkcfappaaGreatKd
import Derived.KernelRfl
namespace Go.Proofs.YtplnnlnkcfappaaGreat.Sv
open Go.RowKit E3
set_option maxRecDepth 10000000
set_option maxHeartbeats 0


theorem stB10d6 : isTrue (stB noOrc nx10 rs10 rt10 (.nat 6) 10 1) = true := by kernel_rfl
theorem stB7a : isTrue (stB (ocL (ocA 7)) nx7 rs7 rt7 (.sym 0) 7 0) = true := by kernel_rfl
theorem stB10d3 : isTrue (stB noOrc nx10 rs10 rt10 (.nat 3) 10 1) = true := by kernel_rfl
theorem stB5a : isTrue (stB (ocL (ocA 5)) nx5 rs5 rt5 (.sym 0) 5 0) = true := by kernel_rfl
theorem stB8d2 : isTrue (stB noOrc nx8 rs8 rt8 (.nat 2) 8 1) = true := by kernel_rfl
theorem stB6d1 : isTrue (stB noOrc nx6 rs6 rt6 (.nat 1) 6 1) = true := by kernel_rfl
theorem stB9d0 : isTrue (stB noOrc nx9 rs9 rt9 (.nat 0) 9 1) = true := by kernel_rfl
theorem stB4d1 : isTrue (stB noOrc nx4 rs4 rt4 (.nat 1) 4 1) = true := by kernel_rfl

end Go.Proofs.YtplnnlnkcfappaaGreat.Sv
