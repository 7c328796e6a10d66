/- InlineChains: each text's code laid open so deep runs as it should (part 0). (Printed by gen_ic.py.) -/
import Derived.Test.YtplnnlnkcfappaaGreatKd
import Derived.KernelRfl
namespace Go.Proofs.YtplnnlnkcfappaaGreat.Sv
open Go.RowKit E3
set_option maxRecDepth 10000000
set_option maxHeartbeats 0


theorem stB10b : isTrue (stB (ocL ocB) nx10 rs10 rt10 (.sym 0) 10 1) = true := by kernel_rfl
theorem stB8d5 : isTrue (stB noOrc nx8 rs8 rt8 (.nat 5) 8 1) = true := by kernel_rfl
theorem stB6d5 : isTrue (stB noOrc nx6 rs6 rt6 (.nat 5) 6 1) = true := by kernel_rfl
theorem stB7d3 : isTrue (stB noOrc nx7 rs7 rt7 (.nat 3) 7 1) = true := by kernel_rfl
theorem stB4a : isTrue (stB (ocL (ocA 4)) nx4 rs4 rt4 (.sym 0) 4 0) = true := by kernel_rfl
theorem stB4d3 : isTrue (stB noOrc nx4 rs4 rt4 (.nat 3) 4 1) = true := by kernel_rfl
theorem stB3a : isTrue (stB (ocL (ocA 3)) nx3 rs3 rt3 (.sym 0) 3 0) = true := by kernel_rfl
theorem stB3d1 : isTrue (stB noOrc nx3 rs3 rt3 (.nat 1) 3 1) = true := by kernel_rfl
theorem stB1d0 : isTrue (stB noOrc nx1 rs1 rt1 (.nat 0) 1 1) = true := by kernel_rfl

end Go.Proofs.YtplnnlnkcfappaaGreat.Sv
