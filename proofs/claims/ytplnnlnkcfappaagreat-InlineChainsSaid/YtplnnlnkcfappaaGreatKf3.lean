/- InlineChains: each text's code laid open so deep runs as it should (part 3). (Printed by gen_ic.py.) -/
import Derived.Test.YtplnnlnkcfappaaGreatKd
import Derived.KernelRfl
namespace Go.Proofs.YtplnnlnkcfappaaGreat.Sv
open Go.RowKit E3
set_option maxRecDepth 10000000
set_option maxHeartbeats 0


theorem stB9d7 : isTrue (stB noOrc nx9 rs9 rt9 (.nat 7) 9 1) = true := by kernel_rfl
theorem stB9d5 : isTrue (stB noOrc nx9 rs9 rt9 (.nat 5) 9 1) = true := by kernel_rfl
theorem stB6a : isTrue (stB (ocL (ocA 6)) nx6 rs6 rt6 (.sym 0) 6 0) = true := by kernel_rfl
theorem stB10d2 : isTrue (stB noOrc nx10 rs10 rt10 (.nat 2) 10 1) = true := by kernel_rfl
theorem stB9d1 : isTrue (stB noOrc nx9 rs9 rt9 (.nat 1) 9 1) = true := by kernel_rfl
theorem stB4b : isTrue (stB (ocL ocB) nx4 rs4 rt4 (.sym 0) 4 0) = true := by kernel_rfl
theorem stB3d2 : isTrue (stB noOrc nx3 rs3 rt3 (.nat 2) 3 1) = true := by kernel_rfl
theorem stB2a : isTrue (stB (ocL (ocA 2)) nx2 rs2 rt2 (.sym 0) 2 0) = true := by kernel_rfl
theorem stB1a : isTrue (stB (ocL (ocA 1)) nx1 rs1 rt1 (.sym 0) 1 0) = true := by kernel_rfl

end Go.Proofs.YtplnnlnkcfappaaGreat.Sv
