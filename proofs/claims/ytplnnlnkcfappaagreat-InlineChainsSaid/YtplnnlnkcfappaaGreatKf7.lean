/- InlineChains: each text's code laid open so deep runs as it should (part 7). (Printed by gen_ic.py.) -/
import Derived.Test.YtplnnlnkcfappaaGreatKd
import Derived.KernelRfl
namespace Go.Proofs.YtplnnlnkcfappaaGreat.Sv
open Go.RowKit E3
set_option maxRecDepth 10000000
set_option maxHeartbeats 0


theorem stB9d6 : isTrue (stB noOrc nx9 rs9 rt9 (.nat 6) 9 1) = true := by kernel_rfl
theorem stB10d5 : isTrue (stB noOrc nx10 rs10 rt10 (.nat 5) 10 1) = true := by kernel_rfl
theorem stB7d5 : isTrue (stB noOrc nx7 rs7 rt7 (.nat 5) 7 1) = true := by kernel_rfl
theorem stB8d3 : isTrue (stB noOrc nx8 rs8 rt8 (.nat 3) 8 1) = true := by kernel_rfl
theorem stB7d2 : isTrue (stB noOrc nx7 rs7 rt7 (.nat 2) 7 1) = true := by kernel_rfl
theorem stB8d1 : isTrue (stB noOrc nx8 rs8 rt8 (.nat 1) 8 1) = true := by kernel_rfl
theorem stB7d0 : isTrue (stB noOrc nx7 rs7 rt7 (.nat 0) 7 1) = true := by kernel_rfl
theorem stB2b : isTrue (stB (ocL ocB) nx2 rs2 rt2 (.sym 0) 2 0) = true := by kernel_rfl
theorem stB1b : isTrue (stB (ocL ocB) nx1 rs1 rt1 (.sym 0) 1 0) = true := by kernel_rfl

end Go.Proofs.YtplnnlnkcfappaaGreat.Sv
