/- InlineChains: each text's code laid open so deep runs as it should (part 1). (Printed by gen_ic.py.) -/
import Derived.Test.YtplnnlnkcfappaaGreatKd
import Derived.KernelRfl
namespace Go.Proofs.YtplnnlnkcfappaaGreat.Sv
open Go.RowKit E3
set_option maxRecDepth 10000000
set_option maxHeartbeats 0


theorem stB9b : isTrue (stB (ocL ocB) nx9 rs9 rt9 (.sym 0) 9 1) = true := by kernel_rfl
theorem stB7d6 : isTrue (stB noOrc nx7 rs7 rt7 (.nat 6) 7 1) = true := by kernel_rfl
theorem stB8d4 : isTrue (stB noOrc nx8 rs8 rt8 (.nat 4) 8 1) = true := by kernel_rfl
theorem stB9d2 : isTrue (stB noOrc nx9 rs9 rt9 (.nat 2) 9 1) = true := by kernel_rfl
theorem stB10d1 : isTrue (stB noOrc nx10 rs10 rt10 (.nat 1) 10 1) = true := by kernel_rfl
theorem stB7d1 : isTrue (stB noOrc nx7 rs7 rt7 (.nat 1) 7 1) = true := by kernel_rfl
theorem stB3b : isTrue (stB (ocL ocB) nx3 rs3 rt3 (.sym 0) 3 0) = true := by kernel_rfl
theorem stB4d0 : isTrue (stB noOrc nx4 rs4 rt4 (.nat 0) 4 1) = true := by kernel_rfl
theorem stB3d0 : isTrue (stB noOrc nx3 rs3 rt3 (.nat 0) 3 1) = true := by kernel_rfl

end Go.Proofs.YtplnnlnkcfappaaGreat.Sv
