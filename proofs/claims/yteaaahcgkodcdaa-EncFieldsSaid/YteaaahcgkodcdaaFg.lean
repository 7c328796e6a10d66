/- The walk of EncFields, for every input. -/
import Derived.Test.YteaaahcgkodcdaaFf0
import Derived.Test.YteaaahcgkodcdaaFf1
import Derived.Test.YteaaahcgkodcdaaFf2
import Derived.Test.YteaaahcgkodcdaaFf3
namespace Go.Proofs.Yteaaahcgkodcdaa.Ea
open Go.RowKit

theorem encFields_walk (kind field : Int) (low : Bool) (w : World) :
    Calls Try.prog 5 #[.int .i64 kind, .int .i64 field, .bool low] w fun e w' => e = .returned (.bool true) ∧ Below w.heap.size w w' := by
  have k : bits .and .i64 kind 7 = kind % 8 := and_mask kind 3 (by omega)
  have f : bits .and .i64 field 3 = field % 4 := and_mask field 2 (by omega)
  have f4 : bits .and .i64 field 3 = 0 ∨ bits .and .i64 field 3 = 1 ∨ bits .and .i64 field 3 = 2 ∨ bits .and .i64 field 3 = 3 := by rw [f]; omega
  have k8 : bits .and .i64 kind 7 = 0 ∨ bits .and .i64 kind 7 = 1 ∨ bits .and .i64 kind 7 = 2 ∨ bits .and .i64 kind 7 = 3 ∨ bits .and .i64 kind 7 = 4 ∨ bits .and .i64 kind 7 = 5 ∨ bits .and .i64 kind 7 = 6 ∨ bits .and .i64 kind 7 = 7 := by rw [k]; omega
  rcases k8 with h | h | h | h | h | h | h | h
  · exact fields_walk0 kind field low w h f4
  · exact fields_walk1 kind field low w h f4
  · exact fields_walk2 kind field low w h f4
  · exact fields_walk3 kind field low w h f4
  · exact fields_walk4 kind field low w h f4
  · exact fields_walk5 kind field low w h f4
  · exact fields_walk6 kind field low w h f4
  · exact fields_walk7 kind field low w h f4

end Go.Proofs.Yteaaahcgkodcdaa.Ea
