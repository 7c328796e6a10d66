/- The reference's Back, of any word. -/
import Derived.Test.YteaaahcgkodcdaaGh0
import Derived.Test.YteaaahcgkodcdaaGh1
import Derived.Test.YteaaahcgkodcdaaGh2
import Derived.Test.YteaaahcgkodcdaaGh3
namespace Go.Proofs.Yteaaahcgkodcdaa.Ea
open Go.RowKit

theorem rback_calls (v : Int) (w : World) (h0 : 0 ≤ v) (h1 : v < 4294967296) : Calls Try.prog 16 #[.int .u32 v] w (BackPost v w) := by
  by_cases n1 : v / 16777216 = 1
  · exact rback_1 v w h0 h1 n1
  by_cases n2 : v / 16777216 = 2
  · exact rback_2 v w h0 h1 n2
  by_cases n4 : v / 16777216 = 4
  · exact rback_4 v w h0 h1 n4
  by_cases n5 : v / 16777216 = 5
  · exact rback_5 v w h0 h1 n5
  by_cases n6 : v / 16777216 = 6
  · exact rback_6 v w h0 h1 n6
  by_cases n7 : v / 16777216 = 7
  · exact rback_7 v w h0 h1 n7
  by_cases n8 : v / 16777216 = 8
  · exact rback_8 v w h0 h1 n8
  by_cases n9 : v / 16777216 = 9
  · exact rback_9 v w h0 h1 n9
  by_cases n10 : v / 16777216 = 10
  · exact rback_10 v w h0 h1 n10
  by_cases n11 : v / 16777216 = 11
  · exact rback_11 v w h0 h1 n11
  by_cases n12 : v / 16777216 = 12
  · exact rback_12 v w h0 h1 n12
  by_cases n13 : v / 16777216 = 13
  · exact rback_13 v w h0 h1 n13
  by_cases n14 : v / 16777216 = 14
  · exact rback_14 v w h0 h1 n14
  by_cases n15 : v / 16777216 = 15
  · exact rback_15 v w h0 h1 n15
  by_cases n16 : v / 16777216 = 16
  · exact rback_16 v w h0 h1 n16
  by_cases n17 : v / 16777216 = 17
  · exact rback_17 v w h0 h1 n17
  exact rback_big v w h0 h1 n1 n2 n4 n5 n6 n7 n8 n9 n10 n11 n12 n13 n14 n15 n16 n17

end Go.Proofs.Yteaaahcgkodcdaa.Ea
