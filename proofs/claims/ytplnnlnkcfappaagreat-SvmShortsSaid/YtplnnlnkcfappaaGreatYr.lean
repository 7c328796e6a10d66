/- SvmShorts: whatever the input. -/
import Derived.Test.YtplnnlnkcfappaaGreatYs0
import Derived.Test.YtplnnlnkcfappaaGreatYs1
import Derived.Test.YtplnnlnkcfappaaGreatYs2
import Derived.Test.YtplnnlnkcfappaaGreatYs3
namespace Go.Proofs.YtplnnlnkcfappaaGreat.Ew
open Go Go.RowKit

theorem shorts_all (a b c : Bool) : isTrue (rec Tryz.prog noOrc sk kn 200 6 [.bool a, .bool b, .bool c] mem0) = true := by
  cases a <;> cases b <;> cases c
  · exact shorts_0
  · exact shorts_1
  · exact shorts_2
  · exact shorts_3
  · exact shorts_4
  · exact shorts_5
  · exact shorts_6
  · exact shorts_7

theorem shorts_calls (a b c : Bool) (w : World) : Calls Tryz.prog 6 #[.bool a, .bool b, .bool c] w fun e w' => e = .returned (.bool true) ∧ Below w.heap.size w w' :=
  runs_true (ρ := noSyms) mix (plainly_of plain_names) (noOrc_ok _) lex (kn_ok _) 200 6 [.bool a, .bool b, .bool c] [.bool a, .bool b, .bool c] (by simp [dens, den]) (shorts_all a b c) (by kernel_rfl) w

end Go.Proofs.YtplnnlnkcfappaaGreat.Ew
