/- InlineChains: what the layer's own awake() tells. -/
import Derived.Test.YtplnnlnkcfappaaGreatKa
import Derived.KernelRfl
namespace Go.Proofs.YtplnnlnkcfappaaGreat.Sv
open Go.RowKit E3
set_option maxRecDepth 10000000
set_option maxHeartbeats 0

theorem awake18_true : isTrue (rec Tryz.prog noOrc sk kn2 200 18 [] mem0) = true := by kernel_rfl
theorem awake18_calls (w : World) : Calls Tryz.prog 18 #[] w fun e w' => e = .returned (.bool true) ∧ Below w.heap.size w w' :=
  runs_true (ρ := noSyms) mix (plainly_of plain_names) (noOrc_ok _) lex (kn2_ok _) 200 18 [] [] (dens_nil _) awake18_true (by kernel_rfl) w

end Go.Proofs.YtplnnlnkcfappaaGreat.Sv
