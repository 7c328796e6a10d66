/- RvmSlots: awake of layer 23. -/
import Derived.Test.YtplnnlnkcfappaaGreatYa
namespace Go.Proofs.YtplnnlnkcfappaaGreat.Rs
open Go Go.RowKit Go.Proofs.YtplnnlnkcfappaaGreat.Ew

theorem awake27_true : isTrue (rec Tryz.prog noOrc sk kn0 200 27 [] mem0) = true := by kernel_rfl
theorem awake27_calls (w : World) : Calls Tryz.prog 27 #[] w fun e w' => e = .returned (.bool true) ∧ Below w.heap.size w w' :=
  runs_true (ρ := noSyms) mix (plainly_of plain_names) (noOrc_ok _) lex (kn0_ok _) 200 27 [] [] (by simp [dens]) awake27_true (by kernel_rfl) w

end Go.Proofs.YtplnnlnkcfappaaGreat.Rs
