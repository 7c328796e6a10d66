/- awake of this seat: true, whatever the memory. -/
import Derived.Test.YteaaahcgkodcdaaVm
import Derived.Test.YteaaahcgkodcdaaProg
import Derived.KernelRfl
namespace Go.Proofs.Yteaaahcgkodcdaa.Ev
open Go Go.RowKit

theorem mix : Try.prog.follows .mixedOrders = true := by kernel_rfl
theorem plain_names : (Try.prog.funcs.toList.all fun fn => !(fn.name == "runtime.NumGoroutine")) = true := by kernel_rfl
theorem awake_true : isTrue (runs Try.prog noneKnown 100000 20 []) = true := by kernel_rfl
theorem awake_calls (w : World) : Calls Try.prog 20 #[] w fun e w' => e = .returned (.bool true) ∧ Below w.heap.size w w' :=
  runs_true mix (plainly_of plain_names) (noneKnown_ok _) 100000 20 [] awake_true w

/-- awake as a known call -/
def kn : Known := fun f args => match Nat.beq f 20 with
  | true => match args with
    | [] => some (.bool true)
    | _ => none
  | false => none

theorem kn_ok : KnownOk Try.prog kn := by
  intro f args v h
  unfold kn at h
  split at h
  · rename_i hf
    obtain rfl : f = 20 := Nat.eq_of_beq_eq_true hf
    split at h
    · obtain rfl := Option.some.inj h
      refine ⟨⟨Try.f20, Try.func20, rfl⟩, fun F w vs hd => ?_⟩
      rw [dens_nil] at hd
      obtain rfl := Option.some.inj hd
      exact awake_calls w
    · cases h
  · cases h

end Go.Proofs.Yteaaahcgkodcdaa.Ev
