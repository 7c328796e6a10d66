/- The second evaluator at this seat's program: what it wants of the program; awake. -/
import Derived.Test.YteaaahcgkodcdaaXk
import Derived.Test.YteaaahcgkodcdaaProg
import Derived.KernelRfl
namespace Go.Proofs.Yteaaahcgkodcdaa.Ew
open Go Go.RowKit

theorem mix : Try.prog.follows .mixedOrders = true := by kernel_rfl
theorem plain_names : (Try.prog.funcs.toList.all fun fn => !(fn.name == "runtime.NumGoroutine")) = true := by kernel_rfl
/-- functions that are passed over -/
noncomputable def sk : Nat → Nat → Bool := fun f _ => te (Nat.ble f 6) true (te (Nat.ble f 10) false (te (Nat.ble f 19) true (te (te (Nat.ble 34 f) (Nat.ble f 38) false) true (te (Nat.ble 44 f) (Nat.ble f 45) false))))
theorem lex : LexOk Try.prog sk := lexOk_of (by kernel_rfl)

theorem noOrc_ok (ρ : Syms) : OrcOk ρ Try.prog noOrc := fun _ _ _ _ h => by cases h
theorem noneKnown_ok' (ρ : Syms) : KnownOk ρ Try.prog noneKnown := fun _ _ _ h => by cases h
def noSyms : Syms := ⟨fun _ => .int .i64 0, fun _ => rfl⟩

theorem awake_true : isTrue (rec Try.prog noOrc sk noneKnown 200 20 [] mem0) = true := by kernel_rfl
theorem awake_calls (w : World) : Calls Try.prog 20 #[] w fun e w' => e = .returned (.bool true) ∧ Below w.heap.size w w' :=
  runs_true (ρ := noSyms) mix (plainly_of plain_names) (noOrc_ok _) lex (noneKnown_ok' _) 200 20 [] [] (by simp [dens]) awake_true w

/-- awake as a known call -/
noncomputable def kn : Known := fun f args => Bool.rec (motive := fun _ => Option AV) none (List.rec (motive := fun _ => Option AV) (some (.bool true)) (fun _ _ _ => none) args) (Nat.beq f 20)

theorem kn_ok (ρ : Syms) : KnownOk ρ Try.prog kn := by
  intro f args v h
  by_cases hf : Nat.beq f 20 = true
  · obtain rfl : f = 20 := Nat.eq_of_beq_eq_true hf
    cases args with
    | nil =>
      obtain rfl := Option.some.inj (show some (AV.bool true) = some v from h)
      refine ⟨⟨Try.f20, Try.func20, rfl⟩, fun F w vs hd => ?_⟩
      rw [dens_nil] at hd
      obtain rfl := Option.some.inj hd
      exact (awake_calls w).mono fun e w' ⟨h1, h2⟩ => ⟨.bool true, h1, by simp [den], h2⟩
    | cons x l => cases h
  · unfold kn at h
    cases hb : Nat.beq f 20 with
    | true => exact absurd hb hf
    | false => rw [hb] at h; cases h

end Go.Proofs.Yteaaahcgkodcdaa.Ew
