/- The reference's words: bits, Arity, arity; One by kinds of instructions. -/
import Derived.Test.YteaaahcgkodcdaaEg
import Derived.Deep.DeepCutAuto
import Derived.Deep.QuietTactic
import Derived.BigQuiet
namespace Go.Proofs.Yteaaahcgkodcdaa.Ea
open Go.RowKit
set_option linter.unusedSimpArgs false
set_option linter.unusedVariables false

/-- does a number fit into so many bits? -/
def fitB (x : Int) (n : Nat) : Bool := decide (0 ≤ x ∧ x < 2 ^ n)

theorem fitB_yes {x : Int} {n : Nat} (h0 : 0 ≤ x) (h1 : x < 2 ^ n) : fitB x n = true := decide_eq_true ⟨h0, h1⟩
theorem fitB_no {x : Int} {n : Nat} (h : x < 0 ∨ 2 ^ n ≤ x) : fitB x n = false := decide_eq_false (by omega)

theorem ret_bool {a b : Bool} (h : a = b) : Ending.returned (.bool a) = .returned (.bool b) := by rw [h]

theorem pow_le62 {n : Nat} (hn : n ≤ 62) : (2 : Int) ^ n ≤ 4611686018427387904 := by
  have := Nat.pow_le_pow_right (n := 2) (by omega) hn
  have h3 : (((2 ^ n : Nat)) : Int) ≤ ((2 ^ 62 : Nat) : Int) := by omega
  simpa using h3

set_option maxHeartbeats 400000 in
theorem bits_calls (x : Int) (n : Nat) (w : World) (hn : n ≤ 62) : Calls Try.prog 44 #[.int .i64 x, .int .i64 n] w fun e w' => e = .returned (.bool (fitB x n)) ∧ w' = w := by
  have hp : (0 : Int) < 2 ^ n := Int.pow_pos (by omega)
  have hq := pow_le62 hn
  have hw : IntKind.i64.wrap (2 ^ n) = 2 ^ n := IntWalk.i64_in _ (by omega)
  have hw2 : wrap64 (2 ^ n) = 2 ^ n := IntWalk.wrap64_in _ (by omega)
  by_cases h0 : 0 ≤ x
  · by_cases h1 : x < 2 ^ n
    · have HF := Lib.hid (fitB_yes h0 h1)
      go_enter Try.func44, Try.ntmps44
      go_wp2
      go_ret
      exact ⟨ret_bool (by rw [HF.out]), rfl⟩
    · have HF := Lib.hid (fitB_no (x := x) (n := n) (by omega))
      go_enter Try.func44, Try.ntmps44
      go_wp2
      go_ret
      exact ⟨ret_bool (by rw [HF.out]), rfl⟩
  · have HF := Lib.hid (fitB_no (x := x) (n := n) (by omega))
    go_enter Try.func44, Try.ntmps44
    go_wp2
    go_ret
    exact ⟨ret_bool (by rw [HF.out]), rfl⟩

set_option maxHeartbeats 400000 in
theorem refArity_calls (op : Int) (w : World) : Calls Try.prog 53 #[.int .i64 op] w fun e w' => e = .returned (.int .i64 (arity op)) ∧ w = w' := by
  by_cases h1 : 1 ≤ op
  · by_cases h2 : op ≤ 14
    · go_enter Try.func53, Try.ntmps53
      go_wp2
      go_ret
      exact ⟨ret_int (by rw [arity2 h1 h2]), rfl⟩
    · by_cases h3 : op ≤ 20
      · have h4 : 15 ≤ op := by omega
        go_enter Try.func53, Try.ntmps53
        go_wp2
        go_ret
        exact ⟨ret_int (by rw [arity1 h4 h3]), rfl⟩
      · go_enter Try.func53, Try.ntmps53
        go_wp2
        go_ret
        exact ⟨ret_int (by rw [arity0 (by omega)]), rfl⟩
  · have h2 : ¬ 15 ≤ op := by omega
    go_enter Try.func53, Try.ntmps53
    go_wp2
    go_ret
    exact ⟨ret_int (by rw [arity0 (by omega)]), rfl⟩

set_option maxHeartbeats 400000 in
theorem machArity_calls (op : Int) (w : World) (h0 : 0 ≤ op) (h1 : op ≤ 60) : Calls Try.prog 45 #[.int .i64 op] w fun e w' => e = .returned (.int .i64 (arity (op - 32))) ∧ w = w' := by
  by_cases h2 : op < 32
  · go_enter Try.func45, Try.ntmps45
    go_wp2
    go_ret
    exact ⟨ret_int (by rw [arity0 (by omega)]), rfl⟩
  · have h3 : ¬ (60 < op) := by omega
    go_enter Try.func45, Try.ntmps45
    go_wp2_with (go_at_call 53; refine (refArity_calls _ _).mono ?_; rintro e w' ⟨rfl, rfl⟩)
    go_ret
    exact ⟨rfl, rfl⟩

end Go.Proofs.Yteaaahcgkodcdaa.Ea
