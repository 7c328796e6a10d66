/- StackWays: Pops and Pushes, both ways. -/
import Derived.Test.YteaaahcgkodcdaaSa
import Derived.WalkLawsBesides
namespace Go.Proofs.Yteaaahcgkodcdaa.Wa
open Go.RowKit
set_option linter.unusedSimpArgs false
set_option linter.unusedVariables false

theorem ret_int {k : IntKind} {a b : Int} (h : a = b) : Ending.returned (.int k a) = .returned (.int k b) := by rw [h]

def pops (op a n : Int) : Int :=
  if op = 5 then 2 else if op = 6 ∨ op = 3 ∨ op = 4 ∨ op = 8 ∨ op = 10 ∨ op = 11 then 1 else if op = 9 then (if n < 0 then 0 else n) else if op = 13 then (if a < 0 then 0 else a) else 0
def pushes (op : Int) : Int := if op = 5 ∨ op = 6 ∨ op = 9 ∨ op = 13 ∨ op = 1 ∨ op = 2 then 1 else 0

set_option maxHeartbeats 1000000 in
theorem pops_calls (op x n : Int) (w : World) : Calls Try.prog 21 #[.agg #[.int .i64 op, .int .i64 x, .int .i64 n]] w fun e w' => e = .returned (.int .i64 (pops op x n)) ∧ w' = w.alloc (.cells #[.int .i64 op, .int .i64 x, .int .i64 n] 50) := by
  go_enter Try.func21, Try.ntmps21
  go_wp2
  all_goals (go_ret; refine ⟨ret_int ?_, rfl⟩; simp only [beq_iff_eq, beq_eq_false_iff_ne] at *; simp [pops, pushes, *] <;> omega)

set_option maxHeartbeats 1000000 in
theorem pops7_calls (op x n : Int) (w : World) : Calls Try.prog 22 #[.agg #[.int .i64 op, .int .i64 x, .int .i64 n]] w fun e w' => e = .returned (.int .i64 (pops op x n)) ∧ w' = w.alloc (.cells #[.int .i64 op, .int .i64 x, .int .i64 n] 50) := by
  go_enter Try.func22, Try.ntmps22
  go_wp2
  all_goals (go_ret; refine ⟨ret_int ?_, rfl⟩; simp only [beq_iff_eq, beq_eq_false_iff_ne] at *; simp [pops, pushes, *] <;> omega)

set_option maxHeartbeats 1000000 in
theorem pushes_calls (op x n : Int) (w : World) : Calls Try.prog 23 #[.agg #[.int .i64 op, .int .i64 x, .int .i64 n]] w fun e w' => e = .returned (.int .i64 (pushes op)) ∧ w' = w.alloc (.cells #[.int .i64 op, .int .i64 x, .int .i64 n] 50) := by
  go_enter Try.func23, Try.ntmps23
  go_wp2
  all_goals (go_ret; refine ⟨ret_int ?_, rfl⟩; simp only [beq_iff_eq, beq_eq_false_iff_ne] at *; simp [pops, pushes, *] <;> omega)

set_option maxHeartbeats 1000000 in
theorem pushes7_calls (op x n : Int) (w : World) : Calls Try.prog 24 #[.agg #[.int .i64 op, .int .i64 x, .int .i64 n]] w fun e w' => e = .returned (.int .i64 (pushes op)) ∧ w' = w.alloc (.cells #[.int .i64 op, .int .i64 x, .int .i64 n] 50) := by
  go_enter Try.func24, Try.ntmps24
  go_wp2
  all_goals (go_ret; refine ⟨ret_int ?_, rfl⟩; simp only [beq_iff_eq, beq_eq_false_iff_ne] at *; simp [pops, pushes, *] <;> omega)

end Go.Proofs.Yteaaahcgkodcdaa.Wa
