/- Contracts of ops.Arity and mach.Many: plain numbers in, a number out; the world stays. -/
import Derived.Test.YteaaahcgkodcdaaProg
import Derived.WalkKit
import Derived.KernelRfl
import Derived.Lib.Hide
namespace Go.Proofs.Yteaaahcgkodcdaa.Ea
open Go.RowKit
set_option linter.unusedSimpArgs false

def arity (op : Int) : Int := if 1 ≤ op ∧ op ≤ 14 then 2 else if 15 ≤ op ∧ op ≤ 20 then 1 else 0

theorem arity2 {op : Int} (h1 : 1 ≤ op) (h2 : op ≤ 14) : arity op = 2 := by unfold arity; rw [if_pos ⟨h1, h2⟩]
theorem arity1 {op : Int} (h1 : 15 ≤ op) (h2 : op ≤ 20) : arity op = 1 := by unfold arity; rw [if_neg (by omega), if_pos ⟨h1, h2⟩]
theorem arity0 {op : Int} (h : op < 1 ∨ 20 < op) : arity op = 0 := by unfold arity; rw [if_neg (by omega), if_neg (by omega)]

def many (op : Int) : Int :=
  if op = 4 ∨ op = 7 ∨ op = 8 ∨ op = 9 ∨ op = 10 ∨ op = 16 then 1
  else if op = 1 ∨ op = 2 ∨ op = 5 ∨ op = 6 ∨ op = 11 ∨ op = 12 ∨ op = 13 ∨ op = 14 ∨ op = 17 then 2
  else if op = 15 then 4
  else if arity (op - 32) = 1 then 2 else if arity (op - 32) = 2 then 3 else -1

theorem ret_int {k : IntKind} {a b : Int} (h : a = b) : Ending.returned (.int k a) = .returned (.int k b) := by rw [h]

set_option maxHeartbeats 400000 in
theorem arity_calls (op : Int) (w : World) : Calls Try.prog 43 #[.int .i64 op] w fun e w' => e = .returned (.int .i64 (arity op)) ∧ w = w' := by
  by_cases h1 : 1 ≤ op
  · by_cases h2 : op ≤ 14
    · go_enter Try.func43, Try.ntmps43
      go_wp2
      go_ret
      exact ⟨ret_int (by rw [arity2 h1 h2]), rfl⟩
    · by_cases h3 : op ≤ 20
      · have h4 : 15 ≤ op := by omega
        go_enter Try.func43, Try.ntmps43
        go_wp2
        go_ret
        exact ⟨ret_int (by rw [arity1 h4 h3]), rfl⟩
      · go_enter Try.func43, Try.ntmps43
        go_wp2
        go_ret
        exact ⟨ret_int (by rw [arity0 (by omega)]), rfl⟩
  · have h2 : ¬ 15 ≤ op := by omega
    go_enter Try.func43, Try.ntmps43
    go_wp2
    go_ret
    exact ⟨ret_int (by rw [arity0 (by omega)]), rfl⟩

theorem arity_wrap {op : Int} (lo : -9223372036854775808 ≤ op) (hi : op ≤ 9223372036854775807) : arity (wrap64 (op - 32)) = arity (op - 32) := by
  by_cases h : -9223372036854775776 ≤ op
  · rw [IntWalk.wrap64_in _ ⟨by omega, by omega⟩]
  · rw [arity0 (op := op - 32) (by omega), arity0]
    unfold wrap64; omega

set_option maxHeartbeats 4000000 in
theorem many_calls (op : Int) (w : World) (lo : -9223372036854775808 ≤ op) (hi : op ≤ 9223372036854775807) : Calls Try.prog 34 #[.int .i64 op] w fun e w' => e = .returned (.int .i64 (many op)) ∧ w = w' := by
  have aw := Lib.hid (arity_wrap lo hi)
  by_cases h : -9223372036854775776 ≤ op
  · go_enter Try.func34, Try.ntmps34
    go_wp2_with (go_at_call 43; refine (arity_calls _ _).mono ?_; rintro e w' ⟨rfl, rfl⟩)
    all_goals (go_ret; refine ⟨ret_int ?_, rfl⟩; simp only [beq_iff_eq, beq_eq_false_iff_ne] at *; simp [many, *])
  · go_enter Try.func34, Try.ntmps34
    go_wp2_with (go_at_call 43; refine (arity_calls _ _).mono ?_; rintro e w' ⟨rfl, rfl⟩)
    all_goals (go_ret; refine ⟨ret_int ?_, rfl⟩; simp only [beq_iff_eq, beq_eq_false_iff_ne, aw.out] at *; simp [many, *])

end Go.Proofs.Yteaaahcgkodcdaa.Ea
