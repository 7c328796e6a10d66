/- StackForms: whatever the input. -/
import Derived.Test.YteaaahcgkodcdaaVq0
import Derived.Test.YteaaahcgkodcdaaVq1
namespace Go.Proofs.Yteaaahcgkodcdaa.Ev
open Go Go.RowKit

theorem and_run (kind : Int) : ∃ r : Nat, r ≤ 65535 ∧ ∀ w, (Op.intBits .and .i64 kind 65535).run Try.prog w = .ok (.int .i64 (r : Int)) w := by
  refine ⟨(BitVec.ofInt 64 kind &&& BitVec.ofInt 64 65535).toNat, ?_, fun w => ?_⟩
  · rw [BitVec.toNat_and]
    exact Nat.le_trans Nat.and_le_right (by decide)
  · have hle : (BitVec.ofInt 64 kind &&& BitVec.ofInt 64 65535).toNat ≤ 65535 := by
      rw [BitVec.toNat_and]
      exact Nat.le_trans Nat.and_le_right (by decide)
    show Result.ok (Value.int .i64 (IntKind.i64.wrap ((BitVec.ofInt 64 kind &&& BitVec.ofInt 64 65535).toNat : Int))) w = _
    rw [i64_wrap_small (by omega) (by omega)]

theorem rem_run (r : Nat) (w : World) : (Op.intDiv .rem .i64 (r : Int) 9).run Try.prog w = .ok (.int .i64 ((r % 9 : Nat) : Int)) w := by
  have e : ((r : Int).tmod 9) = ((r % 9 : Nat) : Int) := by
    rw [Int.tmod_eq_emod_of_nonneg (by omega)]
    omega
  simp [Op.intDiv, e]

theorem forms_calls (kind : Int) (low : Bool) (w : World) : Calls Try.prog 9 #[.int .i64 kind, .bool low] w fun e w' => e = .returned (.bool true) ∧ Below w.heap.size w w' := by
  obtain ⟨r, hr, hq⟩ := and_run kind
  have hk := rem_run r
  have hlt : r % 9 < 9 := Nat.mod_lt _ (by omega)
  refine forms kind low (r : Int) ((r % 9 : Nat) : Int) hq hk w ?_
  generalize r % 9 = k at hlt
  cases low
  · match k, hlt with
    | 0, _ => exact forms_false_0 kind r
    | 1, _ => exact forms_false_1 kind r
    | 2, _ => exact forms_false_2 kind r
    | 3, _ => exact forms_false_3 kind r
    | 4, _ => exact forms_false_4 kind r
    | 5, _ => exact forms_false_5 kind r
    | 6, _ => exact forms_false_6 kind r
    | 7, _ => exact forms_false_7 kind r
    | 8, _ => exact forms_false_8 kind r
  · match k, hlt with
    | 0, _ => exact forms_true_0 kind r
    | 1, _ => exact forms_true_1 kind r
    | 2, _ => exact forms_true_2 kind r
    | 3, _ => exact forms_true_3 kind r
    | 4, _ => exact forms_true_4 kind r
    | 5, _ => exact forms_true_5 kind r
    | 6, _ => exact forms_true_6 kind r
    | 7, _ => exact forms_true_7 kind r
    | 8, _ => exact forms_true_8 kind r

end Go.Proofs.Yteaaahcgkodcdaa.Ev
