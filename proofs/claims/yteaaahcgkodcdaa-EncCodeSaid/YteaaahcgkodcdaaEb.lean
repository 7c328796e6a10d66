/- The contract of enc.fields. -/
import Derived.Test.YteaaahcgkodcdaaEa
import Derived.WalkLawsBesides
namespace Go.Proofs.Yteaaahcgkodcdaa.Ea
open Go.RowKit
set_option linter.unusedSimpArgs false

/-- where a field begins -/
def fAt (op : Int) (j : Nat) : Int :=
  if op = 1 ∨ op = 5 ∨ op = 6 ∨ op = 11 ∨ op = 12 ∨ op = 13 ∨ op = 14 then (if j = 0 then 16 else 0)
  else if op = 4 ∨ op = 9 ∨ op = 16 then 0
  else if op = 15 then 18 - 6 * j
  else if op = 17 then (if j = 0 then 12 else 0)
  else 16 - 8 * j
/-- how many bits it has -/
def fBits (op : Int) (j : Nat) : Int :=
  if op = 1 ∨ op = 5 ∨ op = 6 ∨ op = 11 ∨ op = 12 ∨ op = 13 ∨ op = 14 then (if j = 0 then 8 else 16)
  else if op = 4 ∨ op = 9 ∨ op = 16 then 24
  else if op = 15 then 6
  else if op = 17 then 12
  else 8

/-- The kinds of instructions, by their numbers of operands. -/
theorem op_class (op : Int) (n : Nat) (hn : many op = n) :
    ((op = 1 ∧ n = 2) ∨ (op = 2 ∧ n = 2) ∨ (op = 4 ∧ n = 1) ∨ (op = 5 ∧ n = 2) ∨ (op = 6 ∧ n = 2) ∨ (op = 7 ∧ n = 1) ∨ (op = 8 ∧ n = 1) ∨ (op = 9 ∧ n = 1) ∨ (op = 10 ∧ n = 1) ∨ (op = 11 ∧ n = 2)
      ∨ (op = 12 ∧ n = 2) ∨ (op = 13 ∧ n = 2) ∨ (op = 14 ∧ n = 2) ∨ (op = 15 ∧ n = 4) ∨ (op = 16 ∧ n = 1) ∨ (op = 17 ∧ n = 2))
    ∨ (33 ≤ op ∧ op ≤ 46 ∧ n = 3) ∨ (47 ≤ op ∧ op ≤ 52 ∧ n = 2) := by
  unfold many at hn
  by_cases h0 : op < 18
  · left
    have ha : arity (op - 32) = 0 := arity0 (by omega)
    rw [ha] at hn
    split at hn
    · rename_i h
      obtain rfl : n = 1 := by omega
      rcases h with rfl | rfl | rfl | rfl | rfl | rfl <;> decide
    · split at hn
      · rename_i h
        obtain rfl : n = 2 := by omega
        rcases h with rfl | rfl | rfl | rfl | rfl | rfl | rfl | rfl | rfl <;> decide
      · split at hn
        · rename_i h
          obtain rfl : n = 4 := by omega
          subst h; decide
        · simp at hn
  · rw [if_neg (by omega), if_neg (by omega), if_neg (by omega)] at hn
    right
    by_cases h1 : op < 33
    · rw [arity0 (by omega)] at hn; simp at hn
    · by_cases h2 : op ≤ 46
      · rw [arity2 (by omega) (by omega)] at hn; simp at hn; omega
      · by_cases h3 : op ≤ 52
        · rw [arity1 (by omega) (by omega)] at hn; simp at hn; omega
        · rw [arity0 (by omega)] at hn; simp at hn

/-- what the contract of 'fields' says -/
def FieldsPost (op : Int) (n : Nat) (w : World) (e : Ending) (w' : World) : Prop :=
  ∃ C cap, e = .returned (.slice (some ⟨w.heap.size, 0, none⟩) n cap) ∧ w' = w.alloc (.cells C 79)
      ∧ ∀ j : Nat, j < n → C[j * 2]? = some (.int .i64 (fAt op j)) ∧ C[j * 2 + 1]? = some (.int .i64 (fBits op j))

theorem upto1 {p : Nat → Prop} (h0 : p 0) : ∀ j, j < 1 → p j := by
  intro j h; obtain rfl : j = 0 := by omega
  exact h0
theorem upto2 {p : Nat → Prop} (h0 : p 0) (h1 : p 1) : ∀ j, j < 2 → p j := by
  intro j h
  match j, h with
  | 0, _ => exact h0
  | 1, _ => exact h1
theorem upto3 {p : Nat → Prop} (h0 : p 0) (h1 : p 1) (h2 : p 2) : ∀ j, j < 3 → p j := by
  intro j h
  match j, h with
  | 0, _ => exact h0
  | 1, _ => exact h1
  | 2, _ => exact h2
theorem upto4 {p : Nat → Prop} (h0 : p 0) (h1 : p 1) (h2 : p 2) (h3 : p 3) : ∀ j, j < 4 → p j := by
  intro j h
  match j, h with
  | 0, _ => exact h0
  | 1, _ => exact h1
  | 2, _ => exact h2
  | 3, _ => exact h3

set_option maxHeartbeats 4000000 in
theorem fields_small (op : Int) (n : Nat) (w : World) (h : (op = 1 ∧ n = 2) ∨ (op = 2 ∧ n = 2) ∨ (op = 4 ∧ n = 1) ∨ (op = 5 ∧ n = 2) ∨ (op = 6 ∧ n = 2) ∨ (op = 7 ∧ n = 1) ∨ (op = 8 ∧ n = 1) ∨ (op = 9 ∧ n = 1) ∨ (op = 10 ∧ n = 1) ∨ (op = 11 ∧ n = 2)
      ∨ (op = 12 ∧ n = 2) ∨ (op = 13 ∧ n = 2) ∨ (op = 14 ∧ n = 2) ∨ (op = 15 ∧ n = 4) ∨ (op = 16 ∧ n = 1) ∨ (op = 17 ∧ n = 2)) :
    Calls Try.prog 35 #[.int .i64 op] w (FieldsPost op n w) := by
  rcases h with ⟨rfl, rfl⟩ | ⟨rfl, rfl⟩ | ⟨rfl, rfl⟩ | ⟨rfl, rfl⟩ | ⟨rfl, rfl⟩ | ⟨rfl, rfl⟩ | ⟨rfl, rfl⟩ | ⟨rfl, rfl⟩ | ⟨rfl, rfl⟩ | ⟨rfl, rfl⟩ | ⟨rfl, rfl⟩ | ⟨rfl, rfl⟩ | ⟨rfl, rfl⟩ | ⟨rfl, rfl⟩ | ⟨rfl, rfl⟩ | ⟨rfl, rfl⟩
  all_goals
    go_enter Try.func35, Try.ntmps35
    go_wp2_with (fail)
    go_ret
    refine ⟨_, _, rfl, rfl, ?_⟩
    first | exact upto1 ⟨rfl, rfl⟩ | exact upto2 ⟨rfl, rfl⟩ ⟨rfl, rfl⟩ | exact upto4 ⟨rfl, rfl⟩ ⟨rfl, rfl⟩ ⟨rfl, rfl⟩ ⟨rfl, rfl⟩

theorem fAtG {op : Int} (h : 33 ≤ op) (j : Nat) : fAt op j = 16 - 8 * j := by
  unfold fAt; rw [if_neg (by omega), if_neg (by omega), if_neg (by omega), if_neg (by omega)]
theorem fBitsG {op : Int} (h : 33 ≤ op) (j : Nat) : fBits op j = 8 := by
  unfold fBits; rw [if_neg (by omega), if_neg (by omega), if_neg (by omega), if_neg (by omega)]

set_option maxHeartbeats 4000000 in
theorem fields_big (op : Int) (n : Nat) (w : World) (lo : 33 ≤ op) (hi : op ≤ 52) (h : many op = n) (hn : n = 2 ∨ n = 3) :
    Calls Try.prog 35 #[.int .i64 op] w (FieldsPost op n w) := by
  have e : ∀ m : Int, m ≤ 32 → (op == m) = false := fun m hm => by rw [beq_eq_false_iff_ne]; omega
  have e1 := e 1 (by omega)
  have e2 := e 2 (by omega)
  have e4 := e 4 (by omega)
  have e5 := e 5 (by omega)
  have e6 := e 6 (by omega)
  have e7 := e 7 (by omega)
  have e8 := e 8 (by omega)
  have e9 := e 9 (by omega)
  have e10 := e 10 (by omega)
  have e11 := e 11 (by omega)
  have e12 := e 12 (by omega)
  have e13 := e 13 (by omega)
  have e14 := e 14 (by omega)
  have e15 := e 15 (by omega)
  have e16 := e 16 (by omega)
  have e17 := e 17 (by omega)
  clear e
  have a0 := fAtG lo 0
  have a1 := fAtG lo 1
  have a2 := fAtG lo 2
  have b := fBitsG lo
  have A0 := Lib.hid a0
  have A1 := Lib.hid a1
  have A2 := Lib.hid a2
  have B := Lib.hid b
  clear a0 a1 a2 b
  rcases hn with rfl | rfl
  all_goals
    go_enter Try.func35, Try.ntmps35
    go_wp2_with (go_at_call 34; refine (many_calls _ _ (by omega) (by omega)).mono ?_; rintro e w' ⟨rfl, rfl⟩)
    go_ret
    refine ⟨_, _, rfl, rfl, ?_⟩
    first
      | exact upto2 ⟨by rw [A0.out]; rfl, by rw [B.out]; rfl⟩ ⟨by rw [A1.out]; rfl, by rw [B.out]; rfl⟩
      | exact upto3 ⟨by rw [A0.out]; rfl, by rw [B.out]; rfl⟩ ⟨by rw [A1.out]; rfl, by rw [B.out]; rfl⟩ ⟨by rw [A2.out]; rfl, by rw [B.out]; rfl⟩

theorem fields_calls (op : Int) (n : Nat) (w : World) (hn : many op = n) : Calls Try.prog 35 #[.int .i64 op] w (FieldsPost op n w) := by
  rcases op_class op n hn with h | ⟨h1, h2, h3⟩ | ⟨h1, h2, h3⟩
  · exact fields_small op n w h
  · exact fields_big op n w h1 (by omega) hn (by omega)
  · exact fields_big op n w (by omega) h2 hn (by omega)

end Go.Proofs.Yteaaahcgkodcdaa.Ea
