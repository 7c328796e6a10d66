/- Plain laws on an instruction's word: fields joined by or are sums. -/
import Derived.Test.YteaaahcgkodcdaaEb
namespace Go.Proofs.Yteaaahcgkodcdaa.Ea
open Go.RowKit
set_option linter.unusedSimpArgs false
set_option linter.unusedVariables false

/-- an operand by its place -/
def opd (a b c d : Int) (j : Nat) : Int := if j = 0 then a else if j = 1 then b else if j = 2 then c else d

def goodAt (op : Int) (n : Nat) (x : Nat → Int) (j : Nat) : Prop := if j < n then 0 ≤ x j ∧ x j < 2 ^ (fBits op j).toNat else x j = 0

instance (op : Int) (n : Nat) (x : Nat → Int) (j : Nat) : Decidable (goodAt op n x j) := by unfold goodAt; infer_instance

def acc (op : Int) (n : Nat) (x : Nat → Int) : Nat → Int
  | 0 => op * 16777216
  | k + 1 => if k < n then acc op n x k + x k * 2 ^ (fAt op k).toNat else acc op n x k

def okAll (op : Int) (n : Nat) (x : Nat → Int) : Bool := decide (goodAt op n x 0) && decide (goodAt op n x 1) && decide (goodAt op n x 2) && decide (goodAt op n x 3)

theorem okAll_false {op : Int} {n : Nat} {x : Nat → Int} {j : Nat} (hj : j < 4) (h : ¬ goodAt op n x j) : okAll op n x = false := by
  obtain rfl | rfl | rfl | rfl : j = 0 ∨ j = 1 ∨ j = 2 ∨ j = 3 := by omega
  all_goals simp [okAll, h]

theorem okAll_true {op : Int} {n : Nat} {x : Nat → Int} (h : ∀ j, j < 4 → goodAt op n x j) : okAll op n x = true := by
  simp [okAll, h 0 (by omega), h 1 (by omega), h 2 (by omega), h 3 (by omega)]

theorem okAll_good {op : Int} {n : Nat} {x : Nat → Int} (h : okAll op n x = true) : ∀ j, j < 4 → goodAt op n x j := by
  simp [okAll] at h
  intro j hj
  obtain rfl | rfl | rfl | rfl : j = 0 ∨ j = 1 ∨ j = 2 ∨ j = 3 := by omega
  · exact h.1.1.1
  · exact h.1.1.2
  · exact h.1.2
  · exact h.2

theorem join (i : Nat) (A y : Int) (hA : A % 2 ^ i = 0) (h0 : 0 ≤ A) (h1 : A < 4294967296) (y0 : 0 ≤ y) (y1 : y < 2 ^ i) (y2 : y < 4294967296) : bits .or .u32 A y = A + y := by
  rw [u32_or A y h0 h1 y0 y2, nat_join i]
  · omega
  · have : ((A.toNat % 2 ^ i : Nat) : Int) = 0 := by
      rw [Int.natCast_emod, Int.toNat_of_nonneg h0]; simpa using hA
    omega
  · have : ((y.toNat : Nat) : Int) < ((2 ^ i : Nat) : Int) := by
      rw [Int.toNat_of_nonneg y0]; simpa using y1
    omega

theorem at_bounds (op : Int) (k : Nat) (hk : k < 4) (n : Nat) (hn : many op = n) (hkn : k < n) : 0 ≤ fAt op k ∧ fAt op k ≤ 24 ∧ 0 ≤ fBits op k ∧ fBits op k ≤ 24 := by
  unfold fAt fBits
  rcases op_class op n hn with h | ⟨h1, h2, h3⟩ | ⟨h1, h2, h3⟩
  · rcases h with ⟨rfl, rfl⟩ | ⟨rfl, rfl⟩ | ⟨rfl, rfl⟩ | ⟨rfl, rfl⟩ | ⟨rfl, rfl⟩ | ⟨rfl, rfl⟩ | ⟨rfl, rfl⟩ | ⟨rfl, rfl⟩ | ⟨rfl, rfl⟩ | ⟨rfl, rfl⟩ | ⟨rfl, rfl⟩ | ⟨rfl, rfl⟩ | ⟨rfl, rfl⟩ | ⟨rfl, rfl⟩ | ⟨rfl, rfl⟩ | ⟨rfl, rfl⟩ <;> simp <;> (try split) <;> omega
  · rw [if_neg (by omega), if_neg (by omega), if_neg (by omega), if_neg (by omega), if_neg (by omega), if_neg (by omega), if_neg (by omega), if_neg (by omega)]; omega
  · rw [if_neg (by omega), if_neg (by omega), if_neg (by omega), if_neg (by omega), if_neg (by omega), if_neg (by omega), if_neg (by omega), if_neg (by omega)]; omega

set_option maxHeartbeats 4000000 in
theorem or_step (op : Int) (n : Nat) (x : Nat → Int) (k : Nat) (hn : many op = n) (hk : k < n) (hg : ∀ j, j ≤ k → 0 ≤ x j ∧ x j < 2 ^ (fBits op j).toNat) :
    bits .or .u32 (acc op n x k) (x k % 4294967296 * 2 ^ (fAt op k).toNat % 4294967296) = acc op n x (k + 1) := by
  rcases op_class op n hn with h | ⟨h1, h2, rfl⟩ | ⟨h1, h2, rfl⟩
  · rcases h with ⟨rfl, rfl⟩ | ⟨rfl, rfl⟩ | ⟨rfl, rfl⟩ | ⟨rfl, rfl⟩ | ⟨rfl, rfl⟩ | ⟨rfl, rfl⟩ | ⟨rfl, rfl⟩ | ⟨rfl, rfl⟩ | ⟨rfl, rfl⟩ | ⟨rfl, rfl⟩ | ⟨rfl, rfl⟩ | ⟨rfl, rfl⟩ | ⟨rfl, rfl⟩ | ⟨rfl, rfl⟩ | ⟨rfl, rfl⟩ | ⟨rfl, rfl⟩
    all_goals
      obtain rfl | rfl | rfl | rfl : k = 0 ∨ k = 1 ∨ k = 2 ∨ k = 3 := by omega
      all_goals
        first
        | (exfalso; omega)
        | (have g0 := hg 0 (by omega)
           have g1 := fun h => hg 1 h
           have g2 := fun h => hg 2 h
           have g3 := fun h => hg 3 h
           clear hg hn
           simp [fAt, fBits, acc] at *
           first
           | (rw [join 24] <;> omega)
           | (rw [join 16] <;> omega)
           | (rw [join 18] <;> omega)
           | (rw [join 12] <;> omega)
           | (rw [join 6] <;> omega))
  · have eA := fAtG h1
    have eB := fBitsG h1
    obtain rfl | rfl | rfl : k = 0 ∨ k = 1 ∨ k = 2 := by omega
    all_goals
      have g0 := hg 0 (by omega)
      have g1 := fun h => hg 1 h
      have g2 := fun h => hg 2 h
      clear hg hn
      simp [eA, eB, acc] at *
      first
      | (rw [join 24] <;> omega)
      | (rw [join 16] <;> omega)
      | (rw [join 8] <;> omega)
  · have eA := fAtG (op := op) (by omega)
    have eB := fBitsG (op := op) (by omega)
    obtain rfl | rfl : k = 0 ∨ k = 1 := by omega
    all_goals
      have g0 := hg 0 (by omega)
      have g1 := fun h => hg 1 h
      clear hg hn
      simp [eA, eB, acc] at *
      first
      | (rw [join 24] <;> omega)
      | (rw [join 16] <;> omega)

end Go.Proofs.Yteaaahcgkodcdaa.Ea
