/- The third evaluator: whole numbers read digit by digit, the digits not known. -/
import Derived.Test.YtplnnlnkcfappaaGreatQs
namespace Go.Proofs.YtplnnlnkcfappaaGreat.E3
open Go Go.RowKit
set_option linter.unusedSimpArgs false
set_option linter.unusedVariables false

variable {P : Program}

/-- the number of i digits from the j-th on -/
def numD (d : Nat → Nat) (j : Nat) : Nat → Nat
  | 0 => 0
  | i + 1 => 10 * numD d j i + d (j + i) % 10
theorem numD_lt (d : Nat → Nat) (j : Nat) : ∀ i, numD d j i < 10 ^ i
  | 0 => by simp [numD]
  | i + 1 => by
    have := numD_lt d j i
    have h2 := Nat.mod_lt (d (j + i)) (by decide : 0 < 10)
    rw [Nat.pow_succ]
    simp only [numD]
    omega
theorem numD_one (d : Nat → Nat) (j : Nat) : numD d j 1 = d j % 10 := by simp [numD]

abbrev maxD : Nat := 9223372036854775807
def valD (d : Nat → Nat) (k : Nat) : Nat :=
  if k % 32 = 0 then maxD - d (k / 32) % 10
  else if k % 32 = 1 then (maxD - d (k / 32) % 10) / 10
  else if k % 2 = 0 then 10 * numD d (k / 32) (k % 32 / 2)
  else numD d (k / 32) ((k % 32 + 1) / 2)
def symsD (d : Nat → Nat) : Syms := { val := fun k => .int .i64 (valD d k : Nat), one := fun _ => rfl, hole := d }

/-- the value of i digits from the j-th on -/
def vD (j i : Nat) : AV := if i = 1 then .hol 2 j else .sym (32 * j + 2 * i - 1)
theorem vD_den (d : Nat → Nat) (j i : Nat) (h0 : 1 ≤ i) (h1 : i < 16) (F : Env) : den (symsD d) F (vD j i) = some (.int .i64 (numD d j i : Nat)) := by
  unfold vD
  by_cases h : i = 1
  · subst h
    rw [if_pos rfl, numD_one]
    rfl
  · rw [if_neg h]
    simp only [den, symsD, Option.some.injEq, Value.int.injEq, true_and]
    congr 1
    unfold valD
    have e1 : (32 * j + 2 * i - 1) % 32 = 2 * i - 1 := by omega
    have e2 : (32 * j + 2 * i - 1) / 32 = j := by omega
    have e3 : (32 * j + 2 * i - 1) % 2 = 1 := by omega
    rw [e1, e2, e3, if_neg (by omega), if_neg (by omega), if_neg (by omega)]
    congr 1
    omega
theorem tD_den (d : Nat → Nat) (j i : Nat) (h0 : 1 ≤ i) (h1 : i < 16) (F : Env) : den (symsD d) F (.sym (32 * j + 2 * i)) = some (.int .i64 (10 * numD d j i : Nat)) := by
  simp only [den, symsD, Option.some.injEq, Value.int.injEq, true_and]
  congr 1
  unfold valD
  have e1 : (32 * j + 2 * i) % 32 = 2 * i := by omega
  have e2 : (32 * j + 2 * i) / 32 = j := by omega
  have e3 : (32 * j + 2 * i) % 2 = 0 := by omega
  rw [e1, e2, e3, if_neg (by omega), if_neg (by omega), if_pos rfl]
  congr 2
  omega
theorem lD_den (d : Nat → Nat) (j : Nat) (F : Env) : den (symsD d) F (.sym (32 * j)) = some (.int .i64 (maxD - d j % 10 : Nat)) := by
  simp only [den, symsD, Option.some.injEq, Value.int.injEq, true_and]
  congr 1
  unfold valD
  have e1 : (32 * j) % 32 = 0 := by omega
  have e2 : (32 * j) / 32 = j := by omega
  rw [e1, e2, if_pos rfl]
theorem qD_den (d : Nat → Nat) (j : Nat) (F : Env) : den (symsD d) F (.sym (32 * j + 1)) = some (.int .i64 ((maxD - d j % 10) / 10 : Nat)) := by
  simp only [den, symsD, Option.some.injEq, Value.int.injEq, true_and]
  congr 1
  unfold valD
  have e1 : (32 * j + 1) % 32 = 1 := by omega
  have e2 : (32 * j + 1) / 32 = j := by omega
  rw [e1, e2, if_neg (by omega), if_pos rfl]
theorem natD_den (ρ : Syms) (n : Nat) (F : Env) : den ρ F (.nat n) = some (.int .i64 (n : Nat)) := by simp [den]
theorem holD_den (d : Nat → Nat) (j : Nat) (F : Env) : den (symsD d) F (.hol 2 j) = some (.int .i64 (d j % 10 : Nat)) := rfl

theorem wrap_in {z : Int} (h0 : 0 ≤ z) (h1 : z < 9223372036854775808) : wrap64 z = z := by
  unfold wrap64
  omega

section
variable (d : Nat → Nat) (j i : Nat)
theorem e_sub : Entry (symsD d) P (.sub, .nat maxD, .hol 2 j, .sym (32 * j)) :=
  Entry.int (natD_den _ _) (holD_den d j) (lD_den d j) fun w t => by
    have hM : maxD = 9223372036854775807 := rfl
    have := Nat.mod_lt (d j) (by decide : 0 < 10)
    rw [bin_sub, wrap_in (by omega) (by omega)]
    congr 2
    omega
theorem e_quo : Entry (symsD d) P (.quo, .sym (32 * j), .nat 10, .sym (32 * j + 1)) :=
  Entry.int (lD_den d j) (natD_den _ _) (qD_den d j) fun w t => by
    have hM : maxD = 9223372036854775807 := rfl
    have := Nat.mod_lt (d j) (by decide : 0 < 10)
    have e : ((maxD - d j % 10 : Nat) : Int).tdiv ((10 : Nat) : Int) = ((maxD - d j % 10) / 10 : Nat) := by
      rw [Int.tdiv_eq_ediv_of_nonneg (by omega)]
      rfl
    rw [bin_quo _ _ _ _ (by decide), e, wrap_in (by omega) (by omega)]
theorem e_gtr {v : AV} {x : Nat} (hv : ∀ F, den (symsD d) F v = some (.int .i64 (x : Nat))) (hx : x < 900000000000000000) : Entry (symsD d) P (.gtr, v, .sym (32 * j + 1), .bool false) :=
  Entry.int hv (qD_den d j) (c := .bool false) (fun F => by simp [den]) fun w t => by
    have hM : maxD = 9223372036854775807 := rfl
    have := Nat.mod_lt (d j) (by decide : 0 < 10)
    rw [bin_gtr, decide_eq_false (by omega)]
theorem e_add0 : Entry (symsD d) P (.add, .nat 0, .hol 2 j, .hol 2 j) :=
  Entry.int (natD_den _ _) (holD_den d j) (holD_den d j) fun w t => by
    have hM : maxD = 9223372036854775807 := rfl
    have := Nat.mod_lt (d j) (by decide : 0 < 10)
    rw [bin_add, wrap_in (by omega) (by omega)]
    congr 2
    omega
theorem e_mul (h0 : 1 ≤ i) (h1 : i < 16) : Entry (symsD d) P (.mul, .nat 10, vD j i, .sym (32 * j + 2 * i)) :=
  Entry.int (natD_den _ _) (vD_den d j i h0 h1) (tD_den d j i h0 h1) fun w t => by
    have h2 := numD_lt d j i
    have h3 : 10 ^ i ≤ 10 ^ 15 := Nat.pow_le_pow_right (by decide) (by omega)
    have h4 : numD d j i < 10 ^ 15 := Nat.lt_of_lt_of_le h2 h3
    rw [bin_mul, wrap_in (by omega) (by omega)]
    congr 2
theorem e_add (h0 : 1 ≤ i) (h1 : i + 1 < 16) : Entry (symsD d) P (.add, .sym (32 * j + 2 * i), .hol 2 (j + i), vD j (i + 1)) :=
  Entry.int (tD_den d j i h0 (by omega)) (holD_den d (j + i)) (vD_den d j (i + 1) (by omega) h1) fun w t => by
    have h2 := numD_lt d j i
    have h3 : 10 ^ i ≤ 10 ^ 15 := Nat.pow_le_pow_right (by decide) (by omega)
    have h4 : numD d j i < 10 ^ 15 := Nat.lt_of_lt_of_le h2 h3
    have := Nat.mod_lt (d (j + i)) (by decide : 0 < 10)
    rw [bin_add, wrap_in (by omega) (by omega)]
    congr 2
/-- two numbers that are known to be the same or not -/
theorem e_neq {u v : AV} {x y : Nat} (hu : ∀ F, den (symsD d) F u = some (.int .i64 (x : Nat))) (hv : ∀ F, den (symsD d) F v = some (.int .i64 (y : Nat))) : Entry (symsD d) P (.neq, u, v, .bool (!Nat.beq x y)) :=
  Entry.int hu hv (c := .bool (!Nat.beq x y)) (fun F => by simp [den]) fun w t => by
    rw [bin_neq]
    congr 2
    by_cases h : x = y
    · subst h; simp
    · have h1 : (x : Int) ≠ (y : Int) := by omega
      have h2 : Nat.beq x y = false := by rw [Bool.eq_false_iff]; exact fun e => h (Nat.eq_of_beq_eq_true e)
      simp [h1, h2, bne]
theorem e_eql {u v : AV} {x y : Nat} (hu : ∀ F, den (symsD d) F u = some (.int .i64 (x : Nat))) (hv : ∀ F, den (symsD d) F v = some (.int .i64 (y : Nat))) : Entry (symsD d) P (.eql, u, v, .bool (Nat.beq x y)) :=
  Entry.int hu hv (c := .bool (Nat.beq x y)) (fun F => by simp [den]) fun w t => by
    rw [bin_eql]
    congr 2
    by_cases h : x = y
    · subst h; simp
    · have h1 : (x : Int) ≠ (y : Int) := by omega
      have h2 : Nat.beq x y = false := by rw [Bool.eq_false_iff]; exact fun e => h (Nat.eq_of_beq_eq_true e)
      simp [h1, h2]
end

/-- what reading a number of n digits from the j-th on wants to know -/
noncomputable def entD (j n : Nat) : List Known2 :=
  match n with
  | 0 => []
  | 1 => [(.sub, .nat maxD, .hol 2 j, .sym (32 * j)), (.quo, .sym (32 * j), .nat 10, .sym (32 * j + 1)), (.gtr, .nat 0, .sym (32 * j + 1), .bool false), (.add, .nat 0, .hol 2 j, .hol 2 j)]
  | n + 1 => entD j n ++ [(.sub, .nat maxD, .hol 2 (j + n), .sym (32 * (j + n))), (.quo, .sym (32 * (j + n)), .nat 10, .sym (32 * (j + n) + 1)), (.gtr, vD j n, .sym (32 * (j + n) + 1), .bool false),
      (.mul, .nat 10, vD j n, .sym (32 * j + 2 * n)), (.add, .sym (32 * j + 2 * n), .hol 2 (j + n), vD j (n + 1))]
theorem entD_ok (d : Nat → Nat) (j : Nat) : ∀ n, n < 15 → ∀ e ∈ entD j n, Entry (symsD d) P e
  | 0, _, e, h => by simp [entD] at h
  | 1, _, e, h => by
    simp only [entD, List.mem_cons, List.not_mem_nil, or_false] at h
    rcases h with rfl | rfl | rfl | rfl
    · exact e_sub d j
    · exact e_quo d j
    · exact e_gtr d j (natD_den _ 0) (by decide)
    · exact e_add0 d j
  | n + 2, hn, e, h => by
    rw [entD, List.mem_append] at h
    rcases h with h | h
    · exact entD_ok d j (n + 1) (by omega) e h
    · simp only [List.mem_cons, List.not_mem_nil, or_false] at h
      have h2 := numD_lt d j (n + 1)
      have h3 : 10 ^ (n + 1) ≤ 10 ^ 15 := Nat.pow_le_pow_right (by decide) (by omega)
      rcases h with rfl | rfl | rfl | rfl | rfl
      · exact e_sub d _
      · exact e_quo d _
      · exact e_gtr d _ (vD_den d j (n + 1) (by omega) (by omega)) (Nat.lt_of_lt_of_le h2 (Nat.le_trans h3 (by decide)))
      · exact e_mul d j (n + 1) (by omega) (by omega)
      · exact e_add d j (n + 1) (by omega) (by omega)
    · simp

end Go.Proofs.YtplnnlnkcfappaaGreat.E3
