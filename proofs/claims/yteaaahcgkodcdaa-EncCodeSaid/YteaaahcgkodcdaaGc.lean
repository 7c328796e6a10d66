/- Plain laws: the word of each kind of instruction. -/
import Derived.Test.YteaaahcgkodcdaaGa
namespace Go.Proofs.Yteaaahcgkodcdaa.Ea
open Go.RowKit
set_option linter.unusedSimpArgs false
set_option linter.unusedVariables false

theorem fitB_iff {x : Int} {n : Nat} : fitB x n = true ↔ 0 ≤ x ∧ x < 2 ^ n := by unfold fitB; simp

theorem one_A {op a b c d : Int} (h : op = 1 ∨ op = 5 ∨ op = 6 ∨ op = 11 ∨ op = 12 ∨ op = 13 ∨ op = 14) : oneF op a b c d = if ((c == 0 && d == 0) && fitB a 8 && fitB b 16) = true then (op * 16777216 + a * 65536 + b, true) else (0, false) := by
  rcases h with rfl | rfl | rfl | rfl | rfl | rfl | rfl
  · have m0 : many 1 = ((2 : Nat) : Int) := by decide
    by_cases hc : ((c == 0 && d == 0) && fitB a 8 && fitB b 16) = true
    · rw [if_pos hc]
      simp only [Bool.and_eq_true, beq_iff_eq, fitB_iff] at hc
      rw [oneF_yes m0 (by
        intro j hj
        obtain rfl | rfl | rfl | rfl : j = 0 ∨ j = 1 ∨ j = 2 ∨ j = 3 := by omega
        all_goals (simp [goodAt, opd, fAt, fBits]; try omega))]
      simp [acc, opd, fAt, fBits]
      try omega
    · rw [if_neg hc]
      simp only [Bool.and_eq_true, beq_iff_eq, fitB_iff] at hc
      by_cases hg : ∀ j, j < 4 → goodAt 1 2 (opd a b c d) j
      · exfalso
        apply hc
        have g0 := hg 0 (by omega)
        have g1 := hg 1 (by omega)
        have g2 := hg 2 (by omega)
        have g3 := hg 3 (by omega)
        clear hc hg
        simp [goodAt, opd, fAt, fBits] at g0 g1 g2 g3
        omega
      · obtain ⟨j, hj⟩ := Classical.not_forall.mp hg
        obtain ⟨h4, hj⟩ := Classical.not_imp.mp hj
        exact oneF_no m0 h4 hj
  · have m0 : many 5 = ((2 : Nat) : Int) := by decide
    by_cases hc : ((c == 0 && d == 0) && fitB a 8 && fitB b 16) = true
    · rw [if_pos hc]
      simp only [Bool.and_eq_true, beq_iff_eq, fitB_iff] at hc
      rw [oneF_yes m0 (by
        intro j hj
        obtain rfl | rfl | rfl | rfl : j = 0 ∨ j = 1 ∨ j = 2 ∨ j = 3 := by omega
        all_goals (simp [goodAt, opd, fAt, fBits]; try omega))]
      simp [acc, opd, fAt, fBits]
      try omega
    · rw [if_neg hc]
      simp only [Bool.and_eq_true, beq_iff_eq, fitB_iff] at hc
      by_cases hg : ∀ j, j < 4 → goodAt 5 2 (opd a b c d) j
      · exfalso
        apply hc
        have g0 := hg 0 (by omega)
        have g1 := hg 1 (by omega)
        have g2 := hg 2 (by omega)
        have g3 := hg 3 (by omega)
        clear hc hg
        simp [goodAt, opd, fAt, fBits] at g0 g1 g2 g3
        omega
      · obtain ⟨j, hj⟩ := Classical.not_forall.mp hg
        obtain ⟨h4, hj⟩ := Classical.not_imp.mp hj
        exact oneF_no m0 h4 hj
  · have m0 : many 6 = ((2 : Nat) : Int) := by decide
    by_cases hc : ((c == 0 && d == 0) && fitB a 8 && fitB b 16) = true
    · rw [if_pos hc]
      simp only [Bool.and_eq_true, beq_iff_eq, fitB_iff] at hc
      rw [oneF_yes m0 (by
        intro j hj
        obtain rfl | rfl | rfl | rfl : j = 0 ∨ j = 1 ∨ j = 2 ∨ j = 3 := by omega
        all_goals (simp [goodAt, opd, fAt, fBits]; try omega))]
      simp [acc, opd, fAt, fBits]
      try omega
    · rw [if_neg hc]
      simp only [Bool.and_eq_true, beq_iff_eq, fitB_iff] at hc
      by_cases hg : ∀ j, j < 4 → goodAt 6 2 (opd a b c d) j
      · exfalso
        apply hc
        have g0 := hg 0 (by omega)
        have g1 := hg 1 (by omega)
        have g2 := hg 2 (by omega)
        have g3 := hg 3 (by omega)
        clear hc hg
        simp [goodAt, opd, fAt, fBits] at g0 g1 g2 g3
        omega
      · obtain ⟨j, hj⟩ := Classical.not_forall.mp hg
        obtain ⟨h4, hj⟩ := Classical.not_imp.mp hj
        exact oneF_no m0 h4 hj
  · have m0 : many 11 = ((2 : Nat) : Int) := by decide
    by_cases hc : ((c == 0 && d == 0) && fitB a 8 && fitB b 16) = true
    · rw [if_pos hc]
      simp only [Bool.and_eq_true, beq_iff_eq, fitB_iff] at hc
      rw [oneF_yes m0 (by
        intro j hj
        obtain rfl | rfl | rfl | rfl : j = 0 ∨ j = 1 ∨ j = 2 ∨ j = 3 := by omega
        all_goals (simp [goodAt, opd, fAt, fBits]; try omega))]
      simp [acc, opd, fAt, fBits]
      try omega
    · rw [if_neg hc]
      simp only [Bool.and_eq_true, beq_iff_eq, fitB_iff] at hc
      by_cases hg : ∀ j, j < 4 → goodAt 11 2 (opd a b c d) j
      · exfalso
        apply hc
        have g0 := hg 0 (by omega)
        have g1 := hg 1 (by omega)
        have g2 := hg 2 (by omega)
        have g3 := hg 3 (by omega)
        clear hc hg
        simp [goodAt, opd, fAt, fBits] at g0 g1 g2 g3
        omega
      · obtain ⟨j, hj⟩ := Classical.not_forall.mp hg
        obtain ⟨h4, hj⟩ := Classical.not_imp.mp hj
        exact oneF_no m0 h4 hj
  · have m0 : many 12 = ((2 : Nat) : Int) := by decide
    by_cases hc : ((c == 0 && d == 0) && fitB a 8 && fitB b 16) = true
    · rw [if_pos hc]
      simp only [Bool.and_eq_true, beq_iff_eq, fitB_iff] at hc
      rw [oneF_yes m0 (by
        intro j hj
        obtain rfl | rfl | rfl | rfl : j = 0 ∨ j = 1 ∨ j = 2 ∨ j = 3 := by omega
        all_goals (simp [goodAt, opd, fAt, fBits]; try omega))]
      simp [acc, opd, fAt, fBits]
      try omega
    · rw [if_neg hc]
      simp only [Bool.and_eq_true, beq_iff_eq, fitB_iff] at hc
      by_cases hg : ∀ j, j < 4 → goodAt 12 2 (opd a b c d) j
      · exfalso
        apply hc
        have g0 := hg 0 (by omega)
        have g1 := hg 1 (by omega)
        have g2 := hg 2 (by omega)
        have g3 := hg 3 (by omega)
        clear hc hg
        simp [goodAt, opd, fAt, fBits] at g0 g1 g2 g3
        omega
      · obtain ⟨j, hj⟩ := Classical.not_forall.mp hg
        obtain ⟨h4, hj⟩ := Classical.not_imp.mp hj
        exact oneF_no m0 h4 hj
  · have m0 : many 13 = ((2 : Nat) : Int) := by decide
    by_cases hc : ((c == 0 && d == 0) && fitB a 8 && fitB b 16) = true
    · rw [if_pos hc]
      simp only [Bool.and_eq_true, beq_iff_eq, fitB_iff] at hc
      rw [oneF_yes m0 (by
        intro j hj
        obtain rfl | rfl | rfl | rfl : j = 0 ∨ j = 1 ∨ j = 2 ∨ j = 3 := by omega
        all_goals (simp [goodAt, opd, fAt, fBits]; try omega))]
      simp [acc, opd, fAt, fBits]
      try omega
    · rw [if_neg hc]
      simp only [Bool.and_eq_true, beq_iff_eq, fitB_iff] at hc
      by_cases hg : ∀ j, j < 4 → goodAt 13 2 (opd a b c d) j
      · exfalso
        apply hc
        have g0 := hg 0 (by omega)
        have g1 := hg 1 (by omega)
        have g2 := hg 2 (by omega)
        have g3 := hg 3 (by omega)
        clear hc hg
        simp [goodAt, opd, fAt, fBits] at g0 g1 g2 g3
        omega
      · obtain ⟨j, hj⟩ := Classical.not_forall.mp hg
        obtain ⟨h4, hj⟩ := Classical.not_imp.mp hj
        exact oneF_no m0 h4 hj
  · have m0 : many 14 = ((2 : Nat) : Int) := by decide
    by_cases hc : ((c == 0 && d == 0) && fitB a 8 && fitB b 16) = true
    · rw [if_pos hc]
      simp only [Bool.and_eq_true, beq_iff_eq, fitB_iff] at hc
      rw [oneF_yes m0 (by
        intro j hj
        obtain rfl | rfl | rfl | rfl : j = 0 ∨ j = 1 ∨ j = 2 ∨ j = 3 := by omega
        all_goals (simp [goodAt, opd, fAt, fBits]; try omega))]
      simp [acc, opd, fAt, fBits]
      try omega
    · rw [if_neg hc]
      simp only [Bool.and_eq_true, beq_iff_eq, fitB_iff] at hc
      by_cases hg : ∀ j, j < 4 → goodAt 14 2 (opd a b c d) j
      · exfalso
        apply hc
        have g0 := hg 0 (by omega)
        have g1 := hg 1 (by omega)
        have g2 := hg 2 (by omega)
        have g3 := hg 3 (by omega)
        clear hc hg
        simp [goodAt, opd, fAt, fBits] at g0 g1 g2 g3
        omega
      · obtain ⟨j, hj⟩ := Classical.not_forall.mp hg
        obtain ⟨h4, hj⟩ := Classical.not_imp.mp hj
        exact oneF_no m0 h4 hj

theorem one_B {op a b c d : Int} (h : op = 2) : oneF op a b c d = if ((c == 0 && d == 0) && fitB a 8 && fitB b 8) = true then (op * 16777216 + a * 65536 + b * 256, true) else (0, false) := by
  subst h
  have m0 : many 2 = ((2 : Nat) : Int) := by decide
  by_cases hc : ((c == 0 && d == 0) && fitB a 8 && fitB b 8) = true
  · rw [if_pos hc]
    simp only [Bool.and_eq_true, beq_iff_eq, fitB_iff] at hc
    rw [oneF_yes m0 (by
      intro j hj
      obtain rfl | rfl | rfl | rfl : j = 0 ∨ j = 1 ∨ j = 2 ∨ j = 3 := by omega
      all_goals (simp [goodAt, opd, fAt, fBits]; try omega))]
    simp [acc, opd, fAt, fBits]
    try omega
  · rw [if_neg hc]
    simp only [Bool.and_eq_true, beq_iff_eq, fitB_iff] at hc
    by_cases hg : ∀ j, j < 4 → goodAt 2 2 (opd a b c d) j
    · exfalso
      apply hc
      have g0 := hg 0 (by omega)
      have g1 := hg 1 (by omega)
      have g2 := hg 2 (by omega)
      have g3 := hg 3 (by omega)
      clear hc hg
      simp [goodAt, opd, fAt, fBits] at g0 g1 g2 g3
      omega
    · obtain ⟨j, hj⟩ := Classical.not_forall.mp hg
      obtain ⟨h4, hj⟩ := Classical.not_imp.mp hj
      exact oneF_no m0 h4 hj

theorem one_C {op a b c d : Int} (h : op = 7 ∨ op = 8 ∨ op = 10) : oneF op a b c d = if ((b == 0 && c == 0) && (d == 0) && fitB a 8) = true then (op * 16777216 + a * 65536, true) else (0, false) := by
  rcases h with rfl | rfl | rfl
  · have m0 : many 7 = ((1 : Nat) : Int) := by decide
    by_cases hc : ((b == 0 && c == 0) && (d == 0) && fitB a 8) = true
    · rw [if_pos hc]
      simp only [Bool.and_eq_true, beq_iff_eq, fitB_iff] at hc
      rw [oneF_yes m0 (by
        intro j hj
        obtain rfl | rfl | rfl | rfl : j = 0 ∨ j = 1 ∨ j = 2 ∨ j = 3 := by omega
        all_goals (simp [goodAt, opd, fAt, fBits]; try omega))]
      simp [acc, opd, fAt, fBits]
      try omega
    · rw [if_neg hc]
      simp only [Bool.and_eq_true, beq_iff_eq, fitB_iff] at hc
      by_cases hg : ∀ j, j < 4 → goodAt 7 1 (opd a b c d) j
      · exfalso
        apply hc
        have g0 := hg 0 (by omega)
        have g1 := hg 1 (by omega)
        have g2 := hg 2 (by omega)
        have g3 := hg 3 (by omega)
        clear hc hg
        simp [goodAt, opd, fAt, fBits] at g0 g1 g2 g3
        omega
      · obtain ⟨j, hj⟩ := Classical.not_forall.mp hg
        obtain ⟨h4, hj⟩ := Classical.not_imp.mp hj
        exact oneF_no m0 h4 hj
  · have m0 : many 8 = ((1 : Nat) : Int) := by decide
    by_cases hc : ((b == 0 && c == 0) && (d == 0) && fitB a 8) = true
    · rw [if_pos hc]
      simp only [Bool.and_eq_true, beq_iff_eq, fitB_iff] at hc
      rw [oneF_yes m0 (by
        intro j hj
        obtain rfl | rfl | rfl | rfl : j = 0 ∨ j = 1 ∨ j = 2 ∨ j = 3 := by omega
        all_goals (simp [goodAt, opd, fAt, fBits]; try omega))]
      simp [acc, opd, fAt, fBits]
      try omega
    · rw [if_neg hc]
      simp only [Bool.and_eq_true, beq_iff_eq, fitB_iff] at hc
      by_cases hg : ∀ j, j < 4 → goodAt 8 1 (opd a b c d) j
      · exfalso
        apply hc
        have g0 := hg 0 (by omega)
        have g1 := hg 1 (by omega)
        have g2 := hg 2 (by omega)
        have g3 := hg 3 (by omega)
        clear hc hg
        simp [goodAt, opd, fAt, fBits] at g0 g1 g2 g3
        omega
      · obtain ⟨j, hj⟩ := Classical.not_forall.mp hg
        obtain ⟨h4, hj⟩ := Classical.not_imp.mp hj
        exact oneF_no m0 h4 hj
  · have m0 : many 10 = ((1 : Nat) : Int) := by decide
    by_cases hc : ((b == 0 && c == 0) && (d == 0) && fitB a 8) = true
    · rw [if_pos hc]
      simp only [Bool.and_eq_true, beq_iff_eq, fitB_iff] at hc
      rw [oneF_yes m0 (by
        intro j hj
        obtain rfl | rfl | rfl | rfl : j = 0 ∨ j = 1 ∨ j = 2 ∨ j = 3 := by omega
        all_goals (simp [goodAt, opd, fAt, fBits]; try omega))]
      simp [acc, opd, fAt, fBits]
      try omega
    · rw [if_neg hc]
      simp only [Bool.and_eq_true, beq_iff_eq, fitB_iff] at hc
      by_cases hg : ∀ j, j < 4 → goodAt 10 1 (opd a b c d) j
      · exfalso
        apply hc
        have g0 := hg 0 (by omega)
        have g1 := hg 1 (by omega)
        have g2 := hg 2 (by omega)
        have g3 := hg 3 (by omega)
        clear hc hg
        simp [goodAt, opd, fAt, fBits] at g0 g1 g2 g3
        omega
      · obtain ⟨j, hj⟩ := Classical.not_forall.mp hg
        obtain ⟨h4, hj⟩ := Classical.not_imp.mp hj
        exact oneF_no m0 h4 hj

theorem one_D {op a b c d : Int} (h : op = 4 ∨ op = 9 ∨ op = 16) : oneF op a b c d = if ((b == 0 && c == 0) && (d == 0) && fitB a 24) = true then (op * 16777216 + a, true) else (0, false) := by
  rcases h with rfl | rfl | rfl
  · have m0 : many 4 = ((1 : Nat) : Int) := by decide
    by_cases hc : ((b == 0 && c == 0) && (d == 0) && fitB a 24) = true
    · rw [if_pos hc]
      simp only [Bool.and_eq_true, beq_iff_eq, fitB_iff] at hc
      rw [oneF_yes m0 (by
        intro j hj
        obtain rfl | rfl | rfl | rfl : j = 0 ∨ j = 1 ∨ j = 2 ∨ j = 3 := by omega
        all_goals (simp [goodAt, opd, fAt, fBits]; try omega))]
      simp [acc, opd, fAt, fBits]
      try omega
    · rw [if_neg hc]
      simp only [Bool.and_eq_true, beq_iff_eq, fitB_iff] at hc
      by_cases hg : ∀ j, j < 4 → goodAt 4 1 (opd a b c d) j
      · exfalso
        apply hc
        have g0 := hg 0 (by omega)
        have g1 := hg 1 (by omega)
        have g2 := hg 2 (by omega)
        have g3 := hg 3 (by omega)
        clear hc hg
        simp [goodAt, opd, fAt, fBits] at g0 g1 g2 g3
        omega
      · obtain ⟨j, hj⟩ := Classical.not_forall.mp hg
        obtain ⟨h4, hj⟩ := Classical.not_imp.mp hj
        exact oneF_no m0 h4 hj
  · have m0 : many 9 = ((1 : Nat) : Int) := by decide
    by_cases hc : ((b == 0 && c == 0) && (d == 0) && fitB a 24) = true
    · rw [if_pos hc]
      simp only [Bool.and_eq_true, beq_iff_eq, fitB_iff] at hc
      rw [oneF_yes m0 (by
        intro j hj
        obtain rfl | rfl | rfl | rfl : j = 0 ∨ j = 1 ∨ j = 2 ∨ j = 3 := by omega
        all_goals (simp [goodAt, opd, fAt, fBits]; try omega))]
      simp [acc, opd, fAt, fBits]
      try omega
    · rw [if_neg hc]
      simp only [Bool.and_eq_true, beq_iff_eq, fitB_iff] at hc
      by_cases hg : ∀ j, j < 4 → goodAt 9 1 (opd a b c d) j
      · exfalso
        apply hc
        have g0 := hg 0 (by omega)
        have g1 := hg 1 (by omega)
        have g2 := hg 2 (by omega)
        have g3 := hg 3 (by omega)
        clear hc hg
        simp [goodAt, opd, fAt, fBits] at g0 g1 g2 g3
        omega
      · obtain ⟨j, hj⟩ := Classical.not_forall.mp hg
        obtain ⟨h4, hj⟩ := Classical.not_imp.mp hj
        exact oneF_no m0 h4 hj
  · have m0 : many 16 = ((1 : Nat) : Int) := by decide
    by_cases hc : ((b == 0 && c == 0) && (d == 0) && fitB a 24) = true
    · rw [if_pos hc]
      simp only [Bool.and_eq_true, beq_iff_eq, fitB_iff] at hc
      rw [oneF_yes m0 (by
        intro j hj
        obtain rfl | rfl | rfl | rfl : j = 0 ∨ j = 1 ∨ j = 2 ∨ j = 3 := by omega
        all_goals (simp [goodAt, opd, fAt, fBits]; try omega))]
      simp [acc, opd, fAt, fBits]
      try omega
    · rw [if_neg hc]
      simp only [Bool.and_eq_true, beq_iff_eq, fitB_iff] at hc
      by_cases hg : ∀ j, j < 4 → goodAt 16 1 (opd a b c d) j
      · exfalso
        apply hc
        have g0 := hg 0 (by omega)
        have g1 := hg 1 (by omega)
        have g2 := hg 2 (by omega)
        have g3 := hg 3 (by omega)
        clear hc hg
        simp [goodAt, opd, fAt, fBits] at g0 g1 g2 g3
        omega
      · obtain ⟨j, hj⟩ := Classical.not_forall.mp hg
        obtain ⟨h4, hj⟩ := Classical.not_imp.mp hj
        exact oneF_no m0 h4 hj

theorem one_E {op a b c d : Int} (h : op = 15) : oneF op a b c d = if (fitB a 6 && fitB b 6 && fitB c 6 && fitB d 6) = true then (op * 16777216 + a * 262144 + b * 4096 + c * 64 + d, true) else (0, false) := by
  subst h
  have m0 : many 15 = ((4 : Nat) : Int) := by decide
  by_cases hc : (fitB a 6 && fitB b 6 && fitB c 6 && fitB d 6) = true
  · rw [if_pos hc]
    simp only [Bool.and_eq_true, beq_iff_eq, fitB_iff] at hc
    rw [oneF_yes m0 (by
      intro j hj
      obtain rfl | rfl | rfl | rfl : j = 0 ∨ j = 1 ∨ j = 2 ∨ j = 3 := by omega
      all_goals (simp [goodAt, opd, fAt, fBits]; try omega))]
    simp [acc, opd, fAt, fBits]
    try omega
  · rw [if_neg hc]
    simp only [Bool.and_eq_true, beq_iff_eq, fitB_iff] at hc
    by_cases hg : ∀ j, j < 4 → goodAt 15 4 (opd a b c d) j
    · exfalso
      apply hc
      have g0 := hg 0 (by omega)
      have g1 := hg 1 (by omega)
      have g2 := hg 2 (by omega)
      have g3 := hg 3 (by omega)
      clear hc hg
      simp [goodAt, opd, fAt, fBits] at g0 g1 g2 g3
      omega
    · obtain ⟨j, hj⟩ := Classical.not_forall.mp hg
      obtain ⟨h4, hj⟩ := Classical.not_imp.mp hj
      exact oneF_no m0 h4 hj

theorem one_F {op a b c d : Int} (h : op = 17) : oneF op a b c d = if ((c == 0 && d == 0) && fitB a 12 && fitB b 12) = true then (op * 16777216 + a * 4096 + b, true) else (0, false) := by
  subst h
  have m0 : many 17 = ((2 : Nat) : Int) := by decide
  by_cases hc : ((c == 0 && d == 0) && fitB a 12 && fitB b 12) = true
  · rw [if_pos hc]
    simp only [Bool.and_eq_true, beq_iff_eq, fitB_iff] at hc
    rw [oneF_yes m0 (by
      intro j hj
      obtain rfl | rfl | rfl | rfl : j = 0 ∨ j = 1 ∨ j = 2 ∨ j = 3 := by omega
      all_goals (simp [goodAt, opd, fAt, fBits]; try omega))]
    simp [acc, opd, fAt, fBits]
    try omega
  · rw [if_neg hc]
    simp only [Bool.and_eq_true, beq_iff_eq, fitB_iff] at hc
    by_cases hg : ∀ j, j < 4 → goodAt 17 2 (opd a b c d) j
    · exfalso
      apply hc
      have g0 := hg 0 (by omega)
      have g1 := hg 1 (by omega)
      have g2 := hg 2 (by omega)
      have g3 := hg 3 (by omega)
      clear hc hg
      simp [goodAt, opd, fAt, fBits] at g0 g1 g2 g3
      omega
    · obtain ⟨j, hj⟩ := Classical.not_forall.mp hg
      obtain ⟨h4, hj⟩ := Classical.not_imp.mp hj
      exact oneF_no m0 h4 hj

theorem one_G {op a b c d : Int} (h : 33 ≤ op ∧ op ≤ 46) : oneF op a b c d = if ((d == 0) && fitB a 8 && fitB b 8 && fitB c 8) = true then (op * 16777216 + a * 65536 + b * 256 + c, true) else (0, false) := by
  have eA := fAtG (op := op) (by omega)
  have eB := fBitsG (op := op) (by omega)
  have m0 : many op = ((3 : Nat) : Int) := by
    unfold many
    rw [if_neg (by omega), if_neg (by omega), if_neg (by omega)]
    first
    | (rw [arity2 (by omega) (by omega)]; rfl)
    | (rw [arity1 (by omega) (by omega)]; rfl)
  by_cases hc : ((d == 0) && fitB a 8 && fitB b 8 && fitB c 8) = true
  · rw [if_pos hc]
    simp only [Bool.and_eq_true, beq_iff_eq, fitB_iff] at hc
    rw [oneF_yes m0 (by
      intro j hj
      obtain rfl | rfl | rfl | rfl : j = 0 ∨ j = 1 ∨ j = 2 ∨ j = 3 := by omega
      all_goals (simp [goodAt, opd, eA, eB]; try omega))]
    simp [acc, opd, eA, eB]
    try omega
  · rw [if_neg hc]
    simp only [Bool.and_eq_true, beq_iff_eq, fitB_iff] at hc
    by_cases hg : ∀ j, j < 4 → goodAt op 3 (opd a b c d) j
    · exfalso
      apply hc
      have g0 := hg 0 (by omega)
      have g1 := hg 1 (by omega)
      have g2 := hg 2 (by omega)
      have g3 := hg 3 (by omega)
      clear hc hg
      simp [goodAt, opd, eA, eB] at g0 g1 g2 g3
      omega
    · obtain ⟨j, hj⟩ := Classical.not_forall.mp hg
      obtain ⟨h4, hj⟩ := Classical.not_imp.mp hj
      exact oneF_no m0 h4 hj

theorem one_H {op a b c d : Int} (h : 47 ≤ op ∧ op ≤ 52) : oneF op a b c d = if ((c == 0 && d == 0) && fitB a 8 && fitB b 8) = true then (op * 16777216 + a * 65536 + b * 256, true) else (0, false) := by
  have eA := fAtG (op := op) (by omega)
  have eB := fBitsG (op := op) (by omega)
  have m0 : many op = ((2 : Nat) : Int) := by
    unfold many
    rw [if_neg (by omega), if_neg (by omega), if_neg (by omega)]
    first
    | (rw [arity2 (by omega) (by omega)]; rfl)
    | (rw [arity1 (by omega) (by omega)]; rfl)
  by_cases hc : ((c == 0 && d == 0) && fitB a 8 && fitB b 8) = true
  · rw [if_pos hc]
    simp only [Bool.and_eq_true, beq_iff_eq, fitB_iff] at hc
    rw [oneF_yes m0 (by
      intro j hj
      obtain rfl | rfl | rfl | rfl : j = 0 ∨ j = 1 ∨ j = 2 ∨ j = 3 := by omega
      all_goals (simp [goodAt, opd, eA, eB]; try omega))]
    simp [acc, opd, eA, eB]
    try omega
  · rw [if_neg hc]
    simp only [Bool.and_eq_true, beq_iff_eq, fitB_iff] at hc
    by_cases hg : ∀ j, j < 4 → goodAt op 2 (opd a b c d) j
    · exfalso
      apply hc
      have g0 := hg 0 (by omega)
      have g1 := hg 1 (by omega)
      have g2 := hg 2 (by omega)
      have g3 := hg 3 (by omega)
      clear hc hg
      simp [goodAt, opd, eA, eB] at g0 g1 g2 g3
      omega
    · obtain ⟨j, hj⟩ := Classical.not_forall.mp hg
      obtain ⟨h4, hj⟩ := Classical.not_imp.mp hj
      exact oneF_no m0 h4 hj

/-- what the reference's One tells: the same bool; the same word where it is true -/
def RefPost (op a b c d : Int) (w : World) (e : Ending) (w' : World) : Prop :=
  ∃ X t, e = .returned (.tuple #[.int .u32 X, .bool t]) ∧ (oneF op a b c d).2 = t ∧ (t = true → X = (oneF op a b c d).1) ∧ Below w.heap.size w w'

theorem refPost_no {op a b c d X : Int} {w w' : World} (h : oneF op a b c d = (0, false)) (hb : Below w.heap.size w w') : RefPost op a b c d w (.returned (.tuple #[.int .u32 X, .bool false])) w' :=
  ⟨X, false, rfl, by rw [h], fun h => (Bool.false_ne_true h).elim, hb⟩

theorem refPost_yes {op a b c d X Y : Int} {w w' : World} (h : oneF op a b c d = (Y, true)) (hX : X = Y) (hb : Below w.heap.size w w') : RefPost op a b c d w (.returned (.tuple #[.int .u32 X, .bool true])) w' :=
  ⟨X, true, rfl, by rw [h], fun _ => by rw [h, hX], hb⟩

theorem below_drewN {B : Nat} {a w : World} (h : Below B a w) (n : Nat) : Below B a (w.drewN n) := ⟨h.os, h.tape, h.output, h.size, h.block⟩

def BoxIn (op a b c d : Int) (w wc : World) : Prop :=
  wc.cell? ⟨w.heap.size, 0, none⟩ = some (.int .i64 op) ∧ wc.cell? ⟨w.heap.size, 1, none⟩ = some (.int .i64 a) ∧ wc.cell? ⟨w.heap.size, 2, none⟩ = some (.int .i64 b) ∧ wc.cell? ⟨w.heap.size, 3, none⟩ = some (.int .i64 c) ∧ wc.cell? ⟨w.heap.size, 4, none⟩ = some (.int .i64 d) ∧ Below w.heap.size w wc

theorem boxIn_mk {op a b c d : Int} {w : World} (n : Nat) : BoxIn op a b c d w ((w.alloc (boxOf op a b c d)).drewN n) :=
  ⟨by simp [go_sem], by simp [go_sem], by simp [go_sem], by simp [go_sem], by simp [go_sem], below_drewN (below_more (Below.refl _ _) (Nat.le_refl _) _) _⟩

theorem bits8 (x : Int) (w : World) : Calls Try.prog 44 #[.int .i64 x, .int .i64 8] w fun e w' => e = .returned (.bool (fitB x 8)) ∧ w' = w := bits_calls x 8 w (by omega)
theorem bits16 (x : Int) (w : World) : Calls Try.prog 44 #[.int .i64 x, .int .i64 16] w fun e w' => e = .returned (.bool (fitB x 16)) ∧ w' = w := bits_calls x 16 w (by omega)
theorem bits24 (x : Int) (w : World) : Calls Try.prog 44 #[.int .i64 x, .int .i64 24] w fun e w' => e = .returned (.bool (fitB x 24)) ∧ w' = w := bits_calls x 24 w (by omega)
theorem bits6 (x : Int) (w : World) : Calls Try.prog 44 #[.int .i64 x, .int .i64 6] w fun e w' => e = .returned (.bool (fitB x 6)) ∧ w' = w := bits_calls x 6 w (by omega)
theorem bits12 (x : Int) (w : World) : Calls Try.prog 44 #[.int .i64 x, .int .i64 12] w fun e w' => e = .returned (.bool (fitB x 12)) ∧ w' = w := bits_calls x 12 w (by omega)

end Go.Proofs.Yteaaahcgkodcdaa.Ea
