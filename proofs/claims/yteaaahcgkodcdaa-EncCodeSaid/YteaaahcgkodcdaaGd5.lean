/- The reference's One, by kinds of instructions. -/
import Derived.Test.YteaaahcgkodcdaaGc
namespace Go.Proofs.Yteaaahcgkodcdaa.Ea
open Go.RowKit
set_option linter.unusedSimpArgs false
set_option linter.unusedVariables false

set_option maxHeartbeats 16000000 in
set_option maxRecDepth 100000 in
theorem ref_G (op a b c d : Int) (w : World) (hop : 33 ≤ op ∧ op ≤ 46) : Calls Try.prog 36 #[.agg #[.int .i64 op, .int .i64 a, .int .i64 b, .int .i64 c, .int .i64 d]] w (RefPost op a b c d w) := by
  have H1 := Lib.hid (one_G (op := op) (a := a) (b := b) (c := c) (d := d) (by omega))
  have hop0 : ¬ (op < 0) := by omega
  have hop1 : ¬ (60 < op) := by omega
  have hop2 : op ≤ 60 := by omega
  have ar : arity (op - 32) = 2 := arity2 (by omega) (by omega)
  have e1 : (op == 1) = false := by rw [beq_eq_false_iff_ne]; omega
  have e5 : (op == 5) = false := by rw [beq_eq_false_iff_ne]; omega
  have e6 : (op == 6) = false := by rw [beq_eq_false_iff_ne]; omega
  have e11 : (op == 11) = false := by rw [beq_eq_false_iff_ne]; omega
  have e12 : (op == 12) = false := by rw [beq_eq_false_iff_ne]; omega
  have e13 : (op == 13) = false := by rw [beq_eq_false_iff_ne]; omega
  have e14 : (op == 14) = false := by rw [beq_eq_false_iff_ne]; omega
  have e2 : (op == 2) = false := by rw [beq_eq_false_iff_ne]; omega
  have e7 : (op == 7) = false := by rw [beq_eq_false_iff_ne]; omega
  have e8 : (op == 8) = false := by rw [beq_eq_false_iff_ne]; omega
  have e10 : (op == 10) = false := by rw [beq_eq_false_iff_ne]; omega
  have e4 : (op == 4) = false := by rw [beq_eq_false_iff_ne]; omega
  have e9 : (op == 9) = false := by rw [beq_eq_false_iff_ne]; omega
  have e16 : (op == 16) = false := by rw [beq_eq_false_iff_ne]; omega
  have e15 : (op == 15) = false := by rw [beq_eq_false_iff_ne]; omega
  have e17 : (op == 17) = false := by rw [beq_eq_false_iff_ne]; omega
  go_enter Try.func36, Try.ntmps36
  go_upto_region 4 with (fail)
  go_cut [5, 6, 7] (fun s5 s6 s7 wc => s5 = .bool (b == 0 && c == 0) ∧ s6 = .bool (c == 0 && d == 0) ∧ s7 = .bool (d == 0) ∧ BoxIn op a b c d w wc)
  case first =>
    rcases Bool.eq_false_or_eq_true (b == 0) with hb | hb
    · rcases Bool.eq_false_or_eq_true (c == 0) with hc | hc
      · go_quiet (fail)
        go_wp2
        go_meet
        case rel => exact ⟨by simp [hb, hc], by simp [hc], rfl, boxIn_mk _⟩
      · go_quiet (fail)
        go_wp2
        go_meet
        case rel => exact ⟨by simp [hb, hc], by simp [hc], rfl, boxIn_mk _⟩
    · rcases Bool.eq_false_or_eq_true (c == 0) with hc | hc
      · go_quiet (fail)
        go_wp2
        go_meet
        case rel => exact ⟨by simp [hb], by simp [hc], rfl, boxIn_mk _⟩
      · go_quiet (fail)
        go_wp2
        go_meet
        case rel => exact ⟨by simp [hb], by simp [hc], rfl, boxIn_mk _⟩
  case rest =>
    obtain ⟨rfl, rfl, rfl, hbox⟩ := hcut
    obtain ⟨bx0, bx1, bx2, bx3, bx4, hbel⟩ := hbox
    have HB := Lib.hid hbel
    clear hbel
    rcases Bool.eq_false_or_eq_true ((d == 0)) with g0 | g0
    · skip
      rw [g0]
      have G0 := Lib.hid g0
      clear g0
      rcases Bool.eq_false_or_eq_true (fitB a 8) with g1 | g1
      · skip
        rcases Bool.eq_false_or_eq_true (fitB b 8) with g2 | g2
        · skip
          rcases Bool.eq_false_or_eq_true (fitB c 8) with g3 | g3
          · skip
            have b1 := fitB_iff.1 g1
            obtain ⟨l1, u1⟩ := b1
            simp only [Int.reducePow] at u1
            have m1 : bits .and .i64 a 255 = a := by rw [show (255 : Int) = 2 ^ 8 - 1 from rfl, and_mask a 8 (by omega)]; exact Int.emod_eq_of_lt l1 (by simpa using u1)
            have b2 := fitB_iff.1 g2
            obtain ⟨l2, u2⟩ := b2
            simp only [Int.reducePow] at u2
            have m2 : bits .and .i64 b 255 = b := by rw [show (255 : Int) = 2 ^ 8 - 1 from rfl, and_mask b 8 (by omega)]; exact Int.emod_eq_of_lt l2 (by simpa using u2)
            have b3 := fitB_iff.1 g3
            obtain ⟨l3, u3⟩ := b3
            simp only [Int.reducePow] at u3
            have m3 : bits .and .i64 c 255 = c := by rw [show (255 : Int) = 2 ^ 8 - 1 from rfl, and_mask c 8 (by omega)]; exact Int.emod_eq_of_lt l3 (by simpa using u3)
            go_wp2_with (go_at_call 45; refine (machArity_calls _ _ (by omega) (by omega)).mono ?_; rintro e wx ⟨rfl, rfl⟩)
            go_quiet ((go_at_call 44; first | exact Calls.quiet_of_same (bits8 _ _)))
            go_wp2
            go_ret2
            refine refPost_yes (by rw [H1.out, if_pos (by simp [G0.out, g1, g2, g3])]) ?_ (below_drewN HB.out _)
            have q0 := join 24 (op * 16777216) (a * 65536) (by omega) (by omega) (by omega) (by omega) (by omega) (by omega)
            have q1 := join 16 (op * 16777216 + a * 65536) (b * 256) (by omega) (by omega) (by omega) (by omega) (by omega) (by omega)
            have q2 := join 8 (op * 16777216 + a * 65536 + b * 256) (c) (by omega) (by omega) (by omega) (by omega) (by omega) (by omega)
            have qo : op % 4294967296 * 16777216 % 4294967296 = op * 16777216 := by omega
            first | rw [qo] | skip
            rw [q0, q1, q2]
          · skip
            go_wp2_with (go_at_call 45; refine (machArity_calls _ _ (by omega) (by omega)).mono ?_; rintro e wx ⟨rfl, rfl⟩)
            go_quiet ((go_at_call 44; first | exact Calls.quiet_of_same (bits8 _ _)))
            go_wp2
            go_ret2
            exact refPost_no (by rw [H1.out, if_neg (by simp [G0.out, g1, g2, g3])]) (below_drewN HB.out _)
        · skip
          go_wp2_with (go_at_call 45; refine (machArity_calls _ _ (by omega) (by omega)).mono ?_; rintro e wx ⟨rfl, rfl⟩)
          go_quiet ((go_at_call 44; first | exact Calls.quiet_of_same (bits8 _ _)))
          go_wp2
          go_ret2
          exact refPost_no (by rw [H1.out, if_neg (by simp [G0.out, g1, g2])]) (below_drewN HB.out _)
      · skip
        go_wp2_with (go_at_call 45; refine (machArity_calls _ _ (by omega) (by omega)).mono ?_; rintro e wx ⟨rfl, rfl⟩)
        go_quiet ((go_at_call 44; first | exact Calls.quiet_of_same (bits8 _ _)))
        go_wp2
        go_ret2
        exact refPost_no (by rw [H1.out, if_neg (by simp [G0.out, g1])]) (below_drewN HB.out _)
    · skip
      rw [g0]
      have G0 := Lib.hid g0
      clear g0
      go_wp2_with (go_at_call 45; refine (machArity_calls _ _ (by omega) (by omega)).mono ?_; rintro e wx ⟨rfl, rfl⟩)
      go_quiet ((go_at_call 44; first | exact Calls.quiet_of_same (bits8 _ _)))
      go_wp2
      go_ret2
      exact refPost_no (by rw [H1.out, if_neg (by simp [G0.out])]) (below_drewN HB.out _)

set_option maxHeartbeats 16000000 in
set_option maxRecDepth 100000 in
theorem ref_H (op a b c d : Int) (w : World) (hop : 47 ≤ op ∧ op ≤ 52) : Calls Try.prog 36 #[.agg #[.int .i64 op, .int .i64 a, .int .i64 b, .int .i64 c, .int .i64 d]] w (RefPost op a b c d w) := by
  have H1 := Lib.hid (one_H (op := op) (a := a) (b := b) (c := c) (d := d) (by omega))
  have hop0 : ¬ (op < 0) := by omega
  have hop1 : ¬ (60 < op) := by omega
  have hop2 : op ≤ 60 := by omega
  have ar : arity (op - 32) = 1 := arity1 (by omega) (by omega)
  have e1 : (op == 1) = false := by rw [beq_eq_false_iff_ne]; omega
  have e5 : (op == 5) = false := by rw [beq_eq_false_iff_ne]; omega
  have e6 : (op == 6) = false := by rw [beq_eq_false_iff_ne]; omega
  have e11 : (op == 11) = false := by rw [beq_eq_false_iff_ne]; omega
  have e12 : (op == 12) = false := by rw [beq_eq_false_iff_ne]; omega
  have e13 : (op == 13) = false := by rw [beq_eq_false_iff_ne]; omega
  have e14 : (op == 14) = false := by rw [beq_eq_false_iff_ne]; omega
  have e2 : (op == 2) = false := by rw [beq_eq_false_iff_ne]; omega
  have e7 : (op == 7) = false := by rw [beq_eq_false_iff_ne]; omega
  have e8 : (op == 8) = false := by rw [beq_eq_false_iff_ne]; omega
  have e10 : (op == 10) = false := by rw [beq_eq_false_iff_ne]; omega
  have e4 : (op == 4) = false := by rw [beq_eq_false_iff_ne]; omega
  have e9 : (op == 9) = false := by rw [beq_eq_false_iff_ne]; omega
  have e16 : (op == 16) = false := by rw [beq_eq_false_iff_ne]; omega
  have e15 : (op == 15) = false := by rw [beq_eq_false_iff_ne]; omega
  have e17 : (op == 17) = false := by rw [beq_eq_false_iff_ne]; omega
  go_enter Try.func36, Try.ntmps36
  go_upto_region 4 with (fail)
  go_cut [5, 6, 7] (fun s5 s6 s7 wc => s5 = .bool (b == 0 && c == 0) ∧ s6 = .bool (c == 0 && d == 0) ∧ s7 = .bool (d == 0) ∧ BoxIn op a b c d w wc)
  case first =>
    rcases Bool.eq_false_or_eq_true (b == 0) with hb | hb
    · rcases Bool.eq_false_or_eq_true (c == 0) with hc | hc
      · go_quiet (fail)
        go_wp2
        go_meet
        case rel => exact ⟨by simp [hb, hc], by simp [hc], rfl, boxIn_mk _⟩
      · go_quiet (fail)
        go_wp2
        go_meet
        case rel => exact ⟨by simp [hb, hc], by simp [hc], rfl, boxIn_mk _⟩
    · rcases Bool.eq_false_or_eq_true (c == 0) with hc | hc
      · go_quiet (fail)
        go_wp2
        go_meet
        case rel => exact ⟨by simp [hb], by simp [hc], rfl, boxIn_mk _⟩
      · go_quiet (fail)
        go_wp2
        go_meet
        case rel => exact ⟨by simp [hb], by simp [hc], rfl, boxIn_mk _⟩
  case rest =>
    obtain ⟨rfl, rfl, rfl, hbox⟩ := hcut
    obtain ⟨bx0, bx1, bx2, bx3, bx4, hbel⟩ := hbox
    have HB := Lib.hid hbel
    clear hbel
    rcases Bool.eq_false_or_eq_true ((c == 0 && d == 0)) with g0 | g0
    · skip
      rw [g0]
      have G0 := Lib.hid g0
      clear g0
      rcases Bool.eq_false_or_eq_true (fitB a 8) with g1 | g1
      · skip
        rcases Bool.eq_false_or_eq_true (fitB b 8) with g2 | g2
        · skip
          have b1 := fitB_iff.1 g1
          obtain ⟨l1, u1⟩ := b1
          simp only [Int.reducePow] at u1
          have m1 : bits .and .i64 a 255 = a := by rw [show (255 : Int) = 2 ^ 8 - 1 from rfl, and_mask a 8 (by omega)]; exact Int.emod_eq_of_lt l1 (by simpa using u1)
          have b2 := fitB_iff.1 g2
          obtain ⟨l2, u2⟩ := b2
          simp only [Int.reducePow] at u2
          have m2 : bits .and .i64 b 255 = b := by rw [show (255 : Int) = 2 ^ 8 - 1 from rfl, and_mask b 8 (by omega)]; exact Int.emod_eq_of_lt l2 (by simpa using u2)
          go_wp2_with (go_at_call 45; refine (machArity_calls _ _ (by omega) (by omega)).mono ?_; rintro e wx ⟨rfl, rfl⟩)
          go_quiet ((go_at_call 44; first | exact Calls.quiet_of_same (bits8 _ _)))
          go_wp2
          go_ret2
          refine refPost_yes (by rw [H1.out, if_pos (by simp [G0.out, g1, g2])]) ?_ (below_drewN HB.out _)
          have q0 := join 24 (op * 16777216) (a * 65536) (by omega) (by omega) (by omega) (by omega) (by omega) (by omega)
          have q1 := join 16 (op * 16777216 + a * 65536) (b * 256) (by omega) (by omega) (by omega) (by omega) (by omega) (by omega)
          have qo : op % 4294967296 * 16777216 % 4294967296 = op * 16777216 := by omega
          first | rw [qo] | skip
          rw [q0, q1]
        · skip
          go_wp2_with (go_at_call 45; refine (machArity_calls _ _ (by omega) (by omega)).mono ?_; rintro e wx ⟨rfl, rfl⟩)
          go_quiet ((go_at_call 44; first | exact Calls.quiet_of_same (bits8 _ _)))
          go_wp2
          go_ret2
          exact refPost_no (by rw [H1.out, if_neg (by simp [G0.out, g1, g2])]) (below_drewN HB.out _)
      · skip
        go_wp2_with (go_at_call 45; refine (machArity_calls _ _ (by omega) (by omega)).mono ?_; rintro e wx ⟨rfl, rfl⟩)
        go_quiet ((go_at_call 44; first | exact Calls.quiet_of_same (bits8 _ _)))
        go_wp2
        go_ret2
        exact refPost_no (by rw [H1.out, if_neg (by simp [G0.out, g1])]) (below_drewN HB.out _)
    · skip
      rw [g0]
      have G0 := Lib.hid g0
      clear g0
      go_wp2_with (go_at_call 45; refine (machArity_calls _ _ (by omega) (by omega)).mono ?_; rintro e wx ⟨rfl, rfl⟩)
      go_quiet ((go_at_call 44; first | exact Calls.quiet_of_same (bits8 _ _)))
      go_wp2
      go_ret2
      exact refPost_no (by rw [H1.out, if_neg (by simp [G0.out])]) (below_drewN HB.out _)

end Go.Proofs.Yteaaahcgkodcdaa.Ea
