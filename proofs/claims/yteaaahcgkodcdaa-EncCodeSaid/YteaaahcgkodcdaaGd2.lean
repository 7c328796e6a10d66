/- The reference's One, by kinds of instructions. -/
import Derived.Test.YteaaahcgkodcdaaGc
namespace Go.Proofs.Yteaaahcgkodcdaa.Ea
open Go.RowKit
set_option linter.unusedSimpArgs false
set_option linter.unusedVariables false

set_option maxHeartbeats 16000000 in
set_option maxRecDepth 100000 in
theorem ref_7 (op a b c d : Int) (w : World) (hop : op = 7) : Calls Try.prog 36 #[.agg #[.int .i64 op, .int .i64 a, .int .i64 b, .int .i64 c, .int .i64 d]] w (RefPost op a b c d w) := by
  have H1 := Lib.hid (one_C (op := op) (a := a) (b := b) (c := c) (d := d) (by omega))
  have hop0 : ¬ (op < 0) := by omega
  have hop1 : ¬ (60 < op) := by omega
  have hop2 : op ≤ 60 := by omega
  clear hop0 hop1 hop2
  subst hop
  go_enter Try.func36, Try.ntmps36
  go_upto_region 4 with (fail)
  go_cut [5, 6, 7] (fun s5 s6 s7 wc => s5 = .bool (b == 0 && c == 0) ∧ s6 = .bool (c == 0 && d == 0) ∧ s7 = .bool (d == 0) ∧ BoxIn 7 a b c d w wc)
  case first =>
    rcases Bool.eq_false_or_eq_true (b == 0) with hb | hb
    · rcases Bool.eq_false_or_eq_true (c == 0) with hc | hc
      · go_quiet (fail)
        go_wp2
        go_meet
        case rel => exact ⟨by simp [hb, hc], by simp [hc], rfl, boxIn_mk _⟩
      · go_quiet (fail)
        go_wp2
        go_meet
        case rel => exact ⟨by simp [hb, hc], by simp [hc], rfl, boxIn_mk _⟩
    · rcases Bool.eq_false_or_eq_true (c == 0) with hc | hc
      · go_quiet (fail)
        go_wp2
        go_meet
        case rel => exact ⟨by simp [hb], by simp [hc], rfl, boxIn_mk _⟩
      · go_quiet (fail)
        go_wp2
        go_meet
        case rel => exact ⟨by simp [hb], by simp [hc], rfl, boxIn_mk _⟩
  case rest =>
    obtain ⟨rfl, rfl, rfl, hbox⟩ := hcut
    obtain ⟨bx0, bx1, bx2, bx3, bx4, hbel⟩ := hbox
    have HB := Lib.hid hbel
    clear hbel
    rcases Bool.eq_false_or_eq_true ((b == 0 && c == 0)) with g0 | g0
    · skip
      rw [g0]
      have G0 := Lib.hid g0
      clear g0
      rcases Bool.eq_false_or_eq_true ((d == 0)) with g1 | g1
      · skip
        rw [g1]
        have G1 := Lib.hid g1
        clear g1
        rcases Bool.eq_false_or_eq_true (fitB a 8) with g2 | g2
        · skip
          have b2 := fitB_iff.1 g2
          obtain ⟨l2, u2⟩ := b2
          simp only [Int.reducePow] at u2
          have m2 : bits .and .i64 a 255 = a := by rw [show (255 : Int) = 2 ^ 8 - 1 from rfl, and_mask a 8 (by omega)]; exact Int.emod_eq_of_lt l2 (by simpa using u2)
          go_wp2_with fail
          go_quiet ((go_at_call 44; first | exact Calls.quiet_of_same (bits8 _ _)))
          go_wp2
          go_ret2
          refine refPost_yes (by rw [H1.out, if_pos (by simp [G0.out, G1.out, g2])]) ?_ (below_drewN HB.out _)
          have q0 := join 24 (117440512) (a * 65536) (by omega) (by omega) (by omega) (by omega) (by omega) (by omega)
          rw [q0]
          omega
        · skip
          go_wp2_with fail
          go_quiet ((go_at_call 44; first | exact Calls.quiet_of_same (bits8 _ _)))
          go_wp2
          go_ret2
          exact refPost_no (by rw [H1.out, if_neg (by simp [G0.out, G1.out, g2])]) (below_drewN HB.out _)
      · skip
        rw [g1]
        have G1 := Lib.hid g1
        clear g1
        go_wp2_with fail
        go_quiet ((go_at_call 44; first | exact Calls.quiet_of_same (bits8 _ _)))
        go_wp2
        go_ret2
        exact refPost_no (by rw [H1.out, if_neg (by simp [G0.out, G1.out])]) (below_drewN HB.out _)
    · skip
      rw [g0]
      have G0 := Lib.hid g0
      clear g0
      go_wp2_with fail
      go_quiet ((go_at_call 44; first | exact Calls.quiet_of_same (bits8 _ _)))
      go_wp2
      go_ret2
      exact refPost_no (by rw [H1.out, if_neg (by simp [G0.out])]) (below_drewN HB.out _)

set_option maxHeartbeats 16000000 in
set_option maxRecDepth 100000 in
theorem ref_8 (op a b c d : Int) (w : World) (hop : op = 8) : Calls Try.prog 36 #[.agg #[.int .i64 op, .int .i64 a, .int .i64 b, .int .i64 c, .int .i64 d]] w (RefPost op a b c d w) := by
  have H1 := Lib.hid (one_C (op := op) (a := a) (b := b) (c := c) (d := d) (by omega))
  have hop0 : ¬ (op < 0) := by omega
  have hop1 : ¬ (60 < op) := by omega
  have hop2 : op ≤ 60 := by omega
  clear hop0 hop1 hop2
  subst hop
  go_enter Try.func36, Try.ntmps36
  go_upto_region 4 with (fail)
  go_cut [5, 6, 7] (fun s5 s6 s7 wc => s5 = .bool (b == 0 && c == 0) ∧ s6 = .bool (c == 0 && d == 0) ∧ s7 = .bool (d == 0) ∧ BoxIn 8 a b c d w wc)
  case first =>
    rcases Bool.eq_false_or_eq_true (b == 0) with hb | hb
    · rcases Bool.eq_false_or_eq_true (c == 0) with hc | hc
      · go_quiet (fail)
        go_wp2
        go_meet
        case rel => exact ⟨by simp [hb, hc], by simp [hc], rfl, boxIn_mk _⟩
      · go_quiet (fail)
        go_wp2
        go_meet
        case rel => exact ⟨by simp [hb, hc], by simp [hc], rfl, boxIn_mk _⟩
    · rcases Bool.eq_false_or_eq_true (c == 0) with hc | hc
      · go_quiet (fail)
        go_wp2
        go_meet
        case rel => exact ⟨by simp [hb], by simp [hc], rfl, boxIn_mk _⟩
      · go_quiet (fail)
        go_wp2
        go_meet
        case rel => exact ⟨by simp [hb], by simp [hc], rfl, boxIn_mk _⟩
  case rest =>
    obtain ⟨rfl, rfl, rfl, hbox⟩ := hcut
    obtain ⟨bx0, bx1, bx2, bx3, bx4, hbel⟩ := hbox
    have HB := Lib.hid hbel
    clear hbel
    rcases Bool.eq_false_or_eq_true ((b == 0 && c == 0)) with g0 | g0
    · skip
      rw [g0]
      have G0 := Lib.hid g0
      clear g0
      rcases Bool.eq_false_or_eq_true ((d == 0)) with g1 | g1
      · skip
        rw [g1]
        have G1 := Lib.hid g1
        clear g1
        rcases Bool.eq_false_or_eq_true (fitB a 8) with g2 | g2
        · skip
          have b2 := fitB_iff.1 g2
          obtain ⟨l2, u2⟩ := b2
          simp only [Int.reducePow] at u2
          have m2 : bits .and .i64 a 255 = a := by rw [show (255 : Int) = 2 ^ 8 - 1 from rfl, and_mask a 8 (by omega)]; exact Int.emod_eq_of_lt l2 (by simpa using u2)
          go_wp2_with fail
          go_quiet ((go_at_call 44; first | exact Calls.quiet_of_same (bits8 _ _)))
          go_wp2
          go_ret2
          refine refPost_yes (by rw [H1.out, if_pos (by simp [G0.out, G1.out, g2])]) ?_ (below_drewN HB.out _)
          have q0 := join 24 (134217728) (a * 65536) (by omega) (by omega) (by omega) (by omega) (by omega) (by omega)
          rw [q0]
          omega
        · skip
          go_wp2_with fail
          go_quiet ((go_at_call 44; first | exact Calls.quiet_of_same (bits8 _ _)))
          go_wp2
          go_ret2
          exact refPost_no (by rw [H1.out, if_neg (by simp [G0.out, G1.out, g2])]) (below_drewN HB.out _)
      · skip
        rw [g1]
        have G1 := Lib.hid g1
        clear g1
        go_wp2_with fail
        go_quiet ((go_at_call 44; first | exact Calls.quiet_of_same (bits8 _ _)))
        go_wp2
        go_ret2
        exact refPost_no (by rw [H1.out, if_neg (by simp [G0.out, G1.out])]) (below_drewN HB.out _)
    · skip
      rw [g0]
      have G0 := Lib.hid g0
      clear g0
      go_wp2_with fail
      go_quiet ((go_at_call 44; first | exact Calls.quiet_of_same (bits8 _ _)))
      go_wp2
      go_ret2
      exact refPost_no (by rw [H1.out, if_neg (by simp [G0.out])]) (below_drewN HB.out _)

set_option maxHeartbeats 16000000 in
set_option maxRecDepth 100000 in
theorem ref_10 (op a b c d : Int) (w : World) (hop : op = 10) : Calls Try.prog 36 #[.agg #[.int .i64 op, .int .i64 a, .int .i64 b, .int .i64 c, .int .i64 d]] w (RefPost op a b c d w) := by
  have H1 := Lib.hid (one_C (op := op) (a := a) (b := b) (c := c) (d := d) (by omega))
  have hop0 : ¬ (op < 0) := by omega
  have hop1 : ¬ (60 < op) := by omega
  have hop2 : op ≤ 60 := by omega
  clear hop0 hop1 hop2
  subst hop
  go_enter Try.func36, Try.ntmps36
  go_upto_region 4 with (fail)
  go_cut [5, 6, 7] (fun s5 s6 s7 wc => s5 = .bool (b == 0 && c == 0) ∧ s6 = .bool (c == 0 && d == 0) ∧ s7 = .bool (d == 0) ∧ BoxIn 10 a b c d w wc)
  case first =>
    rcases Bool.eq_false_or_eq_true (b == 0) with hb | hb
    · rcases Bool.eq_false_or_eq_true (c == 0) with hc | hc
      · go_quiet (fail)
        go_wp2
        go_meet
        case rel => exact ⟨by simp [hb, hc], by simp [hc], rfl, boxIn_mk _⟩
      · go_quiet (fail)
        go_wp2
        go_meet
        case rel => exact ⟨by simp [hb, hc], by simp [hc], rfl, boxIn_mk _⟩
    · rcases Bool.eq_false_or_eq_true (c == 0) with hc | hc
      · go_quiet (fail)
        go_wp2
        go_meet
        case rel => exact ⟨by simp [hb], by simp [hc], rfl, boxIn_mk _⟩
      · go_quiet (fail)
        go_wp2
        go_meet
        case rel => exact ⟨by simp [hb], by simp [hc], rfl, boxIn_mk _⟩
  case rest =>
    obtain ⟨rfl, rfl, rfl, hbox⟩ := hcut
    obtain ⟨bx0, bx1, bx2, bx3, bx4, hbel⟩ := hbox
    have HB := Lib.hid hbel
    clear hbel
    rcases Bool.eq_false_or_eq_true ((b == 0 && c == 0)) with g0 | g0
    · skip
      rw [g0]
      have G0 := Lib.hid g0
      clear g0
      rcases Bool.eq_false_or_eq_true ((d == 0)) with g1 | g1
      · skip
        rw [g1]
        have G1 := Lib.hid g1
        clear g1
        rcases Bool.eq_false_or_eq_true (fitB a 8) with g2 | g2
        · skip
          have b2 := fitB_iff.1 g2
          obtain ⟨l2, u2⟩ := b2
          simp only [Int.reducePow] at u2
          have m2 : bits .and .i64 a 255 = a := by rw [show (255 : Int) = 2 ^ 8 - 1 from rfl, and_mask a 8 (by omega)]; exact Int.emod_eq_of_lt l2 (by simpa using u2)
          go_wp2_with fail
          go_quiet ((go_at_call 44; first | exact Calls.quiet_of_same (bits8 _ _)))
          go_wp2
          go_ret2
          refine refPost_yes (by rw [H1.out, if_pos (by simp [G0.out, G1.out, g2])]) ?_ (below_drewN HB.out _)
          have q0 := join 24 (167772160) (a * 65536) (by omega) (by omega) (by omega) (by omega) (by omega) (by omega)
          rw [q0]
          omega
        · skip
          go_wp2_with fail
          go_quiet ((go_at_call 44; first | exact Calls.quiet_of_same (bits8 _ _)))
          go_wp2
          go_ret2
          exact refPost_no (by rw [H1.out, if_neg (by simp [G0.out, G1.out, g2])]) (below_drewN HB.out _)
      · skip
        rw [g1]
        have G1 := Lib.hid g1
        clear g1
        go_wp2_with fail
        go_quiet ((go_at_call 44; first | exact Calls.quiet_of_same (bits8 _ _)))
        go_wp2
        go_ret2
        exact refPost_no (by rw [H1.out, if_neg (by simp [G0.out, G1.out])]) (below_drewN HB.out _)
    · skip
      rw [g0]
      have G0 := Lib.hid g0
      clear g0
      go_wp2_with fail
      go_quiet ((go_at_call 44; first | exact Calls.quiet_of_same (bits8 _ _)))
      go_wp2
      go_ret2
      exact refPost_no (by rw [H1.out, if_neg (by simp [G0.out])]) (below_drewN HB.out _)

set_option maxHeartbeats 16000000 in
set_option maxRecDepth 100000 in
theorem ref_4 (op a b c d : Int) (w : World) (hop : op = 4) : Calls Try.prog 36 #[.agg #[.int .i64 op, .int .i64 a, .int .i64 b, .int .i64 c, .int .i64 d]] w (RefPost op a b c d w) := by
  have H1 := Lib.hid (one_D (op := op) (a := a) (b := b) (c := c) (d := d) (by omega))
  have hop0 : ¬ (op < 0) := by omega
  have hop1 : ¬ (60 < op) := by omega
  have hop2 : op ≤ 60 := by omega
  clear hop0 hop1 hop2
  subst hop
  go_enter Try.func36, Try.ntmps36
  go_upto_region 4 with (fail)
  go_cut [5, 6, 7] (fun s5 s6 s7 wc => s5 = .bool (b == 0 && c == 0) ∧ s6 = .bool (c == 0 && d == 0) ∧ s7 = .bool (d == 0) ∧ BoxIn 4 a b c d w wc)
  case first =>
    rcases Bool.eq_false_or_eq_true (b == 0) with hb | hb
    · rcases Bool.eq_false_or_eq_true (c == 0) with hc | hc
      · go_quiet (fail)
        go_wp2
        go_meet
        case rel => exact ⟨by simp [hb, hc], by simp [hc], rfl, boxIn_mk _⟩
      · go_quiet (fail)
        go_wp2
        go_meet
        case rel => exact ⟨by simp [hb, hc], by simp [hc], rfl, boxIn_mk _⟩
    · rcases Bool.eq_false_or_eq_true (c == 0) with hc | hc
      · go_quiet (fail)
        go_wp2
        go_meet
        case rel => exact ⟨by simp [hb], by simp [hc], rfl, boxIn_mk _⟩
      · go_quiet (fail)
        go_wp2
        go_meet
        case rel => exact ⟨by simp [hb], by simp [hc], rfl, boxIn_mk _⟩
  case rest =>
    obtain ⟨rfl, rfl, rfl, hbox⟩ := hcut
    obtain ⟨bx0, bx1, bx2, bx3, bx4, hbel⟩ := hbox
    have HB := Lib.hid hbel
    clear hbel
    rcases Bool.eq_false_or_eq_true ((b == 0 && c == 0)) with g0 | g0
    · skip
      rw [g0]
      have G0 := Lib.hid g0
      clear g0
      rcases Bool.eq_false_or_eq_true ((d == 0)) with g1 | g1
      · skip
        rw [g1]
        have G1 := Lib.hid g1
        clear g1
        rcases Bool.eq_false_or_eq_true (fitB a 24) with g2 | g2
        · skip
          have b2 := fitB_iff.1 g2
          obtain ⟨l2, u2⟩ := b2
          simp only [Int.reducePow] at u2
          have m2 : bits .and .i64 a 16777215 = a := by rw [show (16777215 : Int) = 2 ^ 24 - 1 from rfl, and_mask a 24 (by omega)]; exact Int.emod_eq_of_lt l2 (by simpa using u2)
          go_wp2_with fail
          go_quiet ((go_at_call 44; first | exact Calls.quiet_of_same (bits24 _ _)))
          go_wp2
          go_ret2
          refine refPost_yes (by rw [H1.out, if_pos (by simp [G0.out, G1.out, g2])]) ?_ (below_drewN HB.out _)
          have q0 := join 24 (67108864) (a) (by omega) (by omega) (by omega) (by omega) (by omega) (by omega)
          rw [q0]
          omega
        · skip
          go_wp2_with fail
          go_quiet ((go_at_call 44; first | exact Calls.quiet_of_same (bits24 _ _)))
          go_wp2
          go_ret2
          exact refPost_no (by rw [H1.out, if_neg (by simp [G0.out, G1.out, g2])]) (below_drewN HB.out _)
      · skip
        rw [g1]
        have G1 := Lib.hid g1
        clear g1
        go_wp2_with fail
        go_quiet ((go_at_call 44; first | exact Calls.quiet_of_same (bits24 _ _)))
        go_wp2
        go_ret2
        exact refPost_no (by rw [H1.out, if_neg (by simp [G0.out, G1.out])]) (below_drewN HB.out _)
    · skip
      rw [g0]
      have G0 := Lib.hid g0
      clear g0
      go_wp2_with fail
      go_quiet ((go_at_call 44; first | exact Calls.quiet_of_same (bits24 _ _)))
      go_wp2
      go_ret2
      exact refPost_no (by rw [H1.out, if_neg (by simp [G0.out])]) (below_drewN HB.out _)

end Go.Proofs.Yteaaahcgkodcdaa.Ea
