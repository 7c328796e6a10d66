/- The reference's One, by kinds of instructions. -/
import Derived.Test.YteaaahcgkodcdaaGk
namespace Go.Proofs.Yteaaahcgkodcdaa.Ea
open Go.RowKit
set_option linter.unusedSimpArgs false
set_option linter.unusedVariables false

set_option maxHeartbeats 16000000 in
set_option maxRecDepth 100000 in
theorem ref_15_0 (op a b c d : Int) (w : World) (hop : op = 15) (g0 : fitB a 6 = false) : Calls Try.prog 36 #[.agg #[.int .i64 op, .int .i64 a, .int .i64 b, .int .i64 c, .int .i64 d]] w (RefPost op a b c d w) := by
  have H1 := Lib.hid (one_E (op := op) (a := a) (b := b) (c := c) (d := d) (by omega))
  have hop0 : ¬ (op < 0) := by omega
  have hop1 : ¬ (60 < op) := by omega
  have hop2 : op ≤ 60 := by omega
  clear hop0 hop1 hop2
  subst hop
  go_enter Try.func36, Try.ntmps36
  go_upto_region 4 with (fail)
  go_cut [5, 6, 7] (fun s5 s6 s7 wc => s5 = .bool (b == 0 && c == 0) ∧ s6 = .bool (c == 0 && d == 0) ∧ s7 = .bool (d == 0) ∧ BoxIn 15 a b c d w wc)
  case first =>
    rcases Bool.eq_false_or_eq_true (b == 0) with hb | hb
    · rcases Bool.eq_false_or_eq_true (c == 0) with hc | hc
      · go_quiet (fail)
        go_wp2
        go_meet
        case rel => exact ⟨by simp [hb, hc], by simp [hc], rfl, boxIn_mk _⟩
      · go_quiet (fail)
        go_wp2
        go_meet
        case rel => exact ⟨by simp [hb, hc], by simp [hc], rfl, boxIn_mk _⟩
    · rcases Bool.eq_false_or_eq_true (c == 0) with hc | hc
      · go_quiet (fail)
        go_wp2
        go_meet
        case rel => exact ⟨by simp [hb], by simp [hc], rfl, boxIn_mk _⟩
      · go_quiet (fail)
        go_wp2
        go_meet
        case rel => exact ⟨by simp [hb], by simp [hc], rfl, boxIn_mk _⟩
  case rest =>
    obtain ⟨rfl, rfl, rfl, hbox⟩ := hcut
    obtain ⟨bx0, bx1, bx2, bx3, bx4, hbel⟩ := hbox
    have HB := Lib.hid hbel
    clear hbel
    go_wp2_with fail
    go_quiet ((go_at_call 44; first | exact Calls.quiet_of_same (bits6 _ _)))
    go_wp2
    go_ret2
    exact refPost_no (by rw [H1.out, if_neg (by simp [g0])]) (below_drewN HB.out _)

set_option maxHeartbeats 16000000 in
set_option maxRecDepth 100000 in
theorem ref_15_1 (op a b c d : Int) (w : World) (hop : op = 15) (g0 : fitB a 6 = true) (g1 : fitB b 6 = false) : Calls Try.prog 36 #[.agg #[.int .i64 op, .int .i64 a, .int .i64 b, .int .i64 c, .int .i64 d]] w (RefPost op a b c d w) := by
  have H1 := Lib.hid (one_E (op := op) (a := a) (b := b) (c := c) (d := d) (by omega))
  have hop0 : ¬ (op < 0) := by omega
  have hop1 : ¬ (60 < op) := by omega
  have hop2 : op ≤ 60 := by omega
  clear hop0 hop1 hop2
  subst hop
  go_enter Try.func36, Try.ntmps36
  go_upto_region 4 with (fail)
  go_cut [5, 6, 7] (fun s5 s6 s7 wc => s5 = .bool (b == 0 && c == 0) ∧ s6 = .bool (c == 0 && d == 0) ∧ s7 = .bool (d == 0) ∧ BoxIn 15 a b c d w wc)
  case first =>
    rcases Bool.eq_false_or_eq_true (b == 0) with hb | hb
    · rcases Bool.eq_false_or_eq_true (c == 0) with hc | hc
      · go_quiet (fail)
        go_wp2
        go_meet
        case rel => exact ⟨by simp [hb, hc], by simp [hc], rfl, boxIn_mk _⟩
      · go_quiet (fail)
        go_wp2
        go_meet
        case rel => exact ⟨by simp [hb, hc], by simp [hc], rfl, boxIn_mk _⟩
    · rcases Bool.eq_false_or_eq_true (c == 0) with hc | hc
      · go_quiet (fail)
        go_wp2
        go_meet
        case rel => exact ⟨by simp [hb], by simp [hc], rfl, boxIn_mk _⟩
      · go_quiet (fail)
        go_wp2
        go_meet
        case rel => exact ⟨by simp [hb], by simp [hc], rfl, boxIn_mk _⟩
  case rest =>
    obtain ⟨rfl, rfl, rfl, hbox⟩ := hcut
    obtain ⟨bx0, bx1, bx2, bx3, bx4, hbel⟩ := hbox
    have HB := Lib.hid hbel
    clear hbel
    go_wp2_with fail
    go_quiet ((go_at_call 44; first | exact Calls.quiet_of_same (bits6 _ _)))
    go_wp2
    go_ret2
    exact refPost_no (by rw [H1.out, if_neg (by simp [g0, g1])]) (below_drewN HB.out _)

set_option maxHeartbeats 16000000 in
set_option maxRecDepth 100000 in
theorem ref_15_2 (op a b c d : Int) (w : World) (hop : op = 15) (g0 : fitB a 6 = true) (g1 : fitB b 6 = true) (g2 : fitB c 6 = false) : Calls Try.prog 36 #[.agg #[.int .i64 op, .int .i64 a, .int .i64 b, .int .i64 c, .int .i64 d]] w (RefPost op a b c d w) := by
  have H1 := Lib.hid (one_E (op := op) (a := a) (b := b) (c := c) (d := d) (by omega))
  have hop0 : ¬ (op < 0) := by omega
  have hop1 : ¬ (60 < op) := by omega
  have hop2 : op ≤ 60 := by omega
  clear hop0 hop1 hop2
  subst hop
  go_enter Try.func36, Try.ntmps36
  go_upto_region 4 with (fail)
  go_cut [5, 6, 7] (fun s5 s6 s7 wc => s5 = .bool (b == 0 && c == 0) ∧ s6 = .bool (c == 0 && d == 0) ∧ s7 = .bool (d == 0) ∧ BoxIn 15 a b c d w wc)
  case first =>
    rcases Bool.eq_false_or_eq_true (b == 0) with hb | hb
    · rcases Bool.eq_false_or_eq_true (c == 0) with hc | hc
      · go_quiet (fail)
        go_wp2
        go_meet
        case rel => exact ⟨by simp [hb, hc], by simp [hc], rfl, boxIn_mk _⟩
      · go_quiet (fail)
        go_wp2
        go_meet
        case rel => exact ⟨by simp [hb, hc], by simp [hc], rfl, boxIn_mk _⟩
    · rcases Bool.eq_false_or_eq_true (c == 0) with hc | hc
      · go_quiet (fail)
        go_wp2
        go_meet
        case rel => exact ⟨by simp [hb], by simp [hc], rfl, boxIn_mk _⟩
      · go_quiet (fail)
        go_wp2
        go_meet
        case rel => exact ⟨by simp [hb], by simp [hc], rfl, boxIn_mk _⟩
  case rest =>
    obtain ⟨rfl, rfl, rfl, hbox⟩ := hcut
    obtain ⟨bx0, bx1, bx2, bx3, bx4, hbel⟩ := hbox
    have HB := Lib.hid hbel
    clear hbel
    go_wp2_with fail
    go_quiet ((go_at_call 44; first | exact Calls.quiet_of_same (bits6 _ _)))
    go_wp2
    go_ret2
    exact refPost_no (by rw [H1.out, if_neg (by simp [g0, g1, g2])]) (below_drewN HB.out _)

end Go.Proofs.Yteaaahcgkodcdaa.Ea
