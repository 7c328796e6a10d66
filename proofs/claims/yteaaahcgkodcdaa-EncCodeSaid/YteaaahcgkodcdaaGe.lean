/- The reference's One where there is no such instruction. -/
import Derived.Test.YteaaahcgkodcdaaGc
namespace Go.Proofs.Yteaaahcgkodcdaa.Ea
open Go.RowKit
set_option linter.unusedSimpArgs false
set_option linter.unusedVariables false

theorem many_none {op : Int} (h : many op < 0) :
    (op ≠ 1 ∧ op ≠ 2 ∧ op ≠ 4 ∧ op ≠ 5 ∧ op ≠ 6 ∧ op ≠ 7 ∧ op ≠ 8 ∧ op ≠ 9) ∧ (op ≠ 10 ∧ op ≠ 11 ∧ op ≠ 12 ∧ op ≠ 13 ∧ op ≠ 14 ∧ op ≠ 15 ∧ op ≠ 16 ∧ op ≠ 17) ∧ arity (op - 32) = 0 := by
  have h2 : ∀ m : Int, op = m → many m < 0 := fun m e => e ▸ h
  have ar : arity (op - 32) = 0 := by
    by_cases h1 : 33 ≤ op ∧ op ≤ 52
    · exfalso
      unfold many at h
      rw [if_neg (by omega), if_neg (by omega), if_neg (by omega)] at h
      by_cases h3 : op ≤ 46
      · rw [arity2 (by omega) (by omega)] at h; simp at h
      · rw [arity1 (by omega) (by omega)] at h; simp at h
    · exact arity0 (by omega)
  have no : ∀ m : Int, ¬ (many m < 0) → op ≠ m := fun m hm e => hm (h2 m e)
  exact ⟨⟨no 1 (by decide), no 2 (by decide), no 4 (by decide), no 5 (by decide), no 6 (by decide), no 7 (by decide), no 8 (by decide), no 9 (by decide)⟩,
    ⟨no 10 (by decide), no 11 (by decide), no 12 (by decide), no 13 (by decide), no 14 (by decide), no 15 (by decide), no 16 (by decide), no 17 (by decide)⟩, ar⟩

set_option maxHeartbeats 8000000 in
set_option maxRecDepth 100000 in
theorem ref_none (op a b c d : Int) (w : World) (hn : many op < 0) : Calls Try.prog 36 #[.agg #[.int .i64 op, .int .i64 a, .int .i64 b, .int .i64 c, .int .i64 d]] w (RefPost op a b c d w) := by
  have H1 := Lib.hid (oneF_neg (a := a) (b := b) (c := c) (d := d) hn)
  obtain ⟨⟨n1, n2, n4, n5, n6, n7, n8, n9⟩, ⟨n10, n11, n12, n13, n14, n15, n16, n17⟩, ar⟩ := many_none hn
  by_cases hop0 : op < 0
  · clear n1 n2 n4 n5 n6 n7 n8 n9 n10 n11 n12 n13 n14 n15 n16 n17 ar hn
    go_enter Try.func36, Try.ntmps36
    go_wp2
    go_ret2
    exact refPost_no H1.out (below_more (Below.refl _ _) (Nat.le_refl _) _)
  · by_cases hop1 : 60 < op
    · clear n1 n2 n4 n5 n6 n7 n8 n9 n10 n11 n12 n13 n14 n15 n16 n17 ar hn
      go_enter Try.func36, Try.ntmps36
      go_wp2
      go_ret2
      exact refPost_no H1.out (below_more (Below.refl _ _) (Nat.le_refl _) _)
    · have e1 : (op == 1) = false := beq_eq_false_iff_ne.2 n1
      have e2 : (op == 2) = false := beq_eq_false_iff_ne.2 n2
      have e4 : (op == 4) = false := beq_eq_false_iff_ne.2 n4
      have e5 : (op == 5) = false := beq_eq_false_iff_ne.2 n5
      have e6 : (op == 6) = false := beq_eq_false_iff_ne.2 n6
      have e7 : (op == 7) = false := beq_eq_false_iff_ne.2 n7
      have e8 : (op == 8) = false := beq_eq_false_iff_ne.2 n8
      have e9 : (op == 9) = false := beq_eq_false_iff_ne.2 n9
      have e10 : (op == 10) = false := beq_eq_false_iff_ne.2 n10
      have e11 : (op == 11) = false := beq_eq_false_iff_ne.2 n11
      have e12 : (op == 12) = false := beq_eq_false_iff_ne.2 n12
      have e13 : (op == 13) = false := beq_eq_false_iff_ne.2 n13
      have e14 : (op == 14) = false := beq_eq_false_iff_ne.2 n14
      have e15 : (op == 15) = false := beq_eq_false_iff_ne.2 n15
      have e16 : (op == 16) = false := beq_eq_false_iff_ne.2 n16
      have e17 : (op == 17) = false := beq_eq_false_iff_ne.2 n17
      clear n1 n2 n4 n5 n6 n7 n8 n9 n10 n11 n12 n13 n14 n15 n16 n17 hn
      go_enter Try.func36, Try.ntmps36
      go_upto_region 4 with (fail)
      go_cut [5, 6, 7] (fun s5 s6 s7 wc => s5 = .bool (b == 0 && c == 0) ∧ s6 = .bool (c == 0 && d == 0) ∧ s7 = .bool (d == 0) ∧ BoxIn op a b c d w wc)
      case first =>
        rcases Bool.eq_false_or_eq_true (b == 0) with hb | hb
        · rcases Bool.eq_false_or_eq_true (c == 0) with hc | hc
          · go_quiet (fail)
            go_wp2
            go_meet
            case rel => exact ⟨by simp [hb, hc], by simp [hc], rfl, boxIn_mk _⟩
          · go_quiet (fail)
            go_wp2
            go_meet
            case rel => exact ⟨by simp [hb, hc], by simp [hc], rfl, boxIn_mk _⟩
        · rcases Bool.eq_false_or_eq_true (c == 0) with hc | hc
          · go_quiet (fail)
            go_wp2
            go_meet
            case rel => exact ⟨by simp [hb], by simp [hc], rfl, boxIn_mk _⟩
          · go_quiet (fail)
            go_wp2
            go_meet
            case rel => exact ⟨by simp [hb], by simp [hc], rfl, boxIn_mk _⟩
      case rest =>
        obtain ⟨rfl, rfl, rfl, hbox⟩ := hcut
        obtain ⟨bx0, bx1, bx2, bx3, bx4, hbel⟩ := hbox
        have HB := Lib.hid hbel
        clear hbel
        go_wp2_with (go_at_call 45; refine (machArity_calls _ _ (by omega) (by omega)).mono ?_; rintro e wx ⟨rfl, rfl⟩)
        go_ret2
        exact refPost_no H1.out HB.out

end Go.Proofs.Yteaaahcgkodcdaa.Ea
