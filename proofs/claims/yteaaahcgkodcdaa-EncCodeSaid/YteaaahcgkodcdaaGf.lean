/- The reference's One and Encode, of any instruction. -/
import Derived.Test.YteaaahcgkodcdaaGd0
import Derived.Test.YteaaahcgkodcdaaGd1
import Derived.Test.YteaaahcgkodcdaaGd2
import Derived.Test.YteaaahcgkodcdaaGd3
import Derived.Test.YteaaahcgkodcdaaGd4
import Derived.Test.YteaaahcgkodcdaaGd5
import Derived.Test.YteaaahcgkodcdaaGd6
import Derived.Test.YteaaahcgkodcdaaGe
namespace Go.Proofs.Yteaaahcgkodcdaa.Ea
open Go.RowKit
set_option linter.unusedSimpArgs false
set_option linter.unusedVariables false

theorem ref_15 (op a b c d : Int) (w : World) (hop : op = 15) : Calls Try.prog 36 #[.agg #[.int .i64 op, .int .i64 a, .int .i64 b, .int .i64 c, .int .i64 d]] w (RefPost op a b c d w) := by
  rcases Bool.eq_false_or_eq_true (fitB a 6) with g0 | g0
  · rcases Bool.eq_false_or_eq_true (fitB b 6) with g1 | g1
    · rcases Bool.eq_false_or_eq_true (fitB c 6) with g2 | g2
      · rcases Bool.eq_false_or_eq_true (fitB d 6) with g3 | g3
        · exact ref_15_4 op a b c d w hop g0 g1 g2 g3
        · exact ref_15_3 op a b c d w hop g0 g1 g2 g3
      · exact ref_15_2 op a b c d w hop g0 g1 g2
    · exact ref_15_1 op a b c d w hop g0 g1
  · exact ref_15_0 op a b c d w hop g0

theorem refOne_calls (op a b c d : Int) (w : World) : Calls Try.prog 36 #[.agg #[.int .i64 op, .int .i64 a, .int .i64 b, .int .i64 c, .int .i64 d]] w (RefPost op a b c d w) := by
  by_cases h : many op < 0
  · exact ref_none op a b c d w h
  · obtain ⟨n, hn⟩ := Int.eq_ofNat_of_zero_le (Int.not_lt.mp h)
    rcases op_class op n hn with h | ⟨h1, h2, h3⟩ | ⟨h1, h2, h3⟩
    · rcases h with ⟨h, _⟩ | ⟨h, _⟩ | ⟨h, _⟩ | ⟨h, _⟩ | ⟨h, _⟩ | ⟨h, _⟩ | ⟨h, _⟩ | ⟨h, _⟩ | ⟨h, _⟩ | ⟨h, _⟩ | ⟨h, _⟩ | ⟨h, _⟩ | ⟨h, _⟩ | ⟨h, _⟩ | ⟨h, _⟩ | ⟨h, _⟩
      · exact ref_1 op a b c d w h
      · exact ref_2 op a b c d w h
      · exact ref_4 op a b c d w h
      · exact ref_5 op a b c d w h
      · exact ref_6 op a b c d w h
      · exact ref_7 op a b c d w h
      · exact ref_8 op a b c d w h
      · exact ref_9 op a b c d w h
      · exact ref_10 op a b c d w h
      · exact ref_11 op a b c d w h
      · exact ref_12 op a b c d w h
      · exact ref_13 op a b c d w h
      · exact ref_14 op a b c d w h
      · exact ref_15 op a b c d w h
      · exact ref_16 op a b c d w h
      · exact ref_17 op a b c d w h
    · exact ref_G op a b c d w ⟨h1, h2⟩
    · exact ref_H op a b c d w ⟨h1, h2⟩

/-- Encode tells just what the program's One tells. -/
theorem encode_calls (op a b c d : Int) (w : World) : Calls Try.prog 15 #[.agg #[.int .i64 op, .int .i64 a, .int .i64 b, .int .i64 c, .int .i64 d]] w (OnePost op a b c d w) := by
  go_enter Try.func15, Try.ntmps15
  go_wp2_with fail
  refine (refOne_calls op a b c d _).mono ?_
  rintro e w1 ⟨X, t, rfl, ht, hX, hb⟩
  have HB := Lib.hid (below_join (below_more (Below.refl _ _) (Nat.le_refl _) _) (Nat.le_refl _) hb)
  clear hb
  cases t with
  | true =>
    have hY := hX rfl
    have HO := Lib.hid (show oneF op a b c d = (X, true) from Prod.ext hY.symm ht)
    clear hX hY ht
    go_wp2
    go_ret2
    exact onePost_mk HO.out HB.out
  | false =>
    have HO := Lib.hid (show oneF op a b c d = (0, false) from by
      have h2 : (oneF op a b c d).2 = false := ht
      unfold oneF at h2 ⊢
      split at h2
      · rw [if_pos ‹_›]
      · rw [if_neg ‹_›]
        split at h2
        · cases h2
        · rw [if_neg ‹_›])
    clear hX ht
    go_wp2
    go_ret2
    exact onePost_mk HO.out HB.out

end Go.Proofs.Yteaaahcgkodcdaa.Ea
