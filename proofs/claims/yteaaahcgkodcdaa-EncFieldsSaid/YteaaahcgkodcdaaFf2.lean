/- The walk of EncFields at some rows of its table. -/
import Derived.Test.YteaaahcgkodcdaaEg
namespace Go.Proofs.Yteaaahcgkodcdaa.Ea
open Go.RowKit
set_option linter.unusedSimpArgs false
set_option linter.unusedVariables false

theorem fields_one4 : oneF 15 63 63 63 63 = (268435455, true) := by decide
theorem fields_bad4_0_1 : oneF 15 (-1) 63 63 63 = (0, false) := by decide
theorem fields_bad4_0_0 : oneF 15 64 63 63 63 = (0, false) := by decide
theorem fields_bad4_1_1 : oneF 15 63 (-1) 63 63 = (0, false) := by decide
theorem fields_bad4_1_0 : oneF 15 63 64 63 63 = (0, false) := by decide
theorem fields_bad4_2_1 : oneF 15 63 63 (-1) 63 = (0, false) := by decide
theorem fields_bad4_2_0 : oneF 15 63 63 64 63 = (0, false) := by decide
theorem fields_bad4_3_1 : oneF 15 63 63 63 (-1) = (0, false) := by decide
theorem fields_bad4_3_0 : oneF 15 63 63 63 64 = (0, false) := by decide

set_option maxHeartbeats 16000000 in
set_option maxRecDepth 100000 in
theorem fields_walk4 (kind field : Int) (low : Bool) (w : World) (hk : bits .and .i64 kind 7 = 4) (f4 : bits .and .i64 field 3 = 0 ∨ bits .and .i64 field 3 = 1 ∨ bits .and .i64 field 3 = 2 ∨ bits .and .i64 field 3 = 3) :
    Calls Try.prog 5 #[.int .i64 kind, .int .i64 field, .bool low] w fun e w' => e = .returned (.bool true) ∧ Below w.heap.size w w' := by
  have R := roundtrip fields_one4
  have R' := Lib.hid R.2.2
  clear R
  have F4 := Lib.hid f4
  clear f4
  go_enter Try.func5, Try.ntmps5
  go_wp2_with fail
  refine (one_calls 15 63 63 63 63 _ (by omega) (by omega) (by omega) (by omega) (by omega) (by omega)).mono ?_
  rintro e w1 ⟨rfl, hb1⟩
  rw [fields_one4]
  obtain ⟨hc1, hf1⟩ := bcell hb1
  have hz1 : w.heap.size + 1 + 1 ≤ w1.heap.size := by have := hb1.size; simpa using this
  have z1 : w.heap.size + 1 < w1.heap.size := by omega
  have HB1 := Lib.hid (below_join (below_more (below_more (Below.refl _ _) (Nat.le_refl _) _) (Nat.le_refl _) _) (Nat.le_refl _) hb1)
  clear hb1 hz1
  go_wp2_with fail
  refine (back_calls 268435455 _ (by omega) (by omega)).mono ?_
  rintro e w2 ⟨rfl, hb2⟩
  rw [R'.out.1, R'.out.2, if_pos rfl]
  obtain ⟨hc2, hf2⟩ := bcell hb2
  have hz2 : w1.heap.size ≤ w2.heap.size := hb2.size
  have z2 : w.heap.size + 1 < w2.heap.size := by omega
  have z2b : w.heap.size + 1 < w2.heap.size + 1 := by omega
  have z2c : w.heap.size + 1 < w2.heap.size + 1 + 1 := by omega
  have z2d : w.heap.size + 1 < w2.heap.size + 1 + 1 + 1 := by omega
  have HB2 := Lib.hid (below_join HB1.out (Nat.le_refl _) hb2)
  clear hb2 hz2 HB1
  have f4 := F4.out
  rcases f4 with hF | hF | hF | hF
  · cases low
    · go_wp2_with fail
      refine (one_calls 15 64 63 63 63 _ (by omega) (by omega) (by omega) (by omega) (by omega) (by omega)).mono ?_
      rintro e w3 ⟨rfl, hb3⟩
      rw [fields_bad4_0_0]
      go_wp2_with fail
      refine (awake_calls _).mono ?_
      rintro e w4 ⟨rfl, hb4⟩
      have HB4 := Lib.hid (below_join (below_join (below_more (below_more (below_more HB2.out (Nat.le_refl _) _) (Nat.le_refl _) _) (Nat.le_refl _) _) (Nat.le_refl _) hb3) (Nat.le_refl _) hb4)
      clear hb3 hb4
      go_wp2
      go_ret
      exact ⟨rfl, HB4.out⟩
    · go_wp2_with fail
      refine (one_calls 15 (-1) 63 63 63 _ (by omega) (by omega) (by omega) (by omega) (by omega) (by omega)).mono ?_
      rintro e w3 ⟨rfl, hb3⟩
      rw [fields_bad4_0_1]
      go_wp2_with fail
      refine (awake_calls _).mono ?_
      rintro e w4 ⟨rfl, hb4⟩
      have HB4 := Lib.hid (below_join (below_join (below_more (below_more (below_more HB2.out (Nat.le_refl _) _) (Nat.le_refl _) _) (Nat.le_refl _) _) (Nat.le_refl _) hb3) (Nat.le_refl _) hb4)
      clear hb3 hb4
      go_wp2
      go_ret
      exact ⟨rfl, HB4.out⟩
  · cases low
    · go_wp2_with fail
      refine (one_calls 15 63 64 63 63 _ (by omega) (by omega) (by omega) (by omega) (by omega) (by omega)).mono ?_
      rintro e w3 ⟨rfl, hb3⟩
      rw [fields_bad4_1_0]
      go_wp2_with fail
      refine (awake_calls _).mono ?_
      rintro e w4 ⟨rfl, hb4⟩
      have HB4 := Lib.hid (below_join (below_join (below_more (below_more (below_more HB2.out (Nat.le_refl _) _) (Nat.le_refl _) _) (Nat.le_refl _) _) (Nat.le_refl _) hb3) (Nat.le_refl _) hb4)
      clear hb3 hb4
      go_wp2
      go_ret
      exact ⟨rfl, HB4.out⟩
    · go_wp2_with fail
      refine (one_calls 15 63 (-1) 63 63 _ (by omega) (by omega) (by omega) (by omega) (by omega) (by omega)).mono ?_
      rintro e w3 ⟨rfl, hb3⟩
      rw [fields_bad4_1_1]
      go_wp2_with fail
      refine (awake_calls _).mono ?_
      rintro e w4 ⟨rfl, hb4⟩
      have HB4 := Lib.hid (below_join (below_join (below_more (below_more (below_more HB2.out (Nat.le_refl _) _) (Nat.le_refl _) _) (Nat.le_refl _) _) (Nat.le_refl _) hb3) (Nat.le_refl _) hb4)
      clear hb3 hb4
      go_wp2
      go_ret
      exact ⟨rfl, HB4.out⟩
  · cases low
    · go_wp2_with fail
      refine (one_calls 15 63 63 64 63 _ (by omega) (by omega) (by omega) (by omega) (by omega) (by omega)).mono ?_
      rintro e w3 ⟨rfl, hb3⟩
      rw [fields_bad4_2_0]
      go_wp2_with fail
      refine (awake_calls _).mono ?_
      rintro e w4 ⟨rfl, hb4⟩
      have HB4 := Lib.hid (below_join (below_join (below_more (below_more (below_more HB2.out (Nat.le_refl _) _) (Nat.le_refl _) _) (Nat.le_refl _) _) (Nat.le_refl _) hb3) (Nat.le_refl _) hb4)
      clear hb3 hb4
      go_wp2
      go_ret
      exact ⟨rfl, HB4.out⟩
    · go_wp2_with fail
      refine (one_calls 15 63 63 (-1) 63 _ (by omega) (by omega) (by omega) (by omega) (by omega) (by omega)).mono ?_
      rintro e w3 ⟨rfl, hb3⟩
      rw [fields_bad4_2_1]
      go_wp2_with fail
      refine (awake_calls _).mono ?_
      rintro e w4 ⟨rfl, hb4⟩
      have HB4 := Lib.hid (below_join (below_join (below_more (below_more (below_more HB2.out (Nat.le_refl _) _) (Nat.le_refl _) _) (Nat.le_refl _) _) (Nat.le_refl _) hb3) (Nat.le_refl _) hb4)
      clear hb3 hb4
      go_wp2
      go_ret
      exact ⟨rfl, HB4.out⟩
  · cases low
    · go_wp2_with fail
      refine (one_calls 15 63 63 63 64 _ (by omega) (by omega) (by omega) (by omega) (by omega) (by omega)).mono ?_
      rintro e w3 ⟨rfl, hb3⟩
      rw [fields_bad4_3_0]
      go_wp2_with fail
      refine (awake_calls _).mono ?_
      rintro e w4 ⟨rfl, hb4⟩
      have HB4 := Lib.hid (below_join (below_join (below_more (below_more (below_more HB2.out (Nat.le_refl _) _) (Nat.le_refl _) _) (Nat.le_refl _) _) (Nat.le_refl _) hb3) (Nat.le_refl _) hb4)
      clear hb3 hb4
      go_wp2
      go_ret
      exact ⟨rfl, HB4.out⟩
    · go_wp2_with fail
      refine (one_calls 15 63 63 63 (-1) _ (by omega) (by omega) (by omega) (by omega) (by omega) (by omega)).mono ?_
      rintro e w3 ⟨rfl, hb3⟩
      rw [fields_bad4_3_1]
      go_wp2_with fail
      refine (awake_calls _).mono ?_
      rintro e w4 ⟨rfl, hb4⟩
      have HB4 := Lib.hid (below_join (below_join (below_more (below_more (below_more HB2.out (Nat.le_refl _) _) (Nat.le_refl _) _) (Nat.le_refl _) _) (Nat.le_refl _) hb3) (Nat.le_refl _) hb4)
      clear hb3 hb4
      go_wp2
      go_ret
      exact ⟨rfl, HB4.out⟩

theorem fields_one5 : oneF 17 4095 4095 0 0 = (301989887, true) := by decide
theorem fields_bad5_0_1 : oneF 17 (-1) 4095 0 0 = (0, false) := by decide
theorem fields_bad5_0_0 : oneF 17 4096 4095 0 0 = (0, false) := by decide
theorem fields_bad5_1_1 : oneF 17 4095 (-1) 0 0 = (0, false) := by decide
theorem fields_bad5_1_0 : oneF 17 4095 4096 0 0 = (0, false) := by decide
theorem fields_bad5_2_1 : oneF 17 4095 4095 (-1) 0 = (0, false) := by decide
theorem fields_bad5_2_0 : oneF 17 4095 4095 1 0 = (0, false) := by decide
theorem fields_bad5_3_1 : oneF 17 4095 4095 0 (-1) = (0, false) := by decide
theorem fields_bad5_3_0 : oneF 17 4095 4095 0 1 = (0, false) := by decide

set_option maxHeartbeats 16000000 in
set_option maxRecDepth 100000 in
theorem fields_walk5 (kind field : Int) (low : Bool) (w : World) (hk : bits .and .i64 kind 7 = 5) (f4 : bits .and .i64 field 3 = 0 ∨ bits .and .i64 field 3 = 1 ∨ bits .and .i64 field 3 = 2 ∨ bits .and .i64 field 3 = 3) :
    Calls Try.prog 5 #[.int .i64 kind, .int .i64 field, .bool low] w fun e w' => e = .returned (.bool true) ∧ Below w.heap.size w w' := by
  have R := roundtrip fields_one5
  have R' := Lib.hid R.2.2
  clear R
  have F4 := Lib.hid f4
  clear f4
  go_enter Try.func5, Try.ntmps5
  go_wp2_with fail
  refine (one_calls 17 4095 4095 0 0 _ (by omega) (by omega) (by omega) (by omega) (by omega) (by omega)).mono ?_
  rintro e w1 ⟨rfl, hb1⟩
  rw [fields_one5]
  obtain ⟨hc1, hf1⟩ := bcell hb1
  have hz1 : w.heap.size + 1 + 1 ≤ w1.heap.size := by have := hb1.size; simpa using this
  have z1 : w.heap.size + 1 < w1.heap.size := by omega
  have HB1 := Lib.hid (below_join (below_more (below_more (Below.refl _ _) (Nat.le_refl _) _) (Nat.le_refl _) _) (Nat.le_refl _) hb1)
  clear hb1 hz1
  go_wp2_with fail
  refine (back_calls 301989887 _ (by omega) (by omega)).mono ?_
  rintro e w2 ⟨rfl, hb2⟩
  rw [R'.out.1, R'.out.2, if_pos rfl]
  obtain ⟨hc2, hf2⟩ := bcell hb2
  have hz2 : w1.heap.size ≤ w2.heap.size := hb2.size
  have z2 : w.heap.size + 1 < w2.heap.size := by omega
  have z2b : w.heap.size + 1 < w2.heap.size + 1 := by omega
  have z2c : w.heap.size + 1 < w2.heap.size + 1 + 1 := by omega
  have z2d : w.heap.size + 1 < w2.heap.size + 1 + 1 + 1 := by omega
  have HB2 := Lib.hid (below_join HB1.out (Nat.le_refl _) hb2)
  clear hb2 hz2 HB1
  have f4 := F4.out
  rcases f4 with hF | hF | hF | hF
  · cases low
    · go_wp2_with fail
      refine (one_calls 17 4096 4095 0 0 _ (by omega) (by omega) (by omega) (by omega) (by omega) (by omega)).mono ?_
      rintro e w3 ⟨rfl, hb3⟩
      rw [fields_bad5_0_0]
      go_wp2_with fail
      refine (awake_calls _).mono ?_
      rintro e w4 ⟨rfl, hb4⟩
      have HB4 := Lib.hid (below_join (below_join (below_more (below_more (below_more HB2.out (Nat.le_refl _) _) (Nat.le_refl _) _) (Nat.le_refl _) _) (Nat.le_refl _) hb3) (Nat.le_refl _) hb4)
      clear hb3 hb4
      go_wp2
      go_ret
      exact ⟨rfl, HB4.out⟩
    · go_wp2_with fail
      refine (one_calls 17 (-1) 4095 0 0 _ (by omega) (by omega) (by omega) (by omega) (by omega) (by omega)).mono ?_
      rintro e w3 ⟨rfl, hb3⟩
      rw [fields_bad5_0_1]
      go_wp2_with fail
      refine (awake_calls _).mono ?_
      rintro e w4 ⟨rfl, hb4⟩
      have HB4 := Lib.hid (below_join (below_join (below_more (below_more (below_more HB2.out (Nat.le_refl _) _) (Nat.le_refl _) _) (Nat.le_refl _) _) (Nat.le_refl _) hb3) (Nat.le_refl _) hb4)
      clear hb3 hb4
      go_wp2
      go_ret
      exact ⟨rfl, HB4.out⟩
  · cases low
    · go_wp2_with fail
      refine (one_calls 17 4095 4096 0 0 _ (by omega) (by omega) (by omega) (by omega) (by omega) (by omega)).mono ?_
      rintro e w3 ⟨rfl, hb3⟩
      rw [fields_bad5_1_0]
      go_wp2_with fail
      refine (awake_calls _).mono ?_
      rintro e w4 ⟨rfl, hb4⟩
      have HB4 := Lib.hid (below_join (below_join (below_more (below_more (below_more HB2.out (Nat.le_refl _) _) (Nat.le_refl _) _) (Nat.le_refl _) _) (Nat.le_refl _) hb3) (Nat.le_refl _) hb4)
      clear hb3 hb4
      go_wp2
      go_ret
      exact ⟨rfl, HB4.out⟩
    · go_wp2_with fail
      refine (one_calls 17 4095 (-1) 0 0 _ (by omega) (by omega) (by omega) (by omega) (by omega) (by omega)).mono ?_
      rintro e w3 ⟨rfl, hb3⟩
      rw [fields_bad5_1_1]
      go_wp2_with fail
      refine (awake_calls _).mono ?_
      rintro e w4 ⟨rfl, hb4⟩
      have HB4 := Lib.hid (below_join (below_join (below_more (below_more (below_more HB2.out (Nat.le_refl _) _) (Nat.le_refl _) _) (Nat.le_refl _) _) (Nat.le_refl _) hb3) (Nat.le_refl _) hb4)
      clear hb3 hb4
      go_wp2
      go_ret
      exact ⟨rfl, HB4.out⟩
  · cases low
    · go_wp2_with fail
      refine (one_calls 17 4095 4095 1 0 _ (by omega) (by omega) (by omega) (by omega) (by omega) (by omega)).mono ?_
      rintro e w3 ⟨rfl, hb3⟩
      rw [fields_bad5_2_0]
      go_wp2_with fail
      refine (awake_calls _).mono ?_
      rintro e w4 ⟨rfl, hb4⟩
      have HB4 := Lib.hid (below_join (below_join (below_more (below_more (below_more HB2.out (Nat.le_refl _) _) (Nat.le_refl _) _) (Nat.le_refl _) _) (Nat.le_refl _) hb3) (Nat.le_refl _) hb4)
      clear hb3 hb4
      go_wp2
      go_ret
      exact ⟨rfl, HB4.out⟩
    · go_wp2_with fail
      refine (one_calls 17 4095 4095 (-1) 0 _ (by omega) (by omega) (by omega) (by omega) (by omega) (by omega)).mono ?_
      rintro e w3 ⟨rfl, hb3⟩
      rw [fields_bad5_2_1]
      go_wp2_with fail
      refine (awake_calls _).mono ?_
      rintro e w4 ⟨rfl, hb4⟩
      have HB4 := Lib.hid (below_join (below_join (below_more (below_more (below_more HB2.out (Nat.le_refl _) _) (Nat.le_refl _) _) (Nat.le_refl _) _) (Nat.le_refl _) hb3) (Nat.le_refl _) hb4)
      clear hb3 hb4
      go_wp2
      go_ret
      exact ⟨rfl, HB4.out⟩
  · cases low
    · go_wp2_with fail
      refine (one_calls 17 4095 4095 0 1 _ (by omega) (by omega) (by omega) (by omega) (by omega) (by omega)).mono ?_
      rintro e w3 ⟨rfl, hb3⟩
      rw [fields_bad5_3_0]
      go_wp2_with fail
      refine (awake_calls _).mono ?_
      rintro e w4 ⟨rfl, hb4⟩
      have HB4 := Lib.hid (below_join (below_join (below_more (below_more (below_more HB2.out (Nat.le_refl _) _) (Nat.le_refl _) _) (Nat.le_refl _) _) (Nat.le_refl _) hb3) (Nat.le_refl _) hb4)
      clear hb3 hb4
      go_wp2
      go_ret
      exact ⟨rfl, HB4.out⟩
    · go_wp2_with fail
      refine (one_calls 17 4095 4095 0 (-1) _ (by omega) (by omega) (by omega) (by omega) (by omega) (by omega)).mono ?_
      rintro e w3 ⟨rfl, hb3⟩
      rw [fields_bad5_3_1]
      go_wp2_with fail
      refine (awake_calls _).mono ?_
      rintro e w4 ⟨rfl, hb4⟩
      have HB4 := Lib.hid (below_join (below_join (below_more (below_more (below_more HB2.out (Nat.le_refl _) _) (Nat.le_refl _) _) (Nat.le_refl _) _) (Nat.le_refl _) hb3) (Nat.le_refl _) hb4)
      clear hb3 hb4
      go_wp2
      go_ret
      exact ⟨rfl, HB4.out⟩

end Go.Proofs.Yteaaahcgkodcdaa.Ea
