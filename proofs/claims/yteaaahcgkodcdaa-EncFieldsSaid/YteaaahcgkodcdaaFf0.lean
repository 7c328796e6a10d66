/- The walk of EncFields at some rows of its table. -/
import Derived.Test.YteaaahcgkodcdaaEg
namespace Go.Proofs.Yteaaahcgkodcdaa.Ea
open Go.RowKit
set_option linter.unusedSimpArgs false
set_option linter.unusedVariables false

theorem fields_one0 : oneF 1 255 65535 0 0 = (33554431, true) := by decide
theorem fields_bad0_0_1 : oneF 1 (-1) 65535 0 0 = (0, false) := by decide
theorem fields_bad0_0_0 : oneF 1 256 65535 0 0 = (0, false) := by decide
theorem fields_bad0_1_1 : oneF 1 255 (-1) 0 0 = (0, false) := by decide
theorem fields_bad0_1_0 : oneF 1 255 65536 0 0 = (0, false) := by decide
theorem fields_bad0_2_1 : oneF 1 255 65535 (-1) 0 = (0, false) := by decide
theorem fields_bad0_2_0 : oneF 1 255 65535 1 0 = (0, false) := by decide
theorem fields_bad0_3_1 : oneF 1 255 65535 0 (-1) = (0, false) := by decide
theorem fields_bad0_3_0 : oneF 1 255 65535 0 1 = (0, false) := by decide

set_option maxHeartbeats 16000000 in
set_option maxRecDepth 100000 in
theorem fields_walk0 (kind field : Int) (low : Bool) (w : World) (hk : bits .and .i64 kind 7 = 0) (f4 : bits .and .i64 field 3 = 0 ∨ bits .and .i64 field 3 = 1 ∨ bits .and .i64 field 3 = 2 ∨ bits .and .i64 field 3 = 3) :
    Calls Try.prog 5 #[.int .i64 kind, .int .i64 field, .bool low] w fun e w' => e = .returned (.bool true) ∧ Below w.heap.size w w' := by
  have R := roundtrip fields_one0
  have R' := Lib.hid R.2.2
  clear R
  have F4 := Lib.hid f4
  clear f4
  go_enter Try.func5, Try.ntmps5
  go_wp2_with fail
  refine (one_calls 1 255 65535 0 0 _ (by omega) (by omega) (by omega) (by omega) (by omega) (by omega)).mono ?_
  rintro e w1 ⟨rfl, hb1⟩
  rw [fields_one0]
  obtain ⟨hc1, hf1⟩ := bcell hb1
  have hz1 : w.heap.size + 1 + 1 ≤ w1.heap.size := by have := hb1.size; simpa using this
  have z1 : w.heap.size + 1 < w1.heap.size := by omega
  have HB1 := Lib.hid (below_join (below_more (below_more (Below.refl _ _) (Nat.le_refl _) _) (Nat.le_refl _) _) (Nat.le_refl _) hb1)
  clear hb1 hz1
  go_wp2_with fail
  refine (back_calls 33554431 _ (by omega) (by omega)).mono ?_
  rintro e w2 ⟨rfl, hb2⟩
  rw [R'.out.1, R'.out.2, if_pos rfl]
  obtain ⟨hc2, hf2⟩ := bcell hb2
  have hz2 : w1.heap.size ≤ w2.heap.size := hb2.size
  have z2 : w.heap.size + 1 < w2.heap.size := by omega
  have z2b : w.heap.size + 1 < w2.heap.size + 1 := by omega
  have z2c : w.heap.size + 1 < w2.heap.size + 1 + 1 := by omega
  have z2d : w.heap.size + 1 < w2.heap.size + 1 + 1 + 1 := by omega
  have HB2 := Lib.hid (below_join HB1.out (Nat.le_refl _) hb2)
  clear hb2 hz2 HB1
  have f4 := F4.out
  rcases f4 with hF | hF | hF | hF
  · cases low
    · go_wp2_with fail
      refine (one_calls 1 256 65535 0 0 _ (by omega) (by omega) (by omega) (by omega) (by omega) (by omega)).mono ?_
      rintro e w3 ⟨rfl, hb3⟩
      rw [fields_bad0_0_0]
      go_wp2_with fail
      refine (awake_calls _).mono ?_
      rintro e w4 ⟨rfl, hb4⟩
      have HB4 := Lib.hid (below_join (below_join (below_more (below_more (below_more HB2.out (Nat.le_refl _) _) (Nat.le_refl _) _) (Nat.le_refl _) _) (Nat.le_refl _) hb3) (Nat.le_refl _) hb4)
      clear hb3 hb4
      go_wp2
      go_ret
      exact ⟨rfl, HB4.out⟩
    · go_wp2_with fail
      refine (one_calls 1 (-1) 65535 0 0 _ (by omega) (by omega) (by omega) (by omega) (by omega) (by omega)).mono ?_
      rintro e w3 ⟨rfl, hb3⟩
      rw [fields_bad0_0_1]
      go_wp2_with fail
      refine (awake_calls _).mono ?_
      rintro e w4 ⟨rfl, hb4⟩
      have HB4 := Lib.hid (below_join (below_join (below_more (below_more (below_more HB2.out (Nat.le_refl _) _) (Nat.le_refl _) _) (Nat.le_refl _) _) (Nat.le_refl _) hb3) (Nat.le_refl _) hb4)
      clear hb3 hb4
      go_wp2
      go_ret
      exact ⟨rfl, HB4.out⟩
  · cases low
    · go_wp2_with fail
      refine (one_calls 1 255 65536 0 0 _ (by omega) (by omega) (by omega) (by omega) (by omega) (by omega)).mono ?_
      rintro e w3 ⟨rfl, hb3⟩
      rw [fields_bad0_1_0]
      go_wp2_with fail
      refine (awake_calls _).mono ?_
      rintro e w4 ⟨rfl, hb4⟩
      have HB4 := Lib.hid (below_join (below_join (below_more (below_more (below_more HB2.out (Nat.le_refl _) _) (Nat.le_refl _) _) (Nat.le_refl _) _) (Nat.le_refl _) hb3) (Nat.le_refl _) hb4)
      clear hb3 hb4
      go_wp2
      go_ret
      exact ⟨rfl, HB4.out⟩
    · go_wp2_with fail
      refine (one_calls 1 255 (-1) 0 0 _ (by omega) (by omega) (by omega) (by omega) (by omega) (by omega)).mono ?_
      rintro e w3 ⟨rfl, hb3⟩
      rw [fields_bad0_1_1]
      go_wp2_with fail
      refine (awake_calls _).mono ?_
      rintro e w4 ⟨rfl, hb4⟩
      have HB4 := Lib.hid (below_join (below_join (below_more (below_more (below_more HB2.out (Nat.le_refl _) _) (Nat.le_refl _) _) (Nat.le_refl _) _) (Nat.le_refl _) hb3) (Nat.le_refl _) hb4)
      clear hb3 hb4
      go_wp2
      go_ret
      exact ⟨rfl, HB4.out⟩
  · cases low
    · go_wp2_with fail
      refine (one_calls 1 255 65535 1 0 _ (by omega) (by omega) (by omega) (by omega) (by omega) (by omega)).mono ?_
      rintro e w3 ⟨rfl, hb3⟩
      rw [fields_bad0_2_0]
      go_wp2_with fail
      refine (awake_calls _).mono ?_
      rintro e w4 ⟨rfl, hb4⟩
      have HB4 := Lib.hid (below_join (below_join (below_more (below_more (below_more HB2.out (Nat.le_refl _) _) (Nat.le_refl _) _) (Nat.le_refl _) _) (Nat.le_refl _) hb3) (Nat.le_refl _) hb4)
      clear hb3 hb4
      go_wp2
      go_ret
      exact ⟨rfl, HB4.out⟩
    · go_wp2_with fail
      refine (one_calls 1 255 65535 (-1) 0 _ (by omega) (by omega) (by omega) (by omega) (by omega) (by omega)).mono ?_
      rintro e w3 ⟨rfl, hb3⟩
      rw [fields_bad0_2_1]
      go_wp2_with fail
      refine (awake_calls _).mono ?_
      rintro e w4 ⟨rfl, hb4⟩
      have HB4 := Lib.hid (below_join (below_join (below_more (below_more (below_more HB2.out (Nat.le_refl _) _) (Nat.le_refl _) _) (Nat.le_refl _) _) (Nat.le_refl _) hb3) (Nat.le_refl _) hb4)
      clear hb3 hb4
      go_wp2
      go_ret
      exact ⟨rfl, HB4.out⟩
  · cases low
    · go_wp2_with fail
      refine (one_calls 1 255 65535 0 1 _ (by omega) (by omega) (by omega) (by omega) (by omega) (by omega)).mono ?_
      rintro e w3 ⟨rfl, hb3⟩
      rw [fields_bad0_3_0]
      go_wp2_with fail
      refine (awake_calls _).mono ?_
      rintro e w4 ⟨rfl, hb4⟩
      have HB4 := Lib.hid (below_join (below_join (below_more (below_more (below_more HB2.out (Nat.le_refl _) _) (Nat.le_refl _) _) (Nat.le_refl _) _) (Nat.le_refl _) hb3) (Nat.le_refl _) hb4)
      clear hb3 hb4
      go_wp2
      go_ret
      exact ⟨rfl, HB4.out⟩
    · go_wp2_with fail
      refine (one_calls 1 255 65535 0 (-1) _ (by omega) (by omega) (by omega) (by omega) (by omega) (by omega)).mono ?_
      rintro e w3 ⟨rfl, hb3⟩
      rw [fields_bad0_3_1]
      go_wp2_with fail
      refine (awake_calls _).mono ?_
      rintro e w4 ⟨rfl, hb4⟩
      have HB4 := Lib.hid (below_join (below_join (below_more (below_more (below_more HB2.out (Nat.le_refl _) _) (Nat.le_refl _) _) (Nat.le_refl _) _) (Nat.le_refl _) hb3) (Nat.le_refl _) hb4)
      clear hb3 hb4
      go_wp2
      go_ret
      exact ⟨rfl, HB4.out⟩

theorem fields_one1 : oneF 2 255 255 0 0 = (50331392, true) := by decide
theorem fields_bad1_0_1 : oneF 2 (-1) 255 0 0 = (0, false) := by decide
theorem fields_bad1_0_0 : oneF 2 256 255 0 0 = (0, false) := by decide
theorem fields_bad1_1_1 : oneF 2 255 (-1) 0 0 = (0, false) := by decide
theorem fields_bad1_1_0 : oneF 2 255 256 0 0 = (0, false) := by decide
theorem fields_bad1_2_1 : oneF 2 255 255 (-1) 0 = (0, false) := by decide
theorem fields_bad1_2_0 : oneF 2 255 255 1 0 = (0, false) := by decide
theorem fields_bad1_3_1 : oneF 2 255 255 0 (-1) = (0, false) := by decide
theorem fields_bad1_3_0 : oneF 2 255 255 0 1 = (0, false) := by decide

set_option maxHeartbeats 16000000 in
set_option maxRecDepth 100000 in
theorem fields_walk1 (kind field : Int) (low : Bool) (w : World) (hk : bits .and .i64 kind 7 = 1) (f4 : bits .and .i64 field 3 = 0 ∨ bits .and .i64 field 3 = 1 ∨ bits .and .i64 field 3 = 2 ∨ bits .and .i64 field 3 = 3) :
    Calls Try.prog 5 #[.int .i64 kind, .int .i64 field, .bool low] w fun e w' => e = .returned (.bool true) ∧ Below w.heap.size w w' := by
  have R := roundtrip fields_one1
  have R' := Lib.hid R.2.2
  clear R
  have F4 := Lib.hid f4
  clear f4
  go_enter Try.func5, Try.ntmps5
  go_wp2_with fail
  refine (one_calls 2 255 255 0 0 _ (by omega) (by omega) (by omega) (by omega) (by omega) (by omega)).mono ?_
  rintro e w1 ⟨rfl, hb1⟩
  rw [fields_one1]
  obtain ⟨hc1, hf1⟩ := bcell hb1
  have hz1 : w.heap.size + 1 + 1 ≤ w1.heap.size := by have := hb1.size; simpa using this
  have z1 : w.heap.size + 1 < w1.heap.size := by omega
  have HB1 := Lib.hid (below_join (below_more (below_more (Below.refl _ _) (Nat.le_refl _) _) (Nat.le_refl _) _) (Nat.le_refl _) hb1)
  clear hb1 hz1
  go_wp2_with fail
  refine (back_calls 50331392 _ (by omega) (by omega)).mono ?_
  rintro e w2 ⟨rfl, hb2⟩
  rw [R'.out.1, R'.out.2, if_pos rfl]
  obtain ⟨hc2, hf2⟩ := bcell hb2
  have hz2 : w1.heap.size ≤ w2.heap.size := hb2.size
  have z2 : w.heap.size + 1 < w2.heap.size := by omega
  have z2b : w.heap.size + 1 < w2.heap.size + 1 := by omega
  have z2c : w.heap.size + 1 < w2.heap.size + 1 + 1 := by omega
  have z2d : w.heap.size + 1 < w2.heap.size + 1 + 1 + 1 := by omega
  have HB2 := Lib.hid (below_join HB1.out (Nat.le_refl _) hb2)
  clear hb2 hz2 HB1
  have f4 := F4.out
  rcases f4 with hF | hF | hF | hF
  · cases low
    · go_wp2_with fail
      refine (one_calls 2 256 255 0 0 _ (by omega) (by omega) (by omega) (by omega) (by omega) (by omega)).mono ?_
      rintro e w3 ⟨rfl, hb3⟩
      rw [fields_bad1_0_0]
      go_wp2_with fail
      refine (awake_calls _).mono ?_
      rintro e w4 ⟨rfl, hb4⟩
      have HB4 := Lib.hid (below_join (below_join (below_more (below_more (below_more HB2.out (Nat.le_refl _) _) (Nat.le_refl _) _) (Nat.le_refl _) _) (Nat.le_refl _) hb3) (Nat.le_refl _) hb4)
      clear hb3 hb4
      go_wp2
      go_ret
      exact ⟨rfl, HB4.out⟩
    · go_wp2_with fail
      refine (one_calls 2 (-1) 255 0 0 _ (by omega) (by omega) (by omega) (by omega) (by omega) (by omega)).mono ?_
      rintro e w3 ⟨rfl, hb3⟩
      rw [fields_bad1_0_1]
      go_wp2_with fail
      refine (awake_calls _).mono ?_
      rintro e w4 ⟨rfl, hb4⟩
      have HB4 := Lib.hid (below_join (below_join (below_more (below_more (below_more HB2.out (Nat.le_refl _) _) (Nat.le_refl _) _) (Nat.le_refl _) _) (Nat.le_refl _) hb3) (Nat.le_refl _) hb4)
      clear hb3 hb4
      go_wp2
      go_ret
      exact ⟨rfl, HB4.out⟩
  · cases low
    · go_wp2_with fail
      refine (one_calls 2 255 256 0 0 _ (by omega) (by omega) (by omega) (by omega) (by omega) (by omega)).mono ?_
      rintro e w3 ⟨rfl, hb3⟩
      rw [fields_bad1_1_0]
      go_wp2_with fail
      refine (awake_calls _).mono ?_
      rintro e w4 ⟨rfl, hb4⟩
      have HB4 := Lib.hid (below_join (below_join (below_more (below_more (below_more HB2.out (Nat.le_refl _) _) (Nat.le_refl _) _) (Nat.le_refl _) _) (Nat.le_refl _) hb3) (Nat.le_refl _) hb4)
      clear hb3 hb4
      go_wp2
      go_ret
      exact ⟨rfl, HB4.out⟩
    · go_wp2_with fail
      refine (one_calls 2 255 (-1) 0 0 _ (by omega) (by omega) (by omega) (by omega) (by omega) (by omega)).mono ?_
      rintro e w3 ⟨rfl, hb3⟩
      rw [fields_bad1_1_1]
      go_wp2_with fail
      refine (awake_calls _).mono ?_
      rintro e w4 ⟨rfl, hb4⟩
      have HB4 := Lib.hid (below_join (below_join (below_more (below_more (below_more HB2.out (Nat.le_refl _) _) (Nat.le_refl _) _) (Nat.le_refl _) _) (Nat.le_refl _) hb3) (Nat.le_refl _) hb4)
      clear hb3 hb4
      go_wp2
      go_ret
      exact ⟨rfl, HB4.out⟩
  · cases low
    · go_wp2_with fail
      refine (one_calls 2 255 255 1 0 _ (by omega) (by omega) (by omega) (by omega) (by omega) (by omega)).mono ?_
      rintro e w3 ⟨rfl, hb3⟩
      rw [fields_bad1_2_0]
      go_wp2_with fail
      refine (awake_calls _).mono ?_
      rintro e w4 ⟨rfl, hb4⟩
      have HB4 := Lib.hid (below_join (below_join (below_more (below_more (below_more HB2.out (Nat.le_refl _) _) (Nat.le_refl _) _) (Nat.le_refl _) _) (Nat.le_refl _) hb3) (Nat.le_refl _) hb4)
      clear hb3 hb4
      go_wp2
      go_ret
      exact ⟨rfl, HB4.out⟩
    · go_wp2_with fail
      refine (one_calls 2 255 255 (-1) 0 _ (by omega) (by omega) (by omega) (by omega) (by omega) (by omega)).mono ?_
      rintro e w3 ⟨rfl, hb3⟩
      rw [fields_bad1_2_1]
      go_wp2_with fail
      refine (awake_calls _).mono ?_
      rintro e w4 ⟨rfl, hb4⟩
      have HB4 := Lib.hid (below_join (below_join (below_more (below_more (below_more HB2.out (Nat.le_refl _) _) (Nat.le_refl _) _) (Nat.le_refl _) _) (Nat.le_refl _) hb3) (Nat.le_refl _) hb4)
      clear hb3 hb4
      go_wp2
      go_ret
      exact ⟨rfl, HB4.out⟩
  · cases low
    · go_wp2_with fail
      refine (one_calls 2 255 255 0 1 _ (by omega) (by omega) (by omega) (by omega) (by omega) (by omega)).mono ?_
      rintro e w3 ⟨rfl, hb3⟩
      rw [fields_bad1_3_0]
      go_wp2_with fail
      refine (awake_calls _).mono ?_
      rintro e w4 ⟨rfl, hb4⟩
      have HB4 := Lib.hid (below_join (below_join (below_more (below_more (below_more HB2.out (Nat.le_refl _) _) (Nat.le_refl _) _) (Nat.le_refl _) _) (Nat.le_refl _) hb3) (Nat.le_refl _) hb4)
      clear hb3 hb4
      go_wp2
      go_ret
      exact ⟨rfl, HB4.out⟩
    · go_wp2_with fail
      refine (one_calls 2 255 255 0 (-1) _ (by omega) (by omega) (by omega) (by omega) (by omega) (by omega)).mono ?_
      rintro e w3 ⟨rfl, hb3⟩
      rw [fields_bad1_3_1]
      go_wp2_with fail
      refine (awake_calls _).mono ?_
      rintro e w4 ⟨rfl, hb4⟩
      have HB4 := Lib.hid (below_join (below_join (below_more (below_more (below_more HB2.out (Nat.le_refl _) _) (Nat.le_refl _) _) (Nat.le_refl _) _) (Nat.le_refl _) hb3) (Nat.le_refl _) hb4)
      clear hb3 hb4
      go_wp2
      go_ret
      exact ⟨rfl, HB4.out⟩

end Go.Proofs.Yteaaahcgkodcdaa.Ea
