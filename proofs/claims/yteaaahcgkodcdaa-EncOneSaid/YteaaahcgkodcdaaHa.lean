/- The walk of EncOne, out of the contracts of the reference's Encode and Back. -/
import Derived.Test.YteaaahcgkodcdaaEf
namespace Go.Proofs.Yteaaahcgkodcdaa.Ea
open Go.RowKit
set_option linter.unusedSimpArgs false
set_option linter.unusedVariables false

theorem back_arr (v : Int) : ∃ p0 p1 p2 p3 p4 : Int, (if backOk v = true then backArgs v else zero5) = #[.int .i64 p0, .int .i64 p1, .int .i64 p2, .int .i64 p3, .int .i64 p4] := by
  split
  · exact ⟨_, _, _, _, _, rfl⟩
  · exact ⟨_, _, _, _, _, rfl⟩

set_option maxHeartbeats 4000000 in
set_option maxRecDepth 100000 in
theorem encOne_walk (op a b c d v : Int) (w : World) (lo : -9223372036854775808 ≤ op) (hi : op ≤ 9223372036854775807)
    (ha : -9223372036854775808 ≤ a ∧ a ≤ 9223372036854775807) (hb : -9223372036854775808 ≤ b ∧ b ≤ 9223372036854775807) (hc : -9223372036854775808 ≤ c ∧ c ≤ 9223372036854775807) (hd : -9223372036854775808 ≤ d ∧ d ≤ 9223372036854775807)
    (h0 : 0 ≤ v) (h1 : v < 4294967296)
    (hE : ∀ W, Calls Try.prog 15 #[.agg #[.int .i64 op, .int .i64 a, .int .i64 b, .int .i64 c, .int .i64 d]] W (OnePost op a b c d W))
    (hR : ∀ W, Calls Try.prog 16 #[.int .u32 v] W (BackPost v W)) :
    Calls Try.prog 4 #[.agg #[.int .i64 op, .int .i64 a, .int .i64 b, .int .i64 c, .int .i64 d], .int .u32 v] w fun e w' => e = .returned (.bool true) ∧ Below w.heap.size w w' := by
  have HE := Lib.hid hE
  have HR := Lib.hid hR
  clear hE hR
  have HO := Lib.hid (fun W => one_calls op a b c d W lo hi ha hb hc hd)
  obtain ⟨xt, hx⟩ : ∃ xt, oneF op a b c d = xt := ⟨_, rfl⟩
  obtain ⟨x, t⟩ := xt
  obtain ⟨p0, p1, p2, p3, p4, hp⟩ := back_arr v
  have HX := Lib.hid hx
  have HP := Lib.hid hp
  clear hx hp
  obtain ⟨bk, hbk⟩ : ∃ bk, backOk v = bk := ⟨_, rfl⟩
  have HK := Lib.hid hbk
  clear hbk
  go_enter Try.func4, Try.ntmps4
  go_wp2_with fail
  refine (HO.out _).mono ?_
  rintro e w1 ⟨rfl, hb1⟩
  rw [HX.out]
  obtain ⟨hc1, hf1⟩ := bcell hb1
  have hz1 : w.heap.size + 1 ≤ w1.heap.size := by have := hb1.size; simpa using this
  have z1 : w.heap.size < w1.heap.size := by omega
  have HB1 := Lib.hid (below_join (below_more (Below.refl _ _) (Nat.le_refl _) _) (Nat.le_refl _) hb1)
  clear hb1 hz1
  go_wp2_with fail
  refine (HE.out _).mono ?_
  rintro e w2 ⟨rfl, hb2⟩
  rw [HX.out]
  obtain ⟨hc2, hf2⟩ := bcell hb2
  have hz2 : w1.heap.size ≤ w2.heap.size := hb2.size
  have z2 : w.heap.size < w2.heap.size := by omega
  have HB2 := Lib.hid (below_join HB1.out (Nat.le_refl _) hb2)
  clear hb2 hz2 HB1
  go_wp2_with fail
  refine (back_calls v _ h0 h1).mono ?_
  rintro e w3 ⟨rfl, hb3⟩
  rw [HP.out, HK.out]
  obtain ⟨hc3, hf3⟩ := bcell hb3
  have hz3 : w2.heap.size ≤ w3.heap.size := hb3.size
  have z3 : w.heap.size < w3.heap.size := by omega
  have z3b : w.heap.size < w3.heap.size + 1 := by omega
  have HB3 := Lib.hid (below_join HB2.out (Nat.le_refl _) hb3)
  clear hb3 hz3 HB2
  go_wp2_with fail
  refine (HR.out _).mono ?_
  rintro e w4 ⟨rfl, hb4⟩
  rw [HP.out, HK.out]
  obtain ⟨hc4, hf4⟩ := bcell hb4
  have hz4 : w3.heap.size + 1 ≤ w4.heap.size := by have := hb4.size; simpa using this
  have z4 : w.heap.size < w4.heap.size := by omega
  have z4a : w3.heap.size < w4.heap.size := by omega
  have z4b : w.heap.size < w4.heap.size + 1 := by omega
  have HB4 := Lib.hid (below_join (below_more HB3.out (Nat.le_refl _) _) (Nat.le_refl _) hb4)
  clear hb4 hz4 HB3
  cases t with
  | false =>
    go_wp2_with fail
    refine (awake_calls _).mono ?_
    rintro e w5 ⟨rfl, hb5⟩
    have HB5 := Lib.hid (below_join (below_more HB4.out (Nat.le_refl _) _) (Nat.le_refl _) hb5)
    clear hb5
    go_wp2
    go_ret
    exact ⟨rfl, HB5.out⟩
  | true =>
    have R := roundtrip HX.out
    obtain ⟨r0, r1, r2, r3⟩ := R
    have R2 := Lib.hid r2
    have R3 := Lib.hid r3
    clear r2 r3
    go_wp2_with fail
    refine (back_calls x _ r0 r1).mono ?_
    rintro e w5 ⟨rfl, hb5⟩
    rw [R2.out, R3.out, if_pos rfl]
    obtain ⟨hc5, hf5⟩ := bcell hb5
    have hz5 : w4.heap.size + 1 ≤ w5.heap.size := by have := hb5.size; simpa using this
    have z5 : w.heap.size < w5.heap.size := by omega
    have z5b : w.heap.size < w5.heap.size + 1 := by omega
    have HB5 := Lib.hid (below_join (below_more HB4.out (Nat.le_refl _) _) (Nat.le_refl _) hb5)
    clear hb5 hz5 HB4
    go_wp2_with fail
    refine (awake_calls _).mono ?_
    rintro e w6 ⟨rfl, hb6⟩
    have HB6 := Lib.hid (below_join (below_more HB5.out (Nat.le_refl _) _) (Nat.le_refl _) hb6)
    clear hb6
    go_wp2
    go_ret
    exact ⟨rfl, HB6.out⟩

end Go.Proofs.Yteaaahcgkodcdaa.Ea
