/- The walk of EncOps. -/
import Derived.Test.YteaaahcgkodcdaaEf
namespace Go.Proofs.Yteaaahcgkodcdaa.Ea
open Go.RowKit
set_option linter.unusedSimpArgs false
set_option linter.unusedVariables false

set_option maxHeartbeats 4000000 in
set_option maxRecDepth 100000 in
theorem mk_calls (op x y z : Int) (bx : Nat) (w : World) (h1 : 1 ≤ op) (h2 : op ≤ 20) (c : Int) (hc : c = if op ≤ 14 then z else 0) (hx : 0 ≤ x ∧ x < 256) (hy : 0 ≤ y ∧ y < 256) (hz : 0 ≤ z ∧ z < 256) (hb : bx + 2 < w.heap.size)
    (cx : w.cell? ⟨bx, 0, none⟩ = some (.int .u8 x)) (cy : w.cell? ⟨bx + 1, 0, none⟩ = some (.int .u8 y)) (cz : w.cell? ⟨bx + 1 + 1, 0, none⟩ = some (.int .u8 z)) :
    Calls Try.prog 11 #[.int .i64 op, .pointer (some ⟨bx, 0, none⟩), .pointer (some ⟨bx + 1, 0, none⟩), .pointer (some ⟨bx + 1 + 1, 0, none⟩)] w
      fun e w' => e = .returned (.agg #[.int .i64 (32 + op), .int .i64 x, .int .i64 y, .int .i64 c, .int .i64 0]) ∧ Below w.heap.size w w' := by
  have b0 : bx < w.heap.size := by omega
  have b1 : bx + 1 < w.heap.size := by omega
  have b2 : bx + 1 + 1 < w.heap.size := by omega
  obtain ⟨hx1, hx2⟩ := hx
  obtain ⟨hy1, hy2⟩ := hy
  obtain ⟨hz1, hz2⟩ := hz
  by_cases h : op ≤ 14
  · rw [if_pos h] at hc
    subst hc
    go_enter Try.func11, Try.ntmps11
    go_wp2
    exact bodyPost_ret (v := .agg #[.int .i64 (32 + op), .int .i64 x, .int .i64 y, .int .i64 c, .int .i64 0]) (by simp [results, Try.results11, go_sem]) rfl ⟨rfl, below_more (below_more (Below.refl _ _) (Nat.le_refl _) _) (Nat.le_refl _) _⟩
  · rw [if_neg h] at hc
    subst hc
    go_enter Try.func11, Try.ntmps11
    go_wp2
    exact bodyPost_ret (v := .agg #[.int .i64 (32 + op), .int .i64 x, .int .i64 y, .int .i64 0, .int .i64 0]) (by simp [results, Try.results11, go_sem]) rfl ⟨rfl, below_more (below_more (Below.refl _ _) (Nat.le_refl _) _) (Nat.le_refl _) _⟩

theorem pow_dvd64 {j : Nat} (hj : j ≤ 62) : (2 : Int) ^ j ∣ 2 ^ 64 := by
  obtain ⟨m, hm⟩ : ∃ m, 64 = j + m := ⟨64 - j, by omega⟩
  rw [hm, Int.pow_add]
  exact Int.dvd_mul_right _ _

theorem and_mask (a : Int) (j : Nat) (hj : j ≤ 62) : bits .and .i64 a (2 ^ j - 1) = a % 2 ^ j := by
  have hp := pow_pos2 j
  have hp2 : (2 : Int) ^ j ≤ 2 ^ 62 := by
    have := Nat.pow_le_pow_right (n := 2) (by omega) hj
    have h3 : (((2 ^ j : Nat)) : Int) ≤ ((2 ^ 62 : Nat) : Int) := by omega
    simpa using h3
  have e2 : (BitVec.ofInt 64 (2 ^ j - 1)).toNat = 2 ^ j - 1 := by
    rw [BitVec.toNat_ofInt]
    have : ((2 : Int) ^ j - 1) % ((2 ^ 64 : Nat) : Int) = 2 ^ j - 1 := Int.emod_eq_of_lt (by omega) (by omega)
    rw [this]
    have h4 : ((2 ^ j : Nat) : Int) = 2 ^ j := by simp
    have h5 : (1 : Nat) ≤ 2 ^ j := Nat.one_le_two_pow
    omega
  have e1 : (BitVec.ofInt 64 a).toNat = (a % 2 ^ 64).toNat := by rw [BitVec.toNat_ofInt]; rfl
  have e3 : (a % 2 ^ 64).toNat % 2 ^ j = (a % 2 ^ j).toNat := by
    have hd : (a % 2 ^ 64) % 2 ^ j = a % 2 ^ j := Int.emod_emod_of_dvd a (pow_dvd64 hj)
    have h0 : 0 ≤ a % 2 ^ 64 := Int.emod_nonneg _ (by omega)
    have : (((a % 2 ^ 64).toNat % 2 ^ j : Nat) : Int) = a % 2 ^ j := by
      rw [Int.natCast_emod, Int.toNat_of_nonneg h0]; simpa using hd
    omega
  have h1 : 0 ≤ a % 2 ^ j := Int.emod_nonneg _ (by omega)
  have h2 : a % 2 ^ j < 2 ^ j := Int.emod_lt_of_pos _ (by omega)
  have hb : bits .and .i64 a (2 ^ j - 1) = IntKind.i64.wrap (((BitVec.ofInt 64 a) &&& (BitVec.ofInt 64 (2 ^ j - 1)) : BitVec 64).toNat : Int) := rfl
  rw [hb, BitVec.toNat_and, e1, e2, Nat.and_two_pow_sub_one_eq_mod, e3, IntKind.wrap_i64]
  omega

theorem and_65535 (a : Int) : bits .and .i64 a 65535 = a % 65536 := and_mask a 16 (by omega)

/-- the word of an op's instruction -/
def wordOf (p x y z : Int) : Int := (32 + p) * 16777216 + x * 65536 + y * 256 + (if p ≤ 14 then z else 0)

theorem enc_word {p x y z : Int} (h1 : 1 ≤ p) (h2 : p ≤ 20) (hx : 0 ≤ x ∧ x < 256) (hy : 0 ≤ y ∧ y < 256) (hz : 0 ≤ z ∧ z < 256) :
    oneF (32 + p) x y (if p ≤ 14 then z else 0) 0 = (wordOf p x y z, true) := by
  have eA := fAtG (op := 32 + p) (by omega)
  have eB := fBitsG (op := 32 + p) (by omega)
  have m0 : many (32 + p) = if p ≤ 14 then 3 else 2 := by
    unfold many
    rw [if_neg (by omega), if_neg (by omega), if_neg (by omega)]
    by_cases h : p ≤ 14
    · rw [if_pos h, arity2 (by omega) (by omega)]; rfl
    · rw [if_neg h, arity1 (by omega) (by omega)]; rfl
  by_cases h : p ≤ 14
  · rw [if_pos h] at m0 ⊢
    have hg : ∀ j, j < 4 → goodAt (32 + p) 3 (opd x y z 0) j := by
      intro j hj
      obtain rfl | rfl | rfl | rfl : j = 0 ∨ j = 1 ∨ j = 2 ∨ j = 3 := by omega
      all_goals simp [goodAt, opd, eB]
      · omega
      · omega
      · omega
    rw [oneF_yes m0 hg]
    simp [acc, opd, eA, wordOf, h]
  · rw [if_neg h] at m0 ⊢
    have hg : ∀ j, j < 4 → goodAt (32 + p) 2 (opd x y 0 0) j := by
      intro j hj
      obtain rfl | rfl | rfl | rfl : j = 0 ∨ j = 1 ∨ j = 2 ∨ j = 3 := by omega
      all_goals simp [goodAt, opd, eB]
      · omega
      · omega
    rw [oneF_yes m0 hg]
    simp [acc, opd, eA, wordOf, h]

theorem word_eq {p q x y z : Int} (hx : 0 ≤ x ∧ x < 256) (hy : 0 ≤ y ∧ y < 256) (hz : 0 ≤ z ∧ z < 256) : (wordOf p x y z == wordOf q x y z) = (p == q) := by
  rw [Bool.eq_iff_iff, beq_iff_eq, beq_iff_eq]
  unfold wordOf
  constructor
  · intro h; split at h <;> split at h <;> omega
  · intro h; subst h; rfl

theorem word_op {p x y z : Int} (hx : 0 ≤ x ∧ x < 256) (hy : 0 ≤ y ∧ y < 256) (hz : 0 ≤ z ∧ z < 256) : wordOf p x y z / 16777216 = 32 + p := by
  unfold wordOf; split <;> omega

set_option maxHeartbeats 4000000 in
set_option maxRecDepth 100000 in
theorem encOps_walk (a b x y z : Int) (w : World) (hx : 0 ≤ x ∧ x < 256) (hy : 0 ≤ y ∧ y < 256) (hz : 0 ≤ z ∧ z < 256) :
    Calls Try.prog 3 #[.int .i64 a, .int .i64 b, .int .u8 x, .int .u8 y, .int .u8 z] w fun e w' => e = .returned (.bool true) ∧ Below w.heap.size w w' := by
  have ea := and_65535 a
  have eb := and_65535 b
  have a1 : 0 ≤ a % 65536 ∧ a % 65536 < 65536 := by omega
  have b1 : 0 ≤ b % 65536 ∧ b % 65536 < 65536 := by omega
  obtain ⟨a1, a2⟩ := a1
  obtain ⟨b1, b2⟩ := b1
  go_enter Try.func3, Try.ntmps3
  go_wp2_with fail
  obtain ⟨p, hp⟩ : ∃ p, a % 65536 % 20 + 1 = p := ⟨_, rfl⟩
  obtain ⟨q, hq⟩ : ∃ q, b % 65536 % 20 + 1 = q := ⟨_, rfl⟩
  have p1 : 1 ≤ p ∧ p ≤ 20 := by omega
  have q1 : 1 ≤ q ∧ q ≤ 20 := by omega
  clear a1 a2 b1 b2 ea eb
  rw [hp, hq]
  clear hp hq
  obtain ⟨p1, p2⟩ := p1
  obtain ⟨q1, q2⟩ := q1
  have E1 := Lib.hid (enc_word p1 p2 hx hy hz)
  have E2 := Lib.hid (enc_word q1 q2 hx hy hz)
  have R1 := Lib.hid (roundtrip (enc_word p1 p2 hx hy hz))
  have hcz : -9223372036854775808 ≤ (if p ≤ 14 then z else 0) ∧ (if p ≤ 14 then z else 0) ≤ 9223372036854775807 := by split <;> omega
  have hcz2 : -9223372036854775808 ≤ (if q ≤ 14 then z else 0) ∧ (if q ≤ 14 then z else 0) ≤ 9223372036854775807 := by split <;> omega
  obtain ⟨c, hc⟩ : ∃ c, c = (if p ≤ 14 then z else 0) := ⟨_, rfl⟩
  obtain ⟨d, hd⟩ : ∃ d, d = (if q ≤ 14 then z else 0) := ⟨_, rfl⟩
  rw [← hc] at E1 R1 hcz
  rw [← hd] at E2 hcz2
  have HC := Lib.hid hc
  have HD := Lib.hid hd
  clear hc hd
  refine (mk_calls _ x y z _ _ p1 p2 c HC.out hx hy hz (by simp) (by simp [go_sem]) (by simp [go_sem]) (by simp [go_sem])).mono ?_
  rintro e w1 ⟨rfl, hb1⟩
  obtain ⟨hc1, hf1⟩ := bcell hb1
  have x1 : w1.cell? ⟨w.heap.size, 0, none⟩ = some (.int .u8 x) := by rw [hc1 _ _ (by simp; omega)]; simp [go_sem]
  have y1 : w1.cell? ⟨w.heap.size + 1, 0, none⟩ = some (.int .u8 y) := by rw [hc1 _ _ (by simp)]; simp [go_sem]
  have z1 : w1.cell? ⟨w.heap.size + 1 + 1, 0, none⟩ = some (.int .u8 z) := by rw [hc1 _ _ (by simp)]; simp [go_sem]
  have s1 : w.heap.size + 1 + 1 + 1 ≤ w1.heap.size := by have := hb1.size; simpa using this
  clear hc1 hf1
  have HB1 := Lib.hid (below_join (below_more (below_more (below_more (Below.refl _ _) (Nat.le_refl _) _) (Nat.le_refl _) _) (Nat.le_refl _) _) (Nat.le_refl _) hb1)
  clear hb1
  go_wp2_with fail
  refine (mk_calls _ x y z _ _ q1 q2 d HD.out hx hy hz (by omega) x1 y1 z1).mono ?_
  rintro e w2 ⟨rfl, hb2⟩
  have HB2 := Lib.hid (below_join HB1.out (Nat.le_refl _) hb2)
  clear hb2 x1 y1 z1 HB1 s1
  obtain ⟨u, hu⟩ : ∃ u, wordOf p x y z = u := ⟨_, rfl⟩
  obtain ⟨v, hv⟩ : ∃ v, wordOf q x y z = v := ⟨_, rfl⟩
  have V1 : (u == v) = (p == q) := by rw [← hu, ← hv]; exact word_eq hx hy hz
  have V2 : u / 16777216 = 32 + p := by rw [← hu]; exact word_op hx hy hz
  have V3 := R1.out.1
  have V4 := R1.out.2.1
  have V5 := R1.out.2.2
  rw [hu] at E1 V3 V4 V5
  rw [hv] at E2
  clear hu hv R1
  have V1' := Lib.hid V1
  have V2' := Lib.hid V2
  have V5' := Lib.hid V5
  clear V1 V2 V5
  go_wp2_with fail
  refine (one_calls _ _ _ _ _ _ (by omega) (by omega) (by omega) (by omega) hcz (by omega)).mono ?_
  rintro e w3 ⟨rfl, hb3⟩
  rw [E1.out]
  obtain ⟨hc3, hf3⟩ := bcell hb3
  have hz3 : w2.heap.size + 1 + 1 ≤ w3.heap.size := by have := hb3.size; simpa using this
  have z3a : w2.heap.size < w3.heap.size := by omega
  have z3b : w2.heap.size + 1 < w3.heap.size := by omega
  have HB3 := Lib.hid (below_join (below_more (below_more HB2.out (Nat.le_refl _) _) (Nat.le_refl _) _) (Nat.le_refl _) hb3)
  clear hb3 hz3 HB2
  go_wp2_with fail
  refine (one_calls _ _ _ _ _ _ (by omega) (by omega) (by omega) (by omega) hcz2 (by omega)).mono ?_
  rintro e w4 ⟨rfl, hb4⟩
  rw [E2.out]
  obtain ⟨hc4, hf4⟩ := bcell hb4
  have hz4 : w3.heap.size ≤ w4.heap.size := hb4.size
  have z4a : w2.heap.size < w4.heap.size := by omega
  have z4b : w2.heap.size + 1 < w4.heap.size := by omega
  have HB4 := Lib.hid (below_join HB3.out (Nat.le_refl _) hb4)
  clear hb4 hz4 HB3
  go_wp2_with fail
  refine (back_calls _ _ V3 V4).mono ?_
  rintro e w5 ⟨rfl, hb5⟩
  rw [V5'.out.1, V5'.out.2, if_pos rfl]
  obtain ⟨hc5, hf5⟩ := bcell hb5
  have hz5 : w4.heap.size ≤ w5.heap.size := hb5.size
  have z5a : w2.heap.size < w5.heap.size := by omega
  have z5b : w2.heap.size + 1 < w5.heap.size := by omega
  have HB5 := Lib.hid (below_join HB4.out (Nat.le_refl _) hb5)
  clear hb5 hz5 HB4
  go_wp2_with fail
  refine (awake_calls _).mono ?_
  rintro e w6 ⟨rfl, hb6⟩
  have HB6 := Lib.hid (below_join (below_more HB5.out (Nat.le_refl _) _) (Nat.le_refl _) hb6)
  clear hb6 HB5
  go_wp2
  go_ret
  exact ⟨rfl, HB6.out⟩

end Go.Proofs.Yteaaahcgkodcdaa.Ea
