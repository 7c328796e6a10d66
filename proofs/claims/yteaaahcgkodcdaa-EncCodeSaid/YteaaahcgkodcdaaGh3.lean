/- The reference's Back, by kinds. -/
import Derived.Test.YteaaahcgkodcdaaGg
namespace Go.Proofs.Yteaaahcgkodcdaa.Ea
open Go.RowKit
set_option linter.unusedSimpArgs false
set_option linter.unusedVariables false

set_option maxHeartbeats 8000000 in
set_option maxRecDepth 100000 in
theorem rback_16 (v : Int) (w : World) (h0 : 0 ≤ v) (h1 : v < 4294967296) (hm : v / 16777216 = 16) : Calls Try.prog 16 #[.int .u32 v] w (BackPost v w) := by
  have HM := Lib.hid hm
  have f0_24 : bits .and .u32 v 16777215 = v % 16777216 := mask32 v 24 (by omega) (by omega) (by omega)
  have f16_8 : bits .and .u32 (v / 65536) 255 = v / 65536 % 256 := mask32 (v / 65536) 8 (by omega) (by omega) (by omega)
  have f8_8 : bits .and .u32 (v / 256) 255 = v / 256 % 256 := mask32 (v / 256) 8 (by omega) (by omega) (by omega)
  have f0_8 : bits .and .u32 v 255 = v % 256 := mask32 v 8 (by omega) (by omega) (by omega)
  have HN := Lib.hid (show many (v / 16777216) = ((1 : Nat) : Int) from by rw [HM.out]; decide)
  have E0 := Lib.hid (show (v % 16777216) = ext v (v / 16777216) 1 0 from by rw [HM.out]; unfold ext fAt fBits; simp)
  have E1 := Lib.hid (show 0 = ext v (v / 16777216) 1 1 from by rw [HM.out]; unfold ext fAt fBits; simp)
  have E2 := Lib.hid (show 0 = ext v (v / 16777216) 1 2 from by rw [HM.out]; unfold ext fAt fBits; simp)
  have E3 := Lib.hid (show 0 = ext v (v / 16777216) 1 3 from by rw [HM.out]; unfold ext fAt fBits; simp)
  go_enter Try.func16, Try.ntmps16
  go_wp2_with fail
  refine (encode_calls 16 (v % 16777216) 0 0 0 _).mono ?_
  rintro e w1 ⟨rfl, hb⟩
  obtain ⟨hcell, hfroz⟩ := bcell hb
  have hz := hb.size
  have HB := Lib.hid hb
  clear hb
  have r0 : w1.cell? ⟨w.heap.size, 0, none⟩ = some (.int .i64 0) := by rw [hcell _ _ (by simp; omega)]; simp [go_sem]
  have r1 : w1.cell? ⟨w.heap.size, 1, none⟩ = some (.int .i64 0) := by rw [hcell _ _ (by simp; omega)]; simp [go_sem]
  have r2 : w1.cell? ⟨w.heap.size, 2, none⟩ = some (.int .i64 0) := by rw [hcell _ _ (by simp; omega)]; simp [go_sem]
  have r3 : w1.cell? ⟨w.heap.size, 3, none⟩ = some (.int .i64 0) := by rw [hcell _ _ (by simp; omega)]; simp [go_sem]
  have r4 : w1.cell? ⟨w.heap.size, 4, none⟩ = some (.int .i64 0) := by rw [hcell _ _ (by simp; omega)]; simp [go_sem]
  have HL := Lib.hid (show Below w.heap.size w w1 from below_join (by repeat (first | exact Below.refl _ _ | refine Below.drew ?_ | refine below_more ?_ (Nat.le_refl _) _)) (Nat.le_refl _) HB.out)
  obtain ⟨x, hx⟩ : ∃ x, oneF 16 (v % 16777216) 0 0 0 = x := ⟨_, rfl⟩
  rw [hx]
  obtain ⟨x, t⟩ := x
  have HX := Lib.hid hx
  clear hx
  cases t
  · go_wp2
    refine bodyPost_ret (v := .tuple #[.agg #[.int .i64 0, .int .i64 0, .int .i64 0, .int .i64 0, .int .i64 0], .bool false]) (by simp [results, Try.results16, go_sem, r0, r1, r2, r3, r4]) rfl ?_
    refine backPost_no' HM.out HN.out E0.out E1.out E2.out E3.out HX.out (Or.inl rfl) ?_
    exact (((((HL.out).setCell (by simp) _).setCell (by simp) _).setCell (by simp) _).setCell (by simp) _).setCell (by simp) _
  · by_cases hxv : x = v
    · have hxv1 : (x != v) = false := by simp [hxv]
      have HV := Lib.hid hxv
      clear hxv
      go_wp2
      refine bodyPost_ret (v := .tuple #[.agg #[.int .i64 16, .int .i64 (v % 16777216), .int .i64 0, .int .i64 0, .int .i64 0], .bool true]) (by simp [results, Try.results16, go_sem, r0, r1, r2, r3, r4]) rfl ?_
      refine backPost_yes' HM.out HN.out E0.out E1.out E2.out E3.out (by rw [HX.out, HV.out]) ?_
      exact (((((HL.out).setCell (by simp) _).setCell (by simp) _).setCell (by simp) _).setCell (by simp) _).setCell (by simp) _
    · have hxv1 : (x != v) = true := by simp [hxv]
      have HV := Lib.hid hxv
      clear hxv
      go_wp2
      refine bodyPost_ret (v := .tuple #[.agg #[.int .i64 0, .int .i64 0, .int .i64 0, .int .i64 0, .int .i64 0], .bool false]) (by simp [results, Try.results16, go_sem, r0, r1, r2, r3, r4]) rfl ?_
      refine backPost_no' HM.out HN.out E0.out E1.out E2.out E3.out HX.out (Or.inr HV.out) ?_
      exact (((((HL.out).setCell (by simp) _).setCell (by simp) _).setCell (by simp) _).setCell (by simp) _).setCell (by simp) _

set_option maxHeartbeats 8000000 in
set_option maxRecDepth 100000 in
theorem rback_15 (v : Int) (w : World) (h0 : 0 ≤ v) (h1 : v < 4294967296) (hm : v / 16777216 = 15) : Calls Try.prog 16 #[.int .u32 v] w (BackPost v w) := by
  have HM := Lib.hid hm
  have f18_6 : bits .and .u32 (v / 262144) 63 = v / 262144 % 64 := mask32 (v / 262144) 6 (by omega) (by omega) (by omega)
  have f12_6 : bits .and .u32 (v / 4096) 63 = v / 4096 % 64 := mask32 (v / 4096) 6 (by omega) (by omega) (by omega)
  have f6_6 : bits .and .u32 (v / 64) 63 = v / 64 % 64 := mask32 (v / 64) 6 (by omega) (by omega) (by omega)
  have f0_6 : bits .and .u32 v 63 = v % 64 := mask32 v 6 (by omega) (by omega) (by omega)
  have f16_8 : bits .and .u32 (v / 65536) 255 = v / 65536 % 256 := mask32 (v / 65536) 8 (by omega) (by omega) (by omega)
  have f8_8 : bits .and .u32 (v / 256) 255 = v / 256 % 256 := mask32 (v / 256) 8 (by omega) (by omega) (by omega)
  have f0_8 : bits .and .u32 v 255 = v % 256 := mask32 v 8 (by omega) (by omega) (by omega)
  have HN := Lib.hid (show many (v / 16777216) = ((4 : Nat) : Int) from by rw [HM.out]; decide)
  have E0 := Lib.hid (show (v / 262144 % 64) = ext v (v / 16777216) 4 0 from by rw [HM.out]; unfold ext fAt fBits; simp)
  have E1 := Lib.hid (show (v / 4096 % 64) = ext v (v / 16777216) 4 1 from by rw [HM.out]; unfold ext fAt fBits; simp)
  have E2 := Lib.hid (show (v / 64 % 64) = ext v (v / 16777216) 4 2 from by rw [HM.out]; unfold ext fAt fBits; simp)
  have E3 := Lib.hid (show (v % 64) = ext v (v / 16777216) 4 3 from by rw [HM.out]; unfold ext fAt fBits; simp)
  go_enter Try.func16, Try.ntmps16
  go_wp2_with fail
  refine (encode_calls 15 (v / 262144 % 64) (v / 4096 % 64) (v / 64 % 64) (v % 64) _).mono ?_
  rintro e w1 ⟨rfl, hb⟩
  obtain ⟨hcell, hfroz⟩ := bcell hb
  have hz := hb.size
  have HB := Lib.hid hb
  clear hb
  have r0 : w1.cell? ⟨w.heap.size, 0, none⟩ = some (.int .i64 0) := by rw [hcell _ _ (by simp; omega)]; simp [go_sem]
  have r1 : w1.cell? ⟨w.heap.size, 1, none⟩ = some (.int .i64 0) := by rw [hcell _ _ (by simp; omega)]; simp [go_sem]
  have r2 : w1.cell? ⟨w.heap.size, 2, none⟩ = some (.int .i64 0) := by rw [hcell _ _ (by simp; omega)]; simp [go_sem]
  have r3 : w1.cell? ⟨w.heap.size, 3, none⟩ = some (.int .i64 0) := by rw [hcell _ _ (by simp; omega)]; simp [go_sem]
  have r4 : w1.cell? ⟨w.heap.size, 4, none⟩ = some (.int .i64 0) := by rw [hcell _ _ (by simp; omega)]; simp [go_sem]
  have HL := Lib.hid (show Below w.heap.size w w1 from below_join (by repeat (first | exact Below.refl _ _ | refine Below.drew ?_ | refine below_more ?_ (Nat.le_refl _) _)) (Nat.le_refl _) HB.out)
  obtain ⟨x, hx⟩ : ∃ x, oneF 15 (v / 262144 % 64) (v / 4096 % 64) (v / 64 % 64) (v % 64) = x := ⟨_, rfl⟩
  rw [hx]
  obtain ⟨x, t⟩ := x
  have HX := Lib.hid hx
  clear hx
  cases t
  · go_wp2
    refine bodyPost_ret (v := .tuple #[.agg #[.int .i64 0, .int .i64 0, .int .i64 0, .int .i64 0, .int .i64 0], .bool false]) (by simp [results, Try.results16, go_sem, r0, r1, r2, r3, r4]) rfl ?_
    refine backPost_no' HM.out HN.out E0.out E1.out E2.out E3.out HX.out (Or.inl rfl) ?_
    exact (((((HL.out).setCell (by simp) _).setCell (by simp) _).setCell (by simp) _).setCell (by simp) _).setCell (by simp) _
  · by_cases hxv : x = v
    · have hxv1 : (x != v) = false := by simp [hxv]
      have HV := Lib.hid hxv
      clear hxv
      go_wp2
      refine bodyPost_ret (v := .tuple #[.agg #[.int .i64 15, .int .i64 (v / 262144 % 64), .int .i64 (v / 4096 % 64), .int .i64 (v / 64 % 64), .int .i64 (v % 64)], .bool true]) (by simp [results, Try.results16, go_sem, r0, r1, r2, r3, r4]) rfl ?_
      refine backPost_yes' HM.out HN.out E0.out E1.out E2.out E3.out (by rw [HX.out, HV.out]) ?_
      exact (((((HL.out).setCell (by simp) _).setCell (by simp) _).setCell (by simp) _).setCell (by simp) _).setCell (by simp) _
    · have hxv1 : (x != v) = true := by simp [hxv]
      have HV := Lib.hid hxv
      clear hxv
      go_wp2
      refine bodyPost_ret (v := .tuple #[.agg #[.int .i64 0, .int .i64 0, .int .i64 0, .int .i64 0, .int .i64 0], .bool false]) (by simp [results, Try.results16, go_sem, r0, r1, r2, r3, r4]) rfl ?_
      refine backPost_no' HM.out HN.out E0.out E1.out E2.out E3.out HX.out (Or.inr HV.out) ?_
      exact (((((HL.out).setCell (by simp) _).setCell (by simp) _).setCell (by simp) _).setCell (by simp) _).setCell (by simp) _

set_option maxHeartbeats 8000000 in
set_option maxRecDepth 100000 in
theorem rback_17 (v : Int) (w : World) (h0 : 0 ≤ v) (h1 : v < 4294967296) (hm : v / 16777216 = 17) : Calls Try.prog 16 #[.int .u32 v] w (BackPost v w) := by
  have HM := Lib.hid hm
  have f12_12 : bits .and .u32 (v / 4096) 4095 = v / 4096 % 4096 := mask32 (v / 4096) 12 (by omega) (by omega) (by omega)
  have f0_12 : bits .and .u32 v 4095 = v % 4096 := mask32 v 12 (by omega) (by omega) (by omega)
  have f16_8 : bits .and .u32 (v / 65536) 255 = v / 65536 % 256 := mask32 (v / 65536) 8 (by omega) (by omega) (by omega)
  have f8_8 : bits .and .u32 (v / 256) 255 = v / 256 % 256 := mask32 (v / 256) 8 (by omega) (by omega) (by omega)
  have f0_8 : bits .and .u32 v 255 = v % 256 := mask32 v 8 (by omega) (by omega) (by omega)
  have HN := Lib.hid (show many (v / 16777216) = ((2 : Nat) : Int) from by rw [HM.out]; decide)
  have E0 := Lib.hid (show (v / 4096 % 4096) = ext v (v / 16777216) 2 0 from by rw [HM.out]; unfold ext fAt fBits; simp)
  have E1 := Lib.hid (show (v % 4096) = ext v (v / 16777216) 2 1 from by rw [HM.out]; unfold ext fAt fBits; simp)
  have E2 := Lib.hid (show 0 = ext v (v / 16777216) 2 2 from by rw [HM.out]; unfold ext fAt fBits; simp)
  have E3 := Lib.hid (show 0 = ext v (v / 16777216) 2 3 from by rw [HM.out]; unfold ext fAt fBits; simp)
  go_enter Try.func16, Try.ntmps16
  go_wp2_with fail
  refine (encode_calls 17 (v / 4096 % 4096) (v % 4096) 0 0 _).mono ?_
  rintro e w1 ⟨rfl, hb⟩
  obtain ⟨hcell, hfroz⟩ := bcell hb
  have hz := hb.size
  have HB := Lib.hid hb
  clear hb
  have r0 : w1.cell? ⟨w.heap.size, 0, none⟩ = some (.int .i64 0) := by rw [hcell _ _ (by simp; omega)]; simp [go_sem]
  have r1 : w1.cell? ⟨w.heap.size, 1, none⟩ = some (.int .i64 0) := by rw [hcell _ _ (by simp; omega)]; simp [go_sem]
  have r2 : w1.cell? ⟨w.heap.size, 2, none⟩ = some (.int .i64 0) := by rw [hcell _ _ (by simp; omega)]; simp [go_sem]
  have r3 : w1.cell? ⟨w.heap.size, 3, none⟩ = some (.int .i64 0) := by rw [hcell _ _ (by simp; omega)]; simp [go_sem]
  have r4 : w1.cell? ⟨w.heap.size, 4, none⟩ = some (.int .i64 0) := by rw [hcell _ _ (by simp; omega)]; simp [go_sem]
  have HL := Lib.hid (show Below w.heap.size w w1 from below_join (by repeat (first | exact Below.refl _ _ | refine Below.drew ?_ | refine below_more ?_ (Nat.le_refl _) _)) (Nat.le_refl _) HB.out)
  obtain ⟨x, hx⟩ : ∃ x, oneF 17 (v / 4096 % 4096) (v % 4096) 0 0 = x := ⟨_, rfl⟩
  rw [hx]
  obtain ⟨x, t⟩ := x
  have HX := Lib.hid hx
  clear hx
  cases t
  · go_wp2
    refine bodyPost_ret (v := .tuple #[.agg #[.int .i64 0, .int .i64 0, .int .i64 0, .int .i64 0, .int .i64 0], .bool false]) (by simp [results, Try.results16, go_sem, r0, r1, r2, r3, r4]) rfl ?_
    refine backPost_no' HM.out HN.out E0.out E1.out E2.out E3.out HX.out (Or.inl rfl) ?_
    exact (((((HL.out).setCell (by simp) _).setCell (by simp) _).setCell (by simp) _).setCell (by simp) _).setCell (by simp) _
  · by_cases hxv : x = v
    · have hxv1 : (x != v) = false := by simp [hxv]
      have HV := Lib.hid hxv
      clear hxv
      go_wp2
      refine bodyPost_ret (v := .tuple #[.agg #[.int .i64 17, .int .i64 (v / 4096 % 4096), .int .i64 (v % 4096), .int .i64 0, .int .i64 0], .bool true]) (by simp [results, Try.results16, go_sem, r0, r1, r2, r3, r4]) rfl ?_
      refine backPost_yes' HM.out HN.out E0.out E1.out E2.out E3.out (by rw [HX.out, HV.out]) ?_
      exact (((((HL.out).setCell (by simp) _).setCell (by simp) _).setCell (by simp) _).setCell (by simp) _).setCell (by simp) _
    · have hxv1 : (x != v) = true := by simp [hxv]
      have HV := Lib.hid hxv
      clear hxv
      go_wp2
      refine bodyPost_ret (v := .tuple #[.agg #[.int .i64 0, .int .i64 0, .int .i64 0, .int .i64 0, .int .i64 0], .bool false]) (by simp [results, Try.results16, go_sem, r0, r1, r2, r3, r4]) rfl ?_
      refine backPost_no' HM.out HN.out E0.out E1.out E2.out E3.out HX.out (Or.inr HV.out) ?_
      exact (((((HL.out).setCell (by simp) _).setCell (by simp) _).setCell (by simp) _).setCell (by simp) _).setCell (by simp) _

set_option maxHeartbeats 8000000 in
set_option maxRecDepth 100000 in
theorem rback_big (v : Int) (w : World) (h0 : 0 ≤ v) (h1 : v < 4294967296)
    (n1 : v / 16777216 ≠ 1) (n2 : v / 16777216 ≠ 2) (n4 : v / 16777216 ≠ 4) (n5 : v / 16777216 ≠ 5) (n6 : v / 16777216 ≠ 6) (n7 : v / 16777216 ≠ 7) (n8 : v / 16777216 ≠ 8) (n9 : v / 16777216 ≠ 9)
    (n10 : v / 16777216 ≠ 10) (n11 : v / 16777216 ≠ 11) (n12 : v / 16777216 ≠ 12) (n13 : v / 16777216 ≠ 13) (n14 : v / 16777216 ≠ 14) (n15 : v / 16777216 ≠ 15) (n16 : v / 16777216 ≠ 16) (n17 : v / 16777216 ≠ 17) :
    Calls Try.prog 16 #[.int .u32 v] w (BackPost v w) := by
  have e1 : (v / 16777216 == 1) = false := beq_eq_false_iff_ne.2 n1
  have e2 : (v / 16777216 == 2) = false := beq_eq_false_iff_ne.2 n2
  have e4 : (v / 16777216 == 4) = false := beq_eq_false_iff_ne.2 n4
  have e5 : (v / 16777216 == 5) = false := beq_eq_false_iff_ne.2 n5
  have e6 : (v / 16777216 == 6) = false := beq_eq_false_iff_ne.2 n6
  have e7 : (v / 16777216 == 7) = false := beq_eq_false_iff_ne.2 n7
  have e8 : (v / 16777216 == 8) = false := beq_eq_false_iff_ne.2 n8
  have e9 : (v / 16777216 == 9) = false := beq_eq_false_iff_ne.2 n9
  have e10 : (v / 16777216 == 10) = false := beq_eq_false_iff_ne.2 n10
  have e11 : (v / 16777216 == 11) = false := beq_eq_false_iff_ne.2 n11
  have e12 : (v / 16777216 == 12) = false := beq_eq_false_iff_ne.2 n12
  have e13 : (v / 16777216 == 13) = false := beq_eq_false_iff_ne.2 n13
  have e14 : (v / 16777216 == 14) = false := beq_eq_false_iff_ne.2 n14
  have e15 : (v / 16777216 == 15) = false := beq_eq_false_iff_ne.2 n15
  have e16 : (v / 16777216 == 16) = false := beq_eq_false_iff_ne.2 n16
  have e17 : (v / 16777216 == 17) = false := beq_eq_false_iff_ne.2 n17
  have HS := Lib.hid (small_none n1 n2 n4 n5 n6 n7 n8 n9 n10 n11 n12 n13 n14 n15 n16 n17 h0 h1)
  clear n1 n2 n4 n5 n6 n7 n8 n9 n10 n11 n12 n13 n14 n15 n16 n17
  have f16_8 : bits .and .u32 (v / 65536) 255 = v / 65536 % 256 := mask32 (v / 65536) 8 (by omega) (by omega) (by omega)
  have f8_8 : bits .and .u32 (v / 256) 255 = v / 256 % 256 := mask32 (v / 256) 8 (by omega) (by omega) (by omega)
  have f0_8 : bits .and .u32 v 255 = v % 256 := mask32 v 8 (by omega) (by omega) (by omega)
  go_enter Try.func16, Try.ntmps16
  go_wp2_with fail
  refine (encode_calls (v / 16777216) (v / 65536 % 256) (v / 256 % 256) (v % 256) 0 _).mono ?_
  rintro e w1 ⟨rfl, hb⟩
  obtain ⟨hcell, hfroz⟩ := bcell hb
  have hz := hb.size
  have HB := Lib.hid hb
  clear hb
  have r0 : w1.cell? ⟨w.heap.size, 0, none⟩ = some (.int .i64 0) := by rw [hcell _ _ (by simp; omega)]; simp [go_sem]
  have r1 : w1.cell? ⟨w.heap.size, 1, none⟩ = some (.int .i64 0) := by rw [hcell _ _ (by simp; omega)]; simp [go_sem]
  have r2 : w1.cell? ⟨w.heap.size, 2, none⟩ = some (.int .i64 0) := by rw [hcell _ _ (by simp; omega)]; simp [go_sem]
  have r3 : w1.cell? ⟨w.heap.size, 3, none⟩ = some (.int .i64 0) := by rw [hcell _ _ (by simp; omega)]; simp [go_sem]
  have r4 : w1.cell? ⟨w.heap.size, 4, none⟩ = some (.int .i64 0) := by rw [hcell _ _ (by simp; omega)]; simp [go_sem]
  have HL := Lib.hid (show Below w.heap.size w w1 from below_join (by repeat (first | exact Below.refl _ _ | refine Below.drew ?_ | refine below_more ?_ (Nat.le_refl _) _)) (Nat.le_refl _) HB.out)
  obtain ⟨x, hx⟩ : ∃ x, oneF (v / 16777216) (v / 65536 % 256) (v / 256 % 256) (v % 256) 0 = x := ⟨_, rfl⟩
  rw [hx]
  obtain ⟨x, t⟩ := x
  have HX := Lib.hid hx
  clear hx
  cases t
  · go_wp2
    refine bodyPost_ret (v := .tuple #[.agg #[.int .i64 0, .int .i64 0, .int .i64 0, .int .i64 0, .int .i64 0], .bool false]) (by simp [results, Try.results16, go_sem, r0, r1, r2, r3, r4]) rfl ?_
    refine HS.out _ _ _ HX.out |>.2 (Or.inl rfl) ?_
    exact (((((HL.out).setCell (by simp) _).setCell (by simp) _).setCell (by simp) _).setCell (by simp) _).setCell (by simp) _
  · by_cases hxv : x = v
    · have hxv1 : (x != v) = false := by simp [hxv]
      have HV := Lib.hid hxv
      clear hxv
      go_wp2
      refine bodyPost_ret (v := .tuple #[.agg #[.int .i64 (v / 16777216), .int .i64 (v / 65536 % 256), .int .i64 (v / 256 % 256), .int .i64 (v % 256), .int .i64 0], .bool true]) (by simp [results, Try.results16, go_sem, r0, r1, r2, r3, r4]) rfl ?_
      refine HS.out _ _ _ HX.out |>.1 rfl HV.out ?_
      exact (((((HL.out).setCell (by simp) _).setCell (by simp) _).setCell (by simp) _).setCell (by simp) _).setCell (by simp) _
    · have hxv1 : (x != v) = true := by simp [hxv]
      have HV := Lib.hid hxv
      clear hxv
      go_wp2
      refine bodyPost_ret (v := .tuple #[.agg #[.int .i64 0, .int .i64 0, .int .i64 0, .int .i64 0, .int .i64 0], .bool false]) (by simp [results, Try.results16, go_sem, r0, r1, r2, r3, r4]) rfl ?_
      refine HS.out _ _ _ HX.out |>.2 (Or.inr HV.out) ?_
      exact (((((HL.out).setCell (by simp) _).setCell (by simp) _).setCell (by simp) _).setCell (by simp) _).setCell (by simp) _

end Go.Proofs.Yteaaahcgkodcdaa.Ea
