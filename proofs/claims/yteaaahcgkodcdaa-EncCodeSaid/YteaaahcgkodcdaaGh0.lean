/- The reference's Back, by kinds. -/
import Derived.Test.YteaaahcgkodcdaaGg
namespace Go.Proofs.Yteaaahcgkodcdaa.Ea
open Go.RowKit
set_option linter.unusedSimpArgs false
set_option linter.unusedVariables false

set_option maxHeartbeats 8000000 in
set_option maxRecDepth 100000 in
theorem rback_1 (v : Int) (w : World) (h0 : 0 ≤ v) (h1 : v < 4294967296) (hm : v / 16777216 = 1) : Calls Try.prog 16 #[.int .u32 v] w (BackPost v w) := by
  have HM := Lib.hid hm
  have f16_8 : bits .and .u32 (v / 65536) 255 = v / 65536 % 256 := mask32 (v / 65536) 8 (by omega) (by omega) (by omega)
  have f0_16 : bits .and .u32 v 65535 = v % 65536 := mask32 v 16 (by omega) (by omega) (by omega)
  have f8_8 : bits .and .u32 (v / 256) 255 = v / 256 % 256 := mask32 (v / 256) 8 (by omega) (by omega) (by omega)
  have f0_8 : bits .and .u32 v 255 = v % 256 := mask32 v 8 (by omega) (by omega) (by omega)
  have HN := Lib.hid (show many (v / 16777216) = ((2 : Nat) : Int) from by rw [HM.out]; decide)
  have E0 := Lib.hid (show (v / 65536 % 256) = ext v (v / 16777216) 2 0 from by rw [HM.out]; unfold ext fAt fBits; simp)
  have E1 := Lib.hid (show (v % 65536) = ext v (v / 16777216) 2 1 from by rw [HM.out]; unfold ext fAt fBits; simp)
  have E2 := Lib.hid (show 0 = ext v (v / 16777216) 2 2 from by rw [HM.out]; unfold ext fAt fBits; simp)
  have E3 := Lib.hid (show 0 = ext v (v / 16777216) 2 3 from by rw [HM.out]; unfold ext fAt fBits; simp)
  go_enter Try.func16, Try.ntmps16
  go_wp2_with fail
  refine (encode_calls 1 (v / 65536 % 256) (v % 65536) 0 0 _).mono ?_
  rintro e w1 ⟨rfl, hb⟩
  obtain ⟨hcell, hfroz⟩ := bcell hb
  have hz := hb.size
  have HB := Lib.hid hb
  clear hb
  have r0 : w1.cell? ⟨w.heap.size, 0, none⟩ = some (.int .i64 0) := by rw [hcell _ _ (by simp; omega)]; simp [go_sem]
  have r1 : w1.cell? ⟨w.heap.size, 1, none⟩ = some (.int .i64 0) := by rw [hcell _ _ (by simp; omega)]; simp [go_sem]
  have r2 : w1.cell? ⟨w.heap.size, 2, none⟩ = some (.int .i64 0) := by rw [hcell _ _ (by simp; omega)]; simp [go_sem]
  have r3 : w1.cell? ⟨w.heap.size, 3, none⟩ = some (.int .i64 0) := by rw [hcell _ _ (by simp; omega)]; simp [go_sem]
  have r4 : w1.cell? ⟨w.heap.size, 4, none⟩ = some (.int .i64 0) := by rw [hcell _ _ (by simp; omega)]; simp [go_sem]
  have HL := Lib.hid (show Below w.heap.size w w1 from below_join (by repeat (first | exact Below.refl _ _ | refine Below.drew ?_ | refine below_more ?_ (Nat.le_refl _) _)) (Nat.le_refl _) HB.out)
  obtain ⟨x, hx⟩ : ∃ x, oneF 1 (v / 65536 % 256) (v % 65536) 0 0 = x := ⟨_, rfl⟩
  rw [hx]
  obtain ⟨x, t⟩ := x
  have HX := Lib.hid hx
  clear hx
  cases t
  · go_wp2
    refine bodyPost_ret (v := .tuple #[.agg #[.int .i64 0, .int .i64 0, .int .i64 0, .int .i64 0, .int .i64 0], .bool false]) (by simp [results, Try.results16, go_sem, r0, r1, r2, r3, r4]) rfl ?_
    refine backPost_no' HM.out HN.out E0.out E1.out E2.out E3.out HX.out (Or.inl rfl) ?_
    exact (((((HL.out).setCell (by simp) _).setCell (by simp) _).setCell (by simp) _).setCell (by simp) _).setCell (by simp) _
  · by_cases hxv : x = v
    · have hxv1 : (x != v) = false := by simp [hxv]
      have HV := Lib.hid hxv
      clear hxv
      go_wp2
      refine bodyPost_ret (v := .tuple #[.agg #[.int .i64 1, .int .i64 (v / 65536 % 256), .int .i64 (v % 65536), .int .i64 0, .int .i64 0], .bool true]) (by simp [results, Try.results16, go_sem, r0, r1, r2, r3, r4]) rfl ?_
      refine backPost_yes' HM.out HN.out E0.out E1.out E2.out E3.out (by rw [HX.out, HV.out]) ?_
      exact (((((HL.out).setCell (by simp) _).setCell (by simp) _).setCell (by simp) _).setCell (by simp) _).setCell (by simp) _
    · have hxv1 : (x != v) = true := by simp [hxv]
      have HV := Lib.hid hxv
      clear hxv
      go_wp2
      refine bodyPost_ret (v := .tuple #[.agg #[.int .i64 0, .int .i64 0, .int .i64 0, .int .i64 0, .int .i64 0], .bool false]) (by simp [results, Try.results16, go_sem, r0, r1, r2, r3, r4]) rfl ?_
      refine backPost_no' HM.out HN.out E0.out E1.out E2.out E3.out HX.out (Or.inr HV.out) ?_
      exact (((((HL.out).setCell (by simp) _).setCell (by simp) _).setCell (by simp) _).setCell (by simp) _).setCell (by simp) _

set_option maxHeartbeats 8000000 in
set_option maxRecDepth 100000 in
theorem rback_5 (v : Int) (w : World) (h0 : 0 ≤ v) (h1 : v < 4294967296) (hm : v / 16777216 = 5) : Calls Try.prog 16 #[.int .u32 v] w (BackPost v w) := by
  have HM := Lib.hid hm
  have f16_8 : bits .and .u32 (v / 65536) 255 = v / 65536 % 256 := mask32 (v / 65536) 8 (by omega) (by omega) (by omega)
  have f0_16 : bits .and .u32 v 65535 = v % 65536 := mask32 v 16 (by omega) (by omega) (by omega)
  have f8_8 : bits .and .u32 (v / 256) 255 = v / 256 % 256 := mask32 (v / 256) 8 (by omega) (by omega) (by omega)
  have f0_8 : bits .and .u32 v 255 = v % 256 := mask32 v 8 (by omega) (by omega) (by omega)
  have HN := Lib.hid (show many (v / 16777216) = ((2 : Nat) : Int) from by rw [HM.out]; decide)
  have E0 := Lib.hid (show (v / 65536 % 256) = ext v (v / 16777216) 2 0 from by rw [HM.out]; unfold ext fAt fBits; simp)
  have E1 := Lib.hid (show (v % 65536) = ext v (v / 16777216) 2 1 from by rw [HM.out]; unfold ext fAt fBits; simp)
  have E2 := Lib.hid (show 0 = ext v (v / 16777216) 2 2 from by rw [HM.out]; unfold ext fAt fBits; simp)
  have E3 := Lib.hid (show 0 = ext v (v / 16777216) 2 3 from by rw [HM.out]; unfold ext fAt fBits; simp)
  go_enter Try.func16, Try.ntmps16
  go_wp2_with fail
  refine (encode_calls 5 (v / 65536 % 256) (v % 65536) 0 0 _).mono ?_
  rintro e w1 ⟨rfl, hb⟩
  obtain ⟨hcell, hfroz⟩ := bcell hb
  have hz := hb.size
  have HB := Lib.hid hb
  clear hb
  have r0 : w1.cell? ⟨w.heap.size, 0, none⟩ = some (.int .i64 0) := by rw [hcell _ _ (by simp; omega)]; simp [go_sem]
  have r1 : w1.cell? ⟨w.heap.size, 1, none⟩ = some (.int .i64 0) := by rw [hcell _ _ (by simp; omega)]; simp [go_sem]
  have r2 : w1.cell? ⟨w.heap.size, 2, none⟩ = some (.int .i64 0) := by rw [hcell _ _ (by simp; omega)]; simp [go_sem]
  have r3 : w1.cell? ⟨w.heap.size, 3, none⟩ = some (.int .i64 0) := by rw [hcell _ _ (by simp; omega)]; simp [go_sem]
  have r4 : w1.cell? ⟨w.heap.size, 4, none⟩ = some (.int .i64 0) := by rw [hcell _ _ (by simp; omega)]; simp [go_sem]
  have HL := Lib.hid (show Below w.heap.size w w1 from below_join (by repeat (first | exact Below.refl _ _ | refine Below.drew ?_ | refine below_more ?_ (Nat.le_refl _) _)) (Nat.le_refl _) HB.out)
  obtain ⟨x, hx⟩ : ∃ x, oneF 5 (v / 65536 % 256) (v % 65536) 0 0 = x := ⟨_, rfl⟩
  rw [hx]
  obtain ⟨x, t⟩ := x
  have HX := Lib.hid hx
  clear hx
  cases t
  · go_wp2
    refine bodyPost_ret (v := .tuple #[.agg #[.int .i64 0, .int .i64 0, .int .i64 0, .int .i64 0, .int .i64 0], .bool false]) (by simp [results, Try.results16, go_sem, r0, r1, r2, r3, r4]) rfl ?_
    refine backPost_no' HM.out HN.out E0.out E1.out E2.out E3.out HX.out (Or.inl rfl) ?_
    exact (((((HL.out).setCell (by simp) _).setCell (by simp) _).setCell (by simp) _).setCell (by simp) _).setCell (by simp) _
  · by_cases hxv : x = v
    · have hxv1 : (x != v) = false := by simp [hxv]
      have HV := Lib.hid hxv
      clear hxv
      go_wp2
      refine bodyPost_ret (v := .tuple #[.agg #[.int .i64 5, .int .i64 (v / 65536 % 256), .int .i64 (v % 65536), .int .i64 0, .int .i64 0], .bool true]) (by simp [results, Try.results16, go_sem, r0, r1, r2, r3, r4]) rfl ?_
      refine backPost_yes' HM.out HN.out E0.out E1.out E2.out E3.out (by rw [HX.out, HV.out]) ?_
      exact (((((HL.out).setCell (by simp) _).setCell (by simp) _).setCell (by simp) _).setCell (by simp) _).setCell (by simp) _
    · have hxv1 : (x != v) = true := by simp [hxv]
      have HV := Lib.hid hxv
      clear hxv
      go_wp2
      refine bodyPost_ret (v := .tuple #[.agg #[.int .i64 0, .int .i64 0, .int .i64 0, .int .i64 0, .int .i64 0], .bool false]) (by simp [results, Try.results16, go_sem, r0, r1, r2, r3, r4]) rfl ?_
      refine backPost_no' HM.out HN.out E0.out E1.out E2.out E3.out HX.out (Or.inr HV.out) ?_
      exact (((((HL.out).setCell (by simp) _).setCell (by simp) _).setCell (by simp) _).setCell (by simp) _).setCell (by simp) _

set_option maxHeartbeats 8000000 in
set_option maxRecDepth 100000 in
theorem rback_6 (v : Int) (w : World) (h0 : 0 ≤ v) (h1 : v < 4294967296) (hm : v / 16777216 = 6) : Calls Try.prog 16 #[.int .u32 v] w (BackPost v w) := by
  have HM := Lib.hid hm
  have f16_8 : bits .and .u32 (v / 65536) 255 = v / 65536 % 256 := mask32 (v / 65536) 8 (by omega) (by omega) (by omega)
  have f0_16 : bits .and .u32 v 65535 = v % 65536 := mask32 v 16 (by omega) (by omega) (by omega)
  have f8_8 : bits .and .u32 (v / 256) 255 = v / 256 % 256 := mask32 (v / 256) 8 (by omega) (by omega) (by omega)
  have f0_8 : bits .and .u32 v 255 = v % 256 := mask32 v 8 (by omega) (by omega) (by omega)
  have HN := Lib.hid (show many (v / 16777216) = ((2 : Nat) : Int) from by rw [HM.out]; decide)
  have E0 := Lib.hid (show (v / 65536 % 256) = ext v (v / 16777216) 2 0 from by rw [HM.out]; unfold ext fAt fBits; simp)
  have E1 := Lib.hid (show (v % 65536) = ext v (v / 16777216) 2 1 from by rw [HM.out]; unfold ext fAt fBits; simp)
  have E2 := Lib.hid (show 0 = ext v (v / 16777216) 2 2 from by rw [HM.out]; unfold ext fAt fBits; simp)
  have E3 := Lib.hid (show 0 = ext v (v / 16777216) 2 3 from by rw [HM.out]; unfold ext fAt fBits; simp)
  go_enter Try.func16, Try.ntmps16
  go_wp2_with fail
  refine (encode_calls 6 (v / 65536 % 256) (v % 65536) 0 0 _).mono ?_
  rintro e w1 ⟨rfl, hb⟩
  obtain ⟨hcell, hfroz⟩ := bcell hb
  have hz := hb.size
  have HB := Lib.hid hb
  clear hb
  have r0 : w1.cell? ⟨w.heap.size, 0, none⟩ = some (.int .i64 0) := by rw [hcell _ _ (by simp; omega)]; simp [go_sem]
  have r1 : w1.cell? ⟨w.heap.size, 1, none⟩ = some (.int .i64 0) := by rw [hcell _ _ (by simp; omega)]; simp [go_sem]
  have r2 : w1.cell? ⟨w.heap.size, 2, none⟩ = some (.int .i64 0) := by rw [hcell _ _ (by simp; omega)]; simp [go_sem]
  have r3 : w1.cell? ⟨w.heap.size, 3, none⟩ = some (.int .i64 0) := by rw [hcell _ _ (by simp; omega)]; simp [go_sem]
  have r4 : w1.cell? ⟨w.heap.size, 4, none⟩ = some (.int .i64 0) := by rw [hcell _ _ (by simp; omega)]; simp [go_sem]
  have HL := Lib.hid (show Below w.heap.size w w1 from below_join (by repeat (first | exact Below.refl _ _ | refine Below.drew ?_ | refine below_more ?_ (Nat.le_refl _) _)) (Nat.le_refl _) HB.out)
  obtain ⟨x, hx⟩ : ∃ x, oneF 6 (v / 65536 % 256) (v % 65536) 0 0 = x := ⟨_, rfl⟩
  rw [hx]
  obtain ⟨x, t⟩ := x
  have HX := Lib.hid hx
  clear hx
  cases t
  · go_wp2
    refine bodyPost_ret (v := .tuple #[.agg #[.int .i64 0, .int .i64 0, .int .i64 0, .int .i64 0, .int .i64 0], .bool false]) (by simp [results, Try.results16, go_sem, r0, r1, r2, r3, r4]) rfl ?_
    refine backPost_no' HM.out HN.out E0.out E1.out E2.out E3.out HX.out (Or.inl rfl) ?_
    exact (((((HL.out).setCell (by simp) _).setCell (by simp) _).setCell (by simp) _).setCell (by simp) _).setCell (by simp) _
  · by_cases hxv : x = v
    · have hxv1 : (x != v) = false := by simp [hxv]
      have HV := Lib.hid hxv
      clear hxv
      go_wp2
      refine bodyPost_ret (v := .tuple #[.agg #[.int .i64 6, .int .i64 (v / 65536 % 256), .int .i64 (v % 65536), .int .i64 0, .int .i64 0], .bool true]) (by simp [results, Try.results16, go_sem, r0, r1, r2, r3, r4]) rfl ?_
      refine backPost_yes' HM.out HN.out E0.out E1.out E2.out E3.out (by rw [HX.out, HV.out]) ?_
      exact (((((HL.out).setCell (by simp) _).setCell (by simp) _).setCell (by simp) _).setCell (by simp) _).setCell (by simp) _
    · have hxv1 : (x != v) = true := by simp [hxv]
      have HV := Lib.hid hxv
      clear hxv
      go_wp2
      refine bodyPost_ret (v := .tuple #[.agg #[.int .i64 0, .int .i64 0, .int .i64 0, .int .i64 0, .int .i64 0], .bool false]) (by simp [results, Try.results16, go_sem, r0, r1, r2, r3, r4]) rfl ?_
      refine backPost_no' HM.out HN.out E0.out E1.out E2.out E3.out HX.out (Or.inr HV.out) ?_
      exact (((((HL.out).setCell (by simp) _).setCell (by simp) _).setCell (by simp) _).setCell (by simp) _).setCell (by simp) _

set_option maxHeartbeats 8000000 in
set_option maxRecDepth 100000 in
theorem rback_11 (v : Int) (w : World) (h0 : 0 ≤ v) (h1 : v < 4294967296) (hm : v / 16777216 = 11) : Calls Try.prog 16 #[.int .u32 v] w (BackPost v w) := by
  have HM := Lib.hid hm
  have f16_8 : bits .and .u32 (v / 65536) 255 = v / 65536 % 256 := mask32 (v / 65536) 8 (by omega) (by omega) (by omega)
  have f0_16 : bits .and .u32 v 65535 = v % 65536 := mask32 v 16 (by omega) (by omega) (by omega)
  have f8_8 : bits .and .u32 (v / 256) 255 = v / 256 % 256 := mask32 (v / 256) 8 (by omega) (by omega) (by omega)
  have f0_8 : bits .and .u32 v 255 = v % 256 := mask32 v 8 (by omega) (by omega) (by omega)
  have HN := Lib.hid (show many (v / 16777216) = ((2 : Nat) : Int) from by rw [HM.out]; decide)
  have E0 := Lib.hid (show (v / 65536 % 256) = ext v (v / 16777216) 2 0 from by rw [HM.out]; unfold ext fAt fBits; simp)
  have E1 := Lib.hid (show (v % 65536) = ext v (v / 16777216) 2 1 from by rw [HM.out]; unfold ext fAt fBits; simp)
  have E2 := Lib.hid (show 0 = ext v (v / 16777216) 2 2 from by rw [HM.out]; unfold ext fAt fBits; simp)
  have E3 := Lib.hid (show 0 = ext v (v / 16777216) 2 3 from by rw [HM.out]; unfold ext fAt fBits; simp)
  go_enter Try.func16, Try.ntmps16
  go_wp2_with fail
  refine (encode_calls 11 (v / 65536 % 256) (v % 65536) 0 0 _).mono ?_
  rintro e w1 ⟨rfl, hb⟩
  obtain ⟨hcell, hfroz⟩ := bcell hb
  have hz := hb.size
  have HB := Lib.hid hb
  clear hb
  have r0 : w1.cell? ⟨w.heap.size, 0, none⟩ = some (.int .i64 0) := by rw [hcell _ _ (by simp; omega)]; simp [go_sem]
  have r1 : w1.cell? ⟨w.heap.size, 1, none⟩ = some (.int .i64 0) := by rw [hcell _ _ (by simp; omega)]; simp [go_sem]
  have r2 : w1.cell? ⟨w.heap.size, 2, none⟩ = some (.int .i64 0) := by rw [hcell _ _ (by simp; omega)]; simp [go_sem]
  have r3 : w1.cell? ⟨w.heap.size, 3, none⟩ = some (.int .i64 0) := by rw [hcell _ _ (by simp; omega)]; simp [go_sem]
  have r4 : w1.cell? ⟨w.heap.size, 4, none⟩ = some (.int .i64 0) := by rw [hcell _ _ (by simp; omega)]; simp [go_sem]
  have HL := Lib.hid (show Below w.heap.size w w1 from below_join (by repeat (first | exact Below.refl _ _ | refine Below.drew ?_ | refine below_more ?_ (Nat.le_refl _) _)) (Nat.le_refl _) HB.out)
  obtain ⟨x, hx⟩ : ∃ x, oneF 11 (v / 65536 % 256) (v % 65536) 0 0 = x := ⟨_, rfl⟩
  rw [hx]
  obtain ⟨x, t⟩ := x
  have HX := Lib.hid hx
  clear hx
  cases t
  · go_wp2
    refine bodyPost_ret (v := .tuple #[.agg #[.int .i64 0, .int .i64 0, .int .i64 0, .int .i64 0, .int .i64 0], .bool false]) (by simp [results, Try.results16, go_sem, r0, r1, r2, r3, r4]) rfl ?_
    refine backPost_no' HM.out HN.out E0.out E1.out E2.out E3.out HX.out (Or.inl rfl) ?_
    exact (((((HL.out).setCell (by simp) _).setCell (by simp) _).setCell (by simp) _).setCell (by simp) _).setCell (by simp) _
  · by_cases hxv : x = v
    · have hxv1 : (x != v) = false := by simp [hxv]
      have HV := Lib.hid hxv
      clear hxv
      go_wp2
      refine bodyPost_ret (v := .tuple #[.agg #[.int .i64 11, .int .i64 (v / 65536 % 256), .int .i64 (v % 65536), .int .i64 0, .int .i64 0], .bool true]) (by simp [results, Try.results16, go_sem, r0, r1, r2, r3, r4]) rfl ?_
      refine backPost_yes' HM.out HN.out E0.out E1.out E2.out E3.out (by rw [HX.out, HV.out]) ?_
      exact (((((HL.out).setCell (by simp) _).setCell (by simp) _).setCell (by simp) _).setCell (by simp) _).setCell (by simp) _
    · have hxv1 : (x != v) = true := by simp [hxv]
      have HV := Lib.hid hxv
      clear hxv
      go_wp2
      refine bodyPost_ret (v := .tuple #[.agg #[.int .i64 0, .int .i64 0, .int .i64 0, .int .i64 0, .int .i64 0], .bool false]) (by simp [results, Try.results16, go_sem, r0, r1, r2, r3, r4]) rfl ?_
      refine backPost_no' HM.out HN.out E0.out E1.out E2.out E3.out HX.out (Or.inr HV.out) ?_
      exact (((((HL.out).setCell (by simp) _).setCell (by simp) _).setCell (by simp) _).setCell (by simp) _).setCell (by simp) _

end Go.Proofs.Yteaaahcgkodcdaa.Ea
