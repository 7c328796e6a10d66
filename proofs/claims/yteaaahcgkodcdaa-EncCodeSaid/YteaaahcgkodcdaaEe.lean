/- The contract of enc.Back: a word's instruction, or none. -/
import Derived.Test.YteaaahcgkodcdaaEd
namespace Go.Proofs.Yteaaahcgkodcdaa.Ea
open Go.RowKit
set_option linter.unusedSimpArgs false
set_option linter.unusedVariables false

/-- what stands in a field of a word -/
def ext (v op : Int) (n k : Nat) : Int := if k < n then v / 2 ^ (fAt op k).toNat % 2 ^ (fBits op k).toNat else 0

theorem ext_in {v op : Int} {n k : Nat} (h : k < n) : ext v op n k = v / 2 ^ (fAt op k).toNat % 2 ^ (fBits op k).toNat := by unfold ext; rw [if_pos h]
theorem ext_out {v op : Int} {n k : Nat} (h : n ≤ k) : ext v op n k = 0 := by unfold ext; rw [if_neg (by omega)]

theorem pow_pos2 (m : Nat) : (1 : Int) ≤ 2 ^ m := by have : (0 : Int) < 2 ^ m := Int.pow_pos (by omega); omega

theorem div_bounds {v : Int} (h0 : 0 ≤ v) (h1 : v < 4294967296) (m : Nat) : 0 ≤ v / 2 ^ m ∧ v / 2 ^ m < 4294967296 := by
  have hp := pow_pos2 m
  refine ⟨Int.ediv_nonneg h0 (by omega), ?_⟩
  have := Int.ediv_le_self (2 ^ m) h0
  omega

theorem emod_le {a : Int} (h : 0 ≤ a) (b : Int) : a % b ≤ a := by
  obtain ⟨x, rfl⟩ := Int.eq_ofNat_of_zero_le h
  rcases Int.lt_or_le b 0 with hb | hb
  · obtain ⟨y, hy⟩ := Int.eq_ofNat_of_zero_le (a := -b) (by omega)
    have : (x : Int) % b = (x : Int) % (y : Int) := by rw [← hy, Int.emod_neg]
    rw [this]
    have := Nat.mod_le x y
    omega
  · obtain ⟨y, rfl⟩ := Int.eq_ofNat_of_zero_le hb
    have := Nat.mod_le x y
    omega

theorem ext_bounds {v op : Int} {n : Nat} (h0 : 0 ≤ v) (h1 : v < 4294967296) (k : Nat) : -9223372036854775808 ≤ ext v op n k ∧ ext v op n k ≤ 9223372036854775807 := by
  unfold ext
  split
  · have h2 := div_bounds h0 h1 (fAt op k).toNat
    have h3 := Int.emod_nonneg (v / 2 ^ (fAt op k).toNat) (b := 2 ^ (fBits op k).toNat) (by have := pow_pos2 (fBits op k).toNat; omega)
    have h4 : v / 2 ^ (fAt op k).toNat % 2 ^ (fBits op k).toNat ≤ v / 2 ^ (fAt op k).toNat := emod_le h2.1 _
    omega
  · omega

theorem ext_raw {v s t : Int} (h0 : 0 ≤ v) (h1 : v < 4294967296) (ht : 0 ≤ t ∧ t ≤ 24) :
    bits .and .i64 (wrap64 (v / 2 ^ s.toNat)) (wrap64 (wrap64 (2 ^ t.toNat) - 1)) = v / 2 ^ s.toNat % 2 ^ t.toNat := by
  have h2 := div_bounds h0 h1 s.toNat
  have e1 : wrap64 (v / 2 ^ s.toNat) = v / 2 ^ s.toNat := IntWalk.wrap64_in _ ⟨by omega, by omega⟩
  have hp := pow_pos2 t.toNat
  have hs := pow_small t ht
  have hr : -9223372036854775808 ≤ wrap64 (2 ^ t.toNat) ∧ wrap64 (2 ^ t.toNat) ≤ 9223372036854775807 := by unfold wrap64; omega
  rw [hs] at hr
  have e2 : wrap64 (wrap64 (2 ^ t.toNat) - 1) = 2 ^ t.toNat - 1 := by rw [hs]; exact IntWalk.wrap64_in _ ⟨by omega, by omega⟩
  rw [e1, e2]
  exact bits_mask .i64 63 (by decide) (fun n a b => by rw [IntKind.wrap_i64]; omega) t.toNat (by omega) _ h2.1 (by omega)

def backArgs (v : Int) : Array Value :=
  #[.int .i64 (v / 16777216), .int .i64 (ext v (v / 16777216) (many (v / 16777216)).toNat 0), .int .i64 (ext v (v / 16777216) (many (v / 16777216)).toNat 1), .int .i64 (ext v (v / 16777216) (many (v / 16777216)).toNat 2), .int .i64 (ext v (v / 16777216) (many (v / 16777216)).toNat 3)]

def backOne (v : Int) : Int × Bool :=
  oneF (v / 16777216) (ext v (v / 16777216) (many (v / 16777216)).toNat 0) (ext v (v / 16777216) (many (v / 16777216)).toNat 1) (ext v (v / 16777216) (many (v / 16777216)).toNat 2) (ext v (v / 16777216) (many (v / 16777216)).toNat 3)

def backOk (v : Int) : Bool := (backOne v).2 && decide ((backOne v).1 = v)

def zero5 : Array Value := #[.int .i64 0, .int .i64 0, .int .i64 0, .int .i64 0, .int .i64 0]

def BackPost (v : Int) (w : World) (e : Ending) (w' : World) : Prop :=
  e = .returned (.tuple #[.agg (if backOk v = true then backArgs v else zero5), .bool (backOk v)]) ∧ Below w.heap.size w w'

theorem backPost_yes {v : Int} {w w' : World} {a b c d : Int} {n : Nat} (hn : many (v / 16777216) = n) (ha : a = ext v (v / 16777216) n 0) (hb : b = ext v (v / 16777216) n 1) (hc : c = ext v (v / 16777216) n 2) (hd : d = ext v (v / 16777216) n 3)
    (h : oneF (v / 16777216) a b c d = (v, true)) (hw : Below w.heap.size w w') :
    BackPost v w (.returned (.tuple #[.agg #[.int .i64 (v / 16777216), .int .i64 a, .int .i64 b, .int .i64 c, .int .i64 d], .bool true])) w' := by
  subst ha hb hc hd
  have e : (many (v / 16777216)).toNat = n := by omega
  have e2 : backOne v = (v, true) := by unfold backOne; rw [e]; exact h
  have e3 : backOk v = true := by unfold backOk; rw [e2]; simp
  unfold BackPost
  rw [e3, if_pos rfl]
  unfold backArgs
  rw [e]
  exact ⟨rfl, hw⟩

theorem backPost_no {v : Int} {w w' : World} {a b c d x : Int} {t : Bool} {n : Nat} (hn : many (v / 16777216) = n) (ha : a = ext v (v / 16777216) n 0) (hb : b = ext v (v / 16777216) n 1) (hc : c = ext v (v / 16777216) n 2) (hd : d = ext v (v / 16777216) n 3)
    (h : oneF (v / 16777216) a b c d = (x, t)) (hno : t = false ∨ x ≠ v) (hw : Below w.heap.size w w') :
    BackPost v w (.returned (.tuple #[.agg #[.int .i64 0, .int .i64 0, .int .i64 0, .int .i64 0, .int .i64 0], .bool false])) w' := by
  subst ha hb hc hd
  have e : (many (v / 16777216)).toNat = n := by omega
  have e2 : backOne v = (x, t) := by unfold backOne; rw [e]; exact h
  have e3 : backOk v = false := by
    unfold backOk; rw [e2]
    rcases hno with rfl | h
    · rfl
    · simp [h]
  unfold BackPost
  rw [e3, if_neg (by simp)]
  exact ⟨rfl, hw⟩

theorem backPost_neg {v : Int} {w w' : World} (hn : many (v / 16777216) < 0) (hw : Below w.heap.size w w') :
    BackPost v w (.returned (.tuple #[.agg #[.int .i64 0, .int .i64 0, .int .i64 0, .int .i64 0, .int .i64 0], .bool false])) w' := by
  have e3 : backOk v = false := by
    unfold backOk backOne
    rw [oneF_neg hn]; rfl
  unfold BackPost
  rw [e3, if_neg (by simp)]
  exact ⟨rfl, hw⟩

theorem below_join {B : Nat} {a m b : World} (h1 : Below B a m) (hB : B ≤ a.heap.size) (h2 : Below m.heap.size m b) : Below B a b := h1.trans (h2.mono (Nat.le_trans hB h1.size))

theorem bcell {W w1 : World} (hb : Below W.heap.size W w1) : (∀ b o, b < W.heap.size → w1.cell? ⟨b, o, none⟩ = W.cell? ⟨b, o, none⟩) ∧ (∀ b o, b < W.heap.size → w1.frozen? ⟨b, o, none⟩ = W.frozen? ⟨b, o, none⟩) :=
  ⟨fun b o h => hb.cell (p := ⟨b, o, none⟩) h, fun b o h => hb.frozen (p := ⟨b, o, none⟩) h⟩

set_option maxHeartbeats 4000000 in
set_option maxRecDepth 100000 in
theorem back_neg (v : Int) (w : World) (h0 : 0 ≤ v) (h1 : v < 4294967296) (hn : many (v / 16777216) < 0) : Calls Try.prog 13 #[.int .u32 v] w (BackPost v w) := by
  have hp := Lib.hid (fun w' => backPost_neg (w := w) (w' := w') hn)
  go_enter Try.func13, Try.ntmps13
  go_wp2_with (go_at_call 34; refine (many_calls _ _ (by omega) (by omega)).mono ?_; rintro e w' ⟨rfl, rfl⟩)
  exact bodyPost_ret (v := .tuple #[.agg #[.int .i64 0, .int .i64 0, .int .i64 0, .int .i64 0, .int .i64 0], .bool false]) (by simp [results, Try.results13, go_sem]) rfl (hp.out _ (below_more (below_more (Below.refl _ _) (Nat.le_refl _) _) (Nat.le_refl _) _))

set_option maxHeartbeats 8000000 in
set_option maxRecDepth 100000 in
theorem back_1 (v : Int) (w : World) (h0 : 0 ≤ v) (h1 : v < 4294967296) (hn : many (v / 16777216) = (1 : Nat)) : Calls Try.prog 13 #[.int .u32 v] w (BackPost v w) := by
  have hneg : ¬ (many (v / 16777216) < 0) := by omega
  have HF := Lib.hid (fun W => fields_calls (v / 16777216) 1 W hn)
  obtain ⟨hs0a, hs0b, ht0a, ht0b⟩ := at_bounds (v / 16777216) 0 (by omega) 1 hn (by omega)
  have E0 := Lib.hid ((ext_raw (s := fAt (v / 16777216) 0) h0 h1 ⟨ht0a, ht0b⟩).trans (ext_in (op := v / 16777216) (n := 1) (k := 0) (by omega)).symm)
  have E1 := Lib.hid (ext_out (v := v) (op := v / 16777216) (n := 1) (k := 1) (by omega)).symm
  have E2 := Lib.hid (ext_out (v := v) (op := v / 16777216) (n := 1) (k := 2) (by omega)).symm
  have E3 := Lib.hid (ext_out (v := v) (op := v / 16777216) (n := 1) (k := 3) (by omega)).symm
  have H := Lib.hid hn
  go_enter Try.func13, Try.ntmps13
  go_wp2_with (go_at_call 34; refine (many_calls _ _ (by omega) (by omega)).mono ?_; rintro e w' ⟨rfl, rfl⟩)
  refine (HF.out _).mono ?_
  rintro e w1 ⟨C, cap, rfl, rfl, hC⟩
  clear hn
  obtain ⟨hc0a, hc0b⟩ := hC 0 (by omega)
  clear hC
  simp only [Nat.zero_mul, Nat.one_mul, Nat.zero_add, Nat.reduceMul, Nat.reduceAdd] at hc0a hc0b
  go_wp2
  refine wp_loop_rounds 2 ?_
  rw [rounds_succ]
  go_wp2
  go_region
  go_wp2
  rw [rounds_succ]
  go_wp2
  go_region
  go_wp2_with fail
  have B0 := E0.out
  have B1 := E1.out
  have B2 := E2.out
  have B3 := E3.out
  have X0 := ext_bounds (op := v / 16777216) (n := 1) h0 h1 0
  have X1 := ext_bounds (op := v / 16777216) (n := 1) h0 h1 1
  have X2 := ext_bounds (op := v / 16777216) (n := 1) h0 h1 2
  have X3 := ext_bounds (op := v / 16777216) (n := 1) h0 h1 3
  rw [← B0] at X0
  rw [← B1] at X1
  rw [← B2] at X2
  rw [← B3] at X3
  clear B0 B1 B2 B3
  refine (one_calls _ _ _ _ _ _ (by omega) (by omega) X0 X1 X2 X3).mono ?_
  clear X0 X1 X2 X3
  rintro e w1 ⟨rfl, hb⟩
  obtain ⟨hcell, hfroz⟩ := bcell hb
  have hz := hb.size
  have HB := Lib.hid hb
  clear hb
  obtain ⟨x, hx⟩ : ∃ x, oneF (v / 16777216) (bits .and .i64 (wrap64 (v / 2 ^ (fAt (v / 16777216) 0).toNat)) (wrap64 (wrap64 (2 ^ (fBits (v / 16777216) 0).toNat) - 1))) 0 0 0 = x := ⟨_, rfl⟩
  rw [hx]
  obtain ⟨x, t⟩ := x
  have HX := Lib.hid hx
  clear hx
  have HW : Below w.heap.size w w1 := below_join (by repeat (first | exact Below.refl _ _ | refine Below.drew ?_ | refine below_more ?_ (Nat.le_refl _) _)) (Nat.le_refl _) HB.out
  have HL := Lib.hid HW
  clear HW
  have r0 : w1.cell? ⟨w.heap.size, 0, none⟩ = some (.int .i64 0) := by rw [hcell _ _ (by simp; omega)]; simp [go_sem]
  have r1 : w1.cell? ⟨w.heap.size, 1, none⟩ = some (.int .i64 0) := by rw [hcell _ _ (by simp; omega)]; simp [go_sem]
  have r2 : w1.cell? ⟨w.heap.size, 2, none⟩ = some (.int .i64 0) := by rw [hcell _ _ (by simp; omega)]; simp [go_sem]
  have r3 : w1.cell? ⟨w.heap.size, 3, none⟩ = some (.int .i64 0) := by rw [hcell _ _ (by simp; omega)]; simp [go_sem]
  have r4 : w1.cell? ⟨w.heap.size, 4, none⟩ = some (.int .i64 0) := by rw [hcell _ _ (by simp; omega)]; simp [go_sem]
  cases t
  · go_wp2
    refine bodyPost_ret (v := .tuple #[.agg #[.int .i64 0, .int .i64 0, .int .i64 0, .int .i64 0, .int .i64 0], .bool false]) (by simp [results, Try.results13, go_sem, r0, r1, r2, r3, r4]) rfl ?_
    refine backPost_no H.out E0.out E1.out E2.out E3.out HX.out (Or.inl rfl) ?_
    exact (((((HL.out).setCell (by simp) _).setCell (by simp) _).setCell (by simp) _).setCell (by simp) _).setCell (by simp) _
  · by_cases hxv : x = v
    · have hxv1 : (x != v) = false := by simp [hxv]
      have HV := Lib.hid hxv
      clear hxv
      go_wp2
      refine bodyPost_ret (v := .tuple #[.agg #[.int .i64 (v / 16777216), .int .i64 (bits .and .i64 (wrap64 (v / 2 ^ (fAt (v / 16777216) 0).toNat)) (wrap64 (wrap64 (2 ^ (fBits (v / 16777216) 0).toNat) - 1))), .int .i64 0, .int .i64 0, .int .i64 0], .bool true]) (by simp [results, Try.results13, go_sem, r0, r1, r2, r3, r4]) rfl ?_
      refine backPost_yes H.out E0.out E1.out E2.out E3.out (by rw [HX.out, HV.out]) ?_
      exact (((((HL.out).setCell (by simp) _).setCell (by simp) _).setCell (by simp) _).setCell (by simp) _).setCell (by simp) _
    · have hxv1 : (x != v) = true := by simp [hxv]
      have HV := Lib.hid hxv
      clear hxv
      go_wp2
      refine bodyPost_ret (v := .tuple #[.agg #[.int .i64 0, .int .i64 0, .int .i64 0, .int .i64 0, .int .i64 0], .bool false]) (by simp [results, Try.results13, go_sem, r0, r1, r2, r3, r4]) rfl ?_
      refine backPost_no H.out E0.out E1.out E2.out E3.out HX.out (Or.inr HV.out) ?_
      exact (((((HL.out).setCell (by simp) _).setCell (by simp) _).setCell (by simp) _).setCell (by simp) _).setCell (by simp) _

set_option maxHeartbeats 8000000 in
set_option maxRecDepth 100000 in
theorem back_2 (v : Int) (w : World) (h0 : 0 ≤ v) (h1 : v < 4294967296) (hn : many (v / 16777216) = (2 : Nat)) : Calls Try.prog 13 #[.int .u32 v] w (BackPost v w) := by
  have hneg : ¬ (many (v / 16777216) < 0) := by omega
  have HF := Lib.hid (fun W => fields_calls (v / 16777216) 2 W hn)
  obtain ⟨hs0a, hs0b, ht0a, ht0b⟩ := at_bounds (v / 16777216) 0 (by omega) 2 hn (by omega)
  have E0 := Lib.hid ((ext_raw (s := fAt (v / 16777216) 0) h0 h1 ⟨ht0a, ht0b⟩).trans (ext_in (op := v / 16777216) (n := 2) (k := 0) (by omega)).symm)
  obtain ⟨hs1a, hs1b, ht1a, ht1b⟩ := at_bounds (v / 16777216) 1 (by omega) 2 hn (by omega)
  have E1 := Lib.hid ((ext_raw (s := fAt (v / 16777216) 1) h0 h1 ⟨ht1a, ht1b⟩).trans (ext_in (op := v / 16777216) (n := 2) (k := 1) (by omega)).symm)
  have E2 := Lib.hid (ext_out (v := v) (op := v / 16777216) (n := 2) (k := 2) (by omega)).symm
  have E3 := Lib.hid (ext_out (v := v) (op := v / 16777216) (n := 2) (k := 3) (by omega)).symm
  have H := Lib.hid hn
  go_enter Try.func13, Try.ntmps13
  go_wp2_with (go_at_call 34; refine (many_calls _ _ (by omega) (by omega)).mono ?_; rintro e w' ⟨rfl, rfl⟩)
  refine (HF.out _).mono ?_
  rintro e w1 ⟨C, cap, rfl, rfl, hC⟩
  clear hn
  obtain ⟨hc0a, hc0b⟩ := hC 0 (by omega)
  obtain ⟨hc1a, hc1b⟩ := hC 1 (by omega)
  clear hC
  simp only [Nat.zero_mul, Nat.one_mul, Nat.zero_add, Nat.reduceMul, Nat.reduceAdd] at hc0a hc0b hc1a hc1b
  go_wp2
  refine wp_loop_rounds 3 ?_
  rw [rounds_succ]
  go_wp2
  go_region
  go_wp2
  rw [rounds_succ]
  go_wp2
  go_region
  go_wp2
  rw [rounds_succ]
  go_wp2
  go_region
  go_wp2_with fail
  have B0 := E0.out
  have B1 := E1.out
  have B2 := E2.out
  have B3 := E3.out
  have X0 := ext_bounds (op := v / 16777216) (n := 2) h0 h1 0
  have X1 := ext_bounds (op := v / 16777216) (n := 2) h0 h1 1
  have X2 := ext_bounds (op := v / 16777216) (n := 2) h0 h1 2
  have X3 := ext_bounds (op := v / 16777216) (n := 2) h0 h1 3
  rw [← B0] at X0
  rw [← B1] at X1
  rw [← B2] at X2
  rw [← B3] at X3
  clear B0 B1 B2 B3
  refine (one_calls _ _ _ _ _ _ (by omega) (by omega) X0 X1 X2 X3).mono ?_
  clear X0 X1 X2 X3
  rintro e w1 ⟨rfl, hb⟩
  obtain ⟨hcell, hfroz⟩ := bcell hb
  have hz := hb.size
  have HB := Lib.hid hb
  clear hb
  obtain ⟨x, hx⟩ : ∃ x, oneF (v / 16777216) (bits .and .i64 (wrap64 (v / 2 ^ (fAt (v / 16777216) 0).toNat)) (wrap64 (wrap64 (2 ^ (fBits (v / 16777216) 0).toNat) - 1))) (bits .and .i64 (wrap64 (v / 2 ^ (fAt (v / 16777216) 1).toNat)) (wrap64 (wrap64 (2 ^ (fBits (v / 16777216) 1).toNat) - 1))) 0 0 = x := ⟨_, rfl⟩
  rw [hx]
  obtain ⟨x, t⟩ := x
  have HX := Lib.hid hx
  clear hx
  have HW : Below w.heap.size w w1 := below_join (by repeat (first | exact Below.refl _ _ | refine Below.drew ?_ | refine below_more ?_ (Nat.le_refl _) _)) (Nat.le_refl _) HB.out
  have HL := Lib.hid HW
  clear HW
  have r0 : w1.cell? ⟨w.heap.size, 0, none⟩ = some (.int .i64 0) := by rw [hcell _ _ (by simp; omega)]; simp [go_sem]
  have r1 : w1.cell? ⟨w.heap.size, 1, none⟩ = some (.int .i64 0) := by rw [hcell _ _ (by simp; omega)]; simp [go_sem]
  have r2 : w1.cell? ⟨w.heap.size, 2, none⟩ = some (.int .i64 0) := by rw [hcell _ _ (by simp; omega)]; simp [go_sem]
  have r3 : w1.cell? ⟨w.heap.size, 3, none⟩ = some (.int .i64 0) := by rw [hcell _ _ (by simp; omega)]; simp [go_sem]
  have r4 : w1.cell? ⟨w.heap.size, 4, none⟩ = some (.int .i64 0) := by rw [hcell _ _ (by simp; omega)]; simp [go_sem]
  cases t
  · go_wp2
    refine bodyPost_ret (v := .tuple #[.agg #[.int .i64 0, .int .i64 0, .int .i64 0, .int .i64 0, .int .i64 0], .bool false]) (by simp [results, Try.results13, go_sem, r0, r1, r2, r3, r4]) rfl ?_
    refine backPost_no H.out E0.out E1.out E2.out E3.out HX.out (Or.inl rfl) ?_
    exact (((((HL.out).setCell (by simp) _).setCell (by simp) _).setCell (by simp) _).setCell (by simp) _).setCell (by simp) _
  · by_cases hxv : x = v
    · have hxv1 : (x != v) = false := by simp [hxv]
      have HV := Lib.hid hxv
      clear hxv
      go_wp2
      refine bodyPost_ret (v := .tuple #[.agg #[.int .i64 (v / 16777216), .int .i64 (bits .and .i64 (wrap64 (v / 2 ^ (fAt (v / 16777216) 0).toNat)) (wrap64 (wrap64 (2 ^ (fBits (v / 16777216) 0).toNat) - 1))), .int .i64 (bits .and .i64 (wrap64 (v / 2 ^ (fAt (v / 16777216) 1).toNat)) (wrap64 (wrap64 (2 ^ (fBits (v / 16777216) 1).toNat) - 1))), .int .i64 0, .int .i64 0], .bool true]) (by simp [results, Try.results13, go_sem, r0, r1, r2, r3, r4]) rfl ?_
      refine backPost_yes H.out E0.out E1.out E2.out E3.out (by rw [HX.out, HV.out]) ?_
      exact (((((HL.out).setCell (by simp) _).setCell (by simp) _).setCell (by simp) _).setCell (by simp) _).setCell (by simp) _
    · have hxv1 : (x != v) = true := by simp [hxv]
      have HV := Lib.hid hxv
      clear hxv
      go_wp2
      refine bodyPost_ret (v := .tuple #[.agg #[.int .i64 0, .int .i64 0, .int .i64 0, .int .i64 0, .int .i64 0], .bool false]) (by simp [results, Try.results13, go_sem, r0, r1, r2, r3, r4]) rfl ?_
      refine backPost_no H.out E0.out E1.out E2.out E3.out HX.out (Or.inr HV.out) ?_
      exact (((((HL.out).setCell (by simp) _).setCell (by simp) _).setCell (by simp) _).setCell (by simp) _).setCell (by simp) _

set_option maxHeartbeats 8000000 in
set_option maxRecDepth 100000 in
theorem back_3 (v : Int) (w : World) (h0 : 0 ≤ v) (h1 : v < 4294967296) (hn : many (v / 16777216) = (3 : Nat)) : Calls Try.prog 13 #[.int .u32 v] w (BackPost v w) := by
  have hneg : ¬ (many (v / 16777216) < 0) := by omega
  have HF := Lib.hid (fun W => fields_calls (v / 16777216) 3 W hn)
  obtain ⟨hs0a, hs0b, ht0a, ht0b⟩ := at_bounds (v / 16777216) 0 (by omega) 3 hn (by omega)
  have E0 := Lib.hid ((ext_raw (s := fAt (v / 16777216) 0) h0 h1 ⟨ht0a, ht0b⟩).trans (ext_in (op := v / 16777216) (n := 3) (k := 0) (by omega)).symm)
  obtain ⟨hs1a, hs1b, ht1a, ht1b⟩ := at_bounds (v / 16777216) 1 (by omega) 3 hn (by omega)
  have E1 := Lib.hid ((ext_raw (s := fAt (v / 16777216) 1) h0 h1 ⟨ht1a, ht1b⟩).trans (ext_in (op := v / 16777216) (n := 3) (k := 1) (by omega)).symm)
  obtain ⟨hs2a, hs2b, ht2a, ht2b⟩ := at_bounds (v / 16777216) 2 (by omega) 3 hn (by omega)
  have E2 := Lib.hid ((ext_raw (s := fAt (v / 16777216) 2) h0 h1 ⟨ht2a, ht2b⟩).trans (ext_in (op := v / 16777216) (n := 3) (k := 2) (by omega)).symm)
  have E3 := Lib.hid (ext_out (v := v) (op := v / 16777216) (n := 3) (k := 3) (by omega)).symm
  have H := Lib.hid hn
  go_enter Try.func13, Try.ntmps13
  go_wp2_with (go_at_call 34; refine (many_calls _ _ (by omega) (by omega)).mono ?_; rintro e w' ⟨rfl, rfl⟩)
  refine (HF.out _).mono ?_
  rintro e w1 ⟨C, cap, rfl, rfl, hC⟩
  clear hn
  obtain ⟨hc0a, hc0b⟩ := hC 0 (by omega)
  obtain ⟨hc1a, hc1b⟩ := hC 1 (by omega)
  obtain ⟨hc2a, hc2b⟩ := hC 2 (by omega)
  clear hC
  simp only [Nat.zero_mul, Nat.one_mul, Nat.zero_add, Nat.reduceMul, Nat.reduceAdd] at hc0a hc0b hc1a hc1b hc2a hc2b
  go_wp2
  refine wp_loop_rounds 4 ?_
  rw [rounds_succ]
  go_wp2
  go_region
  go_wp2
  rw [rounds_succ]
  go_wp2
  go_region
  go_wp2
  rw [rounds_succ]
  go_wp2
  go_region
  go_wp2
  rw [rounds_succ]
  go_wp2
  go_region
  go_wp2_with fail
  have B0 := E0.out
  have B1 := E1.out
  have B2 := E2.out
  have B3 := E3.out
  have X0 := ext_bounds (op := v / 16777216) (n := 3) h0 h1 0
  have X1 := ext_bounds (op := v / 16777216) (n := 3) h0 h1 1
  have X2 := ext_bounds (op := v / 16777216) (n := 3) h0 h1 2
  have X3 := ext_bounds (op := v / 16777216) (n := 3) h0 h1 3
  rw [← B0] at X0
  rw [← B1] at X1
  rw [← B2] at X2
  rw [← B3] at X3
  clear B0 B1 B2 B3
  refine (one_calls _ _ _ _ _ _ (by omega) (by omega) X0 X1 X2 X3).mono ?_
  clear X0 X1 X2 X3
  rintro e w1 ⟨rfl, hb⟩
  obtain ⟨hcell, hfroz⟩ := bcell hb
  have hz := hb.size
  have HB := Lib.hid hb
  clear hb
  obtain ⟨x, hx⟩ : ∃ x, oneF (v / 16777216) (bits .and .i64 (wrap64 (v / 2 ^ (fAt (v / 16777216) 0).toNat)) (wrap64 (wrap64 (2 ^ (fBits (v / 16777216) 0).toNat) - 1))) (bits .and .i64 (wrap64 (v / 2 ^ (fAt (v / 16777216) 1).toNat)) (wrap64 (wrap64 (2 ^ (fBits (v / 16777216) 1).toNat) - 1))) (bits .and .i64 (wrap64 (v / 2 ^ (fAt (v / 16777216) 2).toNat)) (wrap64 (wrap64 (2 ^ (fBits (v / 16777216) 2).toNat) - 1))) 0 = x := ⟨_, rfl⟩
  rw [hx]
  obtain ⟨x, t⟩ := x
  have HX := Lib.hid hx
  clear hx
  have HW : Below w.heap.size w w1 := below_join (by repeat (first | exact Below.refl _ _ | refine Below.drew ?_ | refine below_more ?_ (Nat.le_refl _) _)) (Nat.le_refl _) HB.out
  have HL := Lib.hid HW
  clear HW
  have r0 : w1.cell? ⟨w.heap.size, 0, none⟩ = some (.int .i64 0) := by rw [hcell _ _ (by simp; omega)]; simp [go_sem]
  have r1 : w1.cell? ⟨w.heap.size, 1, none⟩ = some (.int .i64 0) := by rw [hcell _ _ (by simp; omega)]; simp [go_sem]
  have r2 : w1.cell? ⟨w.heap.size, 2, none⟩ = some (.int .i64 0) := by rw [hcell _ _ (by simp; omega)]; simp [go_sem]
  have r3 : w1.cell? ⟨w.heap.size, 3, none⟩ = some (.int .i64 0) := by rw [hcell _ _ (by simp; omega)]; simp [go_sem]
  have r4 : w1.cell? ⟨w.heap.size, 4, none⟩ = some (.int .i64 0) := by rw [hcell _ _ (by simp; omega)]; simp [go_sem]
  cases t
  · go_wp2
    refine bodyPost_ret (v := .tuple #[.agg #[.int .i64 0, .int .i64 0, .int .i64 0, .int .i64 0, .int .i64 0], .bool false]) (by simp [results, Try.results13, go_sem, r0, r1, r2, r3, r4]) rfl ?_
    refine backPost_no H.out E0.out E1.out E2.out E3.out HX.out (Or.inl rfl) ?_
    exact (((((HL.out).setCell (by simp) _).setCell (by simp) _).setCell (by simp) _).setCell (by simp) _).setCell (by simp) _
  · by_cases hxv : x = v
    · have hxv1 : (x != v) = false := by simp [hxv]
      have HV := Lib.hid hxv
      clear hxv
      go_wp2
      refine bodyPost_ret (v := .tuple #[.agg #[.int .i64 (v / 16777216), .int .i64 (bits .and .i64 (wrap64 (v / 2 ^ (fAt (v / 16777216) 0).toNat)) (wrap64 (wrap64 (2 ^ (fBits (v / 16777216) 0).toNat) - 1))), .int .i64 (bits .and .i64 (wrap64 (v / 2 ^ (fAt (v / 16777216) 1).toNat)) (wrap64 (wrap64 (2 ^ (fBits (v / 16777216) 1).toNat) - 1))), .int .i64 (bits .and .i64 (wrap64 (v / 2 ^ (fAt (v / 16777216) 2).toNat)) (wrap64 (wrap64 (2 ^ (fBits (v / 16777216) 2).toNat) - 1))), .int .i64 0], .bool true]) (by simp [results, Try.results13, go_sem, r0, r1, r2, r3, r4]) rfl ?_
      refine backPost_yes H.out E0.out E1.out E2.out E3.out (by rw [HX.out, HV.out]) ?_
      exact (((((HL.out).setCell (by simp) _).setCell (by simp) _).setCell (by simp) _).setCell (by simp) _).setCell (by simp) _
    · have hxv1 : (x != v) = true := by simp [hxv]
      have HV := Lib.hid hxv
      clear hxv
      go_wp2
      refine bodyPost_ret (v := .tuple #[.agg #[.int .i64 0, .int .i64 0, .int .i64 0, .int .i64 0, .int .i64 0], .bool false]) (by simp [results, Try.results13, go_sem, r0, r1, r2, r3, r4]) rfl ?_
      refine backPost_no H.out E0.out E1.out E2.out E3.out HX.out (Or.inr HV.out) ?_
      exact (((((HL.out).setCell (by simp) _).setCell (by simp) _).setCell (by simp) _).setCell (by simp) _).setCell (by simp) _

set_option maxHeartbeats 8000000 in
set_option maxRecDepth 100000 in
theorem back_4 (v : Int) (w : World) (h0 : 0 ≤ v) (h1 : v < 4294967296) (hn : many (v / 16777216) = (4 : Nat)) : Calls Try.prog 13 #[.int .u32 v] w (BackPost v w) := by
  have hneg : ¬ (many (v / 16777216) < 0) := by omega
  have HF := Lib.hid (fun W => fields_calls (v / 16777216) 4 W hn)
  obtain ⟨hs0a, hs0b, ht0a, ht0b⟩ := at_bounds (v / 16777216) 0 (by omega) 4 hn (by omega)
  have E0 := Lib.hid ((ext_raw (s := fAt (v / 16777216) 0) h0 h1 ⟨ht0a, ht0b⟩).trans (ext_in (op := v / 16777216) (n := 4) (k := 0) (by omega)).symm)
  obtain ⟨hs1a, hs1b, ht1a, ht1b⟩ := at_bounds (v / 16777216) 1 (by omega) 4 hn (by omega)
  have E1 := Lib.hid ((ext_raw (s := fAt (v / 16777216) 1) h0 h1 ⟨ht1a, ht1b⟩).trans (ext_in (op := v / 16777216) (n := 4) (k := 1) (by omega)).symm)
  obtain ⟨hs2a, hs2b, ht2a, ht2b⟩ := at_bounds (v / 16777216) 2 (by omega) 4 hn (by omega)
  have E2 := Lib.hid ((ext_raw (s := fAt (v / 16777216) 2) h0 h1 ⟨ht2a, ht2b⟩).trans (ext_in (op := v / 16777216) (n := 4) (k := 2) (by omega)).symm)
  obtain ⟨hs3a, hs3b, ht3a, ht3b⟩ := at_bounds (v / 16777216) 3 (by omega) 4 hn (by omega)
  have E3 := Lib.hid ((ext_raw (s := fAt (v / 16777216) 3) h0 h1 ⟨ht3a, ht3b⟩).trans (ext_in (op := v / 16777216) (n := 4) (k := 3) (by omega)).symm)
  have H := Lib.hid hn
  go_enter Try.func13, Try.ntmps13
  go_wp2_with (go_at_call 34; refine (many_calls _ _ (by omega) (by omega)).mono ?_; rintro e w' ⟨rfl, rfl⟩)
  refine (HF.out _).mono ?_
  rintro e w1 ⟨C, cap, rfl, rfl, hC⟩
  clear hn
  obtain ⟨hc0a, hc0b⟩ := hC 0 (by omega)
  obtain ⟨hc1a, hc1b⟩ := hC 1 (by omega)
  obtain ⟨hc2a, hc2b⟩ := hC 2 (by omega)
  obtain ⟨hc3a, hc3b⟩ := hC 3 (by omega)
  clear hC
  simp only [Nat.zero_mul, Nat.one_mul, Nat.zero_add, Nat.reduceMul, Nat.reduceAdd] at hc0a hc0b hc1a hc1b hc2a hc2b hc3a hc3b
  go_wp2
  refine wp_loop_rounds 5 ?_
  rw [rounds_succ]
  go_wp2
  go_region
  go_wp2
  rw [rounds_succ]
  go_wp2
  go_region
  go_wp2
  rw [rounds_succ]
  go_wp2
  go_region
  go_wp2
  rw [rounds_succ]
  go_wp2
  go_region
  go_wp2
  rw [rounds_succ]
  go_wp2
  go_region
  go_wp2_with fail
  have B0 := E0.out
  have B1 := E1.out
  have B2 := E2.out
  have B3 := E3.out
  have X0 := ext_bounds (op := v / 16777216) (n := 4) h0 h1 0
  have X1 := ext_bounds (op := v / 16777216) (n := 4) h0 h1 1
  have X2 := ext_bounds (op := v / 16777216) (n := 4) h0 h1 2
  have X3 := ext_bounds (op := v / 16777216) (n := 4) h0 h1 3
  rw [← B0] at X0
  rw [← B1] at X1
  rw [← B2] at X2
  rw [← B3] at X3
  clear B0 B1 B2 B3
  refine (one_calls _ _ _ _ _ _ (by omega) (by omega) X0 X1 X2 X3).mono ?_
  clear X0 X1 X2 X3
  rintro e w1 ⟨rfl, hb⟩
  obtain ⟨hcell, hfroz⟩ := bcell hb
  have hz := hb.size
  have HB := Lib.hid hb
  clear hb
  obtain ⟨x, hx⟩ : ∃ x, oneF (v / 16777216) (bits .and .i64 (wrap64 (v / 2 ^ (fAt (v / 16777216) 0).toNat)) (wrap64 (wrap64 (2 ^ (fBits (v / 16777216) 0).toNat) - 1))) (bits .and .i64 (wrap64 (v / 2 ^ (fAt (v / 16777216) 1).toNat)) (wrap64 (wrap64 (2 ^ (fBits (v / 16777216) 1).toNat) - 1))) (bits .and .i64 (wrap64 (v / 2 ^ (fAt (v / 16777216) 2).toNat)) (wrap64 (wrap64 (2 ^ (fBits (v / 16777216) 2).toNat) - 1))) (bits .and .i64 (wrap64 (v / 2 ^ (fAt (v / 16777216) 3).toNat)) (wrap64 (wrap64 (2 ^ (fBits (v / 16777216) 3).toNat) - 1))) = x := ⟨_, rfl⟩
  rw [hx]
  obtain ⟨x, t⟩ := x
  have HX := Lib.hid hx
  clear hx
  have HW : Below w.heap.size w w1 := below_join (by repeat (first | exact Below.refl _ _ | refine Below.drew ?_ | refine below_more ?_ (Nat.le_refl _) _)) (Nat.le_refl _) HB.out
  have HL := Lib.hid HW
  clear HW
  have r0 : w1.cell? ⟨w.heap.size, 0, none⟩ = some (.int .i64 0) := by rw [hcell _ _ (by simp; omega)]; simp [go_sem]
  have r1 : w1.cell? ⟨w.heap.size, 1, none⟩ = some (.int .i64 0) := by rw [hcell _ _ (by simp; omega)]; simp [go_sem]
  have r2 : w1.cell? ⟨w.heap.size, 2, none⟩ = some (.int .i64 0) := by rw [hcell _ _ (by simp; omega)]; simp [go_sem]
  have r3 : w1.cell? ⟨w.heap.size, 3, none⟩ = some (.int .i64 0) := by rw [hcell _ _ (by simp; omega)]; simp [go_sem]
  have r4 : w1.cell? ⟨w.heap.size, 4, none⟩ = some (.int .i64 0) := by rw [hcell _ _ (by simp; omega)]; simp [go_sem]
  cases t
  · go_wp2
    refine bodyPost_ret (v := .tuple #[.agg #[.int .i64 0, .int .i64 0, .int .i64 0, .int .i64 0, .int .i64 0], .bool false]) (by simp [results, Try.results13, go_sem, r0, r1, r2, r3, r4]) rfl ?_
    refine backPost_no H.out E0.out E1.out E2.out E3.out HX.out (Or.inl rfl) ?_
    exact (((((HL.out).setCell (by simp) _).setCell (by simp) _).setCell (by simp) _).setCell (by simp) _).setCell (by simp) _
  · by_cases hxv : x = v
    · have hxv1 : (x != v) = false := by simp [hxv]
      have HV := Lib.hid hxv
      clear hxv
      go_wp2
      refine bodyPost_ret (v := .tuple #[.agg #[.int .i64 (v / 16777216), .int .i64 (bits .and .i64 (wrap64 (v / 2 ^ (fAt (v / 16777216) 0).toNat)) (wrap64 (wrap64 (2 ^ (fBits (v / 16777216) 0).toNat) - 1))), .int .i64 (bits .and .i64 (wrap64 (v / 2 ^ (fAt (v / 16777216) 1).toNat)) (wrap64 (wrap64 (2 ^ (fBits (v / 16777216) 1).toNat) - 1))), .int .i64 (bits .and .i64 (wrap64 (v / 2 ^ (fAt (v / 16777216) 2).toNat)) (wrap64 (wrap64 (2 ^ (fBits (v / 16777216) 2).toNat) - 1))), .int .i64 (bits .and .i64 (wrap64 (v / 2 ^ (fAt (v / 16777216) 3).toNat)) (wrap64 (wrap64 (2 ^ (fBits (v / 16777216) 3).toNat) - 1)))], .bool true]) (by simp [results, Try.results13, go_sem, r0, r1, r2, r3, r4]) rfl ?_
      refine backPost_yes H.out E0.out E1.out E2.out E3.out (by rw [HX.out, HV.out]) ?_
      exact (((((HL.out).setCell (by simp) _).setCell (by simp) _).setCell (by simp) _).setCell (by simp) _).setCell (by simp) _
    · have hxv1 : (x != v) = true := by simp [hxv]
      have HV := Lib.hid hxv
      clear hxv
      go_wp2
      refine bodyPost_ret (v := .tuple #[.agg #[.int .i64 0, .int .i64 0, .int .i64 0, .int .i64 0, .int .i64 0], .bool false]) (by simp [results, Try.results13, go_sem, r0, r1, r2, r3, r4]) rfl ?_
      refine backPost_no H.out E0.out E1.out E2.out E3.out HX.out (Or.inr HV.out) ?_
      exact (((((HL.out).setCell (by simp) _).setCell (by simp) _).setCell (by simp) _).setCell (by simp) _).setCell (by simp) _

/-- enc.Back, of any word. -/
theorem back_calls (v : Int) (w : World) (h0 : 0 ≤ v) (h1 : v < 4294967296) : Calls Try.prog 13 #[.int .u32 v] w (BackPost v w) := by
  by_cases h : many (v / 16777216) < 0
  · exact back_neg v w h0 h1 h
  · obtain ⟨n, hn⟩ := Int.eq_ofNat_of_zero_le (Int.not_lt.mp h)
    have : n = 1 ∨ n = 2 ∨ n = 3 ∨ n = 4 := by
      rcases op_class _ n hn with h | ⟨h1, h2, h3⟩ | ⟨h1, h2, h3⟩
      · rcases h with ⟨_, rfl⟩ | ⟨_, rfl⟩ | ⟨_, rfl⟩ | ⟨_, rfl⟩ | ⟨_, rfl⟩ | ⟨_, rfl⟩ | ⟨_, rfl⟩ | ⟨_, rfl⟩ | ⟨_, rfl⟩ | ⟨_, rfl⟩ | ⟨_, rfl⟩ | ⟨_, rfl⟩ | ⟨_, rfl⟩ | ⟨_, rfl⟩ | ⟨_, rfl⟩ | ⟨_, rfl⟩ <;> decide
      · subst h3; decide
      · subst h3; decide
    rcases this with rfl | rfl | rfl | rfl
    · exact back_1 v w h0 h1 hn
    · exact back_2 v w h0 h1 hn
    · exact back_3 v w h0 h1 hn
    · exact back_4 v w h0 h1 hn

end Go.Proofs.Yteaaahcgkodcdaa.Ea
