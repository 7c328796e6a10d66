/- Plain law: a word read again is the instruction; the contract of the law's awake. -/
import Derived.Test.YteaaahcgkodcdaaEe
namespace Go.Proofs.Yteaaahcgkodcdaa.Ea
open Go.RowKit
set_option linter.unusedSimpArgs false
set_option linter.unusedVariables false

def Fits (op : Int) (n : Nat) (x : Nat → Int) : Prop :=
  0 ≤ acc op n x 4 ∧ acc op n x 4 < 4294967296 ∧ acc op n x 4 / 16777216 = op ∧ ext (acc op n x 4) op n 0 = x 0 ∧ ext (acc op n x 4) op n 1 = x 1 ∧ ext (acc op n x 4) op n 2 = x 2 ∧ ext (acc op n x 4) op n 3 = x 3

set_option maxHeartbeats 8000000 in
theorem fits_of (op : Int) (n : Nat) (x : Nat → Int) (hn : many op = n) (hg : ∀ j, j < 4 → goodAt op n x j) : Fits op n x := by
  rcases op_class op n hn with h | ⟨h1, h2, rfl⟩ | ⟨h1, h2, rfl⟩
  · rcases h with ⟨rfl, rfl⟩ | ⟨rfl, rfl⟩ | ⟨rfl, rfl⟩ | ⟨rfl, rfl⟩ | ⟨rfl, rfl⟩ | ⟨rfl, rfl⟩ | ⟨rfl, rfl⟩ | ⟨rfl, rfl⟩ | ⟨rfl, rfl⟩ | ⟨rfl, rfl⟩ | ⟨rfl, rfl⟩ | ⟨rfl, rfl⟩ | ⟨rfl, rfl⟩ | ⟨rfl, rfl⟩ | ⟨rfl, rfl⟩ | ⟨rfl, rfl⟩
    all_goals
      have g0 := hg 0 (by omega)
      have g1 := hg 1 (by omega)
      have g2 := hg 2 (by omega)
      have g3 := hg 3 (by omega)
      clear hg hn
      simp [Fits, ext, goodAt, fAt, fBits, acc] at *
      omega
  · have eA := fAtG h1
    have eB := fBitsG h1
    have g0 := hg 0 (by omega)
    have g1 := hg 1 (by omega)
    have g2 := hg 2 (by omega)
    have g3 := hg 3 (by omega)
    clear hg hn
    simp [Fits, ext, goodAt, eA, eB, acc] at *
    omega
  · have eA := fAtG (op := op) (by omega)
    have eB := fBitsG (op := op) (by omega)
    have g0 := hg 0 (by omega)
    have g1 := hg 1 (by omega)
    have g2 := hg 2 (by omega)
    have g3 := hg 3 (by omega)
    clear hg hn
    simp [Fits, ext, goodAt, eA, eB, acc] at *
    omega

/-- what is encoded is decoded -/
theorem roundtrip {op a b c d x : Int} (h : oneF op a b c d = (x, true)) : 0 ≤ x ∧ x < 4294967296 ∧ backOk x = true ∧ backArgs x = #[.int .i64 op, .int .i64 a, .int .i64 b, .int .i64 c, .int .i64 d] := by
  have h0 := h
  unfold oneF at h0
  split at h0
  · simp at h0
  · rename_i hneg
    split at h0
    · rename_i hok
      obtain ⟨n, hn⟩ := Int.eq_ofNat_of_zero_le (Int.not_lt.mp hneg)
      have en : (many op).toNat = n := by omega
      rw [en] at hok h0
      have hf := fits_of op n _ hn (okAll_good hok)
      have hx : acc op n (opd a b c d) 4 = x := (Prod.mk.inj h0).1
      unfold Fits at hf
      rw [hx] at hf
      obtain ⟨f1, f2, f3, f4, f5, f6, f7⟩ := hf
      have o0 : opd a b c d 0 = a := rfl
      have o1 : opd a b c d 1 = b := rfl
      have o2 : opd a b c d 2 = c := rfl
      have o3 : opd a b c d 3 = d := rfl
      rw [o0] at f4; rw [o1] at f5; rw [o2] at f6; rw [o3] at f7
      refine ⟨f1, f2, ?_, ?_⟩
      · unfold backOk backOne
        rw [f3, en, f4, f5, f6, f7, h]
        simp
      · unfold backArgs
        rw [f3, en, f4, f5, f6, f7]
    · simp at h0

theorem awake_one : oneF 2 1 2 0 0 = (33620480, true) := by decide
theorem awake_back : backOk 33620480 = true := (roundtrip awake_one).2.2.1
theorem awake_args : backArgs 33620480 = #[.int .i64 2, .int .i64 1, .int .i64 2, .int .i64 0, .int .i64 0] := (roundtrip awake_one).2.2.2

set_option maxHeartbeats 4000000 in
set_option maxRecDepth 100000 in
theorem awake_calls (w : World) : Calls Try.prog 14 #[] w fun e w' => e = .returned (.bool true) ∧ Below w.heap.size w w' := by
  go_enter Try.func14, Try.ntmps14
  go_wp2_with fail
  refine (one_calls 2 1 2 0 0 _ (by omega) (by omega) (by omega) (by omega) (by omega) (by omega)).mono ?_
  rintro e w1 ⟨rfl, hb1⟩
  rw [awake_one]
  have H1 := Lib.hid hb1
  clear hb1
  go_wp2_with fail
  refine (back_calls 33620480 _ (by omega) (by omega)).mono ?_
  rintro e w2 ⟨rfl, hb2⟩
  rw [awake_back, awake_args, if_pos rfl]
  have H2 := Lib.hid hb2
  clear hb2
  go_wp2
  go_ret
  refine ⟨rfl, ?_⟩
  exact below_more (H1.out.trans (H2.out.mono H1.out.size)) (Nat.le_refl _) _

end Go.Proofs.Yteaaahcgkodcdaa.Ea
