/- Words for the reference's Back. -/
import Derived.Test.YteaaahcgkodcdaaGf
namespace Go.Proofs.Yteaaahcgkodcdaa.Ea
open Go.RowKit
set_option linter.unusedSimpArgs false
set_option linter.unusedVariables false

theorem mask32 (x : Int) (j : Nat) (hj : j ≤ 31) (h0 : 0 ≤ x) (h1 : x < 4294967296) : bits .and .u32 x (2 ^ j - 1) = x % 2 ^ j :=
  bits_mask .u32 32 (by decide) (fun n a b => by rw [IntKind.wrap_u32]; omega) j (by omega) x h0 (by omega)

theorem backPost_yes' {v m : Int} {w w' : World} {a b c d : Int} {n : Nat} (hm : v / 16777216 = m) (hn : many (v / 16777216) = n) (ha : a = ext v (v / 16777216) n 0) (hb : b = ext v (v / 16777216) n 1) (hc : c = ext v (v / 16777216) n 2) (hd : d = ext v (v / 16777216) n 3)
    (h : oneF m a b c d = (v, true)) (hw : Below w.heap.size w w') :
    BackPost v w (.returned (.tuple #[.agg #[.int .i64 m, .int .i64 a, .int .i64 b, .int .i64 c, .int .i64 d], .bool true])) w' := by
  subst hm; exact backPost_yes hn ha hb hc hd h hw

theorem backPost_no' {v m : Int} {w w' : World} {a b c d x : Int} {t : Bool} {n : Nat} (hm : v / 16777216 = m) (hn : many (v / 16777216) = n) (ha : a = ext v (v / 16777216) n 0) (hb : b = ext v (v / 16777216) n 1) (hc : c = ext v (v / 16777216) n 2) (hd : d = ext v (v / 16777216) n 3)
    (h : oneF m a b c d = (x, t)) (hno : t = false ∨ x ≠ v) (hw : Below w.heap.size w w') :
    BackPost v w (.returned (.tuple #[.agg #[.int .i64 0, .int .i64 0, .int .i64 0, .int .i64 0, .int .i64 0], .bool false])) w' := by
  subst hm; exact backPost_no hn ha hb hc hd h hno hw

theorem one_H_third {op a b c d x : Int} (h : 47 ≤ op ∧ op ≤ 52) (hx : oneF op a b c d = (x, true)) : c = 0 ∧ d = 0 ∧ oneF op a b 0 0 = (x, true) := by
  have h0 := hx
  rw [one_H h] at h0
  split at h0
  · rename_i hc
    simp only [Bool.and_eq_true, beq_iff_eq] at hc
    obtain ⟨⟨⟨rfl, rfl⟩, _⟩, _⟩ := hc
    exact ⟨rfl, rfl, hx⟩
  · simp at h0

theorem small_none {v : Int} (n1 : v / 16777216 ≠ 1) (n2 : v / 16777216 ≠ 2) (n4 : v / 16777216 ≠ 4) (n5 : v / 16777216 ≠ 5) (n6 : v / 16777216 ≠ 6) (n7 : v / 16777216 ≠ 7) (n8 : v / 16777216 ≠ 8) (n9 : v / 16777216 ≠ 9)
    (n10 : v / 16777216 ≠ 10) (n11 : v / 16777216 ≠ 11) (n12 : v / 16777216 ≠ 12) (n13 : v / 16777216 ≠ 13) (n14 : v / 16777216 ≠ 14) (n15 : v / 16777216 ≠ 15) (n16 : v / 16777216 ≠ 16) (n17 : v / 16777216 ≠ 17) (h0 : 0 ≤ v) (h1 : v < 4294967296) :
    ∀ (w w' : World) (xt : Int × Bool), oneF (v / 16777216) (v / 65536 % 256) (v / 256 % 256) (v % 256) 0 = xt →
      (xt.2 = true → xt.1 = v → Below w.heap.size w w' → BackPost v w (.returned (.tuple #[.agg #[.int .i64 (v / 16777216), .int .i64 (v / 65536 % 256), .int .i64 (v / 256 % 256), .int .i64 (v % 256), .int .i64 0], .bool true])) w')
      ∧ ((xt.2 = false ∨ xt.1 ≠ v) → Below w.heap.size w w' → BackPost v w (.returned (.tuple #[.agg #[.int .i64 0, .int .i64 0, .int .i64 0, .int .i64 0, .int .i64 0], .bool false])) w') := by
  rintro w w' ⟨x, t⟩ hx
  by_cases hneg : many (v / 16777216) < 0
  · rw [oneF_neg hneg] at hx
    obtain ⟨rfl, rfl⟩ := Prod.mk.inj hx
    exact ⟨fun h => (Bool.false_ne_true h).elim, fun _ hb => backPost_neg hneg hb⟩
  · obtain ⟨n, hn⟩ := Int.eq_ofNat_of_zero_le (Int.not_lt.mp hneg)
    rcases op_class _ n hn with h | ⟨h1, h2, h3⟩ | ⟨h1, h2, h3⟩
    · exfalso; omega
    · subst h3
      have eA := fAtG h1
      have eB := fBitsG h1
      have E0 : v / 65536 % 256 = ext v (v / 16777216) 3 0 := by unfold ext; simp [eA, eB]
      have E1 : v / 256 % 256 = ext v (v / 16777216) 3 1 := by unfold ext; simp [eA, eB]
      have E2 : v % 256 = ext v (v / 16777216) 3 2 := by unfold ext; simp [eA, eB]
      have E3 : 0 = ext v (v / 16777216) 3 3 := by unfold ext; simp
      exact ⟨fun ht hxv hb => backPost_yes hn E0 E1 E2 E3 (by rw [hx]; exact Prod.ext hxv ht) hb, fun hno hb => backPost_no hn E0 E1 E2 E3 hx hno hb⟩
    · subst h3
      have eA := fAtG (op := v / 16777216) (by omega)
      have eB := fBitsG (op := v / 16777216) (by omega)
      have E0 : v / 65536 % 256 = ext v (v / 16777216) 2 0 := by unfold ext; simp [eA, eB]
      have E1 : v / 256 % 256 = ext v (v / 16777216) 2 1 := by unfold ext; simp [eA, eB]
      have E2 : 0 = ext v (v / 16777216) 2 2 := by unfold ext; simp
      have E3 : 0 = ext v (v / 16777216) 2 3 := by unfold ext; simp
      constructor
      · intro ht hxv hb
        have ht : t = true := ht
        have hxv : x = v := hxv
        subst ht; subst hxv
        obtain ⟨c0, _, h20⟩ := one_H_third ⟨h1, h2⟩ hx
        rw [c0]
        exact backPost_yes hn E0 E1 E2 E3 h20 hb
      · intro hno hb
        by_cases c0 : v % 256 = 0
        · rw [c0] at hx
          exact backPost_no hn E0 E1 E2 E3 hx hno hb
        · -- the program's own word has nought there
          obtain ⟨yu, hy⟩ : ∃ yu, oneF (v / 16777216) (v / 65536 % 256) (v / 256 % 256) 0 0 = yu := ⟨_, rfl⟩
          obtain ⟨y, u⟩ := yu
          refine backPost_no hn E0 E1 E2 E3 hy ?_ hb
          have hz := hy
          rw [one_H ⟨h1, h2⟩] at hz
          split at hz
          · right
            have := (Prod.mk.inj hz).1
            omega
          · left
            exact (Prod.mk.inj hz).2.symm

end Go.Proofs.Yteaaahcgkodcdaa.Ea
