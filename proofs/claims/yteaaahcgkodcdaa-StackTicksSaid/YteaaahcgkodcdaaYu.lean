/- StackTicks: whatever the input. -/
import Derived.Test.YteaaahcgkodcdaaYt0
import Derived.Test.YteaaahcgkodcdaaYt1
import Derived.Test.YteaaahcgkodcdaaYt2
import Derived.Test.YteaaahcgkodcdaaYt3
import Derived.Test.YteaaahcgkodcdaaYt4
import Derived.Test.YteaaahcgkodcdaaYt5
import Derived.Test.YteaaahcgkodcdaaYt6
import Derived.Test.YteaaahcgkodcdaaYt7
namespace Go.Proofs.Yteaaahcgkodcdaa.Ew
open Go Go.RowKit
set_option linter.unusedSimpArgs false

theorem ticks_0 (b : Nat) (hb : b ≤ 1) (c : Nat) (hc : c < 3) : okT 0 b c = true := by
  exact okRange_spec ticks_0_0 b (by omega) (by omega) c hc
theorem ticks_1 (b : Nat) (hb : b ≤ 2) (c : Nat) (hc : c < 3) : okT 1 b c = true := by
  exact okRange_spec ticks_1_0 b (by omega) (by omega) c hc
theorem ticks_2 (b : Nat) (hb : b ≤ 3) (c : Nat) (hc : c < 3) : okT 2 b c = true := by
  exact okRange_spec ticks_2_0 b (by omega) (by omega) c hc
theorem ticks_3 (b : Nat) (hb : b ≤ 4) (c : Nat) (hc : c < 3) : okT 3 b c = true := by
  exact okRange_spec ticks_3_0 b (by omega) (by omega) c hc
theorem ticks_4 (b : Nat) (hb : b ≤ 5) (c : Nat) (hc : c < 3) : okT 4 b c = true := by
  exact okRange_spec ticks_4_0 b (by omega) (by omega) c hc
theorem ticks_5 (b : Nat) (hb : b ≤ 6) (c : Nat) (hc : c < 3) : okT 5 b c = true := by
  by_cases h0 : b < 4
  · exact okRange_spec ticks_5_0 b (by omega) (by omega) c hc
  exact okRange_spec ticks_5_4 b (by omega) (by omega) c hc
theorem ticks_6 (b : Nat) (hb : b ≤ 7) (c : Nat) (hc : c < 3) : okT 6 b c = true := by
  by_cases h0 : b < 4
  · exact okRange_spec ticks_6_0 b (by omega) (by omega) c hc
  exact okRange_spec ticks_6_4 b (by omega) (by omega) c hc
theorem ticks_7 (b : Nat) (hb : b ≤ 8) (c : Nat) (hc : c < 3) : okT 7 b c = true := by
  by_cases h0 : b < 4
  · exact okRange_spec ticks_7_0 b (by omega) (by omega) c hc
  by_cases h4 : b < 8
  · exact okRange_spec ticks_7_4 b (by omega) (by omega) c hc
  exact okRange_spec ticks_7_8 b (by omega) (by omega) c hc
theorem ticks_8 (b : Nat) (hb : b ≤ 9) (c : Nat) (hc : c < 3) : okT 8 b c = true := by
  by_cases h0 : b < 4
  · exact okRange_spec ticks_8_0 b (by omega) (by omega) c hc
  by_cases h4 : b < 8
  · exact okRange_spec ticks_8_4 b (by omega) (by omega) c hc
  exact okRange_spec ticks_8_8 b (by omega) (by omega) c hc
theorem ticks_9 (b : Nat) (hb : b ≤ 10) (c : Nat) (hc : c < 3) : okT 9 b c = true := by
  by_cases h0 : b < 3
  · exact okRange_spec ticks_9_0 b (by omega) (by omega) c hc
  by_cases h3 : b < 6
  · exact okRange_spec ticks_9_3 b (by omega) (by omega) c hc
  by_cases h6 : b < 9
  · exact okRange_spec ticks_9_6 b (by omega) (by omega) c hc
  exact okRange_spec ticks_9_9 b (by omega) (by omega) c hc
theorem ticks_10 (b : Nat) (hb : b ≤ 11) (c : Nat) (hc : c < 3) : okT 10 b c = true := by
  by_cases h0 : b < 3
  · exact okRange_spec ticks_10_0 b (by omega) (by omega) c hc
  by_cases h3 : b < 6
  · exact okRange_spec ticks_10_3 b (by omega) (by omega) c hc
  by_cases h6 : b < 9
  · exact okRange_spec ticks_10_6 b (by omega) (by omega) c hc
  exact okRange_spec ticks_10_9 b (by omega) (by omega) c hc
theorem ticks_11 (b : Nat) (hb : b ≤ 12) (c : Nat) (hc : c < 3) : okT 11 b c = true := by
  by_cases h0 : b < 3
  · exact okRange_spec ticks_11_0 b (by omega) (by omega) c hc
  by_cases h3 : b < 6
  · exact okRange_spec ticks_11_3 b (by omega) (by omega) c hc
  by_cases h6 : b < 9
  · exact okRange_spec ticks_11_6 b (by omega) (by omega) c hc
  by_cases h9 : b < 12
  · exact okRange_spec ticks_11_9 b (by omega) (by omega) c hc
  exact okRange_spec ticks_11_12 b (by omega) (by omega) c hc
theorem ticks_12 (b : Nat) (hb : b ≤ 13) (c : Nat) (hc : c < 3) : okT 12 b c = true := by
  by_cases h0 : b < 3
  · exact okRange_spec ticks_12_0 b (by omega) (by omega) c hc
  by_cases h3 : b < 6
  · exact okRange_spec ticks_12_3 b (by omega) (by omega) c hc
  by_cases h6 : b < 9
  · exact okRange_spec ticks_12_6 b (by omega) (by omega) c hc
  by_cases h9 : b < 12
  · exact okRange_spec ticks_12_9 b (by omega) (by omega) c hc
  exact okRange_spec ticks_12_12 b (by omega) (by omega) c hc
theorem ticks_13 (b : Nat) (hb : b ≤ 14) (c : Nat) (hc : c < 3) : okT 13 b c = true := by
  by_cases h0 : b < 3
  · exact okRange_spec ticks_13_0 b (by omega) (by omega) c hc
  by_cases h3 : b < 6
  · exact okRange_spec ticks_13_3 b (by omega) (by omega) c hc
  by_cases h6 : b < 9
  · exact okRange_spec ticks_13_6 b (by omega) (by omega) c hc
  by_cases h9 : b < 12
  · exact okRange_spec ticks_13_9 b (by omega) (by omega) c hc
  exact okRange_spec ticks_13_12 b (by omega) (by omega) c hc
theorem ticks_14 (b : Nat) (hb : b ≤ 15) (c : Nat) (hc : c < 3) : okT 14 b c = true := by
  by_cases h0 : b < 3
  · exact okRange_spec ticks_14_0 b (by omega) (by omega) c hc
  by_cases h3 : b < 6
  · exact okRange_spec ticks_14_3 b (by omega) (by omega) c hc
  by_cases h6 : b < 9
  · exact okRange_spec ticks_14_6 b (by omega) (by omega) c hc
  by_cases h9 : b < 12
  · exact okRange_spec ticks_14_9 b (by omega) (by omega) c hc
  by_cases h12 : b < 15
  · exact okRange_spec ticks_14_12 b (by omega) (by omega) c hc
  exact okRange_spec ticks_14_15 b (by omega) (by omega) c hc
theorem ticks_15 (b : Nat) (hb : b ≤ 16) (c : Nat) (hc : c < 3) : okT 15 b c = true := by
  by_cases h0 : b < 3
  · exact okRange_spec ticks_15_0 b (by omega) (by omega) c hc
  by_cases h3 : b < 6
  · exact okRange_spec ticks_15_3 b (by omega) (by omega) c hc
  by_cases h6 : b < 9
  · exact okRange_spec ticks_15_6 b (by omega) (by omega) c hc
  by_cases h9 : b < 12
  · exact okRange_spec ticks_15_9 b (by omega) (by omega) c hc
  by_cases h12 : b < 15
  · exact okRange_spec ticks_15_12 b (by omega) (by omega) c hc
  exact okRange_spec ticks_15_15 b (by omega) (by omega) c hc
theorem ticks_all : ∀ a, a < 16 → ∀ b, b ≤ a + 1 → ∀ c, c < 3 → okT a b c = true
  | 0, _, b, hb, c, hc => ticks_0 b hb c hc
  | 1, _, b, hb, c, hc => ticks_1 b hb c hc
  | 2, _, b, hb, c, hc => ticks_2 b hb c hc
  | 3, _, b, hb, c, hc => ticks_3 b hb c hc
  | 4, _, b, hb, c, hc => ticks_4 b hb c hc
  | 5, _, b, hb, c, hc => ticks_5 b hb c hc
  | 6, _, b, hb, c, hc => ticks_6 b hb c hc
  | 7, _, b, hb, c, hc => ticks_7 b hb c hc
  | 8, _, b, hb, c, hc => ticks_8 b hb c hc
  | 9, _, b, hb, c, hc => ticks_9 b hb c hc
  | 10, _, b, hb, c, hc => ticks_10 b hb c hc
  | 11, _, b, hb, c, hc => ticks_11 b hb c hc
  | 12, _, b, hb, c, hc => ticks_12 b hb c hc
  | 13, _, b, hb, c, hc => ticks_13 b hb c hc
  | 14, _, b, hb, c, hc => ticks_14 b hb c hc
  | 15, _, b, hb, c, hc => ticks_15 b hb c hc
  | a + 16, h, _, _, _, _ => by omega

theorem ticks_calls (n a c : Int) (w : World) : Calls Try.prog 8 #[.int .i64 n, .int .i64 a, .int .i64 c] w fun e w' => e = .returned (.bool true) ∧ Below w.heap.size w w' := by
  have hn := masked_le n 15 (by decide)
  have ha := masked_le a 31 (by decide)
  have hc := masked_le c 3 (by decide)
  have run : ∀ b k, b ≤ masked n 15 + 1 → k < 3 → rho n a c (atS (masked n 15) b % 8) (atS (masked n 15) b / 8) = a → rho n a c (callS k % 8) (callS k / 8) = c →
      Calls Try.prog 8 #[.int .i64 n, .int .i64 a, .int .i64 c] w fun e w' => e = .returned (.bool true) ∧ Below w.heap.size w w' := by
    intro b k hb hk h1 h2
    refine runs_true (ρ := symsT n a c) mix (plainly_of plain_names) (ocT_ok n a c) lex (kn_ok _) 200 8 _ [.int .i64 n, .int .i64 a, .int .i64 c] ?_ (ticks_all (masked n 15) (by omega) b hb k hk) w
    have e0 : rho n a c (8 * masked n 15 % 8) (8 * masked n 15 / 8) = n := by
      have e1 : 8 * masked n 15 % 8 = 0 := by omega
      have e2 : 8 * masked n 15 / 8 = masked n 15 := by omega
      rw [e1, e2]
      simp [rho]
    refine dens_cons_mk ?_ (dens_cons_mk ?_ (dens_one ?_))
    · show some (Value.int .i64 (rho n a c (8 * masked n 15 % 8) (8 * masked n 15 / 8))) = _
      rw [e0]
    · show some (Value.int .i64 (rho n a c (atS (masked n 15) b % 8) (atS (masked n 15) b / 8))) = _
      rw [h1]
    · show some (Value.int .i64 (rho n a c (callS k % 8) (callS k / 8))) = _
      rw [h2]
  have hat : ∃ b, b ≤ masked n 15 + 1 ∧ rho n a c (atS (masked n 15) b % 8) (atS (masked n 15) b / 8) = a := by
    by_cases h : masked a 31 ≤ masked n 15
    · refine ⟨masked a 31, by omega, ?_⟩
      have e : atS (masked n 15) (masked a 31) = 8 * masked a 31 + 1 := by
        unfold atS
        rw [te_eq, if_pos (Nat.ble_eq_true_of_le h)]
        rfl
      have e1 : (8 * masked a 31 + 1) % 8 = 1 := by omega
      have e2 : (8 * masked a 31 + 1) / 8 = masked a 31 := by omega
      rw [e, e1, e2]
      simp [rho]
    · refine ⟨masked n 15 + 1, by omega, ?_⟩
      have e : atS (masked n 15) (masked n 15 + 1) = 8 * (masked n 15 + 1) + 3 := by
        unfold atS
        rw [te_eq, if_neg (fun hh => by have := Nat.le_of_ble_eq_true hh; omega)]
        rfl
      have e1 : (8 * (masked n 15 + 1) + 3) % 8 = 3 := by omega
      have e2 : (8 * (masked n 15 + 1) + 3) / 8 = masked n 15 + 1 := by omega
      rw [e, e1, e2]
      simp [rho]
      intro hh
      omega
  have hca : ∃ k, k < 3 ∧ rho n a c (callS k % 8) (callS k / 8) = c := by
    by_cases h : masked c 3 = 1 ∨ masked c 3 = 2
    · rcases h with h | h
      · refine ⟨1, by omega, ?_⟩
        show rho n a c 2 1 = c
        simp [rho, h]
      · refine ⟨2, by omega, ?_⟩
        show rho n a c 2 2 = c
        simp [rho, h]
    · refine ⟨0, by omega, ?_⟩
      show rho n a c 5 0 = c
      simp [rho, h]
  obtain ⟨b, hb, h1⟩ := hat
  obtain ⟨k, hk, h2⟩ := hca
  exact run b k hb hk h1 h2

end Go.Proofs.Yteaaahcgkodcdaa.Ew
