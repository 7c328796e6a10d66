/- InlineChains: the law walked. -/
import Derived.Test.YtplnnlnkcfappaaGreatKg
import Derived.Test.YtplnnlnkcfappaaGreatKw
namespace Go.Proofs.YtplnnlnkcfappaaGreat.Sv
open Go.RowKit E3
set_option linter.unusedSimpArgs false
set_option linter.unusedVariables false

set_option maxRecDepth 100000 in
set_option maxHeartbeats 4000000 in
theorem chains_calls (hst : Staged) (w : World) (A B : Int) : Calls Tryz.prog 4 #[.int .i64 A, .int .i64 B] w fun e w' => e = .returned (.bool true) ∧ Below w.heap.size w w' := by
  obtain ⟨m, hm, em⟩ := red_nat' A 10 (by decide) (by decide)
  obtain ⟨D, hD, eD⟩ := and_nat B 4 (by decide) 15 rfl
  have em' : (bits BinOp.and IntKind.i64 A 65535).tmod 10 = (m : Int) := em
  have eD' : bits BinOp.and IntKind.i64 B 15 = (D : Int) := eD
  have hD' : D < 16 := hD
  clear em eD
  have hwm : IntKind.i64.wrap ((m : Int) + 1) = (m : Int) + 1 := by
    rw [IntKind.wrap_i64]
    omega
  go_enter Tryz.func4, Tryz.ntmps4
  go_wp2_with fail
  go_loopw [5, 6] (fun s i wr => ∃ k : Nat, k ≤ m + 1 ∧ i = .int .i64 k ∧ s = .string (T (m + 1) k) ∧ Below w.heap.size w wr) (fun _ i _ => m + 1 - (match i with | .int _ n => n.toNat | _ => 0))
  case atStart => exact ⟨0, by omega, rfl, rfl, Below.refl _ _⟩
  case round =>
    obtain ⟨k, hk, rfl, rfl, hb⟩ := hrel
    have HB := Lib.hid hb
    clear hb
    by_cases hlt : k < m + 1
    · have hwk : IntKind.i64.wrap ((k : Int) + 1) = (k : Int) + 1 := by
        rw [IntKind.wrap_i64]
        omega
      have c0 : (k : Int) < (m : Int) + 1 := by omega
      have ka := fun (w : World) => conv_nm w (97 + k) (97 + (k : Int)) (by omega) _ rfl
      have kb := conv_nm (wr.alloc (.cells #[.int .u8 (97 + (k : Int))] 5)) (98 + k) (98 + (k : Int)) (by omega) (wr.heap.size + 1) (by simp)
      have hT := T_size (m + 1) k
      have n1 : (nm (97 + k)).size = 1 := rfl
      have n2 : (nm (98 + k)).size = 1 := rfl
      have z1 : ¬ 9223372036854775807 < (T (m + 1) k).size + 3 := by omega
      have z2 : ¬ 9223372036854775807 < (T (m + 1) k).size + 3 + 1 := by omega
      have z3 : ¬ 9223372036854775807 < (T (m + 1) k).size + 3 + 1 + 16 := by omega
      have z4 : ¬ 9223372036854775807 < (T (m + 1) k).size + 3 + 1 + 16 + 1 := by omega
      have z5 : ¬ 9223372036854775807 < (T (m + 1) k).size + 3 + 1 + 16 + 1 + 15 := by omega
      have z6 : ¬ 9223372036854775807 < (T (m + 1) k).size + 3 + 1 + 22 := by omega
      have ht : T (m + 1) (k + 1) = if k + 1 < m + 1 then T (m + 1) k ++ bA ++ nm (97 + k) ++ bB ++ nm (98 + k) ++ bC else T (m + 1) k ++ bA ++ nm (97 + k) ++ bD := rfl
      go_wp2_with fail
      all_goals
        clear z1 z2 z3 z4 z5 z6 n1 n2 ka kb
        refine ⟨⟨k + 1, by omega, by go_num, ?_, ?_⟩, by simp; omega⟩
      · rename_i hkm
        rw [ht, if_pos (by omega)]
        rfl
      · have hb := HB.out
        have h1 := hb.alloc hb.size (.cells #[.int .u8 (97 + (k : Int))] 5)
        exact h1.alloc h1.size _
      · rename_i hkm
        rw [ht, if_neg (by omega)]
        rfl
      · have hb := HB.out
        have h1 := hb.alloc hb.size (.cells #[.int .u8 (97 + (k : Int))] 5)
        exact h1.alloc h1.size _
    · obtain rfl : k = m + 1 := by omega
      have c0 : ¬ (((m + 1 : Nat) : Int)) < (m : Int) + 1 := by omega
      go_wp2_with fail
      refine (hst m D wr hm hD').mono ?_
      rintro e w1 ⟨a, len, cap, rfl, hb1, hopen⟩
      have HB1 := Lib.hid (And.intro hb1 hopen)
      clear hb1 hopen
      go_wp2_with fail
      refine (HB1.out.2 _ ((Below.refl _ _).alloc (Nat.le_refl _) _)).mono ?_
      rintro e w2 ⟨g, o, cap2, f0, rfl, hb2, hf0, hcell, h17, h16⟩
      obtain ⟨x0, x1, x2, x3, rfl⟩ := four hf0
      have d0 : w2.cell? ⟨g, o, none⟩ = some x0 := hcell 0 x0 rfl
      have d1 := hcell 1 x1 rfl
      have d2 := hcell 2 x2 rfl
      have d3 := hcell 3 x3 rfl
      have hwm2 : IntKind.i64.wrap (5 + ((m : Int) + 1)) = 5 + ((m : Int) + 1) := by
        rw [IntKind.wrap_i64]
        omega
      have hwm3 : IntKind.i64.wrap (5 + ((m : Int) + 1) - 1) = 5 + ((m : Int) + 1) - 1 := by
        rw [IntKind.wrap_i64]
        omega
      rcases Nat.lt_or_ge 8 D with k8 | k8
      · have c8 : (8 : Int) < (D : Int) := by omega
        by_cases hw : m + 1 ≤ 8
        · have c9 : (m : Int) + 1 ≤ 8 := by omega
          have hmd : m + 1 ≤ min D 8 := by omega
          have HB2 := Lib.hid (And.intro hb2 (And.intro (by rw [if_pos hmd] at h17; exact h17) h16))
          clear hb2 h17 h16 hcell hf0
          go_wp2_with fail
          refine (HB2.out.2.2 _ ((Below.refl _ _).alloc (Nat.le_refl _) _)).mono ?_
          rintro e w3 ⟨⟨a3, cap3, rfl⟩, hb3⟩
          have hbc : Below w2.heap.size w2 w3 := ((Below.refl _ _).alloc (Nat.le_refl _) _).trans (hb3.mono (by simp))
          have e0 := (hbc.cell (World.block_lt_of_cell? w2 _ d0)).trans d0
          have e1 := (hbc.cell (World.block_lt_of_cell? w2 _ d1)).trans d1
          have e2 := (hbc.cell (World.block_lt_of_cell? w2 _ d2)).trans d2
          have e3 := (hbc.cell (World.block_lt_of_cell? w2 _ d3)).trans d3
          have q0 : w3.cell? ⟨w2.heap.size, 0, none⟩ = some (.slice (some ⟨g, o, none⟩) (m + 1 + 1) cap2) := (hb3.cell (p := ⟨w2.heap.size, 0, none⟩) (by simp)).trans (by simp [go_sem])
          have hbT : Below w3.heap.size w3 (w3.alloc (.cells #[.slice (some a3) (m + 1) cap3, .int .i64 1, .int .i64 (4 + ((m : Int) + 1)), .complex .f64 0 0, .string ⟨#[]⟩, .slice none 0 0, .int .i64 0] 57)) := (Below.refl _ _).alloc (Nat.le_refl _) _
          have q1 := (hbT.cell (World.block_lt_of_cell? w3 _ q0)).trans q0
          have f0 := (hbT.cell (World.block_lt_of_cell? w3 _ e0)).trans e0
          have f1 := (hbT.cell (World.block_lt_of_cell? w3 _ e1)).trans e1
          have f2 := (hbT.cell (World.block_lt_of_cell? w3 _ e2)).trans e2
          have f3 := (hbT.cell (World.block_lt_of_cell? w3 _ e3)).trans e3
          have HB3 := Lib.hid (And.intro hbc hbT)
          clear hb3 hbc hbT d0 d1 d2 d3 e0 e1 e2 e3 q0
          go_wp2_with fail
          refine (HB2.out.2.1 _ (HB3.out.1.trans (HB3.out.2.mono HB3.out.1.size))).mono ?_
          rintro e w4 ⟨rfl, hb4⟩
          have r0 : w4.cell? ⟨w3.heap.size, 0, none⟩ = some (.slice (some a3) (m + 1) cap3) := (hb4.cell (p := ⟨w3.heap.size, 0, none⟩) (by simp)).trans (by simp [go_sem])
          have r2 : w4.cell? ⟨w3.heap.size, 2, none⟩ = some (.int .i64 (4 + ((m : Int) + 1))) := (hb4.cell (p := ⟨w3.heap.size, 2, none⟩) (by simp)).trans (by simp [go_sem])
          have HB4 := Lib.hid hb4
          clear hb4 q1 f0 f1 f2 f3
          go_wp2_with fail
          refine (awake18_calls _).mono ?_
          rintro e w5 ⟨rfl, hb5⟩
          have HB5 := Lib.hid hb5
          clear hb5
          go_wp2
          go_ret
          refine ⟨rfl, ?_⟩
          have b0 := HB.out
          have b1 := b0.trans (HB1.out.1.mono b0.size)
          have b2 := b1.alloc b1.size (.cells #[.slice (some a) len cap, .int .i64 0] 30)
          have b3 := b2.trans (HB2.out.1.mono b2.size)
          have b4 := b3.trans (HB3.out.1.mono b3.size)
          have b5 := b4.trans (HB3.out.2.mono b4.size)
          have b6 := b5.trans (HB4.out.mono b5.size)
          exact b6.trans (HB5.out.mono b6.size)
        · have c9 : ¬ (m : Int) + 1 ≤ 8 := by omega
          have hmd : ¬ m + 1 ≤ min D 8 := by omega
          have HB2 := Lib.hid (And.intro hb2 (And.intro (by rw [if_neg hmd] at h17; exact h17) h16))
          clear hb2 h17 h16 hcell hf0
          go_wp2_with fail
          refine (HB2.out.2.2 _ ((Below.refl _ _).alloc (Nat.le_refl _) _)).mono ?_
          rintro e w3 ⟨⟨a3, cap3, rfl⟩, hb3⟩
          have hbc : Below w2.heap.size w2 w3 := ((Below.refl _ _).alloc (Nat.le_refl _) _).trans (hb3.mono (by simp))
          have e0 := (hbc.cell (World.block_lt_of_cell? w2 _ d0)).trans d0
          have e1 := (hbc.cell (World.block_lt_of_cell? w2 _ d1)).trans d1
          have e2 := (hbc.cell (World.block_lt_of_cell? w2 _ d2)).trans d2
          have e3 := (hbc.cell (World.block_lt_of_cell? w2 _ d3)).trans d3
          have q0 : w3.cell? ⟨w2.heap.size, 0, none⟩ = some (.slice (some ⟨g, o, none⟩) (m + 1 + 1) cap2) := (hb3.cell (p := ⟨w2.heap.size, 0, none⟩) (by simp)).trans (by simp [go_sem])
          have hbT : Below w3.heap.size w3 (w3.alloc (.cells #[.slice (some a3) (m + 1) cap3, .int .i64 1, .int .i64 (4 + ((m : Int) + 1)), .complex .f64 0 0, .string ⟨#[]⟩, .slice none 0 0, .int .i64 0] 57)) := (Below.refl _ _).alloc (Nat.le_refl _) _
          have q1 := (hbT.cell (World.block_lt_of_cell? w3 _ q0)).trans q0
          have f0 := (hbT.cell (World.block_lt_of_cell? w3 _ e0)).trans e0
          have f1 := (hbT.cell (World.block_lt_of_cell? w3 _ e1)).trans e1
          have f2 := (hbT.cell (World.block_lt_of_cell? w3 _ e2)).trans e2
          have f3 := (hbT.cell (World.block_lt_of_cell? w3 _ e3)).trans e3
          have HB3 := Lib.hid (And.intro hbc hbT)
          clear hb3 hbc hbT d0 d1 d2 d3 e0 e1 e2 e3 q0
          go_wp2_with fail
          refine (HB2.out.2.1 _ (HB3.out.1.trans (HB3.out.2.mono HB3.out.1.size))).mono ?_
          rintro e w4 ⟨rfl, hb4⟩
          have r0 : w4.cell? ⟨w3.heap.size, 0, none⟩ = some (.slice (some a3) (m + 1) cap3) := (hb4.cell (p := ⟨w3.heap.size, 0, none⟩) (by simp)).trans (by simp [go_sem])
          have r2 : w4.cell? ⟨w3.heap.size, 2, none⟩ = some (.int .i64 (4 + ((m : Int) + 1))) := (hb4.cell (p := ⟨w3.heap.size, 2, none⟩) (by simp)).trans (by simp [go_sem])
          have HB4 := Lib.hid hb4
          clear hb4 q1 f0 f1 f2 f3
          go_wp2_with fail
          refine (awake18_calls _).mono ?_
          rintro e w5 ⟨rfl, hb5⟩
          have HB5 := Lib.hid hb5
          clear hb5
          go_wp2
          go_ret
          refine ⟨rfl, ?_⟩
          have b0 := HB.out
          have b1 := b0.trans (HB1.out.1.mono b0.size)
          have b2 := b1.alloc b1.size (.cells #[.slice (some a) len cap, .int .i64 0] 30)
          have b3 := b2.trans (HB2.out.1.mono b2.size)
          have b4 := b3.trans (HB3.out.1.mono b3.size)
          have b5 := b4.trans (HB3.out.2.mono b4.size)
          have b6 := b5.trans (HB4.out.mono b5.size)
          exact b6.trans (HB5.out.mono b6.size)
      · have c8 : ¬ (8 : Int) < (D : Int) := by omega
        by_cases hw : m + 1 ≤ D
        · have c9 : (m : Int) + 1 ≤ (D : Int) := by omega
          have hmd : m + 1 ≤ min D 8 := by omega
          have HB2 := Lib.hid (And.intro hb2 (And.intro (by rw [if_pos hmd] at h17; exact h17) h16))
          clear hb2 h17 h16 hcell hf0
          go_wp2_with fail
          refine (HB2.out.2.2 _ ((Below.refl _ _).alloc (Nat.le_refl _) _)).mono ?_
          rintro e w3 ⟨⟨a3, cap3, rfl⟩, hb3⟩
          have hbc : Below w2.heap.size w2 w3 := ((Below.refl _ _).alloc (Nat.le_refl _) _).trans (hb3.mono (by simp))
          have e0 := (hbc.cell (World.block_lt_of_cell? w2 _ d0)).trans d0
          have e1 := (hbc.cell (World.block_lt_of_cell? w2 _ d1)).trans d1
          have e2 := (hbc.cell (World.block_lt_of_cell? w2 _ d2)).trans d2
          have e3 := (hbc.cell (World.block_lt_of_cell? w2 _ d3)).trans d3
          have q0 : w3.cell? ⟨w2.heap.size, 0, none⟩ = some (.slice (some ⟨g, o, none⟩) (m + 1 + 1) cap2) := (hb3.cell (p := ⟨w2.heap.size, 0, none⟩) (by simp)).trans (by simp [go_sem])
          have hbT : Below w3.heap.size w3 (w3.alloc (.cells #[.slice (some a3) (m + 1) cap3, .int .i64 1, .int .i64 (4 + ((m : Int) + 1)), .complex .f64 0 0, .string ⟨#[]⟩, .slice none 0 0, .int .i64 0] 57)) := (Below.refl _ _).alloc (Nat.le_refl _) _
          have q1 := (hbT.cell (World.block_lt_of_cell? w3 _ q0)).trans q0
          have f0 := (hbT.cell (World.block_lt_of_cell? w3 _ e0)).trans e0
          have f1 := (hbT.cell (World.block_lt_of_cell? w3 _ e1)).trans e1
          have f2 := (hbT.cell (World.block_lt_of_cell? w3 _ e2)).trans e2
          have f3 := (hbT.cell (World.block_lt_of_cell? w3 _ e3)).trans e3
          have HB3 := Lib.hid (And.intro hbc hbT)
          clear hb3 hbc hbT d0 d1 d2 d3 e0 e1 e2 e3 q0
          go_wp2_with fail
          refine (HB2.out.2.1 _ (HB3.out.1.trans (HB3.out.2.mono HB3.out.1.size))).mono ?_
          rintro e w4 ⟨rfl, hb4⟩
          have r0 : w4.cell? ⟨w3.heap.size, 0, none⟩ = some (.slice (some a3) (m + 1) cap3) := (hb4.cell (p := ⟨w3.heap.size, 0, none⟩) (by simp)).trans (by simp [go_sem])
          have r2 : w4.cell? ⟨w3.heap.size, 2, none⟩ = some (.int .i64 (4 + ((m : Int) + 1))) := (hb4.cell (p := ⟨w3.heap.size, 2, none⟩) (by simp)).trans (by simp [go_sem])
          have HB4 := Lib.hid hb4
          clear hb4 q1 f0 f1 f2 f3
          go_wp2_with fail
          refine (awake18_calls _).mono ?_
          rintro e w5 ⟨rfl, hb5⟩
          have HB5 := Lib.hid hb5
          clear hb5
          go_wp2
          go_ret
          refine ⟨rfl, ?_⟩
          have b0 := HB.out
          have b1 := b0.trans (HB1.out.1.mono b0.size)
          have b2 := b1.alloc b1.size (.cells #[.slice (some a) len cap, .int .i64 0] 30)
          have b3 := b2.trans (HB2.out.1.mono b2.size)
          have b4 := b3.trans (HB3.out.1.mono b3.size)
          have b5 := b4.trans (HB3.out.2.mono b4.size)
          have b6 := b5.trans (HB4.out.mono b5.size)
          exact b6.trans (HB5.out.mono b6.size)
        · have c9 : ¬ (m : Int) + 1 ≤ (D : Int) := by omega
          have hmd : ¬ m + 1 ≤ min D 8 := by omega
          have HB2 := Lib.hid (And.intro hb2 (And.intro (by rw [if_neg hmd] at h17; exact h17) h16))
          clear hb2 h17 h16 hcell hf0
          go_wp2_with fail
          refine (HB2.out.2.2 _ ((Below.refl _ _).alloc (Nat.le_refl _) _)).mono ?_
          rintro e w3 ⟨⟨a3, cap3, rfl⟩, hb3⟩
          have hbc : Below w2.heap.size w2 w3 := ((Below.refl _ _).alloc (Nat.le_refl _) _).trans (hb3.mono (by simp))
          have e0 := (hbc.cell (World.block_lt_of_cell? w2 _ d0)).trans d0
          have e1 := (hbc.cell (World.block_lt_of_cell? w2 _ d1)).trans d1
          have e2 := (hbc.cell (World.block_lt_of_cell? w2 _ d2)).trans d2
          have e3 := (hbc.cell (World.block_lt_of_cell? w2 _ d3)).trans d3
          have q0 : w3.cell? ⟨w2.heap.size, 0, none⟩ = some (.slice (some ⟨g, o, none⟩) (m + 1 + 1) cap2) := (hb3.cell (p := ⟨w2.heap.size, 0, none⟩) (by simp)).trans (by simp [go_sem])
          have hbT : Below w3.heap.size w3 (w3.alloc (.cells #[.slice (some a3) (m + 1) cap3, .int .i64 1, .int .i64 (4 + ((m : Int) + 1)), .complex .f64 0 0, .string ⟨#[]⟩, .slice none 0 0, .int .i64 0] 57)) := (Below.refl _ _).alloc (Nat.le_refl _) _
          have q1 := (hbT.cell (World.block_lt_of_cell? w3 _ q0)).trans q0
          have f0 := (hbT.cell (World.block_lt_of_cell? w3 _ e0)).trans e0
          have f1 := (hbT.cell (World.block_lt_of_cell? w3 _ e1)).trans e1
          have f2 := (hbT.cell (World.block_lt_of_cell? w3 _ e2)).trans e2
          have f3 := (hbT.cell (World.block_lt_of_cell? w3 _ e3)).trans e3
          have HB3 := Lib.hid (And.intro hbc hbT)
          clear hb3 hbc hbT d0 d1 d2 d3 e0 e1 e2 e3 q0
          go_wp2_with fail
          refine (HB2.out.2.1 _ (HB3.out.1.trans (HB3.out.2.mono HB3.out.1.size))).mono ?_
          rintro e w4 ⟨rfl, hb4⟩
          have r0 : w4.cell? ⟨w3.heap.size, 0, none⟩ = some (.slice (some a3) (m + 1) cap3) := (hb4.cell (p := ⟨w3.heap.size, 0, none⟩) (by simp)).trans (by simp [go_sem])
          have r2 : w4.cell? ⟨w3.heap.size, 2, none⟩ = some (.int .i64 (4 + ((m : Int) + 1))) := (hb4.cell (p := ⟨w3.heap.size, 2, none⟩) (by simp)).trans (by simp [go_sem])
          have HB4 := Lib.hid hb4
          clear hb4 q1 f0 f1 f2 f3
          go_wp2_with fail
          refine (awake18_calls _).mono ?_
          rintro e w5 ⟨rfl, hb5⟩
          have HB5 := Lib.hid hb5
          clear hb5
          go_wp2
          go_ret
          refine ⟨rfl, ?_⟩
          have b0 := HB.out
          have b1 := b0.trans (HB1.out.1.mono b0.size)
          have b2 := b1.alloc b1.size (.cells #[.slice (some a) len cap, .int .i64 0] 30)
          have b3 := b2.trans (HB2.out.1.mono b2.size)
          have b4 := b3.trans (HB3.out.1.mono b3.size)
          have b5 := b4.trans (HB3.out.2.mono b4.size)
          have b6 := b5.trans (HB4.out.mono b5.size)
          exact b6.trans (HB5.out.mono b6.size)

end Go.Proofs.YtplnnlnkcfappaaGreat.Sv
