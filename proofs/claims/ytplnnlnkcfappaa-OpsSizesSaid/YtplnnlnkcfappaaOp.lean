/- OpsSizes: the law's walk. -/
import Derived.Test.YtplnnlnkcfappaaOo
namespace Go.Proofs.Ytplnnlnkcfappaa.Oa
open Go.RowKit
set_option linter.unusedSimpArgs false
set_option linter.unusedVariables false

set_option maxHeartbeats 4000000 in
theorem sizes_calls (w : World) (a b : Int) (list : Bool) : Calls Try.prog 4 #[.int .i64 a, .int .i64 b, .bool list] w fun e w' => e = .returned (.bool true) ∧ Below w.heap.size w w' := by
  obtain ⟨A, hA, eA⟩ := red_nat a
  obtain ⟨B, hB, eB⟩ := red_nat b
  go_enter Try.func4, Try.ntmps4
  go_wp2_with fail
  refine gen_act fun A0 hA0 => ?_
  have hsz : A0.tmps.size = 92 := by rw [hA0]; rfl
  have g0 : A0.tmps.getD 0 undef = .int .i64 A := by rw [hA0]; rfl
  have g1 : A0.tmps.getD 1 undef = .int .i64 B := by rw [hA0]; rfl
  have HA0 := Lib.hid hA0
  clear hA0
  refine wp_region_grow (ds := ds2) (F := F2 A B w.heap.size) (m := 2) (r := 3) (by kernel_rfl) (by decide) (by decide) (by decide) rfl (by kernel_rfl) (by kernel_rfl)
    (fun j v w g h hv => h.low hv) (fun j v w w' h hb => h.below hb) ?_ ?_
  · intro la V w' q hq hf hall
    have hfact := fun i t (hm : (i, t) ∈ ds2) (hl : la.getD i false = true) => (show F2 A B w.heap.size i (V i) w' from hf.fact (i, t) hm hl)
    have hN : w.heap.size ≤ w'.heap.size := hf.below.size
    have hget : ∀ i t, (i, t) ∈ ds2 → la.getD i false = true → t < 92 → (putAll la V A0 ds2).tmps.getD t undef = V i := fun i t hm hl ht =>
      putAll_get la V A0 i t hl (by rw [hsz]; exact ht) ds2 (by decide) hm
    have hoth : ∀ t, t < 92 → t ∉ ds2.map (·.2) → (putAll la V A0 ds2).tmps.getD t undef = A0.tmps.getD t undef := fun t ht hn =>
      putAll_other la V A0 t (by rw [hsz]; exact ht) ds2 hn
    have e0 := (hoth 0 (by decide) (by decide)).trans g0
    have e1 := (hoth 1 (by decide) (by decide)).trans g1
    generalize putAll la V A0 ds2 = aa at *
    simp only [ds2, List.mem_cons, List.not_mem_nil, or_false] at hq
    rcases hq with rfl | rfl | rfl | rfl | rfl | rfl | rfl | rfl | rfl | rfl
    · refine wpOp_value rfl rfl (v := .int .i64 A) (w' := w') (by simp [execOp, Act.eval, e0]) ⟨_, rfl, Below.refl _ _, rfl, fun g h => by cases h⟩
    · have hl := hall _ rfl ⟨0, .data⟩ (by simp) rfl
      have e2 := (hget 0 19 (by decide) hl (by decide)).trans (hfact 0 19 (by decide) hl)
      obtain ⟨w2, hr, hb, hz⟩ := make_bytes w' A hA
      rw [← e2] at hr
      refine wpOp_value rfl rfl (w' := w2) (by simp only [execOp]; exact Ew.valued hr) ⟨_, rfl, hb, hz, fun g h => by cases h⟩
    · have hl := hall _ rfl ⟨1, .data⟩ (by simp) rfl
      have e2 := hget 1 20 (by decide) hl (by decide)
      obtain ⟨s, hr, hs⟩ := conv_bytes w' _ A (hfact 1 20 (by decide) hl)
      rw [← e2] at hr
      refine wpOp_value rfl rfl (w' := w') (by simp only [execOp]; exact Ew.valued hr) ⟨_, rfl, Below.refl _ _, ⟨s, rfl, hs⟩, fun g h => by cases h⟩
    · have hl := hall _ rfl ⟨2, .data⟩ (by simp) rfl
      have e2 := hget 2 21 (by decide) hl (by decide)
      obtain ⟨s, hv, hs⟩ := hfact 2 21 (by decide) hl
      rw [hv] at e2
      refine wpOp_enter rfl rfl (f := 10) (args := #[.string s]) (w' := w') (by simp [execOp, Act.eval, e2, go_sem]) ((text_calls w' s).mono ?_)
      rintro e w2 ⟨rfl, hb⟩
      exact ⟨_, rfl, _, rfl, hb, ⟨s, rfl, hs⟩, fun g h => by cases h⟩
    · refine wpOp_value rfl rfl (v := .int .i64 B) (w' := w') (by simp [execOp, Act.eval, e1]) ⟨_, rfl, Below.refl _ _, rfl, fun g h => by cases h⟩
    · have hl := hall _ rfl ⟨4, .data⟩ (by simp) rfl
      have e2 := (hget 4 23 (by decide) hl (by decide)).trans (hfact 4 23 (by decide) hl)
      obtain ⟨w2, hr, hb, hz⟩ := make_bytes w' B hB
      rw [← e2] at hr
      refine wpOp_value rfl rfl (w' := w2) (by simp only [execOp]; exact Ew.valued hr) ⟨_, rfl, hb, hz, fun g h => by cases h⟩
    · have hl := hall _ rfl ⟨5, .data⟩ (by simp) rfl
      have e2 := hget 5 24 (by decide) hl (by decide)
      obtain ⟨s, hr, hs⟩ := conv_bytes w' _ B (hfact 5 24 (by decide) hl)
      rw [← e2] at hr
      refine wpOp_value rfl rfl (w' := w') (by simp only [execOp]; exact Ew.valued hr) ⟨_, rfl, Below.refl _ _, ⟨s, rfl, hs⟩, fun g h => by cases h⟩
    · have hl := hall _ rfl ⟨6, .data⟩ (by simp) rfl
      have e2 := hget 6 25 (by decide) hl (by decide)
      obtain ⟨s, hv, hs⟩ := hfact 6 25 (by decide) hl
      rw [hv] at e2
      refine wpOp_enter rfl rfl (f := 10) (args := #[.string s]) (w' := w') (by simp [execOp, Act.eval, e2, go_sem]) ((text_calls w' s).mono ?_)
      rintro e w2 ⟨rfl, hb⟩
      exact ⟨_, rfl, _, rfl, hb, ⟨s, rfl, hs⟩, fun g h => by cases h⟩
    · refine wpOp_value rfl rfl (by simp only [execOp]; exact Ew.valued (alloc25 w')) ⟨_, rfl, (Below.refl _ _).alloc (Nat.le_refl _) _, ⟨_, rfl, hN, by simp, heap_alloc_new _ _⟩, fun g h => ?_⟩
      injection h with h; injection h with h; injection h with h; omega
    · refine wpOp_value rfl rfl (by simp only [execOp]; exact Ew.valued (alloc25 w')) ⟨_, rfl, (Below.refl _ _).alloc (Nat.le_refl _) _, ⟨_, rfl, hN, by simp, heap_alloc_new _ _⟩, fun g h => ?_⟩
      injection h with h; injection h with h; injection h with h; omega
  · intro la V w1 hf hall
    have hla : la = [true, true, true, true, true, true, true, true, true, true, false, false].toArray := la_eq hf.size (by
      intro i hi
      simp only [List.length_cons, List.length_nil] at hi
      obtain rfl | rfl | rfl | rfl | rfl | rfl | rfl | rfl | rfl | rfl | rfl | rfl : i = 0 ∨ i = 1 ∨ i = 2 ∨ i = 3 ∨ i = 4 ∨ i = 5 ∨ i = 6 ∨ i = 7 ∨ i = 8 ∨ i = 9 ∨ i = 10 ∨ i = 11 := by omega
      · exact hall (0, 19) (by decide)
      · exact hall (1, 20) (by decide)
      · exact hall (2, 21) (by decide)
      · exact hall (3, 22) (by decide)
      · exact hall (4, 23) (by decide)
      · exact hall (5, 24) (by decide)
      · exact hall (6, 25) (by decide)
      · exact hall (7, 26) (by decide)
      · exact hall (8, 7) (by decide)
      · exact hall (9, 8) (by decide)
      · exact hf.others 10 (by decide)
      · exact hf.others 11 (by decide))
    subst hla
    have v0 : V 0 = .int .i64 A := hf.fact (0, 19) (by decide) rfl
    obtain ⟨b1, v1, _⟩ : Bz A (V 1) w1 := hf.fact (1, 20) (by decide) rfl
    obtain ⟨s2, v2, _⟩ : ∃ s : ByteArray, V 2 = .string s ∧ s.size = A := hf.fact (2, 21) (by decide) rfl
    obtain ⟨s3, v3, hs3⟩ : ∃ s : ByteArray, V 3 = cv 3 s nilL ∧ s.size = A := hf.fact (3, 22) (by decide) rfl
    have v4 : V 4 = .int .i64 B := hf.fact (4, 23) (by decide) rfl
    obtain ⟨b5, v5, _⟩ : Bz B (V 5) w1 := hf.fact (5, 24) (by decide) rfl
    obtain ⟨s6, v6, _⟩ : ∃ s : ByteArray, V 6 = .string s ∧ s.size = B := hf.fact (6, 25) (by decide) rfl
    obtain ⟨s7, v7, hs7⟩ : ∃ s : ByteArray, V 7 = cv 3 s nilL ∧ s.size = B := hf.fact (7, 26) (by decide) rfl
    obtain ⟨g8, v8, n8, l8, h8⟩ : Nv w.heap.size (V 8) w1 := hf.fact (8, 7) (by decide) rfl
    obtain ⟨g9, v9, n9, l9, h9⟩ : Nv w.heap.size (V 9) w1 := hf.fact (9, 8) (by decide) rfl
    have hne : g8 ≠ g9 := hf.apart (8, 7) (by decide) (9, 8) (by decide) (by decide) rfl rfl g8 g9 v8 v9
    have hne' : g9 ≠ g8 := fun e => hne e.symm
    have hb : Below w.heap.size w w1 := ⟨hf.below.os, hf.below.tape, hf.below.output, hf.below.size, hf.below.block⟩
    clear hf hall
    obtain ⟨⟨p0, p1, p2, p3, p4⟩, f0, f1, f2, f3, f4⟩ := block_facts h8
    obtain ⟨⟨q0, q1, q2, q3, q4⟩, k0, k1, k2, k3, k4⟩ := block_facts h9
    rw [show putAll [true, true, true, true, true, true, true, true, true, true, false, false].toArray V A0 ds2 = ((((((((((A0.put (some 8) (V 9)).put (some 7) (V 8)).put (some 26) (V 7)).put (some 25) (V 6)).put (some 24) (V 5)).put (some 23) (V 4)).put (some 22) (V 3)).put (some 21) (V 2)).put (some 20) (V 1)).put (some 19) (V 0)) from rfl]
    rw [v0, v1, v2, v3, v4, v5, v6, v7, v8, v9, HA0.out]
    have FP := Lib.hid (sets_fp h8 h9 hne)
    have FZ := Lib.hid (sets_fz h8 h9)
    clear v0 v1 v2 v3 v4 v5 v6 v7 v8 v9 HA0 h8 h9 g0 g1 hsz
    simp only [Act.put, List.setIfInBounds_toArray, List.set_cons_zero, List.set_cons_succ]
    unfold cv nilL
    refine wpAny_ready (rs := [10]) (by kernel_rfl) (by simp) ?_
    refine AllReady.cons rfl (fun K hK => ?_) AllReady.nil
    go_simp
    refine hK _ _ ?_
    clear hK K
    refine wpAny_ready (rs := [11]) (by kernel_rfl) (by simp) ?_
    refine AllReady.cons rfl (fun K hK => ?_) AllReady.nil
    go_simp
    refine hK _ _ ?_
    clear hK K
    refine wpAny_done (by kernel_rfl) ?_ _
    have HB := Lib.hid hb
    clear hb p0 p1 p2 p3 p4 q0 q1 q2 q3 q4 f0 f1 f2 f3 f4 k0 k1 k2 k3 k4
    cases list
    · have fp := FP.out
      unfold sets5 at fp
      have HBW := Lib.hid (set5 (set5 HB.out n8 (.int .i64 3) (.int .i64 0) (.complex .f64 0 0) (.string s3) (.slice none 0 0)) n9 (.int .i64 3) (.int .i64 0) (.complex .f64 0 0) (.string s7) (.slice none 0 0))
      have HX := Lib.hid (show ∀ W, Vs 3 W (cv 3 s3 nilL) A from fun W => .inr ⟨rfl, s3, rfl, hs3⟩)
      have HY := Lib.hid (show ∀ W, Vs 3 W (cv 3 s7 nilL) B from fun W => .inr ⟨rfl, s7, rfl, hs7⟩)
      obtain ⟨⟨p0, p1, p2, p3, p4⟩, q0, q1, q2, q3, q4⟩ := fp (.int .i64 3) (.int .i64 0) (.complex .f64 0 0) (.string s3) (.slice none 0 0) (.int .i64 3) (.int .i64 0) (.complex .f64 0 0) (.string s7) (.slice none 0 0)
      clear fp FP FZ hs3 hs7
      go_wp2_with fail
      refine (binary_calls (HX.out _) (HY.out _) (by omega) (by omega)).mono ?_
      clear HX HY p0 p1 p2 p3 p4 q0 q1 q2 q3 q4
      intro e w3 hp
      obtain ⟨r, rfl, hv, hbf⟩ := bp_fin hp HBW.out (Nat.le_refl _)
      clear hp HBW HB
      have HBF := Lib.hid hbf
      have hwr : IntKind.i64.wrap ((A : Int) + (B : Int)) = (A : Int) + (B : Int) := by rw [IntKind.wrap_i64]; omega
      clear hbf n8 l8 n9 l9 hne hne' eA eB
      by_cases c1 : A > 999 ∨ B > 999
      · have hc : code A B = 1 := by unfold code; rw [if_neg (by omega)]
        rw [hc, if_neg (by decide)] at hv
        rw [hc]
        subst hv
        unfold cv nilL
        go_wp2_with fail
        all_goals
          refine (Ew.awakeK_calls _).mono ?_
          rintro e w4 ⟨rfl, hb4⟩
          have HB4 := Lib.hid (below_join (below_more HBF.out (Nat.le_refl _) _) (Nat.le_refl _) hb4)
          clear hb4
          go_wp2
          go_ret
          exact ⟨rfl, HB4.out⟩
      · have c2 : ¬ (A > 999) := fun h => c1 (.inl h)
        have c3 : ¬ (B > 999) := fun h => c1 (.inr h)
        by_cases c4 : A + B > 999
        · have hc : code A B = 4 := by unfold code; rw [if_pos (by omega), if_neg (by omega)]
          rw [hc, if_neg (by decide)] at hv
          rw [hc]
          subst hv
          have c5 : (999 : Int) < (A : Int) + (B : Int) := by omega
          unfold cv nilL
          go_wp2_with fail
          refine (Ew.awakeK_calls _).mono ?_
          rintro e w4 ⟨rfl, hb4⟩
          have HB4 := Lib.hid (below_join (below_more HBF.out (Nat.le_refl _) _) (Nat.le_refl _) hb4)
          clear hb4
          go_wp2
          go_ret
          exact ⟨rfl, HB4.out⟩
        · have hc : code A B = 0 := by unfold code; rw [if_pos (by omega), if_pos (by omega)]
          rw [hc, if_pos rfl] at hv
          rw [hc]
          have c5 : ¬ (999 : Int) < (A : Int) + (B : Int) := by omega
          obtain ⟨s', a', m', cap', rfl⟩ := hv.form
          have HV := Lib.hid hv
          clear hv
          unfold cv
          go_wp2_with fail
          refine (unary_calls (n := A + B) (HV.out.below (below_more (Below.refl _ _) (Nat.le_refl _) _)) (by omega)).mono ?_
          rintro e w4 ⟨rfl, hb4⟩
          have HB4 := Lib.hid (below_join (below_more HBF.out (Nat.le_refl _) _) (Nat.le_refl _) hb4)
          clear hb4
          rw [Int.natCast_add]
          unfold iv
          go_wp2_with fail
          refine (Ew.awakeK_calls _).mono ?_
          rintro e w5 ⟨rfl, hb5⟩
          have HB5 := Lib.hid (below_join (below_more HB4.out (Nat.le_refl _) _) (Nat.le_refl _) hb5)
          clear hb5
          go_wp2
          go_ret
          exact ⟨rfl, HB5.out⟩
    · have fp := FP.out (.int .i64 3) (.int .i64 0) (.complex .f64 0 0) (.string s3) (.slice none 0 0) (.int .i64 3) (.int .i64 0) (.complex .f64 0 0) (.string s7) (.slice none 0 0)
      have fz := FZ.out (.int .i64 3) (.int .i64 0) (.complex .f64 0 0) (.string s3) (.slice none 0 0) (.int .i64 3) (.int .i64 0) (.complex .f64 0 0) (.string s7) (.slice none 0 0)
      have hbW := set5 (set5 HB.out n8 (.int .i64 3) (.int .i64 0) (.complex .f64 0 0) (.string s3) (.slice none 0 0)) n9 (.int .i64 3) (.int .i64 0) (.complex .f64 0 0) (.string s7) (.slice none 0 0)
      have hsW : ∀ x0 x1 x2 x3 x4 y0 y1 y2 y3 y4, (sets5 (sets5 w1 g8 x0 x1 x2 x3 x4) g9 y0 y1 y2 y3 y4).heap.size = w1.heap.size := by intros; simp [sets5]
      have hsW' := hsW (.int .i64 3) (.int .i64 0) (.complex .f64 0 0) (.string s3) (.slice none 0 0) (.int .i64 3) (.int .i64 0) (.complex .f64 0 0) (.string s7) (.slice none 0 0)
      unfold sets5 at fp fz hsW'
      generalize (((((((((w1.setCell ⟨g8, 0, none⟩ (.int .i64 3)).setCell ⟨g8, 1, none⟩ (.int .i64 0)).setCell ⟨g8, 2, none⟩ (.complex .f64 0 0)).setCell ⟨g8, 3, none⟩ (.string s3)).setCell ⟨g8, 4, none⟩ (.slice none 0 0)).setCell ⟨g9, 0, none⟩ (.int .i64 3)).setCell ⟨g9, 1, none⟩ (.int .i64 0)).setCell ⟨g9, 2, none⟩ (.complex .f64 0 0)).setCell ⟨g9, 3, none⟩ (.string s7)).setCell ⟨g9, 4, none⟩ (.slice none 0 0) = W at *
      have P0 := Lib.hid (And.intro fp (And.intro fz (And.intro hbW hsW')))
      clear fp fz hbW hsW hsW' FP FZ
      go_wp2_with fail
      refine gen_act fun A0 hA0 => ?_
      have hsz : A0.tmps.size = 92 := by rw [hA0]; rfl
      have g0 : A0.tmps.getD 0 undef = .int .i64 A := by rw [hA0]; rfl
      have g1 : A0.tmps.getD 1 undef = .int .i64 B := by rw [hA0]; rfl
      have HA0 := Lib.hid hA0
      clear hA0
      refine wp_region_grow (ds := ds4) (F := F4 A B W.heap.size) (m := 2) (r := 3) (by kernel_rfl) (by decide) (by decide) (by decide) rfl (by kernel_rfl) (by kernel_rfl)
        (fun j v w g h hv => h.low hv) (fun j v w w' h hb => h.below hb) ?_ ?_
      · intro la V w' q hq hf hall
        have hfact := fun i t (hm : (i, t) ∈ ds4) (hl : la.getD i false = true) => (show F4 A B W.heap.size i (V i) w' from hf.fact (i, t) hm hl)
        have hN : W.heap.size ≤ w'.heap.size := hf.below.size
        have hget : ∀ i t, (i, t) ∈ ds4 → la.getD i false = true → t < 92 → (putAll la V A0 ds4).tmps.getD t undef = V i := fun i t hm hl ht =>
          putAll_get la V A0 i t hl (by rw [hsz]; exact ht) ds4 (by decide) hm
        have hoth : ∀ t, t < 92 → t ∉ ds4.map (·.2) → (putAll la V A0 ds4).tmps.getD t undef = A0.tmps.getD t undef := fun t ht hn =>
          putAll_other la V A0 t (by rw [hsz]; exact ht) ds4 hn
        have e0 := (hoth 0 (by decide) (by decide)).trans g0
        have e1 := (hoth 1 (by decide) (by decide)).trans g1
        generalize putAll la V A0 ds4 = aa at *
        simp only [ds4, List.mem_cons, List.not_mem_nil, or_false] at hq
        rcases hq with rfl | rfl | rfl | rfl | rfl | rfl
        · refine wpOp_value rfl rfl (v := .int .i64 A) (w' := w') (by simp [execOp, Act.eval, e0]) ⟨_, rfl, Below.refl _ _, rfl, fun g h => by cases h⟩
        · have hl := hall _ rfl ⟨0, .data⟩ (by simp) rfl
          have e2 := (hget 0 28 (by decide) hl (by decide)).trans (hfact 0 28 (by decide) hl)
          obtain ⟨w2, hr, hb, b, l, hv, hn, hs, hll⟩ := make_list w' A hA
          rw [← e2] at hr
          refine wpOp_value rfl rfl (w' := w2) (by simp only [execOp]; exact Ew.valued hr) ⟨_, rfl, hb, ⟨b, l, hv, Nat.le_trans hN hn, hs, hll⟩, fun g h => by cases h⟩
        · have hl := hall _ rfl ⟨1, .data⟩ (by simp) rfl
          have e2 := hget 1 29 (by decide) hl (by decide)
          obtain ⟨b, l, hv, hn, hs, hll⟩ := hfact 1 29 (by decide) hl
          rw [hv] at e2 hs
          refine wpOp_enter rfl rfl (f := 8) (args := #[.slice (some ⟨b, 0, none⟩) A A]) (w' := w') (by simp [execOp, Act.eval, e2, go_sem]) ((list_calls w' _ A A).mono ?_)
          rintro e w2 ⟨rfl, hb⟩
          exact ⟨_, rfl, _, rfl, hb, ⟨_, rfl, b, l, rfl, hn, hs.below hb, hll⟩, fun g h => by cases h⟩
        · refine wpOp_value rfl rfl (v := .int .i64 B) (w' := w') (by simp [execOp, Act.eval, e1]) ⟨_, rfl, Below.refl _ _, rfl, fun g h => by cases h⟩
        · have hl := hall _ rfl ⟨3, .data⟩ (by simp) rfl
          have e2 := (hget 3 31 (by decide) hl (by decide)).trans (hfact 3 31 (by decide) hl)
          obtain ⟨w2, hr, hb, b, l, hv, hn, hs, hll⟩ := make_list w' B hB
          rw [← e2] at hr
          refine wpOp_value rfl rfl (w' := w2) (by simp only [execOp]; exact Ew.valued hr) ⟨_, rfl, hb, ⟨b, l, hv, Nat.le_trans hN hn, hs, hll⟩, fun g h => by cases h⟩
        · have hl := hall _ rfl ⟨4, .data⟩ (by simp) rfl
          have e2 := hget 4 32 (by decide) hl (by decide)
          obtain ⟨b, l, hv, hn, hs, hll⟩ := hfact 4 32 (by decide) hl
          rw [hv] at e2 hs
          refine wpOp_enter rfl rfl (f := 8) (args := #[.slice (some ⟨b, 0, none⟩) B B]) (w' := w') (by simp [execOp, Act.eval, e2, go_sem]) ((list_calls w' _ B B).mono ?_)
          rintro e w2 ⟨rfl, hb⟩
          exact ⟨_, rfl, _, rfl, hb, ⟨_, rfl, b, l, rfl, hn, hs.below hb, hll⟩, fun g h => by cases h⟩
      · intro la V w2 hf hall
        have hla : la = [true, true, true, true, true, true, false, false].toArray := la_eq hf.size (by
          intro i hi
          simp only [List.length_cons, List.length_nil] at hi
          obtain rfl | rfl | rfl | rfl | rfl | rfl | rfl | rfl : i = 0 ∨ i = 1 ∨ i = 2 ∨ i = 3 ∨ i = 4 ∨ i = 5 ∨ i = 6 ∨ i = 7 := by omega
          · exact hall (0, 28) (by decide)
          · exact hall (1, 29) (by decide)
          · exact hall (2, 30) (by decide)
          · exact hall (3, 31) (by decide)
          · exact hall (4, 32) (by decide)
          · exact hall (5, 33) (by decide)
          · exact hf.others 6 (by decide)
          · exact hf.others 7 (by decide))
        subst hla
        have v0 : V 0 = .int .i64 A := hf.fact (0, 28) (by decide) rfl
        obtain ⟨bA, v1⟩ := Lz.form (show Lz A W.heap.size (V 1) w2 from hf.fact (1, 29) (by decide) rfl)
        obtain ⟨xA, v2, hxA⟩ : ∃ x, V 2 = cv 4 ⟨#[]⟩ x ∧ Lz A W.heap.size x w2 := hf.fact (2, 30) (by decide) rfl
        have v3 : V 3 = .int .i64 B := hf.fact (3, 31) (by decide) rfl
        obtain ⟨bB, v4⟩ := Lz.form (show Lz B W.heap.size (V 4) w2 from hf.fact (4, 32) (by decide) rfl)
        obtain ⟨xB, v5, hxB⟩ : ∃ x, V 5 = cv 4 ⟨#[]⟩ x ∧ Lz B W.heap.size x w2 := hf.fact (5, 33) (by decide) rfl
        have hb : Below W.heap.size W w2 := ⟨hf.below.os, hf.below.tape, hf.below.output, hf.below.size, hf.below.block⟩
        clear hf hall
        obtain ⟨fp, ⟨fz, fz'⟩, hbW, hsW⟩ := P0.out
        have hg8 : g8 < W.heap.size := by omega
        have hg9 : g9 < W.heap.size := by omega
        obtain ⟨f0, f1, f2, f3, f4⟩ := fz.below hb hg8
        obtain ⟨k0, k1, k2, k3, k4⟩ := fz'.below hb hg9
        obtain ⟨⟨p0, p1, p2, p3, p4⟩, q0, q1, q2, q3, q4⟩ := fp.below hb hg8 hg9
        have HBW := Lib.hid (And.intro (hbW.trans (hb.mono (by omega))) (And.intro hg8 hg9))
        obtain ⟨cA, hcA⟩ := hxA.form
        obtain ⟨cB, hcB⟩ := hxB.form
        subst hcA hcB
        have HXA := Lib.hid hxA
        have HXB := Lib.hid hxB
        clear fp fz fz' hbW hsW hb P0 hxA hxB hg8 hg9
        rw [show putAll [true, true, true, true, true, true, false, false].toArray V A0 ds4 = ((((((A0.put (some 33) (V 5)).put (some 32) (V 4)).put (some 31) (V 3)).put (some 30) (V 2)).put (some 29) (V 1)).put (some 28) (V 0)) from rfl]
        rw [v0, v1, v2, v3, v4, v5, HA0.out]
        clear v0 v1 v2 v3 v4 v5 HA0 g0 g1 hsz
        simp only [Act.put, List.setIfInBounds_toArray, List.set_cons_zero, List.set_cons_succ]
        unfold cv
        refine wpAny_ready (rs := [6]) (by kernel_rfl) (by simp) ?_
        refine AllReady.cons rfl (fun K hK => ?_) AllReady.nil
        go_simp
        refine hK _ _ ?_
        clear hK K
        refine wpAny_ready (rs := [7]) (by kernel_rfl) (by simp) ?_
        refine AllReady.cons rfl (fun K hK => ?_) AllReady.nil
        go_simp
        refine hK _ _ ?_
        clear hK K
        refine wpAny_done (by kernel_rfl) ?_ _
        go_wp2_with fail
        refine (binary_calls (k := 4) (n1 := A) (n2 := B) (Lz.vs ((HXA.out.sets5 HBW.out.2.1 _ _ _ _ _).sets5 HBW.out.2.2 _ _ _ _ _)) (Lz.vs ((HXB.out.sets5 HBW.out.2.1 _ _ _ _ _).sets5 HBW.out.2.2 _ _ _ _ _)) (by omega) (by omega)).mono ?_
        clear p0 p1 p2 p3 p4 q0 q1 q2 q3 q4 f0 f1 f2 f3 f4 k0 k1 k2 k3 k4
        intro e w3 hp
        obtain ⟨r, rfl, hv, hbf⟩ := bp_fin hp (set5 (set5 HBW.out.1 n8 _ _ _ _ _) n9 _ _ _ _ _) (Nat.le_refl _)
        clear hp HBW HB HXA HXB
        have HBF := Lib.hid hbf
        have hwr : IntKind.i64.wrap ((A : Int) + (B : Int)) = (A : Int) + (B : Int) := by rw [IntKind.wrap_i64]; omega
        clear hbf n8 l8 n9 l9 hne hne' eA eB
        by_cases c1 : A > 999 ∨ B > 999
        · have hc : code A B = 1 := by unfold code; rw [if_neg (by omega)]
          rw [hc, if_neg (by decide)] at hv
          rw [hc]
          subst hv
          unfold cv nilL
          go_wp2_with fail
          all_goals
            refine (Ew.awakeK_calls _).mono ?_
            rintro e w4 ⟨rfl, hb4⟩
            have HB4 := Lib.hid (below_join (below_more HBF.out (Nat.le_refl _) _) (Nat.le_refl _) hb4)
            clear hb4
            go_wp2
            go_ret
            exact ⟨rfl, HB4.out⟩
        · have c2 : ¬ (A > 999) := fun h => c1 (.inl h)
          have c3 : ¬ (B > 999) := fun h => c1 (.inr h)
          by_cases c4 : A + B > 999
          · have hc : code A B = 4 := by unfold code; rw [if_pos (by omega), if_neg (by omega)]
            rw [hc, if_neg (by decide)] at hv
            rw [hc]
            subst hv
            have c5 : (999 : Int) < (A : Int) + (B : Int) := by omega
            unfold cv nilL
            go_wp2_with fail
            refine (Ew.awakeK_calls _).mono ?_
            rintro e w4 ⟨rfl, hb4⟩
            have HB4 := Lib.hid (below_join (below_more HBF.out (Nat.le_refl _) _) (Nat.le_refl _) hb4)
            clear hb4
            go_wp2
            go_ret
            exact ⟨rfl, HB4.out⟩
          · have hc : code A B = 0 := by unfold code; rw [if_pos (by omega), if_pos (by omega)]
            rw [hc, if_pos rfl] at hv
            rw [hc]
            have c5 : ¬ (999 : Int) < (A : Int) + (B : Int) := by omega
            obtain ⟨s', a', m', cap', rfl⟩ := hv.form
            have HV := Lib.hid hv
            clear hv
            unfold cv
            go_wp2_with fail
            refine (unary_calls (n := A + B) (HV.out.below (below_more (Below.refl _ _) (Nat.le_refl _) _)) (by omega)).mono ?_
            rintro e w4 ⟨rfl, hb4⟩
            have HB4 := Lib.hid (below_join (below_more HBF.out (Nat.le_refl _) _) (Nat.le_refl _) hb4)
            clear hb4
            rw [Int.natCast_add]
            unfold iv
            go_wp2_with fail
            refine (Ew.awakeK_calls _).mono ?_
            rintro e w5 ⟨rfl, hb5⟩
            have HB5 := Lib.hid (below_join (below_more HB4.out (Nat.le_refl _) _) (Nat.le_refl _) hb5)
            clear hb5
            go_wp2
            go_ret
            exact ⟨rfl, HB5.out⟩

end Go.Proofs.Ytplnnlnkcfappaa.Oa
