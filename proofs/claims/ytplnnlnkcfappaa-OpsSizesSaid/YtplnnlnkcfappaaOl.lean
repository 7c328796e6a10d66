/- OpsSizes: Binary. -/
import Derived.Test.YtplnnlnkcfappaaOk
import Derived.Deep.RegionHeld3
namespace Go.Proofs.Ytplnnlnkcfappaa.Oa
open Go.RowKit
set_option linter.unusedSimpArgs false
set_option linter.unusedVariables false

/-- the third block is there, to be written -/
def Th (N : Nat) (w' : World) : Prop := (∀ i, i < 5 → ∃ z, w'.cell? ⟨N + 2, i, none⟩ = some z) ∧ ∀ i, i < 5 → w'.frozen? ⟨N + 2, i, none⟩ = false
/-- what is known while Binary's last region runs -/
abbrev St (N : Nat) (W : World) (A B : Value × Value × Value × Value × Value) (w' : World) : Prop :=
  Below (N + 2) W w' ∧ Th N w' ∧ (w'.cell? ⟨N, 0, none⟩ = some A.1 ∧ w'.cell? ⟨N, 1, none⟩ = some A.2.1 ∧ w'.cell? ⟨N, 2, none⟩ = some A.2.2.1 ∧ w'.cell? ⟨N, 3, none⟩ = some A.2.2.2.1 ∧ w'.cell? ⟨N, 4, none⟩ = some A.2.2.2.2) ∧
  (w'.cell? ⟨N + 1, 0, none⟩ = some B.1 ∧ w'.cell? ⟨N + 1, 1, none⟩ = some B.2.1 ∧ w'.cell? ⟨N + 1, 2, none⟩ = some B.2.2.1 ∧ w'.cell? ⟨N + 1, 3, none⟩ = some B.2.2.2.1 ∧ w'.cell? ⟨N + 1, 4, none⟩ = some B.2.2.2.2)
theorem Th.lt {N : Nat} {w' : World} (h : Th N w') : N + 3 ≤ w'.heap.size := by
  obtain ⟨z, hz⟩ := h.1 0 (by omega)
  have := World.block_lt_of_cell? w' _ hz
  simp at this
  omega
theorem Th.next {N : Nat} {w1 w2 : World} (hb : Below w1.heap.size w1 w2) (h : Th N w1) : Th N w2 := by
  have hl := h.lt
  refine ⟨fun i hi => ?_, fun i hi => ?_⟩
  · rw [hb.cell (by simp; omega)]; exact h.1 i hi
  · rw [hb.frozen (by simp; omega)]; exact h.2 i hi
theorem St.next {N : Nat} {W : World} {A B : Value × Value × Value × Value × Value} {w1 w2 : World} (hb : Below w1.heap.size w1 w2) (h : St N W A B w1) : St N W A B w2 := by
  obtain ⟨h0, ht, ⟨a0, a1, a2, a3, a4⟩, b0, b1, b2, b3, b4⟩ := h
  have hs := ht.lt
  have hb' : Below (N + 2) w1 w2 := hb.mono (by omega)
  refine ⟨h0.trans hb', ht.next hb, ⟨?_, ?_, ?_, ?_, ?_⟩, ?_, ?_, ?_, ?_, ?_⟩
  all_goals (rw [hb'.cell (by simp)]; assumption)
theorem Th.set {N : Nat} {w1 : World} (h : Th N w1) (p : Nat) (hp : p < 5) (u : Value) : Th N (w1.setCell ⟨N + 2, p, none⟩ u) := by
  obtain ⟨z0, h0⟩ := h.1 0 (by omega)
  obtain ⟨z1, h1⟩ := h.1 1 (by omega)
  obtain ⟨z2, h2⟩ := h.1 2 (by omega)
  obtain ⟨z3, h3⟩ := h.1 3 (by omega)
  obtain ⟨z4, h4⟩ := h.1 4 (by omega)
  have f0 := h.2 0 (by omega)
  have f1 := h.2 1 (by omega)
  have f2 := h.2 2 (by omega)
  have f3 := h.2 3 (by omega)
  have f4 := h.2 4 (by omega)
  obtain rfl | rfl | rfl | rfl | rfl : p = 0 ∨ p = 1 ∨ p = 2 ∨ p = 3 ∨ p = 4 := by omega
  all_goals
    refine ⟨fun i hi => ?_, fun i hi => ?_⟩
    · obtain rfl | rfl | rfl | rfl | rfl : i = 0 ∨ i = 1 ∨ i = 2 ∨ i = 3 ∨ i = 4 := by omega
      all_goals simp [go_sem, h0, h1, h2, h3, h4]
    · obtain rfl | rfl | rfl | rfl | rfl : i = 0 ∨ i = 1 ∨ i = 2 ∨ i = 3 ∨ i = 4 := by omega
      all_goals simp [go_sem, f0, f1, f2, f3, f4]
theorem St.set {N : Nat} {W : World} {A B : Value × Value × Value × Value × Value} {w1 : World} (h : St N W A B w1) (i : Nat) (hi : i < 5) (u : Value) : St N W A B (w1.setCell ⟨N + 2, i, none⟩ u) := by
  obtain ⟨h0, ht, ⟨a0, a1, a2, a3, a4⟩, b0, b1, b2, b3, b4⟩ := h
  have hb' : Below (N + 2) w1 (w1.setCell ⟨N + 2, i, none⟩ u) := (Below.refl _ _).setCell (by simp) _
  refine ⟨h0.trans hb', ht.set i hi u, ⟨?_, ?_, ?_, ?_, ?_⟩, ?_, ?_, ?_, ?_, ?_⟩
  all_goals (rw [hb'.cell (by simp)]; assumption)

set_option maxHeartbeats 4000000 in
set_option maxRecDepth 100000 in
theorem binary_calls {k : Int} {w : World} {v1 v2 : Value} {n1 n2 : Nat} (h1 : Vs k w v1 n1) (h2 : Vs k w v2 n2) (hn1 : n1 ≤ 1500) (hn2 : n2 ≤ 1500) : Calls Try.prog 6 #[.int .i64 1, v1, v2] w (BinPost k (n1 + n2) (code n1 n2) w) := by
  obtain ⟨s1, a1, m1, c1, rfl⟩ := h1.vl.form
  obtain ⟨s2, a2, m2, c2, rfl⟩ := h2.vl.form
  have H1 := Lib.hid h1
  have H2 := Lib.hid h2
  clear h1 h2
  go_enter Try.func6, Try.ntmps6
  unfold cv
  go_wp2_with fail
  refine (arity_calls _).mono ?_
  rintro e w1 ⟨rfl, rfl⟩
  go_wp2_with fail
  generalize hW : (((w.alloc _).alloc _).alloc _ : World) = W
  have hWs : w.heap.size + 3 ≤ W.heap.size := by rw [← hW]; simp
  have hWB : Below w.heap.size w W := by rw [← hW]; exact three _ _ _ _
  have hF := facts3 (w1 := W) (by rw [← hW]; exact Below.refl _ _)
  obtain ⟨hA, hB, hZ, hF⟩ := hF
  have WS := Lib.hid hWs
  have WB := Lib.hid hWB
  have ZF := Lib.hid (And.intro hZ hF)
  have g14a : ∀ w', Below (w.heap.size + 2) W w' → Calls Try.prog 14 #[.agg #[.int .i64 k, .int .i64 0, .complex .f64 0 0, .string s1, .slice a1 m1 c1]] w' fun e w2 => e = .returned (gd n1 (cv k s1 (.slice a1 m1 c1))) ∧ Below w'.heap.size w' w2 := fun w' h =>
    good_calls (k := k) ((H1.out.below (WB.out.trans (h.mono (by omega)))).vl) (by omega)
  have g14b : ∀ w', Below (w.heap.size + 2) W w' → Calls Try.prog 14 #[.agg #[.int .i64 k, .int .i64 0, .complex .f64 0 0, .string s2, .slice a2 m2 c2]] w' fun e w2 => e = .returned (gd n2 (cv k s2 (.slice a2 m2 c2))) ∧ Below w'.heap.size w' w2 := fun w' h =>
    good_calls (k := k) ((H2.out.below (WB.out.trans (h.mono (by omega)))).vl) (by omega)
  have g23 : ∀ w', Below (w.heap.size + 2) W w' → Calls Try.prog 23 #[gd n1 (cv k s1 (.slice a1 m1 c1)), gd n2 (cv k s2 (.slice a2 m2 c2))] w' (fun e w2 => w.heap.size + 3 ≤ w'.heap.size ∧ BinPost k (n1 + n2) (code n1 n2) w' e w2) := fun w' h =>
    (add_calls (H1.out.below (WB.out.trans (h.mono (by omega)))) (H2.out.below (WB.out.trans (h.mono (by omega))))).mono fun e w2 hp => ⟨by have := h.size; have := WS.out; omega, hp⟩
  generalize gd n1 (cv k s1 (.slice a1 m1 c1)) = x1 at g14a g23
  generalize gd n2 (cv k s2 (.slice a2 m2 c2)) = x2 at g14b g23
  have hT : Th w.heap.size W := by
    obtain ⟨⟨z0, z1, z2, z3, z4⟩, f0, f1, f2, f3, f4⟩ := ZF.out
    refine ⟨fun i hi => ?_, fun i hi => ?_⟩
    · obtain rfl | rfl | rfl | rfl | rfl : i = 0 ∨ i = 1 ∨ i = 2 ∨ i = 3 ∨ i = 4 := by omega
      all_goals exact ⟨_, by assumption⟩
    · obtain rfl | rfl | rfl | rfl | rfl : i = 0 ∨ i = 1 ∨ i = 2 ∨ i = 3 ∨ i = 4 := by omega
      all_goals assumption
  have S0 : St w.heap.size W (.int .i64 k, .int .i64 0, .complex .f64 0 0, .string s1, .slice a1 m1 c1) (.int .i64 k, .int .i64 0, .complex .f64 0 0, .string s2, .slice a2 m2 c2) W := ⟨Below.refl _ _, hT, hA, hB⟩
  have S0' : St w.heap.size W (.int .i64 k, .int .i64 0, .complex .f64 0 0, .string s1, .slice a1 m1 c1) (.int .i64 k, .int .i64 0, .complex .f64 0 0, .string s2, .slice a2 m2 c2) W.drew := ⟨(Below.refl _ _).drew, hT, hA, hB⟩
  have nx : ∀ u1 u2 : World, Below u1.heap.size u1 u2 → (Below (w.heap.size + 2) W u1 ∧ Th w.heap.size u1 ∧ (u1.cell? ⟨w.heap.size, 0, none⟩ = some (.int .i64 k) ∧ u1.cell? ⟨w.heap.size, 1, none⟩ = some (.int .i64 0) ∧ u1.cell? ⟨w.heap.size, 2, none⟩ = some (.complex .f64 0 0) ∧ u1.cell? ⟨w.heap.size, 3, none⟩ = some (.string s1) ∧ u1.cell? ⟨w.heap.size, 4, none⟩ = some (.slice a1 m1 c1)) ∧ (u1.cell? ⟨w.heap.size + 1, 0, none⟩ = some (.int .i64 k) ∧ u1.cell? ⟨w.heap.size + 1, 1, none⟩ = some (.int .i64 0) ∧ u1.cell? ⟨w.heap.size + 1, 2, none⟩ = some (.complex .f64 0 0) ∧ u1.cell? ⟨w.heap.size + 1, 3, none⟩ = some (.string s2) ∧ u1.cell? ⟨w.heap.size + 1, 4, none⟩ = some (.slice a2 m2 c2))) → Below (w.heap.size + 2) W u2 ∧ Th w.heap.size u2 ∧ (u2.cell? ⟨w.heap.size, 0, none⟩ = some (.int .i64 k) ∧ u2.cell? ⟨w.heap.size, 1, none⟩ = some (.int .i64 0) ∧ u2.cell? ⟨w.heap.size, 2, none⟩ = some (.complex .f64 0 0) ∧ u2.cell? ⟨w.heap.size, 3, none⟩ = some (.string s1) ∧ u2.cell? ⟨w.heap.size, 4, none⟩ = some (.slice a1 m1 c1)) ∧ (u2.cell? ⟨w.heap.size + 1, 0, none⟩ = some (.int .i64 k) ∧ u2.cell? ⟨w.heap.size + 1, 1, none⟩ = some (.int .i64 0) ∧ u2.cell? ⟨w.heap.size + 1, 2, none⟩ = some (.complex .f64 0 0) ∧ u2.cell? ⟨w.heap.size + 1, 3, none⟩ = some (.string s2) ∧ u2.cell? ⟨w.heap.size + 1, 4, none⟩ = some (.slice a2 m2 c2)) := fun u1 u2 hb h => St.next (A := (.int .i64 k, .int .i64 0, .complex .f64 0 0, .string s1, .slice a1 m1 c1)) (B := (.int .i64 k, .int .i64 0, .complex .f64 0 0, .string s2, .slice a2 m2 c2)) hb h
  have ns : ∀ (u1 : World) (x0 x1 x2 x3 x4 : Value), (Below (w.heap.size + 2) W u1 ∧ Th w.heap.size u1 ∧ (u1.cell? ⟨w.heap.size, 0, none⟩ = some (.int .i64 k) ∧ u1.cell? ⟨w.heap.size, 1, none⟩ = some (.int .i64 0) ∧ u1.cell? ⟨w.heap.size, 2, none⟩ = some (.complex .f64 0 0) ∧ u1.cell? ⟨w.heap.size, 3, none⟩ = some (.string s1) ∧ u1.cell? ⟨w.heap.size, 4, none⟩ = some (.slice a1 m1 c1)) ∧ (u1.cell? ⟨w.heap.size + 1, 0, none⟩ = some (.int .i64 k) ∧ u1.cell? ⟨w.heap.size + 1, 1, none⟩ = some (.int .i64 0) ∧ u1.cell? ⟨w.heap.size + 1, 2, none⟩ = some (.complex .f64 0 0) ∧ u1.cell? ⟨w.heap.size + 1, 3, none⟩ = some (.string s2) ∧ u1.cell? ⟨w.heap.size + 1, 4, none⟩ = some (.slice a2 m2 c2))) → (fun w' : World => Below (w.heap.size + 2) W w' ∧ Th w.heap.size w' ∧ (w'.cell? ⟨w.heap.size, 0, none⟩ = some (.int .i64 k) ∧ w'.cell? ⟨w.heap.size, 1, none⟩ = some (.int .i64 0) ∧ w'.cell? ⟨w.heap.size, 2, none⟩ = some (.complex .f64 0 0) ∧ w'.cell? ⟨w.heap.size, 3, none⟩ = some (.string s1) ∧ w'.cell? ⟨w.heap.size, 4, none⟩ = some (.slice a1 m1 c1)) ∧ (w'.cell? ⟨w.heap.size + 1, 0, none⟩ = some (.int .i64 k) ∧ w'.cell? ⟨w.heap.size + 1, 1, none⟩ = some (.int .i64 0) ∧ w'.cell? ⟨w.heap.size + 1, 2, none⟩ = some (.complex .f64 0 0) ∧ w'.cell? ⟨w.heap.size + 1, 3, none⟩ = some (.string s2) ∧ w'.cell? ⟨w.heap.size + 1, 4, none⟩ = some (.slice a2 m2 c2))) (((((u1.setCell ⟨w.heap.size + 1 + 1, 0, none⟩ x0).setCell ⟨w.heap.size + 1 + 1, 1, none⟩ x1).setCell ⟨w.heap.size + 1 + 1, 2, none⟩ x2).setCell ⟨w.heap.size + 1 + 1, 3, none⟩ x3).setCell ⟨w.heap.size + 1 + 1, 4, none⟩ x4) := fun u1 x0 x1 x2 x3 x4 h => St.set (A := (.int .i64 k, .int .i64 0, .complex .f64 0 0, .string s1, .slice a1 m1 c1)) (B := (.int .i64 k, .int .i64 0, .complex .f64 0 0, .string s2, .slice a2 m2 c2)) (St.set (St.set (St.set (St.set h 0 (by omega) x0) 1 (by omega) x1) 2 (by omega) x2) 3 (by omega) x3) 4 (by omega) x4
  have G1 := Lib.hid g14a
  have G2 := Lib.hid g14b
  have G3 := Lib.hid g23
  have NX := Lib.hid nx
  have NS := Lib.hid ns
  have SS0 := Lib.hid S0
  have SS1 := Lib.hid S0'
  clear g14a g14b g23 nx ns S0 S0' hT hW hWs hWB hA hB hZ hF
  go_region_held3 (fun w' => Below (w.heap.size + 2) W w' ∧ Th w.heap.size w' ∧ (w'.cell? ⟨w.heap.size, 0, none⟩ = some (.int .i64 k) ∧ w'.cell? ⟨w.heap.size, 1, none⟩ = some (.int .i64 0) ∧ w'.cell? ⟨w.heap.size, 2, none⟩ = some (.complex .f64 0 0) ∧ w'.cell? ⟨w.heap.size, 3, none⟩ = some (.string s1) ∧ w'.cell? ⟨w.heap.size, 4, none⟩ = some (.slice a1 m1 c1)) ∧
      (w'.cell? ⟨w.heap.size + 1, 0, none⟩ = some (.int .i64 k) ∧ w'.cell? ⟨w.heap.size + 1, 1, none⟩ = some (.int .i64 0) ∧ w'.cell? ⟨w.heap.size + 1, 2, none⟩ = some (.complex .f64 0 0) ∧ w'.cell? ⟨w.heap.size + 1, 3, none⟩ = some (.string s2) ∧ w'.cell? ⟨w.heap.size + 1, 4, none⟩ = some (.slice a2 m2 c2)))
    (first | exact SS1.out | exact SS0.out | assumption | exact NX.out _ _ (by assumption) (by assumption) | exact NS.out _ _ _ _ _ _ (by assumption))
    (first
      | (go_at_call 13; refine (binaries_calls _).mono ?_; rintro e w' ⟨⟨p8, p9, p10, p11, rfl⟩, hb⟩)
      | (go_at_call 14; refine (G1.out _ (And.left (by assumption))).mono ?_; rintro e w' ⟨rfl, hb⟩)
      | (go_at_call 14; refine (G2.out _ (And.left (by assumption))).mono ?_; rintro e w' ⟨rfl, hb⟩)
      | (go_at_call 23; refine (G3.out _ (And.left (by assumption))).mono ?_; rintro e w' ⟨hsz, r, rfl, hv, hf, hb⟩; have hS3 := NX.out _ _ hb (by assumption); have hb3 := And.left (And.right hS3); obtain ⟨z0, q0⟩ := hb3.1 0 (by omega); obtain ⟨z1, q1⟩ := hb3.1 1 (by omega); obtain ⟨z2, q2⟩ := hb3.1 2 (by omega); obtain ⟨z3, q3⟩ := hb3.1 3 (by omega); obtain ⟨z4, q4⟩ := hb3.1 4 (by omega); have h0 := hb3.2 0 (by omega); have h1 := hb3.2 1 (by omega); have h2 := hb3.2 2 (by omega); have h3 := hb3.2 3 (by omega); have h4 := hb3.2 4 (by omega); obtain ⟨k', s', a', m', cap', rfl⟩ := bin_form hv; unfold cv))
  all_goals
    have HS := Lib.hid hS3
    have HV := Lib.hid hv
    have HF := Lib.hid hf
    have HZ := Lib.hid hsz
    clear hS3 hv hf hsz hb3 hb
    generalize code n1 n2 = cd at *
    go_wp2
    refine bodyPost_ret (v := .tuple #[cv k' s' (.slice a' m' cap'), .int .i64 cd]) (by simp [results, Try.results6, go_sem, cv, nilL, q0, q1, q2, q3, q4]) rfl ?_
    have hz := HZ.out
    exact ⟨_, rfl, bin_set5 HV.out HF.out (by omega) _ _ _ _ _, HF.out.mono (by omega), set5 (WB.out.trans (HS.out.1.mono (by omega))) (by omega) _ _ _ _ _⟩

end Go.Proofs.Ytplnnlnkcfappaa.Oa
