/- OpsSizes: Unary, and how values are made. -/
import Derived.Test.YtplnnlnkcfappaaOk
namespace Go.Proofs.Ytplnnlnkcfappaa.Oa
open Go.RowKit
set_option linter.unusedSimpArgs false
set_option linter.unusedVariables false

/-- a whole number -/
def iv (n : Int) : Value := .agg #[.int .i64 1, .int .i64 n, .complex .f64 0 0, .string ⟨#[]⟩, .slice none 0 0]

set_option maxHeartbeats 1000000 in
theorem int_calls (w : World) (n : Int) : Calls Try.prog 18 #[.int .i64 n] w fun e w' => e = .returned (iv n) ∧ Below w.heap.size w w' := by
  unfold iv
  go_enter Try.func18, Try.ntmps18
  go_wp2
  refine bodyPost_ret (v := iv n) (by simp [results, Try.results18, go_sem, iv]) rfl ?_
  exact ⟨rfl, below_more (Below.refl _ _) (Nat.le_refl _) _⟩

set_option maxHeartbeats 1000000 in
theorem text_calls (w : World) (s : ByteArray) : Calls Try.prog 10 #[.string s] w fun e w' => e = .returned (cv 3 s nilL) ∧ Below w.heap.size w w' := by
  unfold cv nilL
  go_enter Try.func10, Try.ntmps10
  go_wp2
  refine bodyPost_ret (v := cv 3 s nilL) (by simp [results, Try.results10, go_sem, cv, nilL]) rfl ?_
  exact ⟨rfl, below_more (Below.refl _ _) (Nat.le_refl _) _⟩

set_option maxHeartbeats 1000000 in
theorem list_calls (w : World) (a : Option Addr) (n cap : Nat) : Calls Try.prog 8 #[.slice a n cap] w fun e w' => e = .returned (cv 4 ⟨#[]⟩ (.slice a n cap)) ∧ Below w.heap.size w w' := by
  unfold cv
  go_enter Try.func8, Try.ntmps8
  go_wp2
  refine bodyPost_ret (v := cv 4 ⟨#[]⟩ (.slice a n cap)) (by simp [results, Try.results8, go_sem, cv]) rfl ?_
  exact ⟨rfl, below_more (Below.refl _ _) (Nat.le_refl _) _⟩

theorem frozen2 {w w1 : World} {a0 a1 a2 a3 a4 b0 b1 b2 b3 b4 : Value} (hb : Below (w.heap.size + 2) ((w.alloc (.cells #[a0, a1, a2, a3, a4] 25)).alloc (.cells #[b0, b1, b2, b3, b4] 25)) w1) :
    w1.frozen? ⟨w.heap.size, 0, none⟩ = false ∧ w1.frozen? ⟨w.heap.size, 1, none⟩ = false ∧ w1.frozen? ⟨w.heap.size, 2, none⟩ = false ∧ w1.frozen? ⟨w.heap.size, 3, none⟩ = false ∧ w1.frozen? ⟨w.heap.size, 4, none⟩ = false := by
  refine ⟨?_, ?_, ?_, ?_, ?_⟩
  all_goals (rw [hb.frozen (by simp)]; simp [go_sem]; done)

set_option maxHeartbeats 2000000 in
theorem unary_calls {k : Int} {w : World} {v : Value} {n : Nat} (h : Vl k w v n) (hn : n ≤ 999) : Calls Try.prog 9 #[.int .i64 17, v] w fun e w' => e = .returned (.tuple #[iv n, .int .i64 0]) ∧ Below w.heap.size w w' := by
  obtain ⟨s, a, m, cap, rfl⟩ := h.form
  have hk : (k = 4 ∧ m = n) ∨ (k = 3 ∧ s.size = n) := by
    rcases h with ⟨hk, L, l, hv, hs, hn⟩ | ⟨hk, s', hv, hn⟩
    · obtain ⟨a', cap', rfl⟩ := hs.form
      simp only [cv, Value.agg.injEq, Array.mk.injEq, List.cons.injEq, Value.slice.injEq] at hv
      exact .inl ⟨hk, hv.2.2.2.2.1.2.1.trans hn⟩
    · simp only [cv, Value.agg.injEq, Array.mk.injEq, List.cons.injEq, Value.string.injEq] at hv
      exact .inr ⟨hk, by rw [hv.2.2.2.1]; exact hn⟩
  have H := Lib.hid h
  clear h
  have H0 := Lib.hid (And.intro hk hn)
  clear hk hn
  unfold cv
  go_enter Try.func9, Try.ntmps9
  go_wp2_with fail
  refine (good_calls (k := k) (n := n) (H.out.below (two _ _ _)) (by have := H0.out.2; omega)).mono ?_
  rintro e w1 ⟨rfl, hb1⟩
  rw [if_pos H0.out.2]
  have HB1 := Lib.hid (twoJ hb1)
  obtain ⟨⟨p0, p1, p2, p3, p4⟩, ⟨q0, q1, q2, q3, q4⟩, h0, h1, h2, h3, h4⟩ := facts2 HB1.out
  have hfz := frozen2 HB1.out
  obtain ⟨f0, f1, f2, f3, f4⟩ := hfz
  clear hb1
  unfold cv
  go_wp2_with fail
  refine (arity17_calls _).mono ?_
  rintro e w2 ⟨rfl, hw2⟩
  have hsz : w1.heap.size = w2.heap.size ∧ w.heap.size + 2 ≤ w2.heap.size := by
    have := HB1.out.size
    rw [hw2]
    simp at this ⊢
    exact this
  have p0 : w2.cell? ⟨w.heap.size, 0, none⟩ = some (.int .i64 k) := by rw [hw2]; simp [go_sem, p0, p1, p2, p3, p4]
  have p1 : w2.cell? ⟨w.heap.size, 1, none⟩ = some (.int .i64 0) := by rw [hw2]; simp [go_sem, p0, p1, p2, p3, p4]
  have p2 : w2.cell? ⟨w.heap.size, 2, none⟩ = some (.complex .f64 0 0) := by rw [hw2]; simp [go_sem, p0, p1, p2, p3, p4]
  have p3 : w2.cell? ⟨w.heap.size, 3, none⟩ = some (.string s) := by rw [hw2]; simp [go_sem, p0, p1, p2, p3, p4]
  have p4 : w2.cell? ⟨w.heap.size, 4, none⟩ = some (.slice a m cap) := by rw [hw2]; simp [go_sem, p0, p1, p2, p3, p4]
  have qq : (w2.cell? ⟨w.heap.size + 1, 0, none⟩ = some (.int .i64 0) ∧ w2.cell? ⟨w.heap.size + 1, 1, none⟩ = some (.int .i64 0) ∧ w2.cell? ⟨w.heap.size + 1, 2, none⟩ = some (.complex .f64 0 0) ∧ w2.cell? ⟨w.heap.size + 1, 3, none⟩ = some (.string ⟨#[]⟩) ∧ w2.cell? ⟨w.heap.size + 1, 4, none⟩ = some (.slice none 0 0)) ∧
      w2.frozen? ⟨w.heap.size + 1, 0, none⟩ = false ∧ w2.frozen? ⟨w.heap.size + 1, 1, none⟩ = false ∧ w2.frozen? ⟨w.heap.size + 1, 2, none⟩ = false ∧ w2.frozen? ⟨w.heap.size + 1, 3, none⟩ = false ∧ w2.frozen? ⟨w.heap.size + 1, 4, none⟩ = false := by
    refine ⟨⟨?_, ?_, ?_, ?_, ?_⟩, ?_, ?_, ?_, ?_, ?_⟩
    all_goals (rw [hw2]; simp [go_sem, q0, q1, q2, q3, q4, h0, h1, h2, h3, h4])
  have hbw : Below w.heap.size w w2 := by rw [hw2]; exact set5 (twoB HB1.out) (Nat.le_refl _) _ _ _ _ _
  have QQ := Lib.hid qq
  have BW := Lib.hid hbw
  have SZ := Lib.hid hsz
  clear qq hbw hsz q0 q1 q2 q3 q4 h0 h1 h2 h3 h4 f0 f1 f2 f3 f4 hw2
  obtain ⟨rfl, rfl⟩ | ⟨rfl, rfl⟩ := H0.out.1
  all_goals
    go_wp2_with fail
    refine (int_calls _ _).mono ?_
    rintro e w3 ⟨rfl, hb3⟩
    have hz := SZ.out.2
    have q0 := (hb3.cell (p := ⟨w.heap.size + 1, 0, none⟩) (by simp; omega)).trans QQ.out.1.1
    have q1 := (hb3.cell (p := ⟨w.heap.size + 1, 1, none⟩) (by simp; omega)).trans QQ.out.1.2.1
    have q2 := (hb3.cell (p := ⟨w.heap.size + 1, 2, none⟩) (by simp; omega)).trans QQ.out.1.2.2.1
    have q3 := (hb3.cell (p := ⟨w.heap.size + 1, 3, none⟩) (by simp; omega)).trans QQ.out.1.2.2.2.1
    have q4 := (hb3.cell (p := ⟨w.heap.size + 1, 4, none⟩) (by simp; omega)).trans QQ.out.1.2.2.2.2
    have h0 := (hb3.frozen (p := ⟨w.heap.size + 1, 0, none⟩) (by simp; omega)).trans QQ.out.2.1
    have h1 := (hb3.frozen (p := ⟨w.heap.size + 1, 1, none⟩) (by simp; omega)).trans QQ.out.2.2.1
    have h2 := (hb3.frozen (p := ⟨w.heap.size + 1, 2, none⟩) (by simp; omega)).trans QQ.out.2.2.2.1
    have h3 := (hb3.frozen (p := ⟨w.heap.size + 1, 3, none⟩) (by simp; omega)).trans QQ.out.2.2.2.2.1
    have h4 := (hb3.frozen (p := ⟨w.heap.size + 1, 4, none⟩) (by simp; omega)).trans QQ.out.2.2.2.2.2
    have BW3 := Lib.hid (below_join BW.out (by omega) hb3)
    clear hb3 hz p0 p1 p2 p3 p4
    unfold iv
    go_wp2
    refine bodyPost_ret (v := .tuple #[iv _, .int .i64 0]) (by simp [results, Try.results9, go_sem, iv, q0, q1, q2, q3, q4]; rfl) rfl ?_
    exact ⟨rfl, set5 BW3.out (by omega) _ _ _ _ _⟩

end Go.Proofs.Ytplnnlnkcfappaa.Oa
