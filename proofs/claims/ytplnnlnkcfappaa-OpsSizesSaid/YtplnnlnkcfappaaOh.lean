/- OpsSizes: numbers, add. -/
import Derived.Test.YtplnnlnkcfappaaOg
import Derived.Deep.QuietTactic
namespace Go.Proofs.Ytplnnlnkcfappaa.Oa
open Go.RowKit
set_option linter.unusedSimpArgs false
set_option linter.unusedVariables false

set_option maxHeartbeats 1000000 in
theorem ints_calls (w : World) (k1 k2 : Int) (h1 : k1 ≠ 1) (s1 s2 : ByteArray) (a1 a2 : Option Addr) (m1 m2 c1 c2 : Nat) :
    Calls Try.prog 54 #[cv k1 s1 (.slice a1 m1 c1), cv k2 s2 (.slice a2 m2 c2)] w fun e w' => e = .returned (.bool false) ∧ Below w.heap.size w w' := by
  unfold cv
  have h1' : (k1 == 1) = false := by simp [h1]
  go_enter Try.func54, Try.ntmps54
  go_wp2
  all_goals (go_ret; exact ⟨rfl, two _ _ _⟩)

theorem below_drewN' {B : Nat} {a w : World} (h : Below B a w) (n : Nat) : Below B a (w.drewN n) := ⟨h.os, h.tape, h.output, h.size, h.block⟩

set_option maxHeartbeats 1000000 in
theorem number_calls (w : World) (k1 : Int) (h1 : k1 ≠ 1) (h2 : k1 ≠ 2) (s1 : ByteArray) (a1 : Option Addr) (m1 c1 : Nat) :
    Calls Try.prog 43 #[cv k1 s1 (.slice a1 m1 c1)] w fun e w' => e = .returned (.tuple #[.complex .f64 0 0, .bool false]) ∧ Below w.heap.size w w' := by
  unfold cv
  have h1' : (k1 == 1) = false := by simp [h1]
  have h2' : (k1 == 2) = false := by simp [h2]
  go_enter Try.func43, Try.ntmps43
  go_wp2
  go_quiet (fail)
  go_wp2
  go_ret2
  exact ⟨rfl, below_drewN' (below_more (Below.refl _ _) (Nat.le_refl _) _) _⟩

theorem facts3 {w w1 : World} {a0 a1 a2 a3 a4 b0 b1 b2 b3 b4 z0 z1 z2 z3 z4 : Value} (hb : Below (w.heap.size + 3) (((w.alloc (.cells #[a0, a1, a2, a3, a4] 25)).alloc (.cells #[b0, b1, b2, b3, b4] 25)).alloc (.cells #[z0, z1, z2, z3, z4] 25)) w1) :
    (w1.cell? ⟨w.heap.size, 0, none⟩ = some a0 ∧ w1.cell? ⟨w.heap.size, 1, none⟩ = some a1 ∧ w1.cell? ⟨w.heap.size, 2, none⟩ = some a2 ∧ w1.cell? ⟨w.heap.size, 3, none⟩ = some a3 ∧ w1.cell? ⟨w.heap.size, 4, none⟩ = some a4) ∧
    (w1.cell? ⟨w.heap.size + 1, 0, none⟩ = some b0 ∧ w1.cell? ⟨w.heap.size + 1, 1, none⟩ = some b1 ∧ w1.cell? ⟨w.heap.size + 1, 2, none⟩ = some b2 ∧ w1.cell? ⟨w.heap.size + 1, 3, none⟩ = some b3 ∧ w1.cell? ⟨w.heap.size + 1, 4, none⟩ = some b4) ∧
    (w1.cell? ⟨w.heap.size + 2, 0, none⟩ = some z0 ∧ w1.cell? ⟨w.heap.size + 2, 1, none⟩ = some z1 ∧ w1.cell? ⟨w.heap.size + 2, 2, none⟩ = some z2 ∧ w1.cell? ⟨w.heap.size + 2, 3, none⟩ = some z3 ∧ w1.cell? ⟨w.heap.size + 2, 4, none⟩ = some z4) ∧
    (w1.frozen? ⟨w.heap.size + 2, 0, none⟩ = false ∧ w1.frozen? ⟨w.heap.size + 2, 1, none⟩ = false ∧ w1.frozen? ⟨w.heap.size + 2, 2, none⟩ = false ∧ w1.frozen? ⟨w.heap.size + 2, 3, none⟩ = false ∧ w1.frozen? ⟨w.heap.size + 2, 4, none⟩ = false) := by
  refine ⟨⟨?_, ?_, ?_, ?_, ?_⟩, ⟨?_, ?_, ?_, ?_, ?_⟩, ⟨?_, ?_, ?_, ?_, ?_⟩, ⟨?_, ?_, ?_, ?_, ?_⟩⟩
  all_goals first | (rw [hb.cell (by simp)]; simp [go_sem]; done) | (rw [hb.frozen (by simp)]; simp [go_sem]; done)

theorem three (w : World) (o o' o2 : Obj) : Below w.heap.size w (((w.alloc o).alloc o').alloc o2) := below_more (two _ _ _) (Nat.le_refl _) _
theorem threeJ {w w1 : World} {o o' o2 : Obj} (h : Below (((w.alloc o).alloc o').alloc o2).heap.size (((w.alloc o).alloc o').alloc o2) w1) : Below (w.heap.size + 3) (((w.alloc o).alloc o').alloc o2) w1 := by simpa using h
theorem threeK {w w1 w2 : World} {o o' o2 : Obj} (h : Below (w.heap.size + 3) (((w.alloc o).alloc o').alloc o2) w1) (h2 : Below w1.heap.size w1 w2) : Below (w.heap.size + 3) (((w.alloc o).alloc o').alloc o2) w2 :=
  h.trans (h2.mono (by have := h.size; simp at this; omega))
theorem threeB {w w1 : World} {o o' o2 : Obj} (h : Below (w.heap.size + 3) (((w.alloc o).alloc o').alloc o2) w1) : Below w.heap.size w w1 := (three w o o' o2).trans (h.mono (by omega))

set_option maxHeartbeats 2000000 in
theorem numbers_calls (w : World) (k1 k2 : Int) (h1 : k1 ≠ 1) (h2 : k1 ≠ 2) (h3 : k2 ≠ 1) (h4 : k2 ≠ 2) (s1 s2 : ByteArray) (a1 a2 : Option Addr) (m1 m2 c1 c2 : Nat) (F G : Value) :
    Calls Try.prog 47 #[cv k1 s1 (.slice a1 m1 c1), cv k2 s2 (.slice a2 m2 c2), F, G] w fun e w' => e = .returned (.tuple #[cv 0 ⟨#[]⟩ nilL, .int .i64 1]) ∧ Below w.heap.size w w' := by
  unfold cv
  go_enter Try.func47, Try.ntmps47
  go_wp2_with fail
  refine (ints_calls _ k1 k2 h1 s1 s2 a1 a2 m1 m2 c1 c2).mono ?_
  rintro e w1 ⟨rfl, hb⟩
  have HB1 := Lib.hid (threeJ hb)
  obtain ⟨⟨p0, p1, p2, p3, p4⟩, _⟩ := facts3 HB1.out
  clear hb
  go_wp2_with fail
  refine (number_calls _ k1 h1 h2 s1 a1 m1 c1).mono ?_
  rintro e w2 ⟨rfl, hb⟩
  have HB2 := Lib.hid (threeK HB1.out hb)
  clear p0 p1 p2 p3 p4
  obtain ⟨_, ⟨p0, p1, p2, p3, p4⟩, _⟩ := facts3 HB2.out
  clear hb
  go_wp2_with fail
  refine (number_calls _ k2 h3 h4 s2 a2 m2 c2).mono ?_
  rintro e w3 ⟨rfl, hb⟩
  have HB3 := Lib.hid (threeK HB2.out hb)
  clear p0 p1 p2 p3 p4 hb
  go_wp2_with fail
  refine (wrong_b _ 1).mono ?_
  rintro e w4 ⟨rfl, hb⟩
  have HB4 := Lib.hid (threeK HB3.out hb)
  obtain ⟨_, _, ⟨q0, q1, q2, q3, q4⟩, h0, h1, h2, h3, h4⟩ := facts3 HB4.out
  clear hb
  unfold cv nilL
  go_wp2
  refine bodyPost_ret (v := .tuple #[cv 0 ⟨#[]⟩ nilL, .int .i64 1]) (by simp [results, Try.results47, go_sem, cv, nilL, q0, q1, q2, q3, q4]) rfl ?_
  exact ⟨rfl, set5 (threeB HB4.out) (by omega) _ _ _ _ _⟩

end Go.Proofs.Ytplnnlnkcfappaa.Oa
