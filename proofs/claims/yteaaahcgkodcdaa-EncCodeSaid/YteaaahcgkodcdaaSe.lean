/- The walk of EncCode. -/
import Derived.Test.YteaaahcgkodcdaaSd
namespace Go.Proofs.Yteaaahcgkodcdaa.Sa
open Go.RowKit Go.Proofs.Yteaaahcgkodcdaa.Ea
set_option linter.unusedSimpArgs false
set_option linter.unusedVariables false

theorem allOk_snoc (l : List MI) (k : Nat) (h : k < l.length) : allOk (l.take (k + 1)) = (allOk (l.take k) && (oneOf l[k]).2) := by
  unfold allOk
  rw [List.take_succ_eq_append_getElem h, List.all_append]; simp
theorem decOk_snoc (l : List Int) (k : Nat) (h : k < l.length) : decOk (l.take (k + 1)) = (decOk (l.take k) && backOk l[k]) := by
  unfold decOk
  rw [List.take_succ_eq_append_getElem h, List.all_append]; simp

theorem words_back {l : List MI} (h : allOk l = true) : (∀ x ∈ wordsOf l, 0 ≤ x ∧ x < 4294967296) ∧ decOk (wordsOf l) = true ∧ decOf (wordsOf l) = l := by
  induction l with
  | nil => exact ⟨fun x hx => by simp [wordsOf] at hx, rfl, rfl⟩
  | cons m l ih =>
    simp only [allOk, List.all_cons, Bool.and_eq_true] at h
    obtain ⟨h1, h2, h3⟩ := ih (by unfold allOk; exact h.2)
    have hm : oneOf m = ((oneOf m).1, true) := Prod.ext rfl h.1
    obtain ⟨r0, r1, r2, r3⟩ := roundtrip (show oneF m.op m.a m.b m.c m.d = ((oneOf m).1, true) from hm)
    refine ⟨?_, ?_, ?_⟩
    · intro x hx
      simp only [wordsOf, List.map_cons, List.mem_cons] at hx
      rcases hx with rfl | hx
      · exact ⟨r0, r1⟩
      · exact h1 x hx
    · simp only [decOk, wordsOf, List.map_cons, List.all_cons, Bool.and_eq_true]
      exact ⟨r2, h2⟩
    · simp only [decOf, wordsOf, List.map_cons]
      have hb : backMI (oneOf m).1 = m := by
        unfold backMI
        rw [if_pos r2]
        unfold backArgs at r3
        simp only [Array.mk.injEq, List.cons.injEq, Value.int.injEq, true_and, and_true] at r3
        obtain ⟨e0, e1, e2, e3, e4⟩ := r3
        rw [e0] at *
        rw [e1, e2, e3, e4]
      rw [hb]
      exact congrArg (m :: ·) h3

set_option maxHeartbeats 8000000 in
set_option maxRecDepth 100000 in
theorem encCode_long (w : World) (vl vw : Value) (l : List MI) (ws : List Int) (hl : Sl MI.cells 5 w vl l) (hw : Sl u32c 1 w vw ws) (hlong : 300 < l.length ∨ 300 < ws.length) :
    Calls Try.prog 6 #[vl, vw] w fun e w' => e = .returned (.bool true) ∧ Below w.heap.size w w' := by
  obtain ⟨al, capl, rfl⟩ := hl.form
  obtain ⟨aw, capw, rfl⟩ := hw.form
  clear hl hw
  by_cases h1 : 300 < l.length
  · have h2 : (300 : Int) < (l.length : Int) := by omega
    clear hlong
    go_enter Try.func6, Try.ntmps6
    go_wp2_with fail
    refine (awake_calls _).mono ?_
    rintro e w1 ⟨rfl, hb1⟩
    have HB1 := Lib.hid hb1
    clear hb1
    go_wp2
    go_ret
    exact ⟨rfl, HB1.out⟩
  · have h2 : ¬ ((300 : Int) < (l.length : Int)) := by omega
    have h3 : (300 : Int) < (ws.length : Int) := by omega
    clear hlong
    go_enter Try.func6, Try.ntmps6
    go_wp2_with fail
    refine (awake_calls _).mono ?_
    rintro e w1 ⟨rfl, hb1⟩
    have HB1 := Lib.hid hb1
    clear hb1
    go_wp2
    go_ret
    exact ⟨rfl, HB1.out⟩

end Go.Proofs.Yteaaahcgkodcdaa.Sa
