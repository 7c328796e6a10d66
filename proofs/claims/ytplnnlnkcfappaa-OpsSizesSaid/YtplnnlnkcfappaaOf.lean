/- OpsSizes: Copy, made. -/
import Derived.Test.YtplnnlnkcfappaaOe
namespace Go.Proofs.Ytplnnlnkcfappaa.Oa
open Go.RowKit
set_option linter.unusedSimpArgs false
set_option linter.unusedVariables false

/-- what a copy answers has the form of a value -/
theorem copy_form {k : Int} {n : Nat} {w : World} {r : Value} (h : if n ≤ 999 then Vl k w r n else r = cv 0 ⟨#[]⟩ nilL) : ∃ k' s a m cap, r = cv k' s (.slice a m cap) := by
  split at h
  · obtain ⟨s, a, m, cap, rfl⟩ := h.form
    exact ⟨_, _, _, _, _, rfl⟩
  · exact ⟨_, _, _, _, _, h⟩
theorem copy_set5 {k : Int} {n : Nat} {w : World} {r : Value} {B : Nat} (h : if n ≤ 999 then Vl k w r n else r = cv 0 ⟨#[]⟩ nilL) (hf : Fr B r) {g : Nat} (hg : g < B) (u0 u1 u2 u3 u4 : Value) :
    if n ≤ 999 then Vl k (((((w.setCell ⟨g, 0, none⟩ u0).setCell ⟨g, 1, none⟩ u1).setCell ⟨g, 2, none⟩ u2).setCell ⟨g, 3, none⟩ u3).setCell ⟨g, 4, none⟩ u4) r n else r = cv 0 ⟨#[]⟩ nilL := by
  split
  · rename_i h9
    rw [if_pos h9] at h
    exact h.set5 hf hg _ _ _ _ _
  · rename_i h9
    rw [if_neg h9] at h
    exact h

set_option maxHeartbeats 1000000 in
theorem copy_calls {k : Int} {w : World} {v : Value} {n : Nat} (h : Vl k w v n) (hn : n ≤ 2000) : Calls Try.prog 61 #[v] w (CopyPost k n w) := by
  obtain ⟨s, a, m, cap, rfl⟩ := h.form
  have H := Lib.hid h
  clear h
  unfold cv
  go_enter Try.func61, Try.ntmps61
  go_wp2_with fail
  refine (is_calls (H.out.below (two _ _ _)) hn).mono ?_
  rintro e w2 ⟨r, rfl, hv, hf, hb2⟩
  have HB2 := Lib.hid (twoJ hb2)
  obtain ⟨_, ⟨q0, q1, q2, q3, q4⟩, h0, h1, h2, h3, h4⟩ := facts2 HB2.out
  obtain ⟨k', s', a', m', cap', rfl⟩ := copy_form hv
  have HV := Lib.hid hv
  have HF := Lib.hid hf
  clear hb2 hv hf
  unfold cv
  go_wp2
  refine bodyPost_ret (v := cv k' s' (.slice a' m' cap')) (by simp [results, Try.results61, go_sem, cv, nilL, q0, q1, q2, q3, q4]) rfl ?_
  exact ⟨_, rfl, copy_set5 HV.out HF.out (by simp) _ _ _ _ _, HF.out.mono (by simp; omega), Oa.set5 (twoB HB2.out) (by simp) _ _ _ _ _⟩

/-- what made answers -/
def MadePost (k : Int) (n : Nat) (w : World) (e : Ending) (w' : World) : Prop := ∃ r, e = .returned (.tuple #[r, .int .i64 (if n ≤ 999 then 0 else 4)]) ∧ (if n ≤ 999 then Vl k w' r n else r = cv 0 ⟨#[]⟩ nilL) ∧ Fr w.heap.size r ∧ Below w.heap.size w w'

set_option maxHeartbeats 1000000 in
theorem made_calls {k : Int} {w : World} {v : Value} {n : Nat} (h : Vl k w v n) (hn : n ≤ 2000) : Calls Try.prog 45 #[v] w (MadePost k n w) := by
  obtain ⟨s, a, m, cap, rfl⟩ := h.form
  have H := Lib.hid h
  clear h
  unfold MadePost
  by_cases h9 : n ≤ 999
  · simp only [if_pos h9]
    unfold cv
    go_enter Try.func45, Try.ntmps45
    go_wp2_with fail
    refine (ok_calls (H.out.below (two _ _ _)) hn).mono ?_
    rintro e w1 ⟨rfl, hb1⟩
    rw [decide_eq_true h9]
    have HB1 := Lib.hid (twoJ hb1)
    have hb2 := (two _ _ _).trans (hb1.mono (by simp; omega))
    have HV1 := Lib.hid (H.out.below hb2)
    obtain ⟨⟨p0, p1, p2, p3, p4⟩, _, _⟩ := facts2 HB1.out
    clear hb1 hb2
    go_wp2_with fail
    refine (copy_calls HV1.out hn).mono ?_
    rintro e w2 ⟨r, rfl, hv, hf, hb2⟩
    rw [if_pos h9] at hv
    have HB2 := Lib.hid (twoK HB1.out hb2)
    obtain ⟨_, ⟨q0, q1, q2, q3, q4⟩, h0, h1, h2, h3, h4⟩ := facts2 HB2.out
    obtain ⟨s', a', m', cap', rfl⟩ := hv.form
    have HV := Lib.hid hv
    have HF := Lib.hid hf
    clear hb2 hv hf
    unfold cv
    go_wp2
    refine bodyPost_ret (v := .tuple #[cv k s' (.slice a' m' cap'), .int .i64 0]) (by simp [results, Try.results45, go_sem, cv, nilL, q0, q1, q2, q3, q4]) rfl ?_
    have hs := HB1.out.size
    simp at hs
    exact ⟨_, rfl, HV.out.set5 HF.out (by omega) _ _ _ _ _, HF.out.mono (by omega), Oa.set5 (twoB HB2.out) (by simp) _ _ _ _ _⟩
  · simp only [if_neg h9]
    unfold cv
    go_enter Try.func45, Try.ntmps45
    go_wp2_with fail
    refine (ok_calls (H.out.below (two _ _ _)) hn).mono ?_
    rintro e w1 ⟨rfl, hb1⟩
    rw [decide_eq_false h9]
    have HB1 := Lib.hid (twoJ hb1)
    obtain ⟨⟨p0, p1, p2, p3, p4⟩, _, _⟩ := facts2 HB1.out
    clear hb1
    go_wp2_with fail
    refine (wrong_b _ 4).mono ?_
    rintro e w2 ⟨rfl, hb2⟩
    have HB2 := Lib.hid (twoK HB1.out hb2)
    obtain ⟨_, ⟨q0, q1, q2, q3, q4⟩, h0, h1, h2, h3, h4⟩ := facts2 HB2.out
    clear hb2
    unfold cv nilL
    go_wp2
    refine bodyPost_ret (v := .tuple #[cv 0 ⟨#[]⟩ nilL, .int .i64 4]) (by simp [results, Try.results45, go_sem, cv, nilL, q0, q1, q2, q3, q4]) rfl ?_
    exact ⟨_, rfl, rfl, fr_nil _, Oa.set5 (twoB HB2.out) (by simp) _ _ _ _ _⟩

end Go.Proofs.Ytplnnlnkcfappaa.Oa
