/- OpsSizes: add. -/
import Derived.Test.YtplnnlnkcfappaaOh
namespace Go.Proofs.Ytplnnlnkcfappaa.Oa
open Go.RowKit
set_option linter.unusedSimpArgs false
set_option linter.unusedVariables false

theorem fourJ {w w1 : World} {o o' o2 o3 : Obj} (h : Below ((((w.alloc o).alloc o').alloc o2).alloc o3).heap.size ((((w.alloc o).alloc o').alloc o2).alloc o3) w1) : Below (w.heap.size + 3) (((w.alloc o).alloc o').alloc o2) w1 :=
  (below_more (Below.refl (w.heap.size + 3) (((w.alloc o).alloc o').alloc o2)) (by simp) o3).trans (h.mono (by simp))

set_option maxHeartbeats 2000000 in
theorem addNo_calls (w : World) (k1 k2 : Int) (hk : (k1 = 0 ∧ (k2 = 0 ∨ k2 = 3 ∨ k2 = 4)) ∨ (k2 = 0 ∧ (k1 = 3 ∨ k1 = 4))) (s1 s2 : ByteArray) (a1 a2 : Option Addr) (m1 m2 c1 c2 : Nat) :
    Calls Try.prog 23 #[cv k1 s1 (.slice a1 m1 c1), cv k2 s2 (.slice a2 m2 c2)] w fun e w' => e = .returned (.tuple #[cv 0 ⟨#[]⟩ nilL, .int .i64 1]) ∧ Below w.heap.size w w' := by
  have g1 : k1 ≠ 1 ∧ k1 ≠ 2 ∧ k2 ≠ 1 ∧ k2 ≠ 2 := by omega
  have G := Lib.hid g1
  clear g1
  unfold cv
  rcases hk with ⟨rfl, rfl | rfl | rfl⟩ | ⟨rfl, rfl | rfl⟩
  all_goals
    go_enter Try.func23, Try.ntmps23
    go_wp2_with fail
    refine (numbers_calls _ _ _ G.out.1 G.out.2.1 G.out.2.2.1 G.out.2.2.2 s1 s2 a1 a2 m1 m2 c1 c2 _ _).mono ?_
    rintro e w4 ⟨rfl, hb⟩
    have HB4 := Lib.hid (threeJ hb)
    obtain ⟨_, _, ⟨q0, q1, q2, q3, q4⟩, h0, h1, h2, h3, h4⟩ := facts3 HB4.out
    clear hb
    unfold cv nilL
    go_wp2
    refine bodyPost_ret (v := .tuple #[cv 0 ⟨#[]⟩ nilL, .int .i64 1]) (by simp [results, Try.results23, go_sem, cv, nilL, q0, q1, q2, q3, q4]) rfl ?_
    exact ⟨rfl, set5 (threeB HB4.out) (by omega) _ _ _ _ _⟩

set_option maxHeartbeats 2000000 in
theorem addText_calls (w : World) (s1 s2 : ByteArray) (h1 : s1.size ≤ 1000) (h2 : s2.size ≤ 1000) : Calls Try.prog 23 #[cv 3 s1 nilL, cv 3 s2 nilL] w (MadePost 3 (s1.size + s2.size) w) := by
  unfold cv nilL
  go_enter Try.func23, Try.ntmps23
  go_wp2_with fail
  refine (made_calls (k := 3) (n := s1.size + s2.size) (.inr ⟨rfl, s1 ++ s2, rfl, by simp⟩) (by omega)).mono ?_
  rintro e w4 ⟨r, rfl, hv, hf, hb⟩
  have HB4 := Lib.hid (threeJ hb)
  obtain ⟨_, _, ⟨q0, q1, q2, q3, q4⟩, h0, h1, h2, h3, h4⟩ := facts3 HB4.out
  obtain ⟨k', s', a', m', cap', rfl⟩ := copy_form hv
  have HV := Lib.hid hv
  have HF := Lib.hid hf
  clear hb hv hf
  obtain ⟨e0, he⟩ : ∃ e0 : Int, (if s1.size + s2.size ≤ 999 then 0 else 4) = e0 := ⟨_, rfl⟩
  rw [he]
  have HE := Lib.hid he
  clear he
  unfold cv
  go_wp2
  refine bodyPost_ret (v := .tuple #[cv k' s' (.slice a' m' cap'), .int .i64 e0]) (by simp [results, Try.results23, go_sem, cv, nilL, q0, q1, q2, q3, q4]) rfl ?_
  exact ⟨_, by rw [HE.out], copy_set5 HV.out HF.out (by simp) _ _ _ _ _, HF.out.mono (by simp; omega), set5 (threeB HB4.out) (by omega) _ _ _ _ _⟩

set_option maxHeartbeats 2000000 in
theorem addList_calls (w : World) (p1 p2 : Addr) (c1 c2 : Nat) (l1 l2 : List Unit) (h1 : Sl nc 5 w (.slice (some p1) l1.length c1) l1) (h2 : Sl nc 5 w (.slice (some p2) l2.length c2) l2) (hl1 : l1.length ≤ 1000) (hl2 : l2.length ≤ 1000) :
    Calls Try.prog 23 #[cv 4 ⟨#[]⟩ (.slice (some p1) l1.length c1), cv 4 ⟨#[]⟩ (.slice (some p2) l2.length c2)] w (MadePost 4 (l1.length + l2.length) w) := by
  have H1 := Lib.hid h1
  have H2 := Lib.hid h2
  clear h1 h2
  unfold cv
  go_enter Try.func23, Try.ntmps23
  go_wp2_with fail
  refine (concat_calls _ (w.heap.size + 1 + 1 + 1) p1 p2 c1 c2 l1 l2 (H1.out.below (below_more (three _ _ _ _) (Nat.le_refl _) _)) (H2.out.below (below_more (three _ _ _ _) (Nat.le_refl _) _)) (by omega) (by omega) (by simp) (by simp [go_sem]) (by simp [go_sem])).mono ?_
  rintro e w3 ⟨r, rfl, hs, hb⟩
  obtain ⟨a, cap, rfl⟩ := hs.form
  rw [List.length_append] at hs
  rw [List.length_append]
  have HB3 := Lib.hid (fourJ hb)
  have HS := Lib.hid hs
  clear hb hs
  go_wp2_with fail
  refine (made_calls (k := 4) (n := l1.length + l2.length) (.inl ⟨rfl, _, l1 ++ l2, rfl, HS.out, by simp⟩) (by omega)).mono ?_
  rintro e w4 ⟨r, rfl, hv, hf, hb⟩
  have HB4 := Lib.hid (threeK HB3.out hb)
  obtain ⟨_, _, ⟨q0, q1, q2, q3, q4⟩, h0, h1, h2, h3, h4⟩ := facts3 HB4.out
  obtain ⟨k', s', a', m', cap', rfl⟩ := copy_form hv
  have HV := Lib.hid hv
  have HF := Lib.hid hf
  clear hb hv hf
  obtain ⟨e0, he⟩ : ∃ e0 : Int, (if l1.length + l2.length ≤ 999 then 0 else 4) = e0 := ⟨_, rfl⟩
  rw [he]
  have HE := Lib.hid he
  clear he
  unfold cv
  go_wp2
  refine bodyPost_ret (v := .tuple #[cv k' s' (.slice a' m' cap'), .int .i64 e0]) (by simp [results, Try.results23, go_sem, cv, nilL, q0, q1, q2, q3, q4]) rfl ?_
  have hs := HB3.out.size
  simp at hs
  exact ⟨_, by rw [HE.out], copy_set5 HV.out HF.out (by omega) _ _ _ _ _, HF.out.mono (by omega), set5 (threeB HB4.out) (by omega) _ _ _ _ _⟩

end Go.Proofs.Ytplnnlnkcfappaa.Oa
