/- OpsSizes: values; whether one is, copies. -/
import Derived.Test.YtplnnlnkcfappaaOd
namespace Go.Proofs.Ytplnnlnkcfappaa.Oa
open Go.RowKit
set_option linter.unusedSimpArgs false
set_option linter.unusedVariables false

/-- in w, v is a list of n nils (k = 4), or a text of n bytes (k = 3) -/
def Vl (k : Int) (w : World) (v : Value) (n : Nat) : Prop :=
  (k = 4 ∧ ∃ (L : Value) (l : List Unit), v = cv 4 ⟨#[]⟩ L ∧ Sl nc 5 w L l ∧ l.length = n) ∨ (k = 3 ∧ ∃ s : ByteArray, v = cv 3 s nilL ∧ s.size = n)

theorem Vl.below {k : Int} {w w' : World} {v : Value} {n : Nat} (h : Vl k w v n) (hb : Below w.heap.size w w') : Vl k w' v n := by
  rcases h with ⟨hk, L, l, hv, hs, hn⟩ | h
  · exact .inl ⟨hk, L, l, hv, hs.below hb, hn⟩
  · exact .inr h

/-- its form, and the length of its list -/
theorem Vl.form {k : Int} {w : World} {v : Value} {n : Nat} (h : Vl k w v n) : ∃ s a m cap, v = cv k s (.slice a m cap) := by
  rcases h with ⟨rfl, L, l, rfl, hs, rfl⟩ | ⟨rfl, s, rfl, rfl⟩
  · obtain ⟨a, cap, rfl⟩ := hs.form
    exact ⟨_, _, _, _, rfl⟩
  · exact ⟨_, _, _, _, rfl⟩

theorem ret1b {c d : Bool} (h2 : c = d) : Ending.returned (.bool c) = .returned (.bool d) := by rw [h2]
theorem sound_calls {k : Int} {w : World} {v : Value} {n : Nat} (h : Vl k w v n) (hn : n ≤ 2000) : Calls Try.prog 64 #[v, .int .i64 0, .int .i64 1000] w fun e w' => e = .returned (sz n) ∧ Below w.heap.size w w' := by
  rcases h with ⟨rfl, L, l, rfl, hs, rfl⟩ | ⟨rfl, s, rfl, rfl⟩
  · exact soundList_calls w L l hs hn
  · exact soundText_calls w s hn

/-- its list, if it has one, lies in a block from B on -/
def Fr (B : Nat) (v : Value) : Prop := ∀ k s b off m cap, v = cv k s (.slice (some ⟨b, off, none⟩) m cap) → B ≤ b
theorem Fr.mono {B B' : Nat} {v : Value} (h : Fr B v) (hB : B' ≤ B) : Fr B' v := fun k s b off m cap e => Nat.le_trans hB (h k s b off m cap e)

theorem Sl.set {w : World} {a : Option Addr} {n cap : Nat} {l : List Unit} (h : Sl nc 5 w (.slice a n cap) l) {p : Addr} (hf : ∀ b off, a = some ⟨b, off, none⟩ → b ≠ p.block) (u : Value) : Sl nc 5 (w.setCell p u) (.slice a n cap) l := by
  rcases h with h | ⟨b, off, c, hv, hcap, hlt, hc⟩
  · exact .inl h
  · refine .inr ⟨b, off, c, hv, hcap, by simpa using hlt, fun i hi j x hx => ?_⟩
    have hb : b ≠ p.block := by
      injection hv with h1
      exact hf b off h1
    rw [World.cell?_of_block (w := w) (Below.heap_setCell w p u b hb)]
    exact hc i hi j x hx

theorem Vl.set {k : Int} {w : World} {v : Value} {n B : Nat} (h : Vl k w v n) (hf : Fr B v) {p : Addr} (hp : p.block < B) (u : Value) : Vl k (w.setCell p u) v n := by
  rcases h with ⟨hk, L, l, rfl, hs, hn⟩ | h
  · obtain ⟨a, cap, rfl⟩ := hs.form
    exact .inl ⟨hk, _, l, rfl, hs.set (fun b off e => by subst e; have := hf _ _ b off _ _ rfl; omega) u, hn⟩
  · exact .inr h

theorem Vl.set5 {k : Int} {w : World} {v : Value} {n B : Nat} (h : Vl k w v n) (hf : Fr B v) {g : Nat} (hg : g < B) (u0 u1 u2 u3 u4 : Value) : Vl k (((((w.setCell ⟨g, 0, none⟩ u0).setCell ⟨g, 1, none⟩ u1).setCell ⟨g, 2, none⟩ u2).setCell ⟨g, 3, none⟩ u3).setCell ⟨g, 4, none⟩ u4) v n :=
  ((((h.set hf hg _).set hf hg _).set hf hg _).set hf hg _).set hf hg _

theorem copied_calls {k : Int} {w : World} {v : Value} {n : Nat} (h : Vl k w v n) (hn : n ≤ 2000) : Calls Try.prog 65 #[v] w fun e w' => ∃ r, e = .returned r ∧ Vl k w' r n ∧ Fr w.heap.size r ∧ Below w.heap.size w w' := by
  rcases h with ⟨rfl, L, l, rfl, hs, rfl⟩ | ⟨rfl, s, rfl, rfl⟩
  · refine (copiedList_calls w L l hs hn).mono fun e w' ⟨a', cap', h1, h2, h4, h3⟩ => ⟨_, h1, .inl ⟨rfl, _, l, rfl, h2, rfl⟩, ?_, h3⟩
    intro k s b off m cap e
    simp only [cv, Value.agg.injEq, Array.mk.injEq, List.cons.injEq, Value.slice.injEq] at e
    exact h4 b off e.2.2.2.2.1.1
  · refine (copiedText_calls w s).mono fun e w' ⟨h1, h2⟩ => ⟨_, h1, .inr ⟨rfl, s, rfl, rfl⟩, ?_, h2⟩
    intro k s b off m cap e
    simp [cv, nilL] at e

set_option maxHeartbeats 1000000 in
theorem ok_calls {k : Int} {w : World} {v : Value} {n : Nat} (h : Vl k w v n) (hn : n ≤ 2000) : Calls Try.prog 38 #[v] w fun e w' => e = .returned (.bool (decide (n ≤ 999))) ∧ Below w.heap.size w w' := by
  obtain ⟨s, a, m, cap, rfl⟩ := h.form
  have H := Lib.hid h
  clear h
  unfold cv
  go_enter Try.func38, Try.ntmps38
  go_wp2_with fail
  refine (sound_calls (H.out.below (below_more (Below.refl _ _) (Nat.le_refl _) _)) hn).mono ?_
  rintro e w1 ⟨rfl, hb1⟩
  have HB1 := Lib.hid (below_join (below_more (Below.refl _ _) (Nat.le_refl _) _) (Nat.le_refl _) hb1)
  clear hb1
  unfold sz
  by_cases h9 : n ≤ 999
  · rw [if_pos h9]
    go_wp2
    go_ret
    exact ⟨ret1b (decide_eq_true h9).symm, HB1.out⟩
  · rw [if_neg h9]
    go_wp2
    go_ret
    exact ⟨ret1b (decide_eq_false h9).symm, HB1.out⟩

/-- what is known of two blocks of five cells behind what only adds -/
theorem facts2 {w w1 : World} {a0 a1 a2 a3 a4 b0 b1 b2 b3 b4 : Value} (hb : Below (w.heap.size + 2) ((w.alloc (.cells #[a0, a1, a2, a3, a4] 25)).alloc (.cells #[b0, b1, b2, b3, b4] 25)) w1) :
    (w1.cell? ⟨w.heap.size, 0, none⟩ = some a0 ∧ w1.cell? ⟨w.heap.size, 1, none⟩ = some a1 ∧ w1.cell? ⟨w.heap.size, 2, none⟩ = some a2 ∧ w1.cell? ⟨w.heap.size, 3, none⟩ = some a3 ∧ w1.cell? ⟨w.heap.size, 4, none⟩ = some a4) ∧
    (w1.cell? ⟨w.heap.size + 1, 0, none⟩ = some b0 ∧ w1.cell? ⟨w.heap.size + 1, 1, none⟩ = some b1 ∧ w1.cell? ⟨w.heap.size + 1, 2, none⟩ = some b2 ∧ w1.cell? ⟨w.heap.size + 1, 3, none⟩ = some b3 ∧ w1.cell? ⟨w.heap.size + 1, 4, none⟩ = some b4) ∧
    (w1.frozen? ⟨w.heap.size + 1, 0, none⟩ = false ∧ w1.frozen? ⟨w.heap.size + 1, 1, none⟩ = false ∧ w1.frozen? ⟨w.heap.size + 1, 2, none⟩ = false ∧ w1.frozen? ⟨w.heap.size + 1, 3, none⟩ = false ∧ w1.frozen? ⟨w.heap.size + 1, 4, none⟩ = false) := by
  refine ⟨⟨?_, ?_, ?_, ?_, ?_⟩, ⟨?_, ?_, ?_, ?_, ?_⟩, ⟨?_, ?_, ?_, ?_, ?_⟩⟩
  all_goals first | (rw [hb.cell (by simp)]; simp [go_sem]; done) | (rw [hb.frozen (by simp)]; simp [go_sem]; done)

theorem nil_b (w : World) : Calls Try.prog 22 #[] w fun e w' => e = .returned (cv 0 ⟨#[]⟩ nilL) ∧ Below w.heap.size w w' :=
  (nil_calls w).mono fun e w' ⟨h1, h2⟩ => ⟨h1, by rw [h2]; exact below_more (Below.refl _ _) (Nat.le_refl _) _⟩
theorem wrong_b (w : World) (e0 : Int) : Calls Try.prog 12 #[.int .i64 e0] w fun e w' => e = .returned (.tuple #[cv 0 ⟨#[]⟩ nilL, .int .i64 e0]) ∧ Below w.heap.size w w' :=
  (wrong_calls w e0).mono fun e w' ⟨h1, h2⟩ => ⟨h1, by rw [h2]; exact below_more (below_more (Below.refl _ _) (Nat.le_refl _) _) (Nat.le_refl _) _⟩
/-- behind two blocks -/
theorem two (w : World) (o o' : Obj) : Below w.heap.size w ((w.alloc o).alloc o') := below_more (below_more (Below.refl _ _) (Nat.le_refl _) _) (Nat.le_refl _) _
theorem twoJ {w w1 : World} {o o' : Obj} (h : Below ((w.alloc o).alloc o').heap.size ((w.alloc o).alloc o') w1) : Below (w.heap.size + 2) ((w.alloc o).alloc o') w1 := by simpa using h
theorem twoK {w w1 w2 : World} {o o' : Obj} (h : Below (w.heap.size + 2) ((w.alloc o).alloc o') w1) (h2 : Below w1.heap.size w1 w2) : Below (w.heap.size + 2) ((w.alloc o).alloc o') w2 :=
  h.trans (h2.mono (by have := h.size; simp at this; omega))
theorem twoB {w w1 : World} {o o' : Obj} (h : Below (w.heap.size + 2) ((w.alloc o).alloc o') w1) : Below w.heap.size w w1 := (two w o o').trans (h.mono (by omega))

set_option maxHeartbeats 1000000 in
theorem good_calls {k : Int} {w : World} {v : Value} {n : Nat} (h : Vl k w v n) (hn : n ≤ 2000) : Calls Try.prog 14 #[v] w fun e w' => e = .returned (if n ≤ 999 then v else cv 0 ⟨#[]⟩ nilL) ∧ Below w.heap.size w w' := by
  obtain ⟨s, a, m, cap, rfl⟩ := h.form
  have H := Lib.hid h
  clear h
  by_cases h9 : n ≤ 999
  · rw [if_pos h9]
    unfold cv
    go_enter Try.func14, Try.ntmps14
    go_wp2_with fail
    refine (ok_calls (H.out.below (two _ _ _)) hn).mono ?_
    rintro e w1 ⟨rfl, hb1⟩
    rw [decide_eq_true h9]
    have HB1 := Lib.hid (twoJ hb1)
    obtain ⟨⟨p0, p1, p2, p3, p4⟩, ⟨q0, q1, q2, q3, q4⟩, h0, h1, h2, h3, h4⟩ := facts2 HB1.out
    clear hb1
    go_wp2
    refine bodyPost_ret (v := cv k s (.slice a m cap)) (by simp [results, Try.results14, go_sem, cv, nilL, q0, q1, q2, q3, q4]) rfl ?_
    exact ⟨rfl, set5 (twoB HB1.out) (by simp) _ _ _ _ _⟩
  · rw [if_neg h9]
    unfold cv
    go_enter Try.func14, Try.ntmps14
    go_wp2_with fail
    refine (ok_calls (H.out.below (two _ _ _)) hn).mono ?_
    rintro e w1 ⟨rfl, hb1⟩
    rw [decide_eq_false h9]
    have HB1 := Lib.hid (twoJ hb1)
    obtain ⟨⟨p0, p1, p2, p3, p4⟩, _, _⟩ := facts2 HB1.out
    clear hb1
    go_wp2_with fail
    refine (nil_b _).mono ?_
    rintro e w2 ⟨rfl, hb2⟩
    have HB2 := Lib.hid (twoK HB1.out hb2)
    obtain ⟨_, ⟨q0, q1, q2, q3, q4⟩, h0, h1, h2, h3, h4⟩ := facts2 HB2.out
    clear hb2
    unfold cv nilL
    go_wp2
    refine bodyPost_ret (v := cv 0 ⟨#[]⟩ nilL) (by simp [results, Try.results14, go_sem, cv, nilL, q0, q1, q2, q3, q4]) rfl ?_
    exact ⟨rfl, set5 (twoB HB2.out) (by simp) _ _ _ _ _⟩

/-- what a copy answers: the value anew, or nil -/
def CopyPost (k : Int) (n : Nat) (w : World) (e : Ending) (w' : World) : Prop := ∃ r, e = .returned r ∧ (if n ≤ 999 then Vl k w' r n else r = cv 0 ⟨#[]⟩ nilL) ∧ Fr w.heap.size r ∧ Below w.heap.size w w'

theorem fr_nil (B : Nat) : Fr B (cv 0 ⟨#[]⟩ nilL) := by
  intro k s b off m cap e
  simp [cv, nilL] at e

set_option maxHeartbeats 1000000 in
theorem is_calls {k : Int} {w : World} {v : Value} {n : Nat} (h : Vl k w v n) (hn : n ≤ 2000) : Calls Try.prog 40 #[v] w (CopyPost k n w) := by
  obtain ⟨s, a, m, cap, rfl⟩ := h.form
  have H := Lib.hid h
  clear h
  unfold CopyPost
  by_cases h9 : n ≤ 999
  · simp only [if_pos h9]
    unfold cv
    go_enter Try.func40, Try.ntmps40
    go_wp2_with fail
    refine (ok_calls (H.out.below (two _ _ _)) hn).mono ?_
    rintro e w1 ⟨rfl, hb1⟩
    rw [decide_eq_true h9]
    have HB1 := Lib.hid (twoJ hb1)
    have hb2 := (two _ _ _).trans (hb1.mono (by simp; omega))
    have HV1 := Lib.hid (H.out.below hb2)
    obtain ⟨⟨p0, p1, p2, p3, p4⟩, _, _⟩ := facts2 HB1.out
    clear hb1 hb2
    go_wp2_with fail
    refine (copied_calls HV1.out hn).mono ?_
    rintro e w2 ⟨r, rfl, hv, hf, hb2⟩
    have HB2 := Lib.hid (twoK HB1.out hb2)
    obtain ⟨_, ⟨q0, q1, q2, q3, q4⟩, h0, h1, h2, h3, h4⟩ := facts2 HB2.out
    obtain ⟨s', a', m', cap', rfl⟩ := hv.form
    have HV := Lib.hid hv
    have HF := Lib.hid hf
    clear hb2 hv hf
    unfold cv
    go_wp2
    refine bodyPost_ret (v := cv k s' (.slice a' m' cap')) (by simp [results, Try.results40, go_sem, cv, nilL, q0, q1, q2, q3, q4]) rfl ?_
    have hs := HB1.out.size
    simp at hs
    exact ⟨_, rfl, HV.out.set5 HF.out (by omega) _ _ _ _ _, HF.out.mono (by omega), Oa.set5 (twoB HB2.out) (by simp) _ _ _ _ _⟩
  · simp only [if_neg h9]
    unfold cv
    go_enter Try.func40, Try.ntmps40
    go_wp2_with fail
    refine (ok_calls (H.out.below (two _ _ _)) hn).mono ?_
    rintro e w1 ⟨rfl, hb1⟩
    rw [decide_eq_false h9]
    have HB1 := Lib.hid (twoJ hb1)
    obtain ⟨⟨p0, p1, p2, p3, p4⟩, _, _⟩ := facts2 HB1.out
    clear hb1
    go_wp2_with fail
    refine (nil_b _).mono ?_
    rintro e w2 ⟨rfl, hb2⟩
    have HB2 := Lib.hid (twoK HB1.out hb2)
    obtain ⟨_, ⟨q0, q1, q2, q3, q4⟩, h0, h1, h2, h3, h4⟩ := facts2 HB2.out
    clear hb2
    unfold cv nilL
    go_wp2
    refine bodyPost_ret (v := cv 0 ⟨#[]⟩ nilL) (by simp [results, Try.results40, go_sem, cv, nilL, q0, q1, q2, q3, q4]) rfl ?_
    exact ⟨_, rfl, rfl, fr_nil _, Oa.set5 (twoB HB2.out) (by simp) _ _ _ _ _⟩

end Go.Proofs.Ytplnnlnkcfappaa.Oa
