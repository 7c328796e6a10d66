/- OpsSizes: copies. -/
import Derived.Test.YtplnnlnkcfappaaOc
namespace Go.Proofs.Ytplnnlnkcfappaa.Oa
open Go.RowKit
set_option linter.unusedSimpArgs false
set_option linter.unusedVariables false

theorem Sl.clip {w0 : World} {a : Option Addr} {n cap : Nat} {l : List Unit} (h : Sl nc 5 w0 (.slice a n cap) l) : Sl nc 5 w0 (.slice a n n) l := by
  rcases h with ⟨a', cap', e, rfl⟩ | ⟨b, off, cap', e, hcap, hlt, hc⟩
  · injection e with e1 e2 e3
    subst e2
    exact .inl ⟨_, _, rfl, rfl⟩
  · injection e with e1 e2 e3
    subst e1 e2
    exact .inr ⟨b, off, _, rfl, Nat.le_refl _, hlt, hc⟩

set_option maxHeartbeats 400000 in
theorem clip_calls (w : World) (a : Option Addr) (cap : Nat) (l : List Unit) (h : Sl nc 5 w (.slice a l.length cap) l) : Calls Try.prog 73 #[.slice a l.length cap] w fun e w' => e = .returned (.slice a l.length l.length) ∧ w' = w := by
  rcases h with ⟨a', cap', hv, rfl⟩ | ⟨b, off, cap', hv, hcap, hlt, hc⟩
  · have h0 : (0 : Int) ≤ (cap : Int) := by omega
    cases a with
    | none =>
      go_enter Try.func73, Try.ntmps73
      go_wp2
      go_ret
      exact ⟨rfl, rfl⟩
    | some a =>
      obtain ⟨b, off, spot⟩ := a
      go_enter Try.func73, Try.ntmps73
      go_wp2
      go_ret
      exact ⟨rfl, rfl⟩
  · clear hc
    injection hv with h1 _ h2
    subst h1 h2
    have h1 : (l.length : Int) ≤ cap := by omega
    go_enter Try.func73, Try.ntmps73
    go_wp2
    go_ret
    exact ⟨rfl, rfl⟩

theorem owns_set {base : Nat} {e : TypeId} {sz : Nat} {w : World} {v : Value} {n : Nat} {xs : List Value} (h : w.ownsRow base e sz v n xs) {p : Addr} (hp : p.block < base) (u : Value) : (w.setCell p u).ownsRow base e sz v n xs := by
  obtain ⟨hl, h | ⟨g, cap, cur, hv, hg, hh, r⟩⟩ := h
  · exact ⟨hl, .inl h⟩
  · refine ⟨hl, .inr ⟨g, cap, cur, hv, hg, ?_, r⟩⟩
    rw [Below.heap_setCell w p u g (by omega)]; exact hh

theorem owns_below {base : Nat} {e : TypeId} {sz : Nat} {w w' : World} {v : Value} {n : Nat} {xs : List Value} (h : w.ownsRow base e sz v n xs) (hb : Below w.heap.size w w') : w'.ownsRow base e sz v n xs := by
  obtain ⟨hl, h | ⟨g, cap, cur, hv, hg, hh, r⟩⟩ := h
  · exact ⟨hl, .inl h⟩
  · refine ⟨hl, .inr ⟨g, cap, cur, hv, hg, ?_, r⟩⟩
    have hlt : g < w.heap.size := by
      rcases Nat.lt_or_ge g w.heap.size with hq | hq
      · exact hq
      · rw [Array.getElem?_eq_none hq] at hh; cases hh
    rw [hb.block g hlt]; exact hh

theorem flat_snoc (l : List Unit) (k : Nat) (h : k < l.length) : flat nc (l.take (k + 1)) = flat nc (l.take k) ++ nc () := by
  rw [List.take_succ_eq_append_getElem h, flat_append]; rfl

set_option maxHeartbeats 1000000 in
theorem copiedNil_calls (w : World) : Calls Try.prog 65 #[cv 0 ⟨#[]⟩ nilL] w fun e w' => e = .returned (cv 0 ⟨#[]⟩ nilL) ∧ Below w.heap.size w w' := by
  unfold cv nilL
  go_enter Try.func65, Try.ntmps65
  go_wp2
  refine bodyPost_ret (v := cv 0 ⟨#[]⟩ nilL) (by simp [results, Try.results65, go_sem, cv, nilL]) rfl ?_
  exact ⟨rfl, by repeat (first | exact Below.refl _ _ | refine below_more ?_ (Nat.le_refl _) _)⟩

set_option maxHeartbeats 1000000 in
theorem copiedText_calls (w : World) (s : ByteArray) : Calls Try.prog 65 #[cv 3 s nilL] w fun e w' => e = .returned (cv 3 s nilL) ∧ Below w.heap.size w w' := by
  unfold cv nilL
  go_enter Try.func65, Try.ntmps65
  go_wp2
  refine bodyPost_ret (v := cv 3 s nilL) (by simp [results, Try.results65, go_sem, cv, nilL]) rfl ?_
  exact ⟨rfl, by repeat (first | exact Below.refl _ _ | refine below_more ?_ (Nat.le_refl _) _)⟩

set_option maxHeartbeats 4000000 in
set_option maxRecDepth 100000 in
theorem copiedList_calls (w : World) (v : Value) (l : List Unit) (h : Sl nc 5 w v l) (hl : l.length ≤ 2000) : Calls Try.prog 65 #[cv 4 ⟨#[]⟩ v] w fun e w' => ∃ a' cap', e = .returned (cv 4 ⟨#[]⟩ (.slice a' l.length cap')) ∧ Sl nc 5 w' (.slice a' l.length cap') l ∧ (∀ b off, a' = some ⟨b, off, none⟩ → w.heap.size ≤ b) ∧ Below w.heap.size w w' := by
  obtain ⟨a, cap, rfl⟩ := h.form
  have HS := Lib.hid h
  clear h
  obtain ⟨i0, hi, hz0, hz1, hz2⟩ := info_parts info25
  unfold cv
  go_enter Try.func65, Try.ntmps65
  go_wp2
  generalize hW : ((w.alloc _).alloc _ : World) = W
  have hWs : W.heap.size = w.heap.size + 2 := by rw [← hW]; simp
  have hWB : Below w.heap.size w W := by rw [← hW]; exact below_more (below_more (Below.refl _ _) (Nat.le_refl _) _) (Nat.le_refl _) _
  have a0 : W.cell? ⟨w.heap.size, 0, none⟩ = some (.int .i64 4) := by rw [← hW]; simp [go_sem]
  have a1 : W.cell? ⟨w.heap.size, 1, none⟩ = some (.int .i64 0) := by rw [← hW]; simp [go_sem]
  have a2 : W.cell? ⟨w.heap.size, 2, none⟩ = some (.complex .f64 0 0) := by rw [← hW]; simp [go_sem]
  have a3 : W.cell? ⟨w.heap.size, 3, none⟩ = some (.string ⟨#[]⟩) := by rw [← hW]; simp [go_sem]
  have a4 : W.cell? ⟨w.heap.size, 4, none⟩ = some (.slice a l.length cap) := by rw [← hW]; simp [go_sem]
  have b0 : W.cell? ⟨w.heap.size + 1, 0, none⟩ = some (.int .i64 0) := by rw [← hW]; simp [go_sem]
  have b1 : W.cell? ⟨w.heap.size + 1, 1, none⟩ = some (.int .i64 0) := by rw [← hW]; simp [go_sem]
  have b2 : W.cell? ⟨w.heap.size + 1, 2, none⟩ = some (.complex .f64 0 0) := by rw [← hW]; simp [go_sem]
  have b3 : W.cell? ⟨w.heap.size + 1, 3, none⟩ = some (.string ⟨#[]⟩) := by rw [← hW]; simp [go_sem]
  have b4 : W.cell? ⟨w.heap.size + 1, 4, none⟩ = some (.slice none 0 0) := by rw [← hW]; simp [go_sem]
  have fa : ∀ i, i < 5 → W.frozen? ⟨w.heap.size, i, none⟩ = false := by
    intro i hi
    obtain rfl | rfl | rfl | rfl | rfl : i = 0 ∨ i = 1 ∨ i = 2 ∨ i = 3 ∨ i = 4 := by omega
    all_goals (rw [← hW]; simp [go_sem])
  have fb : ∀ i, i < 5 → W.frozen? ⟨w.heap.size + 1, i, none⟩ = false := by
    intro i hi
    obtain rfl | rfl | rfl | rfl | rfl : i = 0 ∨ i = 1 ∨ i = 2 ∨ i = 3 ∨ i = 4 := by omega
    all_goals (rw [← hW]; simp [go_sem])
  have A : Hid (W.cell? ⟨w.heap.size, 0, none⟩ = some (.int .i64 4) ∧ W.cell? ⟨w.heap.size, 1, none⟩ = some (.int .i64 0) ∧ W.cell? ⟨w.heap.size, 2, none⟩ = some (.complex .f64 0 0) ∧ W.cell? ⟨w.heap.size, 3, none⟩ = some (.string ⟨#[]⟩) ∧ W.cell? ⟨w.heap.size, 4, none⟩ = some (.slice a l.length cap)) := ⟨a0, a1, a2, a3, a4⟩
  have B : Hid (W.cell? ⟨w.heap.size + 1, 0, none⟩ = some (.int .i64 0) ∧ W.cell? ⟨w.heap.size + 1, 1, none⟩ = some (.int .i64 0) ∧ W.cell? ⟨w.heap.size + 1, 2, none⟩ = some (.complex .f64 0 0) ∧ W.cell? ⟨w.heap.size + 1, 3, none⟩ = some (.string ⟨#[]⟩) ∧ W.cell? ⟨w.heap.size + 1, 4, none⟩ = some (.slice none 0 0)) := ⟨b0, b1, b2, b3, b4⟩
  have F : Hid ((∀ i, i < 5 → W.frozen? ⟨w.heap.size, i, none⟩ = false) ∧ ∀ i, i < 5 → W.frozen? ⟨w.heap.size + 1, i, none⟩ = false) := ⟨fa, fb⟩
  have WB := Lib.hid hWB
  have WS := Lib.hid hWs
  clear a0 a1 a2 a3 a4 b0 b1 b2 b3 b4 fa fb hW hWB hWs
  go_loopw [3, 13] (fun s i wr => ∃ k : Nat, k ≤ l.length ∧ i = .int .i64 k ∧ wr.ownsRow W.heap.size 25 5 s k (flat nc (l.take k)) ∧ Below W.heap.size W wr) (fun _ i _ => l.length - (intOf i).toNat)
  case atStart => exact ⟨0, by omega, rfl, World.ownsRow_nil _ _ _ _, Below.refl _ _⟩
  case round =>
    obtain ⟨k, hk, rfl, hown, hb⟩ := hrel
    have HO := Lib.hid hown
    have HB := Lib.hid hb
    clear hown hb
    by_cases hlt : k < l.length
    · obtain ⟨b, off, cp, hv, hcap, hblt, hcell⟩ := ((HS.out.below WB.out).below HB.out).at (by intro e; rw [e] at hlt; simp at hlt)
      obtain ⟨rfl, rfl⟩ : a = some ⟨b, off, none⟩ ∧ cp = cap := by injection hv with h1 _ h2; exact ⟨h1, h2.symm⟩
      clear hv
      have hcell2 := hcell k hlt
      have c0 : wr.cell? ⟨b, off + k * 5, none⟩ = some (.int .i64 0) := hcell2 0 _ rfl
      have c1 : wr.cell? ⟨b, off + k * 5 + 1, none⟩ = some (.int .i64 0) := hcell2 1 _ rfl
      have c2 : wr.cell? ⟨b, off + k * 5 + 2, none⟩ = some (.complex .f64 0 0) := hcell2 2 _ rfl
      have c3 : wr.cell? ⟨b, off + k * 5 + 3, none⟩ = some (.string ⟨#[]⟩) := hcell2 3 _ rfl
      have c4 : wr.cell? ⟨b, off + k * 5 + 4, none⟩ = some (.slice none 0 0) := hcell2 4 _ rfl
      clear hcell2 hcell
      go_wp2_with fail
      refine (copiedNil_calls _).mono ?_
      rintro e w1 ⟨rfl, hb1⟩
      have HO1 := Lib.hid (owns_below (HO.out.alloc _) hb1)
      have HB1 := Lib.hid (below_join (below_more HB.out (Nat.le_refl _) _) (Nat.le_refl _) hb1)
      clear hb1
      unfold cv nilL
      go_wp2_with (at_builtin; refine wpList_append_own _ rfl _ _ 23 rfl W.heap.size 25 i0 (cv 0 ⟨#[]⟩ nilL) 5 72 Try.underlying23 hi hz0 hz1 hz2 rfl (by decide) _ k _ rfl (HO1.out.alloc _) ⟨w1.heap.size, 0, none⟩ 1 1 (nc ()) rfl rfl ?c1 ?c2 ?c3 ?c4 ?c5 ?_)
      case c1 =>
        intro j u hu
        have hj := (List.getElem?_eq_some_iff.1 hu).1
        simp [nc] at hj
        obtain rfl | rfl | rfl | rfl | rfl : j = 0 ∨ j = 1 ∨ j = 2 ∨ j = 3 ∨ j = 4 := by omega
        all_goals
          simp [nc] at hu
          subst hu
          simp [go_sem, Addr.add]
      case c2 =>
        intro u hu
        simp [nc] at hu
        rcases hu with rfl | rfl | rfl | rfl | rfl <;> rfl
      case c3 => unfold maxLen; omega
      case c4 => omega
      case c5 => have := HB1.out.size; simp; omega
      intro v2 w2 hown2 hgrow _
      go_wp2
      go_roundw
      case rel =>
        refine ⟨k + 1, by omega, by go_num, ?_, ?_⟩
        · rw [flat_snoc l k hlt]
          exact hown2
        · exact (below_more HB1.out (Nat.le_refl _) _).grown hgrow (by have := HB1.out.size; simp; omega) (fun g hg => ((HO1.out.alloc (.cells #[] 25)).lt g hg).1)
      case measure => simp [intOf]; omega
    · obtain rfl : k = l.length := by omega
      rw [List.take_length] at HO
      have hsl : Sl nc 5 wr u3 l := Sl.ofOwns nc_len HO.out
      obtain ⟨hc, hf⟩ := bcell HB.out
      have hWs := WS.out
      obtain ⟨a0, a1, a2, a3, a4⟩ := A.out
      obtain ⟨b0, b1, b2, b3, b4⟩ := B.out
      obtain ⟨fa, fb⟩ := F.out
      have p0 := (hc w.heap.size 0 (by omega)).trans a0
      have p1 := (hc w.heap.size 1 (by omega)).trans a1
      have p2 := (hc w.heap.size 2 (by omega)).trans a2
      have p3 := (hc w.heap.size 3 (by omega)).trans a3
      have p4 := (hc w.heap.size 4 (by omega)).trans a4
      have q0 := (hc (w.heap.size + 1) 0 (by omega)).trans b0
      have q1 := (hc (w.heap.size + 1) 1 (by omega)).trans b1
      have q2 := (hc (w.heap.size + 1) 2 (by omega)).trans b2
      have q3 := (hc (w.heap.size + 1) 3 (by omega)).trans b3
      have q4 := (hc (w.heap.size + 1) 4 (by omega)).trans b4
      have g0 := (hf w.heap.size 4 (by omega)).trans (fa 4 (by omega))
      have h0 := (hf (w.heap.size + 1) 0 (by omega)).trans (fb 0 (by omega))
      have h1 := (hf (w.heap.size + 1) 1 (by omega)).trans (fb 1 (by omega))
      have h2 := (hf (w.heap.size + 1) 2 (by omega)).trans (fb 2 (by omega))
      have h3 := (hf (w.heap.size + 1) 3 (by omega)).trans (fb 3 (by omega))
      have h4 := (hf (w.heap.size + 1) 4 (by omega)).trans (fb 4 (by omega))
      clear hWs hc hf a0 a1 a2 a3 a4 b0 b1 b2 b3 b4 fa fb
      have HSL := Lib.hid hsl
      clear hsl
      obtain ⟨a', cap', rfl⟩ := HSL.out.form
      have hfr : ∀ b off, a' = some ⟨b, off, none⟩ → W.heap.size ≤ b := by
        intro b off e
        subst e
        obtain ⟨_, h | ⟨g, c1, cur, hv, hg, _⟩⟩ := HO.out
        · injection h.1 with h1; cases h1
        · injection hv with h1; injection h1 with h1; injection h1 with h1; subst h1; exact hg
      have HF := Lib.hid hfr
      clear hfr
      go_wp2_with fail
      refine (clip_calls _ _ _ _ HSL.out).mono ?_
      rintro e w3 ⟨rfl, rfl⟩
      go_wp2
      refine bodyPost_ret (v := cv 4 ⟨#[]⟩ (.slice a' l.length l.length)) (by simp [results, Try.results65, go_sem, cv, nilL, q0, q1, q2, q3, q4]) rfl ?_
      have hWs := WS.out
      refine ⟨_, _, rfl, Sl.clip (cap := cap') (Sl.ofOwns (v := .slice a' l.length cap') (base := W.heap.size) (e := 25) nc_len ?_), fun b off e => (by have := HF.out b off e; omega), ?_⟩
      · exact owns_set (owns_set (owns_set (owns_set (owns_set (owns_set HO.out (by simp; omega) _) (by simp; omega) _) (by simp; omega) _) (by simp; omega) _) (by simp; omega) _) (by simp; omega) _
      · exact set5 ((WB.out.trans (HB.out.mono (by omega))).setCell (Nat.le_refl _) _) (by omega) _ _ _ _ _

end Go.Proofs.Ytplnnlnkcfappaa.Oa
