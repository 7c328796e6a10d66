/- RvmSlots: the program is found good. -/
import Derived.Test.YtplnnlnkcfappaaGreatRm
import Derived.Test.YtplnnlnkcfappaaGreatRd
namespace Go.Proofs.YtplnnlnkcfappaaGreat.Rs
open Go.RowKit
set_option linter.unusedSimpArgs false
set_option linter.unusedVariables false

set_option maxRecDepth 100000 in
set_option maxHeartbeats 4000000 in
theorem good_calls {w : World} {Q K V : Value} {L : List Int} {C : List Ins} (hQ : ∃ a n c, Q = .slice a n c) (hK : Rw vc 5 54 w K L) (hV : Rw ic 5 84 w V C) (hL0 : 0 < L.length) (hL : L.length ≤ 1000) (hC0 : 0 < C.length) (hC : C.length ≤ 1000) (hok : ∀ x ∈ C, insOk L.length x) :
    Calls Tryz.prog 92 #[.agg #[Q, .int .i64 0, .int .i64 8], .agg #[.string ⟨#[]⟩, .int .i64 0, .int .i64 5, K, V]] w fun e w' => e = .returned (.bool true) ∧ Below w.heap.size w w' := by
  have hKf : ∃ a c, K = .slice a L.length c := by obtain ⟨g, cap, cs, hv, _⟩ := hK; exact ⟨_, _, hv⟩
  have hVf : ∃ a c, V = .slice a C.length c := by obtain ⟨g, cap, cs, hv, _⟩ := hV; exact ⟨_, _, hv⟩
  obtain ⟨ka, kc, rfl⟩ := hKf
  obtain ⟨va, vcap, rfl⟩ := hVf
  have hW : Below w.heap.size w ((w.alloc (.cells #[Q, .int .i64 0, .int .i64 8] 88)).alloc (.cells #[.string ⟨#[]⟩, .int .i64 0, .int .i64 5, .slice ka L.length kc, .slice va C.length vcap] 77)) := ((Below.refl _ w).alloc (Nat.le_refl _) _).alloc (by simp) _
  have HH := Lib.hid (And.intro hQ (And.intro (hK.below hW) (And.intro (hV.below hW) (And.intro hok hW))))
  clear hK hV hok hW
  obtain ⟨qa, qn, qc, rfl⟩ := hQ
  have i1 : ¬ (C.length : Int) = 0 := by omega
  have i2 : ¬ (C.length : Int) > 60000 := by omega
  have i3 : ¬ (L.length : Int) > 60000 := by omega
  have i4 : ¬ C.length = 0 := by omega
  have i5 : ¬ C = [] := by intro e; rw [e] at hC0; simp at hC0
  go_enter Tryz.func92, Tryz.ntmps92
  go_wp2_with fail
  refine (containsV_calls HH.out.2.1 hL).mono ?_
  rintro e w1 ⟨rfl, hb⟩
  have hcell : ∀ b j u, b < w.heap.size + 2 → ((w.alloc (.cells #[.slice qa qn qc, .int .i64 0, .int .i64 8] 88)).alloc (.cells #[.string ⟨#[]⟩, .int .i64 0, .int .i64 5, .slice ka L.length kc, .slice va C.length vcap] 77)).cell? ⟨b, j, none⟩ = some u → w1.cell? ⟨b, j, none⟩ = some u := fun b j u hlt hu => (hb.cell (by simpa using hlt)).trans hu
  have hbx : Boxes w1 w.heap.size (w.heap.size + 1) (.slice qa qn qc) (.slice va C.length vcap) ka L.length kc := by
    refine ⟨?_, ?_, ?_, ?_, ?_, ?_, ?_, ?_⟩
    all_goals (refine hcell _ _ _ (by omega) ?_; simp [go_sem])
  have f4 := hbx.f4
  have HB := Lib.hid (And.intro (HH.out.2.2.2.2.trans (hb.mono HH.out.2.2.2.2.size)) (And.intro hbx (HH.out.2.2.1.below hb)))
  clear hb hcell hbx
  go_wp2_with fail
  refine (containsI_calls HB.out.2.1 ⟨_, _, _, rfl⟩ ⟨_, _, _, rfl⟩ HB.out.2.2 hC HH.out.2.2.2.1).mono ?_
  rintro e w2 ⟨rfl, hb⟩
  have HB2 := Lib.hid (HB.out.1.trans (hb.mono HB.out.1.size))
  clear hb
  go_wp2
  go_ret
  exact ⟨rfl, HB2.out⟩

/-- the one function, where it lies -/
structure Fns (w : World) (qb : Nat) (K V : Value) : Prop where
  c0 : w.cell? ⟨qb, 0, none⟩ = some (.string ⟨#[]⟩)
  c1 : w.cell? ⟨qb, 1, none⟩ = some (.int .i64 0)
  c2 : w.cell? ⟨qb, 2, none⟩ = some (.int .i64 5)
  c3 : w.cell? ⟨qb, 3, none⟩ = some K
  c4 : w.cell? ⟨qb, 4, none⟩ = some V
theorem Fns.lt {w : World} {qb : Nat} {K V : Value} (h : Fns w qb K V) : qb < w.heap.size := World.block_lt_of_cell? w _ h.c0
theorem Fns.fx {S : Nat → Prop} {w w' : World} {qb : Nat} {K V : Value} (h : Fns w qb K V) (hx : Fx S w w') (hn : ¬ S qb) : Fns w' qb K V :=
  ⟨(hx.cell h.lt hn _).trans h.c0, (hx.cell h.lt hn _).trans h.c1, (hx.cell h.lt hn _).trans h.c2, (hx.cell h.lt hn _).trans h.c3, (hx.cell h.lt hn _).trans h.c4⟩
theorem Fns.below {w w' : World} {qb : Nat} {K V : Value} (h : Fns w qb K V) (hb : Below w.heap.size w w') : Fns w' qb K V := h.fx (Fx.ofB (S := fun _ => False) hb) (fun h => h)
theorem opOk_of {kn : Nat} {l : List Ins} (hok : ∀ x ∈ l, insOk kn x) (hnl : ∀ x ∈ l, x.1 ≠ 16) : ∀ x ∈ l, opOk x := by
  intro x hx
  unfold opOk
  rcases hok x hx with h | h | h | h | h
  · exact .inl h.1
  · exact .inr (.inr (.inl h.1))
  · exact .inr (.inr (.inr h.1))
  · exact .inr (.inl h.1)
  · exact absurd (by rw [h.1]; rfl) (hnl x hx)

set_option maxRecDepth 100000 in
set_option maxHeartbeats 4000000 in
theorem check_calls {w : World} {qb qc : Nat} {K V : Value} {L : List Int} {l : List Ins} (hF : Fns w qb K V) (hK : Rw vc 5 54 w K L) (hV : Rw ic 5 84 w V (l ++ [last])) (hL0 : 0 < L.length) (hL : L.length ≤ 1000) (hl : l.length ≤ 60) (hok : ∀ x ∈ l, insOk L.length x) (hnl : ∀ x ∈ l, x.1 ≠ 16) :
    Calls Tryz.prog 48 #[.agg #[.slice (some ⟨qb, 0, none⟩) 1 qc, .int .i64 0, .int .i64 8]] w fun e w' => e = .returned (.int .i64 0) ∧ Below w.heap.size w w' := by
  have hlen : (l ++ [last]).length ≤ 1000 := by simp; omega
  have hlen0 : 0 < (l ++ [last]).length := by simp
  have hall : ∀ x ∈ l ++ [last], insOk L.length x := by
    intro x hx
    rcases List.mem_append.1 hx with hx | hx
    · exact hok x hx
    · rw [List.mem_singleton.1 hx]
      exact .inr (.inr (.inr (.inr ⟨rfl, hL0⟩)))
  have hop := opOk_of hok hnl
  obtain ⟨hc, ht⟩ := codes_ok l.length hl
  have h1K : K.oneCell' = true := by obtain ⟨g, cap, cs, hv, _⟩ := hK; rw [hv]; rfl
  have hKf : ∃ a c, K = .slice a L.length c := by obtain ⟨g, cap, cs, hv, _⟩ := hK; exact ⟨_, _, hv⟩
  have hVf : ∃ a c, V = .slice a (l ++ [last]).length c := by obtain ⟨g, cap, cs, hv, _⟩ := hV; exact ⟨_, _, hv⟩
  have hb0 : Below w.heap.size w (w.alloc (.cells #[.slice (some ⟨qb, 0, none⟩) 1 qc, .int .i64 0, .int .i64 8] 88)) := (Below.refl _ w).alloc (Nat.le_refl _) _
  obtain ⟨c0, c1, c2, c3, c4⟩ := hF.below hb0
  have HH := Lib.hid (And.intro hF (And.intro hK (And.intro hV (And.intro hall (And.intro hop (And.intro hc (And.intro ht (And.intro h1K (And.intro hlen (And.intro hlen0 hb0))))))))))
  clear hF hK hV hall hop hc ht h1K hok hnl hlen hlen0 hb0
  obtain ⟨ka, kc, rfl⟩ := hKf
  obtain ⟨va, vc', rfl⟩ := hVf
  generalize hvl : (l ++ [last]).length = vl at *
  go_enter Tryz.func48, Tryz.ntmps48
  go_wp2_with fail
  refine (within_calls _ 0 1 (by omega) (by omega)).mono ?_
  rintro e w' ⟨rfl, hw'⟩
  have b0 : w'.cell? ⟨w.heap.size, 0, none⟩ = some (.slice (some ⟨qb, 0, none⟩) 1 qc) := by rw [hw']; simp [go_sem]
  have b1 : w'.cell? ⟨w.heap.size, 1, none⟩ = some (.int .i64 0) := by rw [hw']; simp [go_sem]
  have b2 : w'.cell? ⟨w.heap.size, 2, none⟩ = some (.int .i64 8) := by rw [hw']; simp [go_sem]
  rw [← hw'] at c0 c1 c2 c3 c4
  have hbw : Below w.heap.size w w' := by rw [hw']; exact HH.out.2.2.2.2.2.2.2.2.2.2
  clear hw'
  go_wp2
  have HB0 := Lib.hid (And.intro hbw (And.intro b0 (And.intro b1 (And.intro b2 (And.intro (HH.out.1.below hbw) (And.intro (HH.out.2.1.below hbw) (HH.out.2.2.1.below hbw)))))))
  clear b0 b1 b2 c0 c1 c2 c3 c4 hbw
  go_loopw [47] (fun k wr => ∃ n : Nat, n ≤ 1 ∧ k = .int .i64 n ∧ Below w'.heap.size w' wr) (fun k _ => 1 - (match k with | .int _ n => n.toNat | _ => 0))
  case atStart => exact ⟨0, by omega, rfl, Below.refl _ _⟩
  case round =>
    obtain ⟨n, hn, rfl, hb⟩ := hrel
    have HB := Lib.hid hb
    clear hb
    obtain rfl | rfl : n = 0 ∨ n = 1 := by omega
    · obtain ⟨hbw, b0, b1, b2, hF, hK, hV⟩ := HB0.out
      have hpl : w.heap.size < w'.heap.size := World.block_lt_of_cell? w' _ b0
      have ha : Below w'.heap.size w' (wr.alloc (.cells #[.string ⟨#[]⟩, .int .i64 0, .int .i64 5, .slice ka L.length kc, .slice va vl vc'] 77)) := HB.out.alloc HB.out.size _
      obtain ⟨c0, c1, c2, c3, c4⟩ := hF.below HB.out
      obtain ⟨d0, d1, d2, d3, d4⟩ := hF.below ha
      have q0 := (ha.cell (p := ⟨w.heap.size, 0, none⟩) hpl).trans b0
      have q1 := (ha.cell (p := ⟨w.heap.size, 1, none⟩) hpl).trans b1
      have q2 := (ha.cell (p := ⟨w.heap.size, 2, none⟩) hpl).trans b2
      have HA := Lib.hid ha
      have HP := Lib.hid hpl
      clear hbw b0 b1 b2 hF hK hV ha hpl
      go_wp2_with fail
      refine (good_calls (L := L) (C := l ++ [last]) ⟨_, _, _, rfl⟩ (HB0.out.2.2.2.2.2.1.below HA.out) (HB0.out.2.2.2.2.2.2.below HA.out) hL0 hL (by rw [hvl]; exact HH.out.2.2.2.2.2.2.2.2.2.1) (by rw [hvl]; exact HH.out.2.2.2.2.2.2.2.2.1) HH.out.2.2.2.1).mono ?_
      rintro e w2 ⟨rfl, hb2⟩
      have hbb := HA.out.trans (hb2.mono HA.out.size)
      have g0 := (hb2.cell (p := ⟨wr.heap.size, 0, none⟩) (by simp)).trans (show _ = some (.string ⟨#[]⟩) by simp [go_sem])
      have g1 := (hb2.cell (p := ⟨wr.heap.size, 1, none⟩) (by simp)).trans (show _ = some (.int .i64 0) by simp [go_sem])
      have g2 := (hb2.cell (p := ⟨wr.heap.size, 2, none⟩) (by simp)).trans (show _ = some (.int .i64 5) by simp [go_sem])
      have g3 := (hb2.cell (p := ⟨wr.heap.size, 3, none⟩) (by simp)).trans (show _ = some (.slice ka L.length kc) by simp [go_sem])
      have g4 := (hb2.cell (p := ⟨wr.heap.size, 4, none⟩) (by simp)).trans (show _ = some (.slice va vl vc') by simp [go_sem])
      have e0 := (hbb.cell (p := ⟨w.heap.size, 0, none⟩) HP.out).trans HB0.out.2.1
      have e1 := (hbb.cell (p := ⟨w.heap.size, 1, none⟩) HP.out).trans HB0.out.2.2.1
      have e2 := (hbb.cell (p := ⟨w.heap.size, 2, none⟩) HP.out).trans HB0.out.2.2.2.1
      have HB2 := Lib.hid (And.intro hbb hb2)
      clear hbb hb2
      go_wp2_with fail
      refine (counts_calls (l := l) HH.out.2.2.2.2.2.1 HH.out.2.2.2.2.1 hl (HB0.out.2.2.2.2.2.2.below HB2.out.1) rfl rfl).mono ?_
      rintro e w3 ⟨rfl, hb3⟩
      have hbb := HB2.out.1.trans (hb3.mono HB2.out.1.size)
      have hb2 := HB2.out.2.trans (hb3.mono HB2.out.2.size)
      clear g0 g1 g2 g3 g4 e0 e1 e2
      have g0 := (hb2.cell (p := ⟨wr.heap.size, 0, none⟩) (by simp)).trans (show _ = some (.string ⟨#[]⟩) by simp [go_sem])
      have g1 := (hb2.cell (p := ⟨wr.heap.size, 1, none⟩) (by simp)).trans (show _ = some (.int .i64 0) by simp [go_sem])
      have g2 := (hb2.cell (p := ⟨wr.heap.size, 2, none⟩) (by simp)).trans (show _ = some (.int .i64 5) by simp [go_sem])
      have g3 := (hb2.cell (p := ⟨wr.heap.size, 3, none⟩) (by simp)).trans (show _ = some (.slice ka L.length kc) by simp [go_sem])
      have g4 := (hb2.cell (p := ⟨wr.heap.size, 4, none⟩) (by simp)).trans (show _ = some (.slice va vl vc') by simp [go_sem])
      have HB3 := Lib.hid hbb
      clear hbb hb2 hb3
      go_wp2_with fail
      refine (ticked_calls (l := l) HH.out.2.2.2.2.2.2.1 HH.out.2.2.2.2.1 hl (HB0.out.2.2.2.2.2.2.below HB3.out) rfl).mono ?_
      rintro e w4 ⟨rfl, hb4⟩
      have HB4 := Lib.hid (HB3.out.trans (hb4.mono HB3.out.size))
      clear hb4
      go_wp2
      go_roundw
      case rel => exact ⟨1, by omega, by go_num, HB4.out⟩
      case measure => simp
    · go_wp2
      go_ret
      exact ⟨rfl, HB0.out.1.trans (HB.out.mono HB0.out.1.size)⟩

end Go.Proofs.YtplnnlnkcfappaaGreat.Rs
