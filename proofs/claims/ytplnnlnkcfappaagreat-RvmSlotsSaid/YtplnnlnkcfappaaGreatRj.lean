/- RvmSlots: the tank at the end. -/
import Derived.Test.YtplnnlnkcfappaaGreatRi
namespace Go.Proofs.YtplnnlnkcfappaaGreat.Rs
open Go.RowKit
set_option linter.unusedSimpArgs false
set_option linter.unusedVariables false

theorem owns_slice {w : World} {base : Nat} {e : TypeId} {sz : Nat} {v : Value} {n : Nat} {xs : List Value} (h : w.ownsRow base e sz v n xs) : ∃ a cap, v = .slice a n cap := by
  obtain ⟨hl, ⟨rfl, rfl⟩ | ⟨g, cap, cur, rfl, r⟩⟩ := h
  · exact ⟨_, _, rfl⟩
  · exact ⟨_, _, rfl⟩
set_option maxHeartbeats 1000000 in
theorem clip_calls {w0 : World} {base : Nat} {e : TypeId} {sz : Nat} {a : Option Addr} {cap : Nat} {n : Nat} {xs : List Value} (h : w0.ownsRow base e sz (.slice a n cap) n xs) (w : World) : Calls Tryz.prog 84 #[.slice a n cap] w fun e w' => e = .returned (.slice a n n) ∧ w' = w := by
  obtain ⟨hl, ⟨hv, rfl⟩ | ⟨g, cap', cur, hv, hg, hh, hn, hm, r⟩⟩ := h
  · injection hv with h1 h2 h3
    subst h1 h3
    go_enter Tryz.func84, Tryz.ntmps84
    go_wp2
    go_ret
    exact ⟨rfl, rfl⟩
  · injection hv with e1 e2 e3
    subst e1 e3
    have h0 : (0 : Int) ≤ (n : Int) := by omega
    have h1 : (n : Int) ≤ cap := by omega
    clear hl hh r
    go_enter Tryz.func84, Tryz.ntmps84
    go_wp2
    go_ret
    exact ⟨rfl, rfl⟩
theorem kd0 : kd 0 = 0 := rfl

theorem tk_cells {w : World} {tb base : Nat} {fuel : Int} {evs : List Int} (hT : Tk w tb base fuel evs) : (∃ v, w.cell? ⟨tb, 1, none⟩ = some v ∧ w.ownsRow base 69 7 v evs.length (flat ec evs)) ∧ w.cell? ⟨tb, 2, none⟩ = some (.int .i64 0) ∧ w.cell? ⟨tb, 3, none⟩ = some (.int .i64 0) ∧ w.cell? ⟨tb, 4, none⟩ = some (.complex .f64 0 0) ∧ w.cell? ⟨tb, 5, none⟩ = some (.string ⟨#[]⟩) ∧ w.cell? ⟨tb, 6, none⟩ = some (.slice none 0 0) ∧ w.cell? ⟨tb, 7, none⟩ = some (.int .i64 0) :=
  ⟨hT.ev, hT.c2, hT.c3, hT.c4, hT.c5, hT.c6, hT.c7⟩
theorem tk_free {w : World} {tb base : Nat} {fuel : Int} {evs : List Int} (hT : Tk w tb base fuel evs) : w.frozen? ⟨tb, 1, none⟩ = false ∧ w.frozen? ⟨tb, 2, none⟩ = false ∧ w.frozen? ⟨tb, 3, none⟩ = false ∧ w.frozen? ⟨tb, 4, none⟩ = false ∧ w.frozen? ⟨tb, 5, none⟩ = false ∧ w.frozen? ⟨tb, 6, none⟩ = false ∧ w.frozen? ⟨tb, 7, none⟩ = false :=
  ⟨hT.fz 1 (by omega), hT.fz 2 (by omega), hT.fz 3 (by omega), hT.fz 4 (by omega), hT.fz 5 (by omega), hT.fz 6 (by omega), hT.fz 7 (by omega)⟩

set_option maxRecDepth 100000 in
set_option maxHeartbeats 4000000 in
theorem end_calls {w : World} {tb base : Nat} {fuel : Int} {evs : List Int} (hT : Tk w tb base fuel evs) (hb0 : tb < base) (hb1 : base ≤ w.heap.size) :
    Calls Tryz.prog 44 #[.pointer (some ⟨tb, 0, none⟩), vv 0] w fun e w' => ∃ a cap, e = .returned (.agg #[.slice a evs.length evs.length, .int .i64 0, .int .i64 0, .complex .f64 0 0, .string ⟨#[]⟩, .slice none 0 0, .int .i64 0]) ∧ w'.ownsRow base 69 7 (.slice a evs.length cap) evs.length (flat ec evs) ∧ Fx (fun g => g = tb ∨ base ≤ g) w w' := by
  obtain ⟨v0, hv0, ho0⟩ := hT.ev
  obtain ⟨a, cap, rfl⟩ := owns_slice ho0
  have hlt := hT.lt
  have HT0 := Lib.hid (And.intro hT (And.intro hv0 ho0))
  clear hT hv0 ho0
  unfold vv
  go_enter Tryz.func44, Tryz.ntmps44
  go_wp2_with fail
  refine (copy_calls _ 0).mono ?_
  rintro e w1 ⟨rfl, hb⟩
  have hxx : Fx (fun _ => False) w w1 := (Fx.alloc (Fx.alloc (Fx.refl _ w) _) _).trans (Fx.ofB hb)
  obtain ⟨hT, hv0, ho0⟩ := HT0.out
  have hT1 := hT.fx hxx (fun h => h) (fun _ _ _ h => h)
  have T1 := (hxx.cell hlt (fun h => h) 1).trans hv0
  have TO := owns_fx' ho0 hxx (fun _ _ h => h)
  have hob := fun g hg => (owns_lt ho0 (g := g) hg)
  have hs1 : w.heap.size + 2 ≤ w1.heap.size := by have := hb.size; simpa using this
  have zz : ∀ j u, ([.slice none 0 0, .int .i64 0, .int .i64 0, .complex .f64 0 0, .string ⟨#[]⟩, .slice none 0 0, .int .i64 0] : List Value)[j]? = some u → w1.cell? ⟨w.heap.size + 1, j, none⟩ = some u := by
    intro j u hu
    rw [hb.cell (by simp)]
    simpa [go_sem] using hu
  have zf : ∀ j, j < 7 → w1.frozen? ⟨w.heap.size + 1, j, none⟩ = false := by
    intro j hj
    rw [hb.frozen (by simp)]
    simp [go_sem]
  have z0 := zz 0 _ rfl
  have z1 := zz 1 _ rfl
  have z2 := zz 2 _ rfl
  have z3 := zz 3 _ rfl
  have z4 := zz 4 _ rfl
  have z5 := zz 5 _ rfl
  have z6 := zz 6 _ rfl
  have y0 := zf 0 (by omega)
  have y1 := zf 1 (by omega)
  have y2 := zf 2 (by omega)
  have y3 := zf 3 (by omega)
  have y4 := zf 4 (by omega)
  have y5 := zf 5 (by omega)
  have y6 := zf 6 (by omega)
  obtain ⟨_, T2, T3, T4, T5, T6, T7⟩ := tk_cells hT1
  obtain ⟨F1, F2, F3, F4, F5, F6, F7⟩ := tk_free hT1
  have hne : w.heap.size + 1 ≠ tb := by omega
  have hne' : tb ≠ w.heap.size + 1 := by omega
  have HH := Lib.hid (And.intro TO (And.intro hxx (And.intro hs1 hob)))
  clear hT1 hT TO hxx hb zz zf hv0 ho0 hob
  unfold vv
  rw [kd0]
  go_wp2_with fail
  refine (clip_calls HH.out.1 _).mono ?_
  rintro e w2 ⟨rfl, rfl⟩
  go_wp2
  refine bodyPost_ret (v := .agg #[.slice a evs.length evs.length, .int .i64 0, .int .i64 0, .complex .f64 0 0, .string ⟨#[]⟩, .slice none 0 0, .int .i64 0]) (by simp [results, Tryz.results44, go_sem, z0, z1, z2, z3, z4, z5, z6]) rfl ?_
  obtain ⟨TO, hxx, hs1, hob⟩ := HH.out
  have hS : ∀ x0 x1 x2 x3 x4 x5 y0 y1 y2 y3 y4 y5 y6, Fx (fun g => g = tb ∨ g = w.heap.size + 1) w1 (((((((((((((w1.setCell ⟨tb, 2, none⟩ x0).setCell ⟨tb, 3, none⟩ x1).setCell ⟨tb, 4, none⟩ x2).setCell ⟨tb, 5, none⟩ x3).setCell ⟨tb, 6, none⟩ x4).setCell ⟨tb, 1, none⟩ x5).setCell ⟨w.heap.size + 1, 0, none⟩ y0).setCell ⟨w.heap.size + 1, 1, none⟩ y1).setCell ⟨w.heap.size + 1, 2, none⟩ y2).setCell ⟨w.heap.size + 1, 3, none⟩ y3).setCell ⟨w.heap.size + 1, 4, none⟩ y4).setCell ⟨w.heap.size + 1, 5, none⟩ y5).setCell ⟨w.heap.size + 1, 6, none⟩ y6) := by
    intro x0 x1 x2 x3 x4 x5 y0 y1 y2 y3 y4 y5 y6
    refine Fx.setCell (Fx.setCell (Fx.setCell (Fx.setCell (Fx.setCell (Fx.setCell (Fx.setCell (Fx.setCell (Fx.setCell (Fx.setCell (Fx.setCell (Fx.setCell (Fx.setCell (Fx.refl _ _) ?_ _) ?_ _) ?_ _) ?_ _) ?_ _) ?_ _) ?_ _) ?_ _) ?_ _) ?_ _) ?_ _) ?_ _) ?_ _
    all_goals first | exact .inl rfl | exact .inr rfl
  refine ⟨a, cap, rfl, owns_fx' TO (hS _ _ _ _ _ _ _ _ _ _ _ _ _) (fun g hg e => ?_), (hxx.mono fun _ _ h => h.elim).trans ((hS _ _ _ _ _ _ _ _ _ _ _ _ _).mono fun g _ h => h.imp id fun h => by omega)⟩
  have := hob g hg
  omega

end Go.Proofs.YtplnnlnkcfappaaGreat.Rs
