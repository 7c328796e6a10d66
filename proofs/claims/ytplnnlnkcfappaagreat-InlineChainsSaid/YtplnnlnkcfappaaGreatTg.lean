/- The machine with a stack: the tank at the end and at the start; a number is copied, is true. -/
import Derived.Test.YtplnnlnkcfappaaGreatTf
namespace Go.Proofs.YtplnnlnkcfappaaGreat.Sv
open Go.RowKit E3
set_option linter.unusedSimpArgs false
set_option linter.unusedVariables false

/-! ### One number -/
def ivv (z : Int) : Value := .agg #[.int .i64 1, .int .i64 z, .complex .f64 0 0, .string ⟨#[]⟩, .slice none 0 0]
def symOne (z : Int) : Syms := { val := fun _ => .int .i64 z, one := fun _ => rfl }
noncomputable def ivA : AV := .agg (intRow (.sym 8))
theorem ivA_den (z : Int) (F : Env) : den (symOne z) F ivA = some (ivv z) := by
  have := intRow_dens (ρ := symOne z) (F := F) (v := .sym 8) (z := z) (sym_den rfl)
  simp [ivA, ivv, den, this, iv]
noncomputable def knZ (b : Bool) : List Known2 := [(.eql, .sym 8, .nat 0, .bool b), (.neq, .sym 8, .nat 0, .bool (te b false true))]
theorem knZ_ok (z : Int) : OrcOk (symOne z) Tryz.prog (ocL (knZ (decide (z = 0)))) := by
  refine ocL_ok fun e he => ?_
  simp only [knZ, List.mem_cons, List.not_mem_nil, or_false] at he
  rcases he with rfl | rfl
  · exact Entry.int (fun F => sym_den rfl) (natD_den _ 0) (c := .bool _) (fun F => by simp [den]; rfl) fun w t => by rw [bin_eql]; congr 2
  · exact Entry.int (fun F => sym_den rfl) (natD_den _ 0) (c := .bool _) (fun F => by simp [den]; rfl) fun w t => by
      rw [bin_neq]
      congr 2
      by_cases h : z = 0
      · subst h; rfl
      · simp [h, te, bne]
theorem copyInt_true : te (isVal ivA (rec Tryz.prog (ocL (knZ true)) sk kn 200 83 [ivA] mem0)) (isVal ivA (rec Tryz.prog (ocL (knZ false)) sk kn 200 83 [ivA] mem0)) false = true := by kernel_rfl
theorem truth_true : te (isVal (.bool false) (rec Tryz.prog (ocL (knZ true)) sk kn 200 42 [ivA] mem0)) (isVal (.bool true) (rec Tryz.prog (ocL (knZ false)) sk kn 200 42 [ivA] mem0)) false = true := by kernel_rfl
theorem copy_int (w : World) (z : Int) : Calls Tryz.prog 83 #[ivv z] w fun e w' => e = .returned (ivv z) ∧ Below w.heap.size w w' := by
  obtain ⟨h1, h2⟩ := both copyInt_true
  have hk := knZ_ok z
  by_cases h : z = 0
  · rw [decide_eq_true h] at hk
    exact runs_val (ρ := symOne z) mix (plainly_of plain_names) hk lex (kn_ok _) 200 83 [ivA] [ivv z] (dens_one (ivA_den z _)) ivA (ivv z) (ivA_den z _) h1 Tryz.func83 (by kernel_rfl) w
  · rw [decide_eq_false h] at hk
    exact runs_val (ρ := symOne z) mix (plainly_of plain_names) hk lex (kn_ok _) 200 83 [ivA] [ivv z] (dens_one (ivA_den z _)) ivA (ivv z) (ivA_den z _) h2 Tryz.func83 (by kernel_rfl) w
theorem truth_int (w : World) (z : Int) : Calls Tryz.prog 42 #[ivv z] w fun e w' => e = .returned (.bool (decide (z ≠ 0))) ∧ Below w.heap.size w w' := by
  obtain ⟨h1, h2⟩ := both truth_true
  have hk := knZ_ok z
  by_cases h : z = 0
  · rw [decide_eq_true h] at hk
    have := runs_val (ρ := symOne z) mix (plainly_of plain_names) hk lex (kn_ok _) 200 42 [ivA] [ivv z] (dens_one (ivA_den z _)) (.bool false) (.bool false) (by simp [den]) h1 Tryz.func42 (by kernel_rfl) w
    simpa [h] using this
  · rw [decide_eq_false h] at hk
    have := runs_val (ρ := symOne z) mix (plainly_of plain_names) hk lex (kn_ok _) 200 42 [ivA] [ivv z] (dens_one (ivA_den z _)) (.bool true) (.bool true) (by simp [den]) h2 Tryz.func42 (by kernel_rfl) w
    simpa [h] using this

theorem owns_slice {w : World} {base : Nat} {e : TypeId} {sz : Nat} {v : Value} {n : Nat} {xs : List Value} (h : w.ownsRow base e sz v n xs) : ∃ a cap, v = .slice a n cap := by
  obtain ⟨hl, ⟨rfl, rfl⟩ | ⟨g, cap, cur, rfl, r⟩⟩ := h
  · exact ⟨_, _, rfl⟩
  · exact ⟨_, _, rfl⟩
set_option maxHeartbeats 1000000 in
theorem clip_calls {w0 : World} {base : Nat} {e : TypeId} {sz : Nat} {a : Option Addr} {cap : Nat} {n : Nat} {xs : List Value} (h : w0.ownsRow base e sz (.slice a n cap) n xs) (w : World) : Calls Tryz.prog 84 #[.slice a n cap] w fun e w' => e = .returned (.slice a n n) ∧ w' = w := by
  obtain ⟨hl, ⟨hv, rfl⟩ | ⟨g, cap', cur, hv, hg, hh, hn, hm, r⟩⟩ := h
  · injection hv with h1 h2 h3
    subst h1 h3
    go_enter Tryz.func84, Tryz.ntmps84
    go_wp2
    go_ret
    exact ⟨rfl, rfl⟩
  · injection hv with e1 e2 e3
    subst e1 e3
    have h0 : (0 : Int) ≤ (n : Int) := by omega
    have h1 : (n : Int) ≤ cap := by omega
    clear hl hh r
    go_enter Tryz.func84, Tryz.ntmps84
    go_wp2
    go_ret
    exact ⟨rfl, rfl⟩

theorem tk_cells {w : World} {tb base : Nat} {fuel : Int} {evs : List Int} (hT : Tk w tb base fuel evs) : (∃ v, w.cell? ⟨tb, 1, none⟩ = some v ∧ w.ownsRow base 69 7 v evs.length (flat ec evs)) ∧ w.cell? ⟨tb, 2, none⟩ = some (.int .i64 0) ∧ w.cell? ⟨tb, 3, none⟩ = some (.int .i64 0) ∧ w.cell? ⟨tb, 4, none⟩ = some (.complex .f64 0 0) ∧ w.cell? ⟨tb, 5, none⟩ = some (.string ⟨#[]⟩) ∧ w.cell? ⟨tb, 6, none⟩ = some (.slice none 0 0) ∧ w.cell? ⟨tb, 7, none⟩ = some (.int .i64 0) :=
  ⟨hT.ev, hT.c2, hT.c3, hT.c4, hT.c5, hT.c6, hT.c7⟩
theorem tk_free {w : World} {tb base : Nat} {fuel : Int} {evs : List Int} (hT : Tk w tb base fuel evs) : w.frozen? ⟨tb, 1, none⟩ = false ∧ w.frozen? ⟨tb, 2, none⟩ = false ∧ w.frozen? ⟨tb, 3, none⟩ = false ∧ w.frozen? ⟨tb, 4, none⟩ = false ∧ w.frozen? ⟨tb, 5, none⟩ = false ∧ w.frozen? ⟨tb, 6, none⟩ = false ∧ w.frozen? ⟨tb, 7, none⟩ = false :=
  ⟨hT.fz 1 (by omega), hT.fz 2 (by omega), hT.fz 3 (by omega), hT.fz 4 (by omega), hT.fz 5 (by omega), hT.fz 6 (by omega), hT.fz 7 (by omega)⟩

set_option maxRecDepth 100000 in
set_option maxHeartbeats 4000000 in
theorem end_calls {w : World} {tb base : Nat} {fuel z : Int} {evs : List Int} (hT : Tk w tb base fuel evs) (hb0 : tb < base) (hb1 : base ≤ w.heap.size) :
    Calls Tryz.prog 44 #[.pointer (some ⟨tb, 0, none⟩), ivv z] w fun e w' => ∃ a cap, e = .returned (.agg #[.slice a evs.length evs.length, .int .i64 1, .int .i64 z, .complex .f64 0 0, .string ⟨#[]⟩, .slice none 0 0, .int .i64 0]) ∧ w'.ownsRow base 69 7 (.slice a evs.length cap) evs.length (flat ec evs) ∧ Fx (fun g => g = tb ∨ base ≤ g) w w' := by
  obtain ⟨v0, hv0, ho0⟩ := hT.ev
  obtain ⟨a, cap, rfl⟩ := owns_slice ho0
  have hlt := hT.lt
  have HT0 := Lib.hid (And.intro hT (And.intro hv0 ho0))
  clear hT hv0 ho0
  unfold ivv
  go_enter Tryz.func44, Tryz.ntmps44
  go_wp2_with fail
  refine (copy_int _ z).mono ?_
  rintro e w1 ⟨rfl, hb⟩
  have hxx : Fx (fun _ => False) w w1 := (Fx.alloc (Fx.alloc (Fx.refl _ w) _) _).trans (Fx.ofB hb)
  obtain ⟨hT, hv0, ho0⟩ := HT0.out
  have hT1 := hT.fx hxx (fun h => h) (fun _ _ _ h => h)
  have T1 := (hxx.cell hlt (fun h => h) 1).trans hv0
  have TO := owns_fx' ho0 hxx (fun _ _ h => h)
  have hob := fun g hg => (owns_lt ho0 (g := g) hg)
  have hs1 : w.heap.size + 2 ≤ w1.heap.size := by have := hb.size; simpa using this
  have zz : ∀ j u, ([.slice none 0 0, .int .i64 0, .int .i64 0, .complex .f64 0 0, .string ⟨#[]⟩, .slice none 0 0, .int .i64 0] : List Value)[j]? = some u → w1.cell? ⟨w.heap.size + 1, j, none⟩ = some u := by
    intro j u hu
    rw [hb.cell (by simp)]
    simpa [go_sem] using hu
  have zf : ∀ j, j < 7 → w1.frozen? ⟨w.heap.size + 1, j, none⟩ = false := by
    intro j hj
    rw [hb.frozen (by simp)]
    simp [go_sem]
  have z0 := zz 0 _ rfl
  have z1 := zz 1 _ rfl
  have z2 := zz 2 _ rfl
  have z3 := zz 3 _ rfl
  have z4 := zz 4 _ rfl
  have z5 := zz 5 _ rfl
  have z6 := zz 6 _ rfl
  have y0 := zf 0 (by omega)
  have y1 := zf 1 (by omega)
  have y2 := zf 2 (by omega)
  have y3 := zf 3 (by omega)
  have y4 := zf 4 (by omega)
  have y5 := zf 5 (by omega)
  have y6 := zf 6 (by omega)
  obtain ⟨_, T2, T3, T4, T5, T6, T7⟩ := tk_cells hT1
  obtain ⟨F1, F2, F3, F4, F5, F6, F7⟩ := tk_free hT1
  have hne : w.heap.size + 1 ≠ tb := by omega
  have hne' : tb ≠ w.heap.size + 1 := by omega
  have HH := Lib.hid (And.intro TO (And.intro hxx (And.intro hs1 hob)))
  clear hT1 hT TO hxx hb zz zf hv0 ho0 hob
  unfold ivv
  go_wp2_with fail
  refine (clip_calls HH.out.1 _).mono ?_
  rintro e w2 ⟨rfl, rfl⟩
  go_wp2
  refine bodyPost_ret (v := .agg #[.slice a evs.length evs.length, .int .i64 1, .int .i64 z, .complex .f64 0 0, .string ⟨#[]⟩, .slice none 0 0, .int .i64 0]) (by simp [results, Tryz.results44, go_sem, z0, z1, z2, z3, z4, z5, z6]) rfl ?_
  obtain ⟨TO, hxx, hs1, hob⟩ := HH.out
  have hS : ∀ x0 x1 x2 x3 x4 x5 y0 y1 y2 y3 y4 y5 y6, Fx (fun g => g = tb ∨ g = w.heap.size + 1) w1 (((((((((((((w1.setCell ⟨tb, 2, none⟩ x0).setCell ⟨tb, 3, none⟩ x1).setCell ⟨tb, 4, none⟩ x2).setCell ⟨tb, 5, none⟩ x3).setCell ⟨tb, 6, none⟩ x4).setCell ⟨tb, 1, none⟩ x5).setCell ⟨w.heap.size + 1, 0, none⟩ y0).setCell ⟨w.heap.size + 1, 1, none⟩ y1).setCell ⟨w.heap.size + 1, 2, none⟩ y2).setCell ⟨w.heap.size + 1, 3, none⟩ y3).setCell ⟨w.heap.size + 1, 4, none⟩ y4).setCell ⟨w.heap.size + 1, 5, none⟩ y5).setCell ⟨w.heap.size + 1, 6, none⟩ y6) := by
    intro x0 x1 x2 x3 x4 x5 y0 y1 y2 y3 y4 y5 y6
    refine Fx.setCell (Fx.setCell (Fx.setCell (Fx.setCell (Fx.setCell (Fx.setCell (Fx.setCell (Fx.setCell (Fx.setCell (Fx.setCell (Fx.setCell (Fx.setCell (Fx.setCell (Fx.refl _ _) ?_ _) ?_ _) ?_ _) ?_ _) ?_ _) ?_ _) ?_ _) ?_ _) ?_ _) ?_ _) ?_ _) ?_ _) ?_ _
    all_goals first | exact .inl rfl | exact .inr rfl
  refine ⟨a, cap, rfl, owns_fx' TO (hS _ _ _ _ _ _ _ _ _ _ _ _ _) (fun g hg e => ?_), (hxx.mono fun _ _ h => h.elim).trans ((hS _ _ _ _ _ _ _ _ _ _ _ _ _).mono fun g _ h => h.imp id fun h => by omega)⟩
  have := hob g hg
  omega

set_option maxHeartbeats 1000000 in
theorem fill_calls (w : World) {n : Int} (hn : n ≤ 100000) : Calls Tryz.prog 40 #[.int .i64 n] w fun e w' => e = .returned (.pointer (some ⟨w.heap.size, 0, none⟩)) ∧ w' = w.alloc (.cells #[.int .i64 n, .slice none 0 0, .int .i64 0, .int .i64 0, .complex .f64 0 0, .string ⟨#[]⟩, .slice none 0 0, .int .i64 0] 194) := by
  go_enter Tryz.func40, Tryz.ntmps40
  go_wp2
  go_ret
  exact ⟨rfl, rfl⟩

end Go.Proofs.YtplnnlnkcfappaaGreat.Sv
