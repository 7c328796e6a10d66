/- The machine with a stack: the tank; a tick is told. -/
import Derived.Test.YtplnnlnkcfappaaGreatTe
import Derived.Lib.Hide
import Derived.Maps.AppendAt
import Derived.WalkLawsBesides
import Derived.StillTailTactics
import Derived.Deep.RegionLaw
namespace Go.Proofs.YtplnnlnkcfappaaGreat.Sv
open Go.RowKit E3
set_option linter.unusedSimpArgs false
set_option linter.unusedVariables false

variable {α β : Type}
/-- the cells of a list's elements, one behind the other -/
def flat (cells : α → List β) : List α → List β
  | [] => []
  | x :: l => cells x ++ flat cells l

theorem flat_append (cells : α → List β) (l r : List α) : flat cells (l ++ r) = flat cells l ++ flat cells r := by
  induction l with
  | nil => rfl
  | cons x l ih => simp [flat, ih]

theorem flat_length (cells : α → List β) (sz : Nat) (hc : ∀ x, (cells x).length = sz) (l : List α) : (flat cells l).length = l.length * sz := by
  induction l with
  | nil => simp [flat]
  | cons x l ih => simp [flat, ih, hc, Nat.add_mul, Nat.add_comm]


@[go_sem] theorem run_store_complex {P : Program} {w : World} {a : Addr} {m : Mode} (k : FloatKind) (x y : Nat) : (store a (.complex k x y) m).run P w = stored P w a (.complex k x y) m := run_store P w a _ m rfl

/-- only the blocks of S change -/
structure Fx (S : Nat → Prop) (w w' : World) : Prop where
  os : w'.os = w.os
  tape : w'.tape = w.tape
  output : w'.output = w.output
  size : w.heap.size ≤ w'.heap.size
  block : ∀ g, g < w.heap.size → ¬ S g → w'.heap[g]? = w.heap[g]?

theorem Fx.refl (S : Nat → Prop) (w : World) : Fx S w w := ⟨rfl, rfl, rfl, Nat.le_refl _, fun _ _ _ => rfl⟩
theorem Fx.trans {S : Nat → Prop} {a b c : World} (h : Fx S a b) (k : Fx S b c) : Fx S a c :=
  ⟨k.os.trans h.os, k.tape.trans h.tape, k.output.trans h.output, Nat.le_trans h.size k.size, fun g hg hn => (k.block g (Nat.lt_of_lt_of_le hg h.size) hn).trans (h.block g hg hn)⟩
theorem Fx.mono {S T : Nat → Prop} {w w' : World} (h : Fx S w w') (hST : ∀ g, g < w.heap.size → S g → T g) : Fx T w w' :=
  ⟨h.os, h.tape, h.output, h.size, fun g hg hn => h.block g hg fun hs => hn (hST g hg hs)⟩
theorem Fx.ofBelow {S : Nat → Prop} {B : Nat} {w w' : World} (h : Below B w w') (hS : ∀ g, g < w.heap.size → ¬ S g → g < B) : Fx S w w' :=
  ⟨h.os, h.tape, h.output, h.size, fun g hg hn => h.block g (hS g hg hn)⟩
theorem Fx.ofB {S : Nat → Prop} {w w' : World} (h : Below w.heap.size w w') : Fx S w w' := Fx.ofBelow h fun g hg _ => hg
theorem Fx.below {S : Nat → Prop} {B : Nat} {w w' : World} (h : Fx S w w') (hB : B ≤ w.heap.size) (hS : ∀ g, g < B → ¬ S g) : Below B w w' :=
  ⟨h.os, h.tape, h.output, h.size, fun g hg => h.block g (Nat.lt_of_lt_of_le hg hB) (hS g hg)⟩
theorem Fx.alloc {S : Nat → Prop} {a w : World} (h : Fx S a w) (o : Obj) : Fx S a (w.alloc o) := h.trans (Fx.ofB ((Below.refl _ _).alloc (Nat.le_refl _) o))
theorem Fx.drew {S : Nat → Prop} {a w : World} (h : Fx S a w) : Fx S a w.drew := ⟨h.os, h.tape, h.output, h.size, h.block⟩
theorem Fx.drewN {S : Nat → Prop} {a w : World} (h : Fx S a w) (n : Nat) : Fx S a (w.drewN n) := ⟨h.os, h.tape, h.output, h.size, h.block⟩
theorem Fx.setCell {S : Nat → Prop} {a w : World} (h : Fx S a w) {p : Addr} (hp : S p.block) (u : Value) : Fx S a (w.setCell p u) := by
  have hb := (Below.refl (B := p.block) w).setCell (p := p) (Nat.le_refl _) u
  refine ⟨hb.os.trans h.os, hb.tape.trans h.tape, hb.output.trans h.output, Nat.le_trans h.size hb.size, fun g hg hn => ?_⟩
  rw [Below.heap_setCell w p u g (fun e => hn (e ▸ hp))]
  exact h.block g hg hn
theorem Fx.cell {S : Nat → Prop} {w w' : World} (h : Fx S w w') {b : Nat} (hb : b < w.heap.size) (hn : ¬ S b) (o : Nat) : w'.cell? ⟨b, o, none⟩ = w.cell? ⟨b, o, none⟩ := World.cell?_of_block (w := w) (a := ⟨b, o, none⟩) (h.block b hb hn)
theorem Fx.frozen {S : Nat → Prop} {w w' : World} (h : Fx S w w') {b : Nat} (hb : b < w.heap.size) (hn : ¬ S b) (o : Nat) : w'.frozen? ⟨b, o, none⟩ = w.frozen? ⟨b, o, none⟩ := by
  simp only [World.frozen?, h.block b hb hn]

/-- five stores -/
def sets5 (w : World) (g o : Nat) (x0 x1 x2 x3 x4 : Value) : World := ((((w.setCell ⟨g, o, none⟩ x0).setCell ⟨g, o + 1, none⟩ x1).setCell ⟨g, o + 2, none⟩ x2).setCell ⟨g, o + 3, none⟩ x3).setCell ⟨g, o + 4, none⟩ x4
theorem Fx.sets5 {S : Nat → Prop} {a w : World} (h : Fx S a w) {g o : Nat} (hg : S g) (x0 x1 x2 x3 x4 : Value) : Fx S a (sets5 w g o x0 x1 x2 x3 x4) :=
  ((((h.setCell hg _).setCell hg _).setCell hg _).setCell hg _).setCell hg _
/-- nil, as a value -/
def vv : Value := .agg #[.int .i64 0, .int .i64 0, .complex .f64 0 0, .string ⟨#[]⟩, .slice none 0 0]
noncomputable def vvA : AV := .agg [.nat 0, .nat 0, .raw (.complex .f64 0 0), .str 0 0, .raw (.slice none 0 0)]
theorem vvA_den {ρ : Syms} (F : Env) : den ρ F vvA = some vv := by
  simp [vvA, vv, den, dens, strOf, bytesOf]
theorem copyNil_true : isVal vvA (rec Tryz.prog noOrc sk kn 200 83 [vvA] mem0) = true := by kernel_rfl
theorem copy_calls (w : World) : Calls Tryz.prog 83 #[vv] w fun e w' => e = .returned vv ∧ Below w.heap.size w w' :=
  runs_val (ρ := noSyms) mix (plainly_of plain_names) (noOrc_ok _) lex (kn_ok _) 200 83 [vvA] [vv] (dens_one (vvA_den _)) vvA vv (vvA_den _) copyNil_true Tryz.func83 (by kernel_rfl) w

/-- a tick's cells -/
def ec (n : Int) : List Value := [.int .i64 1, .int .i64 n, .int .i64 0, .int .i64 0, .complex .f64 0 0, .string ⟨#[]⟩, .slice none 0 0]
theorem ec_len (n : Int) : (ec n).length = 7 := rfl
/-- the tank: the fuel, and what was told -/
structure Tk (w : World) (tb base : Nat) (fuel : Int) (evs : List Int) : Prop where
  c0 : w.cell? ⟨tb, 0, none⟩ = some (.int .i64 fuel)
  ev : ∃ v, w.cell? ⟨tb, 1, none⟩ = some v ∧ w.ownsRow base 69 7 v evs.length (flat ec evs)
  c2 : w.cell? ⟨tb, 2, none⟩ = some (.int .i64 0)
  c3 : w.cell? ⟨tb, 3, none⟩ = some (.int .i64 0)
  c4 : w.cell? ⟨tb, 4, none⟩ = some (.complex .f64 0 0)
  c5 : w.cell? ⟨tb, 5, none⟩ = some (.string ⟨#[]⟩)
  c6 : w.cell? ⟨tb, 6, none⟩ = some (.slice none 0 0)
  c7 : w.cell? ⟨tb, 7, none⟩ = some (.int .i64 0)
  fz : ∀ j, j < 8 → w.frozen? ⟨tb, j, none⟩ = false
theorem Tk.lt {w : World} {tb base : Nat} {fuel : Int} {evs : List Int} (h : Tk w tb base fuel evs) : tb < w.heap.size := World.block_lt_of_cell? w _ h.c0
theorem owns_fx {S : Nat → Prop} {base : Nat} {e : TypeId} {sz : Nat} {w w' : World} {v : Value} {n : Nat} {xs : List Value} (h : w.ownsRow base e sz v n xs) (hx : Fx S w w') (hS : ∀ g, base ≤ g → g < w.heap.size → ¬ S g) : w'.ownsRow base e sz v n xs := by
  obtain ⟨hl, h | ⟨g, cap, cur, hv, hg, hh, r⟩⟩ := h
  · exact ⟨hl, .inl h⟩
  · have hlt : g < w.heap.size := (Array.getElem?_eq_some_iff.1 hh).1
    exact ⟨hl, .inr ⟨g, cap, cur, hv, hg, (hx.block g hlt (hS g hg hlt)).trans hh, r⟩⟩
theorem owns_fx' {S : Nat → Prop} {base : Nat} {e : TypeId} {sz : Nat} {w w' : World} {v : Value} {n : Nat} {xs : List Value} (h : w.ownsRow base e sz v n xs) (hx : Fx S w w') (hS : ∀ g, v.ownBlock = some g → ¬ S g) : w'.ownsRow base e sz v n xs := by
  obtain ⟨hl, h | ⟨g, cap, cur, hv, hg, hh, r⟩⟩ := h
  · exact ⟨hl, .inl h⟩
  · have hlt : g < w.heap.size := (Array.getElem?_eq_some_iff.1 hh).1
    exact ⟨hl, .inr ⟨g, cap, cur, hv, hg, (hx.block g hlt (hS g (by rw [hv]; rfl))).trans hh, r⟩⟩
theorem owns_lt {base : Nat} {e : TypeId} {sz : Nat} {w : World} {v : Value} {n : Nat} {xs : List Value} (h : w.ownsRow base e sz v n xs) {g : Nat} (hg : v.ownBlock = some g) : base ≤ g ∧ g < w.heap.size := by
  obtain ⟨hl, h | ⟨g', cap, cur, hv, hg', hh, r⟩⟩ := h
  · rw [h.1] at hg; cases hg
  · rw [hv] at hg
    obtain rfl := Option.some.inj hg
    exact ⟨hg', (Array.getElem?_eq_some_iff.1 hh).1⟩
theorem owns_ty {w : World} {base : Nat} {e : TypeId} {sz : Nat} {v : Value} {n : Nat} {xs : List Value} (h : w.ownsRow base e sz v n xs) {g : Nat} (hg : v.ownBlock = some g) : ∃ cs, w.heap[g]? = some (.cells cs e) := by
  obtain ⟨hl, h | ⟨g', cap, cur, hv, hg', hh, r⟩⟩ := h
  · rw [h.1] at hg; cases hg
  · rw [hv] at hg
    obtain rfl := Option.some.inj hg
    exact ⟨_, hh⟩
theorem Fx.ofGrown {w w' : World} {r : Option Nat} (h : w.grownBy w' r) : Fx (fun g => r = some g) w w' := ⟨h.os, h.tape, h.output, h.size, fun g hg hn => h.block g hg (fun e => hn e.symm)⟩
theorem owns_form {base : Nat} {e : TypeId} {sz : Nat} {w : World} {v : Value} {n : Nat} {xs : List Value} (h : w.ownsRow base e sz v n xs) : ∃ a m c, v = .slice a m c := by
  obtain ⟨hl, h | ⟨g', cap, cur, hv, r⟩⟩ := h
  · exact ⟨_, _, _, h.1⟩
  · exact ⟨_, _, _, hv⟩
theorem Tk.fx {S : Nat → Prop} {w w' : World} {tb base : Nat} {fuel : Int} {evs : List Int} (h : Tk w tb base fuel evs) (hx : Fx S w w') (ht : ¬ S tb) (hS : ∀ g, base ≤ g → g < w.heap.size → ¬ S g) : Tk w' tb base fuel evs := by
  have hc := hx.cell h.lt ht
  obtain ⟨v, hv, ho⟩ := h.ev
  exact ⟨(hc _).trans h.c0, ⟨v, (hc _).trans hv, owns_fx ho hx hS⟩, (hc _).trans h.c2, (hc _).trans h.c3, (hc _).trans h.c4, (hc _).trans h.c5, (hc _).trans h.c6, (hc _).trans h.c7, fun j hj => (hx.frozen h.lt ht _).trans (h.fz j hj)⟩

theorem tk_final {w2 : World} {tb base : Nat} {fuel : Int} {evs : List Int} {v x : Value} {m : Nat} {xs : List Value} (t0 : w2.cell? ⟨tb, 0, none⟩ = some (.int .i64 fuel)) (t1 : w2.cell? ⟨tb, 1, none⟩ = some x)
    (t2 : w2.cell? ⟨tb, 2, none⟩ = some (.int .i64 0)) (t3 : w2.cell? ⟨tb, 3, none⟩ = some (.int .i64 0)) (t4 : w2.cell? ⟨tb, 4, none⟩ = some (.complex .f64 0 0)) (t5 : w2.cell? ⟨tb, 5, none⟩ = some (.string ⟨#[]⟩)) (t6 : w2.cell? ⟨tb, 6, none⟩ = some (.slice none 0 0)) (t7 : w2.cell? ⟨tb, 7, none⟩ = some (.int .i64 0))
    (tf : ∀ j, j < 8 → w2.frozen? ⟨tb, j, none⟩ = false) (hO : w2.ownsRow base 69 7 v m xs) (hm : m = evs.length) (hxs : xs = flat ec evs) (hb : tb < base) : Tk (w2.setCell ⟨tb, 1, none⟩ v) tb base fuel evs := by
  subst hm hxs
  refine ⟨?_, ⟨v, ?_, owns_fx' hO (Fx.setCell (S := fun g => g = tb) (Fx.refl _ _) rfl _) fun g hg e => by have := (owns_lt hO hg).1; omega⟩, ?_, ?_, ?_, ?_, ?_, ?_, fun j hj => ?_⟩
  · simp [go_sem, t0]
  · simp [go_sem, t1]
  · simp [go_sem, t2]
  · simp [go_sem, t3]
  · simp [go_sem, t4]
  · simp [go_sem, t5]
  · simp [go_sem, t6]
  · simp [go_sem, t7]
  · have := tf j hj
    simp [go_sem, this]

theorem flat_snoc {α β : Type} (cells : α → List β) (l : List α) (x : α) : flat cells (l ++ [x]) = flat cells l ++ cells x := by
  rw [flat_append]
  simp [flat]
theorem info69 : (Tryz.prog.info? 69).map (fun i => (i.zero, i.size, i.bytes)) = some (some (.agg #[.int .i64 0, .int .i64 0, .int .i64 0, .int .i64 0, .complex .f64 0 0, .string ⟨#[]⟩, .slice none 0 0]), 7, 88) := by kernel_rfl

theorem setCell_ty {w : World} {g : Nat} {e : TypeId} (h : ∃ cs, w.heap[g]? = some (.cells cs e)) (a : Addr) (u : Value) : ∃ cs, (w.setCell a u).heap[g]? = some (.cells cs e) := by
  obtain ⟨cs, h⟩ := h
  by_cases hg : g = a.block
  · subst hg
    simp only [World.setCell, Array.getElem?_modify, if_true, h, Option.map_some]
    exact ⟨_, rfl⟩
  · exact ⟨cs, (Below.heap_setCell w a u g hg).trans h⟩

set_option maxRecDepth 100000 in
set_option maxHeartbeats 4000000 in
theorem tell_calls {w : World} {tb base : Nat} {fuel n : Int} {evs : List Int} (hT : Tk w tb base fuel evs) (h1 : 1 ≤ fuel) (h2 : fuel ≤ 5000) (hb0 : tb < base) (hb1 : base ≤ w.heap.size) (hl : evs.length ≤ 5000) (hty : ∃ cs, w.heap[tb]? = some (.cells cs 194)) :
    Calls Tryz.prog 90 #[.pointer (some ⟨tb, 0, none⟩), .agg #[.int .i64 1, .int .i64 n, .int .i64 0, .int .i64 0, .complex .f64 0 0, .string ⟨#[]⟩, .slice none 0 0]] w fun e w' => e = .returned (.bool true) ∧ Tk w' tb base (fuel - 1) (evs ++ [n]) ∧ (∃ cs, w'.heap[tb]? = some (.cells cs 194)) ∧ Fx (fun g => g = tb ∨ (base ≤ g ∧ ∃ cs, w.heap[g]? = some (.cells cs 69))) w w' := by
  have hnf : ¬ fuel < 1 := by omega
  have hwr : IntKind.i64.wrap (fuel - 1) = fuel - 1 := by rw [IntKind.wrap_i64]; omega
  have htl := hT.lt
  obtain ⟨c0, ⟨v, hv, ho⟩, c2, c3, c4, c5, c6, c7, fz⟩ := hT
  have hty1 := setCell_ty hty ⟨tb, 0, none⟩ (.int .i64 (fuel - 1))
  have HTY := Lib.hid (fun g (hg : v.ownBlock = some g) => owns_ty ho hg)
  have hne : w.heap.size ≠ tb := by omega
  have hne' : tb ≠ w.heap.size := by omega
  have hx : Fx (fun g => g = tb) w ((w.setCell ⟨tb, 0, none⟩ (.int .i64 (fuel - 1))).alloc (.cells #[.int .i64 1, .int .i64 n, .int .i64 0, .int .i64 0, .complex .f64 0 0, .string ⟨#[]⟩, .slice none 0 0] 69)) := Fx.alloc (Fx.setCell (S := fun g => g = tb) (Fx.refl _ _) rfl _) _
  have hal : Fx (fun _ => False) (w.setCell ⟨tb, 0, none⟩ (.int .i64 (fuel - 1))) ((w.setCell ⟨tb, 0, none⟩ (.int .i64 (fuel - 1))).alloc (.cells #[.int .i64 1, .int .i64 n, .int .i64 0, .int .i64 0, .complex .f64 0 0, .string ⟨#[]⟩, .slice none 0 0] 69)) := (Fx.refl _ _).alloc _
  have hcell := fun o => hal.cell (b := tb) (by simpa using htl) (fun h => h) o
  have hfroz := fun o => hal.frozen (b := tb) (by simpa using htl) (fun h => h) o
  have t0 : ((w.setCell ⟨tb, 0, none⟩ (.int .i64 (fuel - 1))).alloc (.cells #[.int .i64 1, .int .i64 n, .int .i64 0, .int .i64 0, .complex .f64 0 0, .string ⟨#[]⟩, .slice none 0 0] 69)).cell? ⟨tb, 0, none⟩ = some (.int .i64 (fuel - 1)) := by rw [hcell]; simp [go_sem, c0]
  have tt : ∀ j u, j ≠ 0 → w.cell? ⟨tb, j, none⟩ = some u → ((w.setCell ⟨tb, 0, none⟩ (.int .i64 (fuel - 1))).alloc (.cells #[.int .i64 1, .int .i64 n, .int .i64 0, .int .i64 0, .complex .f64 0 0, .string ⟨#[]⟩, .slice none 0 0] 69)).cell? ⟨tb, j, none⟩ = some u := by
    intro j u hj hu
    rw [hcell]
    have hj' : ¬ (0 = j) := fun e => hj e.symm
    simp [go_sem, hu, hj']
  have tf : ∀ j, j < 8 → ((w.setCell ⟨tb, 0, none⟩ (.int .i64 (fuel - 1))).alloc (.cells #[.int .i64 1, .int .i64 n, .int .i64 0, .int .i64 0, .complex .f64 0 0, .string ⟨#[]⟩, .slice none 0 0] 69)).frozen? ⟨tb, j, none⟩ = false := by
    intro j hj
    rw [hfroz]
    simp [go_sem, fz j hj]
  have hob := fun g hg => (owns_lt ho (g := g) hg)
  have ho0 := owns_fx ho hx fun g hg _ => by omega
  have hv0 := tt 1 _ (by omega) hv
  have k2 := tt 2 _ (by omega) c2
  have k3 := tt 3 _ (by omega) c3
  have k4 := tt 4 _ (by omega) c4
  have k5 := tt 5 _ (by omega) c5
  have k6 := tt 6 _ (by omega) c6
  have k7 := tt 7 _ (by omega) c7
  have HX := Lib.hid hx
  have HT := Lib.hid (And.intro t0 (And.intro hv0 (And.intro k2 (And.intro k3 (And.intro k4 (And.intro k5 (And.intro k6 (And.intro k7 (And.intro tf (And.intro ho0 hob))))))))))
  have F0 := fz 0 (by omega)
  clear fz hx ho hal hcell hfroz t0 tt tf ho0 hob hv0 k2 k3 k4 k5 k6 k7
  go_enter Tryz.func90, Tryz.ntmps90
  go_wp2_with fail
  refine (copy_calls _).mono ?_
  rintro e w1 ⟨rfl, hb⟩
  have hs0 : w.heap.size + 1 ≤ w1.heap.size := by have := hb.size; simpa using this
  have hx1 := HX.out.trans (Fx.ofB hb)
  have hb' : Fx (fun _ => False) _ w1 := Fx.ofB hb
  have htl' : tb < ((w.setCell ⟨tb, 0, none⟩ (.int .i64 (fuel - 1))).alloc (.cells #[.int .i64 1, .int .i64 n, .int .i64 0, .int .i64 0, .complex .f64 0 0, .string ⟨#[]⟩, .slice none 0 0] 69)).heap.size := by simp; omega
  have b0 : w1.cell? ⟨w.heap.size, 0, none⟩ = some (.int .i64 1) := by rw [hb.cell (by simp)]; simp [go_sem]
  have b1 : w1.cell? ⟨w.heap.size, 1, none⟩ = some (.int .i64 n) := by rw [hb.cell (by simp)]; simp [go_sem]
  have b2 : w1.cell? ⟨w.heap.size, 2, none⟩ = some (.int .i64 0) := by rw [hb.cell (by simp)]; simp [go_sem]
  have b3 : w1.cell? ⟨w.heap.size, 3, none⟩ = some (.int .i64 0) := by rw [hb.cell (by simp)]; simp [go_sem]
  have b4 : w1.cell? ⟨w.heap.size, 4, none⟩ = some (.complex .f64 0 0) := by rw [hb.cell (by simp)]; simp [go_sem]
  have b5 : w1.cell? ⟨w.heap.size, 5, none⟩ = some (.string ⟨#[]⟩) := by rw [hb.cell (by simp)]; simp [go_sem]
  have b6 : w1.cell? ⟨w.heap.size, 6, none⟩ = some (.slice none 0 0) := by rw [hb.cell (by simp)]; simp [go_sem]
  have g2 : w1.frozen? ⟨w.heap.size, 2, none⟩ = false := by rw [hb.frozen (by simp)]; simp [go_sem]
  have g3 : w1.frozen? ⟨w.heap.size, 3, none⟩ = false := by rw [hb.frozen (by simp)]; simp [go_sem]
  have g4 : w1.frozen? ⟨w.heap.size, 4, none⟩ = false := by rw [hb.frozen (by simp)]; simp [go_sem]
  have g5 : w1.frozen? ⟨w.heap.size, 5, none⟩ = false := by rw [hb.frozen (by simp)]; simp [go_sem]
  have g6 : w1.frozen? ⟨w.heap.size, 6, none⟩ = false := by rw [hb.frozen (by simp)]; simp [go_sem]
  have hx2 : Fx (fun g => g = w.heap.size) w1 (sets5 w1 w.heap.size 2 (.int .i64 0) (.int .i64 0) (.complex .f64 0 0) (.string ⟨#[]⟩) (.slice none 0 0)) := Fx.sets5 (S := fun g => g = w.heap.size) (Fx.refl _ _) rfl _ _ _ _ _
  have bb : ∀ j u, (ec n)[j]? = some u → (sets5 w1 w.heap.size 2 (.int .i64 0) (.int .i64 0) (.complex .f64 0 0) (.string ⟨#[]⟩) (.slice none 0 0)).cell? ⟨w.heap.size, j, none⟩ = some u := by
    intro j u hu
    have hj : j < 7 := (List.getElem?_eq_some_iff.1 hu).1
    unfold sets5
    obtain rfl | rfl | rfl | rfl | rfl | rfl | rfl : j = 0 ∨ j = 1 ∨ j = 2 ∨ j = 3 ∨ j = 4 ∨ j = 5 ∨ j = 6 := by omega
    all_goals
      simp only [ec, List.getElem?_cons_zero, List.getElem?_cons_succ, Option.some.injEq] at hu
      subst hu
      simp [go_sem, b0, b1, b2, b3, b4, b5, b6]
  obtain ⟨t0, hv0, k2, k3, k4, k5, k6, k7, tf, ho0, hob⟩ := HT.out
  have cc := fun o => (hx2.cell (b := tb) (by omega) hne' o).trans (hb'.cell (b := tb) htl' (fun h => h) o)
  have ff := fun o => (hx2.frozen (b := tb) (by omega) hne' o).trans (hb'.frozen (b := tb) htl' (fun h => h) o)
  have T0 := (cc 0).trans t0
  have T1 := (cc 1).trans hv0
  have T2 := (cc 2).trans k2
  have T3 := (cc 3).trans k3
  have T4 := (cc 4).trans k4
  have T5 := (cc 5).trans k5
  have T6 := (cc 6).trans k6
  have T7 := (cc 7).trans k7
  have TF := fun j hj => (ff j).trans (tf j hj)
  have TO := owns_fx' (owns_fx' ho0 hb' fun _ _ h => h) hx2 (fun g hg e => by have := (hob g hg).2; omega)
  have HSH := Lib.hid (show ∃ cs, (sets5 w1 w.heap.size 2 (.int .i64 0) (.int .i64 0) (.complex .f64 0 0) (.string ⟨#[]⟩) (.slice none 0 0)).heap[tb]? = some (.cells cs 194) from (by
    obtain ⟨cs, hcs⟩ := hty1
    exact ⟨cs, ((hx2.block tb (by omega) hne').trans (hb'.block tb htl' (fun h => h))).trans ((Below.heap_alloc _ _ tb (by simpa using htl)).trans hcs)⟩))
  have XX : Fx (fun g => g = tb ∨ w.heap.size ≤ g) w _ := (hx1.mono (T := fun g => g = tb ∨ w.heap.size ≤ g) (fun g _ h => .inl h)).trans (hx2.mono (fun g _ h => .inr (by omega)))
  have hsz2 := hx2.size
  have BB := Lib.hid bb
  have HTT := Lib.hid (And.intro T2 (And.intro T3 (And.intro T4 (And.intro T5 (And.intro T6 (And.intro T7 (And.intro TF (And.intro TO (And.intro hob (And.intro XX (And.intro hs0 hsz2)))))))))))
  have F1 := TF 1 (by omega)
  clear hx1 hb' htl' hx2 bb t0 hv0 k2 k3 k4 k5 k6 k7 tf ho0 hob cc ff T2 T3 T4 T5 T6 T7 TF TO XX HT HX hb hs0 hsz2
  have E0 := BB.out 0 _ rfl
  have E1 := BB.out 1 _ rfl
  have E2 := BB.out 2 _ rfl
  have E3 := BB.out 3 _ rfl
  have E4 := BB.out 4 _ rfl
  have E5 := BB.out 5 _ rfl
  have E6 := BB.out 6 _ rfl
  generalize hW : sets5 w1 w.heap.size 2 (.int .i64 0) (.int .i64 0) (.complex .f64 0 0) (.string ⟨#[]⟩) (.slice none 0 0) = W at *
  unfold vv
  go_wp2_with fail
  rw [show ((((w1.setCell ⟨w.heap.size, 2, none⟩ (.int .i64 0)).setCell ⟨w.heap.size, 3, none⟩ (.int .i64 0)).setCell ⟨w.heap.size, 4, none⟩ (.complex .f64 0 0)).setCell ⟨w.heap.size, 5, none⟩ (.string ⟨#[]⟩)).setCell ⟨w.heap.size, 6, none⟩ (.slice none 0 0) = W from hW]
  clear hW b0 b1 b2 b3 b4 b5 b6 g2 g3 g4 g5 g6
  have hN : Fx (fun _ => False) W (W.alloc (.cells #[.int .i64 1, .int .i64 n, .int .i64 0, .int .i64 0, .complex .f64 0 0, .string ⟨#[]⟩, .slice none 0 0] 69)).drew := ((Fx.refl _ _).alloc _).drew
  have hO := owns_fx' HTT.out.2.2.2.2.2.2.2.1 hN (fun _ _ h => h)
  have HN := Lib.hid hN
  have HO := Lib.hid hO
  clear hN hO
  have C1 : ∀ j u, (ec n)[j]? = some u → (W.alloc (.cells #[.int .i64 1, .int .i64 n, .int .i64 0, .int .i64 0, .complex .f64 0 0, .string ⟨#[]⟩, .slice none 0 0] 69)).drew.cell? ((⟨W.heap.size, 0, none⟩ : Addr).add j) = some u := by
    intro j u hu
    have hj : j < 7 := (List.getElem?_eq_some_iff.1 hu).1
    obtain rfl | rfl | rfl | rfl | rfl | rfl | rfl : j = 0 ∨ j = 1 ∨ j = 2 ∨ j = 3 ∨ j = 4 ∨ j = 5 ∨ j = 6 := by omega
    all_goals
      simp only [ec, List.getElem?_cons_zero, List.getElem?_cons_succ, Option.some.injEq] at hu
      subst hu
      simp [go_sem, Addr.add]
  have C2 : ∀ u ∈ ec n, u.oneCell' = true := by
    intro u hu
    simp only [ec, List.mem_cons, List.not_mem_nil, or_false] at hu
    rcases hu with rfl | rfl | rfl | rfl | rfl | rfl | rfl <;> rfl
  have C5 : base ≤ (W.alloc (.cells #[.int .i64 1, .int .i64 n, .int .i64 0, .int .i64 0, .complex .f64 0 0, .string ⟨#[]⟩, .slice none 0 0] 69)).drew.heap.size := by
    have h1 := HTT.out.2.2.2.2.2.2.2.2.2.2
    simp
    omega
  have D1 := Lib.hid C1
  have D2 := Lib.hid C2
  have D5 := Lib.hid C5
  clear C1 C2 C5
  have htW : tb < W.heap.size := by have := HTT.out.2.2.2.2.2.2.2.2.2.2; omega
  obtain ⟨i0, hi, hz0, hz1, hz2⟩ := info_parts info69
  go_region_law ((rw [if_pos (by rfl)]; refine wp_append_own _ (.tmp 28) (.tmp 30) 51 rfl base 69 i0 _ 7 88 Tryz.underlying51 hi hz0 hz1 hz2 rfl (by decide) v evs.length _ rfl HO.out ⟨W.heap.size, 0, none⟩ 1 1 (ec n) rfl rfl D1.out D2.out (by unfold maxLen; omega) (by omega) D5.out ?_; intro v2 w2 hown2 hgrow _; obtain ⟨ga, gm, gc, rfl⟩ := owns_form hown2; have hfx := (HN.out.mono (T := fun g => v.ownBlock = some g) (fun _ _ h => h.elim)).trans (Fx.ofGrown hgrow); have hnt : ¬ v.ownBlock = some tb := fun e => (by have := (HTT.out.2.2.2.2.2.2.2.2.1 tb e).1; omega); have e1 := (hfx.cell htW hnt 1).trans T1; have e2 := (hfx.frozen htW hnt 1).trans F1))
  all_goals
    have HOW := Lib.hid hown2
    have HFX := Lib.hid hfx
    have HNT := Lib.hid hnt
    clear hown2 hfx hnt hgrow
    go_wp2
    go_ret
    obtain ⟨T2, T3, T4, T5, T6, T7, TF, TO, hob, XX, hs0, hsz2⟩ := HTT.out
    have cc := fun o => HFX.out.cell (b := tb) htW HNT.out o
    have ff := fun o => HFX.out.frozen (b := tb) htW HNT.out o
    refine ⟨rfl, tk_final ((cc 0).trans T0) e1 ((cc 2).trans T2) ((cc 3).trans T3) ((cc 4).trans T4) ((cc 5).trans T5) ((cc 6).trans T6) ((cc 7).trans T7) (fun j hj => (ff j).trans (TF j hj)) HOW.out (by simp) (flat_snoc _ _ _).symm hb0, setCell_ty (by obtain ⟨cs, hcs⟩ := HSH.out; exact ⟨cs, (HFX.out.block tb htW HNT.out).trans hcs⟩) _ _, ?_⟩
    exact Fx.setCell ((XX.mono (fun g hg h => h.elim .inl (fun h => by omega))).trans (HFX.out.mono fun g _ h => .inr ⟨(hob g h).1, HTY.out g h⟩)) (.inl rfl) _

end Go.Proofs.YtplnnlnkcfappaaGreat.Sv
