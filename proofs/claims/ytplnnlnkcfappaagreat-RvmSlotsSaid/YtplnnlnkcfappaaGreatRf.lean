/- RvmSlots: what stays as it was; rows of numbers; the machine's state. -/
import Derived.Test.YtplnnlnkcfappaaGreatRe
import Derived.StillTailTactics
namespace Go.Proofs.YtplnnlnkcfappaaGreat.Rs
open Go.RowKit
set_option linter.unusedSimpArgs false
set_option linter.unusedVariables false

@[go_sem] theorem run_store_complex {P : Program} {w : World} {a : Addr} {m : Mode} (k : FloatKind) (x y : Nat) : (store a (.complex k x y) m).run P w = stored P w a (.complex k x y) m := run_store P w a _ m rfl

/-- only the blocks of S change -/
structure Fx (S : Nat → Prop) (w w' : World) : Prop where
  os : w'.os = w.os
  tape : w'.tape = w.tape
  output : w'.output = w.output
  size : w.heap.size ≤ w'.heap.size
  block : ∀ g, g < w.heap.size → ¬ S g → w'.heap[g]? = w.heap[g]?

theorem Fx.refl (S : Nat → Prop) (w : World) : Fx S w w := ⟨rfl, rfl, rfl, Nat.le_refl _, fun _ _ _ => rfl⟩
theorem Fx.trans {S : Nat → Prop} {a b c : World} (h : Fx S a b) (k : Fx S b c) : Fx S a c :=
  ⟨k.os.trans h.os, k.tape.trans h.tape, k.output.trans h.output, Nat.le_trans h.size k.size, fun g hg hn => (k.block g (Nat.lt_of_lt_of_le hg h.size) hn).trans (h.block g hg hn)⟩
theorem Fx.mono {S T : Nat → Prop} {w w' : World} (h : Fx S w w') (hST : ∀ g, g < w.heap.size → S g → T g) : Fx T w w' :=
  ⟨h.os, h.tape, h.output, h.size, fun g hg hn => h.block g hg fun hs => hn (hST g hg hs)⟩
theorem Fx.ofBelow {S : Nat → Prop} {B : Nat} {w w' : World} (h : Below B w w') (hS : ∀ g, g < w.heap.size → ¬ S g → g < B) : Fx S w w' :=
  ⟨h.os, h.tape, h.output, h.size, fun g hg hn => h.block g (hS g hg hn)⟩
theorem Fx.ofB {S : Nat → Prop} {w w' : World} (h : Below w.heap.size w w') : Fx S w w' := Fx.ofBelow h fun g hg _ => hg
theorem Fx.below {S : Nat → Prop} {B : Nat} {w w' : World} (h : Fx S w w') (hB : B ≤ w.heap.size) (hS : ∀ g, g < B → ¬ S g) : Below B w w' :=
  ⟨h.os, h.tape, h.output, h.size, fun g hg => h.block g (Nat.lt_of_lt_of_le hg hB) (hS g hg)⟩
theorem Fx.alloc {S : Nat → Prop} {a w : World} (h : Fx S a w) (o : Obj) : Fx S a (w.alloc o) := h.trans (Fx.ofB ((Below.refl _ _).alloc (Nat.le_refl _) o))
theorem Fx.drew {S : Nat → Prop} {a w : World} (h : Fx S a w) : Fx S a w.drew := ⟨h.os, h.tape, h.output, h.size, h.block⟩
theorem Fx.drewN {S : Nat → Prop} {a w : World} (h : Fx S a w) (n : Nat) : Fx S a (w.drewN n) := ⟨h.os, h.tape, h.output, h.size, h.block⟩
theorem Fx.setCell {S : Nat → Prop} {a w : World} (h : Fx S a w) {p : Addr} (hp : S p.block) (u : Value) : Fx S a (w.setCell p u) := by
  have hb := (Below.refl (B := p.block) w).setCell (p := p) (Nat.le_refl _) u
  refine ⟨hb.os.trans h.os, hb.tape.trans h.tape, hb.output.trans h.output, Nat.le_trans h.size hb.size, fun g hg hn => ?_⟩
  rw [Below.heap_setCell w p u g (fun e => hn (e ▸ hp))]
  exact h.block g hg hn
theorem Fx.cell {S : Nat → Prop} {w w' : World} (h : Fx S w w') {b : Nat} (hb : b < w.heap.size) (hn : ¬ S b) (o : Nat) : w'.cell? ⟨b, o, none⟩ = w.cell? ⟨b, o, none⟩ := World.cell?_of_block (w := w) (a := ⟨b, o, none⟩) (h.block b hb hn)
theorem Fx.frozen {S : Nat → Prop} {w w' : World} (h : Fx S w w') {b : Nat} (hb : b < w.heap.size) (hn : ¬ S b) (o : Nat) : w'.frozen? ⟨b, o, none⟩ = w.frozen? ⟨b, o, none⟩ := by
  simp only [World.frozen?, h.block b hb hn]

/-- the i-th number of a row of numbers -/
structure Vat (w : World) (b i : Nat) (n : Int) : Prop where
  c : ∀ j, j < 5 → w.cell? ⟨b, i * 5 + j, none⟩ = (vc n)[j]?
  f : ∀ j, j < 5 → w.frozen? ⟨b, i * 5 + j, none⟩ = false
theorem Vat.cells {w : World} {b i : Nat} {n : Int} (h : Vat w b i n) : w.cell? ⟨b, i * 5, none⟩ = some (.int .i64 (kd n)) ∧ w.cell? ⟨b, i * 5 + 1, none⟩ = some (.int .i64 n) ∧ w.cell? ⟨b, i * 5 + 2, none⟩ = some (.complex .f64 0 0) ∧ w.cell? ⟨b, i * 5 + 3, none⟩ = some (.string ⟨#[]⟩) ∧ w.cell? ⟨b, i * 5 + 4, none⟩ = some (.slice none 0 0) :=
  ⟨h.c 0 (by omega), h.c 1 (by omega), h.c 2 (by omega), h.c 3 (by omega), h.c 4 (by omega)⟩
theorem Vat.free {w : World} {b i : Nat} {n : Int} (h : Vat w b i n) : w.frozen? ⟨b, i * 5, none⟩ = false ∧ w.frozen? ⟨b, i * 5 + 1, none⟩ = false ∧ w.frozen? ⟨b, i * 5 + 2, none⟩ = false ∧ w.frozen? ⟨b, i * 5 + 3, none⟩ = false ∧ w.frozen? ⟨b, i * 5 + 4, none⟩ = false :=
  ⟨h.f 0 (by omega), h.f 1 (by omega), h.f 2 (by omega), h.f 3 (by omega), h.f 4 (by omega)⟩
theorem Vat.fx {S : Nat → Prop} {w w' : World} {b i : Nat} {n : Int} (h : Vat w b i n) (hx : Fx S w w') (hb : b < w.heap.size) (hn : ¬ S b) : Vat w' b i n :=
  ⟨fun j hj => (hx.cell hb hn _).trans (h.c j hj), fun j hj => (hx.frozen hb hn _).trans (h.f j hj)⟩
theorem Vat.lt {w : World} {b i : Nat} {n : Int} (h : Vat w b i n) : b < w.heap.size := World.block_lt_of_cell? w _ h.cells.1

/-- the numbers of a row -/
def Vats (w : World) (b k : Nat) (σ : Nat → Int) : Prop := ∀ i, i < k → Vat w b i (σ i)
theorem Vats.fx {S : Nat → Prop} {w w' : World} {b k : Nat} {σ : Nat → Int} (h : Vats w b k σ) (hx : Fx S w w') (hb : b < w.heap.size) (hn : ¬ S b) : Vats w' b k σ := fun i hi => (h i hi).fx hx hb hn

def upd (σ : Nat → Int) (r : Nat) (n : Int) : Nat → Int := fun i => if i = r then n else σ i
/-- five stores -/
def sets5 (w : World) (g o : Nat) (x0 x1 x2 x3 x4 : Value) : World := ((((w.setCell ⟨g, o, none⟩ x0).setCell ⟨g, o + 1, none⟩ x1).setCell ⟨g, o + 2, none⟩ x2).setCell ⟨g, o + 3, none⟩ x3).setCell ⟨g, o + 4, none⟩ x4
theorem Fx.sets5 {S : Nat → Prop} {a w : World} (h : Fx S a w) {g o : Nat} (hg : S g) (x0 x1 x2 x3 x4 : Value) : Fx S a (sets5 w g o x0 x1 x2 x3 x4) :=
  ((((h.setCell hg _).setCell hg _).setCell hg _).setCell hg _).setCell hg _
theorem Vats.set {w : World} {b k : Nat} {σ : Nat → Int} (h : Vats w b k σ) (r : Nat) (hr : r < k) (n : Int) : Vats (sets5 w b (r * 5) (.int .i64 (kd n)) (.int .i64 n) (.complex .f64 0 0) (.string ⟨#[]⟩) (.slice none 0 0)) b k (upd σ r n) := by
  intro i hi
  obtain ⟨p0, p1, p2, p3, p4⟩ := (h r hr).cells
  refine ⟨fun j hj => ?_, fun j hj => ?_⟩
  · by_cases hir : i = r
    · subst hir
      simp only [upd, if_true]
      unfold sets5
      obtain rfl | rfl | rfl | rfl | rfl : j = 0 ∨ j = 1 ∨ j = 2 ∨ j = 3 ∨ j = 4 := by omega
      all_goals simp [go_sem, p0, p1, p2, p3, p4, vc]
    · simp only [upd, if_neg hir]
      rw [← (h i hi).c j hj]
      unfold sets5
      have e0 : ¬ (r * 5 = i * 5 + j) := by omega
      have e1 : ¬ (r * 5 + 1 = i * 5 + j) := by omega
      have e2 : ¬ (r * 5 + 2 = i * 5 + j) := by omega
      have e3 : ¬ (r * 5 + 3 = i * 5 + j) := by omega
      have e4 : ¬ (r * 5 + 4 = i * 5 + j) := by omega
      simp [go_sem, e0, e1, e2, e3, e4]
  · have hf := (h i hi).f j hj
    unfold sets5
    simp [go_sem, hf]

end Go.Proofs.YtplnnlnkcfappaaGreat.Rs
