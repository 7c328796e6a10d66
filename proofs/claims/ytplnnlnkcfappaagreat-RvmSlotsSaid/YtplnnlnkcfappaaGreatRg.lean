/- RvmSlots: one step of the machine. -/
import Derived.Test.YtplnnlnkcfappaaGreatRf
namespace Go.Proofs.YtplnnlnkcfappaaGreat.Rs
open Go.RowKit
set_option linter.unusedSimpArgs false
set_option linter.unusedVariables false

/-- the open call -/
structure Cb (w : World) (cb rb sb : Nat) (at_ : Int) (K V : Value) : Prop where
  c3 : w.cell? ⟨cb, 3, none⟩ = some K
  c4 : w.cell? ⟨cb, 4, none⟩ = some V
  c5 : w.cell? ⟨cb, 5, none⟩ = some (.int .i64 at_)
  c7 : w.cell? ⟨cb, 7, none⟩ = some (.slice (some ⟨rb, 0, none⟩) 9 9)
  c8 : w.cell? ⟨cb, 8, none⟩ = some (.slice (some ⟨sb, 0, none⟩) 5 5)
  f5 : w.frozen? ⟨cb, 5, none⟩ = false
theorem Cb.lt {w : World} {cb rb sb : Nat} {at_ : Int} {K V : Value} (h : Cb w cb rb sb at_ K V) : cb < w.heap.size := World.block_lt_of_cell? w _ h.c3
theorem Cb.fx {S : Nat → Prop} {w w' : World} {cb rb sb : Nat} {at_ : Int} {K V : Value} (h : Cb w cb rb sb at_ K V) (hx : Fx S w w') (hn : ¬ S cb) : Cb w' cb rb sb at_ K V :=
  ⟨(hx.cell h.lt hn _).trans h.c3, (hx.cell h.lt hn _).trans h.c4, (hx.cell h.lt hn _).trans h.c5, (hx.cell h.lt hn _).trans h.c7, (hx.cell h.lt hn _).trans h.c8, (hx.frozen h.lt hn _).trans h.f5⟩

theorem sets5_fold (w : World) (g o : Nat) (x0 x1 x2 x3 x4 : Value) : ((((w.setCell ⟨g, o, none⟩ x0).setCell ⟨g, o + 1, none⟩ x1).setCell ⟨g, o + 2, none⟩ x2).setCell ⟨g, o + 3, none⟩ x3).setCell ⟨g, o + 4, none⟩ x4 = sets5 w g o x0 x1 x2 x3 x4 := rfl

/-- the i-th number of a row that is not written -/
def Rv (w : World) (b i : Nat) (n : Int) : Prop := ∀ j, j < 5 → w.cell? ⟨b, i * 5 + j, none⟩ = (vc n)[j]?
theorem Rv.cells {w : World} {b i : Nat} {n : Int} (h : Rv w b i n) : w.cell? ⟨b, i * 5, none⟩ = some (.int .i64 (kd n)) ∧ w.cell? ⟨b, i * 5 + 1, none⟩ = some (.int .i64 n) ∧ w.cell? ⟨b, i * 5 + 2, none⟩ = some (.complex .f64 0 0) ∧ w.cell? ⟨b, i * 5 + 3, none⟩ = some (.string ⟨#[]⟩) ∧ w.cell? ⟨b, i * 5 + 4, none⟩ = some (.slice none 0 0) :=
  ⟨h 0 (by omega), h 1 (by omega), h 2 (by omega), h 3 (by omega), h 4 (by omega)⟩
theorem Rv.fx {S : Nat → Prop} {w w' : World} {b i : Nat} {n : Int} (h : Rv w b i n) (hx : Fx S w w') (hb : b < w.heap.size) (hn : ¬ S b) : Rv w' b i n := fun j hj => (hx.cell hb hn _).trans (h j hj)
theorem Rv.lt {w : World} {b i : Nat} {n : Int} (h : Rv w b i n) : b < w.heap.size := World.block_lt_of_cell? w _ h.cells.1

set_option maxRecDepth 100000 in
set_option maxHeartbeats 4000000 in
theorem stepLoad {w : World} {cb rb sb : Nat} {tv K V : Value} {at_ : Int} {r s : Nat} {n m : Int} (hr : r < 9) (hs : s < 5) (hC : Cb w cb rb sb at_ K V) (hS : Vat w sb s n) (hR : Vat w rb r m) :
    Calls Tryz.prog 51 #[.pointer (some ⟨cb, 0, none⟩), tv, .agg #[.int .i64 13, .int .i64 r, .int .i64 s, .int .i64 0, .int .i64 0]] w fun e w' => e = .returned (.bool true) ∧ ∃ W, Fx (fun _ => False) w W ∧ w' = sets5 W rb (r * 5) (.int .i64 (kd n)) (.int .i64 n) (.complex .f64 0 0) (.string ⟨#[]⟩) (.slice none 0 0) := by
  have hr0 : (0 : Int) ≤ (r : Int) := by omega
  have hr9 : (r : Int) < 9 := by omega
  have hs0 : (0 : Int) ≤ (s : Int) := by omega
  have hs9 : (s : Int) < 5 := by omega
  have hx : Fx (fun _ => False) w (w.alloc (.cells #[.int .i64 13, .int .i64 r, .int .i64 s, .int .i64 0, .int .i64 0] 84)) := (Fx.refl _ _).alloc _
  have hx' := hx.drew
  obtain ⟨s0, s1, s2, s3, s4⟩ := (hS.fx hx hS.lt (fun h => h)).cells
  obtain ⟨r0, r1, r2, r3, r4⟩ := (hR.fx hx hR.lt (fun h => h)).cells
  obtain ⟨f0, f1, f2, f3, f4⟩ := (hR.fx hx hR.lt (fun h => h)).free
  obtain ⟨c3, c4, c5, c7, c8, f5⟩ := hC.fx hx (fun h => h)
  have g1 : (w.alloc (.cells #[.int .i64 13, .int .i64 r, .int .i64 s, .int .i64 0, .int .i64 0] 84)).cell? ⟨w.heap.size, 1, none⟩ = some (.int .i64 r) := by simp [go_sem]
  have g2 : (w.alloc (.cells #[.int .i64 13, .int .i64 r, .int .i64 s, .int .i64 0, .int .i64 0] 84)).cell? ⟨w.heap.size, 2, none⟩ = some (.int .i64 s) := by simp [go_sem]
  have HX := Lib.hid hx'
  clear hS hR hC hx hx'
  go_enter Tryz.func51, Tryz.ntmps51
  go_wp2_with fail
  generalize hW : w.alloc (.cells #[.int .i64 13, .int .i64 r, .int .i64 s, .int .i64 0, .int .i64 0] 84) = W at *
  clear hW
  refine wp_region_still_tail 15 (by kernel_rfl) (by kernel_rfl) ?_
  show wpStill Tryz.prog _ W.drew (fun a' => wpList Tryz.prog _ _ _ a' W.drew) _ _
  simp only [List.take_succ_cons, List.take_zero, List.drop_succ_cons, List.drop_zero]
  repeat still_step
  refine wpStill_nil ?_
  go_wp2
  go_ret
  exact ⟨rfl, W.drew, HX.out, rfl⟩

set_option maxRecDepth 100000 in
set_option maxHeartbeats 4000000 in
theorem stepStore {w : World} {cb rb sb : Nat} {tv K V : Value} {at_ : Int} {r s : Nat} {n m : Int} (hr : r < 9) (hs : s < 5) (hC : Cb w cb rb sb at_ K V) (hS : Vat w sb s m) (hR : Vat w rb r n) :
    Calls Tryz.prog 51 #[.pointer (some ⟨cb, 0, none⟩), tv, .agg #[.int .i64 14, .int .i64 r, .int .i64 s, .int .i64 0, .int .i64 0]] w fun e w' => e = .returned (.bool true) ∧ ∃ W, Fx (fun _ => False) w W ∧ w' = sets5 W sb (s * 5) (.int .i64 (kd n)) (.int .i64 n) (.complex .f64 0 0) (.string ⟨#[]⟩) (.slice none 0 0) := by
  have hr0 : (0 : Int) ≤ (r : Int) := by omega
  have hr9 : (r : Int) < 9 := by omega
  have hs0 : (0 : Int) ≤ (s : Int) := by omega
  have hs9 : (s : Int) < 5 := by omega
  have hx : Fx (fun _ => False) w (w.alloc (.cells #[.int .i64 14, .int .i64 r, .int .i64 s, .int .i64 0, .int .i64 0] 84)) := (Fx.refl _ _).alloc _
  have hx' := hx.drew
  obtain ⟨s0, s1, s2, s3, s4⟩ := (hS.fx hx hS.lt (fun h => h)).cells
  obtain ⟨r0, r1, r2, r3, r4⟩ := (hR.fx hx hR.lt (fun h => h)).cells
  obtain ⟨f0, f1, f2, f3, f4⟩ := (hS.fx hx hS.lt (fun h => h)).free
  obtain ⟨c3, c4, c5, c7, c8, f5⟩ := hC.fx hx (fun h => h)
  have g1 : (w.alloc (.cells #[.int .i64 14, .int .i64 r, .int .i64 s, .int .i64 0, .int .i64 0] 84)).cell? ⟨w.heap.size, 1, none⟩ = some (.int .i64 r) := by simp [go_sem]
  have g2 : (w.alloc (.cells #[.int .i64 14, .int .i64 r, .int .i64 s, .int .i64 0, .int .i64 0] 84)).cell? ⟨w.heap.size, 2, none⟩ = some (.int .i64 s) := by simp [go_sem]
  have HX := Lib.hid hx'
  clear hS hR hC hx hx'
  go_enter Tryz.func51, Tryz.ntmps51
  go_wp2_with fail
  generalize hW : w.alloc (.cells #[.int .i64 14, .int .i64 r, .int .i64 s, .int .i64 0, .int .i64 0] 84) = W at *
  clear hW
  refine wp_region_still_tail 15 (by kernel_rfl) (by kernel_rfl) ?_
  show wpStill Tryz.prog _ W.drew (fun a' => wpList Tryz.prog _ _ _ a' W.drew) _ _
  simp only [List.take_succ_cons, List.take_zero, List.drop_succ_cons, List.drop_zero]
  repeat still_step
  refine wpStill_nil ?_
  go_wp2
  go_ret
  exact ⟨rfl, W.drew, HX.out, rfl⟩

set_option maxRecDepth 100000 in
set_option maxHeartbeats 4000000 in
theorem stepConst {w : World} {cb rb sb : Nat} {tv V : Value} {at_ : Int} {r s : Nat} {n m : Int} {kb kn kc : Nat} (hr : r < 9) (hs : s < kn) (hC : Cb w cb rb sb at_ (.slice (some ⟨kb, 0, none⟩) kn kc) V) (hS : Rv w kb s n) (hR : Vat w rb r m) :
    Calls Tryz.prog 51 #[.pointer (some ⟨cb, 0, none⟩), tv, .agg #[.int .i64 1, .int .i64 r, .int .i64 s, .int .i64 0, .int .i64 0]] w fun e w' => e = .returned (.bool true) ∧ ∃ W, Fx (fun _ => False) w W ∧ w' = sets5 W rb (r * 5) (.int .i64 (kd n)) (.int .i64 n) (.complex .f64 0 0) (.string ⟨#[]⟩) (.slice none 0 0) := by
  have hr0 : (0 : Int) ≤ (r : Int) := by omega
  have hr9 : (r : Int) < 9 := by omega
  have hs0 : (0 : Int) ≤ (s : Int) := by omega
  have hs9 : (s : Int) < kn := by omega
  have hx : Fx (fun _ => False) w (w.alloc (.cells #[.int .i64 1, .int .i64 r, .int .i64 s, .int .i64 0, .int .i64 0] 84)) := (Fx.refl _ _).alloc _
  have hx' := hx.drew
  obtain ⟨s0, s1, s2, s3, s4⟩ := (hS.fx hx hS.lt (fun h => h)).cells
  obtain ⟨r0, r1, r2, r3, r4⟩ := (hR.fx hx hR.lt (fun h => h)).cells
  obtain ⟨f0, f1, f2, f3, f4⟩ := (hR.fx hx hR.lt (fun h => h)).free
  obtain ⟨c3, c4, c5, c7, c8, f5⟩ := hC.fx hx (fun h => h)
  have g1 : (w.alloc (.cells #[.int .i64 1, .int .i64 r, .int .i64 s, .int .i64 0, .int .i64 0] 84)).cell? ⟨w.heap.size, 1, none⟩ = some (.int .i64 r) := by simp [go_sem]
  have g2 : (w.alloc (.cells #[.int .i64 1, .int .i64 r, .int .i64 s, .int .i64 0, .int .i64 0] 84)).cell? ⟨w.heap.size, 2, none⟩ = some (.int .i64 s) := by simp [go_sem]
  have HX := Lib.hid hx'
  clear hS hR hC hx hx'
  go_enter Tryz.func51, Tryz.ntmps51
  go_wp2_with fail
  generalize hW : w.alloc (.cells #[.int .i64 1, .int .i64 r, .int .i64 s, .int .i64 0, .int .i64 0] 84) = W at *
  clear hW
  refine wp_region_still_tail 16 (by kernel_rfl) (by kernel_rfl) ?_
  show wpStill Tryz.prog _ W.drew (fun a' => wpList Tryz.prog _ _ _ a' W.drew) _ _
  simp only [List.take_succ_cons, List.take_zero, List.drop_succ_cons, List.drop_zero]
  repeat still_step
  refine wpStill_nil ?_
  go_wp2
  go_ret
  exact ⟨rfl, W.drew, HX.out, rfl⟩

end Go.Proofs.YtplnnlnkcfappaaGreat.Rs
