/- RvmSlots: an instruction that puts out; the tank at the end and at the start. -/
import Derived.Test.YtplnnlnkcfappaaGreatRh
namespace Go.Proofs.YtplnnlnkcfappaaGreat.Rs
open Go.RowKit
set_option linter.unusedSimpArgs false
set_option linter.unusedVariables false

set_option maxRecDepth 100000 in
set_option maxHeartbeats 4000000 in
theorem stepOut {w : World} {cb rb sb tb base : Nat} {K V : Value} {at_ fuel : Int} {r : Nat} {n : Int} {evs : List Int} (hr : r < 9) (hC : Cb w cb rb sb at_ K V) (hR : Vat w rb r n) (hT : Tk w tb base fuel evs) (h1 : 1 ≤ fuel) (h2 : fuel ≤ 1000) (hb0 : tb < base) (hb1 : base ≤ w.heap.size) (hl : evs.length ≤ 1000) :
    Calls Tryz.prog 51 #[.pointer (some ⟨cb, 0, none⟩), .pointer (some ⟨tb, 0, none⟩), .agg #[.int .i64 8, .int .i64 r, .int .i64 0, .int .i64 0, .int .i64 0]] w fun e w' => e = .returned (.bool true) ∧ Tk w' tb base (fuel - 1) (evs ++ [n]) ∧ Fx (fun g => g = tb ∨ base ≤ g) w w' := by
  have hr0 : (0 : Int) ≤ (r : Int) := by omega
  have hr9 : (r : Int) < 9 := by omega
  have hx : Fx (fun _ => False) w (w.alloc (.cells #[.int .i64 8, .int .i64 r, .int .i64 0, .int .i64 0, .int .i64 0] 84)) := (Fx.refl _ _).alloc _
  have hx' := hx.drew
  have hT' := hT.fx hx' (fun h => h) (fun _ _ _ h => h)
  obtain ⟨r0, r1, r2, r3, r4⟩ := (hR.fx hx hR.lt (fun h => h)).cells
  obtain ⟨c3, c4, c5, c7, c8, f5⟩ := hC.fx hx (fun h => h)
  have g1 : (w.alloc (.cells #[.int .i64 8, .int .i64 r, .int .i64 0, .int .i64 0, .int .i64 0] 84)).cell? ⟨w.heap.size, 1, none⟩ = some (.int .i64 r) := by simp [go_sem]
  have hsz : base ≤ (w.alloc (.cells #[.int .i64 8, .int .i64 r, .int .i64 0, .int .i64 0, .int .i64 0] 84)).drew.heap.size := by simp; omega
  have HX := Lib.hid (And.intro hx' (And.intro hT' hsz))
  clear hR hC hx hx' hT hT' hsz
  go_enter Tryz.func51, Tryz.ntmps51
  go_wp2_with fail
  generalize hW : w.alloc (.cells #[.int .i64 8, .int .i64 r, .int .i64 0, .int .i64 0, .int .i64 0] 84) = W at *
  clear hW
  refine wp_region_still_tail 10 (by kernel_rfl) (by kernel_rfl) ?_
  show wpStill Tryz.prog _ W.drew (fun a' => wpList Tryz.prog _ _ _ a' W.drew) _ _
  simp only [List.take_succ_cons, List.take_zero, List.drop_succ_cons, List.drop_zero]
  repeat still_step
  refine wpStill_nil ?_
  go_wp2_with fail
  refine (tell_calls (n := n) HX.out.2.1 h1 h2 hb0 HX.out.2.2 hl).mono ?_
  rintro e w2 ⟨rfl, hT2, hx2⟩
  have HT2 := Lib.hid hT2
  have HX2 := Lib.hid hx2
  clear hT2 hx2
  go_wp2
  go_ret
  exact ⟨rfl, HT2.out, (HX.out.1.mono fun _ _ h => h.elim).trans HX2.out⟩

end Go.Proofs.YtplnnlnkcfappaaGreat.Rs
