/- RvmSlots: a tank is filled, a call is opened. -/
import Derived.Test.YtplnnlnkcfappaaGreatRj
import Derived.Laws.CopyRow
namespace Go.Proofs.YtplnnlnkcfappaaGreat.Rs
open Go.RowKit
set_option linter.unusedSimpArgs false
set_option linter.unusedVariables false

set_option maxHeartbeats 1000000 in
theorem fill_calls (w : World) : Calls Tryz.prog 40 #[.int .i64 99] w fun e w' => e = .returned (.pointer (some ⟨w.heap.size, 0, none⟩)) ∧ w' = w.alloc (.cells #[.int .i64 99, .slice none 0 0, .int .i64 0, .int .i64 0, .complex .f64 0 0, .string ⟨#[]⟩, .slice none 0 0, .int .i64 0] 194) := by
  go_enter Tryz.func40, Tryz.ntmps40
  go_wp2
  go_ret
  exact ⟨rfl, rfl⟩

theorem info54 : (Tryz.prog.info? 54).map (fun i => (i.zero, i.size, i.bytes)) = some (some (vv 0), 5, 72) := by kernel_rfl
/-- n nils -/
def nils (n : Nat) : Array Value := madeCells (vv 0).cells (n * 5)
theorem nils_get (n i j : Nat) (hi : i < n) (hj : j < 5) : (nils n)[i * 5 + j]? = (vc 0)[j]? := by
  have hs : (vv 0).cells.size = 5 := rfl
  have h1 : i * 5 + j < n * 5 := by omega
  have h2 : (i * 5 + j) % 5 = j := by omega
  unfold nils
  simp only [madeCells, hs]
  rw [Array.getElem?_map, Array.getElem?_range, if_pos h1]
  simp only [Option.map_some, h2]
  obtain rfl | rfl | rfl | rfl | rfl : j = 0 ∨ j = 1 ∨ j = 2 ∨ j = 3 ∨ j = 4 := by omega
  all_goals rfl
theorem run_nils (w : World) (n : Nat) (hn : n < 100) : (Instr.makeSlice 42 (.int .i64 n) (.int .i64 n)).run Tryz.prog w = .ok (.slice (some ⟨w.heap.size, 0, none⟩) n n) (w.alloc (.cells (nils n) 54)) := by
  obtain ⟨i0, hi, hz0, hz1, hz2⟩ := info_parts info54
  have hr := run_make (P := Tryz.prog) w 42 54 i0 _ Tryz.underlying42 hi hz0 .i64 .i64 n n (by omega) (Int.le_refl _) (by rw [hz2]; omega) (by omega)
  rw [hr, hz1]
  rfl
@[go_sem] theorem run_nils9 (w : World) : (Instr.makeSlice 42 (.int .i64 9) (.int .i64 9)).run Tryz.prog w = .ok (.slice (some ⟨w.heap.size, 0, none⟩) 9 9) (w.alloc (.cells (nils 9) 54)) := run_nils w 9 (by omega)
@[go_sem] theorem run_nils5 (w : World) : (Instr.makeSlice 42 (.int .i64 5) (.int .i64 5)).run Tryz.prog w = .ok (.slice (some ⟨w.heap.size, 0, none⟩) 5 5) (w.alloc (.cells (nils 5) 54)) := run_nils w 5 (by omega)

@[go_sem] theorem run_copy_nils (w : World) (a : Addr) (n c : Nat) : (Builtin.copy_ #[42, 42] 3 #[.slice (some a) n c, .slice none 0 0]).run Tryz.prog w = .ok (.int .i64 0) w :=
  run_copy_nil Tryz.prog w 42 42 3 54 a n c Tryz.underlying42 (by kernel_rfl)
theorem vats_new {w : World} {g n : Nat} (h : w.heap[g]? = some (.cells (nils n) 54)) : Vats w g n (fun _ => 0) := by
  intro i hi
  refine ⟨fun j hj => ?_, fun j hj => ?_⟩
  · simp only [World.cell?, h]
    exact nils_get n i j hi hj
  · simp [World.frozen?, h]
theorem vats_at {w : World} (n : Nat) {g : Nat} (hg : g = w.heap.size) : Vats (w.alloc (.cells (nils n) 54)) g n (fun _ => 0) := by
  subst hg
  exact vats_new (heap_alloc_new _ _)
/-- what opening a call brings -/
structure Opened (w : World) (cb rb sb : Nat) (K V : Value) (w' : World) : Prop where
  call : Cb w' cb rb sb 0 K V
  regs : Vats w' rb 9 (fun _ => 0)
  slots : Vats w' sb 5 (fun _ => 0)
  fx : Fx (fun _ => False) w w'
  cbn : w.heap.size ≤ cb
  rbn : w.heap.size ≤ rb
  sbn : w.heap.size ≤ sb
  d1 : rb ≠ sb
  d2 : rb < cb
  d3 : sb < cb

set_option maxRecDepth 100000 in
set_option maxHeartbeats 4000000 in
theorem open_calls (w : World) (Q K V : Value) : Calls Tryz.prog 49 #[.agg #[Q, .int .i64 0, .int .i64 8], .agg #[.string ⟨#[]⟩, .int .i64 0, .int .i64 5, K, V], .slice none 0 0, .int .i64 0] w fun e w' => ∃ cb rb sb, e = .returned (.pointer (some ⟨cb, 0, none⟩)) ∧ Opened w cb rb sb K V w' := by
  go_enter Tryz.func49, Tryz.ntmps49
  go_wp2_with fail
  have hwr : IntKind.i64.wrap 9 = 9 := by rw [IntKind.wrap_i64]; omega
  go_region
  · go_wp2
    go_ret
    refine ⟨_, w.heap.size + 1 + 1, w.heap.size + 1 + 1 + 1, rfl, ⟨?_, ?_, ?_, ?_, by omega, by omega, by omega, by omega, by omega, by omega⟩⟩
    · refine ⟨?_, ?_, ?_, ?_, ?_, ?_⟩ <;> simp [go_sem]
    · exact (vats_at (w := ((w.alloc (.cells #[Q, .int .i64 0, .int .i64 8] 88)).alloc (.cells #[.string ⟨#[]⟩, .int .i64 0, .int .i64 5, K, V] 77))) 9 (by simp)).fx (S := fun _ => False) ((((Fx.refl _ _).alloc _).alloc _).drew) (by simp) (fun h => h)
    · exact (vats_at (w := ((w.alloc (.cells #[Q, .int .i64 0, .int .i64 8] 88)).alloc (.cells #[.string ⟨#[]⟩, .int .i64 0, .int .i64 5, K, V] 77)).alloc (.cells (nils 9) 54)) 5 (by simp)).fx (S := fun _ => False) (((Fx.refl _ _).alloc _).drew) (by simp) (fun h => h)
    · exact ((((((Fx.refl _ w).alloc _).alloc _).alloc _).alloc _).alloc _).drew
  · go_wp2
    go_ret
    refine ⟨_, w.heap.size + 1 + 1 + 1, w.heap.size + 1 + 1, rfl, ⟨?_, ?_, ?_, ?_, by omega, by omega, by omega, by omega, by omega, by omega⟩⟩
    · refine ⟨?_, ?_, ?_, ?_, ?_, ?_⟩ <;> simp [go_sem]
    · exact (vats_at (w := ((w.alloc (.cells #[Q, .int .i64 0, .int .i64 8] 88)).alloc (.cells #[.string ⟨#[]⟩, .int .i64 0, .int .i64 5, K, V] 77)).alloc (.cells (nils 5) 54)) 9 (by simp)).fx (S := fun _ => False) (((Fx.refl _ _).alloc _).drew) (by simp) (fun h => h)
    · exact (vats_at (w := ((w.alloc (.cells #[Q, .int .i64 0, .int .i64 8] 88)).alloc (.cells #[.string ⟨#[]⟩, .int .i64 0, .int .i64 5, K, V] 77))) 5 (by simp)).fx (S := fun _ => False) ((((Fx.refl _ _).alloc _).alloc _).drew) (by simp) (fun h => h)
    · exact ((((((Fx.refl _ w).alloc _).alloc _).alloc _).alloc _).alloc _).drew

end Go.Proofs.YtplnnlnkcfappaaGreat.Rs
