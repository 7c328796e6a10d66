/- OpsSizes: the table of operations. -/
import Derived.Test.YtplnnlnkcfappaaOi
namespace Go.Proofs.Ytplnnlnkcfappaa.Oa
open Go.RowKit
set_option linter.unusedSimpArgs false
set_option linter.unusedVariables false

@[go_sem] theorem run_store_func' {P : Program} {w : World} {a : Addr} {m : Mode} (fn : Fn) (first captured : Array Value) : (store a (.func fn first captured) m).run P w = stored P w a (.func fn first captured) m := run_store P w a _ m rfl
@[go_sem] theorem run_store_nilFunc' {P : Program} {w : World} {a : Addr} {m : Mode} : (store a .nilFunc m).run P w = stored P w a .nilFunc m := run_store P w a _ m rfl

def fv (f : FuncId) : Value := .func (.func f) #[] #[]

set_option maxHeartbeats 1000000 in
theorem ordered_calls (w : World) (f : FuncId) : Calls Try.prog 30 #[.func (.func f) #[] #[]] w fun e w' => e = .returned (.func (.func 58) #[] #[.pointer (some ⟨w.heap.size, 0, none⟩)]) ∧ w' = w.alloc (.cells #[.func (.func f) #[] #[]] 52) := by
  go_enter Try.func30, Try.ntmps30
  go_wp2
  go_ret
  exact ⟨rfl, rfl⟩

set_option maxHeartbeats 1000000 in
theorem arity_calls (w : World) : Calls Try.prog 11 #[.int .i64 1] w fun e w' => e = .returned (.int .i64 2) ∧ w' = w := by
  go_enter Try.func11, Try.ntmps11
  go_wp2
  go_ret
  exact ⟨rfl, rfl⟩
theorem arity17_calls (w : World) : Calls Try.prog 11 #[.int .i64 17] w fun e w' => e = .returned (.int .i64 1) ∧ w' = w := by
  go_enter Try.func11, Try.ntmps11
  go_wp2
  go_ret
  exact ⟨rfl, rfl⟩

set_option maxHeartbeats 2000000 in
set_option maxRecDepth 100000 in
theorem binaries_calls (w : World) : Calls Try.prog 13 #[] w fun e w' => (∃ p8 p9 p10 p11 : Option Addr, e = .returned (.agg #[.nilFunc, fv 23, fv 24, fv 25, fv 26, fv 27, fv 28, fv 29, .func (.func 58) #[] #[.pointer p8], .func (.func 58) #[] #[.pointer p9], .func (.func 58) #[] #[.pointer p10], .func (.func 58) #[] #[.pointer p11], fv 35, fv 36, fv 37])) ∧ Below w.heap.size w w' := by
  go_enter Try.func13, Try.ntmps13
  go_wp2_with fail
  refine (ordered_calls _ 31).mono ?_
  rintro e w1 ⟨rfl, rfl⟩
  go_wp2_with fail
  refine (ordered_calls _ 32).mono ?_
  rintro e w1 ⟨rfl, rfl⟩
  go_wp2_with fail
  refine (ordered_calls _ 33).mono ?_
  rintro e w1 ⟨rfl, rfl⟩
  go_wp2_with fail
  refine (ordered_calls _ 34).mono ?_
  rintro e w1 ⟨rfl, rfl⟩
  go_wp2
  refine bodyPost_ret (v := .agg #[.nilFunc, fv 23, fv 24, fv 25, fv 26, fv 27, fv 28, fv 29, .func (.func 58) #[] #[.pointer (some ⟨w.heap.size + 1, 0, none⟩)], .func (.func 58) #[] #[.pointer (some ⟨w.heap.size + 1 + 1, 0, none⟩)], .func (.func 58) #[] #[.pointer (some ⟨w.heap.size + 1 + 1 + 1, 0, none⟩)], .func (.func 58) #[] #[.pointer (some ⟨w.heap.size + 1 + 1 + 1 + 1, 0, none⟩)], fv 35, fv 36, fv 37]) (by simp [results, Try.results13, go_sem, fv]) rfl ?_
  exact ⟨⟨_, _, _, _, rfl⟩, below_more (below_more (below_more (two _ _ _) (Nat.le_refl _) _) (Nat.le_refl _) _) (Nat.le_refl _) _⟩

end Go.Proofs.Ytplnnlnkcfappaa.Oa
