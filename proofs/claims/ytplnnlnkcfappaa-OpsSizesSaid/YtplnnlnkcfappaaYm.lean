/- The second evaluator at this seat's program: what it wants of the program. -/
import Derived.Test.YtplnnlnkcfappaaXk
import Derived.Test.YtplnnlnkcfappaaProg
import Derived.KernelRfl
namespace Go.Proofs.Ytplnnlnkcfappaa.Ew
open Go Go.RowKit

theorem mix : Try.prog.follows .mixedOrders = true := by kernel_rfl
theorem plain_names : (Try.prog.funcs.toList.all fun fn => !(fn.name == "runtime.NumGoroutine")) = true := by kernel_rfl
/-- how each drawn region is gone through (those not named: not at all) -/
noncomputable def modesT : List (Nat × List (Nat × Nat)) := [(3, [(17, 1574143523647309195784601181974658940976), (18, 1574143523647309195784601181974658940976)]), (6, [(3, 2)]), (21, [(7, 384313650425101563839211359542837280)]), (36, [(3, 32120130755193280777355065045225950590068785184)]), (43, [(3, 1)]), (57, [(1, 2)])]
noncomputable def modesOf (f : Nat) : List (Nat × Nat) := List.rec (motive := fun _ => List (Nat × Nat)) [] (fun p _ ih => te (Nat.beq p.1 f) p.2 ih) modesT
noncomputable def modeIn (l : List (Nat × Nat)) (id : Nat) : Nat := List.rec (motive := fun _ => Nat) 0 (fun p _ ih => te (Nat.beq p.1 id) p.2 ih) l
noncomputable def sk : Nat → Modes := fun f id => modeIn (modesOf f) id
theorem lexFns_app (a b : List Func) : ∀ f, lexFns sk a f = true → lexFns sk b (f + a.length) = true → lexFns sk (a ++ b) f = true := by
  induction a with
  | nil => intro f _ h; simpa using h
  | cons x a ih =>
    intro f h hb
    obtain ⟨h1, h2⟩ := both (show te (match x.body with | some c => lexAll (sk f) c | none => true) (lexFns sk a (Nat.succ f)) false = true from h)
    show te (match x.body with | some c => lexAll (sk f) c | none => true) (lexFns sk (a ++ b) (Nat.succ f)) false = true
    rw [h1]
    exact ih (f + 1) h2 (by rw [show f + 1 + a.length = f + (x :: a).length by simp; omega]; exact hb)
theorem lex_step (lo n : Nat) (h : lexFns sk ((Try.prog.funcs.toList.drop lo).take n) lo = true) (hl : Nat.ble (lo + n) Try.prog.funcs.size = true) (h2 : lexFns sk (Try.prog.funcs.toList.drop (lo + n)) (lo + n) = true) : lexFns sk (Try.prog.funcs.toList.drop lo) lo = true := by
  have e : Try.prog.funcs.toList.drop lo = (Try.prog.funcs.toList.drop lo).take n ++ (Try.prog.funcs.toList.drop lo).drop n := (List.take_append_drop _ _).symm
  rw [e]
  refine lexFns_app _ _ lo h ?_
  have hl' := Nat.le_of_ble_eq_true hl
  have e2 : ((Try.prog.funcs.toList.drop lo).take n).length = n := by simp; omega
  rw [e2, List.drop_drop]
  exact h2

theorem lex_last : lexFns sk (Try.prog.funcs.toList.drop 0) 0 = true := by kernel_rfl
theorem lex : LexOk Try.prog sk := lexOk_of (lex_last)


end Go.Proofs.Ytplnnlnkcfappaa.Ew
