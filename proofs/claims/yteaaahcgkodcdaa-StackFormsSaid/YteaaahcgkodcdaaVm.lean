/- The evaluator's word as a contract: a closed call that it finds true returns true, in every memory, and leaves what was there. -/
import Derived.Test.YteaaahcgkodcdaaVl
namespace Go.Proofs.Yteaaahcgkodcdaa.Ev
open Go Go.RowKit

theorem empty_inv (w : World) : Inv w.heap.size 0 (fun _ => none) ⟨.leaf, 0⟩ w where
  live b k h := by
    have : (Tr.leaf : Tr Blk).get b = none := Tr.get_leaf b
    rw [show (⟨.leaf, 0⟩ : Mem).H.get b = none from this] at h
    cases h
  apart b b' k k' x x' h := by
    have : (Tr.leaf : Tr Blk).get b = none := Tr.get_leaf b
    rw [show (⟨.leaf, 0⟩ : Mem).H.get b = none from this] at h
    cases h
  fresh _ _ := rfl
  size := Nat.le_refl _
  wrnx := Nat.le_refl _

theorem isTrue_some {x : Option AV} (h : isTrue x = true) : x = some (.raw (.bool true)) := by
  unfold isTrue at h
  split at h
  · rfl
  · cases h

theorem runs_true {P : Program} {kn : Known} (hmix : P.follows .mixedOrders = true) (hpl : Plainly P) (hkn : KnownOk P kn) (N : Nat) (f : FuncId) (vs : List Value) (h : isTrue (runs P kn N f (vs.map .raw)) = true) (w : World) :
    Calls P f vs.toArray w fun e w' => e = .returned (.bool true) ∧ Below w.heap.size w w' := by
  obtain ⟨o, ho, h1⟩ := ob_some (isTrue_some h)
  cases o with
  | code e tm m => cases h1
  | call v m =>
    obtain rfl := Option.some.inj (show some v = some (AV.raw (.bool true)) from h1)
    refine (((sound hmix hpl hkn N).call _ _ _ _ _ _ ho).2 w.heap.size (fun _ => none) w vs (empty_inv w) (dens_raw _ vs)).mono fun e w' hh => ?_
    obtain ⟨F', v, rfl, _, hv, _, hb⟩ := hh
    rw [den_raw] at hv
    obtain rfl := Option.some.inj hv
    exact ⟨rfl, hb⟩

theorem noneKnown_ok (P : Program) : KnownOk P noneKnown := fun _ _ _ h => by cases h

theorem plainly_of {P : Program} (h : (P.funcs.toList.all fun fn => !(fn.name == "runtime.NumGoroutine")) = true) : Plainly P := by
  intro f fn hf
  have hm : fn ∈ P.funcs.toList := by
    rw [Array.mem_toList_iff]
    exact Array.mem_of_getElem? hf
  have := List.all_eq_true.1 h fn hm
  simpa using this

end Go.Proofs.Yteaaahcgkodcdaa.Ev
