/- From some place in a body on: the evaluator's word. -/
import Derived.Test.YteaaahcgkodcdaaVn
import Derived.Lib.Hide
namespace Go.Proofs.Yteaaahcgkodcdaa.Ev
open Go Go.RowKit

noncomputable def endsTrue (r : Nat) (o : Option Out) : Bool :=
  match o with
  | some (.code .ret tm _) => isTrue (tm.get r)
  | _ => false

theorem rest_true {P : Program} {kn : Known} (hmix : P.follows .mixedOrders = true) (hpl : Plainly P) (hkn : KnownOk P kn) (N : Nat) (fn : Func) (r : Nat) (hr : fn.results = #[.tmp r]) {c : Code} {vs : List Value}
    (h : endsTrue r (ob (frame (vs.map .raw) 0 .leaf) fun tm => ev P kn N (.code 0 vs.length c tm ⟨.leaf, 0⟩)) = true) {w0 w : World} (hb : Below w0.heap.size w0 w) :
    c.wp P (bodyPost P fn fun e w' => e = .returned (.bool true) ∧ Below w0.heap.size w0 w') { tmps := vs.toArray, defers := [] } w := by
  unfold endsTrue at h
  split at h
  · rename_i tm1 m1 ho
    obtain ⟨tm, ht, ho⟩ := ob_some ho
    have hA := frame_AR (F := fun _ => none) (dens_raw _ vs) (N := vs.length) (by simp) ht
    have e1 : (vs.toArray ++ Array.replicate (vs.length - vs.toArray.size) undef) = vs.toArray := by simp
    rw [e1] at hA
    refine Code.wp_mono (fun x a1 w1 hp => ?_) ((sound hmix hpl hkn N).code _ _ _ _ _ _ _ _ ho w.heap.size _ w _ (empty_inv w) hA)
    obtain ⟨F1, rfl, h2, h3, h4, h5⟩ := hp
    have hv := h3.tmp r
    rw [isTrue_some h] at hv
    simp only [orUndef, den_raw, Option.some.injEq] at hv
    refine ⟨h3.defers, .bool true, ?_, rfl, ?_⟩
    · rw [results_tmp hr, ← hv]
    · exact hb.trans (h5.mono hb.size)
  · cases h

end Go.Proofs.Yteaaahcgkodcdaa.Ev
