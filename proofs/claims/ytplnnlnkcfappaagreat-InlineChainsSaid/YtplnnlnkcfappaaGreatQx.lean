/- The second evaluator: a closed call's answer, whatever it is. -/
import Derived.Test.YtplnnlnkcfappaaGreatQw
namespace Go.Proofs.YtplnnlnkcfappaaGreat.E3
open Go Go.RowKit
set_option linter.unusedVariables false
variable {ρ : Syms} {P : Program}

/-- the same, through rows of values -/
noncomputable def eqN : Nat → AV → AV → Bool
  | 0, x, y => eqAV x y
  | n + 1, x, y => match x, y with
    | .agg l, .agg r => eqNs (eqN n) l r
    | .tup l, .tup r => eqNs (eqN n) l r
    | x, y => eqAV x y
where eqNs (eq : AV → AV → Bool) : List AV → List AV → Bool
  | [], [] => true
  | x :: l, y :: r => te (eq x y) (eqNs eq l r) false
  | _, _ => false
theorem eqNs_eq {eq : AV → AV → Bool} (h : ∀ x y, eq x y = true → x = y) : ∀ l r, eqN.eqNs eq l r = true → l = r
  | [], [], _ => rfl
  | x :: l, y :: r, e => by
    obtain ⟨h1, h2⟩ := both (show te (eq x y) (eqN.eqNs eq l r) false = true from e)
    rw [h x y h1, eqNs_eq h l r h2]
  | [], _ :: _, e => by cases e
  | _ :: _, [], e => by cases e
theorem eqN_eq : ∀ (n : Nat) (x y : AV), eqN n x y = true → x = y
  | 0, x, y, h => eqAV_eq h
  | n + 1, x, y, h => by
    unfold eqN at h
    split at h
    · rw [eqNs_eq (eqN_eq n) _ _ h]
    · rw [eqNs_eq (eqN_eq n) _ _ h]
    · exact eqAV_eq h

/-- the answer is this one -/
noncomputable def isVal (x : AV) (o : R) : Bool := match o with | some (.call v _) => eqN 4 v x | _ => false
/-- a closed call's answer -/
theorem runs_val {oc : Orc} {kn : Known} (hmix : P.follows .mixedOrders = true) (hpl : Plainly P) (hoc : OrcOk ρ P oc) {sk : Nat → Modes} (hlex : LexOk P sk) (hkn : KnownOk ρ P kn) (N : Nat) (f : FuncId) (args : List AV) (vs : List Value) (hd : dens ρ (fun _ => none) args = some vs)
    (x : AV) (u : Value) (hx : den ρ (fun _ => none) x = some u) (h : isVal x (rec P oc sk kn N f args mem0) = true) {fn : Func} (hfn : P.funcs[f]? = some fn) (hbody : fn.body.isSome = true) (w : World) : Calls P f vs.toArray w fun e w' => e = .returned u ∧ Below w.heap.size w w' := by
  unfold isVal at h
  split at h
  · rename_i v m' hr
    obtain rfl := eqN_eq _ _ _ h
    rcases rec_ok hmix hpl hoc hlex hkn N f args mem0 _ _ hr w.heap.size (fun _ => none) w vs (empty_inv w) hd with ⟨_, hc⟩ | ⟨u, hr, _⟩
    case inr =>
      rw [callFunc_run hpl ⟨fn, hfn, hbody⟩] at hr
      cases hr
    refine hc.mono fun e w' hh => ?_
    obtain ⟨v', rfl, F', hext, hv, _, hb⟩ := hh
    rw [den_ext hext _ _ hx] at hv
    obtain rfl := Option.some.inj hv
    exact ⟨rfl, hb.below⟩
  · cases h

end Go.Proofs.YtplnnlnkcfappaaGreat.E3
