/-
  NamesNumbers: the law returns true: the table's pairs agree, and the two texts are as they should be. What the three listed variables hold is no matter to it: no statement of its way reads them.
-/
import Derived.Test.YteaaahcgkodcdaaDoorRows
import Derived.Test.YteaaahcgkodcdaaDoorTie
import Derived.Test.YteaaahcgkodcdaaDoorCards
import Derived.WalkKit
import Derived.ProofKit
import Derived.OpenShut
import Derived.ChangeSame
import Derived.ChangeVars
import Derived.JoinedOf
import Derived.RowKit
import Derived.RowKitTokens
import Derived.LaidLaws
import Derived.LaidHandle
import Derived.Stop.Joined
import Derived.SevenTiedAt
import Derived.Test.YteaaahcgkodcdaaDoorNd
namespace Go.Proofs.YteaaahcgkodcdaaDoor.namesNumbers
open Go.ChangeShapes Go.WideShapes Go.ChangeAt Go.RowKit
set_option linter.unusedVariables false

theorem own : ownKnob Tryd.prog.godebug = none := by kernel_rfl

theorem walk (w : World) : Calls Tryd.prog 3 #[] w fun e w' => e = .returned (.bool true) ∧ Below w.heap.size w w' :=
  Nc.law Nd.table w

/-- The cells of a variable that holds an array of integers. -/
def cellsOf : DataW Unit → Array Value
  | .agg parts => (parts.map fun
    | .lit (.int k n) => Value.int k n
    | _ => undef).toArray
  | _ => #[]

def lay (d : DataW Unit) : Obj → Obj
  | .cells _ t frozen => .cells (cellsOf d) t frozen
  | o => o

/-- A world that meets the condition: the settled one, the three variables laid. -/
noncomputable def laidWorld (os : Os) : World :=
  let w0 := World.holding Tryd.prog os ⟨#[], #[], []⟩
  { w0 with heap := ((w0.heap.modify 0 (lay Rows.laid_internal_strconv_uint64pow10)).modify 1 (lay Rows.laid_math_bits_deBruijn32tab)).modify 2 (lay Rows.laid_math_bits_deBruijn64tab) }

theorem laidWorld_met (os : Os) (args : Array Value) : laidMetH Tryd.prog Rows.namesNumbersRow.laid ((laidWorld os).forCall (fun _ _ => 0) ⟨#[], args, []⟩).memory :=
  laidMetH_of_parts (laidMet_of_run' 8 (by kernel_rfl) (by kernel_rfl)) (by kernel_rfl)

set_option maxRecDepth 100000 in
theorem lifted (os : Os) (started : os.Started) (H : Type) (enc : TypeId × Value → H) :
    ReturnsInHanded {} Tryd.checked os 3 .any (fun w args => (Rows.namesNumbersSpec.pre enc Tryd.prog Tryd.f3 [] false w args ∧ laidMetH Tryd.prog Rows.namesNumbersRow.laid w) ∧ sizedMet enc Tryd.prog Tryd.f3 (OpenSpec.ofChange Rows.namesNumbersSpec) false w args)
      (Rows.namesNumbersSpec.post enc Tryd.prog Tryd.f3 false true false false) := by
  refine returnsInHanded_of_change_and (C := Tryd.checked) (X := fun w _ => laidMetH Tryd.prog Rows.namesNumbersRow.laid w) (fun _ _ _ hh h => h.of_heap hh) own started (by kernel_rfl) Tryd.func3
    (ChangeSpec.witness_at (enc := enc) (C := Tryd.checked) (os := os) (X := fun w _ => laidMetH Tryd.prog Rows.namesNumbersRow.laid w) false (laidWorld os) #[] 8 rfl (by kernel_rfl) (by kernel_rfl) (by kernel_rfl) (by kernel_rfl) (by kernel_rfl) (laidWorld_met os _)) ?_
  intro W base args ds gs before hval0 hW _ _ hL _
  have hW' := hW
  obtain ⟨p, q, hA0, hV0, rfl, hfz, hnd⟩ := hW
  have hA : DataW.TrodAll enc Tryd.prog W 0 (fun _ => true) true Tryd.f3.params.toList args.toList ds p := hA0
  have hV : DataW.TrodVars enc Tryd.prog W (fun _ => true) [] gs q := hV0
  rw [Tryd.params3] at hA
  obtain ⟨hargs, rfl, rfl⟩ := trodAll_nil hA
  obtain rfl : args = #[] := by cases args; simp_all
  obtain ⟨rfl, rfl⟩ := trodVars_none hV
  clear hA0 hV0 hval0
  simp only [List.append_nil] at hW'
  refine (walk W).mono fun e W' ⟨he, hg⟩ => ?_
  subst he
  exact ⟨_, rfl, _, _, _, [], [], [], hW', trodAll_mk1 (shut_bool Tryd.underlying4 _), trodAll_mk0, rfl, hg.frame _, fun h => by cases h⟩

theorem over : Rows.NamesNumbersSaid :=
  OpenClaim.holds_of_wide 3 Tryd.f3 rfl rfl rfl rfl rfl rfl rfl ⟨rfl, rfl, rfl, rfl, rfl⟩ rfl rfl rfl rfl rfl (by kernel_rfl) Tryd.func3 (by kernel_rfl)
    (of_decide_eq_true (by kernel_rfl)) (by unfold Func.isWrapper; first | (rw [if_pos (by decide +kernel)]; kernel_rfl) | (rw [if_neg (by decide +kernel)]; exact ⟨rfl, rfl⟩))
    (fun os started H enc _ => lifted os started H enc)

/-- THE STATEMENT, AS IT IS GIVEN: the tied card. -/
theorem proved : Rows.NamesNumbersCardSaid :=
  Claim7.holds_tied_plain_at .later [] [.data, .data, .data] true (true, "9d1abb76f9161376801b853260afb248d5185a7059cac5890340696a6cad84f2") false
    over (fun _ h => by cases h) (by kernel_rfl) (fun _ h => by cases h) namesNumbers_row_tie rfl ⟨rfl, rfl⟩ (by kernel_rfl) rfl
    (fun f fn hf hfn => by
      obtain rfl : f = 3 := Option.some.inj ((show Tryd.prog.funcNamed "ratline/ratlinelaw0.NamesNumbers" = some 3 by kernel_rfl).symm.trans hf) |>.symm
      obtain rfl : fn = Tryd.f3 := (Option.some.inj (Tryd.func3.symm.trans hfn)).symm
      exact ⟨by kernel_rfl, fun j t ht => by
        rw [Tryd.params3] at ht
        simp at ht⟩)
    (by kernel_rfl)
end Go.Proofs.YteaaahcgkodcdaaDoor.namesNumbers
