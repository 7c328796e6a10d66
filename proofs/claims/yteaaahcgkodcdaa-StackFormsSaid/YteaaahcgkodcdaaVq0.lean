/- StackForms: the nine kinds, low = false. -/
import Derived.Test.YteaaahcgkodcdaaVp
namespace Go.Proofs.Yteaaahcgkodcdaa.Ev
open Go Go.RowKit

theorem forms_false_0 (kind q : Int) : endsTrue 4 (ob (frame ((formsAt kind false q 0).map .raw) 0 .leaf) fun tm => ev Try.prog kn 100000 (.code 0 50 formsRest tm ⟨.leaf, 0⟩)) = true := by kernel_rfl
theorem forms_false_1 (kind q : Int) : endsTrue 4 (ob (frame ((formsAt kind false q 1).map .raw) 0 .leaf) fun tm => ev Try.prog kn 100000 (.code 0 50 formsRest tm ⟨.leaf, 0⟩)) = true := by kernel_rfl
theorem forms_false_2 (kind q : Int) : endsTrue 4 (ob (frame ((formsAt kind false q 2).map .raw) 0 .leaf) fun tm => ev Try.prog kn 100000 (.code 0 50 formsRest tm ⟨.leaf, 0⟩)) = true := by kernel_rfl
theorem forms_false_3 (kind q : Int) : endsTrue 4 (ob (frame ((formsAt kind false q 3).map .raw) 0 .leaf) fun tm => ev Try.prog kn 100000 (.code 0 50 formsRest tm ⟨.leaf, 0⟩)) = true := by kernel_rfl
theorem forms_false_4 (kind q : Int) : endsTrue 4 (ob (frame ((formsAt kind false q 4).map .raw) 0 .leaf) fun tm => ev Try.prog kn 100000 (.code 0 50 formsRest tm ⟨.leaf, 0⟩)) = true := by kernel_rfl
theorem forms_false_5 (kind q : Int) : endsTrue 4 (ob (frame ((formsAt kind false q 5).map .raw) 0 .leaf) fun tm => ev Try.prog kn 100000 (.code 0 50 formsRest tm ⟨.leaf, 0⟩)) = true := by kernel_rfl
theorem forms_false_6 (kind q : Int) : endsTrue 4 (ob (frame ((formsAt kind false q 6).map .raw) 0 .leaf) fun tm => ev Try.prog kn 100000 (.code 0 50 formsRest tm ⟨.leaf, 0⟩)) = true := by kernel_rfl
theorem forms_false_7 (kind q : Int) : endsTrue 4 (ob (frame ((formsAt kind false q 7).map .raw) 0 .leaf) fun tm => ev Try.prog kn 100000 (.code 0 50 formsRest tm ⟨.leaf, 0⟩)) = true := by kernel_rfl
theorem forms_false_8 (kind q : Int) : endsTrue 4 (ob (frame ((formsAt kind false q 8).map .raw) 0 .leaf) fun tm => ev Try.prog kn 100000 (.code 0 50 formsRest tm ⟨.leaf, 0⟩)) = true := by kernel_rfl

end Go.Proofs.Yteaaahcgkodcdaa.Ev
