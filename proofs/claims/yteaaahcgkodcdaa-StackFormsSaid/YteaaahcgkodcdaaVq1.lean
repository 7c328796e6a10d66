/- StackForms: the nine kinds, low = true. -/
import Derived.Test.YteaaahcgkodcdaaVp
namespace Go.Proofs.Yteaaahcgkodcdaa.Ev
open Go Go.RowKit

theorem forms_true_0 (kind q : Int) : endsTrue 4 (ob (frame ((formsAt kind true q 0).map .raw) 0 .leaf) fun tm => ev Try.prog kn 100000 (.code 0 50 formsRest tm ⟨.leaf, 0⟩)) = true := by kernel_rfl
theorem forms_true_1 (kind q : Int) : endsTrue 4 (ob (frame ((formsAt kind true q 1).map .raw) 0 .leaf) fun tm => ev Try.prog kn 100000 (.code 0 50 formsRest tm ⟨.leaf, 0⟩)) = true := by kernel_rfl
theorem forms_true_2 (kind q : Int) : endsTrue 4 (ob (frame ((formsAt kind true q 2).map .raw) 0 .leaf) fun tm => ev Try.prog kn 100000 (.code 0 50 formsRest tm ⟨.leaf, 0⟩)) = true := by kernel_rfl
theorem forms_true_3 (kind q : Int) : endsTrue 4 (ob (frame ((formsAt kind true q 3).map .raw) 0 .leaf) fun tm => ev Try.prog kn 100000 (.code 0 50 formsRest tm ⟨.leaf, 0⟩)) = true := by kernel_rfl
theorem forms_true_4 (kind q : Int) : endsTrue 4 (ob (frame ((formsAt kind true q 4).map .raw) 0 .leaf) fun tm => ev Try.prog kn 100000 (.code 0 50 formsRest tm ⟨.leaf, 0⟩)) = true := by kernel_rfl
theorem forms_true_5 (kind q : Int) : endsTrue 4 (ob (frame ((formsAt kind true q 5).map .raw) 0 .leaf) fun tm => ev Try.prog kn 100000 (.code 0 50 formsRest tm ⟨.leaf, 0⟩)) = true := by kernel_rfl
theorem forms_true_6 (kind q : Int) : endsTrue 4 (ob (frame ((formsAt kind true q 6).map .raw) 0 .leaf) fun tm => ev Try.prog kn 100000 (.code 0 50 formsRest tm ⟨.leaf, 0⟩)) = true := by kernel_rfl
theorem forms_true_7 (kind q : Int) : endsTrue 4 (ob (frame ((formsAt kind true q 7).map .raw) 0 .leaf) fun tm => ev Try.prog kn 100000 (.code 0 50 formsRest tm ⟨.leaf, 0⟩)) = true := by kernel_rfl
theorem forms_true_8 (kind q : Int) : endsTrue 4 (ob (frame ((formsAt kind true q 8).map .raw) 0 .leaf) fun tm => ev Try.prog kn 100000 (.code 0 50 formsRest tm ⟨.leaf, 0⟩)) = true := by kernel_rfl

end Go.Proofs.Yteaaahcgkodcdaa.Ev
