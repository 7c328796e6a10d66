/-
  NamesNumbers, the parts: the small path of strconv's text of a number (0 and 65), Errno.Error at those two, the table.
-/
import Derived.Test.YteaaahcgkodcdaaDoorRows
import Derived.WalkKit
import Derived.WalkSpells
import Derived.WalkLawsBesides
import Derived.ProofKit
import Derived.Great.BuildSlice
namespace Go.Proofs.YteaaahcgkodcdaaDoor.Na
open Go.RowKit
set_option maxRecDepth 100000

theorem small_65 (w : World) : Calls Tryd.prog 9 #[.int .i64 65] w fun e w' => e = .returned (.string ⟨#[54, 53]⟩) ∧ w' = w := by
  go_enter Tryd.func9, Tryd.ntmps9
  go_wp2
  go_ret
  exact ⟨rfl, rfl⟩
theorem small_0 (w : World) : Calls Tryd.prog 9 #[.int .i64 0] w fun e w' => e = .returned (.string ⟨#[48]⟩) ∧ w' = w := by
  go_enter Tryd.func9, Tryd.ntmps9
  go_wp2
  go_ret
  exact ⟨rfl, rfl⟩

theorem format_65 (w : World) : Calls Tryd.prog 8 #[.int .i64 65, .int .i64 10] w fun e w' => e = .returned (.string ⟨#[54, 53]⟩) ∧ w' = w := by
  go_enter Tryd.func8, Tryd.ntmps8
  go_wp2_with fail
  refine (small_65 _).mono ?_
  rintro e w1 ⟨rfl, rfl⟩
  go_wp2
  go_ret
  exact ⟨rfl, rfl⟩
theorem itoa7_65 (w : World) : Calls Tryd.prog 7 #[.int .i64 65] w fun e w' => e = .returned (.string ⟨#[54, 53]⟩) ∧ w' = w := by
  go_enter Tryd.func7, Tryd.ntmps7
  go_wp2_with fail
  refine (format_65 _).mono ?_
  rintro e w1 ⟨rfl, rfl⟩
  go_wp2
  go_ret
  exact ⟨rfl, rfl⟩
theorem itoa6_65 (w : World) : Calls Tryd.prog 6 #[.int .i64 65] w fun e w' => e = .returned (.string ⟨#[54, 53]⟩) ∧ w' = w := by
  go_enter Tryd.func6, Tryd.ntmps6
  go_wp2_with fail
  refine (itoa7_65 _).mono ?_
  rintro e w1 ⟨rfl, rfl⟩
  go_wp2
  go_ret
  exact ⟨rfl, rfl⟩
theorem error_65 (w : World) : Calls Tryd.prog 5 #[.int .i64 65] w fun e w' => e = .returned (.string ⟨#[101, 114, 114, 111, 114, 32, 54, 53]⟩) ∧ w' = w := by
  go_enter Tryd.func5, Tryd.ntmps5
  go_wp2_with fail
  refine (itoa6_65 _).mono ?_
  rintro e w1 ⟨rfl, rfl⟩
  go_wp2
  go_ret
  exact ⟨rfl, rfl⟩

theorem format_0 (w : World) : Calls Tryd.prog 8 #[.int .i64 0, .int .i64 10] w fun e w' => e = .returned (.string ⟨#[48]⟩) ∧ w' = w := by
  go_enter Tryd.func8, Tryd.ntmps8
  go_wp2_with fail
  refine (small_0 _).mono ?_
  rintro e w1 ⟨rfl, rfl⟩
  go_wp2
  go_ret
  exact ⟨rfl, rfl⟩
theorem itoa7_0 (w : World) : Calls Tryd.prog 7 #[.int .i64 0] w fun e w' => e = .returned (.string ⟨#[48]⟩) ∧ w' = w := by
  go_enter Tryd.func7, Tryd.ntmps7
  go_wp2_with fail
  refine (format_0 _).mono ?_
  rintro e w1 ⟨rfl, rfl⟩
  go_wp2
  go_ret
  exact ⟨rfl, rfl⟩
theorem itoa6_0 (w : World) : Calls Tryd.prog 6 #[.int .i64 0] w fun e w' => e = .returned (.string ⟨#[48]⟩) ∧ w' = w := by
  go_enter Tryd.func6, Tryd.ntmps6
  go_wp2_with fail
  refine (itoa7_0 _).mono ?_
  rintro e w1 ⟨rfl, rfl⟩
  go_wp2
  go_ret
  exact ⟨rfl, rfl⟩
theorem error_0 (w : World) : Calls Tryd.prog 5 #[.int .i64 0] w fun e w' => e = .returned (.string ⟨#[101, 114, 114, 111, 114, 32, 48]⟩) ∧ w' = w := by
  go_enter Tryd.func5, Tryd.ntmps5
  go_wp2_with fail
  refine (itoa6_0 _).mono ?_
  rintro e w1 ⟨rfl, rfl⟩
  go_wp2
  go_ret
  exact ⟨rfl, rfl⟩
end Go.Proofs.YteaaahcgkodcdaaDoor.Na
