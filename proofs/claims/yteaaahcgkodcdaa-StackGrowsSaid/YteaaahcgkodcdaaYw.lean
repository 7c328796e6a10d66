/- StackGrows: whatever the input. -/
import Derived.Test.YteaaahcgkodcdaaYv0
import Derived.Test.YteaaahcgkodcdaaYv1
import Derived.Test.YteaaahcgkodcdaaYv2
import Derived.Test.YteaaahcgkodcdaaYv3
import Derived.Test.YteaaahcgkodcdaaYv4
import Derived.Test.YteaaahcgkodcdaaYv5
namespace Go.Proofs.Yteaaahcgkodcdaa.Ew
open Go Go.RowKit
set_option linter.unusedSimpArgs false

theorem grows_all (b : Nat) (hb : b < 80) (c : Nat) (hc : c < 3) : okG b c = true := by
  by_cases h0 : b < 8
  · exact okGR_spec grows_0 b (by omega) (by omega) c hc
  by_cases h8 : b < 16
  · exact okGR_spec grows_8 b (by omega) (by omega) c hc
  by_cases h16 : b < 20
  · exact okGR_spec grows_16 b (by omega) (by omega) c hc
  by_cases h20 : b < 24
  · exact okGR_spec grows_20 b (by omega) (by omega) c hc
  by_cases h24 : b < 28
  · exact okGR_spec grows_24 b (by omega) (by omega) c hc
  by_cases h28 : b < 32
  · exact okGR_spec grows_28 b (by omega) (by omega) c hc
  by_cases h32 : b < 34
  · exact okGR_spec grows_32 b (by omega) (by omega) c hc
  by_cases h34 : b < 36
  · exact okGR_spec grows_34 b (by omega) (by omega) c hc
  by_cases h36 : b < 38
  · exact okGR_spec grows_36 b (by omega) (by omega) c hc
  by_cases h38 : b < 40
  · exact okGR_spec grows_38 b (by omega) (by omega) c hc
  by_cases h40 : b < 42
  · exact okGR_spec grows_40 b (by omega) (by omega) c hc
  by_cases h42 : b < 44
  · exact okGR_spec grows_42 b (by omega) (by omega) c hc
  by_cases h44 : b < 45
  · exact okGR_spec grows_44 b (by omega) (by omega) c hc
  by_cases h45 : b < 46
  · exact okGR_spec grows_45 b (by omega) (by omega) c hc
  by_cases h46 : b < 47
  · exact okGR_spec grows_46 b (by omega) (by omega) c hc
  by_cases h47 : b < 48
  · exact okGR_spec grows_47 b (by omega) (by omega) c hc
  by_cases h48 : b < 49
  · exact okGR_spec grows_48 b (by omega) (by omega) c hc
  by_cases h49 : b < 50
  · exact okGR_spec grows_49 b (by omega) (by omega) c hc
  by_cases h50 : b < 51
  · exact okGR_spec grows_50 b (by omega) (by omega) c hc
  by_cases h51 : b < 52
  · exact okGR_spec grows_51 b (by omega) (by omega) c hc
  by_cases h52 : b < 53
  · exact okGR_spec grows_52 b (by omega) (by omega) c hc
  by_cases h53 : b < 54
  · exact okGR_spec grows_53 b (by omega) (by omega) c hc
  by_cases h54 : b < 55
  · exact okGR_spec grows_54 b (by omega) (by omega) c hc
  by_cases h55 : b < 56
  · exact okGR_spec grows_55 b (by omega) (by omega) c hc
  by_cases h56 : b < 57
  · exact okGR_spec grows_56 b (by omega) (by omega) c hc
  by_cases h57 : b < 58
  · exact okGR_spec grows_57 b (by omega) (by omega) c hc
  by_cases h58 : b < 59
  · exact okGR_spec grows_58 b (by omega) (by omega) c hc
  by_cases h59 : b < 60
  · exact okGR_spec grows_59 b (by omega) (by omega) c hc
  by_cases h60 : b < 61
  · exact okGR_spec grows_60 b (by omega) (by omega) c hc
  by_cases h61 : b < 62
  · exact okGR_spec grows_61 b (by omega) (by omega) c hc
  by_cases h62 : b < 63
  · exact okGR_spec grows_62 b (by omega) (by omega) c hc
  by_cases h63 : b < 64
  · exact okGR_spec grows_63 b (by omega) (by omega) c hc
  by_cases h64 : b < 66
  · exact okGR_spec grows_64 b (by omega) (by omega) c hc
  by_cases h66 : b < 68
  · exact okGR_spec grows_66 b (by omega) (by omega) c hc
  by_cases h68 : b < 70
  · exact okGR_spec grows_68 b (by omega) (by omega) c hc
  by_cases h70 : b < 72
  · exact okGR_spec grows_70 b (by omega) (by omega) c hc
  by_cases h72 : b < 74
  · exact okGR_spec grows_72 b (by omega) (by omega) c hc
  by_cases h74 : b < 76
  · exact okGR_spec grows_74 b (by omega) (by omega) c hc
  by_cases h76 : b < 78
  · exact okGR_spec grows_76 b (by omega) (by omega) c hc
  exact okGR_spec grows_78 b (by omega) (by omega) c hc

theorem grows_calls (n a : Int) (w : World) : Calls Try.prog 10 #[.int .i64 n, .int .i64 a] w fun e w' => e = .returned (.bool true) ∧ Below w.heap.size w w' := by
  have hn : cameOf (16, 80) n < 80 := by
    show (if (80 : Nat) = 0 then _ else maskd n 16 % 80) < 80
    rw [if_neg (by decide)]
    omega
  have ha : cameOf (16, 3) a < 3 := by
    show (if (3 : Nat) = 0 then _ else maskd a 16 % 3) < 3
    rw [if_neg (by decide)]
    omega
  refine runs_true (ρ := symsW wantsG [n, a]) mix (plainly_of plain_names) (ocW_ok _ _ _) lex (kn_ok _) 200 10 _ [.int .i64 n, .int .i64 a] ?_ (grows_all _ hn _ ha) w
  exact dens_cons_mk (tagW wantsG [n, a] 0 (by decide) _ n rfl) (dens_one (tagW wantsG [n, a] 1 (by decide) _ a rfl))

end Go.Proofs.Yteaaahcgkodcdaa.Ew
