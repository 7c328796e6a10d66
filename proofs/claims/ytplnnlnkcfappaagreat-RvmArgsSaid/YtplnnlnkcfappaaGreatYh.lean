/- RvmArgs: whatever the input. -/
import Derived.Test.YtplnnlnkcfappaaGreatYg0
import Derived.Test.YtplnnlnkcfappaaGreatYg1
import Derived.Test.YtplnnlnkcfappaaGreatYg2
import Derived.Test.YtplnnlnkcfappaaGreatYg3
import Derived.Test.YtplnnlnkcfappaaGreatYg4
import Derived.Test.YtplnnlnkcfappaaGreatYg5
import Derived.Test.YtplnnlnkcfappaaGreatYg6
import Derived.Test.YtplnnlnkcfappaaGreatYg7
import Derived.Test.YtplnnlnkcfappaaGreatYg8
namespace Go.Proofs.YtplnnlnkcfappaaGreat.Ew
open Go Go.RowKit

theorem args_all (a : Nat) (ha : a < 9) (b : Nat) (hb : b < 8) : okA a b = true := by
  match a, ha with
  | 0, _ => exact args_0 b hb
  | 1, _ => exact args_1 b hb
  | 2, _ => exact args_2 b hb
  | 3, _ => exact args_3 b hb
  | 4, _ => exact args_4 b hb
  | 5, _ => exact args_5 b hb
  | 6, _ => exact args_6 b hb
  | 7, _ => exact args_7 b hb
  | 8, _ => exact args_8 b hb

theorem args_calls (n a : Int) (w : World) : Calls Tryz.prog 10 #[.int .i64 n, .int .i64 a] w fun e w' => e = .returned (.bool true) ∧ Below w.heap.size w w' := by
  have hn : cameOf (16, 9) n < 9 := by
    show (if (9 : Nat) = 0 then _ else maskd n 16 % 9) < 9
    rw [if_neg (by decide)]
    omega
  have ha : cameOf (3, 0) a < 8 := by
    show (if (0 : Nat) = 0 then maskd a 3 else _) < 8
    rw [if_pos rfl]
    exact maskd_lt a 3 (by decide)
  refine runs_true (ρ := symsW wantsR [n, a]) mix (plainly_of plain_names) (ocW_ok _ _ _) lex (knR_ok _) 200 10 _ [.int .i64 n, .int .i64 a] ?_ (args_all _ hn _ ha) (by kernel_rfl) w
  exact dens_cons_mk (tagW wantsR [n, a] 0 (by decide) _ n rfl) (dens_one (tagW wantsR [n, a] 1 (by decide) _ a rfl))

end Go.Proofs.YtplnnlnkcfappaaGreat.Ew
