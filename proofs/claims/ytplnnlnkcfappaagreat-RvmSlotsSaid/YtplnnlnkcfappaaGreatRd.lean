/- RvmSlots: counts and ticked of code of any allowed instructions. -/
import Derived.Test.YtplnnlnkcfappaaGreatRc0
import Derived.Test.YtplnnlnkcfappaaGreatRc1
import Derived.Test.YtplnnlnkcfappaaGreatRc2
import Derived.Test.YtplnnlnkcfappaaGreatRc3
import Derived.Test.YtplnnlnkcfappaaGreatRc4
import Derived.Test.YtplnnlnkcfappaaGreatRc5
import Derived.Test.YtplnnlnkcfappaaGreatRc6
import Derived.Test.YtplnnlnkcfappaaGreatRc7
namespace Go.Proofs.YtplnnlnkcfappaaGreat.Rs
open Go.RowKit Ew
theorem codes_ok (m : Nat) (hm : m ≤ 60) : goodC m = true ∧ goodT m = true := by
  obtain h | h | h | h | h | h | h | h : (0 ≤ m ∧ m < 20) ∨ (20 ≤ m ∧ m < 32) ∨ (32 ≤ m ∧ m < 40) ∨ (40 ≤ m ∧ m < 46) ∨ (46 ≤ m ∧ m < 51) ∨ (51 ≤ m ∧ m < 55) ∨ (55 ≤ m ∧ m < 58) ∨ (58 ≤ m ∧ m < 61) := by omega
  · exact both (List.all_eq_true.1 codes0 m (List.mem_range'_1.2 ⟨by omega, by omega⟩))
  · exact both (List.all_eq_true.1 codes1 m (List.mem_range'_1.2 ⟨by omega, by omega⟩))
  · exact both (List.all_eq_true.1 codes2 m (List.mem_range'_1.2 ⟨by omega, by omega⟩))
  · exact both (List.all_eq_true.1 codes3 m (List.mem_range'_1.2 ⟨by omega, by omega⟩))
  · exact both (List.all_eq_true.1 codes4 m (List.mem_range'_1.2 ⟨by omega, by omega⟩))
  · exact both (List.all_eq_true.1 codes5 m (List.mem_range'_1.2 ⟨by omega, by omega⟩))
  · exact both (List.all_eq_true.1 codes6 m (List.mem_range'_1.2 ⟨by omega, by omega⟩))
  · exact both (List.all_eq_true.1 codes7 m (List.mem_range'_1.2 ⟨by omega, by omega⟩))
end Go.Proofs.YtplnnlnkcfappaaGreat.Rs
