/-
  NamesNumbers: the walk of the law, out of its parts' contracts.
-/
import Derived.Test.YteaaahcgkodcdaaDoorNa
import Derived.RegionTactic
import Derived.Lib.Hide
import Derived.Deep.DeepCutAuto
import Derived.Deep.QuietTactic
import Derived.BigQuiet
namespace Go.Proofs.YteaaahcgkodcdaaDoor.Nc
open Go.RowKit Go.Proofs.YteaaahcgkodcdaaDoor.Na
set_option maxRecDepth 100000


/-- The table: 132 pairs of one number twice. -/
def Pairs (b : Nat) (w : World) : Prop := ∀ i : Nat, i < 132 → ∃ v : Int, w.cell? ⟨b, i * 2, none⟩ = some (.int .i64 v) ∧ w.cell? ⟨b, i * 2 + 1, none⟩ = some (.int .i64 v)

theorem below_drewN' {B : Nat} {a w : World} (h : Below B a w) (n : Nat) : Below B a (w.drewN n) := ⟨h.os, h.tape, h.output, h.size, h.block⟩

theorem below_join {a b c : World} (h : Below a.heap.size a b) (k : Below b.heap.size b c) : Below a.heap.size a c := h.trans ⟨k.os, k.tape, k.output, k.size, fun i hi => k.block i (Nat.lt_of_lt_of_le hi h.size)⟩

structure TablePost (w : World) (e : Ending) (w' : World) : Prop where
  end_ : e = .returned (.slice (some ⟨w.heap.size, 0, none⟩) 132 132)
  below : Below w.heap.size w w'
  pairs : Pairs w.heap.size w'

set_option maxHeartbeats 1000000 in
theorem law (table : ∀ w : World, Calls Tryd.prog 4 #[] w (TablePost w)) (w : World) :
    Calls Tryd.prog 3 #[] w fun e w' => e = .returned (.bool true) ∧ Below w.heap.size w w' := by
  go_enter Tryd.func3, Tryd.ntmps3
  go_wp2_with fail
  refine (table _).mono ?_
  rintro e w1 ⟨rfl, hb, hp⟩
  have HB := Lib.hid hb
  have HP := Lib.hid hp
  clear hb hp
  go_wp2_with fail
  go_loopw [2] (fun i wr => ∃ k : Nat, k ≤ 132 ∧ i = .int .i64 k ∧ Below w1.heap.size w1 wr ∧ Pairs w.heap.size wr) (fun i _ => 132 - (intOf i).toNat)
  case atStart => exact ⟨0, by omega, rfl, Below.refl _ _, HP.out⟩
  case round =>
    obtain ⟨k, hk, rfl, hbl, hpr⟩ := hrel
    have HBL := Lib.hid hbl
    have HPR := Lib.hid hpr
    clear hbl hpr
    by_cases hlt : k < 132
    · obtain ⟨v, c0, c1⟩ := HPR.out k hlt
      have i0 : (0 : Int) ≤ (k : Int) := by omega
      have i1 : (k : Int) < 132 := by omega
      go_wp2_with fail
      go_quiet (fail)
      go_wp2
      go_roundw
      case rel =>
        exact ⟨k + 1, by omega, by go_num, below_drewN' HBL.out _, HPR.out⟩
      case measure => simp [intOf]; omega
    · obtain rfl : k = 132 := by omega
      go_wp2_with fail
      refine (error_65 _).mono ?_
      rintro e wa ⟨rfl, rfl⟩
      go_wp2_with fail
      refine (error_0 _).mono ?_
      rintro e wb ⟨rfl, rfl⟩
      go_wp2_with fail
      go_ret
      exact ⟨rfl, below_join HB.out HBL.out⟩
end Go.Proofs.YteaaahcgkodcdaaDoor.Nc
