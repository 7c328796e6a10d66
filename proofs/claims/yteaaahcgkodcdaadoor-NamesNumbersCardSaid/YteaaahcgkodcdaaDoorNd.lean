/-
  NamesNumbers: the table: 132 pairs, built and laid.
-/
import Derived.Test.YteaaahcgkodcdaaDoorNc
import Derived.Great.BuildSlice
import Derived.Great.Walk
namespace Go.Proofs.YteaaahcgkodcdaaDoor.Nd
open Go.RowKit Go.Proofs.YteaaahcgkodcdaaDoor.Nc Go.Great
set_option maxRecDepth 100000

def zs : List Int := [0, 1, 2, 3, 5, 10, 11, 12, 13, 14, 21, 65, 0, 1, 2, 3, 4, 5, 6, 1000, 24, 4000, 16, 16, 8, 64, 1000, 64, 200, 4095, 2000, 200, 64, 0, 1, 2, 3, 4, 1, 2, 3, 4, 5, 6, 7, 8, 9, 10, 11, 12, 13, 14, 15, 16, 17, 18, 19, 20, 1, 2, 3, 4, 5, 6, 1, 2, 3, 4, 5, 6, 7, 8, 9, 10, 11, 12, 13, 14, 15, 16, 17, 18, 19, 20, 21, 1, 2, 3, 4, 5, 6, 7, 8, 9, 10, 11, 12, 13, 1, 2, 3, 4, 5, 6, 7, 8, 1, 2, 3, 1, 2, 3, 4, 5, 6, 7, 8, 9, 10, 11, 12, 13, 14, 15, 16, 17, 1, 2, 0, 1, 2, 32]
def cells : Array Value := (zs.flatMap fun z => [Value.int .i64 z, Value.int .i64 z]).toArray

def pairOk : Option Value → Option Value → Bool
  | some (.int .i64 a), some (.int .i64 b) => decide (a = b)
  | _, _ => false

theorem pair_of {x y : Option Value} (h : pairOk x y = true) : ∃ v : Int, x = some (Value.int .i64 v) ∧ y = some (Value.int .i64 v) := by
  unfold pairOk at h
  split at h
  · rename_i a b
    obtain rfl : a = b := of_decide_eq_true h
    exact ⟨a, rfl, rfl⟩
  · cases h

theorem pairs_all : ((List.range 132).all fun i => pairOk cells[i * 2]? cells[i * 2 + 1]?) = true := by kernel_rfl

theorem pairs_at (i : Nat) (hi : i < 132) : ∃ v : Int, cells[i * 2]? = some (Value.int .i64 v) ∧ cells[i * 2 + 1]? = some (Value.int .i64 v) :=
  pair_of (List.all_eq_true.1 pairs_all i (List.mem_range.2 hi))

set_option maxHeartbeats 4000000 in
theorem table (w : World) : Calls Tryd.prog 4 #[] w (TablePost w) := by
  go_enter Tryd.func4, Tryd.ntmps4
  apply wp_seq_k; intro K1 hK1
  apply wp_region_lit
  refine wpList_readTo rfl (some 0) rfl (.slice none 0 0) (by kernel_rfl) ?_
  apply wpList_nil
  refine hK1 _ _ ?_
  clear hK1 K1
  apply wp_seq_k; intro K2 hK2
  apply wp_region_lit
  refine wpList_buildTo rfl 25 _ rfl (some 1) rfl #[.int .i64 0, .int .i64 0] (by kernel_rfl) ?_
  refine wpList_buildTo rfl 25 _ rfl (some 2) rfl #[.int .i64 1, .int .i64 1] (by kernel_rfl) ?_
  refine wpList_buildTo rfl 25 _ rfl (some 3) rfl #[.int .i64 2, .int .i64 2] (by kernel_rfl) ?_
  refine wpList_buildTo rfl 25 _ rfl (some 4) rfl #[.int .i64 3, .int .i64 3] (by kernel_rfl) ?_
  refine wpList_buildTo rfl 25 _ rfl (some 5) rfl #[.int .i64 5, .int .i64 5] (by kernel_rfl) ?_
  refine wpList_buildTo rfl 25 _ rfl (some 6) rfl #[.int .i64 10, .int .i64 10] (by kernel_rfl) ?_
  refine wpList_buildTo rfl 25 _ rfl (some 7) rfl #[.int .i64 11, .int .i64 11] (by kernel_rfl) ?_
  refine wpList_buildTo rfl 25 _ rfl (some 8) rfl #[.int .i64 12, .int .i64 12] (by kernel_rfl) ?_
  refine wpList_buildTo rfl 25 _ rfl (some 9) rfl #[.int .i64 13, .int .i64 13] (by kernel_rfl) ?_
  refine wpList_buildTo rfl 25 _ rfl (some 10) rfl #[.int .i64 14, .int .i64 14] (by kernel_rfl) ?_
  refine wpList_buildTo rfl 25 _ rfl (some 11) rfl #[.int .i64 21, .int .i64 21] (by kernel_rfl) ?_
  refine wpList_buildTo rfl 25 _ rfl (some 12) rfl #[.int .i64 65, .int .i64 65] (by kernel_rfl) ?_
  refine wpList_buildTo rfl 25 _ rfl (some 13) rfl #[.int .i64 0, .int .i64 0] (by kernel_rfl) ?_
  refine wpList_buildTo rfl 25 _ rfl (some 14) rfl #[.int .i64 1, .int .i64 1] (by kernel_rfl) ?_
  refine wpList_buildTo rfl 25 _ rfl (some 15) rfl #[.int .i64 2, .int .i64 2] (by kernel_rfl) ?_
  refine wpList_buildTo rfl 25 _ rfl (some 16) rfl #[.int .i64 3, .int .i64 3] (by kernel_rfl) ?_
  refine wpList_buildTo rfl 25 _ rfl (some 17) rfl #[.int .i64 4, .int .i64 4] (by kernel_rfl) ?_
  refine wpList_buildTo rfl 25 _ rfl (some 18) rfl #[.int .i64 5, .int .i64 5] (by kernel_rfl) ?_
  refine wpList_buildTo rfl 25 _ rfl (some 19) rfl #[.int .i64 6, .int .i64 6] (by kernel_rfl) ?_
  refine wpList_buildTo rfl 25 _ rfl (some 20) rfl #[.int .i64 1000, .int .i64 1000] (by kernel_rfl) ?_
  refine wpList_buildTo rfl 25 _ rfl (some 21) rfl #[.int .i64 24, .int .i64 24] (by kernel_rfl) ?_
  refine wpList_buildTo rfl 25 _ rfl (some 22) rfl #[.int .i64 4000, .int .i64 4000] (by kernel_rfl) ?_
  refine wpList_buildTo rfl 25 _ rfl (some 23) rfl #[.int .i64 16, .int .i64 16] (by kernel_rfl) ?_
  refine wpList_buildTo rfl 25 _ rfl (some 24) rfl #[.int .i64 16, .int .i64 16] (by kernel_rfl) ?_
  refine wpList_buildTo rfl 25 _ rfl (some 25) rfl #[.int .i64 8, .int .i64 8] (by kernel_rfl) ?_
  refine wpList_buildTo rfl 25 _ rfl (some 26) rfl #[.int .i64 64, .int .i64 64] (by kernel_rfl) ?_
  refine wpList_buildTo rfl 25 _ rfl (some 27) rfl #[.int .i64 1000, .int .i64 1000] (by kernel_rfl) ?_
  refine wpList_buildTo rfl 25 _ rfl (some 28) rfl #[.int .i64 64, .int .i64 64] (by kernel_rfl) ?_
  refine wpList_buildTo rfl 25 _ rfl (some 29) rfl #[.int .i64 200, .int .i64 200] (by kernel_rfl) ?_
  refine wpList_buildTo rfl 25 _ rfl (some 30) rfl #[.int .i64 4095, .int .i64 4095] (by kernel_rfl) ?_
  refine wpList_buildTo rfl 25 _ rfl (some 31) rfl #[.int .i64 2000, .int .i64 2000] (by kernel_rfl) ?_
  refine wpList_buildTo rfl 25 _ rfl (some 32) rfl #[.int .i64 200, .int .i64 200] (by kernel_rfl) ?_
  refine wpList_buildTo rfl 25 _ rfl (some 33) rfl #[.int .i64 64, .int .i64 64] (by kernel_rfl) ?_
  refine wpList_buildTo rfl 25 _ rfl (some 34) rfl #[.int .i64 0, .int .i64 0] (by kernel_rfl) ?_
  refine wpList_buildTo rfl 25 _ rfl (some 35) rfl #[.int .i64 1, .int .i64 1] (by kernel_rfl) ?_
  refine wpList_buildTo rfl 25 _ rfl (some 36) rfl #[.int .i64 2, .int .i64 2] (by kernel_rfl) ?_
  refine wpList_buildTo rfl 25 _ rfl (some 37) rfl #[.int .i64 3, .int .i64 3] (by kernel_rfl) ?_
  refine wpList_buildTo rfl 25 _ rfl (some 38) rfl #[.int .i64 4, .int .i64 4] (by kernel_rfl) ?_
  refine wpList_buildTo rfl 25 _ rfl (some 39) rfl #[.int .i64 1, .int .i64 1] (by kernel_rfl) ?_
  refine wpList_buildTo rfl 25 _ rfl (some 40) rfl #[.int .i64 2, .int .i64 2] (by kernel_rfl) ?_
  refine wpList_buildTo rfl 25 _ rfl (some 41) rfl #[.int .i64 3, .int .i64 3] (by kernel_rfl) ?_
  refine wpList_buildTo rfl 25 _ rfl (some 42) rfl #[.int .i64 4, .int .i64 4] (by kernel_rfl) ?_
  refine wpList_buildTo rfl 25 _ rfl (some 43) rfl #[.int .i64 5, .int .i64 5] (by kernel_rfl) ?_
  refine wpList_buildTo rfl 25 _ rfl (some 44) rfl #[.int .i64 6, .int .i64 6] (by kernel_rfl) ?_
  refine wpList_buildTo rfl 25 _ rfl (some 45) rfl #[.int .i64 7, .int .i64 7] (by kernel_rfl) ?_
  refine wpList_buildTo rfl 25 _ rfl (some 46) rfl #[.int .i64 8, .int .i64 8] (by kernel_rfl) ?_
  refine wpList_buildTo rfl 25 _ rfl (some 47) rfl #[.int .i64 9, .int .i64 9] (by kernel_rfl) ?_
  refine wpList_buildTo rfl 25 _ rfl (some 48) rfl #[.int .i64 10, .int .i64 10] (by kernel_rfl) ?_
  refine wpList_buildTo rfl 25 _ rfl (some 49) rfl #[.int .i64 11, .int .i64 11] (by kernel_rfl) ?_
  refine wpList_buildTo rfl 25 _ rfl (some 50) rfl #[.int .i64 12, .int .i64 12] (by kernel_rfl) ?_
  refine wpList_buildTo rfl 25 _ rfl (some 51) rfl #[.int .i64 13, .int .i64 13] (by kernel_rfl) ?_
  refine wpList_buildTo rfl 25 _ rfl (some 52) rfl #[.int .i64 14, .int .i64 14] (by kernel_rfl) ?_
  refine wpList_buildTo rfl 25 _ rfl (some 53) rfl #[.int .i64 15, .int .i64 15] (by kernel_rfl) ?_
  refine wpList_buildTo rfl 25 _ rfl (some 54) rfl #[.int .i64 16, .int .i64 16] (by kernel_rfl) ?_
  refine wpList_buildTo rfl 25 _ rfl (some 55) rfl #[.int .i64 17, .int .i64 17] (by kernel_rfl) ?_
  refine wpList_buildTo rfl 25 _ rfl (some 56) rfl #[.int .i64 18, .int .i64 18] (by kernel_rfl) ?_
  refine wpList_buildTo rfl 25 _ rfl (some 57) rfl #[.int .i64 19, .int .i64 19] (by kernel_rfl) ?_
  refine wpList_buildTo rfl 25 _ rfl (some 58) rfl #[.int .i64 20, .int .i64 20] (by kernel_rfl) ?_
  refine wpList_buildTo rfl 25 _ rfl (some 59) rfl #[.int .i64 1, .int .i64 1] (by kernel_rfl) ?_
  refine wpList_buildTo rfl 25 _ rfl (some 60) rfl #[.int .i64 2, .int .i64 2] (by kernel_rfl) ?_
  refine wpList_buildTo rfl 25 _ rfl (some 61) rfl #[.int .i64 3, .int .i64 3] (by kernel_rfl) ?_
  refine wpList_buildTo rfl 25 _ rfl (some 62) rfl #[.int .i64 4, .int .i64 4] (by kernel_rfl) ?_
  refine wpList_buildTo rfl 25 _ rfl (some 63) rfl #[.int .i64 5, .int .i64 5] (by kernel_rfl) ?_
  refine wpList_buildTo rfl 25 _ rfl (some 64) rfl #[.int .i64 6, .int .i64 6] (by kernel_rfl) ?_
  refine wpList_buildTo rfl 25 _ rfl (some 65) rfl #[.int .i64 1, .int .i64 1] (by kernel_rfl) ?_
  refine wpList_buildTo rfl 25 _ rfl (some 66) rfl #[.int .i64 2, .int .i64 2] (by kernel_rfl) ?_
  refine wpList_buildTo rfl 25 _ rfl (some 67) rfl #[.int .i64 3, .int .i64 3] (by kernel_rfl) ?_
  refine wpList_buildTo rfl 25 _ rfl (some 68) rfl #[.int .i64 4, .int .i64 4] (by kernel_rfl) ?_
  refine wpList_buildTo rfl 25 _ rfl (some 69) rfl #[.int .i64 5, .int .i64 5] (by kernel_rfl) ?_
  refine wpList_buildTo rfl 25 _ rfl (some 70) rfl #[.int .i64 6, .int .i64 6] (by kernel_rfl) ?_
  refine wpList_buildTo rfl 25 _ rfl (some 71) rfl #[.int .i64 7, .int .i64 7] (by kernel_rfl) ?_
  refine wpList_buildTo rfl 25 _ rfl (some 72) rfl #[.int .i64 8, .int .i64 8] (by kernel_rfl) ?_
  refine wpList_buildTo rfl 25 _ rfl (some 73) rfl #[.int .i64 9, .int .i64 9] (by kernel_rfl) ?_
  refine wpList_buildTo rfl 25 _ rfl (some 74) rfl #[.int .i64 10, .int .i64 10] (by kernel_rfl) ?_
  refine wpList_buildTo rfl 25 _ rfl (some 75) rfl #[.int .i64 11, .int .i64 11] (by kernel_rfl) ?_
  refine wpList_buildTo rfl 25 _ rfl (some 76) rfl #[.int .i64 12, .int .i64 12] (by kernel_rfl) ?_
  refine wpList_buildTo rfl 25 _ rfl (some 77) rfl #[.int .i64 13, .int .i64 13] (by kernel_rfl) ?_
  refine wpList_buildTo rfl 25 _ rfl (some 78) rfl #[.int .i64 14, .int .i64 14] (by kernel_rfl) ?_
  refine wpList_buildTo rfl 25 _ rfl (some 79) rfl #[.int .i64 15, .int .i64 15] (by kernel_rfl) ?_
  refine wpList_buildTo rfl 25 _ rfl (some 80) rfl #[.int .i64 16, .int .i64 16] (by kernel_rfl) ?_
  refine wpList_buildTo rfl 25 _ rfl (some 81) rfl #[.int .i64 17, .int .i64 17] (by kernel_rfl) ?_
  refine wpList_buildTo rfl 25 _ rfl (some 82) rfl #[.int .i64 18, .int .i64 18] (by kernel_rfl) ?_
  refine wpList_buildTo rfl 25 _ rfl (some 83) rfl #[.int .i64 19, .int .i64 19] (by kernel_rfl) ?_
  refine wpList_buildTo rfl 25 _ rfl (some 84) rfl #[.int .i64 20, .int .i64 20] (by kernel_rfl) ?_
  refine wpList_buildTo rfl 25 _ rfl (some 85) rfl #[.int .i64 21, .int .i64 21] (by kernel_rfl) ?_
  refine wpList_buildTo rfl 25 _ rfl (some 86) rfl #[.int .i64 1, .int .i64 1] (by kernel_rfl) ?_
  refine wpList_buildTo rfl 25 _ rfl (some 87) rfl #[.int .i64 2, .int .i64 2] (by kernel_rfl) ?_
  refine wpList_buildTo rfl 25 _ rfl (some 88) rfl #[.int .i64 3, .int .i64 3] (by kernel_rfl) ?_
  refine wpList_buildTo rfl 25 _ rfl (some 89) rfl #[.int .i64 4, .int .i64 4] (by kernel_rfl) ?_
  refine wpList_buildTo rfl 25 _ rfl (some 90) rfl #[.int .i64 5, .int .i64 5] (by kernel_rfl) ?_
  refine wpList_buildTo rfl 25 _ rfl (some 91) rfl #[.int .i64 6, .int .i64 6] (by kernel_rfl) ?_
  refine wpList_buildTo rfl 25 _ rfl (some 92) rfl #[.int .i64 7, .int .i64 7] (by kernel_rfl) ?_
  refine wpList_buildTo rfl 25 _ rfl (some 93) rfl #[.int .i64 8, .int .i64 8] (by kernel_rfl) ?_
  refine wpList_buildTo rfl 25 _ rfl (some 94) rfl #[.int .i64 9, .int .i64 9] (by kernel_rfl) ?_
  refine wpList_buildTo rfl 25 _ rfl (some 95) rfl #[.int .i64 10, .int .i64 10] (by kernel_rfl) ?_
  refine wpList_buildTo rfl 25 _ rfl (some 96) rfl #[.int .i64 11, .int .i64 11] (by kernel_rfl) ?_
  refine wpList_buildTo rfl 25 _ rfl (some 97) rfl #[.int .i64 12, .int .i64 12] (by kernel_rfl) ?_
  refine wpList_buildTo rfl 25 _ rfl (some 98) rfl #[.int .i64 13, .int .i64 13] (by kernel_rfl) ?_
  refine wpList_buildTo rfl 25 _ rfl (some 99) rfl #[.int .i64 1, .int .i64 1] (by kernel_rfl) ?_
  refine wpList_buildTo rfl 25 _ rfl (some 100) rfl #[.int .i64 2, .int .i64 2] (by kernel_rfl) ?_
  refine wpList_buildTo rfl 25 _ rfl (some 101) rfl #[.int .i64 3, .int .i64 3] (by kernel_rfl) ?_
  refine wpList_buildTo rfl 25 _ rfl (some 102) rfl #[.int .i64 4, .int .i64 4] (by kernel_rfl) ?_
  refine wpList_buildTo rfl 25 _ rfl (some 103) rfl #[.int .i64 5, .int .i64 5] (by kernel_rfl) ?_
  refine wpList_buildTo rfl 25 _ rfl (some 104) rfl #[.int .i64 6, .int .i64 6] (by kernel_rfl) ?_
  refine wpList_buildTo rfl 25 _ rfl (some 105) rfl #[.int .i64 7, .int .i64 7] (by kernel_rfl) ?_
  refine wpList_buildTo rfl 25 _ rfl (some 106) rfl #[.int .i64 8, .int .i64 8] (by kernel_rfl) ?_
  refine wpList_buildTo rfl 25 _ rfl (some 107) rfl #[.int .i64 1, .int .i64 1] (by kernel_rfl) ?_
  refine wpList_buildTo rfl 25 _ rfl (some 108) rfl #[.int .i64 2, .int .i64 2] (by kernel_rfl) ?_
  refine wpList_buildTo rfl 25 _ rfl (some 109) rfl #[.int .i64 3, .int .i64 3] (by kernel_rfl) ?_
  refine wpList_buildTo rfl 25 _ rfl (some 110) rfl #[.int .i64 1, .int .i64 1] (by kernel_rfl) ?_
  refine wpList_buildTo rfl 25 _ rfl (some 111) rfl #[.int .i64 2, .int .i64 2] (by kernel_rfl) ?_
  refine wpList_buildTo rfl 25 _ rfl (some 112) rfl #[.int .i64 3, .int .i64 3] (by kernel_rfl) ?_
  refine wpList_buildTo rfl 25 _ rfl (some 113) rfl #[.int .i64 4, .int .i64 4] (by kernel_rfl) ?_
  refine wpList_buildTo rfl 25 _ rfl (some 114) rfl #[.int .i64 5, .int .i64 5] (by kernel_rfl) ?_
  refine wpList_buildTo rfl 25 _ rfl (some 115) rfl #[.int .i64 6, .int .i64 6] (by kernel_rfl) ?_
  refine wpList_buildTo rfl 25 _ rfl (some 116) rfl #[.int .i64 7, .int .i64 7] (by kernel_rfl) ?_
  refine wpList_buildTo rfl 25 _ rfl (some 117) rfl #[.int .i64 8, .int .i64 8] (by kernel_rfl) ?_
  refine wpList_buildTo rfl 25 _ rfl (some 118) rfl #[.int .i64 9, .int .i64 9] (by kernel_rfl) ?_
  refine wpList_buildTo rfl 25 _ rfl (some 119) rfl #[.int .i64 10, .int .i64 10] (by kernel_rfl) ?_
  refine wpList_buildTo rfl 25 _ rfl (some 120) rfl #[.int .i64 11, .int .i64 11] (by kernel_rfl) ?_
  refine wpList_buildTo rfl 25 _ rfl (some 121) rfl #[.int .i64 12, .int .i64 12] (by kernel_rfl) ?_
  refine wpList_buildTo rfl 25 _ rfl (some 122) rfl #[.int .i64 13, .int .i64 13] (by kernel_rfl) ?_
  refine wpList_buildTo rfl 25 _ rfl (some 123) rfl #[.int .i64 14, .int .i64 14] (by kernel_rfl) ?_
  refine wpList_buildTo rfl 25 _ rfl (some 124) rfl #[.int .i64 15, .int .i64 15] (by kernel_rfl) ?_
  refine wpList_buildTo rfl 25 _ rfl (some 125) rfl #[.int .i64 16, .int .i64 16] (by kernel_rfl) ?_
  refine wpList_buildTo rfl 25 _ rfl (some 126) rfl #[.int .i64 17, .int .i64 17] (by kernel_rfl) ?_
  refine wpList_buildTo rfl 25 _ rfl (some 127) rfl #[.int .i64 1, .int .i64 1] (by kernel_rfl) ?_
  refine wpList_buildTo rfl 25 _ rfl (some 128) rfl #[.int .i64 2, .int .i64 2] (by kernel_rfl) ?_
  refine wpList_buildTo rfl 25 _ rfl (some 129) rfl #[.int .i64 0, .int .i64 0] (by kernel_rfl) ?_
  refine wpList_buildTo rfl 25 _ rfl (some 130) rfl #[.int .i64 1, .int .i64 1] (by kernel_rfl) ?_
  refine wpList_buildTo rfl 25 _ rfl (some 131) rfl #[.int .i64 2, .int .i64 2] (by kernel_rfl) ?_
  refine wpList_buildTo rfl 25 _ rfl (some 132) rfl #[.int .i64 32, .int .i64 32] (by kernel_rfl) ?_
  refine wpList_buildSliceTo rfl 22 25 132 _ rfl w.heap.size rfl (some 133) rfl (by kernel_rfl) cells (by kernel_rfl) ?_
  refine wpList_readTo rfl (some 0) rfl (.slice (some ⟨w.heap.size, 0, none⟩) 132 132) (by kernel_rfl) ?_
  apply wpList_nil
  refine hK2 _ _ ?_
  clear hK2 K2
  apply wp_ret
  refine bodyPost_ret (v := .slice (some ⟨w.heap.size, 0, none⟩) 132 132) (by kernel_rfl) (by kernel_rfl) ⟨rfl, (Below.refl _ _).alloc (Nat.le_refl _) _, ?_⟩
  intro i hi
  obtain ⟨v, h0, h1⟩ := pairs_at i hi
  exact ⟨v, (World.cell?_alloc_at _ _ _ _ rfl).trans h0, (World.cell?_alloc_at _ _ _ _ rfl).trans h1⟩
end Go.Proofs.YteaaahcgkodcdaaDoor.Nd
