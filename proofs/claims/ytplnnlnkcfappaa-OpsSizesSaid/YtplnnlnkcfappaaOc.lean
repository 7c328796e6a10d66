/- OpsSizes: how great a list, a text is. -/
import Derived.Test.YtplnnlnkcfappaaOb
namespace Go.Proofs.Ytplnnlnkcfappaa.Oa
open Go.RowKit
set_option linter.unusedSimpArgs false
set_option linter.unusedVariables false

theorem below_more {B : Nat} {a w : World} (h : Below B a w) (hB : B ≤ a.heap.size) (o : Obj) : Below B a (w.alloc o) := h.alloc (Nat.le_trans hB h.size) o
theorem ret2 {a b : Int} {c d : Bool} (h1 : a = b) (h2 : c = d) : Ending.returned (.tuple #[.int .i64 a, .bool c]) = .returned (.tuple #[.int .i64 b, .bool d]) := by rw [h1, h2]
/-- the cells of nil -/
def nc (_ : Unit) : List Value := [.int .i64 0, .int .i64 0, .complex .f64 0 0, .string ⟨#[]⟩, .slice none 0 0]
theorem nc_len (x : Unit) : (nc x).length = 5 := rfl

/-- (size, sound) of what has n cells more than none -/
def sz (n : Nat) : Value := if n ≤ 999 then .tuple #[.int .i64 (n + 1), .bool true] else .tuple #[.int .i64 0, .bool false]

set_option maxHeartbeats 2000000 in
set_option maxRecDepth 100000 in
theorem soundText_calls (w : World) (s : ByteArray) (hs : s.size ≤ 2000) : Calls Try.prog 64 #[cv 3 s nilL, .int .i64 0, .int .i64 1000] w fun e w' => e = .returned (sz s.size) ∧ Below w.heap.size w w' := by
  unfold cv nilL sz
  by_cases h1 : s.size ≤ 999
  · rw [if_pos h1]
    go_enter Try.func64, Try.ntmps64
    go_wp2_with fail
    refine (plain_text _ _).mono ?_
    rintro e w1 ⟨rfl, rfl⟩
    go_wp2
    refine wp_loop_once ?_
    go_wp2
    go_ret2
    exact ⟨ret2 (by omega) (decide_eq_true (by omega)), by repeat (first | exact Below.refl _ _ | refine Below.alloc ?_ (by simp; omega) _ | refine Below.alloc ?_ (by simp) _)⟩
  · rw [if_neg h1]
    go_enter Try.func64, Try.ntmps64
    go_wp2_with fail
    refine (plain_text _ _).mono ?_
    rintro e w1 ⟨rfl, rfl⟩
    go_wp2
    go_ret2
    exact ⟨rfl, by repeat (first | exact Below.refl _ _ | refine Below.alloc ?_ (by simp; omega) _ | refine Below.alloc ?_ (by simp) _)⟩

set_option maxHeartbeats 2000000 in
set_option maxRecDepth 100000 in
theorem soundList_calls (w : World) (v : Value) (l : List Unit) (h : Sl nc 5 w v l) (hl : l.length ≤ 2000) : Calls Try.prog 64 #[cv 4 ⟨#[]⟩ v, .int .i64 0, .int .i64 1000] w fun e w' => e = .returned (sz l.length) ∧ Below w.heap.size w w' := by
  obtain ⟨a, cap, rfl⟩ := h.form
  have HS := Lib.hid h
  clear h
  unfold cv sz
  go_enter Try.func64, Try.ntmps64
  go_wp2_with fail
  refine (plain_list _ _ _ _).mono ?_
  rintro e w1 ⟨rfl, rfl⟩
  go_wp2
  go_loopw [8, 49] (fun n i wr => ∃ k : Nat, k ≤ l.length ∧ k ≤ 999 ∧ n = .int .i64 (k + 1) ∧ i = .int .i64 k ∧ Below w.heap.size w wr) (fun _ i _ => l.length - (intOf i).toNat)
  case atStart =>
    exact ⟨0, by omega, by omega, rfl, rfl, by repeat (first | exact Below.refl _ _ | refine Below.alloc ?_ (by simp; omega) _ | refine Below.alloc ?_ (by simp) _)⟩
  case round =>
    obtain ⟨k, hk, hk9, rfl, rfl, hb⟩ := hrel
    have HB := Lib.hid hb
    clear hb
    by_cases hlt : k < l.length
    · obtain ⟨b, off, cp, hv, hcap, hblt, hcell⟩ := (HS.out.below HB.out).at (by intro e; rw [e] at hlt; simp at hlt)
      obtain ⟨rfl, rfl⟩ : a = some ⟨b, off, none⟩ ∧ cp = cap := by injection hv with h1 _ h2; exact ⟨h1, h2.symm⟩
      clear hv
      have hcell2 := hcell k hlt
      have c0 : wr.cell? ⟨b, off + k * 5, none⟩ = some (.int .i64 0) := hcell2 0 _ rfl
      have c1 : wr.cell? ⟨b, off + k * 5 + 1, none⟩ = some (.int .i64 0) := hcell2 1 _ rfl
      have c2 : wr.cell? ⟨b, off + k * 5 + 2, none⟩ = some (.complex .f64 0 0) := hcell2 2 _ rfl
      have c3 : wr.cell? ⟨b, off + k * 5 + 3, none⟩ = some (.string ⟨#[]⟩) := hcell2 3 _ rfl
      have c4 : wr.cell? ⟨b, off + k * 5 + 4, none⟩ = some (.slice none 0 0) := hcell2 4 _ rfl
      clear hcell2 hcell
      go_wp2_with fail
      refine (soundNil_calls _ 1 (1000 - (k + 1)) (by omega) (by omega)).mono ?_
      rintro e w1 ⟨rfl, hb1⟩
      have HB1 := Lib.hid (below_join (below_more HB.out (Nat.le_refl _) _) (Nat.le_refl _) hb1)
      clear hb1
      by_cases h9 : (1 : Int) ≤ 1000 - (k + 1)
      · rw [if_pos h9]
        go_wp2
        go_roundw
        case rel => exact ⟨k + 1, by omega, by omega, by go_num, by go_num, HB1.out⟩
        case measure => simp [intOf]; omega
      · rw [if_neg h9]
        go_wp2
        go_ret2
        exact ⟨rfl, HB1.out⟩
    · obtain rfl : k = l.length := by omega
      go_wp2
      go_ret2
      exact ⟨ret2 (by omega) (decide_eq_true (by omega)), HB.out⟩

end Go.Proofs.Ytplnnlnkcfappaa.Oa
