/- The contract of enc.One. -/
import Derived.Test.YteaaahcgkodcdaaEc
namespace Go.Proofs.Yteaaahcgkodcdaa.Ea
open Go.RowKit
set_option linter.unusedSimpArgs false

/-- an instruction's word and whether it is one -/
def oneF (op a b c d : Int) : Int × Bool :=
  if many op < 0 then (0, false)
  else if okAll op (many op).toNat (opd a b c d) = true then (acc op (many op).toNat (opd a b c d) 4, true) else (0, false)

theorem oneF_neg {op a b c d : Int} (h : many op < 0) : oneF op a b c d = (0, false) := by unfold oneF; rw [if_pos h]
theorem oneF_yes {op a b c d : Int} {n : Nat} (hn : many op = n) (h : ∀ j, j < 4 → goodAt op n (opd a b c d) j) : oneF op a b c d = (acc op n (opd a b c d) 4, true) := by
  unfold oneF; rw [if_neg (by omega), hn, Int.toNat_natCast, if_pos (okAll_true h)]
theorem oneF_no {op a b c d : Int} {n j : Nat} (hn : many op = n) (hj : j < 4) (h : ¬ goodAt op n (opd a b c d) j) : oneF op a b c d = (0, false) := by
  unfold oneF; rw [if_neg (by omega), hn, Int.toNat_natCast, if_neg (by rw [okAll_false hj h]; simp)]

def OnePost (op a b c d : Int) (w : World) (e : Ending) (w' : World) : Prop :=
  e = .returned (.tuple #[.int .u32 (oneF op a b c d).1, .bool (oneF op a b c d).2]) ∧ Below w.heap.size w w'

theorem onePost_mk {op a b c d x : Int} {t : Bool} {w w' : World} (h : oneF op a b c d = (x, t)) (hb : Below w.heap.size w w') : OnePost op a b c d w (.returned (.tuple #[.int .u32 x, .bool t])) w' := by
  unfold OnePost; rw [h]; exact ⟨rfl, hb⟩

theorem below_more {B : Nat} {a w : World} (h : Below B a w) (hB : B ≤ a.heap.size) (o : Obj) : Below B a (w.alloc o) := h.alloc (Nat.le_trans hB h.size) o

theorem below_box {w wr : World} {o : Obj} (h : Below (w.heap.size + 1) (w.alloc o) wr) : Below w.heap.size w wr := ((Below.refl _ _).alloc (Nat.le_refl _) _).trans (h.mono (by omega))

theorem index_opd (a b c d : Int) (k : Nat) (hk : k < 4) : ∀ w, (Instr.index 77 (.agg #[.int .i64 a, .int .i64 b, .int .i64 c, .int .i64 d]) (.int .i64 k)).run Try.prog w = .ok (.int .i64 (opd a b c d k)) w := by
  intro w
  obtain rfl | rfl | rfl | rfl : k = 0 ∨ k = 1 ∨ k = 2 ∨ k = 3 := by omega
  · kernel_rfl
  · kernel_rfl
  · kernel_rfl
  · kernel_rfl

abbrev boxOf (op a b c d : Int) : Obj := .cells #[.int .i64 op, .int .i64 a, .int .i64 b, .int .i64 c, .int .i64 d] 23

set_option maxHeartbeats 4000000 in
set_option maxRecDepth 100000 in
theorem one_neg (op a b c d : Int) (w : World) (hn : many op < 0) (lo : -9223372036854775808 ≤ op) (hi : op ≤ 9223372036854775807) :
    Calls Try.prog 12 #[.agg #[.int .i64 op, .int .i64 a, .int .i64 b, .int .i64 c, .int .i64 d]] w (OnePost op a b c d w) := by
  have hp := Lib.hid (fun w' => onePost_mk (w := w) (w' := w') (oneF_neg (a := a) (b := b) (c := c) (d := d) hn))
  go_enter Try.func12, Try.ntmps12
  go_wp2_with (go_at_call 34; refine (many_calls _ _ lo hi).mono ?_; rintro e w' ⟨rfl, rfl⟩)
  go_ret2
  exact hp.out _ ((Below.refl _ _).alloc (Nat.le_refl _) _)

theorem pow_small (t : Int) (h : 0 ≤ t ∧ t ≤ 24) : wrap64 (2 ^ t.toNat) = 2 ^ t.toNat := by
  obtain ⟨h0, h1⟩ := h
  obtain ⟨m, rfl⟩ := Int.eq_ofNat_of_zero_le h0
  have : m ≤ 24 := by omega
  rw [Int.toNat_natCast]
  have h2 : ((2 : Int) ^ m) ≤ 2 ^ 24 := by
    have := Nat.pow_le_pow_right (n := 2) (by omega) this
    have h3 : (((2 ^ m : Nat)) : Int) ≤ ((2 ^ 24 : Nat) : Int) := by omega
    simpa using h3
  have h3 : (0 : Int) < 2 ^ m := Int.pow_pos (by omega)
  exact IntWalk.wrap64_in _ ⟨by omega, by omega⟩

set_option maxHeartbeats 4000000 in
set_option maxRecDepth 100000 in
theorem one_some (op a b c d : Int) (n : Nat) (w : World) (hn : many op = n) (lo : -9223372036854775808 ≤ op) (hi : op ≤ 9223372036854775807)
    (ha : ∀ k, -9223372036854775808 ≤ opd a b c d k ∧ opd a b c d k ≤ 9223372036854775807) :
    Calls Try.prog 12 #[.agg #[.int .i64 op, .int .i64 a, .int .i64 b, .int .i64 c, .int .i64 d]] w (OnePost op a b c d w) := by
  have hneg : ¬ (many op < 0) := by omega
  have hop := op_class op n hn
  have ho : op % 4294967296 * 16777216 % 4294967296 = op * 16777216 := by omega
  have HO := Lib.hid ho
  clear hop ho
  have HA := Lib.hid ha
  clear ha
  have HF := Lib.hid (fun W => fields_calls op n W hn)
  have H := Lib.hid hn
  go_enter Try.func12, Try.ntmps12
  go_wp2_with (go_at_call 34; refine (many_calls _ _ lo hi).mono ?_; rintro e w' ⟨rfl, rfl⟩)
  clear hn
  go_loopw [5, 27] (fun v i wr => ∃ k : Nat, k ≤ 4 ∧ i = .int .i64 k ∧ v = .int .u32 (acc op n (opd a b c d) k) ∧ (∀ j, j < k → goodAt op n (opd a b c d) j) ∧ Below (w.heap.size + 1) (w.alloc (boxOf op a b c d)) wr) (fun _ i _ => 4 - (intOf i).toNat)
  case atStart => exact ⟨0, by omega, rfl, by rw [HO.out]; rfl, fun j hj => by omega, Below.refl _ _⟩
  case round =>
    obtain ⟨k, hk, rfl, rfl, hgood, hb⟩ := hrel
    have hbox : ∀ j, wr.cell? ⟨w.heap.size, j, none⟩ = (w.alloc (boxOf op a b c d)).cell? ⟨w.heap.size, j, none⟩ := fun j => hb.cell (p := ⟨w.heap.size, j, none⟩) (Nat.lt_succ_self _)
    have HB := Lib.hid hb
    have hG := Lib.hid hgood
    clear hb hgood
    by_cases hk4 : k < 4
    · have hix := index_opd a b c d k hk4
      by_cases hkn : k < n
      · obtain ⟨hs1, hs2, ht1, ht2⟩ := at_bounds op k hk4 n H.out hkn
        obtain ⟨hlo, hhi⟩ := HA.out k
        go_wp2_with (fail)
        refine (HF.out _).mono ?_
        rintro e w1 ⟨C, cap, rfl, rfl, hC⟩
        obtain ⟨hc0, hc1⟩ := hC k hkn
        clear hC
        have hp := Lib.hid (pow_small _ ⟨ht1, ht2⟩)
        by_cases hg : goodAt op n (opd a b c d) k
        · have hg' := hg
          unfold goodAt at hg'
          rw [if_pos hkn] at hg'
          obtain ⟨hg0, hg1⟩ := hg'
          have hg2 : opd a b c d k < wrap64 (2 ^ (fBits op k).toNat) := by rw [hp.out]; exact hg1
          have HG := Lib.hid hg
          have HR := Lib.hid (or_step op n (opd a b c d) k H.out hkn (fun j hj => by
            rcases Nat.lt_or_ge j k with h | h
            · have := hG.out j h
              unfold goodAt at this
              rw [if_pos (by omega)] at this
              exact this
            · obtain rfl : j = k := by omega
              exact ⟨hg0, hg1⟩))
          clear hg hg1
          go_wp2
          go_roundw
          case rel =>
            refine ⟨k + 1, by omega, by go_num, by rw [HR.out], ?_, ?_⟩
            · intro j hj
              rcases Nat.lt_or_ge j k with h | h
              · exact hG.out j h
              · obtain rfl : j = k := by omega
                exact HG.out
            · exact ((HB.out.alloc (by have := HB.out.size; simpa using this) _).alloc (by have := HB.out.size; simp at this ⊢; omega) _)
          case measure => simp [intOf]; omega
        · have HN := Lib.hid (fun w' => onePost_mk (w := w) (w' := w') (oneF_no H.out hk4 hg))
          have hg' := hg
          unfold goodAt at hg'
          rw [if_pos hkn, ← hp.out] at hg'
          clear hg
          by_cases hx : opd a b c d k < 0
          · clear hg'
            go_wp2
            go_ret2
            exact HN.out _ (below_more (below_more (below_box HB.out) (Nat.le_refl _) _) (Nat.le_refl _) _)
          · have hx2 : wrap64 (2 ^ (fBits op k).toNat) ≤ opd a b c d k := by omega
            clear hg'
            go_wp2
            go_ret2
            exact HN.out _ (below_more (below_more (below_box HB.out) (Nat.le_refl _) _) (Nat.le_refl _) _)
      · by_cases hx : opd a b c d k = 0
        · have hx0 : (opd a b c d k != 0) = false := by simp [hx]
          have HG : goodAt op n (opd a b c d) k := by unfold goodAt; rw [if_neg hkn]; exact hx
          have HG' := Lib.hid HG
          clear HG hx
          go_wp2
          go_roundw
          case rel =>
            refine ⟨k + 1, by omega, by go_num, by simp [acc, hkn], ?_, ?_⟩
            · intro j hj
              rcases Nat.lt_or_ge j k with h | h
              · exact hG.out j h
              · obtain rfl : j = k := by omega
                exact HG'.out
            · exact HB.out
          case measure => simp [intOf]; omega
        · have HN := Lib.hid (fun w' => onePost_mk (w := w) (w' := w') (oneF_no H.out hk4 (by unfold goodAt; rw [if_neg hkn]; exact hx)))
          have hx0 : (opd a b c d k != 0) = true := by simp [hx]
          clear hx
          go_wp2
          go_ret2
          exact HN.out _ (below_box HB.out)
    · obtain rfl : k = 4 := by omega
      have HY := Lib.hid (fun w' => onePost_mk (w := w) (w' := w') (oneF_yes H.out hG.out))
      go_wp2
      go_ret2
      exact HY.out _ (below_box HB.out)

/-- enc.One, of any instruction. -/
theorem one_calls (op a b c d : Int) (w : World) (lo : -9223372036854775808 ≤ op) (hi : op ≤ 9223372036854775807)
    (ha : -9223372036854775808 ≤ a ∧ a ≤ 9223372036854775807) (hb : -9223372036854775808 ≤ b ∧ b ≤ 9223372036854775807) (hc : -9223372036854775808 ≤ c ∧ c ≤ 9223372036854775807) (hd : -9223372036854775808 ≤ d ∧ d ≤ 9223372036854775807) :
    Calls Try.prog 12 #[.agg #[.int .i64 op, .int .i64 a, .int .i64 b, .int .i64 c, .int .i64 d]] w (OnePost op a b c d w) := by
  by_cases h : many op < 0
  · exact one_neg op a b c d w h lo hi
  · obtain ⟨n, hn⟩ := Int.eq_ofNat_of_zero_le (Int.not_lt.mp h)
    refine one_some op a b c d n w hn lo hi (fun k => ?_)
    unfold opd
    split
    · exact ha
    · split
      · exact hb
      · split
        · exact hc
        · exact hd

end Go.Proofs.Yteaaahcgkodcdaa.Ea
