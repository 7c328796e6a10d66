/- StackWays: Next, both ways. -/
import Derived.Test.YteaaahcgkodcdaaWa
import Derived.BigQuiet
import Derived.Deep.DeepCutAuto
import Derived.Deep.QuietTactic
namespace Go.Proofs.Yteaaahcgkodcdaa.Wa
open Go.RowKit Go.Proofs.Yteaaahcgkodcdaa.Sa
set_option linter.unusedSimpArgs false
set_option linter.unusedVariables false

structure SI where
  op : Int
  a : Int
  n : Int
def SI.cells (x : SI) : List Value := [.int .i64 x.op, .int .i64 x.a, .int .i64 x.n]
def intc (n : Int) : List Value := [.int .i64 n]

def nextAt (x : SI) (pc : Int) : List Int :=
  if x.op = 7 then [x.a] else if x.op = 8 then (if x.a = pc + 1 then [x.a] else [min x.a (pc + 1), max x.a (pc + 1)]) else if x.op = 10 then [] else [pc + 1]

def NextPost (l : List Int) (w : World) (e : Ending) (w' : World) : Prop := ∃ v, e = .returned v ∧ Below w.heap.size w w' ∧ Sl intc 1 w' v l

/-- outside the code -/
theorem next_out (w : World) (a : Option Addr) (n c : Nat) (pc : Int) (h : pc < 0 ∨ (n : Int) ≤ pc) : Calls Try.prog 26 #[.slice a n c, .int .i64 pc] w (NextPost [] w) := by
  by_cases h0 : pc < 0
  · go_enter Try.func26, Try.ntmps26
    go_wp2
    go_ret
    exact ⟨_, rfl, Below.refl _ _, Sl.nil _ _ _⟩
  · have h1 : (n : Int) ≤ pc := by omega
    go_enter Try.func26, Try.ntmps26
    go_wp2
    go_ret
    exact ⟨_, rfl, Below.refl _ _, Sl.nil _ _ _⟩
theorem sl_one (w : World) (x : Int) : Sl intc 1 (w.alloc (.cells #[.int .i64 x] 3)) (.slice (some ⟨w.heap.size, 0, none⟩) 1 1) [x] := by
  refine .inr ⟨w.heap.size, 0, 1, rfl, Nat.le_refl _, by simp, fun i hi j u hu => ?_⟩
  obtain rfl : i = 0 := by simp at hi; omega
  have hj : j = 0 := by
    rcases j with _ | j
    · rfl
    · simp [intc] at hu
  subst hj
  rw [World.cell?_alloc_at _ _ _ _ rfl]
  simpa [intc] using hu

theorem sl_two (w : World) (x y : Int) : Sl intc 1 (w.alloc (.cells #[.int .i64 x, .int .i64 y] 3)) (.slice (some ⟨w.heap.size, 0, none⟩) 2 2) [x, y] := by
  refine .inr ⟨w.heap.size, 0, 2, rfl, Nat.le_refl _, by simp, fun i hi j u hu => ?_⟩
  have hj : j = 0 := by
    rcases j with _ | j
    · rfl
    · simp [intc] at hu
  subst hj
  rw [World.cell?_alloc_at _ _ _ _ rfl]
  have hi' : i = 0 ∨ i = 1 := by simp at hi; omega
  rcases hi' with rfl | rfl <;> simpa [intc] using hu

set_option maxHeartbeats 1000000 in
theorem next_in (w : World) (p off n cap k : Nat) (op x m : Int) (hk : k < n) (hn : n ≤ 1000) (c0 : w.cell? ⟨p, off + k * 3, none⟩ = some (.int .i64 op)) (c1 : w.cell? ⟨p, off + k * 3 + 1, none⟩ = some (.int .i64 x)) :
    Calls Try.prog 26 #[.slice (some ⟨p, off, none⟩) n cap, .int .i64 k] w (NextPost (nextAt ⟨op, x, m⟩ k) w) := by
  have i0 : (0 : Int) ≤ (k : Int) := by omega
  have i1 : (k : Int) < (n : Int) := by omega
  have i2 : (k : Int) ≤ 1000 := by omega
  by_cases h7 : op = 7
  · subst h7
    go_enter Try.func26, Try.ntmps26
    go_wp2
    go_ret
    exact ⟨_, rfl, (Below.refl _ _).alloc (Nat.le_refl _) _, by simpa [nextAt] using sl_one w x⟩
  · by_cases h8 : op = 8
    · subst h8
      by_cases hx : x = (k : Int) + 1
      · go_enter Try.func26, Try.ntmps26
        go_wp2
        go_ret
        exact ⟨_, rfl, (Below.refl _ _).alloc (Nat.le_refl _) _, by simpa [nextAt, hx] using sl_one w x⟩
      · by_cases hlt : x < (k : Int) + 1
        · go_enter Try.func26, Try.ntmps26
          go_wp2
          go_ret
          exact ⟨_, rfl, (Below.refl _ _).alloc (Nat.le_refl _) _, by
            have e : nextAt ⟨8, x, m⟩ k = [x, (k : Int) + 1] := by simp [nextAt, hx]; omega
            rw [e]; exact sl_two w x _⟩
        · go_enter Try.func26, Try.ntmps26
          go_wp2
          go_ret
          exact ⟨_, rfl, (Below.refl _ _).alloc (Nat.le_refl _) _, by
            have e : nextAt ⟨8, x, m⟩ k = [(k : Int) + 1, x] := by simp [nextAt, hx]; omega
            rw [e]; exact sl_two w _ x⟩
    · by_cases h10 : op = 10
      · subst h10
        go_enter Try.func26, Try.ntmps26
        go_wp2
        go_ret
        exact ⟨_, rfl, Below.refl _ _, by simpa [nextAt] using Sl.nil _ _ _⟩
      · go_enter Try.func26, Try.ntmps26
        go_wp2
        go_ret
        exact ⟨_, rfl, (Below.refl _ _).alloc (Nat.le_refl _) _, by simpa [nextAt, h7, h8, h10] using sl_one w ((k : Int) + 1)⟩

/-! the document's -/
theorem next7_out (w : World) (a : Option Addr) (n c : Nat) (pc : Int) (h : pc < 0 ∨ (n : Int) ≤ pc) : Calls Try.prog 27 #[.slice a n c, .int .i64 pc] w (NextPost [] w) := by
  by_cases h0 : pc < 0
  · go_enter Try.func27, Try.ntmps27
    go_wp2
    go_ret
    exact ⟨_, rfl, Below.refl _ _, Sl.nil _ _ _⟩
  · have h1 : (n : Int) ≤ pc := by omega
    go_enter Try.func27, Try.ntmps27
    go_wp2
    go_ret
    exact ⟨_, rfl, Below.refl _ _, Sl.nil _ _ _⟩

theorem sl_one' (w : World) (o : Obj) (x : Int) : Sl intc 1 ((w.alloc o).alloc (.cells #[.int .i64 x] 3)) (.slice (some ⟨w.heap.size + 1, 0, none⟩) 1 1) [x] := by
  have e : (w.alloc o).heap.size = w.heap.size + 1 := by simp
  rw [← e]
  exact sl_one _ x
theorem sl_two' (w : World) (o : Obj) (x y : Int) : Sl intc 1 ((w.alloc o).alloc (.cells #[.int .i64 x, .int .i64 y] 3)) (.slice (some ⟨w.heap.size + 1, 0, none⟩) 2 2) [x, y] := by
  have e : (w.alloc o).heap.size = w.heap.size + 1 := by simp
  rw [← e]
  exact sl_two _ x y
theorem bel2 (w : World) (o o' : Obj) : Below w.heap.size w ((w.alloc o).alloc o') := ((Below.refl _ _).alloc (Nat.le_refl _) o).alloc (by simp) o'

set_option maxHeartbeats 1000000 in
theorem next7_in (w : World) (p off n cap k : Nat) (op x m : Int) (hk : k < n) (hn : n ≤ 1000) (c0 : w.cell? ⟨p, off + k * 3, none⟩ = some (.int .i64 op)) (c1 : w.cell? ⟨p, off + k * 3 + 1, none⟩ = some (.int .i64 x)) (c2 : w.cell? ⟨p, off + k * 3 + 2, none⟩ = some (.int .i64 m)) :
    Calls Try.prog 27 #[.slice (some ⟨p, off, none⟩) n cap, .int .i64 k] w (NextPost (nextAt ⟨op, x, m⟩ k) w) := by
  have i0 : (0 : Int) ≤ (k : Int) := by omega
  have i1 : (k : Int) < (n : Int) := by omega
  have i2 : (k : Int) ≤ 1000 := by omega
  by_cases h7 : op = 7
  · subst h7
    go_enter Try.func27, Try.ntmps27
    go_wp2
    go_ret
    exact ⟨_, rfl, bel2 _ _ _, by simpa [nextAt] using sl_one' w _ x⟩
  · by_cases h10 : op = 10
    · subst h10
      go_enter Try.func27, Try.ntmps27
      go_wp2
      go_ret
      exact ⟨_, rfl, (Below.refl _ _).alloc (Nat.le_refl _) _, by simpa [nextAt] using Sl.nil _ _ _⟩
    · by_cases h8 : op = 8
      · subst h8
        by_cases hlt : x < (k : Int) + 1
        · go_enter Try.func27, Try.ntmps27
          go_wp2
          go_ret
          exact ⟨_, rfl, bel2 _ _ _, by
            have e : nextAt ⟨8, x, m⟩ k = [x, (k : Int) + 1] := by
              have hx : ¬ x = (k : Int) + 1 := by omega
              simp [nextAt, hx]; omega
            rw [e]; exact sl_two' w _ x _⟩
        · by_cases hgt : (k : Int) + 1 < x
          · go_enter Try.func27, Try.ntmps27
            go_wp2
            go_ret
            exact ⟨_, rfl, bel2 _ _ _, by
              have e : nextAt ⟨8, x, m⟩ k = [(k : Int) + 1, x] := by
                have hx : ¬ x = (k : Int) + 1 := by omega
                simp [nextAt, hx]; omega
              rw [e]; exact sl_two' w _ _ x⟩
          · have hx : x = (k : Int) + 1 := by omega
            subst hx
            clear hlt hgt
            go_enter Try.func27, Try.ntmps27
            go_wp2
            go_ret
            exact ⟨_, rfl, bel2 _ _ _, by
              have e : nextAt ⟨8, (k : Int) + 1, m⟩ k = [(k : Int) + 1] := by simp [nextAt]
              rw [e]; exact sl_one' w _ _⟩
      · go_enter Try.func27, Try.ntmps27
        go_wp2
        go_ret
        exact ⟨_, rfl, bel2 _ _ _, by
          have e : nextAt ⟨op, x, m⟩ k = [(k : Int) + 1] := by simp [nextAt, h7, h8, h10]
          rw [e]; exact sl_one' w _ _⟩

/-! ### SameInts -/
set_option maxHeartbeats 2000000 in
set_option maxRecDepth 100000 in
theorem same_ints (w : World) (va vb : Value) (l : List Int) (ha : Sl intc 1 w va l) (hb : Sl intc 1 w vb l) (hl : l.length ≤ 1000) : Calls Try.prog 25 #[va, vb] w fun e w' => e = .returned (.bool true) ∧ Below w.heap.size w w' := by
  obtain ⟨aa, capa, rfl⟩ := ha.form
  obtain ⟨ab, capb, rfl⟩ := hb.form
  have HA := Lib.hid ha
  have HB := Lib.hid hb
  clear ha hb
  go_enter Try.func25, Try.ntmps25
  go_wp2
  go_loopw [5] (fun i wr => ∃ k : Nat, k ≤ l.length ∧ i = .int .i64 k ∧ Below w.heap.size w wr) (fun i _ => l.length - (intOf i).toNat)
  case atStart => exact ⟨0, by omega, rfl, Below.refl _ _⟩
  case round =>
    obtain ⟨k, hk, rfl, hbl⟩ := hrel
    have HBL := Lib.hid hbl
    clear hbl
    by_cases hlt : k < l.length
    · obtain ⟨p, offa, cpa, hva, hcapa, hblta, hcella⟩ := (HA.out.below HBL.out).at (by intro e; rw [e] at hlt; simp at hlt)
      obtain ⟨rfl, rfl⟩ : aa = some ⟨p, offa, none⟩ ∧ cpa = capa := by injection hva with h1 _ h2; exact ⟨h1, h2.symm⟩
      obtain ⟨q, offb, cpb, hvb, hcapb, hbltb, hcellb⟩ := (HB.out.below HBL.out).at (by intro e; rw [e] at hlt; simp at hlt)
      obtain ⟨rfl, rfl⟩ : ab = some ⟨q, offb, none⟩ ∧ cpb = capb := by injection hvb with h1 _ h2; exact ⟨h1, h2.symm⟩
      clear hva hvb
      have ca := hcella k hlt 0 _ rfl
      have cb := hcellb k hlt 0 _ rfl
      rw [Nat.mul_one, Nat.add_zero] at ca cb
      obtain ⟨m, hm⟩ : ∃ m, l[k] = m := ⟨_, rfl⟩
      rw [hm] at ca cb
      clear hcella hcellb hm
      have i0 : (0 : Int) ≤ (k : Int) := by omega
      have i1 : (k : Int) < (l.length : Int) := by omega
      go_wp2_with fail
      go_quiet (fail)
      go_wp2
      go_roundw
      case rel => exact ⟨k + 1, by omega, by go_num, ⟨HBL.out.os, HBL.out.tape, HBL.out.output, HBL.out.size, HBL.out.block⟩⟩
      case measure => simp [intOf]; omega
    · obtain rfl : k = l.length := by omega
      go_wp2
      go_ret
      exact ⟨rfl, HBL.out⟩

end Go.Proofs.Yteaaahcgkodcdaa.Wa
