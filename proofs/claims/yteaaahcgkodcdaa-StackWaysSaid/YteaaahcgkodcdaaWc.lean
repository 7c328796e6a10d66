/- StackWays: the law's walk. -/
import Derived.Test.YteaaahcgkodcdaaWb
import Derived.Test.YteaaahcgkodcdaaYa
import Derived.Deep.RegionHeld3
namespace Go.Proofs.Yteaaahcgkodcdaa.Wa
open Go.RowKit Go.Proofs.Yteaaahcgkodcdaa.Sa
set_option linter.unusedSimpArgs false
set_option linter.unusedVariables false

/-- in a world that goes on from wr -/
def Kept (wr w' : World) : Prop := Below wr.heap.size wr w'
theorem Kept.next {wr w1 w2 : World} (h : Kept wr w1) (hb : Below w1.heap.size w1 w2) : Kept wr w2 := Below.trans h (hb.mono h.size)
theorem keep3 {wr w1 w2 : World} {p q r : Addr} {a b c : Value} (h : Kept wr w1) (hb : Below w1.heap.size w1 w2) (h0 : wr.cell? p = some a) (h1 : wr.cell? q = some b) (h2 : wr.cell? r = some c) :
    Kept wr w2 ∧ w2.cell? p = some a ∧ w2.cell? q = some b ∧ w2.cell? r = some c := by
  have hk := h.next hb
  have key : ∀ {p : Addr} {a : Value}, wr.cell? p = some a → w2.cell? p = some a := fun {p a} h => by
    have hlt := World.block_lt_of_cell? wr p h
    rw [Below.cell hk hlt]
    exact h
  exact ⟨hk, key h0, key h1, key h2⟩

theorem keepS {wr w1 w2 : World} {p q r : Addr} {a b c : Value} (hb : Below w1.heap.size w1 w2) (h : Kept wr w1 ∧ w1.cell? p = some a ∧ w1.cell? q = some b ∧ w1.cell? r = some c) :
    Kept wr w2 ∧ w2.cell? p = some a ∧ w2.cell? q = some b ∧ w2.cell? r = some c := by
  have key : ∀ {p : Addr} {a : Value}, w1.cell? p = some a → w2.cell? p = some a := fun {p a} h => by
    rw [hb.cell (World.block_lt_of_cell? w1 p h)]
    exact h
  exact ⟨h.1.next hb, key h.2.1, key h.2.2.1, key h.2.2.2⟩

theorem belS {w wr w2 : World} (hB : Below w.heap.size w wr) (hk : Kept wr w2) : Below w.heap.size w w2 := hB.trans (Below.mono hk hB.size)
theorem belU {w wr w' : World} {p q r : Addr} {a b c : Value} (hB : Below w.heap.size w wr) (h : Kept wr w' ∧ w'.cell? p = some a ∧ w'.cell? q = some b ∧ w'.cell? r = some c) : Below w.heap.size w w' := belS hB h.1

theorem pops_b (op x n : Int) (w : World) : Calls Try.prog 21 #[.agg #[.int .i64 op, .int .i64 x, .int .i64 n]] w fun e w' => e = .returned (.int .i64 (pops op x n)) ∧ Below w.heap.size w w' :=
  (pops_calls op x n w).mono fun e w' ⟨h1, h2⟩ => ⟨h1, by rw [h2]; exact (Below.refl _ _).alloc (Nat.le_refl _) _⟩
theorem pops7_b (op x n : Int) (w : World) : Calls Try.prog 22 #[.agg #[.int .i64 op, .int .i64 x, .int .i64 n]] w fun e w' => e = .returned (.int .i64 (pops op x n)) ∧ Below w.heap.size w w' :=
  (pops7_calls op x n w).mono fun e w' ⟨h1, h2⟩ => ⟨h1, by rw [h2]; exact (Below.refl _ _).alloc (Nat.le_refl _) _⟩
theorem pushes_b (op x n : Int) (w : World) : Calls Try.prog 23 #[.agg #[.int .i64 op, .int .i64 x, .int .i64 n]] w fun e w' => e = .returned (.int .i64 (pushes op)) ∧ Below w.heap.size w w' :=
  (pushes_calls op x n w).mono fun e w' ⟨h1, h2⟩ => ⟨h1, by rw [h2]; exact (Below.refl _ _).alloc (Nat.le_refl _) _⟩
theorem pushes7_b (op x n : Int) (w : World) : Calls Try.prog 24 #[.agg #[.int .i64 op, .int .i64 x, .int .i64 n]] w fun e w' => e = .returned (.int .i64 (pushes op)) ∧ Below w.heap.size w w' :=
  (pushes7_calls op x n w).mono fun e w' ⟨h1, h2⟩ => ⟨h1, by rw [h2]; exact (Below.refl _ _).alloc (Nat.le_refl _) _⟩

/-- Next, whatever the place -/
theorem next_any (w : World) (v : Value) (l : List SI) (hl : Sl SI.cells 3 w v l) (hn : l.length ≤ 1000) (pc : Int) : ∃ r : List Int, r.length ≤ 1000 ∧ (∀ w', Kept w w' → Calls Try.prog 26 #[v, .int .i64 pc] w' (NextPost r w')) ∧ ∀ w', Kept w w' → Calls Try.prog 27 #[v, .int .i64 pc] w' (NextPost r w') := by
  obtain ⟨a, cap, rfl⟩ := hl.form
  by_cases hout : pc < 0 ∨ (l.length : Int) ≤ pc
  · exact ⟨[], by simp, fun w' _ => next_out w' a _ cap pc hout, fun w' _ => next7_out w' a _ cap pc hout⟩
  · obtain ⟨k, rfl⟩ : ∃ k : Nat, pc = k := ⟨pc.toNat, by omega⟩
    have hk : k < l.length := by omega
    obtain ⟨b, off, cp, hv, hcap, hb, hc⟩ := hl.at (by intro e; rw [e] at hk; simp at hk)
    obtain ⟨rfl, rfl⟩ : a = some ⟨b, off, none⟩ ∧ cp = cap := by injection hv with h1 _ h2; exact ⟨h1, h2.symm⟩
    obtain ⟨el, hx⟩ : ∃ el, l[k] = el := ⟨_, rfl⟩
    obtain ⟨op, x, m⟩ := el
    have c0 : w.cell? ⟨b, off + k * 3, none⟩ = some (.int .i64 op) := hc k hk 0 _ (by rw [hx]; rfl)
    have c1 : w.cell? ⟨b, off + k * 3 + 1, none⟩ = some (.int .i64 x) := hc k hk 1 _ (by rw [hx]; rfl)
    have c2 : w.cell? ⟨b, off + k * 3 + 2, none⟩ = some (.int .i64 m) := hc k hk 2 _ (by rw [hx]; rfl)
    have key : ∀ {w' : World}, Kept w w' → ∀ {p : Addr} {a : Value}, w.cell? p = some a → w'.cell? p = some a := fun {w'} hb' {p a} h => by
      rw [Below.cell hb' (World.block_lt_of_cell? w p h)]
      exact h
    refine ⟨nextAt ⟨op, x, m⟩ k, ?_, fun w' hb' => next_in w' b off _ cp k op x m hk hn (key hb' c0) (key hb' c1), fun w' hb' => next7_in w' b off _ cp k op x m hk hn (key hb' c0) (key hb' c1) (key hb' c2)⟩
    unfold nextAt
    split
    · simp
    · split
      · split <;> simp
      · split <;> simp

open Go.Proofs.Yteaaahcgkodcdaa.Ew in
set_option maxHeartbeats 8000000 in
set_option maxRecDepth 100000 in
theorem ways_walk (w : World) (vl : Value) (l : List SI) (at' : Int) (hl : Sl SI.cells 3 w vl l) : Calls Try.prog 7 #[vl, .int .i64 at'] w fun e w' => e = .returned (.bool true) ∧ Below w.heap.size w w' := by
  have HSL := Lib.hid hl
  obtain ⟨al, capl, rfl⟩ := hl.form
  clear hl
  by_cases h2 : (200 : Int) < (l.length : Int)
  · go_enter Try.func7, Try.ntmps7
    go_wp2_with fail
    refine (awake_calls _).mono ?_
    rintro e w1 ⟨rfl, hb1⟩
    have HB1 := Lib.hid hb1
    clear hb1
    go_wp2
    go_ret
    exact ⟨rfl, HB1.out⟩
  · have hll : l.length ≤ 200 := by omega
    go_enter Try.func7, Try.ntmps7
    go_wp2_with fail
    go_loopw [5] (fun i wr => ∃ k : Nat, k ≤ l.length ∧ i = .int .i64 k ∧ Below w.heap.size w wr) (fun i _ => l.length - (intOf i).toNat)
    case atStart => exact ⟨0, by omega, rfl, Below.refl _ _⟩
    case round =>
      obtain ⟨k, hk, rfl, hb⟩ := hrel
      have HB := Lib.hid hb
      clear hb
      by_cases hlt : k < l.length
      · obtain ⟨b, off, cp, hv, hcap, hblt, hcell⟩ := (HSL.out.below HB.out).at (by intro e; rw [e] at hlt; simp at hlt)
        obtain ⟨rfl, rfl⟩ : al = some ⟨b, off, none⟩ ∧ cp = capl := by injection hv with h1 _ h2; exact ⟨h1, h2.symm⟩
        clear hv
        obtain ⟨el, hx⟩ : ∃ el, l[k] = el := ⟨_, rfl⟩
        have hcell2 := hcell k hlt
        rw [hx] at hcell2
        clear hcell hx
        obtain ⟨op, x, m⟩ := el
        have c0 : wr.cell? ⟨b, off + k * 3, none⟩ = some (.int .i64 op) := hcell2 0 _ rfl
        have c1 : wr.cell? ⟨b, off + k * 3 + 1, none⟩ = some (.int .i64 x) := hcell2 1 _ rfl
        have c2 : wr.cell? ⟨b, off + k * 3 + 2, none⟩ = some (.int .i64 m) := hcell2 2 _ rfl
        clear hcell2
        have i0 : (0 : Int) ≤ (k : Int) := by omega
        have i1 : (k : Int) < (l.length : Int) := by omega
        obtain ⟨r, hr, h26, h27⟩ := next_any wr _ l (HSL.out.below HB.out) (by omega) k
        have kr : Kept wr wr := Below.refl _ _
        have g26 : ∀ w', (Kept wr w' ∧ w'.cell? ⟨b, off + k * 3, none⟩ = some (.int .i64 op) ∧ w'.cell? ⟨b, off + k * 3 + 1, none⟩ = some (.int .i64 x) ∧ w'.cell? ⟨b, off + k * 3 + 2, none⟩ = some (.int .i64 m)) → _ := fun w' hw => h26 w' hw.1
        have g27 : ∀ w', (Kept wr w' ∧ w'.cell? ⟨b, off + k * 3, none⟩ = some (.int .i64 op) ∧ w'.cell? ⟨b, off + k * 3 + 1, none⟩ = some (.int .i64 x) ∧ w'.cell? ⟨b, off + k * 3 + 2, none⟩ = some (.int .i64 m)) → _ := fun w' hw => h27 w' hw.1
        clear h26 h27
        go_wp2_with fail
        go_region_held3 (fun w' => Kept wr w' ∧ w'.cell? ⟨b, off + k * 3, none⟩ = some (.int .i64 op) ∧ w'.cell? ⟨b, off + k * 3 + 1, none⟩ = some (.int .i64 x) ∧ w'.cell? ⟨b, off + k * 3 + 2, none⟩ = some (.int .i64 m))
          (first | exact keep3 kr ((Below.refl _ _).drew) c0 c1 c2 | exact keepS (by assumption) (by assumption))
          (first
            | (go_at_call 21; refine (pops_b op x m _).mono ?_; rintro e w' ⟨rfl, hb⟩)
            | (go_at_call 22; refine (pops7_b op x m _).mono ?_; rintro e w' ⟨rfl, hb⟩)
            | (go_at_call 23; refine (pushes_b op x m _).mono ?_; rintro e w' ⟨rfl, hb⟩)
            | (go_at_call 24; refine (pushes7_b op x m _).mono ?_; rintro e w' ⟨rfl, hb⟩)
            | (go_at_call 26; refine (g26 _ (by assumption)).mono ?_; rintro e w' ⟨v1, rfl, hb, hs1⟩)
            | (go_at_call 27; refine (g27 _ (by assumption)).mono ?_; rintro e w' ⟨v2, rfl, hb, hs2⟩)
            | (go_at_call 25; refine (same_ints _ _ _ r (Sl.below (by assumption) (by assumption)) (by assumption) hr).mono ?_; rintro e w' ⟨rfl, hb⟩))
        go_wp2
        go_roundw
        case rel =>
          exact ⟨k + 1, by omega, by go_num, belU HB.out (by assumption)⟩
        case measure => simp [intOf]; omega
      · obtain rfl : k = l.length := by omega
        obtain ⟨r, hr, h26, h27⟩ := next_any wr _ l (HSL.out.below HB.out) (by omega) at'
        go_wp2_with fail
        refine (h26 _ (Below.refl _ _)).mono ?_
        rintro e w1 ⟨v1, rfl, hb1, hs1⟩
        have hk1 : Kept wr w1 := hb1
        go_wp2_with fail
        refine (h27 _ hk1).mono ?_
        rintro e w2 ⟨v2, rfl, hb2, hs2⟩
        have hk2 : Kept wr w2 := hk1.next hb2
        go_wp2_with fail
        refine (same_ints _ _ _ r (Sl.below hs1 hb2) hs2 hr).mono ?_
        rintro e w3 ⟨rfl, hb3⟩
        have hk3 : Kept wr w3 := hk2.next hb3
        go_wp2_with fail
        refine (awake_calls _).mono ?_
        rintro e w4 ⟨rfl, hb4⟩
        have hk4 := Lib.hid (belS HB.out (hk3.next hb4))
        clear hb1 hb2 hb3 hb4 hk1 hk2 hk3 hs1 hs2
        go_wp2
        go_ret
        exact ⟨rfl, hk4.out⟩

end Go.Proofs.Yteaaahcgkodcdaa.Wa
