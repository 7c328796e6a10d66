/- Decode, SameCode: contracts. -/
import Derived.Test.YteaaahcgkodcdaaSb
import Derived.Deep.DeepCutAuto
import Derived.Deep.QuietTactic
import Derived.BigQuiet
namespace Go.Proofs.Yteaaahcgkodcdaa.Sa
open Go.RowKit Go.Proofs.Yteaaahcgkodcdaa.Ea
set_option linter.unusedSimpArgs false
set_option linter.unusedVariables false

/-- a word's instruction -/
def backMI (v : Int) : MI :=
  if backOk v = true then ⟨v / 16777216, ext v (v / 16777216) (many (v / 16777216)).toNat 0, ext v (v / 16777216) (many (v / 16777216)).toNat 1, ext v (v / 16777216) (many (v / 16777216)).toNat 2, ext v (v / 16777216) (many (v / 16777216)).toNat 3⟩
  else ⟨0, 0, 0, 0, 0⟩

theorem back_agg (v : Int) : (if backOk v = true then backArgs v else zero5) = (backMI v).cells.toArray := by
  unfold backMI
  split <;> rfl

def decOk (l : List Int) : Bool := l.all backOk
def decOf (l : List Int) : List MI := l.map backMI

def DecPost (l : List Int) (w : World) (e : Ending) (w' : World) : Prop :=
  ∃ r, e = .returned (.tuple #[r, .bool (decOk l)]) ∧ (decOk l = true → Sl MI.cells 5 w' r (decOf l)) ∧ (decOk l = false → r = .slice none 0 0) ∧ Below w.heap.size w w'

theorem decPost_yes {l : List Int} {w w' : World} {r : Value} (h : decOk l = true) (hs : Sl MI.cells 5 w' r (decOf l)) (hb : Below w.heap.size w w') : DecPost l w (.returned (.tuple #[r, .bool true])) w' :=
  ⟨r, by rw [h], fun _ => hs, (fun h2 => by rw [h] at h2; cases h2), hb⟩
theorem decPost_no {l : List Int} {w w' : World} (h : decOk l = false) (hb : Below w.heap.size w w') : DecPost l w (.returned (.tuple #[.slice none 0 0, .bool false])) w' :=
  ⟨_, by rw [h], (fun h2 => by rw [h] at h2; cases h2), fun _ => rfl, hb⟩

theorem dec_length (l : List Int) : (decOf l).length = l.length := by simp [decOf]
theorem dec_snoc (l : List Int) (k : Nat) (h : k < l.length) : decOf (l.take (k + 1)) = decOf (l.take k) ++ [backMI l[k]] := by
  unfold decOf
  rw [List.take_succ_eq_append_getElem h, List.map_append]; rfl

set_option maxHeartbeats 2000000 in
set_option maxRecDepth 100000 in
theorem decode_calls (w : World) (v : Value) (l : List Int) (h : Sl u32c 1 w v l) (hwf : ∀ x ∈ l, 0 ≤ x ∧ x < 4294967296) (hn : l.length ≤ 1000) : Calls Try.prog 18 #[v] w (DecPost l w) := by
  obtain ⟨a, cap, rfl⟩ := h.form
  have HS := Lib.hid h
  have HW := Lib.hid hwf
  clear h hwf
  obtain ⟨i0, hi, hz0, hz1, hz2⟩ := info_parts info23
  go_enter Try.func18, Try.ntmps18
  go_wp2
  go_loopw [4, 11] (fun s i wr => ∃ k : Nat, k ≤ l.length ∧ i = .int .i64 k ∧ wr.ownsRow w.heap.size 23 5 s k (flat MI.cells (decOf (l.take k))) ∧ Hid (∀ j (hj : j < l.length), j < k → backOk l[j] = true) ∧ Below w.heap.size w wr) (fun _ i _ => l.length - (intOf i).toNat)
  case atStart => exact ⟨0, by omega, rfl, World.ownsRow_nil _ _ _ _, fun j hj h0 => by omega, Below.refl _ _⟩
  case round =>
    obtain ⟨k, hk, rfl, hown, hgood, hb⟩ := hrel
    have HO := Lib.hid hown
    have HB := Lib.hid hb
    clear hown hb
    by_cases hlt : k < l.length
    · obtain ⟨b, off, cp, hv, hcap, hblt, hcell⟩ := (HS.out.below HB.out).at (by intro e; rw [e] at hlt; simp at hlt)
      obtain ⟨rfl, rfl⟩ : a = some ⟨b, off, none⟩ ∧ cp = cap := by injection hv with h1 _ h2; exact ⟨h1, h2.symm⟩
      clear hv
      have hwfk := HW.out _ (List.getElem_mem hlt)
      have hc0 := hcell k hlt 0 _ rfl
      rw [Nat.mul_one, Nat.add_zero] at hc0
      obtain ⟨x, hx⟩ : ∃ x, l[k] = x := ⟨_, rfl⟩
      rw [hx] at hwfk hc0
      have HX := Lib.hid hx
      clear hx hcell
      obtain ⟨x0, x1⟩ := hwfk
      obtain ⟨t, ht⟩ : ∃ t, backOk x = t := ⟨_, rfl⟩
      obtain ⟨m, hm⟩ : ∃ m, backMI x = m := ⟨_, rfl⟩
      have HT := Lib.hid ht
      have HM := Lib.hid hm
      clear ht hm
      obtain ⟨o, p, q, r, s⟩ := m
      have HA : Hid ((if backOk x = true then backArgs x else zero5) = #[.int .i64 o, .int .i64 p, .int .i64 q, .int .i64 r, .int .i64 s]) := by
        show _ = _
        rw [back_agg, HM.out]; rfl
      go_wp2_with fail
      refine (back_calls x _ x0 x1).mono ?_
      rintro e w1 ⟨rfl, hb1⟩
      rw [HA.out, HT.out]
      have HO1 := Lib.hid (owns_below HO.out hb1)
      have HB1 := Lib.hid (below_join HB.out (Nat.le_refl _) hb1)
      clear hb1
      cases t with
      | true =>
        go_wp2_with (at_builtin; refine wpList_append_own _ rfl _ _ 39 rfl w.heap.size 23 i0 (.agg #[.int .i64 0, .int .i64 0, .int .i64 0, .int .i64 0, .int .i64 0]) 5 40 Try.underlying39 hi hz0 hz1 hz2 rfl (by decide) _ k _ rfl ((HO1.out.alloc _).alloc _) ⟨w1.heap.size + 1, 0, none⟩ 1 1 [.int .i64 o, .int .i64 p, .int .i64 q, .int .i64 r, .int .i64 s] rfl rfl ?c1 ?c2 ?c3 ?c4 ?c5 ?_)
        case c1 =>
          intro j u hu
          have hj := (List.getElem?_eq_some_iff.1 hu).1
          simp at hj
          obtain rfl | rfl | rfl | rfl | rfl : j = 0 ∨ j = 1 ∨ j = 2 ∨ j = 3 ∨ j = 4 := by omega
          all_goals
            simp at hu
            subst hu
            simp [go_sem, Addr.add]
        case c2 =>
          intro u hu
          simp at hu
          rcases hu with rfl | rfl | rfl | rfl | rfl <;> rfl
        case c3 => unfold maxLen; omega
        case c4 => omega
        case c5 => have := HB1.out.size; simp; omega
        intro v2 w2 hown2 hgrow _
        go_wp2
        go_roundw
        case rel =>
          refine ⟨k + 1, by omega, by go_num, ?_, ?_, ?_⟩
          · rw [dec_snoc l k hlt, flat_append, HX.out, HM.out]
            exact hown2
          · intro j hj hjk
            rcases Nat.lt_or_ge j k with h | h
            · exact hgood.out j hj h
            · obtain rfl : j = k := by omega
              rw [HX.out, HT.out]
          · exact (below_more (below_more HB1.out (Nat.le_refl _) _) (Nat.le_refl _) _).grown hgrow (by have := HB1.out.size; simp; omega) (fun g hg => ((HO1.out.alloc (.cells #[] 25)).lt g hg).1)
        case measure => simp [intOf]; omega
      | false =>
        go_wp2
        go_ret2
        have hno : decOk l = false := by
          unfold decOk
          rw [List.all_eq_false]
          exact ⟨l[k], List.getElem_mem hlt, by rw [HX.out, HT.out]; simp⟩
        exact decPost_no hno (below_more HB1.out (Nat.le_refl _) _)
    · obtain rfl : k = l.length := by omega
      have hyes : decOk l = true := by
        unfold decOk
        rw [List.all_eq_true]
        intro m hm
        obtain ⟨j, hj, rfl⟩ := List.getElem_of_mem hm
        exact hgood.out j hj hj
      have HY := Lib.hid hyes
      clear hyes
      have hsl : Sl MI.cells 5 wr u4 (decOf l) := by
        have := HO.out
        rw [List.take_length] at this
        exact Sl.ofOwns (l := decOf l) MI.cells_len (by rw [dec_length]; exact this)
      have HSL := Lib.hid hsl
      clear hsl
      go_wp2_with fail
      refine (clip_mi _ _ _ HSL.out).mono ?_
      rintro e w3 ⟨r, rfl, hr, rfl⟩
      have HR := Lib.hid hr
      clear hr
      go_wp2
      go_ret2
      exact decPost_yes HY.out HR.out HB.out

end Go.Proofs.Yteaaahcgkodcdaa.Sa
