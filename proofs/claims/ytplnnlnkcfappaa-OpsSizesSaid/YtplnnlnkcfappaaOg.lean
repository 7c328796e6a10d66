/- OpsSizes: Grow, Concat. -/
import Derived.Test.YtplnnlnkcfappaaOf
import Derived.Shelf.Spec.SlicesGrow
namespace Go.Proofs
open Go.Shelf
shelf_lay_g Lays8.n4 Nm8 4 at Try 67 as Try.growV
end Go.Proofs
namespace Go.Proofs.Ytplnnlnkcfappaa.Oa
open Go.RowKit
set_option linter.unusedSimpArgs false
set_option linter.unusedVariables false

theorem grow_calls (w : World) (n : Nat) (hn : n ≤ 4000) : Calls Try.prog 67 #[.slice none 0 0, .int .i64 n] w fun e w' => ∃ v, e = .returned v ∧ w'.ownsRow w.heap.size 25 5 v 0 [] ∧ Below w.heap.size w w' := by
  obtain ⟨i0, hi, hz0, hz1, hz2⟩ := info_parts info25
  by_cases h0 : n = 0
  · subst h0
    refine (Any8.slices_Grow_room Try.growV none 0 0 0 w (by omega) (by omega) (by omega) (by omega)).mono ?_
    rintro e w' ⟨rfl, rfl⟩
    exact ⟨_, rfl, World.ownsRow_nil _ _ _ _, Below.refl _ _⟩
  · refine (Any8.slices_Grow_grow Try.growV i0 _ hi hz0 (by rw [hz1]; omega) none 0 0 n [] w (by omega) (by omega) (by rw [hz2]; omega) (by omega) (by simp) (fun _ => rfl) (fun a h => by cases h)).mono ?_
    rintro e w' ⟨rfl, rfl⟩
    have hge := grownCap_ge w (0 + n) 0 (Try.growV_ren.t 25)
    have hle := grownCap_le_maxLen w (0 + n) 0 (Try.growV_ren.t 25) (by unfold maxLen; omega)
    refine ⟨_, rfl, ⟨rfl, .inr ⟨_, _, _, rfl, by simp, heap_alloc_new _ _, by omega, hle, ?_, by simp⟩⟩, (Below.refl _ _).drew.alloc (Nat.le_refl _) _⟩
    simp only [Array.size_append, size_zeroCells]
    rw [show (cv 0 ⟨#[]⟩ nilL).cells.size = 5 from rfl]
    generalize grownCap w (0 + n) 0 (Try.growV_ren.t 25) = c at *
    simp
    omega

theorem Sl.src {w : World} {p : Addr} {cap : Nat} {l : List Unit} (h : Sl nc 5 w (.slice (some p) l.length cap) l) : ∀ j u, (flat nc l)[j]? = some u → w.cell? (p.add j) = some u := by
  intro j u hj
  rcases h with ⟨_, _, _, rfl⟩ | ⟨b, off, c, hv, hcap, hlt, hc⟩
  · simp [flat] at hj
  · injection hv with h1
    injection h1 with h1
    subst h1
    have hjl := (List.getElem?_eq_some_iff.1 hj).1
    rw [flat_length nc 5 nc_len] at hjl
    have h5 : j / 5 < l.length := by omega
    have h6 := flat_get nc 5 nc_len l (j / 5) h5 (j % 5) (by omega)
    rw [show j / 5 * 5 + j % 5 = j by omega, hj] at h6
    have := hc (j / 5) h5 (j % 5) u h6.symm
    rw [show off + (j / 5 * 5 + j % 5) = off + j by omega] at this
    by_cases hj0 : j = 0
    · subst hj0; simpa [Addr.add] using this
    · simpa [Addr.add, hj0] using this

theorem nc_one (l : List Unit) : ∀ u ∈ flat nc l, u.oneCell' = true := by
  induction l with
  | nil => intro u hu; simp [flat] at hu
  | cons x l ih =>
    intro u hu
    simp only [flat, List.mem_append] at hu
    rcases hu with hu | hu
    · simp [nc] at hu
      rcases hu with rfl | rfl | rfl | rfl | rfl <;> rfl
    · exact ih u hu

set_option maxHeartbeats 4000000 in
set_option maxRecDepth 100000 in
theorem concat_calls (w : World) (b : Nat) (p1 p2 : Addr) (c1 c2 : Nat) (l1 l2 : List Unit) (h1 : Sl nc 5 w (.slice (some p1) l1.length c1) l1) (h2 : Sl nc 5 w (.slice (some p2) l2.length c2) l2) (hl1 : l1.length ≤ 1200) (hl2 : l2.length ≤ 1200) (hb : b < w.heap.size)
    (hc0 : w.cell? ⟨b, 0, none⟩ = some (.slice (some p1) l1.length c1)) (hc1 : w.cell? ⟨b, 1, none⟩ = some (.slice (some p2) l2.length c2)) :
    Calls Try.prog 46 #[.slice (some ⟨b, 0, none⟩) 2 2] w fun e w' => ∃ r, e = .returned r ∧ Sl nc 5 w' r (l1 ++ l2) ∧ Below w.heap.size w w' := by
  have H1 := Lib.hid h1
  have H2 := Lib.hid h2
  have C0 := Lib.hid hc0
  have C1 := Lib.hid hc1
  clear h1 h2
  obtain ⟨i0, hi, hz0, hz1, hz2⟩ := info_parts info25
  go_enter Try.func46, Try.ntmps46
  go_wp2
  go_loopw [3, 11] (fun n i wr => wr = w ∧ ∃ k : Nat, i = .int .i64 k ∧ ((k = 0 ∧ n = .int .i64 0) ∨ (k = 1 ∧ n = .int .i64 l1.length) ∨ (k = 2 ∧ n = .int .i64 ((l1.length + l2.length : Nat) : Int)))) (fun _ i _ => 2 - (intOf i).toNat)
  case atStart => exact ⟨rfl, 0, rfl, .inl ⟨rfl, rfl⟩⟩
  case round =>
    obtain ⟨hw, k, rfl, hk⟩ := hrel
    have hw' := hw.symm
    subst hw'
    clear hw
    obtain ⟨rfl, rfl⟩ | ⟨rfl, rfl⟩ | ⟨rfl, rfl⟩ := hk
    · go_wp2
      go_roundw
      case rel => exact ⟨by simp, 1, by go_num, .inr (.inl ⟨rfl, by go_num⟩)⟩
      case measure => simp [intOf]
    · go_wp2
      go_roundw
      case rel => exact ⟨by simp, 2, by go_num, .inr (.inr ⟨rfl, by go_num⟩)⟩
      case measure => simp [intOf]
    · clear hc0 hc1
      go_wp2_with fail
      refine (grow_calls _ _ (by omega)).mono ?_
      rintro e w1 ⟨v0, rfl, hown, hb1⟩
      have HO := Lib.hid hown
      have HB := Lib.hid hb1
      clear hown hb1
      go_wp2
      go_loopw [6, 27] (fun s i wr => ∃ k : Nat, i = .int .i64 k ∧ Below w.heap.size w wr ∧ ((k = 0 ∧ wr.ownsRow w.heap.size 25 5 s 0 []) ∨ (k = 1 ∧ wr.ownsRow w.heap.size 25 5 s l1.length (flat nc l1)) ∨ (k = 2 ∧ wr.ownsRow w.heap.size 25 5 s (l1.length + l2.length) (flat nc l1 ++ flat nc l2)))) (fun _ i _ => 2 - (intOf i).toNat)
      case atStart => exact ⟨0, rfl, HB.out, .inl ⟨rfl, HO.out⟩⟩
      case round =>
        obtain ⟨k, rfl, hb2, ⟨rfl, ho⟩ | ⟨rfl, ho⟩ | ⟨rfl, ho⟩⟩ := hrel
        · have HB2 := Lib.hid hb2
          have HO2 := Lib.hid ho
          have d0 : wr.cell? ⟨b, 0, none⟩ = some (.slice (some p1) l1.length c1) := (hb2.cell hb).trans C0.out
          clear hb2 ho
          have HS := Lib.hid ((H1.out.below HB2.out).src)
          go_wp2_with (at_builtin; refine wpList_append_own _ rfl _ _ 23 rfl w.heap.size 25 i0 (cv 0 ⟨#[]⟩ nilL) 5 72 Try.underlying23 hi hz0 hz1 hz2 rfl (by decide) _ 0 _ rfl HO2.out p1 l1.length c1 (flat nc l1) rfl (flat_length nc 5 nc_len l1) HS.out (nc_one l1) ?c3 ?c4 HB2.out.size ?_)
          case c3 => unfold maxLen; omega
          case c4 => omega
          intro v2 w2 hown2 hgrow _
          go_wp2
          go_roundw
          case rel =>
            refine ⟨1, by go_num, HB2.out.grown hgrow HB2.out.size (fun g hg => (HO2.out.lt g hg).1), .inr (.inl ⟨rfl, ?_⟩)⟩
            simpa using hown2
          case measure => simp [intOf]
        · have HB2 := Lib.hid hb2
          have HO2 := Lib.hid ho
          have d0 : wr.cell? ⟨b, 1, none⟩ = some (.slice (some p2) l2.length c2) := (hb2.cell hb).trans C1.out
          clear hb2 ho
          have HS := Lib.hid ((H2.out.below HB2.out).src)
          go_wp2_with (at_builtin; refine wpList_append_own _ rfl _ _ 23 rfl w.heap.size 25 i0 (cv 0 ⟨#[]⟩ nilL) 5 72 Try.underlying23 hi hz0 hz1 hz2 rfl (by decide) _ l1.length _ rfl HO2.out p2 l2.length c2 (flat nc l2) rfl (flat_length nc 5 nc_len l2) HS.out (nc_one l2) ?c3 ?c4 HB2.out.size ?_)
          case c3 => unfold maxLen; omega
          case c4 => omega
          intro v2 w2 hown2 hgrow _
          go_wp2
          go_roundw
          case rel =>
            refine ⟨2, by go_num, HB2.out.grown hgrow HB2.out.size (fun g hg => (HO2.out.lt g hg).1), .inr (.inr ⟨rfl, hown2⟩)⟩
          case measure => simp [intOf]
        · have HB2 := Lib.hid hb2
          have HO2 := Lib.hid ho
          clear hb2 ho
          go_wp2
          go_ret
          refine ⟨_, rfl, Sl.ofOwns (base := w.heap.size) (e := 25) nc_len ?_, HB2.out⟩
          rw [flat_append, List.length_append]
          exact HO2.out

end Go.Proofs.Ytplnnlnkcfappaa.Oa
