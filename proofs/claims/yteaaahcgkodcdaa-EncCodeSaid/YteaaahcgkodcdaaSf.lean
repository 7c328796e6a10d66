/- The walk of EncCode, the main case. -/
import Derived.Test.YteaaahcgkodcdaaSe
namespace Go.Proofs.Yteaaahcgkodcdaa.Sa
open Go.RowKit Go.Proofs.Yteaaahcgkodcdaa.Ea
set_option linter.unusedSimpArgs false
set_option linter.unusedVariables false

theorem drewN_size (w : World) (n : Nat) : (w.drewN n).heap.size = w.heap.size := rfl

set_option maxHeartbeats 16000000 in
set_option maxRecDepth 100000 in
theorem encCode_main (w : World) (vl vw : Value) (l : List MI) (ws : List Int) (hl : Sl MI.cells 5 w vl l) (hw : Sl u32c 1 w vw ws) (hml : ∀ m ∈ l, m.wf) (hmw : ∀ x ∈ ws, 0 ≤ x ∧ x < 4294967296)
    (hll : l.length ≤ 300) (hlw : ws.length ≤ 300)
    (hE : ∀ (m : MI) (W : World), Calls Try.prog 15 #[m.val] W (OnePost m.op m.a m.b m.c m.d W))
    (hR : ∀ (v : Int) (W : World), 0 ≤ v → v < 4294967296 → Calls Try.prog 16 #[.int .u32 v] W (BackPost v W)) :
    Calls Try.prog 6 #[vl, vw] w fun e w' => e = .returned (.bool true) ∧ Below w.heap.size w w' := by
  have HSL := Lib.hid hl
  have HSW := Lib.hid hw
  obtain ⟨al, capl, rfl⟩ := hl.form
  obtain ⟨aw, capw, rfl⟩ := hw.form
  have HML := Lib.hid hml
  have HMW := Lib.hid hmw
  have HE := Lib.hid hE
  have HR := Lib.hid hR
  clear hl hw hml hmw hE hR
  have n1 : ¬ ((300 : Int) < (l.length : Int)) := by omega
  have n2 : ¬ ((300 : Int) < (ws.length : Int)) := by omega
  obtain ⟨i0, hi, hz0, hz1, hz2⟩ := info_parts info25
  obtain ⟨j0, hj, hj0, hj1, hj2⟩ := info_parts info23
  go_enter Try.func6, Try.ntmps6
  go_wp2_with fail
  refine (code_calls _ _ l HSL.out HML.out (by omega)).mono ?_
  rintro e w1 ⟨x, rfl, hx1, hx0, hb1⟩
  have HX1 := Lib.hid hx1
  have HX0 := Lib.hid hx0
  have HB1 := Lib.hid hb1
  clear hx1 hx0 hb1
  obtain ⟨ok, hok⟩ : ∃ ok, allOk l = ok := ⟨_, rfl⟩
  rw [hok]
  have HOK := Lib.hid hok
  clear hok
  go_wp2_with fail
  go_loopw [7, 8, 9] (fun g s i wr => ∃ k : Nat, k ≤ l.length ∧ i = .int .i64 k ∧ g = .bool (allOk (l.take k)) ∧ wr.ownsRow w1.heap.size 25 1 s k (flat u32c (wordsOf (l.take k))) ∧ Below w1.heap.size w1 wr) (fun _ _ i _ => l.length - (intOf i).toNat)
  case atStart => exact ⟨0, by omega, rfl, rfl, World.ownsRow_nil _ _ _ _, Below.refl _ _⟩
  case round =>
    obtain ⟨k, hk, rfl, rfl, hown, hb⟩ := hrel
    have HO := Lib.hid hown
    have HB := Lib.hid hb
    clear hown hb
    by_cases hlt : k < l.length
    · obtain ⟨b, off, cp, hv, hcap, hblt, hcell⟩ := ((HSL.out.below HB1.out).below HB.out).at (by intro e; rw [e] at hlt; simp at hlt)
      obtain ⟨rfl, rfl⟩ : al = some ⟨b, off, none⟩ ∧ cp = capl := by injection hv with h1 _ h2; exact ⟨h1, h2.symm⟩
      clear hv
      obtain ⟨m, hm⟩ : ∃ m, l[k] = m := ⟨_, rfl⟩
      have hcell2 := hcell k hlt
      rw [hm] at hcell2
      have HM := Lib.hid hm
      clear hcell hm
      have HEm := Lib.hid (HE.out m)
      obtain ⟨xt, hxt⟩ : ∃ xt, oneOf m = xt := ⟨_, rfl⟩
      obtain ⟨x5, t⟩ := xt
      have HT := Lib.hid hxt
      clear hxt
      obtain ⟨op, x1, x2, x3, x4⟩ := m
      have c0 : wr.cell? ⟨b, off + k * 5, none⟩ = some (.int .i64 op) := hcell2 0 _ rfl
      have c1 : wr.cell? ⟨b, off + k * 5 + 1, none⟩ = some (.int .i64 x1) := hcell2 1 _ rfl
      have c2 : wr.cell? ⟨b, off + k * 5 + 2, none⟩ = some (.int .i64 x2) := hcell2 2 _ rfl
      have c3 : wr.cell? ⟨b, off + k * 5 + 3, none⟩ = some (.int .i64 x3) := hcell2 3 _ rfl
      have c4 : wr.cell? ⟨b, off + k * 5 + 4, none⟩ = some (.int .i64 x4) := hcell2 4 _ rfl
      clear hcell2
      have i0' : (0 : Int) ≤ (k : Int) := by omega
      obtain ⟨g, hg⟩ : ∃ g, allOk (l.take k) = g := ⟨_, rfl⟩
      rw [hg]
      have HG := Lib.hid hg
      clear hg
      go_wp2_with fail
      refine (HEm.out _).mono ?_
      rintro e w2 ⟨rfl, hb2⟩
      have HT2 : Hid (oneF op x1 x2 x3 x4 = (x5, t)) := HT.out
      rw [HT2.out]
      have HO2 := Lib.hid (owns_below HO.out hb2)
      have HB2 := Lib.hid (below_join HB.out (Nat.le_refl _) hb2)
      clear hb2
      cases g <;> cases t
      all_goals
        go_wp2_with (at_builtin; refine wpList_append_own _ rfl _ _ 40 rfl w1.heap.size 25 i0 (.int .u32 0) 1 4 Try.underlying40 hi hz0 hz1 hz2 rfl (by decide) _ k _ rfl (HO2.out.alloc _) ⟨w2.heap.size, 0, none⟩ 1 1 [.int .u32 x5] rfl rfl ?c1 ?c2 ?c3 ?c4 ?c5 ?_)
        case c1 =>
          intro j u hu
          obtain rfl : j = 0 := by
            have := (List.getElem?_eq_some_iff.1 hu).1
            simp at this; exact this
          simp at hu; subst hu
          simp [go_sem, Addr.add]
        case c2 => intro u hu; simp at hu; subst hu; rfl
        case c3 => unfold maxLen; omega
        case c4 => omega
        case c5 => have := HB2.out.size; simp; omega
        intro v2 w3 hown2 hgrow _
        go_wp2
        go_roundw
        case rel =>
          refine ⟨k + 1, by omega, by go_num, ?_, ?_, ?_⟩
          · rw [allOk_snoc l k hlt, HG.out, HM.out, HT.out]; rfl
          · rw [words_snoc l k hlt, flat_append, HM.out, HT.out]
            exact hown2
          · exact (below_more HB2.out (Nat.le_refl _) _).grown hgrow (by have := HB2.out.size; simp; omega) (fun g hg => ((HO2.out.alloc (.cells #[.int .u32 x5] 25)).lt g hg).1)
        case measure => simp [intOf]; omega
    · obtain rfl : k = l.length := by omega
      have hwant : Sl u32c 1 wr u8 (wordsOf l) := by
        have := HO.out
        rw [List.take_length] at this
        exact Sl.ofOwns (l := wordsOf l) u32c_len (by rw [words_length]; exact this)
      rw [List.take_length, HOK.out]
      obtain ⟨a8, cap8, hu8⟩ := hwant.form
      rw [words_length] at hu8
      have HW8 := Lib.hid hwant
      clear hwant
      subst hu8
      have HB0 := Lib.hid (below_join HB1.out (Nat.le_refl _) HB.out)
      cases ok with
      | false =>
        have hx := HX0.out HOK.out
        subst hx
        have BEL := Lib.hid HB0.out
        go_wp2_with fail
        go_loopw [12] (fun i wr2 => i = .int .i64 0 ∧ wr2 = wr) (fun _ _ => 0)
        case atStart => exact ⟨rfl, rfl⟩
        case round =>
          obtain ⟨rfl, rfl⟩ := hrel
          go_wp2_with fail
          refine (decode_calls _ _ ws (HSW.out.below BEL.out) HMW.out (by omega)).mono ?_
          rintro e w5 ⟨z, rfl, hz1', hz0', hb5⟩
          have HZ1 := Lib.hid hz1'
          have HZ0 := Lib.hid hz0'
          have HB5 := Lib.hid (below_join BEL.out (Nat.le_refl _) hb5)
          clear hz1' hz0' hb5
          obtain ⟨fine, hfine⟩ : ∃ fine, decOk ws = fine := ⟨_, rfl⟩
          rw [hfine]
          have HFI := Lib.hid hfine
          clear hfine
          go_wp2_with fail
          go_loopw [17, 18, 19] (fun g s i wr => ∃ k : Nat, k ≤ ws.length ∧ i = .int .i64 k ∧ g = .bool (decOk (ws.take k)) ∧ wr.ownsRow w5.heap.size 23 5 s k (flat MI.cells (decOf (ws.take k))) ∧ Below w5.heap.size w5 wr) (fun _ _ i _ => ws.length - (intOf i).toNat)
          case atStart => exact ⟨0, by omega, rfl, rfl, World.ownsRow_nil _ _ _ _, Below.refl _ _⟩
          case round =>
            obtain ⟨k, hk, rfl, rfl, hown, hb⟩ := hrel
            have HO := Lib.hid hown
            have HB := Lib.hid hb
            clear hown hb
            by_cases hlt : k < ws.length
            · obtain ⟨b, off, cp, hv, hcap, hblt, hcell⟩ := ((HSW.out.below HB5.out).below HB.out).at (by intro e; rw [e] at hlt; simp at hlt)
              obtain ⟨rfl, rfl⟩ : aw = some ⟨b, off, none⟩ ∧ cp = capw := by injection hv with h1 _ h2; exact ⟨h1, h2.symm⟩
              clear hv
              have hwfk := HMW.out _ (List.getElem_mem hlt)
              have hc0 := hcell k hlt 0 _ rfl
              rw [Nat.mul_one, Nat.add_zero] at hc0
              obtain ⟨y, hy⟩ : ∃ y, ws[k] = y := ⟨_, rfl⟩
              rw [hy] at hwfk hc0
              have HY := Lib.hid hy
              clear hy hcell
              obtain ⟨y0, y1⟩ := hwfk
              obtain ⟨t, ht⟩ : ∃ t, backOk y = t := ⟨_, rfl⟩
              obtain ⟨m, hm⟩ : ∃ m, backMI y = m := ⟨_, rfl⟩
              have HT := Lib.hid ht
              have HM := Lib.hid hm
              clear ht hm
              obtain ⟨o, p, q, r, s⟩ := m
              have HA : Hid ((if backOk y = true then backArgs y else zero5) = #[.int .i64 o, .int .i64 p, .int .i64 q, .int .i64 r, .int .i64 s]) := by
                show _ = _
                rw [back_agg, HM.out]; rfl
              have i0' : (0 : Int) ≤ (k : Int) := by omega
              obtain ⟨g, hg⟩ : ∃ g, decOk (ws.take k) = g := ⟨_, rfl⟩
              rw [hg]
              have HG := Lib.hid hg
              clear hg
              go_wp2_with fail
              refine (HR.out y _ y0 y1).mono ?_
              rintro e w6 ⟨rfl, hb6⟩
              rw [HA.out, HT.out]
              have HO6 := Lib.hid (owns_below HO.out hb6)
              have HB6 := Lib.hid (below_join HB.out (Nat.le_refl _) hb6)
              clear hb6
              cases g <;> cases t
              all_goals
                go_wp2_with (at_builtin; refine wpList_append_own _ rfl _ _ 39 rfl w5.heap.size 23 j0 (.agg #[.int .i64 0, .int .i64 0, .int .i64 0, .int .i64 0, .int .i64 0]) 5 40 Try.underlying39 hj hj0 hj1 hj2 rfl (by decide) _ k _ rfl ((HO6.out.alloc _).alloc _) ⟨w6.heap.size + 1, 0, none⟩ 1 1 [.int .i64 o, .int .i64 p, .int .i64 q, .int .i64 r, .int .i64 s] rfl rfl ?c1 ?c2 ?c3 ?c4 ?c5 ?_)
                case c1 =>
                  intro j u hu
                  have hj := (List.getElem?_eq_some_iff.1 hu).1
                  simp at hj
                  obtain rfl | rfl | rfl | rfl | rfl : j = 0 ∨ j = 1 ∨ j = 2 ∨ j = 3 ∨ j = 4 := by omega
                  all_goals
                    simp at hu
                    subst hu
                    simp [go_sem, Addr.add]
                case c2 =>
                  intro u hu
                  simp at hu
                  rcases hu with rfl | rfl | rfl | rfl | rfl <;> rfl
                case c3 => unfold maxLen; omega
                case c4 => omega
                case c5 => have := HB6.out.size; simp; omega
                intro v2 w7 hown2 hgrow _
                go_wp2
                go_roundw
                case rel =>
                  refine ⟨k + 1, by omega, by go_num, ?_, ?_, ?_⟩
                  · rw [decOk_snoc ws k hlt, HG.out, HY.out, HT.out]; rfl
                  · rw [dec_snoc ws k hlt, flat_append, HY.out, HM.out]
                    exact hown2
                  · exact (below_more (below_more HB6.out (Nat.le_refl _) _) (Nat.le_refl _) _).grown hgrow (by have := HB6.out.size; simp; omega) (fun g hg => ((HO6.out.alloc (.cells #[] 25)).lt g hg).1)
                case measure => simp [intOf]; omega
            · obtain rfl : k = ws.length := by omega
              have hcode : Sl MI.cells 5 wr u18 (decOf ws) := by
                have := HO.out
                rw [List.take_length] at this
                exact Sl.ofOwns (l := decOf ws) MI.cells_len (by rw [dec_length]; exact this)
              have HCO := Lib.hid hcode
              clear hcode
              rw [List.take_length, HFI.out]
              cases fine with
              | false =>
                have hz := HZ0.out HFI.out
                subst hz
                go_wp2_with fail
                refine (awake_calls _).mono ?_
                rintro e w8 ⟨rfl, hb8⟩
                have HB8 := Lib.hid (below_join (below_join HB5.out (Nat.le_refl _) HB.out) (Nat.le_refl _) hb8)
                clear hb8
                go_wp2
                go_ret
                exact ⟨rfl, HB8.out⟩
              | true =>
                have HZ := Lib.hid ((HZ1.out HFI.out).below HB.out)
                have HLD := Lib.hid (dec_length ws)
                go_wp2_with fail
                refine (same_calls _ _ _ (decOf ws) (decOf ws) HZ.out HCO.out (by rw [HLD.out]; omega) (by rw [HLD.out]; omega)).mono ?_
                rintro e w9 ⟨rfl, hb9⟩
                rw [decide_eq_true (rfl : decOf ws = decOf ws)]
                have HB9 := Lib.hid (below_join (below_join HB5.out (Nat.le_refl _) HB.out) (Nat.le_refl _) hb9)
                clear hb9
                go_wp2_with fail
                refine (awake_calls _).mono ?_
                rintro e w8 ⟨rfl, hb8⟩
                have HB8 := Lib.hid (below_join HB9.out (Nat.le_refl _) hb8)
                clear hb8
                go_wp2
                go_ret
                exact ⟨rfl, HB8.out⟩
      | true =>
        have hx := HX1.out HOK.out
        obtain ⟨ax, capx, rfl⟩ := hx.form
        have HXL := Lib.hid (words_length l)
        have HXS := Lib.hid (hx.below HB.out)
        clear hx
        rw [HXL.out]
        have WB := Lib.hid (words_back HOK.out)
        go_wp2_with fail
        go_loopw [12] (fun i wr2 => ∃ k : Nat, k ≤ l.length ∧ i = .int .i64 k ∧ Below wr.heap.size wr wr2) (fun i _ => l.length - (intOf i).toNat)
        case atStart => exact ⟨0, by omega, rfl, Below.refl _ _⟩
        case round =>
          obtain ⟨k, hk, rfl, hb2⟩ := hrel
          have HBW := Lib.hid hb2
          clear hb2
          by_cases hlt : k < l.length
          · have hltw : k < (wordsOf l).length := by rw [HXL.out]; exact hlt
            obtain ⟨p, offx, cpx, hvx, hcapx, hbltx, hcellx⟩ := (HXS.out.below HBW.out).at (by intro e; rw [e] at hltw; simp at hltw)
            rw [HXL.out] at hvx hcapx
            obtain ⟨rfl, rfl⟩ : ax = some ⟨p, offx, none⟩ ∧ cpx = capx := by injection hvx with h1 _ h2; exact ⟨h1, h2.symm⟩
            obtain ⟨q, off8, cp8, hv8, hcap8', hblt8, hcell8⟩ := (HW8.out.below HBW.out).at (by intro e; rw [e] at hltw; simp at hltw)
            rw [HXL.out] at hv8 hcap8'
            obtain ⟨rfl, rfl⟩ : a8 = some ⟨q, off8, none⟩ ∧ cp8 = cap8 := by injection hv8 with h1 _ h2; exact ⟨h1, h2.symm⟩
            clear hvx hv8
            have cx := hcellx k hltw 0 _ rfl
            have c8 := hcell8 k hltw 0 _ rfl
            rw [Nat.mul_one, Nat.add_zero] at cx c8
            clear hcellx hcell8
            obtain ⟨v, hv⟩ : ∃ v, (wordsOf l)[k] = v := ⟨_, rfl⟩
            rw [hv] at cx c8
            clear hv
            have q0 : (0 : Int) ≤ (k : Int) := by omega
            have q1 : (k : Int) < (l.length : Int) := by omega
            go_wp2_with fail
            go_quiet (fail)
            go_wp2
            go_roundw
            case rel => exact ⟨k + 1, by omega, by go_num, below_drewN' HBW.out _⟩
            case measure => simp [intOf]; omega
          · obtain rfl : k = l.length := by omega
            have HBR := Lib.hid (below_join HB0.out (Nat.le_refl _) HBW.out)
            go_wp2_with fail
            refine (decode_calls _ _ (wordsOf l) (by have := HXS.out.below HBW.out; rw [HXL.out] at this; exact this) WB.out.1 (by rw [HXL.out]; omega)).mono ?_
            rintro e w3 ⟨y, rfl, hy1, hy0, hb3⟩
            rw [WB.out.2.1]
            have hy := hy1 WB.out.2.1
            rw [WB.out.2.2] at hy
            have HY := Lib.hid hy
            have HB3 := Lib.hid (below_join HBR.out (Nat.le_refl _) hb3)
            clear hy hy1 hy0 hb3
            go_wp2_with fail
            refine (same_calls _ _ _ l l HY.out (HSL.out.below HB3.out) (by omega) (by omega)).mono ?_
            rintro e w4 ⟨rfl, hb4⟩
            rw [decide_eq_true (rfl : l = l)]
            have BEL := Lib.hid (below_join HB3.out (Nat.le_refl _) hb4)
            clear hb4
            go_wp2_with fail
            refine (decode_calls _ _ ws (HSW.out.below BEL.out) HMW.out (by omega)).mono ?_
            rintro e w5 ⟨z, rfl, hz1', hz0', hb5⟩
            have HZ1 := Lib.hid hz1'
            have HZ0 := Lib.hid hz0'
            have HB5 := Lib.hid (below_join BEL.out (Nat.le_refl _) hb5)
            clear hz1' hz0' hb5
            obtain ⟨fine, hfine⟩ : ∃ fine, decOk ws = fine := ⟨_, rfl⟩
            rw [hfine]
            have HFI := Lib.hid hfine
            clear hfine
            go_wp2_with fail
            go_loopw [17, 18, 19] (fun g s i wr => ∃ k : Nat, k ≤ ws.length ∧ i = .int .i64 k ∧ g = .bool (decOk (ws.take k)) ∧ wr.ownsRow w5.heap.size 23 5 s k (flat MI.cells (decOf (ws.take k))) ∧ Below w5.heap.size w5 wr) (fun _ _ i _ => ws.length - (intOf i).toNat)
            case atStart => exact ⟨0, by omega, rfl, rfl, World.ownsRow_nil _ _ _ _, Below.refl _ _⟩
            case round =>
              obtain ⟨k, hk, rfl, rfl, hown, hb⟩ := hrel
              have HO := Lib.hid hown
              have HB := Lib.hid hb
              clear hown hb
              by_cases hlt : k < ws.length
              · obtain ⟨b, off, cp, hv, hcap, hblt, hcell⟩ := ((HSW.out.below HB5.out).below HB.out).at (by intro e; rw [e] at hlt; simp at hlt)
                obtain ⟨rfl, rfl⟩ : aw = some ⟨b, off, none⟩ ∧ cp = capw := by injection hv with h1 _ h2; exact ⟨h1, h2.symm⟩
                clear hv
                have hwfk := HMW.out _ (List.getElem_mem hlt)
                have hc0 := hcell k hlt 0 _ rfl
                rw [Nat.mul_one, Nat.add_zero] at hc0
                obtain ⟨y, hy⟩ : ∃ y, ws[k] = y := ⟨_, rfl⟩
                rw [hy] at hwfk hc0
                have HY := Lib.hid hy
                clear hy hcell
                obtain ⟨y0, y1⟩ := hwfk
                obtain ⟨t, ht⟩ : ∃ t, backOk y = t := ⟨_, rfl⟩
                obtain ⟨m, hm⟩ : ∃ m, backMI y = m := ⟨_, rfl⟩
                have HT := Lib.hid ht
                have HM := Lib.hid hm
                clear ht hm
                obtain ⟨o, p, q, r, s⟩ := m
                have HA : Hid ((if backOk y = true then backArgs y else zero5) = #[.int .i64 o, .int .i64 p, .int .i64 q, .int .i64 r, .int .i64 s]) := by
                  show _ = _
                  rw [back_agg, HM.out]; rfl
                have i0' : (0 : Int) ≤ (k : Int) := by omega
                obtain ⟨g, hg⟩ : ∃ g, decOk (ws.take k) = g := ⟨_, rfl⟩
                rw [hg]
                have HG := Lib.hid hg
                clear hg
                go_wp2_with fail
                refine (HR.out y _ y0 y1).mono ?_
                rintro e w6 ⟨rfl, hb6⟩
                rw [HA.out, HT.out]
                have HO6 := Lib.hid (owns_below HO.out hb6)
                have HB6 := Lib.hid (below_join HB.out (Nat.le_refl _) hb6)
                clear hb6
                cases g <;> cases t
                all_goals
                  go_wp2_with (at_builtin; refine wpList_append_own _ rfl _ _ 39 rfl w5.heap.size 23 j0 (.agg #[.int .i64 0, .int .i64 0, .int .i64 0, .int .i64 0, .int .i64 0]) 5 40 Try.underlying39 hj hj0 hj1 hj2 rfl (by decide) _ k _ rfl ((HO6.out.alloc _).alloc _) ⟨w6.heap.size + 1, 0, none⟩ 1 1 [.int .i64 o, .int .i64 p, .int .i64 q, .int .i64 r, .int .i64 s] rfl rfl ?c1 ?c2 ?c3 ?c4 ?c5 ?_)
                  case c1 =>
                    intro j u hu
                    have hj := (List.getElem?_eq_some_iff.1 hu).1
                    simp at hj
                    obtain rfl | rfl | rfl | rfl | rfl : j = 0 ∨ j = 1 ∨ j = 2 ∨ j = 3 ∨ j = 4 := by omega
                    all_goals
                      simp at hu
                      subst hu
                      simp [go_sem, Addr.add]
                  case c2 =>
                    intro u hu
                    simp at hu
                    rcases hu with rfl | rfl | rfl | rfl | rfl <;> rfl
                  case c3 => unfold maxLen; omega
                  case c4 => omega
                  case c5 => have := HB6.out.size; simp; omega
                  intro v2 w7 hown2 hgrow _
                  go_wp2
                  go_roundw
                  case rel =>
                    refine ⟨k + 1, by omega, by go_num, ?_, ?_, ?_⟩
                    · rw [decOk_snoc ws k hlt, HG.out, HY.out, HT.out]; rfl
                    · rw [dec_snoc ws k hlt, flat_append, HY.out, HM.out]
                      exact hown2
                    · exact (below_more (below_more HB6.out (Nat.le_refl _) _) (Nat.le_refl _) _).grown hgrow (by have := HB6.out.size; simp; omega) (fun g hg => ((HO6.out.alloc (.cells #[] 25)).lt g hg).1)
                  case measure => simp [intOf]; omega
              · obtain rfl : k = ws.length := by omega
                have hcode : Sl MI.cells 5 wr u18 (decOf ws) := by
                  have := HO.out
                  rw [List.take_length] at this
                  exact Sl.ofOwns (l := decOf ws) MI.cells_len (by rw [dec_length]; exact this)
                have HCO := Lib.hid hcode
                clear hcode
                rw [List.take_length, HFI.out]
                cases fine with
                | false =>
                  have hz := HZ0.out HFI.out
                  subst hz
                  go_wp2_with fail
                  refine (awake_calls _).mono ?_
                  rintro e w8 ⟨rfl, hb8⟩
                  have HB8 := Lib.hid (below_join (below_join HB5.out (Nat.le_refl _) HB.out) (Nat.le_refl _) hb8)
                  clear hb8
                  go_wp2
                  go_ret
                  exact ⟨rfl, HB8.out⟩
                | true =>
                  have HZ := Lib.hid ((HZ1.out HFI.out).below HB.out)
                  have HLD := Lib.hid (dec_length ws)
                  go_wp2_with fail
                  refine (same_calls _ _ _ (decOf ws) (decOf ws) HZ.out HCO.out (by rw [HLD.out]; omega) (by rw [HLD.out]; omega)).mono ?_
                  rintro e w9 ⟨rfl, hb9⟩
                  rw [decide_eq_true (rfl : decOf ws = decOf ws)]
                  have HB9 := Lib.hid (below_join (below_join HB5.out (Nat.le_refl _) HB.out) (Nat.le_refl _) hb9)
                  clear hb9
                  go_wp2_with fail
                  refine (awake_calls _).mono ?_
                  rintro e w8 ⟨rfl, hb8⟩
                  have HB8 := Lib.hid (below_join HB9.out (Nat.le_refl _) hb8)
                  clear hb8
                  go_wp2
                  go_ret
                  exact ⟨rfl, HB8.out⟩


end Go.Proofs.Yteaaahcgkodcdaa.Sa
