/- RvmSlots: the machine runs. -/
import Derived.Test.YtplnnlnkcfappaaGreatRr
namespace Go.Proofs.YtplnnlnkcfappaaGreat.Rs
open Go Go.RowKit
set_option linter.unusedSimpArgs false
set_option linter.unusedVariables false

set_option maxRecDepth 100000 in
set_option maxHeartbeats 8000000 in
theorem run_calls {w : World} {qb qc : Nat} {K V : Value} {L : List Int} {l : List Ins} (hF : Fns w qb K V) (hK : Rw vc 5 54 w K L) (hV : Rw ic 5 84 w V (l ++ [last])) (hL0 : 0 < L.length) (hLn : L.getD 0 1 = 0) (hL : L.length ≤ 1000) (hl : l.length ≤ 60) (hok : ∀ x ∈ l, insOk L.length x) (hnl : ∀ x ∈ l, x.1 ≠ 16) :
    Calls Tryz.prog 26 #[.agg #[.slice (some ⟨qb, 0, none⟩) 1 qc, .int .i64 0, .int .i64 8], .int .i64 99] w fun e w' => ∃ a cap B, e = .returned (.tuple #[.agg #[.slice a (exec L l st0).e.length (exec L l st0).e.length, .int .i64 0, .int .i64 0, .complex .f64 0 0, .string ⟨#[]⟩, .slice none 0 0, .int .i64 0], .int .i64 0]) ∧
      w'.ownsRow B 69 7 (.slice a (exec L l st0).e.length cap) (exec L l st0).e.length (flat ec (exec L l st0).e) ∧ w.heap.size ≤ B ∧ Below w.heap.size w w' := by
  have HH := Lib.hid (And.intro hF (And.intro hK (And.intro hV (And.intro hok hnl))))
  clear hF hK hV hok hnl
  go_enter Tryz.func26, Tryz.ntmps26
  go_wp2
  refine wp_scope_two (Next w K V L l) (Back w K V L l) rfl rfl (fun p0 => ?_) ?_ ?_
  · have P0 := Lib.hid p0
    clear p0
    have hx0 : Fx (fun _ => False) w ((w.alloc (.cells #[.slice (some ⟨qb, 0, none⟩) 1 qc, .int .i64 0, .int .i64 8] 88)).alloc (.cells #[.slice none 0 0, .int .i64 0, .int .i64 0, .complex .f64 0 0, .string ⟨#[]⟩, .slice none 0 0, .int .i64 0] 57)) := ((Fx.refl _ w).alloc _).alloc _
    have hbw : Below w.heap.size w ((w.alloc (.cells #[.slice (some ⟨qb, 0, none⟩) 1 qc, .int .i64 0, .int .i64 8] 88)).alloc (.cells #[.slice none 0 0, .int .i64 0, .int .i64 0, .complex .f64 0 0, .string ⟨#[]⟩, .slice none 0 0, .int .i64 0] 57)) := hx0.below (Nat.le_refl _) (fun _ _ h => h)
    have HW := Lib.hid (And.intro hx0 hbw)
    clear hx0 hbw
    go_wp2_with fail
    refine (check_calls (HH.out.1.below HW.out.2) (HH.out.2.1.below HW.out.2) (HH.out.2.2.1.below HW.out.2) hL0 hL hl HH.out.2.2.2.1 HH.out.2.2.2.2).mono ?_
    rintro e w1 ⟨rfl, hb1⟩
    have hsz : w.heap.size + 2 ≤ w1.heap.size := by have := hb1.size; simpa using this
    have p0 : w1.cell? ⟨w.heap.size, 0, none⟩ = some (.slice (some ⟨qb, 0, none⟩) 1 qc) := by rw [hb1.cell (by simp; omega)]; simp [go_sem]
    have p1 : w1.cell? ⟨w.heap.size, 1, none⟩ = some (.int .i64 0) := by rw [hb1.cell (by simp; omega)]; simp [go_sem]
    have p2 : w1.cell? ⟨w.heap.size, 2, none⟩ = some (.int .i64 8) := by rw [hb1.cell (by simp; omega)]; simp [go_sem]
    have hres : Room w1 (w.heap.size + 1) 7 := by
      refine ⟨fun j hj => ?_, fun j hj => ?_⟩
      · obtain rfl | rfl | rfl | rfl | rfl | rfl | rfl : j = 0 ∨ j = 1 ∨ j = 2 ∨ j = 3 ∨ j = 4 ∨ j = 5 ∨ j = 6 := by omega
        all_goals (rw [hb1.cell (by simp)]; exact ⟨_, by simp [go_sem]; rfl⟩)
      · rw [hb1.frozen (by simp)]
        simp [go_sem]
    have hF1 := (HH.out.1.below HW.out.2).below hb1
    have hbw1 := HW.out.2.trans (hb1.mono HW.out.2.size)
    have H1 := Lib.hid (And.intro hsz (And.intro hres (And.intro hF1 hbw1)))
    have P := Lib.hid (And.intro p0 (And.intro p1 p2))
    clear hsz hres hF1 hbw1 p0 p1 p2 hb1
    go_wp2_with fail
    refine (fill_calls _).mono ?_
    rintro e w2 ⟨rfl, hw2⟩
    have hx2 : Fx (fun _ => False) w1 w2 := by rw [hw2]; exact (Fx.refl _ _).alloc _
    have hl0 : w.heap.size < w1.heap.size := by have := H1.out.1; omega
    have p0 := (hx2.cell (b := w.heap.size) hl0 (fun h => h) 0).trans P.out.1
    have p1 := (hx2.cell (b := w.heap.size) hl0 (fun h => h) 1).trans P.out.2.1
    have p2 := (hx2.cell (b := w.heap.size) hl0 (fun h => h) 2).trans P.out.2.2
    obtain ⟨c0, c1, c2, c3, c4⟩ := H1.out.2.2.1.fx hx2 (fun h => h)
    have hT2 : ∀ B, w1.heap.size < B → Tk w2 w1.heap.size B 99 [] := by
      intro B hB
      rw [hw2]
      refine ⟨?_, ⟨.slice none 0 0, ?_, World.ownsRow_nil _ _ _ _⟩, ?_, ?_, ?_, ?_, ?_, ?_, fun j hj => ?_⟩
      all_goals simp [go_sem]
    have hs2 : w2.heap.size = w1.heap.size + 1 := by rw [hw2]; simp
    have H2 := Lib.hid (And.intro hx2 (And.intro hT2 hs2))
    clear hx2 hl0 hT2 hs2 hw2
    go_wp2_with fail
    refine wp_region_still_tail 7 (by kernel_rfl) (by kernel_rfl) ?_
    show wpStill Tryz.prog _ w2.drew (fun a' => wpList Tryz.prog _ _ _ a' w2.drew) _ _
    simp only [List.take_succ_cons, List.take_zero, List.drop_succ_cons, List.drop_zero]
    repeat still_step
    refine wpStill_nil ?_
    go_wp2_with fail
    refine (open_calls _ _ _ _).mono ?_
    rintro e w3 ⟨cb, rb, sb, rfl, hO⟩
    have HO := Lib.hid hO
    clear hO p0 p1 p2 c0 c1 c2 c3 c4
    go_wp2_with fail
    go_step3
    rename_i hKK
    refine hKK _ _ (P0.out l.length _ _ ?_)
    clear hKK
    obtain ⟨oc, orr, os, ofx, ocb, orb, osb, d1, d2, d3⟩ := HO.out
    obtain ⟨hx2, hT2, hs2⟩ := H2.out
    obtain ⟨hsz, hres, hF1, hbw1⟩ := H1.out
    have hds : w2.drew.heap.size = w2.heap.size := rfl
    have hcl := oc.lt
    have hxa : Fx (fun _ => False) w3 (((w3.alloc (.cells #[.pointer (some ⟨cb, 0, none⟩)] 137)).alloc (.cells #[.int .i64 0, .int .i64 0, .int .i64 0, .int .i64 0, .int .i64 0] 84)).alloc (.cells #[.int .i64 0, .int .i64 0, .complex .f64 0 0, .string ⟨#[]⟩, .slice none 0 0] 54)) := (((Fx.refl _ w3).alloc _).alloc _).alloc _
    have hx3 : Fx (fun _ => False) w2 w3 := (Fx.refl _ w2).drew.trans ofx
    refine ⟨_, w.heap.size, w.heap.size + 1, w1.heap.size, rb, sb, cb, w3.heap.size, w3.heap.size + 1, w3.heap.size + 1 + 1, w3.heap.size + 1 + 1 + 1, 0, acts_of rfl, rfl, rfl, rfl, rfl, rfl, rfl, by omega, ⟨⟨?_, ?_⟩, ?_, ?_, ?_, ?_, ?_, ?_, ?_, ?_, ?_, ?_⟩⟩
    · omega
    · omega
    · simp
    · exact ((hbw1.trans ((hx2.trans hx3).trans hxa |>.below (by omega) (fun _ _ h => h))))
    · exact oc.fx hxa (fun h => h)
    · exact orr.fx hxa (by omega) (fun h => h)
    · exact os.fx hxa (by omega) (fun h => h)
    · have := ((hT2 (w3.heap.size + 1 + 1 + 1) (by omega)).fx hx3 (fun h => h) (fun _ _ _ h => h)).fx hxa (fun h => h) (fun _ _ _ h => h)
      simpa [exec, st0] using this
    · rw [(Fx.refl (fun _ => False) _ |>.alloc _ |>.alloc _ : Fx (fun _ => False) (w3.alloc (.cells #[.pointer (some ⟨cb, 0, none⟩)] 137)) _).cell (by simp) (fun h => h)]
      simp [go_sem]
    · refine ⟨fun j hj => ?_, fun j hj => ?_⟩
      · rw [(Fx.refl (fun _ => False) _ |>.alloc _ : Fx (fun _ => False) ((w3.alloc (.cells #[.pointer (some ⟨cb, 0, none⟩)] 137)).alloc (.cells #[.int .i64 0, .int .i64 0, .int .i64 0, .int .i64 0, .int .i64 0] 84)) _).cell (by simp) (fun h => h)]
        obtain rfl | rfl | rfl | rfl | rfl : j = 0 ∨ j = 1 ∨ j = 2 ∨ j = 3 ∨ j = 4 := by omega
        all_goals exact ⟨_, by simp [go_sem]; rfl⟩
      · simp [go_sem]
    · refine ⟨fun j hj => ?_, fun j hj => ?_⟩
      · obtain rfl | rfl | rfl | rfl | rfl : j = 0 ∨ j = 1 ∨ j = 2 ∨ j = 3 ∨ j = 4 := by omega
        all_goals exact ⟨_, by simp [go_sem]; rfl⟩
      · simp [go_sem]
    · exact (((hres.fx hx2 (by omega) (fun h => h)).fx hx3 (by omega) (fun h => h)).fx hxa (by omega) (fun h => h))
  · rintro n a w' ⟨u, pb, rt, tb, rb, sb, cb, cr, ib, vb, B, i, rfl, u4, u5, u7, u8, u10, u11, hin, hM⟩
    obtain ⟨vg, vcap, rfl, hcap, hvlt, hcell⟩ := (HH.out.2.2.1.below hM.below).cell ic_len
    have hi : i < (l ++ [last]).length := by simp; omega
    have hC := hcell i hi
    have x0 := hC 0 _ rfl
    have x1 := hC 1 _ rfl
    have x2 := hC 2 _ rfl
    have x3 := hC 3 _ rfl
    have x4 := hC 4 _ rfl
    simp only [Nat.add_zero] at x0
    clear hC hcell
    generalize hx' : (l ++ [last])[i] = x at x0 x1 x2 x3 x4
    have hx : (l ++ [last])[i]? = some x := by rw [← hx']; exact List.getElem?_eq_getElem hi
    clear hx'
    have HM := Lib.hid hM
    obtain ⟨⟨la, lb⟩, msz, mbw, ⟨c3, c4, c5, c7, c8, f5⟩, mr, ms, mt, mrow, ⟨mi, mif⟩, mv, mres⟩ := hM
    obtain ⟨z0, i0⟩ := mi 0 (by omega)
    obtain ⟨z1, i1⟩ := mi 1 (by omega)
    obtain ⟨z2, i2⟩ := mi 2 (by omega)
    obtain ⟨z3, i3⟩ := mi 3 (by omega)
    obtain ⟨z4, i4⟩ := mi 4 (by omega)
    have g0 := mif 0 (by omega)
    have g1 := mif 1 (by omega)
    have g2 := mif 2 (by omega)
    have g3 := mif 3 (by omega)
    have g4 := mif 4 (by omega)
    have hi0 : (0 : Int) ≤ (i : Int) := by omega
    have hi1 : (i : Int) < ((l ++ [last]).length : Int) := by omega
    have him : i ≤ 60 := by omega
    clear hi
    generalize hcl : (l ++ [last]).length = cl at c4 hi1 hcap
    have hic : ¬ ib = cb := by omega
    have hci : ¬ cb = ib := by omega
    have hwr : IntKind.i64.wrap ((i : Int) + 1) = (i : Int) + 1 := by rw [IntKind.wrap_i64]; omega
    clear la lb msz mbw mr ms mt mv mres mi mif
    have hkk := kinds HH.out.2.2.2.1 HH.out.2.2.2.2 hx
    clear hx
    rw [acts_eq, u4, u5, u7, u8, u10, u11]
    obtain ⟨hxl, hil, ⟨r, s, hr, hs, rfl⟩ | ⟨r, s, hr, hs, rfl⟩ | ⟨r, s, hr, hs, rfl⟩ | ⟨r, hr, rfl⟩⟩ | ⟨rfl, rfl⟩ := hkk
    · simp only at x0 x1 x2
      go_wp2_with fail
      refine wp_region_still_tail 11 (by kernel_rfl) (by kernel_rfl) ?_
      show wpStill Tryz.prog _ w'.drew (fun a' => wpList Tryz.prog _ _ _ a' w'.drew) _ _
      simp only [List.take_succ_cons, List.take_zero, List.drop_succ_cons, List.drop_zero]
      repeat still_step
      refine wpStill_nil ?_
      go_wp2_with fail
      have hMf := HM.out.fetch (.int .i64 1) (.int .i64 r) (.int .i64 s) (.int .i64 0) (.int .i64 0)
      obtain ⟨kg, kc, rfl, hkc, hkl, hkcell⟩ := (HH.out.2.1.below hMf.below).cell vc_len
      have hS : Rv _ kg s L[s] := fun j hj => by
        obtain rfl | rfl | rfl | rfl | rfl : j = 0 ∨ j = 1 ∨ j = 2 ∨ j = 3 ∨ j = 4 := by omega
        · exact hkcell s hs 0 _ rfl
        · exact hkcell s hs 1 _ rfl
        · exact hkcell s hs 2 _ rfl
        · exact hkcell s hs 3 _ rfl
        · exact hkcell s hs 4 _ rfl
      refine (stepConst hr hs hMf.call hS (hMf.regs r hr)).mono ?_
      rintro e w2 ⟨rfl, W, hx, rfl⟩
      have HN := Lib.hid (hMf.putReg hx r hr L[s])
      clear hx hMf hS hkcell
      go_wp2_with fail
      go_step3
      refine Or.inl ⟨rfl, n - 1, by omega, ?_⟩
      have hstep : exec L (l.take (i + 1)) st0 = _ := (exec_take L l i hil st0).trans (by rw [show l[i] = (1, (r : Int), (s : Int)) from (List.getElem?_eq_some_iff.1 hxl).2])
      refine ⟨_, pb, rt, tb, rb, sb, cb, cr, ib, vb, B, i + 1, acts_of rfl, rfl, rfl, rfl, rfl, rfl, rfl, by omega, ?_⟩
      rw [hstep]
      have hM2 := HN.out
      subst hcl
      simpa [step1, List.getD_eq_getElem?_getD, List.getElem?_eq_getElem hs] using hM2
    · simp only at x0 x1 x2
      go_wp2_with fail
      refine wp_region_still_tail 11 (by kernel_rfl) (by kernel_rfl) ?_
      show wpStill Tryz.prog _ w'.drew (fun a' => wpList Tryz.prog _ _ _ a' w'.drew) _ _
      simp only [List.take_succ_cons, List.take_zero, List.drop_succ_cons, List.drop_zero]
      repeat still_step
      refine wpStill_nil ?_
      go_wp2_with fail
      have hMf := HM.out.fetch (.int .i64 13) (.int .i64 r) (.int .i64 s) (.int .i64 0) (.int .i64 0)
      refine (stepLoad hr hs hMf.call (hMf.slots s hs) (hMf.regs r hr)).mono ?_
      rintro e w2 ⟨rfl, W, hx, rfl⟩
      have HN := Lib.hid (hMf.putReg hx r hr ((exec L (l.take i) st0).s s))
      clear hx hMf
      go_wp2_with fail
      go_step3
      refine Or.inl ⟨rfl, n - 1, by omega, ?_⟩
      have hstep : exec L (l.take (i + 1)) st0 = _ := (exec_take L l i hil st0).trans (by rw [show l[i] = (13, (r : Int), (s : Int)) from (List.getElem?_eq_some_iff.1 hxl).2])
      refine ⟨_, pb, rt, tb, rb, sb, cb, cr, ib, vb, B, i + 1, acts_of rfl, rfl, rfl, rfl, rfl, rfl, rfl, by omega, ?_⟩
      rw [hstep]
      have hM2 := HN.out
      subst hcl
      simpa [step1] using hM2
    · simp only at x0 x1 x2
      go_wp2_with fail
      refine wp_region_still_tail 11 (by kernel_rfl) (by kernel_rfl) ?_
      show wpStill Tryz.prog _ w'.drew (fun a' => wpList Tryz.prog _ _ _ a' w'.drew) _ _
      simp only [List.take_succ_cons, List.take_zero, List.drop_succ_cons, List.drop_zero]
      repeat still_step
      refine wpStill_nil ?_
      go_wp2_with fail
      have hMf := HM.out.fetch (.int .i64 14) (.int .i64 r) (.int .i64 s) (.int .i64 0) (.int .i64 0)
      refine (stepStore hr hs hMf.call (hMf.slots s hs) (hMf.regs r hr)).mono ?_
      rintro e w2 ⟨rfl, W, hx, rfl⟩
      have HN := Lib.hid (hMf.putSlot hx s hs ((exec L (l.take i) st0).r r))
      clear hx hMf
      go_wp2_with fail
      go_step3
      refine Or.inl ⟨rfl, n - 1, by omega, ?_⟩
      have hstep : exec L (l.take (i + 1)) st0 = _ := (exec_take L l i hil st0).trans (by rw [show l[i] = (14, (r : Int), (s : Int)) from (List.getElem?_eq_some_iff.1 hxl).2])
      refine ⟨_, pb, rt, tb, rb, sb, cb, cr, ib, vb, B, i + 1, acts_of rfl, rfl, rfl, rfl, rfl, rfl, rfl, by omega, ?_⟩
      rw [hstep]
      have hM2 := HN.out
      subst hcl
      simpa [step1] using hM2
    · simp only at x0 x1 x2
      go_wp2_with fail
      refine wp_region_still_tail 11 (by kernel_rfl) (by kernel_rfl) ?_
      show wpStill Tryz.prog _ w'.drew (fun a' => wpList Tryz.prog _ _ _ a' w'.drew) _ _
      simp only [List.take_succ_cons, List.take_zero, List.drop_succ_cons, List.drop_zero]
      repeat still_step
      refine wpStill_nil ?_
      go_wp2_with fail
      have hMf := HM.out.fetch (.int .i64 8) (.int .i64 r) (.int .i64 0) (.int .i64 0) (.int .i64 0)
      have hle : (exec L (l.take i) st0).e.length ≤ i := by
        have := exec_len L (l.take i) st0
        have h0 : st0.e.length = 0 := rfl
        rw [List.length_take, h0] at this
        omega
      have hlay := hMf.lay
      refine (stepOut hr hMf.call (hMf.regs r hr) hMf.tank (by omega) (by omega) (by have := hlay.a; have := hlay.b; omega) hMf.size (by omega)).mono ?_
      rintro e w2 ⟨rfl, hT, hx⟩
      have HN := Lib.hid (hMf.putOut hx _ hT)
      clear hx hMf hT hlay
      go_wp2_with fail
      go_step3
      refine Or.inl ⟨rfl, n - 1, by omega, ?_⟩
      have hstep : exec L (l.take (i + 1)) st0 = _ := (exec_take L l i hil st0).trans (by rw [show l[i] = (8, (r : Int), 0) from (List.getElem?_eq_some_iff.1 hxl).2])
      refine ⟨_, pb, rt, tb, rb, sb, cb, cr, ib, vb, B, i + 1, acts_of rfl, rfl, rfl, rfl, rfl, rfl, rfl, by omega, ?_⟩
      rw [hstep]
      have hM2 := HN.out
      subst hcl
      simpa [step1] using hM2
    · simp only at x0 x1 x2
      obtain ⟨kg, kc, rfl, hkc, hkl, hkcell⟩ := HH.out.2.1.cell vc_len
      have hL00 : L[0] = 0 := by
        rw [List.getD_eq_getElem?_getD, List.getElem?_eq_getElem hL0] at hLn
        exact hLn
      go_wp2_with fail
      refine wp_region_still_tail 11 (by kernel_rfl) (by kernel_rfl) ?_
      show wpStill Tryz.prog _ w'.drew (fun a' => wpList Tryz.prog _ _ _ a' w'.drew) _ _
      simp only [List.take_succ_cons, List.take_zero, List.drop_succ_cons, List.drop_zero]
      repeat still_step
      refine wpStill_nil ?_
      go_wp2_with fail
      have hMf := HM.out.fetch (.int .i64 16) (.int .i64 0) (.int .i64 0) (.int .i64 0) (.int .i64 0)
      have e1 : ((((((w'.setCell ⟨ib, 0, none⟩ (.int .i64 16)).setCell ⟨ib, 1, none⟩ (.int .i64 0)).setCell ⟨ib, 2, none⟩ (.int .i64 0)).setCell ⟨ib, 3, none⟩ (.int .i64 0)).setCell ⟨ib, 4, none⟩ (.int .i64 0)).setCell ⟨cb, 5, none⟩ (.int .i64 ((l.length : Int) + 1))).drew.cell? ⟨ib, 1, none⟩ = some (.int .i64 0) := by simp [go_sem, i1, hic, hci]
      generalize ((((((w'.setCell ⟨ib, 0, none⟩ (.int .i64 16)).setCell ⟨ib, 1, none⟩ (.int .i64 0)).setCell ⟨ib, 2, none⟩ (.int .i64 0)).setCell ⟨ib, 3, none⟩ (.int .i64 0)).setCell ⟨ib, 4, none⟩ (.int .i64 0)).setCell ⟨cb, 5, none⟩ (.int .i64 ((l.length : Int) + 1))).drew = Wf at hMf e1 ⊢
      clear x0 x1 x2 x3 x4 c3 c4 c5 c7 c8 f5 mrow i0 i1 i2 i3 i4 g0 g1 g2 g3 g4
      have k0 := (hMf.below.cell (p := ⟨kg, 0 * 5 + 0, none⟩) hkl).trans (hkcell 0 hL0 0 _ rfl)
      have k1 := (hMf.below.cell (p := ⟨kg, 0 * 5 + 1, none⟩) hkl).trans (hkcell 0 hL0 1 _ rfl)
      have k2 := (hMf.below.cell (p := ⟨kg, 0 * 5 + 2, none⟩) hkl).trans (hkcell 0 hL0 2 _ rfl)
      have k3 := (hMf.below.cell (p := ⟨kg, 0 * 5 + 3, none⟩) hkl).trans (hkcell 0 hL0 3 _ rfl)
      have k4 := (hMf.below.cell (p := ⟨kg, 0 * 5 + 4, none⟩) hkl).trans (hkcell 0 hL0 4 _ rfl)
      rw [hL00] at k0 k1
      rw [kd0] at k0
      simp only [Nat.zero_mul, Nat.zero_add, Nat.add_zero] at k0 k1 k2 k3 k4
      obtain ⟨c3, c4, c5, c7, c8, f5⟩ := hMf.call
      obtain ⟨z0, v0⟩ := hMf.val.1 0 (by omega)
      obtain ⟨z1, v1⟩ := hMf.val.1 1 (by omega)
      obtain ⟨z2, v2⟩ := hMf.val.1 2 (by omega)
      obtain ⟨z3, v3⟩ := hMf.val.1 3 (by omega)
      obtain ⟨z4, v4⟩ := hMf.val.1 4 (by omega)
      have g0 := hMf.val.2 0 (by omega)
      have g1 := hMf.val.2 1 (by omega)
      have g2 := hMf.val.2 2 (by omega)
      have g3 := hMf.val.2 3 (by omega)
      have g4 := hMf.val.2 4 (by omega)
      have HMf := Lib.hid hMf
      clear hMf hkcell
      refine wp_region_still_tail 9 (by kernel_rfl) (by kernel_rfl) ?_
      show wpStill Tryz.prog _ Wf.drew (fun a' => wpList Tryz.prog _ _ _ a' Wf.drew) _ _
      simp only [List.take_succ_cons, List.take_zero, List.drop_succ_cons, List.drop_zero]
      repeat still_step
      refine wpStill_nil ?_
      go_wp2_with fail
      go_step3
      refine Or.inr ⟨rfl, ?_⟩
      obtain ⟨h1, h2⟩ := HMf.out.putVal
      subst hcl
      refine ⟨_, pb, rt, tb, rb, sb, cb, cr, ib, vb, B, l.length + 1, acts_of rfl, rfl, rfl, rfl, rfl, rfl, ?_, h2⟩
      rw [List.take_length] at h1
      simpa using h1
  · rintro a w' ⟨u, pb, rt, tb, rb, sb, cb, cr, ib, vb, B, i, rfl, u4, u5, u7, u8, u11, hM, hV0⟩
    obtain ⟨v0, v1, v2, v3, v4⟩ := hV0.cells
    simp only [Nat.zero_mul, Nat.zero_add] at v0 v1 v2 v3 v4
    rw [kd0] at v0
    have HM := Lib.hid hM
    clear hM hV0
    rw [acts_eq, u4, u5, u7, u8, u11]
    go_wp2_with fail
    have hlay := HM.out.lay
    have hla := hlay.a
    have hlb := hlay.b
    refine (end_calls HM.out.tank (by omega) HM.out.size).mono ?_
    rintro e w2 ⟨a, cap, rfl, ho, hx⟩
    have hrs := HM.out.res.fx hx (by have := HM.out.size; omega) (by omega)
    obtain ⟨z0, r0⟩ := hrs.1 0 (by omega)
    obtain ⟨z1, r1⟩ := hrs.1 1 (by omega)
    obtain ⟨z2, r2⟩ := hrs.1 2 (by omega)
    obtain ⟨z3, r3⟩ := hrs.1 3 (by omega)
    obtain ⟨z4, r4⟩ := hrs.1 4 (by omega)
    obtain ⟨z5, r5⟩ := hrs.1 5 (by omega)
    obtain ⟨z6, r6⟩ := hrs.1 6 (by omega)
    have g0 := hrs.2 0 (by omega)
    have g1 := hrs.2 1 (by omega)
    have g2 := hrs.2 2 (by omega)
    have g3 := hrs.2 3 (by omega)
    have g4 := hrs.2 4 (by omega)
    have g5 := hrs.2 5 (by omega)
    have g6 := hrs.2 6 (by omega)
    have HE := Lib.hid (And.intro ho hx)
    clear ho hx hrs
    go_wp2_with fail
    simp only [jump2]
    show bodyPost Tryz.prog Tryz.f26 _ Exit.ret _ _
    refine bodyPost_ret (v := .tuple #[.agg #[.slice a (exec L l st0).e.length (exec L l st0).e.length, .int .i64 0, .int .i64 0, .complex .f64 0 0, .string ⟨#[]⟩, .slice none 0 0, .int .i64 0], .int .i64 0]) (by simp [results, Tryz.results26, go_sem, r0, r1, r2, r3, r4, r5, r6]) rfl ?_
    obtain ⟨ho, hx⟩ := HE.out
    have hsz := HM.out.size
    have hs2 := hx.size
    have hend : ∀ y0 y1 y2 y3 y4 y5 y6, Fx (fun g => g = rt) w2 (((((((w2.setCell ⟨rt, 0, none⟩ y0).setCell ⟨rt, 1, none⟩ y1).setCell ⟨rt, 2, none⟩ y2).setCell ⟨rt, 3, none⟩ y3).setCell ⟨rt, 4, none⟩ y4).setCell ⟨rt, 5, none⟩ y5).setCell ⟨rt, 6, none⟩ y6) := fun y0 y1 y2 y3 y4 y5 y6 =>
      Fx.setCell (Fx.setCell (Fx.setCell (Fx.setCell (Fx.setCell (Fx.setCell (Fx.setCell (S := fun g => g = rt) (Fx.refl _ _) rfl _) rfl _) rfl _) rfl _) rfl _) rfl _) rfl _
    refine ⟨a, cap, B, rfl, owns_fx ho (hend _ _ _ _ _ _ _) (fun g hg _ e => by omega), by omega, ?_⟩
    exact (HM.out.below.trans (hx.below (by omega) fun g hg h => by omega)).trans ((hend _ _ _ _ _ _ _).below (by omega) fun g hg h => by omega)

end Go.Proofs.YtplnnlnkcfappaaGreat.Rs
