/- SvmLoops: the law walked. -/
import Derived.Test.YtplnnlnkcfappaaGreatUe
import Derived.Test.YtplnnlnkcfappaaGreatUg
import Derived.Test.YtplnnlnkcfappaaGreatTs
namespace Go.Proofs.YtplnnlnkcfappaaGreat.Sv
open Go.RowKit E3
set_option linter.unusedSimpArgs false
set_option linter.unusedVariables false

theorem text_eq (n a h : Nat) : (S13 n a h ++ PD).data.toList = textL n a h := by
  have e : (Hw h).data.toList = howL h := by
    match h with
    | 0 => rfl
    | 1 => rfl
    | 2 => rfl
    | k + 3 => rfl
  unfold S13 S6 textL
  simp only [ba_append', List.append_assoc, e]
  rfl
theorem Prg.grow' {w w' : World} {B B' g o : Nat} {fs : List FV} (h : Prg w B g o fs) (hb : Below B w w') (hB : B ≤ B') : Prg w' B' g o fs :=
  ⟨Nat.lt_of_lt_of_le h.lt hB, fun i f hi => by
    obtain ⟨sc, sk, gc, h1, h2⟩ := h.fns i f hi
    have h3 := h2.below hb
    refine ⟨sc, sk, gc, fun j u hj => (hb.cell h.lt).trans (h1 j u hj), h3.ones, h3.nl, h3.con, Nat.lt_of_lt_of_le h3.gc hB, h3.few, h3.le2, ?_, h3.short⟩
    obtain ⟨gk, ok, ck, e1, e2, e3⟩ := h3.code
    exact ⟨gk, ok, ck, e1, Nat.lt_of_lt_of_le e2 hB, e3⟩⟩
theorem red_nat' (a : Int) (m : Nat) (h0 : 0 < m) (h1 : (m : Int) < 65536) : ∃ n : Nat, n < m ∧ (bits BinOp.and IntKind.i64 a 65535).tmod m = (n : Int) := by
  have hlt := E3.maskd_lt a 16 (by omega)
  have key : bits BinOp.and IntKind.i64 a 65535 = ((E3.maskd a 16 : Nat) : Int) := by
    show IntKind.i64.wrap ((E3.maskd a 16 : Nat) : Int) = _
    rw [E3.i64_wrap_small (by omega) (by omega)]
  refine ⟨E3.maskd a 16 % m, Nat.mod_lt _ h0, ?_⟩
  rw [key, Int.tmod_eq_emod_of_nonneg (by omega)]
  exact (Int.natCast_emod _ _).symm

set_option maxRecDepth 100000 in
set_option maxHeartbeats 8000000 in
theorem loops_calls (w : World) (A B z : Int) : Calls Tryz.prog 5 #[.int .i64 A, .int .i64 B, .int .i64 z] w fun e w' => e = .returned (.bool true) ∧ Below w.heap.size w w' := by
  obtain ⟨n, hn, en⟩ := red_nat' A 100 (by decide) (by decide)
  obtain ⟨a, ha, ea⟩ := red_nat' B 100 (by decide) (by decide)
  obtain ⟨h, hh, ez⟩ := and_nat z 2 (by decide) 3 rfl
  have en' : (bits BinOp.and IntKind.i64 A 65535).tmod 100 = (n : Int) := en
  have ea' : (bits BinOp.and IntKind.i64 B 65535).tmod 100 = (a : Int) := ea
  have hh' : h < 4 := hh
  clear en ea hh
  go_enter Tryz.func5, Tryz.ntmps5
  go_wp2_with fail
  refine gen_act fun A0 hA0 => ?_
  have hsz : A0.tmps.size = 102 := by rw [hA0]; rfl
  have g0 : A0.tmps.getD 0 undef = .int .i64 n := by rw [hA0]; rfl
  have g1 : A0.tmps.getD 1 undef = .int .i64 a := by rw [hA0]; rfl
  have g2 : A0.tmps.getD 2 undef = .int .i64 z := by rw [hA0]; rfl
  have HA0 := Lib.hid hA0
  clear hA0
  refine wp_region_grow (ds := dsl) (F := Fl n a h z) (m := 1) (r := 2) mix (by decide) (by decide) (by decide) rfl (by kernel_rfl) (by kernel_rfl) (fun j v w w' h hb => h.below hb) ?_ ?_
  · intro la V w' q hq hf hall
    have hfact := fun i t (hm : (i, t) ∈ dsl) (hl : la.getD i false = true) => (show Fl n a h z i (V i) w' from hf.fact (i, t) hm hl)
    have hget : ∀ i t, (i, t) ∈ dsl → la.getD i false = true → t < 102 → (putAll la V A0 dsl).tmps.getD t undef = V i := fun i t hm hl ht =>
      putAll_get la V A0 i t hl (by rw [hsz]; exact ht) dsl (by decide) hm
    have hoth : ∀ t, t < 102 → t ∉ dsl.map (·.2) → (putAll la V A0 dsl).tmps.getD t undef = A0.tmps.getD t undef := fun t ht hn =>
      putAll_other la V A0 t (by rw [hsz]; exact ht) dsl hn
    have e0 := (hoth 0 (by decide) (by decide)).trans g0
    have e1 := (hoth 1 (by decide) (by decide)).trans g1
    have e2 := (hoth 2 (by decide) (by decide)).trans g2
    generalize putAll la V A0 dsl = aa at *
    have z1 := Dg_size n
    have z2 := Dg_size a
    have z3 := Hw_size h
    simp only [dsl, List.mem_cons, List.not_mem_nil, or_false] at hq
    rcases hq with rfl | rfl | rfl | rfl | rfl | rfl | rfl | rfl | rfl | rfl | rfl | rfl | rfl | rfl | rfl
    · exact wpOp_value rfl rfl (v := .int .i64 n) (w' := w') (by simp [execOp, Act.eval, e0]) ⟨_, rfl, Below.refl _ _, rfl⟩
    · have la := hall _ rfl ⟨0, .data⟩ (by simp) rfl
      have da := (hget 0 21 (by decide) la (by decide)).trans (hfact 0 21 (by decide) la)
      refine wpOp_enter rfl rfl (f := 19) (args := #[.int .i64 n]) (w' := w') (by simp [execOp, Act.eval, da, go_sem]) ((digits_calls w' (n := n) (by omega)).mono ?_)
      rintro e w2 ⟨rfl, hb⟩
      exact ⟨_, rfl, _, rfl, hb, rfl⟩
    · have la := hall _ rfl ⟨1, .data⟩ (by simp) rfl
      have da := (hget 1 22 (by decide) la (by decide)).trans (hfact 1 22 (by decide) la)
      have hr := run_cat (P := Tryz.prog) (x := PA) (y := Dg n) (by simp only [S13, S6, ByteArray.size_append, PA_size, PB_size, PC_size, PD_size]; omega) w' 9 (.const (.string PA)) (.tmp 22)
      rw [← da] at hr
      exact wpOp_value rfl rfl (w' := w') (by simp only [execOp]; exact valued hr) ⟨_, rfl, Below.refl _ _, rfl⟩
    · have la := hall _ rfl ⟨2, .data⟩ (by simp) rfl
      have da := (hget 2 23 (by decide) la (by decide)).trans (hfact 2 23 (by decide) la)
      have hr := run_cat (P := Tryz.prog) (x := PA ++ Dg n) (y := PB) (by simp only [S13, S6, ByteArray.size_append, PA_size, PB_size, PC_size, PD_size]; omega) w' 9 (.tmp 23) (.const (.string PB))
      rw [← da] at hr
      exact wpOp_value rfl rfl (w' := w') (by simp only [execOp]; exact valued hr) ⟨_, rfl, Below.refl _ _, rfl⟩
    · exact wpOp_value rfl rfl (v := .int .i64 a) (w' := w') (by simp [execOp, Act.eval, e1]) ⟨_, rfl, Below.refl _ _, rfl⟩
    · have la := hall _ rfl ⟨4, .data⟩ (by simp) rfl
      have da := (hget 4 25 (by decide) la (by decide)).trans (hfact 4 25 (by decide) la)
      refine wpOp_enter rfl rfl (f := 19) (args := #[.int .i64 a]) (w' := w') (by simp [execOp, Act.eval, da, go_sem]) ((digits_calls w' (n := a) (by omega)).mono ?_)
      rintro e w2 ⟨rfl, hb⟩
      exact ⟨_, rfl, _, rfl, hb, rfl⟩
    · have la := hall _ rfl ⟨3, .data⟩ (by simp) rfl
      have da := (hget 3 24 (by decide) la (by decide)).trans (hfact 3 24 (by decide) la)
      have lb := hall _ rfl ⟨5, .data⟩ (by simp) rfl
      have db := (hget 5 26 (by decide) lb (by decide)).trans (hfact 5 26 (by decide) lb)
      have hr := run_cat (P := Tryz.prog) (x := PA ++ Dg n ++ PB) (y := Dg a) (by simp only [S13, S6, ByteArray.size_append, PA_size, PB_size, PC_size, PD_size]; omega) w' 9 (.tmp 24) (.tmp 26)
      rw [← da, ← db] at hr
      exact wpOp_value rfl rfl (w' := w') (by simp only [execOp]; exact valued hr) ⟨_, rfl, Below.refl _ _, rfl⟩
    · have la := hall _ rfl ⟨6, .data⟩ (by simp) rfl
      have da := (hget 6 27 (by decide) la (by decide)).trans (hfact 6 27 (by decide) la)
      have hr := run_cat (P := Tryz.prog) (x := S6 n a) (y := PC) (by simp only [S13, S6, ByteArray.size_append, PA_size, PB_size, PC_size, PD_size]; omega) w' 9 (.tmp 27) (.const (.string PC))
      rw [← da] at hr
      exact wpOp_value rfl rfl (w' := w') (by simp only [execOp]; exact valued hr) ⟨_, rfl, Below.refl _ _, rfl⟩
    · have hrow := row4 w' (Hw 0) (Hw 1) (Hw 2) (Hw 3)
      have hmap : (#[(0, Operand.const (.string (Hw 0))), (1, Operand.const (.string (Hw 1))), (2, Operand.const (.string (Hw 2))), (3, Operand.const (.string (Hw 3)))] : Array (Nat × Operand)).map (fun x => (x.1, aa.eval x.2)) = #[(0, .string (Hw 0)), (1, .string (Hw 1)), (2, .string (Hw 2)), (3, .string (Hw 3))] := by simp [Act.eval]
      rw [← hmap] at hrow
      refine wpOp_value rfl rfl (by simp only [execOp]; exact valued hrow) ⟨_, rfl, (Below.refl _ _).alloc (Nat.le_refl _) _, _, rfl, fun k hk => ?_⟩
      obtain rfl | rfl | rfl | rfl : k = 0 ∨ k = 1 ∨ k = 2 ∨ k = 3 := by omega
      all_goals simp [go_sem]
    · exact wpOp_value rfl rfl (v := .int .i64 z) (w' := w') (by simp [execOp, Act.eval, e2]) ⟨_, rfl, Below.refl _ _, rfl⟩
    · have la := hall _ rfl ⟨9, .data⟩ (by simp) rfl
      have da := (hget 9 30 (by decide) la (by decide)).trans (hfact 9 30 (by decide) la)
      exact wpOp_value rfl rfl (v := .int .i64 h) (w' := w') (by simp [execOp, Act.eval, da, go_sem, ez]) ⟨_, rfl, Below.refl _ _, rfl⟩
    · have la' := hall _ rfl ⟨8, .data⟩ (by simp) rfl
      obtain ⟨g, hv, hcell⟩ := hfact 8 29 (by decide) la'
      have da := (hget 8 29 (by decide) la' (by decide)).trans hv
      have lb := hall _ rfl ⟨10, .data⟩ (by simp) rfl
      have db := (hget 10 31 (by decide) lb (by decide)).trans (hfact 10 31 (by decide) lb)
      have h0 : (0 : Int) ≤ (h : Int) := by omega
      have h1 : (h : Int) < 4 := by omega
      exact wpOp_value rfl rfl (v := .pointer (some ⟨g, h, none⟩)) (w' := w') (by simp [execOp, Act.eval, da, db, go_sem, h0, h1]) ⟨_, rfl, Below.refl _ _, g, rfl, hcell h (by omega)⟩
    · have la' := hall _ rfl ⟨11, .data⟩ (by simp) rfl
      obtain ⟨g, hv, hcell⟩ := hfact 11 32 (by decide) la'
      have da := (hget 11 32 (by decide) la' (by decide)).trans hv
      exact wpOp_value rfl rfl (v := .string (Hw h)) (w' := w') (by simp [execOp, Act.eval, da, go_sem, hcell]) ⟨_, rfl, Below.refl _ _, rfl⟩
    · have la := hall _ rfl ⟨7, .data⟩ (by simp) rfl
      have da := (hget 7 28 (by decide) la (by decide)).trans (hfact 7 28 (by decide) la)
      have lb := hall _ rfl ⟨12, .data⟩ (by simp) rfl
      have db := (hget 12 33 (by decide) lb (by decide)).trans (hfact 12 33 (by decide) lb)
      have hr := run_cat (P := Tryz.prog) (x := S6 n a ++ PC) (y := Hw h) (by simp only [S13, S6, ByteArray.size_append, PA_size, PB_size, PC_size, PD_size]; omega) w' 9 (.tmp 28) (.tmp 33)
      rw [← da, ← db] at hr
      exact wpOp_value rfl rfl (w' := w') (by simp only [execOp]; exact valued hr) ⟨_, rfl, Below.refl _ _, rfl⟩
    · have la := hall _ rfl ⟨13, .data⟩ (by simp) rfl
      have da := (hget 13 34 (by decide) la (by decide)).trans (hfact 13 34 (by decide) la)
      have hr := run_cat (P := Tryz.prog) (x := S13 n a h) (y := PD) (by simp only [S13, S6, ByteArray.size_append, PA_size, PB_size, PC_size, PD_size]; omega) w' 9 (.tmp 34) (.const (.string PD))
      rw [← da] at hr
      exact wpOp_value rfl rfl (w' := w') (by simp only [execOp]; exact valued hr) ⟨_, rfl, Below.refl _ _, rfl⟩
  · intro la V w1 hf hall
    have hla : la = [true, true, true, true, true, true, true, true, true, true, true, true, true, true, true, false].toArray := la_eq hf.size (by
      intro i hi
      simp only [List.length_cons, List.length_nil] at hi
      obtain rfl | rfl | rfl | rfl | rfl | rfl | rfl | rfl | rfl | rfl | rfl | rfl | rfl | rfl | rfl | rfl : i = 0 ∨ i = 1 ∨ i = 2 ∨ i = 3 ∨ i = 4 ∨ i = 5 ∨ i = 6 ∨ i = 7 ∨ i = 8 ∨ i = 9 ∨ i = 10 ∨ i = 11 ∨ i = 12 ∨ i = 13 ∨ i = 14 ∨ i = 15 := by omega
      · exact hall (0, 21) (by decide)
      · exact hall (1, 22) (by decide)
      · exact hall (2, 23) (by decide)
      · exact hall (3, 24) (by decide)
      · exact hall (4, 25) (by decide)
      · exact hall (5, 26) (by decide)
      · exact hall (6, 27) (by decide)
      · exact hall (7, 28) (by decide)
      · exact hall (8, 29) (by decide)
      · exact hall (9, 30) (by decide)
      · exact hall (10, 31) (by decide)
      · exact hall (11, 32) (by decide)
      · exact hall (12, 33) (by decide)
      · exact hall (13, 34) (by decide)
      · exact hall (14, 35) (by decide)
      · exact hf.others 15 (by decide))
    subst hla
    have v14 : V 14 = .string (S13 n a h ++ PD) := hf.fact (14, 35) (by decide) rfl
    have hb : Below w.heap.size w w1 := ⟨hf.below.os, hf.below.tape, hf.below.output, hf.below.size, hf.below.block⟩
    clear hf hall
    rw [show putAll [true, true, true, true, true, true, true, true, true, true, true, true, true, true, true, false].toArray V A0 dsl = (((((((((((((((A0.put (some 35) (V 14)).put (some 34) (V 13)).put (some 33) (V 12)).put (some 32) (V 11)).put (some 31) (V 10)).put (some 30) (V 9)).put (some 29) (V 8)).put (some 28) (V 7)).put (some 27) (V 6)).put (some 26) (V 5)).put (some 25) (V 4)).put (some 24) (V 3)).put (some 23) (V 2)).put (some 22) (V 1)).put (some 21) (V 0)) from rfl]
    rw [v14, HA0.out]
    clear v14 HA0 g0 g1 g2 hsz
    simp only [Act.put, List.setIfInBounds_toArray, List.set_cons_zero, List.set_cons_succ]
    refine wpAny_ready (rs := [15]) (by kernel_rfl) (by simp) ?_
    refine AllReady.cons rfl (fun K hK => ?_) AllReady.nil
    go_simp
    refine hK _ _ ?_
    clear hK K
    refine wpAny_done (by kernel_rfl) ?_ _
    have HB1 := Lib.hid hb
    clear hb
    go_wp2_with fail
    refine (loops_made hn ha hh' (text_eq n a h)).mono ?_
    rintro e w2 ⟨g, o, cap, f, c0, cn, c1, ca, cz, rfl, hb2, hP, hc, hl2, hcode, k0, kn1, k1, ka⟩
    have HM := Lib.hid (And.intro hb2 (And.intro hP hc))
    obtain ⟨t, r, ⟨N, hr⟩, htl, hrv⟩ := loop_runs (how := h) (cz := cz) kn1 k1 ka k0 hn ha hh'
    have ht99 : t.length ≤ 99 := by
      rw [htl]
      split
      · split <;> omega
      · omega
    have hM := MRuns.one (fs := [f]) hl2 (by rw [hcode]; exact hr) 999 (by omega)
    have HR := Lib.hid (And.intro hl2 hM)
    clear hb2 hP hc hl2 hcode k0 kn1 k1 ka hr hM
    go_wp2_with fail
    have hsz2 : (w2.alloc (.cells #[.slice (some ⟨g, o, none⟩) 1 cap, .int .i64 0] 24)).heap.size = w2.heap.size + 1 := by simp
    have hbA : Below w2.heap.size w2 (w2.alloc (.cells #[.slice (some ⟨g, o, none⟩) 1 cap, .int .i64 0] 24)) := (Below.refl _ _).alloc (Nat.le_refl _) _
    refine (run_calls (g := g) (o := o) (cap := cap) (main := 0) (fuel := 999) (fs := [f]) (f0 := f) (t := t) (R := some r) (N := N) (HM.out.2.1.grow' hbA (by omega)) rfl (.inr HR.out.1) (by omega) (fun w3 hb3 => HM.out.2.2 w3 (hbA.trans (hb3.mono (by omega)))) (by rw [HR.out.1]; exact HR.out.2)).mono ?_
    rintro e w3 ⟨a1, cap1, base, rfl, ho, hbb, hb3⟩
    clear hsz2 hbA
    simp only [resOf]
    have hle2 := hb3.size
    have HB3 := Lib.hid (And.intro hb3 hle2)
    clear hb3 hle2 ho hbb HR
    have hwa : IntKind.i64.wrap ((a : Int) - 1) = (a : Int) - 1 := by
      rw [IntKind.wrap_i64]
      omega
    have hwn : IntKind.i64.wrap ((n : Int) - 1) = (n : Int) - 1 := by
      rw [IntKind.wrap_i64]
      omega
    by_cases hit : 1 ≤ a ∧ a ≤ n
    · rw [if_pos hit] at htl hrv
      have q1 : (1 : Int) ≤ (a : Int) := by omega
      have q2 : (a : Int) ≤ (n : Int) := by omega
      obtain rfl | rfl | rfl | rfl : h = 0 ∨ h = 1 ∨ h = 2 ∨ h = 3 := by omega
      · have hL : (t.length : Int) = (a : Int) - 1 := by
          simp at htl
          omega
        have hR : (r : Int) = (a : Int) - 1 := by
          simp at hrv
          omega
        have ez' : bits BinOp.and IntKind.i64 z 3 = 0 := ez
        clear ez
        clear htl hrv ht99
        go_wp2_with fail
        refine (awakeK_calls _).mono ?_
        rintro e w4 ⟨rfl, hb4⟩
        have HB4 := Lib.hid hb4
        clear hb4
        go_wp2
        go_ret
        refine ⟨rfl, ?_⟩
        obtain ⟨h3, h4⟩ := HB3.out
        have hb1 := HB1.out
        have hb2 := HM.out.1
        have s2 : (w2.alloc (.cells #[.slice (some ⟨g, o, none⟩) 1 cap, .int .i64 0] 24)).heap.size = w2.heap.size + 1 := by simp
        have b1 := hb1.trans (hb2.mono hb1.size)
        have l2 := b1.size
        have b2 := (b1.alloc l2 (.cells #[.slice (some ⟨g, o, none⟩) 1 cap, .int .i64 0] 24)).trans (h3.mono (by omega))
        have l3 := b2.size
        exact (b2.alloc l3 _).trans (HB4.out.mono (by simp; omega))
      · have hL : (t.length : Int) = (n : Int) := by
          simp at htl
          omega
        have hR : (r : Int) = (n : Int) - 1 := by
          simp at hrv
          omega
        have ez' : bits BinOp.and IntKind.i64 z 3 = 1 := ez
        clear ez
        clear htl hrv ht99
        go_wp2_with fail
        refine (awakeK_calls _).mono ?_
        rintro e w4 ⟨rfl, hb4⟩
        have HB4 := Lib.hid hb4
        clear hb4
        go_wp2
        go_ret
        refine ⟨rfl, ?_⟩
        obtain ⟨h3, h4⟩ := HB3.out
        have hb1 := HB1.out
        have hb2 := HM.out.1
        have s2 : (w2.alloc (.cells #[.slice (some ⟨g, o, none⟩) 1 cap, .int .i64 0] 24)).heap.size = w2.heap.size + 1 := by simp
        have b1 := hb1.trans (hb2.mono hb1.size)
        have l2 := b1.size
        have b2 := (b1.alloc l2 (.cells #[.slice (some ⟨g, o, none⟩) 1 cap, .int .i64 0] 24)).trans (h3.mono (by omega))
        have l3 := b2.size
        exact (b2.alloc l3 _).trans (HB4.out.mono (by simp; omega))
      · have hL : (t.length : Int) = (a : Int) - 1 := by
          simp at htl
          omega
        have hR : (r : Int) = (a : Int) - 1 := by
          simp at hrv
          omega
        have ez' : bits BinOp.and IntKind.i64 z 3 = 2 := ez
        clear ez
        clear htl hrv ht99
        go_wp2_with fail
        refine (awakeK_calls _).mono ?_
        rintro e w4 ⟨rfl, hb4⟩
        have HB4 := Lib.hid hb4
        clear hb4
        go_wp2
        go_ret
        refine ⟨rfl, ?_⟩
        obtain ⟨h3, h4⟩ := HB3.out
        have hb1 := HB1.out
        have hb2 := HM.out.1
        have s2 : (w2.alloc (.cells #[.slice (some ⟨g, o, none⟩) 1 cap, .int .i64 0] 24)).heap.size = w2.heap.size + 1 := by simp
        have b1 := hb1.trans (hb2.mono hb1.size)
        have l2 := b1.size
        have b2 := (b1.alloc l2 (.cells #[.slice (some ⟨g, o, none⟩) 1 cap, .int .i64 0] 24)).trans (h3.mono (by omega))
        have l3 := b2.size
        exact (b2.alloc l3 _).trans (HB4.out.mono (by simp; omega))
      · have hL : (t.length : Int) = (n : Int) := by
          simp at htl
          omega
        have hR : (r : Int) = (n : Int) := by
          simp at hrv
          omega
        have ez' : bits BinOp.and IntKind.i64 z 3 = 3 := ez
        clear ez
        clear htl hrv ht99
        go_wp2_with fail
        refine (awakeK_calls _).mono ?_
        rintro e w4 ⟨rfl, hb4⟩
        have HB4 := Lib.hid hb4
        clear hb4
        go_wp2
        go_ret
        refine ⟨rfl, ?_⟩
        obtain ⟨h3, h4⟩ := HB3.out
        have hb1 := HB1.out
        have hb2 := HM.out.1
        have s2 : (w2.alloc (.cells #[.slice (some ⟨g, o, none⟩) 1 cap, .int .i64 0] 24)).heap.size = w2.heap.size + 1 := by simp
        have b1 := hb1.trans (hb2.mono hb1.size)
        have l2 := b1.size
        have b2 := (b1.alloc l2 (.cells #[.slice (some ⟨g, o, none⟩) 1 cap, .int .i64 0] 24)).trans (h3.mono (by omega))
        have l3 := b2.size
        exact (b2.alloc l3 _).trans (HB4.out.mono (by simp; omega))
    · rw [if_neg hit] at htl hrv
      have hL : (t.length : Int) = (n : Int) := by omega
      have hR : (r : Int) = (n : Int) := by omega
      by_cases q1 : (1 : Int) ≤ (a : Int)
      · have q2 : ¬ (a : Int) ≤ (n : Int) := by omega
        clear hit
        clear htl hrv ht99
        go_wp2_with fail
        refine (awakeK_calls _).mono ?_
        rintro e w4 ⟨rfl, hb4⟩
        have HB4 := Lib.hid hb4
        clear hb4
        go_wp2
        go_ret
        refine ⟨rfl, ?_⟩
        obtain ⟨h3, h4⟩ := HB3.out
        have hb1 := HB1.out
        have hb2 := HM.out.1
        have s2 : (w2.alloc (.cells #[.slice (some ⟨g, o, none⟩) 1 cap, .int .i64 0] 24)).heap.size = w2.heap.size + 1 := by simp
        have b1 := hb1.trans (hb2.mono hb1.size)
        have l2 := b1.size
        have b2 := (b1.alloc l2 (.cells #[.slice (some ⟨g, o, none⟩) 1 cap, .int .i64 0] 24)).trans (h3.mono (by omega))
        have l3 := b2.size
        exact (b2.alloc l3 _).trans (HB4.out.mono (by simp; omega))
      · skip
        clear hit
        clear htl hrv ht99
        go_wp2_with fail
        refine (awakeK_calls _).mono ?_
        rintro e w4 ⟨rfl, hb4⟩
        have HB4 := Lib.hid hb4
        clear hb4
        go_wp2
        go_ret
        refine ⟨rfl, ?_⟩
        obtain ⟨h3, h4⟩ := HB3.out
        have hb1 := HB1.out
        have hb2 := HM.out.1
        have s2 : (w2.alloc (.cells #[.slice (some ⟨g, o, none⟩) 1 cap, .int .i64 0] 24)).heap.size = w2.heap.size + 1 := by simp
        have b1 := hb1.trans (hb2.mono hb1.size)
        have l2 := b1.size
        have b2 := (b1.alloc l2 (.cells #[.slice (some ⟨g, o, none⟩) 1 cap, .int .i64 0] 24)).trans (h3.mono (by omega))
        have l3 := b2.size
        exact (b2.alloc l3 _).trans (HB4.out.mono (by simp; omega))

end Go.Proofs.YtplnnlnkcfappaaGreat.Sv
