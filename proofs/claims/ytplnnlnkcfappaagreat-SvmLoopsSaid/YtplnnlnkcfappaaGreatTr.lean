/- The machine with a stack: values are popped, and where they lie; one is pushed. -/
import Derived.Test.YtplnnlnkcfappaaGreatTq
namespace Go.Proofs.YtplnnlnkcfappaaGreat.Sv
open Go.RowKit E3
set_option linter.unusedSimpArgs false
set_option linter.unusedVariables false

set_option maxHeartbeats 1000000 in
theorem pop_exact {w : World} {cb g o cap h n : Nat} {a : List Value} (ha : a.length = 7) (hc : VarW w cb 129 (a ++ [.slice (some ⟨g, o, none⟩) h cap])) (hn : n ≤ h) (hn0 : 1 ≤ n) (hcap : h ≤ cap) (hmax : cap ≤ maxLen) :
    Calls Tryz.prog 43 #[.pointer (some ⟨cb, 0, none⟩), .int .i64 n] w fun e w' => e = .returned (.slice (some ⟨g, o + 5 * (h - n), none⟩) n (cap - (h - n))) ∧ w' = w.setCell ⟨cb, 7, none⟩ (.slice (some ⟨g, o, none⟩) (h - n) cap) := by
  have c7 : w.cell? ⟨cb, 7, none⟩ = some (.slice (some ⟨g, o, none⟩) h cap) := E3.VarW.cell hc 7 (by rw [List.getElem?_append_right (by omega), ha]; rfl)
  have f7 : w.frozen? ⟨cb, 7, none⟩ = false := by
    obtain ⟨cs, h1, _⟩ := hc
    exact froz h1 7
  have hM : maxLen = 9223372036854775807 := rfl
  have hw : IntKind.i64.wrap ((h : Int) - n) = ((h - n : Nat) : Int) := by rw [IntKind.wrap_i64]; omega
  have h0 : (0 : Int) ≤ ((h - n : Nat) : Int) := by omega
  have h1 : ((h - n : Nat) : Int) ≤ (h : Int) := by omega
  have h2 : ((h - n : Nat) : Int) ≤ (cap : Int) := by omega
  have h3 : (h : Int) ≤ (cap : Int) := by omega
  clear hc
  go_enter Tryz.func43, Tryz.ntmps43
  go_wp2
  go_ret
  refine ⟨?_, rfl⟩
  show Ending.returned (.slice (some ⟨g, o + (h - n) * 5, none⟩) (h - (h - n)) (cap - (h - n))) = _
  rw [show h - (h - n) = n by omega, Nat.mul_comm]


/-! ### The tank at the end -/
structure TkE (w : World) (tb base : Nat) (fuel : Int) (evs : List Int) (E : Int) : Prop where
  c0 : w.cell? ⟨tb, 0, none⟩ = some (.int .i64 fuel)
  ev : ∃ v, w.cell? ⟨tb, 1, none⟩ = some v ∧ w.ownsRow base 69 7 v evs.length (flat ec evs)
  c2 : w.cell? ⟨tb, 2, none⟩ = some (.int .i64 0)
  c3 : w.cell? ⟨tb, 3, none⟩ = some (.int .i64 0)
  c4 : w.cell? ⟨tb, 4, none⟩ = some (.complex .f64 0 0)
  c5 : w.cell? ⟨tb, 5, none⟩ = some (.string ⟨#[]⟩)
  c6 : w.cell? ⟨tb, 6, none⟩ = some (.slice none 0 0)
  c7 : w.cell? ⟨tb, 7, none⟩ = some (.int .i64 E)
  fz : ∀ j, j < 8 → w.frozen? ⟨tb, j, none⟩ = false
theorem Tk.toE {w : World} {tb base : Nat} {fuel : Int} {evs : List Int} (h : Tk w tb base fuel evs) : TkE w tb base fuel evs 0 := ⟨h.c0, h.ev, h.c2, h.c3, h.c4, h.c5, h.c6, h.c7, h.fz⟩
section
variable {w w' : World} {tb base : Nat} {fuel E : Int} {evs : List Int}
theorem TkE.lt (h : TkE w tb base fuel evs E) : tb < w.heap.size := World.block_lt_of_cell? w _ h.c0
theorem TkE.fx {S : Nat → Prop} (h : TkE w tb base fuel evs E) (hx : Fx S w w') (ht : ¬ S tb) (hS : ∀ g, base ≤ g → g < w.heap.size → ¬ S g) : TkE w' tb base fuel evs E := by
  have hc := hx.cell h.lt ht
  obtain ⟨v, hv, ho⟩ := h.ev
  exact ⟨(hc _).trans h.c0, ⟨v, (hc _).trans hv, owns_fx ho hx hS⟩, (hc _).trans h.c2, (hc _).trans h.c3, (hc _).trans h.c4, (hc _).trans h.c5, (hc _).trans h.c6, (hc _).trans h.c7, fun j hj => (hx.frozen h.lt ht _).trans (h.fz j hj)⟩
theorem TkE.cells (hT : TkE w tb base fuel evs E) : w.cell? ⟨tb, 2, none⟩ = some (.int .i64 0) ∧ w.cell? ⟨tb, 3, none⟩ = some (.int .i64 0) ∧ w.cell? ⟨tb, 4, none⟩ = some (.complex .f64 0 0) ∧ w.cell? ⟨tb, 5, none⟩ = some (.string ⟨#[]⟩) ∧ w.cell? ⟨tb, 6, none⟩ = some (.slice none 0 0) ∧ w.cell? ⟨tb, 7, none⟩ = some (.int .i64 E) :=
  ⟨hT.c2, hT.c3, hT.c4, hT.c5, hT.c6, hT.c7⟩
theorem TkE.free (hT : TkE w tb base fuel evs E) : w.frozen? ⟨tb, 1, none⟩ = false ∧ w.frozen? ⟨tb, 2, none⟩ = false ∧ w.frozen? ⟨tb, 3, none⟩ = false ∧ w.frozen? ⟨tb, 4, none⟩ = false ∧ w.frozen? ⟨tb, 5, none⟩ = false ∧ w.frozen? ⟨tb, 6, none⟩ = false ∧ w.frozen? ⟨tb, 7, none⟩ = false :=
  ⟨hT.fz 1 (by omega), hT.fz 2 (by omega), hT.fz 3 (by omega), hT.fz 4 (by omega), hT.fz 5 (by omega), hT.fz 6 (by omega), hT.fz 7 (by omega)⟩
end
def kv (k z : Int) : Value := .agg #[.int .i64 k, .int .i64 z, .complex .f64 0 0, .string ⟨#[]⟩, .slice none 0 0]
set_option maxRecDepth 100000 in
set_option maxHeartbeats 4000000 in
theorem endE_calls {w : World} {tb base : Nat} {fuel z k E : Int} {evs : List Int} (hcopy : ∀ w : World, Calls Tryz.prog 83 #[kv k z] w fun e w' => e = .returned (kv k z) ∧ Below w.heap.size w w') (hT : TkE w tb base fuel evs E) (hb0 : tb < base) (hb1 : base ≤ w.heap.size) :
    Calls Tryz.prog 44 #[.pointer (some ⟨tb, 0, none⟩), kv k z] w fun e w' => ∃ a cap, e = .returned (.agg #[.slice a evs.length evs.length, .int .i64 k, .int .i64 z, .complex .f64 0 0, .string ⟨#[]⟩, .slice none 0 0, .int .i64 E]) ∧ w'.ownsRow base 69 7 (.slice a evs.length cap) evs.length (flat ec evs) ∧ Fx (fun g => g = tb ∨ base ≤ g) w w' := by
  obtain ⟨v0, hv0, ho0⟩ := hT.ev
  obtain ⟨a, cap, rfl⟩ := owns_slice ho0
  have hlt := hT.lt
  have HT0 := Lib.hid (And.intro hT (And.intro hv0 ho0))
  clear hT hv0 ho0
  unfold kv
  go_enter Tryz.func44, Tryz.ntmps44
  go_wp2_with fail
  refine (hcopy _).mono ?_
  rintro e w1 ⟨rfl, hb⟩
  have hxx : Fx (fun _ => False) w w1 := (Fx.alloc (Fx.alloc (Fx.refl _ w) _) _).trans (Fx.ofB hb)
  obtain ⟨hT, hv0, ho0⟩ := HT0.out
  have hT1 := hT.fx hxx (fun h => h) (fun _ _ _ h => h)
  have T1 := (hxx.cell hlt (fun h => h) 1).trans hv0
  have TO := owns_fx' ho0 hxx (fun _ _ h => h)
  have hob := fun g hg => (owns_lt ho0 (g := g) hg)
  have hs1 : w.heap.size + 2 ≤ w1.heap.size := by have := hb.size; simpa using this
  have zz : ∀ j u, ([.slice none 0 0, .int .i64 0, .int .i64 0, .complex .f64 0 0, .string ⟨#[]⟩, .slice none 0 0, .int .i64 0] : List Value)[j]? = some u → w1.cell? ⟨w.heap.size + 1, j, none⟩ = some u := by
    intro j u hu
    rw [hb.cell (by simp)]
    simpa [go_sem] using hu
  have zf : ∀ j, j < 7 → w1.frozen? ⟨w.heap.size + 1, j, none⟩ = false := by
    intro j hj
    rw [hb.frozen (by simp)]
    simp [go_sem]
  have z0 := zz 0 _ rfl
  have z1 := zz 1 _ rfl
  have z2 := zz 2 _ rfl
  have z3 := zz 3 _ rfl
  have z4 := zz 4 _ rfl
  have z5 := zz 5 _ rfl
  have z6 := zz 6 _ rfl
  have y0 := zf 0 (by omega)
  have y1 := zf 1 (by omega)
  have y2 := zf 2 (by omega)
  have y3 := zf 3 (by omega)
  have y4 := zf 4 (by omega)
  have y5 := zf 5 (by omega)
  have y6 := zf 6 (by omega)
  obtain ⟨T2, T3, T4, T5, T6, T7⟩ := hT1.cells
  obtain ⟨F1, F2, F3, F4, F5, F6, F7⟩ := hT1.free
  have hne : w.heap.size + 1 ≠ tb := by omega
  have hne' : tb ≠ w.heap.size + 1 := by omega
  have HH := Lib.hid (And.intro TO (And.intro hxx (And.intro hs1 hob)))
  clear hT1 hT TO hxx hb zz zf hv0 ho0 hob
  unfold kv
  go_wp2_with fail
  refine (clip_calls HH.out.1 _).mono ?_
  rintro e w2 ⟨rfl, rfl⟩
  go_wp2
  refine bodyPost_ret (v := .agg #[.slice a evs.length evs.length, .int .i64 k, .int .i64 z, .complex .f64 0 0, .string ⟨#[]⟩, .slice none 0 0, .int .i64 E]) (by simp [results, Tryz.results44, go_sem, z0, z1, z2, z3, z4, z5, z6]) rfl ?_
  obtain ⟨TO, hxx, hs1, hob⟩ := HH.out
  have hS : ∀ x0 x1 x2 x3 x4 x5 y0 y1 y2 y3 y4 y5 y6, Fx (fun g => g = tb ∨ g = w.heap.size + 1) w1 (((((((((((((w1.setCell ⟨tb, 2, none⟩ x0).setCell ⟨tb, 3, none⟩ x1).setCell ⟨tb, 4, none⟩ x2).setCell ⟨tb, 5, none⟩ x3).setCell ⟨tb, 6, none⟩ x4).setCell ⟨tb, 1, none⟩ x5).setCell ⟨w.heap.size + 1, 0, none⟩ y0).setCell ⟨w.heap.size + 1, 1, none⟩ y1).setCell ⟨w.heap.size + 1, 2, none⟩ y2).setCell ⟨w.heap.size + 1, 3, none⟩ y3).setCell ⟨w.heap.size + 1, 4, none⟩ y4).setCell ⟨w.heap.size + 1, 5, none⟩ y5).setCell ⟨w.heap.size + 1, 6, none⟩ y6) := by
    intro x0 x1 x2 x3 x4 x5 y0 y1 y2 y3 y4 y5 y6
    refine Fx.setCell (Fx.setCell (Fx.setCell (Fx.setCell (Fx.setCell (Fx.setCell (Fx.setCell (Fx.setCell (Fx.setCell (Fx.setCell (Fx.setCell (Fx.setCell (Fx.setCell (Fx.refl _ _) ?_ _) ?_ _) ?_ _) ?_ _) ?_ _) ?_ _) ?_ _) ?_ _) ?_ _) ?_ _) ?_ _) ?_ _) ?_ _
    all_goals first | exact .inl rfl | exact .inr rfl
  refine ⟨a, cap, rfl, owns_fx' TO (hS _ _ _ _ _ _ _ _ _ _ _ _ _) (fun g hg e => ?_), (hxx.mono fun _ _ h => h.elim).trans ((hS _ _ _ _ _ _ _ _ _ _ _ _ _).mono fun g _ h => h.imp id fun h => by omega)⟩
  have := hob g hg
  omega


/-! ### The call in memory -/
section
variable {w : World} {B C L tb base gc cb gl : Nat} {consts : List (Nat × Int)} {nm pr nl sc sk lsl : Value} {fuel : Int} {evs : List Int} {pc : Nat} {ls : List (Option Nat)} {xs ys zs : List Nat} {b : Bool}

theorem one_popN {n : Nat} (h : One w B C L tb base consts nm pr nl sc sk gc cb gl lsl ⟨pc, ls, ys ++ zs, b⟩ fuel evs) (hz : zs.length = n) (hn : 1 ≤ n) :
    Calls Tryz.prog 43 #[.pointer (some ⟨cb, 0, none⟩), .int .i64 n] w fun e w' => ∃ v g, e = .returned v ∧ RowW w' v 54 5 n (flat nv zs) g ∧ One w' B C L tb base consts nm pr nl sc sk gc cb gl lsl ⟨pc, ls, ys, true⟩ fuel evs ∧ Fx (Sx C tb base w) w w' := by
  obtain ⟨s, hc, hs⟩ := h.call
  have hb : b = true := by
    cases b with
    | true => rfl
    | false =>
      rw [if_neg (by simp)] at hs
      have h2 : ys ++ zs = [] := hs.2
      rw [List.append_eq_nil_iff] at h2
      rw [h2.2] at hz
      simp at hz
      omega
  subst hb
  rw [if_pos rfl] at hs
  obtain ⟨g, hr, hg, hgg⟩ := hs
  have hne := RowW.ne hr hc (by decide)
  have hr0 := hr
  obtain ⟨o, cap, cs, rfl, hh, hsz, hle, hmax, hcell⟩ := hr
  have hle' : ys.length + zs.length ≤ cap := by have : (ys ++ zs).length ≤ cap := hle; simpa using this
  have hlen : (ys ++ zs).length - n = ys.length := by simp; omega
  refine (pop_exact (h := (ys ++ zs).length) rfl hc (by simp; omega) hn hle hmax).mono fun e w' hh2 => ?_
  obtain ⟨rfl, rfl⟩ := hh2
  have hx : Fx (fun b => b = cb) w (w.setCell ⟨cb, 7, none⟩ (.slice (some ⟨g, o, none⟩) ((ys ++ zs).length - n) cap)) := Fx.setCell (S := fun b => b = cb) (Fx.refl _ _) rfl _
  have hh' := hx.block g (Array.getElem?_eq_some_iff.1 hh).1 hne
  rw [hh] at hh'
  have hfl : flat nv (ys ++ zs) = flat nv ys ++ flat nv zs := flat_append _ _ _
  have hyl : (flat nv ys).length = 5 * ys.length := flat_len5 nv_len ys
  refine ⟨_, g, rfl, ⟨_, _, cs, rfl, hh', ?_, by omega, by omega, fun j u hj => ?_⟩, One.next (og := some g) h hc (fun g0 hg0 => by
    obtain rfl := Option.some.inj hg0
    exact ⟨⟨cs, hh⟩, hgg, hg⟩) (s' := .slice (some ⟨g, o, none⟩) ((ys ++ zs).length - n) cap) ?_ (g' := g) ?_ hg (.inl rfl) (hx.below h.size fun b0 h0 h1 => by have := h.cb; omega) (fun b0 h0 n1 n2 _ => hx.block b0 h0 n1) rfl (E3.RowW.keep h.loc (hx.block gl (E3.RowW.lt h.loc) (RowW.ne h.loc hc (by decide)))) h.two rfl⟩
  · rw [hlen]
    have : o + cap * 5 ≤ cs.size := hsz
    omega
  · rw [hlen, Nat.add_assoc]
    refine hcell _ u ?_
    show (flat nv (ys ++ zs))[5 * ys.length + j]? = some u
    rw [hfl, List.getElem?_append_right (by omega), show 5 * ys.length + j - (flat nv ys).length = j by omega]
    exact hj
  · have := VarW.set hc (j := 7) (by simp) (.slice (some ⟨g, o, none⟩) ((ys ++ zs).length - n) cap)
    exact this
  · refine ⟨o, cap, cs, by rw [hlen], hh', hsz, ?_, hmax, fun j u hj => ?_⟩
    · show ys.length ≤ cap
      omega
    · refine hcell j u ?_
      show (flat nv (ys ++ zs))[j]? = some u
      rw [hfl]
      exact app_l hj

theorem one_push {z : Nat} (h : One w B C L tb base consts nm pr nl sc sk gc cb gl lsl ⟨pc, ls, xs, true⟩ fuel evs) (hx : xs.length ≤ 2) :
    Calls Tryz.prog 45 #[.pointer (some ⟨cb, 0, none⟩), kv 1 z] w fun e w' => e = .returned (.tuple #[]) ∧ One w' B C L tb base consts nm pr nl sc sk gc cb gl lsl ⟨pc, ls, xs ++ [z], true⟩ fuel evs ∧ Fx (Sx C tb base w) w w' := by
  obtain ⟨s, hc, hs⟩ := h.call
  have h7 := h.ones7
  rw [if_pos rfl] at hs
  obtain ⟨g, hr, hg, hgg⟩ := hs
  have hl : (flat nv xs).length = 5 * xs.length := flat_len5 nv_len xs
  refine (pushRow (x := iv z) h.size h.cb rfl h7 hc (by simp [iv]) (iv_ones z) hr hg (by show (flat nv xs).length ≤ 16; omega) (flat_ones nv_ones xs) hl rfl (pushRow_true xs.length (by omega))).mono fun e w' hh => ?_
  obtain ⟨he, s', g', e1, e2, e3, e4, hb, hk⟩ := hh
  refine ⟨he, One.next (og := some g) h hc (fun g0 hg0 => by
    obtain rfl := Option.some.inj hg0
    obtain ⟨_, _, cs, _, hh, _⟩ := hr
    exact ⟨⟨cs, hh⟩, hgg, hg⟩) e1 ?_ e3 (e4.imp (fun h => by rw [h]) id) hb (fun b0 h0 n1 n2 _ => hk b0 h0 n1 (n2 g rfl)) rfl (E3.RowW.keep h.loc (hk gl (E3.RowW.lt h.loc) (RowW.ne h.loc hc (by decide)) hgg)) h.two rfl⟩
  show RowW w' s' 54 5 (xs ++ [z]).length (flat nv (xs ++ [z])) g'
  rw [flat_snoc, List.length_append]
  exact e2
end

/-! ### A tick without fuel -/
noncomputable def eStop (h : Nat) : R := layRO [] mem0 fun m => layAll [(54, 5, symRow 16 (5 * h)), (129, 0, callRow (.sym 3) (.sym 6) (.sl 0 0 h 5)), (194, 0, [.nat 0] ++ symRow 33 6 ++ [.nat 0])] m fun m => callR (rec Tryz.prog noOrc sk kn 200 46 [.ptr 1 0, .ptr 2 0, .agg [.nat 12, .sym 8, .nat 0]] m) fun v m => gdR (eqAV v (.bool false)) (chkV m 2 194 8 fun l => gdR (eqAVs l ([.nat 0] ++ symRow 33 6 ++ [.nat 6])) (yes m))
theorem stop_true : ∀ h, h < 3 → isTrue (eStop h) = true := allN_some (show allN 3 (fun h => isTrue (eStop h)) = true by kernel_rfl)

section
variable {w : World} {B C L tb base gc cb gl : Nat} {consts : List (Nat × Int)} {nm pr nl sc sk lsl : Value} {evs : List Int} {pc : Nat} {ls : List (Option Nat)} {xs : List Nat}
theorem one_stop {n : Nat} (h : One w B C L tb base consts nm pr nl sc sk gc cb gl lsl ⟨pc, ls, xs, true⟩ 0 evs) (hx : xs.length ≤ 2) :
    Calls Tryz.prog 46 #[.pointer (some ⟨cb, 0, none⟩), .pointer (some ⟨tb, 0, none⟩), .agg #[.int .i64 12, .int .i64 (.ofNat n), .int .i64 0]] w fun e w' => e = .returned (.bool false) ∧ TkE w' tb base 0 evs 6 ∧ (∃ cs, w'.heap[tb]? = some (.cells cs 194)) ∧ Fx (Sx C tb base w) w w' := by
  obtain ⟨s, hc, hs⟩ := h.call
  have h7 := h.ones7
  rw [if_pos rfl] at hs
  obtain ⟨g, hs, hg, hgg⟩ := hs
  have hs0 : RowW w s 54 5 xs.length (flat nv xs) g := hs
  clear hs
  obtain ⟨ev, htk, hown, hev⟩ := tank_var h.tank h.ty
  have hBC := h.BC
  have hcb := h.cb
  have htb := h.tbB
  have hin : (flat nv xs).length = 5 * xs.length := flat_len5 nv_len xs
  have h1 : Ones (flat nv xs) := flat_ones nv_ones xs
  generalize ha : [nm, pr, nl, sc, sk, .int .i64 (.ofNat pc), lsl] = a at *
  have hal : a.length = 7 := by rw [← ha]; rfl
  have hc' : VarW w cb 129 (a ++ [s]) := hc
  have ha1 : Ones a := h7
  have htl : [ev, .int .i64 0, .int .i64 0, .complex .f64 0 0, .string ⟨#[]⟩, .slice none 0 0].length = 6 := rfl
  have ht1 : Ones [.int .i64 0, ev, .int .i64 0, .int .i64 0, .complex .f64 0 0, .string ⟨#[]⟩, .slice none 0 0] := by
    intro u hu
    simp only [List.mem_cons, List.not_mem_nil, or_false] at hu
    rcases hu with rfl | rfl | rfl | rfl | rfl | rfl | rfl <;> first | rfl | exact hev
  have hV := vs_mk (a := a) (x := [.int .i64 (.ofNat n)]) (vs := flat nv xs) (cs := [.int .i64 0, ev, .int .i64 0, .int .i64 0, .complex .f64 0 0, .string ⟨#[]⟩, .slice none 0 0]) (ls := []) (by omega) (by simp) (by omega) (by simp) ha1 (fun u hu => by rw [List.mem_singleton.1 hu]; rfl) h1 ht1 ones_nil
  have hct : ∀ F, dens (symsV (V a [.int .i64 (.ofNat n)] (flat nv xs) [.int .i64 0, ev, .int .i64 0, .int .i64 0, .complex .f64 0 0, .string ⟨#[]⟩, .slice none 0 0] [])) F (symRow 33 6) = some [ev, .int .i64 0, .int .i64 0, .complex .f64 0 0, .string ⟨#[]⟩, .slice none 0 0] := fun F =>
    symRow_dens F [ev, .int .i64 0, .int .i64 0, .complex .f64 0 0, .string ⟨#[]⟩, .slice none 0 0] 33 (fun j u hj => by
      have := V_c (a := a) (x := [.int .i64 (.ofNat n)]) (vs := flat nv xs) (cs := [.int .i64 0, ev, .int .i64 0, .int .i64 0, .complex .f64 0 0, .string ⟨#[]⟩, .slice none 0 0]) (ls := []) (j := j + 1) (u := u) (by omega) (by simp) (by omega) (by simpa using hj)
      rw [show 33 + j = 32 + (j + 1) by omega]
      exact this) (fun u hu => ht1 u (List.mem_cons_of_mem _ hu))
  generalize symsV (V a [.int .i64 (.ofNat n)] (flat nv xs) [.int .i64 0, ev, .int .i64 0, .int .i64 0, .complex .f64 0 0, .string ⟨#[]⟩, .slice none 0 0] []) = ρ at hV hct
  obtain ⟨v3, k3⟩ : ∃ v3, a[3]? = some v3 := ⟨_, List.getElem?_eq_getElem (by omega)⟩
  obtain ⟨v6, k6⟩ : ∃ v6, a[6]? = some v6 := ⟨_, List.getElem?_eq_getElem (by omega)⟩
  have hgcb : g ≠ cb := RowW.ne hs0 hc' (by decide)
  have hctb : cb ≠ tb := VarW.ne hc' htk (by decide)
  have hgtb : g ≠ tb := RowW.ne hs0 htk (by decide)
  have hown0 := hs0
  obtain ⟨o, cap, rfl, hlay⟩ := E3.RowW.lay hs0 (ρ := ρ)
  have hlast : ∀ u ∈ a ++ [.slice (some ⟨g, o, none⟩) xs.length cap], u.oneCell' = true := fun u hu => (List.mem_append.1 hu).elim (ha1 u) fun h => by rw [List.mem_singleton.1 h]; rfl
  have hT8 : ∀ F : Env, dens ρ F ([.nat 0] ++ symRow 33 6 ++ [.nat 0]) = some ([.int .i64 0, ev, .int .i64 0, .int .i64 0, .complex .f64 0 0, .string ⟨#[]⟩, .slice none 0 0] ++ [.int .i64 0]) := fun F =>
    dens_append (dens_append (dens_one (by simp [den])) (hct F)) (dens_one (by simp [den]))
  have hT9 : ∀ F : Env, dens ρ F ([.nat 0] ++ symRow 33 6 ++ [.nat 6]) = some ([.int .i64 0, ev, .int .i64 0, .int .i64 0, .complex .f64 0 0, .string ⟨#[]⟩, .slice none 0 0] ++ [.int .i64 6]) := fun F =>
    dens_append (dens_append (dens_one (by simp [den])) (hct F)) (dens_one (by simp [den]))
  have he := stop_true xs.length (by omega)
  have he2 : isTrue (layRO [] mem0 fun m => layAll [(54, 5, symRow 16 (5 * xs.length)), (129, 0, callRow (.sym 3) (.sym 6) (.sl 0 0 xs.length 5)), (194, 0, [.nat 0] ++ symRow 33 6 ++ [.nat 0])] m fun m => callR (rec Tryz.prog noOrc E3.sk kn 200 46 [.ptr 1 0, .ptr 2 0, .agg [.nat 12, .sym 8, .nat 0]] m) fun v m => gdR (eqAV v (.bool false)) (chkV m 2 194 8 fun l => gdR (eqAVs l ([.nat 0] ++ symRow 33 6 ++ [.nat 6])) (yes m))) = true := he
  have hsize := h.size
  refine (run_rows (ρ := ρ) mix (plainly_of plain_names) (noOrc_ok _) lex (kn_ok _) (kit Tryz.func46 (by kernel_rfl)) (B := B) (xr := []) (xs := [(g, cap * 5, o), (cb, 8, 0), (tb, 8, 0)]) (vs := [.pointer (some ⟨cb, 0, none⟩), .pointer (some ⟨tb, 0, none⟩), .agg #[.int .i64 12, .int .i64 (.ofNat n), .int .i64 0]]) (by omega) he2 trivial ?_ ?_).mono fun e w' hh => ?_
  · exact (hlay _ _ _ (none_ne g) (hV.stk hin _) (h1) (by have := dens_length (show dens ρ (fun _ => none) _ = _ from hV.stk hin _); omega) (by decide) (by decide) _ _ _ (by omega) (RowsOk.var hc' (noDup (none_ne cb) hgcb) (dens_append (l := [.sym 0, .sym 1, .sym 2, (.sym 3), .sym 4, .sym 5, (.sym 6)]) (call_dens hal hV.a k3 k6 (sym_den (hV.a 3 _ k3)) (sym_den (hV.a 6 _ k6))) (dens_one (by simp [den, nilS, envAll, setF]))) hlast (by rfl) (by omega) (RowsOk.var htk (noDup (noDup (none_ne tb) hgtb) hctb) (hT8 _) (fun u hu => (List.mem_append.1 hu).elim (ht1 u) fun h => by rw [List.mem_singleton.1 h]; rfl) (by rfl) htb trivial)))
  · exact dens_cons_mk (by simp [den, envAll, setF]) (dens_cons_mk (by simp [den, envAll, setF]) (dens_one (by have h8 := hV.xv 0 _ rfl; simp [den, dens]; exact h8)))
  · obtain ⟨v, y, m', F', rfl, ⟨m2, hck⟩, hv, hext, hI, hb, hkeep⟩ := hh
    obtain ⟨hvt, hck⟩ := gdR_some hck
    obtain rfl := eqAV_eq hvt
    simp only [den, Option.some.injEq] at hv
    subst hv
    obtain ⟨tl, htq, _, htank⟩ := chkV_some (ρ := ρ) hck
    obtain ⟨htq, _⟩ := gdR_some htq
    have htq := eqAVs_eq htq
    subst htq
    obtain ⟨tb2, ct2, tvs, hFt, hdt, hvt2⟩ := htank B F' w' hI
    rw [hext 2 (tb, 8, 0) (by simp [envAll, setF])] at hFt
    obtain ⟨rfl, rfl⟩ := Prod.mk.inj (Option.some.inj hFt)
    rw [hT9 F'] at hdt
    obtain rfl := Option.some.inj hdt
    have hks : ∀ b, b < w.heap.size → b ≠ cb → b ≠ g → b ≠ tb → w'.heap[b]? = w.heap[b]? := by
      intro b hb0 n0 n1 n2
      refine (hkeep b hb0 fun x hx e => ?_).1
      subst e
      simp only [List.nil_append, List.cons_append, List.mem_cons, List.not_mem_nil, or_false] at hx
      rcases hx with rfl | rfl | rfl
      · exact n1 rfl
      · exact n0 rfl
      · exact n2 rfl
    have hx : Fx (fun b => b = cb ∨ b = g ∨ b = tb) w w' := Fx.ofKeep hb fun b0 h0 h1 => hks b0 h0 (fun e => h1 (.inl e)) (fun e => h1 (.inr (.inl e))) (fun e => h1 (.inr (.inr e)))
    have hown' : w'.ownsRow base 69 7 ev evs.length (flat ec evs) := owns_fx' hown hx fun q hq hS => by
      obtain ⟨cs, hcs⟩ := owns_ty hown hq
      rcases hS with rfl | rfl | rfl
      · exact VarW.not69 hc' cs hcs
      · exact RowW.not69 hown0 cs hcs
      · obtain ⟨c2, h2⟩ := h.ty
        exact absurd rfl (ty_ne (e' := 69) ⟨c2, h2⟩ hcs (by decide))
    have hv2 := hvt2 rfl
    have hq := fun j u => E3.VarW.cell hv2 j (u := u)
    have hfr : ∀ j, w'.frozen? ⟨tb, j, none⟩ = false := fun j => by
      obtain ⟨cs, h, _⟩ := hv2
      exact froz h j
    refine ⟨rfl, ⟨hq 0 _ rfl, ⟨ev, hq 1 _ rfl, hown'⟩, hq 2 _ rfl, hq 3 _ rfl, hq 4 _ rfl, hq 5 _ rfl, hq 6 _ rfl, hq 7 _ rfl, fun j _ => hfr j⟩, ?_, hx.mono fun b0 _ h => ?_⟩
    · obtain ⟨cs, h, _⟩ := hv2
      exact ⟨cs, h⟩
    · rcases h with rfl | rfl | rfl
      · obtain ⟨cs, hcs, _⟩ := hc'
        exact .inl ⟨hcb, cs, _, hcs, .inl rfl⟩
      · obtain ⟨_, _, cs, _, hcs, _⟩ := hown0
        exact .inl ⟨hg, cs, _, hcs, .inr rfl⟩
      · exact .inr (.inl rfl)
end

end Go.Proofs.YtplnnlnkcfappaaGreat.Sv
