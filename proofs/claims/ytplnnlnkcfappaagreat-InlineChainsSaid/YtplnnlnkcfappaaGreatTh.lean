/- The machine with a stack: a tick is done (the pop of nothing printed by gen_sv.py). -/
import Derived.Test.YtplnnlnkcfappaaGreatTg
namespace Go.Proofs.YtplnnlnkcfappaaGreat.Sv
open Go.RowKit E3
set_option linter.unusedSimpArgs false
set_option linter.unusedVariables false

noncomputable def epopNone (h : Nat) : R := layRO [] mem0 fun m => layAll [(54, 5, symRow 16 (5 * h)), (129, 0, callRow (.sym 3) (.sym 6) (.sl 0 0 h 5))] m fun m => callR (rec Tryz.prog noOrc sk kn 200 43 [.ptr 1 0, .nat 0] m) fun v m => atEnd m 1 (.sym 3) (.sym 6) [] h (symRow 16 (5 * h)) (yes m)
theorem popNone {B cb h g : Nat} {w : World} {a x vs : List Value} {s : Value}  (hB : B ≤ w.heap.size) (hcb : B ≤ cb) (ha : a.length = 7) (ha1 : Ones a) (hc : VarW w cb 129 (a ++ [s])) (hx : x.length ≤ 8) (hx1 : Ones x) (hs : RowW w s 54 5 h (vs) g) (hg : B ≤ g) (hvl : vs.length ≤ 16) (h1 : Ones vs) (hin : (vs).length = 5 * h)  (he : isTrue (epopNone h) = true) :
    Calls Tryz.prog 43 #[.pointer (some ⟨cb, 0, none⟩), .int .i64 0] w fun e w' => (∃ v, e = .returned v) ∧ ∃ s' g', VarW w' cb 129 (a ++ [s']) ∧ RowW w' s' 54 5 (h) (vs) g' ∧ B ≤ g' ∧ (g' = g ∨ w.heap.size ≤ g') ∧ Below B w w' ∧ ∀ b, b < w.heap.size → b ≠ cb → b ≠ g → w'.heap[b]? = w.heap[b]? := by
  have hV := vs_mk (a := a) (x := x) (vs := vs) (cs := []) (ls := []) (by omega) (by omega) (by first | omega | simp) (by first | omega | simp) ha1 hx1 h1 ones_nil ones_nil
  generalize symsV (V a x vs [] []) = ρ at hV
  obtain ⟨v3, k3⟩ : ∃ v3, a[3]? = some v3 := ⟨_, List.getElem?_eq_getElem (by omega)⟩
  obtain ⟨v6, k6⟩ : ∃ v6, a[6]? = some v6 := ⟨_, List.getElem?_eq_getElem (by omega)⟩
  have hgcb : g ≠ cb := RowW.ne hs hc (by decide)
  obtain ⟨o, cap, rfl, hlay⟩ := E3.RowW.lay hs (ρ := ρ)
  have henv : ∀ F : Env, Ext (envAll (envAll (fun _ => none) 0 []) 0 [(g, cap * 5, o), (cb, 8, 0)]) F → dens ρ F [.sym 0, .sym 1, .sym 2, (.sym 3), .sym 4, .sym 5, (.sym 6)] = some a := fun F hF => call_dens ha hV.a k3 k6 (sym_den (hV.a 3 _ k3)) (sym_den (hV.a 6 _ k6))
  have hlast : ∀ u ∈ a ++ [.slice (some ⟨g, o, none⟩) h cap], u.oneCell' = true := fun u hu => (List.mem_append.1 hu).elim (ha1 u) fun h => by rw [List.mem_singleton.1 h]; rfl
  have he2 : isTrue (layRO [] mem0 fun m => layAll [(54, 5, symRow 16 (5 * h)), (129, 0, callRow (.sym 3) (.sym 6) (.sl 0 0 h 5))] m fun m => callR (rec Tryz.prog noOrc sk kn 200 43 [.ptr 1 0, .nat 0] m) fun v m => atEnd m 1 (.sym 3) (.sym 6) [] h (symRow 16 (5 * h)) (yes m)) = true := he
  refine (run_rows (ρ := ρ) mix (plainly_of plain_names) (noOrc_ok _) lex (kn_ok _) (kit Tryz.func43 (by kernel_rfl)) (xr := []) (xs := [(g, cap * 5, o), (cb, 8, 0)]) (vs := [.pointer (some ⟨cb, 0, none⟩), .int .i64 0]) hB he2 trivial ?_ ?_).mono fun e w' hh => ?_
  · exact (hlay _ _ _ (none_ne g) (hV.stk hin _) (h1) (by have := dens_length (show dens ρ (fun _ => none) _ = _ from hV.stk hin _); omega) (by decide) (by decide) _ _ _ hg (RowsOk.var hc (noDup (none_ne cb) hgcb) (dens_append (l := [.sym 0, .sym 1, .sym 2, (.sym 3), .sym 4, .sym 5, (.sym 6)]) (call_dens ha hV.a k3 k6 (sym_den (hV.a 3 _ k3)) (sym_den (hV.a 6 _ k6))) (dens_one (by simp [den, nilS, envAll, setF]))) hlast (by rfl) hcb trivial))
  · refine dens_cons_mk (by simp [den, envAll, setF]) ?_
    exact dens_one (by simp [den])
  · obtain ⟨v, y, m', F', rfl, ⟨m2, hck⟩, hv, hext, hI, hb, hkeep⟩ := hh
    obtain ⟨hck, hend⟩ := atEnd_some (ρ := ρ) hck
    obtain ⟨s', g', e1, e2, eB, eF, b', k', c', e3, e4⟩ := hend B F' w' cb 8 a (vs) hI (hext 1 _ (by simp [envAll, setF])) (henv F' hext) (hV.stk hin _)
    have hks : ∀ b, b < w.heap.size → b ≠ cb → b ≠ g → w'.heap[b]? = w.heap[b]? := by
      intro b hb0 n0 n1
      by_cases hbB : b < B
      · exact hb.block b hbB
      · refine (hkeep b hb0 fun x hx e => ?_).1
        subst e
        simp only [List.nil_append, List.cons_append, List.mem_cons, List.not_mem_nil, or_false] at hx
        rcases hx with rfl | rfl
        · exact n1 rfl
        · exact n0 rfl
    refine ⟨⟨_, rfl⟩, s', g', e1, e2, eB, ?_, hb, hks⟩
    rcases finish (ρ := ρ) hkeep e3 e4 with ⟨x, hx, rfl⟩ | h
    · simp only [List.nil_append, List.cons_append, List.mem_cons, List.not_mem_nil, or_false] at hx
      rcases hx with rfl | rfl
      · exact .inl rfl
      · exact absurd rfl (RowW.ne e2 e1 (by decide))
    · exact .inr h
theorem popNone_true : ∀ h, h < 3 → isTrue (epopNone h) = true := allN_some (show allN 3 (fun h => isTrue (epopNone h)) = true by kernel_rfl)
theorem popsTick_true : isVal (.nat 0) (rec Tryz.prog noOrc sk kn 200 85 [.agg [.nat 12, .sym 8, .nat 0]] mem0) = true := by kernel_rfl
theorem popsTick (w : World) (n : Int) : Calls Tryz.prog 85 #[.agg #[.int .i64 12, .int .i64 n, .int .i64 0]] w fun e w' => e = .returned (.int .i64 0) ∧ Below w.heap.size w w' :=
  runs_val (ρ := symOne n) mix (plainly_of plain_names) (noOrc_ok _) lex (kn_ok _) 200 85 [.agg [.nat 12, .sym 8, .nat 0]] [.agg #[.int .i64 12, .int .i64 n, .int .i64 0]] (dens_one (by simp [den, dens, symOne])) (.nat 0) (.int .i64 0) (by simp [den]) popsTick_true Tryz.func85 (by kernel_rfl) w

theorem VarW.below {w w' : World} {g : Nat} {e : TypeId} {vs : List Value} (h : VarW w g e vs) (hb : Below w.heap.size w w') : VarW w' g e vs := E3.VarW.keep h (hb.block _ (E3.VarW.lt h))
theorem RowW.below {w w' : World} {v : Value} {e sz n : Nat} {vs : List Value} {g : Nat} (h : RowW w v e sz n vs g) (hb : Below w.heap.size w w') : RowW w' v e sz n vs g := E3.RowW.keep h (hb.block _ (E3.RowW.lt h))
theorem Fx.ofKeep {B : Nat} {w w' : World} {S : Nat → Prop} (hb : Below B w w') (hk : ∀ b, b < w.heap.size → ¬ S b → w'.heap[b]? = w.heap[b]?) : Fx S w w' := ⟨hb.os, hb.tape, hb.output, hb.size, hk⟩

theorem Tk.fx' {S : Nat → Prop} {w w' : World} {tb base : Nat} {fuel : Int} {evs : List Int} (h : Tk w tb base fuel evs) (hx : Fx S w w') (ht : ¬ S tb) (hS : ∀ g, (∃ cs, w.heap[g]? = some (.cells cs 69)) → ¬ S g) : Tk w' tb base fuel evs := by
  have hc := hx.cell h.lt ht
  obtain ⟨v, hv, ho⟩ := h.ev
  exact ⟨(hc _).trans h.c0, ⟨v, (hc _).trans hv, owns_fx' ho hx fun g hg => hS g (owns_ty ho hg)⟩, (hc _).trans h.c2, (hc _).trans h.c3, (hc _).trans h.c4, (hc _).trans h.c5, (hc _).trans h.c6, (hc _).trans h.c7, fun j hj => (hx.frozen h.lt ht _).trans (h.fz j hj)⟩
theorem VarW.not69 {w : World} {g : Nat} {vs : List Value} (h : VarW w g 129 vs) : ∀ cs, w.heap[g]? ≠ some (.cells cs 69) := by
  intro cs hc
  obtain ⟨cs', h1, _⟩ := h
  rw [hc] at h1
  have := Option.some.inj h1
  injection this with _ h2
  exact absurd h2 (by decide)
theorem RowW.not69 {w : World} {v : Value} {n : Nat} {vs : List Value} {g : Nat} (h : RowW w v 54 5 n vs g) : ∀ cs, w.heap[g]? ≠ some (.cells cs 69) := by
  intro cs hc
  obtain ⟨o, cap, cs', _, h1, _⟩ := h
  rw [hc] at h1
  have := Option.some.inj h1
  injection this with _ h2
  exact absurd h2 (by decide)

set_option maxRecDepth 100000 in
set_option maxHeartbeats 4000000 in
theorem stepTick {w : World} {cb tb base B h g : Nat} {a vs : List Value} {s : Value} {fuel n : Int} {evs : List Int} (hB : B ≤ w.heap.size) (hcb : B ≤ cb) (ha : a.length = 7) (ha1 : Ones a) (hc : VarW w cb 129 (a ++ [s])) (hs : RowW w s 54 5 h vs g) (hg : B ≤ g) (hh : h < 3) (hin : vs.length = 5 * h) (h1 : Ones vs)
    (hT : Tk w tb base fuel evs) (hcbt : cb ≠ tb) (hgt : g ≠ tb) (hf1 : 1 ≤ fuel) (hf2 : fuel ≤ 5000) (hb0 : tb < base) (hb1 : base ≤ w.heap.size) (hl : evs.length ≤ 5000) (hty : ∃ cs, w.heap[tb]? = some (.cells cs 194)) :
    Calls Tryz.prog 46 #[.pointer (some ⟨cb, 0, none⟩), .pointer (some ⟨tb, 0, none⟩), .agg #[.int .i64 12, .int .i64 n, .int .i64 0]] w fun e w' => e = .returned (.bool true) ∧ Tk w' tb base (fuel - 1) (evs ++ [n]) ∧ (∃ cs, w'.heap[tb]? = some (.cells cs 194)) ∧ (w'.os = w.os ∧ w'.tape = w.tape ∧ w'.output = w.output ∧ w.heap.size ≤ w'.heap.size) ∧
      ∃ s' g', VarW w' cb 129 (a ++ [s']) ∧ RowW w' s' 54 5 h vs g' ∧ B ≤ g' ∧ (g' = g ∨ w.heap.size ≤ g') ∧ ∀ b, b < w.heap.size → b ≠ cb → b ≠ g → b ≠ tb → ¬ (base ≤ b ∧ ∃ cs, w.heap[b]? = some (.cells cs 69)) → w'.heap[b]? = w.heap[b]? := by
  have hcl := E3.VarW.lt hc
  have hgl := E3.RowW.lt hs
  have htl := hT.lt
  have hal : Below w.heap.size w (w.alloc (.cells #[.int .i64 12, .int .i64 n, .int .i64 0] 127)) := (Below.refl _ _).alloc (Nat.le_refl _) _
  have HX := Lib.hid (And.intro hc (And.intro hs (And.intro hT hal)))
  clear hc hs hT hal
  go_enter Tryz.func46, Tryz.ntmps46
  go_wp2_with fail
  refine (popsTick _ n).mono ?_
  rintro e w1 ⟨rfl, hb⟩
  obtain ⟨hc, hs, hT, hal⟩ := HX.out
  have hb01 : Below w.heap.size w w1 := hal.trans (hb.mono (by simp))
  have x0 : w1.cell? ⟨w.heap.size, 0, none⟩ = some (.int .i64 12) := by rw [hb.cell (by simp)]; simp [go_sem]
  have x1 : w1.cell? ⟨w.heap.size, 1, none⟩ = some (.int .i64 n) := by rw [hb.cell (by simp)]; simp [go_sem]
  have hs1 : w.heap.size + 1 ≤ w1.heap.size := by have := hb.size; simpa using this
  have hc1 := VarW.below hc hb01
  have hr1 := RowW.below hs hb01
  have hpop := popNone (x := []) (Nat.le_trans hB hb01.size) hcb ha ha1 hc1 (by simp) ones_nil hr1 hg (by omega) h1 hin (popNone_true h hh)
  have HP := Lib.hid hpop
  have HB := Lib.hid (And.intro hb01 hb)
  clear hc hs hT hal hb hb01 hc1 hr1 hpop
  go_wp2_with fail
  refine HP.out.mono ?_
  rintro e w2 ⟨⟨v, rfl⟩, s', g', e1, e2, eB, eg, hbB, hk⟩
  obtain ⟨hc, hs, hT, hal⟩ := HX.out
  obtain ⟨hb01, hb⟩ := HB.out
  have hsz := hbB.size
  have y0 : w2.cell? ⟨w.heap.size, 0, none⟩ = some (.int .i64 12) := by rw [World.cell?_of_block (w := w1) (a := ⟨w.heap.size, 0, none⟩) (hk w.heap.size (by omega) (by omega) (by omega))]; exact x0
  have y1 : w2.cell? ⟨w.heap.size, 1, none⟩ = some (.int .i64 n) := by rw [World.cell?_of_block (w := w1) (a := ⟨w.heap.size, 1, none⟩) (hk w.heap.size (by omega) (by omega) (by omega))]; exact x1
  have hTa := hT.fx (Fx.ofB hb01 (S := fun _ => False)) (fun h => h) (fun _ _ _ h => h)
  have hc1 := VarW.below hc hb01
  have hr1 := RowW.below hs hb01
  have hTb := Tk.fx' hTa (Fx.ofKeep hbB (S := fun b => b = cb ∨ b = g) fun b h0 h1 => hk b h0 (fun e => h1 (.inl e)) (fun e => h1 (.inr e))) (fun h => h.elim (fun e => hcbt e.symm) (fun e => hgt e.symm)) (fun b ⟨cs, hcs⟩ h => h.elim (fun e => VarW.not69 hc1 cs (by rw [← e]; exact hcs)) (fun e => RowW.not69 hr1 cs (by rw [← e]; exact hcs)))
  have hks : ∀ b, b < w.heap.size → b ≠ cb → b ≠ g → w2.heap[b]? = w.heap[b]? := fun b h0 n1 n2 => (hk b (by omega) n1 n2).trans (hb01.block b h0)
  have htell := tell_calls (n := n) hTb hf1 hf2 hb0 (by omega) hl (by obtain ⟨cs, hcs⟩ := hty; exact ⟨cs, (hks tb htl (fun e => hcbt e.symm) (fun e => hgt e.symm)).trans hcs⟩)
  have HT := Lib.hid htell
  have HE := Lib.hid (And.intro e1 (And.intro e2 (And.intro eB (And.intro eg (And.intro hks (And.intro hsz (And.intro (hbB.os.trans hb01.os) (And.intro (hbB.tape.trans hb01.tape) (hbB.output.trans hb01.output)))))))))
  clear hc hs hT hal hb01 hb e1 e2 eB eg hbB hk hks hTa hTb hc1 hr1 htell x0 x1
  go_wp2_with fail
  refine HT.out.mono ?_
  rintro e w3 ⟨rfl, hT3, hty3, hx3⟩
  have HF := Lib.hid (And.intro hT3 (And.intro hty3 hx3))
  clear hT3 hty3 hx3
  go_wp2
  go_ret
  obtain ⟨e1, e2, eB, eg, hks, hsz, ho1, ho2, ho3⟩ := HE.out
  obtain ⟨hT3, hty3, hx3⟩ := HF.out
  have hsz3 := hx3.size
  have hk3 : ∀ b, b < w2.heap.size → b ≠ tb → ¬ (base ≤ b ∧ ∃ cs, w2.heap[b]? = some (.cells cs 69)) → w3.heap[b]? = w2.heap[b]? := fun b h0 n1 n2 => hx3.block b h0 fun h => h.elim n1 n2
  refine ⟨rfl, hT3, hty3, ⟨hx3.os.trans ho1, hx3.tape.trans ho2, hx3.output.trans ho3, by omega⟩, s', g', E3.VarW.keep e1 (hk3 cb (E3.VarW.lt e1) hcbt (fun h => VarW.not69 e1 _ h.2.choose_spec)), E3.RowW.keep e2 (hk3 g' (E3.RowW.lt e2) (fun e => ?_) (fun h => RowW.not69 e2 _ h.2.choose_spec)), eB, ?_, fun b h0 n1 n2 n3 n4 => ?_⟩
  · rcases eg with h | h
    · exact hgt (by rw [← h]; exact e)
    · omega
  · exact eg.imp id fun h => by omega
  · rw [hk3 b (by omega) n3 (by rw [hks b h0 n1 n2]; exact n4), hks b h0 n1 n2]


end Go.Proofs.YtplnnlnkcfappaaGreat.Sv
