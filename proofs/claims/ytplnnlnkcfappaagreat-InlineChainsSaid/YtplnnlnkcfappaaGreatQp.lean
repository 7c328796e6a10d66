/- The second evaluator tells the truth, part 11: what is read first in such a region; the region. -/
import Derived.Test.YtplnnlnkcfappaaGreatQo
namespace Go.Proofs.YtplnnlnkcfappaaGreat.E3
open Go Go.RowKit
set_option linter.unusedSimpArgs false
set_option linter.unusedVariables false

variable {ρ : Syms} {P : Program} {oc : Orc} {S n : Nat} {ops : Array Oper} {Q : Exit → Act → World → Prop}

theorem isLoad_eq {op : Op} (h : isLoad op = true) : ∃ t x, op = .load t x := by
  cases op <;> first | exact ⟨_, _, rfl⟩ | cases h
/-- what the step of a load tells -/
theorem ld_some {sg : List Nat} {o : Oper} {d : Put} {kc : KO} {ih : Rec} {fr : Fr} {es : Es} {m : Mem} {y : Out} {ko : KO} (hc : cLd1 P S sg o.op d kc = some ko) (h : ko.run ih fr es m = some y) :
    ∃ v e, finL d kc ih fr es m v e = some y ∧ ∀ (base : Nat) (F : Env) (w : World) (a : Act), Inv ρ base F m w → Held ρ F (getG S sg fr es) a →
      LdOk ρ F w e ∧ ∃ val, den ρ F v = some val ∧ ∀ w', LdOk ρ F w' e → (execOp a.eval o).run P w' = .ok (.value val) w' := by
  generalize ho : o.op = op at hc
  cases op <;> simp only [cLd1] at hc <;> try cases hc
  rename_i t x
  obtain ⟨q, hq, hc⟩ := ob_some hc
  obtain ⟨td, htd, rfl⟩ := aggT_some hq
  rw [te_eq] at hc
  by_cases hg : aggD td = true
  · rw [if_pos hg] at hc
    obtain ⟨s, hs, hc⟩ := ob_some hc
    obtain rfl := Option.some.inj hc
    obtain ⟨i, hi, rfl⟩ := sizeT_some hs
    obtain ⟨b, off, hb, h⟩ := ptrR_some h
    rw [getB_at] at hb
    obtain ⟨l, h, hn, hread⟩ := read_some (ρ := ρ) h
    refine ⟨_, _, h, fun base F w a hI hA => ?_⟩
    obtain ⟨g, c, vs, h1, h2, _, h3⟩ := hread base F w hI
    obtain ⟨g', c', h4, h5⟩ := hA.ptr hb
    rw [h4] at h1
    obtain ⟨rfl, rfl⟩ := Prod.mk.inj (Option.some.inj h1)
    refine ⟨.inr ⟨b, off, l, g', c', vs, rfl, h4, h2, h3⟩, .agg vs.toArray, by simp [den, h2], fun w' hL => ?_⟩
    rcases hL with hL | ⟨b2, off2, l2, g2, c2, vs2, he, hF2, hvs2, hcell⟩
    · cases hL
    · simp only [AV.agg.injEq, List.cons.injEq, AV.ptr.injEq] at he
      obtain ⟨⟨rfl, rfl⟩, rfl⟩ := he
      rw [h4] at hF2
      obtain ⟨rfl, rfl⟩ := Prod.mk.inj (Option.some.inj hF2)
      rw [h2] at hvs2
      obtain rfl := Option.some.inj hvs2
      have hlen := dens_length h2
      have hl2 := run_loadCells_list (P := P) w' ⟨g', _, none⟩ vs hcell
      rw [hlen, hn] at hl2
      unfold execOp
      simp only [ho, h5]
      refine valued ?_
      simp [Instr.loadAt, Instr.sureAddr, loadVar, run_isAgg htd, hg, run_size hi, hl2]
  · rw [if_neg hg] at hc
    obtain rfl := Option.some.inj hc
    obtain ⟨b, off, hb, h⟩ := ptrR_some h
    rw [getB_at] at hb
    obtain ⟨v, h, hread⟩ := read1_some (ρ := ρ) h
    refine ⟨_, _, h, fun base F w a hI hA => ?_⟩
    obtain ⟨g, c, val, h1, h2, _, h3⟩ := hread base F w hI
    obtain ⟨g', c', h4, h5⟩ := hA.ptr hb
    rw [h4] at h1
    obtain ⟨rfl, rfl⟩ := Prod.mk.inj (Option.some.inj h1)
    refine ⟨.inr ⟨b, off, [v], g', c', [val], rfl, h4, dens_one h2, fun j u hu => ?_⟩, val, h2, fun w' hL => ?_⟩
    · cases j with
      | zero => simp at hu; subst hu; rw [add_eq]; exact h3
      | succ j => simp at hu
    · rcases hL with hL | ⟨b2, off2, l2, g2, c2, vs2, he, hF2, hvs2, hcell⟩
      · cases hL
      · simp only [AV.agg.injEq, List.cons.injEq, AV.ptr.injEq] at he
        obtain ⟨⟨rfl, rfl⟩, rfl⟩ := he
        rw [h4] at hF2
        obtain ⟨rfl, rfl⟩ := Prod.mk.inj (Option.some.inj hF2)
        rw [dens_one h2] at hvs2
        obtain rfl := Option.some.inj hvs2
        have h6 := hcell 0 val rfl
        rw [add_eq] at h6
        unfold execOp
        simp only [ho, h5]
        refine valued ?_
        simp only [Nat.add_zero] at h6
        simp [Instr.loadAt, Instr.sureAddr, loadVar, run_isAgg htd, hg, h6]

theorem hasN_mem {i : Nat} : ∀ {l : List Nat}, hasN i l = false → i ∉ l
  | [], _ => by simp
  | x :: l, h => by
    have h' : te (Nat.beq x i) true (hasN i l) = false := h
    rw [te_eq] at h'
    by_cases hx : Nat.beq x i = true
    · rw [if_pos hx] at h'; cases h'
    · rw [if_neg hx] at h'
      intro hm
      rcases List.mem_cons.1 hm with rfl | hm
      · exact hx (Nat.beq_refl i)
      · exact hasN_mem h' hm

theorem loadsOf_cons (i : Nat) (l : List Nat) : loadsOf ops (i :: l) = te (isLoadAt ops i) (i :: loadsOf ops l) (loadsOf ops l) := rfl
theorem isLoadAt_eq {i : Nat} {o : Oper} (ho : ops[i]? = some o) : isLoadAt ops i = isLoad o.op := by unfold isLoadAt; rw [ho]
theorem loadsOf_sub : ∀ (l : List Nat) (i : Nat), i ∈ loadsOf ops l → i ∈ l
  | [], i, h => by cases h
  | x :: l, i, h => by
    rw [loadsOf_cons, te_eq] at h
    split at h
    · rcases List.mem_cons.1 h with rfl | h
      · simp
      · exact List.mem_cons_of_mem _ (loadsOf_sub l i h)
    · exact List.mem_cons_of_mem _ (loadsOf_sub l i h)

theorem big_ne {i j : Nat} (h : j ≠ i) : ¬ Nat.beq (big i) (big j) = true := fun hh => h (by
  have e : 1000000 + i = 1000000 + j := Nat.eq_of_beq_eq_true hh
  omega)

theorem early_sound (hoc : OrcOk ρ P oc) {ih : Rec} (hn : n ≤ 512) (hcalm : Calm Q) (hsel : Region.noSelect ops = true) {rest : List (Nat × Nat) → List Nat → KO} {y : Out} :
    ∀ (l : List Nat) (ms : List (Nat × Nat)) (sg : List Nat) (fr : Fr) (es : Es) (m : Mem), (cEarly P oc S n ops rest l ms sg).run ih fr es m = some y → apartN l = true →
    ∃ msE sgE frE esE, (rest msE sgE).run ih frE esE m = some y ∧ (∀ i, i ∉ l → findE (big i) sgE esE = findE (big i) sg es) ∧ (MasksOk ops ms → MasksOk ops msE) ∧
      ∀ base F w a, Inv ρ base F m w → AR ρ F n S sg fr es a → (∀ i ∈ loadsOf ops l, LdOk ρ F w (findE (big i) sgE esE)) ∧
        ∀ (Sx : Nat → World → World → Prop) (T : World → Prop) (fuel : Nat) (listed : Array Bool) (k : Array Bool → Bool), T w → (∀ w', T w' → ∀ i ∈ loadsOf ops l, LdOk ρ F w' (findE (big i) sgE esE)) →
          (∀ i ∈ loadsOf ops l, ∀ j w w', ¬ Dep ops i j → T w → Sx j w w' → T w') → (∀ j w, Sx j w w) → Shut ops listed → goEarly ops l listed k = true →
          (∀ listedE aE, k listedE = true → Shut ops listedE → AR ρ F n S sgE frE esE aE → wpAnyS P ops Q Sx fuel listedE aE w) → wpAnyS P ops Q Sx (fuel + l.length) listed a w
  | [], ms, sg, fr, es, m, h, _ => ⟨ms, sg, fr, es, h, fun _ _ => rfl, id, fun base F w a hI hA => ⟨fun i hi => (by cases hi), fun Sx T fuel listed k hT hTL hST hSw hsh hgo hK => hK listed a hgo hsh hA⟩⟩
  | i :: l, ms, sg, fr, es, m, h, hap => by
    obtain ⟨hap1, hap2⟩ : hasN i l = false ∧ apartN l = true := by
      have h' : te (hasN i l) false (apartN l) = true := hap
      rw [te_eq] at h'
      split at h'
      · cases h'
      · rename_i hh; exact ⟨by simpa using hh, h'⟩
    have hil := hasN_mem hap1
    obtain ⟨ko, hko, h⟩ := orFail_some h
    obtain ⟨o, ho, hko⟩ := ob_some hko
    rw [te_eq] at hko
    -- the step, whichever it is
    have step : ∀ (sg1 : List Nat) (fr1 : Fr) (es1 : Es), (cEarly P oc S n ops rest l ((i, edgeM ms o.after.toList) :: ms) sg1).run ih fr1 es1 m = some y →
        (∀ j, j ≠ i → findE (big j) sg1 es1 = findE (big j) sg es) → (isLoad o.op = false ∨ isLoad o.op = true) →
        (∀ base F w a, Inv ρ base F m w → AR ρ F n S sg fr es a → (isLoad o.op = true → LdOk ρ F w (findE (big i) sg1 es1)) ∧ ∃ v, AR ρ F n S sg1 fr1 es1 (a.put o.dst v) ∧
          YieldsIf P ops (fun w' => isLoad o.op = true → LdOk ρ F w' (findE (big i) sg1 es1)) o v a) →
        ∃ msE sgE frE esE, (rest msE sgE).run ih frE esE m = some y ∧ (∀ j, j ∉ i :: l → findE (big j) sgE esE = findE (big j) sg es) ∧ (MasksOk ops ms → MasksOk ops msE) ∧
          ∀ base F w a, Inv ρ base F m w → AR ρ F n S sg fr es a → (∀ j ∈ loadsOf ops (i :: l), LdOk ρ F w (findE (big j) sgE esE)) ∧
            ∀ (Sx : Nat → World → World → Prop) (T : World → Prop) (fuel : Nat) (listed : Array Bool) (k : Array Bool → Bool), T w → (∀ w', T w' → ∀ j ∈ loadsOf ops (i :: l), LdOk ρ F w' (findE (big j) sgE esE)) →
              (∀ j ∈ loadsOf ops (i :: l), ∀ j' w w', ¬ Dep ops j j' → T w → Sx j' w w' → T w') → (∀ j w, Sx j w w) → Shut ops listed → goEarly ops (i :: l) listed k = true →
              (∀ listedE aE, k listedE = true → Shut ops listedE → AR ρ F n S sgE frE esE aE → wpAnyS P ops Q Sx fuel listedE aE w) → wpAnyS P ops Q Sx (fuel + (i :: l).length) listed a w := by
      intro sg1 fr1 es1 hrun hpers _ hstep
      obtain ⟨msE, sgE, frE, esE, h1, h2, h3, h4⟩ := early_sound hoc hn hcalm hsel l _ sg1 fr1 es1 m hrun hap2
      refine ⟨msE, sgE, frE, esE, h1, fun j hj => ?_, fun hms => h3 (masks_cons hms ho), fun base F w a hI hA => ?_⟩
      · rw [h2 j (fun hm => hj (List.mem_cons_of_mem _ hm)), hpers j (fun e => hj (by rw [e]; simp))]
      · obtain ⟨hld, v, hA1, hy⟩ := hstep base F w a hI hA
        obtain ⟨h5, h6⟩ := h4 base F w _ hI hA1
        have hkeep : findE (big i) sgE esE = findE (big i) sg1 es1 := h2 i hil
        have hmem : ∀ j, j ∈ loadsOf ops (i :: l) → (j = i ∧ isLoad o.op = true) ∨ j ∈ loadsOf ops l := by
          intro j hj
          rw [loadsOf_cons, te_eq, isLoadAt_eq ho] at hj
          split at hj
          · rename_i hl
            rcases List.mem_cons.1 hj with rfl | hj
            · exact .inl ⟨rfl, hl⟩
            · exact .inr hj
          · exact .inr hj
        have hmemI : isLoad o.op = true → i ∈ loadsOf ops (i :: l) := by
          intro hl
          rw [loadsOf_cons, te_eq, isLoadAt_eq ho, if_pos hl]
          simp
        have hmemR : ∀ j, j ∈ loadsOf ops l → j ∈ loadsOf ops (i :: l) := by
          intro j hj
          rw [loadsOf_cons, te_eq]
          split
          · exact List.mem_cons_of_mem _ hj
          · exact hj
        refine ⟨fun j hj => ?_, fun Sx T fuel listed k hT hTL hST hSw hsh hgo hK => ?_⟩
        · rcases hmem j hj with ⟨rfl, hl⟩ | hj
          · rw [hkeep]; exact hld hl
          · exact h5 j hj
        · obtain ⟨hgo1, hgo2⟩ := both (show te (te ((Region.ready .any ops listed).contains i) (Region.free .any ops listed i) false) (goEarly ops l (listed.setIfInBounds i true) k) false = true from hgo)
          obtain ⟨hr, hf⟩ := both hgo1
          have hrm : i ∈ Region.ready .any ops listed := by simpa using hr
          have hrest := h6 Sx T fuel (listed.setIfInBounds i true) k hT (fun w' ht j hj => hTL w' ht j (hmemR j hj)) (fun j hj => hST j (hmemR j hj)) hSw (hsh.set hrm) hgo2 hK
          rw [show fuel + (i :: l).length = (fuel + l.length) + 1 by simp; omega]
          by_cases hl : isLoad o.op = true
          · have hy' : YieldsIf P ops T o v a := by
              rcases hy with ⟨hw, hy⟩ | hy
              · exact .inl ⟨hw, fun w' ht => hy w' (fun _ => by rw [← hkeep]; exact hTL w' ht i (hmemI hl))⟩
              · exact .inr hy
            exact wpAnyS_first ho (Region.noSelect_spec hsel) (fun c a w => hcalm c _ _ w) (hST i (hmemI hl)) (hSw i) _ listed a w hsh (Region.free_spec ho hf) hrm hy' hT hrest
          · have hy' : YieldsIf P ops (fun _ => True) o v a := by
              rcases hy with ⟨hw, hy⟩ | hy
              · exact .inl ⟨hw, fun w' _ => hy w' (fun h => absurd h hl)⟩
              · exact .inr hy
            exact wpAnyS_first (T := fun _ => True) ho (Region.noSelect_spec hsel) (fun c a w => hcalm c _ _ w) (fun _ _ _ _ _ _ => trivial) (hSw i) _ listed a w hsh (Region.free_spec ho hf) hrm hy' trivial hrest
    by_cases hl : isLoad o.op = true
    · rw [if_pos hl, te_eq] at hko
      by_cases hbig : inS S (big i) = true
      · rw [if_pos hbig] at hko
        cases hko
      rw [if_neg hbig] at hko
      obtain rfl := Option.some.inj hko
      obtain ⟨ko, hko, h⟩ := orFail_some h
      obtain ⟨d, hd, hko⟩ := ob_some hko
      have goOn : ∀ v e, finL d (cEarly P oc S n ops rest l ((i, edgeM ms o.after.toList) :: ms) (big i :: sgOf S sg o.dst)) ih fr es m v e = some y →
          ∃ fr' es', (cEarly P oc S n ops rest l ((i, edgeM ms o.after.toList) :: ms) (big i :: sgOf S sg o.dst)).run ih fr' (e :: es') m = some y ∧
            (∀ j, j ≠ i → findE (big j) (big i :: sgOf S sg o.dst) (e :: es') = findE (big j) sg es) ∧ findE (big i) (big i :: sgOf S sg o.dst) (e :: es') = e ∧
            ∀ F a val, AR ρ F n S sg fr es a → den ρ F v = some val → AR ρ F n S (big i :: sgOf S sg o.dst) fr' (e :: es') (a.put o.dst val) := by
        intro v e hf
        obtain ⟨fr', es', h1, h2, h3⟩ := put_spec (ρ := ρ) (fr := fr) (es := es) hd v
        refine ⟨fr', es', ?_, fun j hj => ?_, ?_, fun F a val hA hv => ?_⟩
        · rw [← hf]
          unfold finL
          rw [h1]
        · show te (Nat.beq (big i) (big j)) e (findE (big j) (sgOf S sg o.dst) es') = _
          rw [te_eq, if_neg (big_ne hj), h3 (big j) sg (by show n ≤ 1000000 + j; omega)]
        · show te (Nat.beq (big i) (big i)) e _ = e
          rw [te_eq, if_pos (Nat.beq_refl _)]
        · have hA1 := h2 F sg a val hA hv
          refine ⟨hA1.size, hA1.slots.defers, fun t => ?_⟩
          have h4 := hA1.slots.held t
          by_cases ht : inS S t = true
          · rw [getG_in ht] at h4 ⊢
            by_cases hb : Nat.beq (big i) t = true
            · rw [← Nat.eq_of_beq_eq_true hb] at ht
              exact absurd ht hbig
            · have e1 : findE t (big i :: sgOf S sg o.dst) (e :: es') = findE t (sgOf S sg o.dst) es' := by
                show te (Nat.beq (big i) t) e _ = _
                rw [te_eq, if_neg hb]
                rfl
              rw [e1]
              exact h4
          · by_cases h5 : t < 512
            · rw [getG_out ht h5] at h4 ⊢; exact h4
            · rw [getG_far ht h5] at h4 ⊢; exact h4
      cases hg : o.guard with
      | none =>
        rw [hg] at hko
        obtain ⟨v, e, hf, hL⟩ := ld_some (ρ := ρ) hko h
        obtain ⟨fr', es', h1, h2, h3, h4⟩ := goOn v e hf
        refine step _ fr' _ h1 h2 (.inr hl) (fun base F w a hI hA => ?_)
        obtain ⟨hok, val, hv, hrun⟩ := hL base F w a hI hA.slots
        rw [h3]
        exact ⟨fun _ => hok, val, h4 F a val hA hv, .inl ⟨by unfold Region.wanted; rw [hg], fun w' hw' => hrun w' (hw' hl)⟩⟩
      | some p =>
        obtain ⟨j, b⟩ := p
        rw [hg] at hko
        obtain rfl := Option.some.inj hko
        rcases isB_some (show isB b ((guardAt S sg ops j).at fr es) _ _ = some y from h) with ⟨hgv, h⟩ | ⟨h, hgv, hgn⟩
        · obtain ⟨ko2, hko2, h⟩ := orFail_some h
          obtain ⟨v, e, hf, hL⟩ := ld_some (ρ := ρ) hko2 h
          obtain ⟨fr', es', h1, h2, h3, h4⟩ := goOn v e hf
          refine step _ fr' _ h1 h2 (.inr hl) (fun base F w a hI hA => ?_)
          obtain ⟨hok, val, hv, hrun⟩ := hL base F w a hI hA.slots
          rw [h3]
          exact ⟨fun _ => hok, val, h4 F a val hA hv, .inl ⟨guard_yes hA.slots hg hgv, fun w' hw' => hrun w' (hw' hl)⟩⟩
        · obtain ⟨fr', es', h1, h2, h3, h4⟩ := goOn undefAV (.agg []) h
          refine step _ fr' _ h1 h2 (.inr hl) (fun base F w a hI hA => ?_)
          rw [h3]
          exact ⟨fun _ => .inl rfl, undef, h4 F a undef hA (den_undef F), .inr ⟨guard_no hA.slots hg hgv hgn, rfl⟩⟩
    · rw [if_neg hl] at hko
      obtain ⟨hp0, hko⟩ := gd_some hko
      obtain rfl := Option.some.inj hko
      obtain ⟨ko, hko, h⟩ := orFail_some h
      obtain ⟨d, hd, hko⟩ := ob_some hko
      have goOn : ∀ v, fin d (cEarly P oc S n ops rest l ((i, edgeM ms o.after.toList) :: ms) (sgOf S sg o.dst)) ih fr es m v = some y →
          ∃ fr' es', (cEarly P oc S n ops rest l ((i, edgeM ms o.after.toList) :: ms) (sgOf S sg o.dst)).run ih fr' es' m = some y ∧
            (∀ j, findE (big j) (sgOf S sg o.dst) es' = findE (big j) sg es) ∧
            ∀ F a val, AR ρ F n S sg fr es a → den ρ F v = some val → AR ρ F n S (sgOf S sg o.dst) fr' es' (a.put o.dst val) := by
        intro v hf
        obtain ⟨fr', es', h1, h2, h3⟩ := put_spec (ρ := ρ) (fr := fr) (es := es) hd v
        refine ⟨fr', es', ?_, fun j => h3 (big j) sg (by show n ≤ 1000000 + j; omega), fun F a val hA hv => h2 F sg a val hA hv⟩
        rw [← hf]
        unfold fin
        rw [h1]
      have run : (cOp1 P oc S sg o.op d (cEarly P oc S n ops rest l ((i, edgeM ms o.after.toList) :: ms) (sgOf S sg o.dst))).run ih fr es m = some y → ∃ v, fin d (cEarly P oc S n ops rest l ((i, edgeM ms o.after.toList) :: ms) (sgOf S sg o.dst)) ih fr es m v = some y ∧
          ∀ (F : Env) (w : World) (a : Act), OrcOk ρ P oc → Held ρ F (getG S sg fr es) a → Tells ρ P F a w o v := by
        intro h
        rcases cOp1_some h with ⟨ko, hc, h⟩ | ⟨ko, hc, h⟩
        · exact cPure_goes0 o (pure0_memless hp0) hc h
        · exact (pure0_cEff hp0 hc).elim
      cases hg : o.guard with
      | none =>
        rw [hg] at hko
        obtain rfl := Option.some.inj hko
        obtain ⟨v, hf, hT⟩ := run h
        obtain ⟨fr', es', h1, h2, h4⟩ := goOn v hf
        refine step _ fr' _ h1 (fun j _ => h2 j) (.inl (by simpa using hl)) (fun base F w a hI hA => ?_)
        obtain ⟨val, hv, _⟩ := hT F w a hoc hA.slots
        refine ⟨fun h => absurd h hl, val, h4 F a val hA hv, .inl ⟨by unfold Region.wanted; rw [hg], fun w' _ => ?_⟩⟩
        obtain ⟨val', hv', hrun⟩ := hT F w' a hoc hA.slots
        rw [hv] at hv'
        obtain rfl := Option.some.inj hv'
        exact hrun
      | some p =>
        obtain ⟨j, b⟩ := p
        rw [hg] at hko
        obtain rfl := Option.some.inj hko
        rcases isB_some (show isB b ((guardAt S sg ops j).at fr es) _ _ = some y from h) with ⟨hgv, h⟩ | ⟨h, hgv, hgn⟩
        · obtain ⟨v, hf, hT⟩ := run h
          obtain ⟨fr', es', h1, h2, h4⟩ := goOn v hf
          refine step _ fr' _ h1 (fun j _ => h2 j) (.inl (by simpa using hl)) (fun base F w a hI hA => ?_)
          obtain ⟨val, hv, _⟩ := hT F w a hoc hA.slots
          refine ⟨fun h => absurd h hl, val, h4 F a val hA hv, .inl ⟨guard_yes hA.slots hg hgv, fun w' _ => ?_⟩⟩
          obtain ⟨val', hv', hrun⟩ := hT F w' a hoc hA.slots
          rw [hv] at hv'
          obtain rfl := Option.some.inj hv'
          exact hrun
        · obtain ⟨fr', es', h1, h2, h4⟩ := goOn undefAV h
          refine step _ fr' _ h1 (fun j _ => h2 j) (.inl (by simpa using hl)) (fun base F w a hI hA => ?_)
          exact ⟨fun h => absurd h hl, undef, h4 F a undef hA (den_undef F), .inr ⟨guard_no hA.slots hg hgv hgn, rfl⟩⟩

/-- THE REGION -/
theorem mixed_sound (hmix : P.follows .mixedOrders = true) (hpl : Plainly P) (hoc : OrcOk ρ P oc) {ih : Rec} (hih : RecOk ρ P ih) (hn : n ≤ 512) (hcalm : Calm Q) (hs : schedOk ops = true) {id : Nat} {kc : KO} {y : Out} {fr : Fr} {m : Mem}
    (h : (cOpsM P oc S n ops kc).run ih fr [] m = some y) {base : Nat} {F : Env} {w : World} {a : Act} (hI : Inv ρ base F m w) (hA : AR ρ F n S [] fr [] a)
    (hQ : ∀ sg' fr' es' m' F' a' w', Ext F F' → AR ρ F' n S sg' fr' es' a' → Inv ρ base F' m' w' → Fares base F m w F' m' w' → kc.run ih fr' es' m' = some y → Q .normal a' w') : (Code.region id ops true).wp P Q a w := by
  obtain ⟨hs1, hs2⟩ := both (show te (te (Region.noSelect ops) (apartN (early ops)) false) (te (Nat.beq (Nat.add (early ops).length (cntP (plan ops))) ops.size) (goEarly ops (early ops) (Array.replicate ops.size false) fun listed => goLate ops (plan ops) listed) false) false = true from hs)
  obtain ⟨hsel, hap⟩ := both hs1
  obtain ⟨hlen, hgo⟩ := both hs2
  have hlen' : (early ops).length + (cntP (plan ops)) = ops.size := Nat.eq_of_beq_eq_true hlen
  have hdr : Below w.heap.size w { w with drawn := w.drawn + 1 } := (Below.refl _ w).drew
  have hdb : Fares base F m w F m { w with drawn := w.drawn + 1 } := Fares.above hI.size hdr
  obtain ⟨msE, sgE, frE, esE, h1, _, h3, h4⟩ := early_sound (Q := Q) hoc hn hcalm hsel (early ops) [] [] fr [] m h hap
  obtain ⟨hld, hgoOn⟩ := h4 base F _ a (hI.below hdr) hA
  refine wp_region_any hmix (wpAny_of_S (S := fun j w1 w2 => w2 = w1 ∨ ((∃ i ∈ loadsOf ops (early ops), ¬ Dep ops i j) → ∀ i ∈ loadsOf ops (early ops), LdOk ρ F w2 (findE (big i) sgE esE))) _ _ _ _ ?_)
  rw [show ops.size = (cntP (plan ops)) + (early ops).length by omega]
  have hrep : Array.replicate ((cntP (plan ops)) + (early ops).length) false = Array.replicate ops.size false := by rw [← hlen']; congr 1; omega
  rw [hrep]
  refine hgoOn _ (fun w' => ∀ i ∈ loadsOf ops (early ops), LdOk ρ F w' (findE (big i) sgE esE)) (cntP (plan ops)) (Array.replicate ops.size false) _ hld (fun w' h => h) (fun i hi j w1 w2 hnd hT hS => ?_) (fun _ _ => .inl rfl) .none hgo (fun listedE aE hk hsh hAE => ?_)
  · rcases hS with rfl | hS
    · exact hT
    · exact hS ⟨i, hi, hnd⟩
  · exact late_sound hpl hoc hih hn hcalm hsel (fun j w1 w2 h => .inr h) (fun _ _ => .inl rfl) hld (plan ops) msE sgE frE esE m h1 F _ aE listedE (Ext.refl F) (hI.below hdr) (Fares.refl _ _ _ _) hAE (fun _ _ => rfl) (h3 masks_nil) hsh hk
      (fun sg' fr' es' m' F' a' w' k1 k2 k3 k4 k5 => hQ sg' fr' es' m' F' a' w' k1 k2 k3 (hdb.trans k4) k5)

end Go.Proofs.YtplnnlnkcfappaaGreat.E3
