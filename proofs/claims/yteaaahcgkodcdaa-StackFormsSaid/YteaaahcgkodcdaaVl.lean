/- The evaluator tells the truth, part 10: drawn regions, scopes, calls; the theorem. -/
import Derived.Test.YteaaahcgkodcdaaVk
namespace Go.Proofs.Yteaaahcgkodcdaa.Ev
open Go Go.RowKit
set_option linter.unusedSimpArgs false
set_option linter.unusedVariables false

variable {P : Program} {kn : Known}

theorem below_of_class {w w' : World} (h : ∃ p : Regrown, w' = Sort.grow (redrawn w p.d) p.os) : Below w.heap.size w w' := by
  obtain ⟨p, rfl⟩ := h
  exact below_regrown w p.d p.os

theorem draw_sound (hpl : Plainly P) {N : Nat} (ih : Sound P kn N) : ∀ n all l tm m e tm' m', ev P kn (N + 1) (.draw n all l tm m) = some (.code e tm' m') → e = .normal ∧ m' = m ∧
    ∀ base wr F w a (Q : Act → Prop), Inv base wr F m w → AR F n tm a → (∀ a', AR F n tm' a' → Q a') → wpQuiet P all (fun w' => ∃ p : Regrown, w' = Sort.grow (redrawn w p.d) p.os) Q l a := by
  intro n all l tm m e tm' m' h
  cases l with
  | nil =>
    obtain ⟨rfl, rfl, rfl⟩ : Ex.normal = e ∧ tm = tm' ∧ m = m' := by
      have h' : some (Out.code .normal tm m) = some (Out.code e tm' m') := h
      simpa using h'
    exact ⟨rfl, rfl, fun base wr F w a Q hI hA hQ => wpQuiet_nil (hQ a hA)⟩
  | cons o rest =>
    have h' : te (wantedAV o all tm) (stOpD P (ev P kn N) n all rest tm o.dst m o.op) (nextD (ev P kn N) n all rest tm o.dst (.raw undef) m) = some (.code e tm' m') := h
    rw [te_eq] at h'
    by_cases hw : wantedAV o all tm = true
    · rw [if_pos hw] at h'
      unfold stOpD at h'
      cases hp : evPure P tm m o.op with
      | some v =>
        rw [hp] at h'
        obtain ⟨tm1, ht, hn⟩ := ob_some (show nextD (ev P kn N) n all rest tm o.dst v m = some _ from h')
        obtain ⟨he, hm, hl⟩ := ih.draw _ _ _ _ _ _ _ _ hn
        refine ⟨he, hm, fun base wr F w a Q hI hA hQ => wpQuiet_step fun K hK => ?_⟩
        rw [if_pos (by rw [← wanted_eq hA]; exact hw)]
        obtain ⟨val, hv, _⟩ := evPure_spec hI hA o hp
        refine ⟨val, fun w' hw' => ?_, hK _ (hl base wr F w _ Q hI (hA.put hv ht) hQ)⟩
        obtain ⟨val', hv', hrun⟩ := evPure_spec (hI.below (below_of_class hw')) hA o hp
        rw [hv] at hv'
        obtain rfl := Option.some.inj hv'
        unfold Oper.quietAt
        rw [hrun]
        exact ⟨rfl, rfl⟩
      | none =>
        rw [hp] at h'
        obtain ⟨r, hr, h'⟩ := ob_some (show ob (evEff P m.nx tm m o.op) (fun r => stEffD (ev P kn N) n all rest tm o.dst m r) = some _ from h')
        cases r with
        | val v m1 => cases h'
        | skip m1 => cases h'
        | call f args =>
          obtain ⟨oc, hoc, h'⟩ := ob_some (show ob (ev P kn N (.call m.nx f args m)) (fun oc => asCall oc fun v _ => asRaw v fun v => nextD (ev P kn N) n all rest tm o.dst (.raw v) m) = some _ from h')
          obtain ⟨v, m1, rfl, h'⟩ := asCall_some h'
          obtain ⟨val, rfl, h'⟩ := asRaw_some h'
          obtain ⟨tm1, ht, hn⟩ := ob_some (show ob (putDst tm n o.dst (.raw val)) (fun tm' => ev P kn N (.draw n all rest tm' m)) = some _ from h')
          obtain ⟨he, hm, hl⟩ := ih.draw _ _ _ _ _ _ _ _ hn
          refine ⟨he, hm, fun base wr F w a Q hI hA hQ => wpQuiet_step fun K hK => ?_⟩
          rw [if_pos (by rw [← wanted_eq hA]; exact hw)]
          obtain ⟨hfn, hcall⟩ := ih.call _ _ _ _ _ _ hoc
          refine ⟨val, fun w' hw' => ?_, hK _ (hl base wr F w _ Q hI (hA.put den_raw ht) hQ)⟩
          have hb0 := below_of_class hw'
          have hI' := hI.below hb0
          obtain ⟨vs, hvs, hrun⟩ := evEff_spec hI'.inner hA o hr
          unfold Oper.quietAt
          rw [hrun, callFunc_run hpl hfn]
          refine ⟨rfl, (hcall _ F w' vs hI'.inner hvs).mono fun e1 w'' hh => ?_⟩
          obtain ⟨F', val', rfl, hext, hv, _, hb⟩ := hh
          rw [den_raw] at hv
          obtain rfl := Option.some.inj hv
          exact ⟨rfl, regrown_of_below (hb0.trans (hb.mono hb0.size))⟩
    · rw [if_neg hw] at h'
      obtain ⟨tm1, ht, hn⟩ := ob_some (show ob (putDst tm n o.dst (.raw undef)) (fun tm' => ev P kn N (.draw n all rest tm' m)) = some _ from h')
      obtain ⟨he, hm, hl⟩ := ih.draw _ _ _ _ _ _ _ _ hn
      refine ⟨he, hm, fun base wr F w a Q hI hA hQ => wpQuiet_step fun K hK => ?_⟩
      rw [if_neg (by rw [← wanted_eq hA]; exact hw)]
      exact hK _ (hl base wr F w _ Q hI (hA.put den_raw ht) hQ)

theorem scope_sound {N : Nat} (ih : Sound P kn N) : ∀ wr n b c tm m e tm' m', ev P kn (N + 1) (.scope wr n b c tm m) = some (.code e tm' m') → ∀ base F w a, Inv base wr F m w → AR F n tm a →
    ScopeWp P b c (Post base wr F n e tm' m' w) a w := by
  intro wr n b c tm m e tm' m' h base F w a hI hA
  obtain ⟨o, ho, h⟩ := ob_some (show stScope (ev P kn N) wr n b c tm m = some _ from h)
  obtain ⟨e1, tm1, m1, rfl, h⟩ := asCode_some h
  have hc := ih.code _ _ _ _ _ _ _ _ ho base F w a hI hA
  intro fr k cs
  obtain ⟨x, a1, w1, ⟨F1, hx, h2, h3, h4, h5⟩, harr⟩ := hc fr (.inScope b :: k) cs
  cases e1 with
  | normal =>
    obtain ⟨rfl, rfl, rfl⟩ : Ex.normal = e ∧ tm1 = tm' ∧ m1 = m' := by simpa [asCode] using h
    subst hx
    exact ⟨.normal, a1, w1, ⟨F1, rfl, h2, h3, h4, h5⟩, Steps.trans harr (.one step_inScope)⟩
  | ret =>
    obtain ⟨rfl, rfl, rfl⟩ : Ex.ret = e ∧ tm1 = tm' ∧ m1 = m' := by simpa [asCode] using h
    subst hx
    exact ⟨.ret, a1, w1, ⟨F1, rfl, h2, h3, h4, h5⟩, harr⟩
  | exit id =>
    obtain ⟨rfl, rfl, rfl⟩ : Ex.exit id = e ∧ tm1 = tm' ∧ m1 = m' := by simpa [asCode] using h
    subst hx
    exact ⟨.exit id, a1, w1, ⟨F1, rfl, h2, h3, h4, h5⟩, fun k' hk => harr k' (by simp [exitTo, hk])⟩
  | goto l =>
    obtain ⟨rest, hf, h⟩ := ob_some (show ob (findLabel b l) (fun rest => ev P kn N (.scope wr n b rest tm1 m1)) = some _ from h)
    subst hx
    have hg : gotoIn l (.inScope b :: k) = some (.code rest :: .inScope b :: k) := by simp [gotoIn, hf]
    obtain ⟨x2, a2, w2, hp, harr2⟩ := ih.scope _ _ _ _ _ _ _ _ _ h base F1 w1 a1 h4 h3 fr k cs
    exact ⟨x2, a2, w2, hp.from h2 h5, .of_steps (harr _ hg) harr2⟩

theorem region_sound (hmix : P.follows .mixedOrders = true) {N : Nat} (ih : Sound P kn N) {wr n id : Nat} {ops : Array Oper} {draw : Bool} {tm : Tr AV} {m : Mem} {e : Ex} {tm' : Tr AV} {m' : Mem}
    (h : stRegion (ev P kn N) wr n ops draw tm m = some (.code e tm' m')) {base : Nat} {F : Env} {w : World} {a : Act} (hI : Inv base wr F m w) (hA : AR F n tm a) :
    (Code.region id ops draw).wp P (Post base wr F n e tm' m' w) a w := by
  unfold stRegion at h
  rw [te_eq] at h
  cases draw with
  | true =>
    rw [if_pos rfl] at h
    obtain ⟨hB, h⟩ := gd_some h
    obtain ⟨rfl, rfl, hl⟩ := ih.draw _ _ _ _ _ _ _ _ h
    have e1 : ops.toList.toArray = ops := by simp
    have key := wp_region_quiet_below (P := P) (id := id) (Q := Post base wr F n .normal tm' m' w) (a := a) (w := w) (l := ops.toList) hmix (by rw [e1]; exact hB)
      (by rw [e1]; exact hl base wr F w a _ hI hA (fun a' hA' w' hw' => ⟨F, rfl, Ext.refl F, hA', hI.below (below_of_class hw'), (below_of_class hw').mono hI.size⟩))
    rw [e1] at key
    exact key
  | false =>
    rw [if_neg (by simp)] at h
    obtain ⟨rfl, hl⟩ := ih.ops _ _ _ _ _ _ _ _ _ h
    exact wp_region_list (hl base F w a hI hA)

theorem code_sound (hmix : P.follows .mixedOrders = true) {N : Nat} (ih : Sound P kn N) : ∀ wr n c tm m e tm' m', ev P kn (N + 1) (.code wr n c tm m) = some (.code e tm' m') → ∀ base F w a, Inv base wr F m w → AR F n tm a →
    c.wp P (Post base wr F n e tm' m' w) a w := by
  intro wr n c tm m e tm' m' h base F w a hI hA
  have h0 := h
  replace h : stCode (ev P kn N) wr n c tm m = some (.code e tm' m') := h
  have here : ∀ e0 : Ex, some (Out.code e0 tm m) = some (Out.code e tm' m') → Post base wr F n e tm' m' w e0.to a w := by
    intro e0 he
    obtain ⟨rfl, rfl, rfl⟩ : e0 = e ∧ tm = tm' ∧ m = m' := by simpa using he
    exact ⟨F, rfl, Ext.refl F, hA, hI, Below.refl _ _⟩
  cases c <;> simp only [stCode] at h
  case skip => exact wp_skip (here .normal h)
  case region id ops draw => exact region_sound hmix ih h hI hA
  case seq x y => exact wp_seq (seq_wp ih h hI hA (fun F1 tm1 m1 a1 w1 h2 h3 h4 h5 h6 => Code.wp_mono (fun _ _ _ q => q.from h2 h5) (ih.code _ _ _ _ _ _ _ _ h6 base F1 w1 a1 h4 h3)))
  case cond q x y =>
    obtain ⟨v, hv, h⟩ := asRaw_some (show asRaw (evO tm q) _ = some _ from h)
    have hq := hA.raw hv
    cases v <;> simp only at h <;> try cases h
    rename_i t
    rw [te_eq] at h
    refine wp_cond hq ?_
    cases t
    · exact ih.code _ _ _ _ _ _ _ _ h base F w a hI hA
    · exact ih.code _ _ _ _ _ _ _ _ h base F w a hI hA
  case block id b =>
    obtain ⟨o, ho, h⟩ := ob_some h
    obtain ⟨e1, tm1, m1, rfl, h⟩ := asCode_some h
    refine wp_block (Code.wp_mono (fun x a1 w1 hp => ?_) (ih.code _ _ _ _ _ _ _ _ ho base F w a hI hA))
    obtain ⟨F1, rfl, h2, h3, h4, h5⟩ := hp
    cases e1 with
    | normal =>
      obtain ⟨rfl, rfl, rfl⟩ : Ex.normal = e ∧ tm1 = tm' ∧ m1 = m' := by simpa [asCode, blockEnd] using h
      exact ⟨F1, rfl, h2, h3, h4, h5⟩
    | ret =>
      obtain ⟨rfl, rfl, rfl⟩ : Ex.ret = e ∧ tm1 = tm' ∧ m1 = m' := by simpa [asCode, blockEnd] using h
      exact ⟨F1, rfl, h2, h3, h4, h5⟩
    | goto l =>
      obtain ⟨rfl, rfl, rfl⟩ : Ex.goto l = e ∧ tm1 = tm' ∧ m1 = m' := by simpa [asCode, blockEnd] using h
      exact ⟨F1, rfl, h2, h3, h4, h5⟩
    | exit i =>
      simp only [asCode, blockEnd, te_eq] at h
      by_cases hi : Nat.beq i id = true
      · rw [if_pos hi] at h
        obtain ⟨rfl, rfl, rfl⟩ : Ex.normal = e ∧ tm1 = tm' ∧ m1 = m' := by simpa using h
        simp only [Ex.to, Exit.inBlock]
        rw [if_pos (Nat.eq_of_beq_eq_true hi)]
        exact ⟨F1, rfl, h2, h3, h4, h5⟩
      · rw [if_neg hi] at h
        obtain ⟨rfl, rfl, rfl⟩ : Ex.exit i = e ∧ tm1 = tm' ∧ m1 = m' := by simpa using h
        simp only [Ex.to, Exit.inBlock]
        rw [if_neg (fun e => hi (by rw [e]; exact Nat.beq_refl id))]
        exact ⟨F1, rfl, h2, h3, h4, h5⟩
  case loop b => exact wp_loop_rounds _ (loop_sound ih _ _ _ _ _ _ _ _ h0 base F w a hI hA)
  case exit id => exact wp_exit (here (.exit id) h)
  case scope b =>
    have hs := ih.scope _ _ _ _ _ _ _ _ _ h base F w a hI hA
    intro fr k cs
    obtain ⟨x, a1, w1, hp, harr⟩ := hs fr k cs
    exact ⟨x, a1, w1, hp, .of_steps (.one step_scope) harr⟩
  case label l => exact wp_label (here .normal h)
  case goto l => exact wp_goto (here (.goto l) h)
  case ret => exact wp_ret (here .ret h)
  all_goals cases h

theorem call_sound (hkn : KnownOk P kn) {N : Nat} (ih : Sound P kn N) : ∀ wr f args m x m', ev P kn (N + 1) (.call wr f args m) = some (.call x m') → CallOk P wr f args m x m' := by
  intro wr f args m x m' h
  replace h : stCall P kn (ev P kn N) wr f args m = some (.call x m') := h
  unfold stCall at h
  cases hk : kn f args with
  | some v =>
    rw [hk] at h
    obtain ⟨rfl, rfl⟩ : AV.raw v = x ∧ m = m' := by
      have h' : some (Out.call (.raw v) m) = some (Out.call x m') := h
      simpa using h'
    obtain ⟨h1, h2⟩ := hkn f args v hk
    refine ⟨h1, fun base F w vs hI hd => (h2 F w vs hd).mono fun e w' hh => ?_⟩
    obtain ⟨rfl, hb⟩ := hh
    exact ⟨F, v, rfl, Ext.refl F, den_raw, hI.below hb, hb.mono hI.size⟩
  | none =>
    rw [hk] at h
    obtain ⟨fn, hf, h⟩ := ob_some (show stBody P (ev P kn N) wr f args m = some _ from h)
    obtain ⟨c, hc, h⟩ := ob_some h
    obtain ⟨hle, h⟩ := gd_some h
    obtain ⟨tm, ht, h⟩ := ob_some h
    obtain ⟨o, ho, h⟩ := ob_some h
    obtain ⟨e1, tm1, m1, rfl, h⟩ := asCode_some h
    refine ⟨⟨fn, hf, by rw [hc]; rfl⟩, fun base F w vs hI hd => ?_⟩
    have hA := frame_AR hd (Nat.le_of_ble_eq_true hle) ht
    refine calls_of_wp hf hc (Code.wp_mono (fun y a1 w1 hp => ?_) (ih.code _ _ _ _ _ _ _ _ ho base F w _ hI hA))
    obtain ⟨F1, rfl, h2, h3, h4, h5⟩ := hp
    cases e1 with
    | normal =>
      obtain ⟨xs, hx, h⟩ := ob_some (show ob (evResults P tm1 m1 fn.results.toList) (fun l => some (Out.call (single l) m1)) = some _ from h)
      obtain ⟨rfl, rfl⟩ : single xs = x ∧ m1 = m' := by simpa using h
      obtain ⟨v, hv, hrun⟩ := results_run h4 h3 fn hx
      exact ⟨h3.defers, v, hrun, F1, v, rfl, h2, hv, h4, h5⟩
    | ret =>
      obtain ⟨xs, hx, h⟩ := ob_some (show ob (evResults P tm1 m1 fn.results.toList) (fun l => some (Out.call (single l) m1)) = some _ from h)
      obtain ⟨rfl, rfl⟩ : single xs = x ∧ m1 = m' := by simpa using h
      obtain ⟨v, hv, hrun⟩ := results_run h4 h3 fn hx
      exact ⟨h3.defers, v, hrun, F1, v, rfl, h2, hv, h4, h5⟩
    | exit i => cases h
    | goto l => cases h

theorem sound (hmix : P.follows .mixedOrders = true) (hpl : Plainly P) (hkn : KnownOk P kn) : ∀ N, Sound P kn N
  | 0 => ⟨fun _ _ _ _ _ _ _ _ h => (nomatch h), fun _ _ _ _ _ _ _ _ h => (nomatch h), fun _ _ _ _ _ _ _ _ _ h => (nomatch h), fun _ _ _ _ _ _ _ _ h => (nomatch h), fun _ _ _ _ _ _ _ _ _ h => (nomatch h), fun _ _ _ _ _ _ h => (nomatch h)⟩
  | N + 1 =>
    have ih := sound hmix hpl hkn N
    ⟨code_sound hmix ih, loop_sound ih, ops_sound hpl ih, draw_sound hpl ih, scope_sound ih, call_sound hkn ih⟩

end Go.Proofs.Yteaaahcgkodcdaa.Ev
