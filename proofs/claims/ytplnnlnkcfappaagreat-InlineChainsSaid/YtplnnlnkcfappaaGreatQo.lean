/- The second evaluator tells the truth, part 10: regions that draw their order and touch the memory. -/
import Derived.Test.YtplnnlnkcfappaaGreatQq
namespace Go.Proofs.YtplnnlnkcfappaaGreat.E3
open Go Go.RowKit
set_option linter.unusedSimpArgs false
set_option linter.unusedVariables false

variable {ρ : Syms} {P : Program} {oc : Orc} {S n : Nat} {ops : Array Oper} {Q : Exit → Act → World → Prop}

/-! ### One operation -/
theorem cOp_wpOp2 (hpl : Plainly P) (hoc : OrcOk ρ P oc) {ih : Rec} (hih : RecOk ρ P ih) {o : Oper} {i : Nat} (hi : ops[i]? = some o) {kc : KO} {y : Out} {sg : List Nat} {fr : Fr} {es : Es} {m : Mem} (h : (cOp P oc S sg n ops o kc).run ih fr es m = some y)
    {base : Nat} {F : Env} {w : World} {a : Act} (hI : Inv ρ base F m w) (hA : AR ρ F n S sg fr es a) {K : Act → World → Prop}
    (hK : ∀ fr' es' m' F' a' w', Ext F F' → AR ρ F' n S (sgOf S sg o.dst) fr' es' a' → Inv ρ base F' m' w' → Fares base F m w F' m' w' → (∀ t, n ≤ t → findE t (sgOf S sg o.dst) es' = findE t sg es) → kc.run ih fr' es' m' = some y →
      (∀ s, o.dst ≠ some s → getG S (sgOf S sg o.dst) fr' es' s = getG S sg fr es s) → (∃ v, a' = a.put o.dst v) → K a' w') :
    wpOp P ops Q i K a w := by
  obtain ⟨ko, hko, h⟩ := orFail_some h
  obtain ⟨d, hd, hko⟩ := ob_some hko
  have goOn : ∀ (x : AV) (v : Value) (F' : Env) (m' : Mem) (w' : World), fin d kc ih fr es m' x = some y → Ext F F' → den ρ F' x = some v → Inv ρ base F' m' w' → Fares base F m w F' m' w' → K (a.put o.dst v) w' := by
    intro x v F' m' w' hf hext hv hI' hb
    obtain ⟨fr', es', h1, h2, h2', h3⟩ := put_get (fr := fr) (es := es) hd x
    have hrun : kc.run ih fr' es' m' = some y := by
      rw [← hf]
      unfold fin
      rw [h1]
    exact hK fr' es' m' F' _ w' hext ((hA.ext hext).put_got (h2 sg) (h2' sg) hv) hI' hb (fun t ht => h3 t sg ht) hrun (h2 sg) ⟨v, rfl⟩
  have run : (cOp1 P oc S sg o.op d kc).run ih fr es m = some y → Region.wanted o (yielded ops a.tmps) = true → wpOp P ops Q i K a w := by
    intro h hw
    unfold wpOp
    simp only [hi]
    rw [if_pos hw]
    left
    unfold Oper.wp
    rcases cOp1_some h with ⟨ko, hc, h⟩ | ⟨ko, hc, h⟩
    · obtain ⟨x, hf, ht⟩ := cPure_goes o hc h
      obtain ⟨val, hv, hrun⟩ := ht base F w a hoc hI hA.slots
      rw [hrun, Oper.upon_value]
      exact goOn x val F m w hf (Ext.refl F) hv hI (Fares.refl _ _ _ _)
    · cases cEff_does hoc hI hA.slots o hc h with
      | value x m' F' val w' h0 h1 h2 h3 h4 h5 =>
        rw [h3, Oper.upon_value]
        exact goOn x val F' m' w' h0 h1 h2 h4 h5
      | skip m' w' h0 h3 h4 h5 =>
        rw [h3, Oper.upon_skip]
        exact goOn undefAV undef F m' w' h0 (Ext.refl F) (den_undef F) h4 h5
      | call f args vs h0 h1 h3 =>
        obtain ⟨v, m1, hc, h0⟩ := callR_some h0
        rcases hih _ _ _ _ _ hc base F w vs hI h1 with ⟨hr, hcall⟩ | ⟨u, hr, hh⟩
        · rw [h3, hr, Oper.upon_enter]
          refine hcall.mono fun e1 w' hh => ?_
          obtain ⟨val, rfl, F', hext, hv, hI', hb⟩ := hh
          exact goOn v val F' m1 w' h0 hext hv hI' hb
        · obtain ⟨F', hext, hv, hI', hb⟩ := hh
          rw [h3, hr, Oper.upon_value]
          exact goOn v u F' m1 w h0 hext hv hI' hb
  cases hg : o.guard with
  | none =>
    rw [hg] at hko
    obtain rfl := Option.some.inj hko
    exact run h (by unfold Region.wanted; rw [hg])
  | some p =>
    obtain ⟨j, b⟩ := p
    rw [hg] at hko
    obtain rfl := Option.some.inj hko
    rcases isB_some (show isB b ((guardAt S sg ops j).at fr es) _ _ = some y from h) with ⟨hv, h⟩ | ⟨h, hv, hn⟩
    · exact run h (guard_yes hA.slots hg hv)
    · unfold wpOp
      simp only [hi]
      rw [if_neg (by rw [guard_no hA.slots hg hv hn]; simp)]
      exact goOn undefAV undef F m w h (Ext.refl F) (den_undef F) hI (Fares.refl _ _ _ _)

theorem cOp_wpOp (hpl : Plainly P) (hoc : OrcOk ρ P oc) {ih : Rec} (hih : RecOk ρ P ih) {o : Oper} {i : Nat} (hi : ops[i]? = some o) {kc : KO} {y : Out} {sg : List Nat} {fr : Fr} {es : Es} {m : Mem} (h : (cOp P oc S sg n ops o kc).run ih fr es m = some y)
    {base : Nat} {F : Env} {w : World} {a : Act} (hI : Inv ρ base F m w) (hA : AR ρ F n S sg fr es a) {K : Act → World → Prop}
    (hK : ∀ fr' es' m' F' a' w', Ext F F' → AR ρ F' n S (sgOf S sg o.dst) fr' es' a' → Inv ρ base F' m' w' → Fares base F m w F' m' w' → (∀ t, n ≤ t → findE t (sgOf S sg o.dst) es' = findE t sg es) → kc.run ih fr' es' m' = some y → K a' w') :
    wpOp P ops Q i K a w :=
  cOp_wpOp2 hpl hoc hih hi h hI hA (fun fr' es' m' F' a' w' k1 k2 k3 k4 k5 k6 _ _ => hK fr' es' m' F' a' w' k1 k2 k3 k4 k5 k6)

/-! ### What was read -/
/-- what an entry says of the memory -/
def LdOk (ρ : Syms) (F : Env) (w : World) (e : AV) : Prop :=
  e = .agg [] ∨ ∃ b off l g c vs, e = .agg (.ptr b off :: l) ∧ F b = some (g, c) ∧ dens ρ F l = some vs ∧ ∀ j v, vs[j]? = some v → w.cell? ((⟨g, c.2 + off, none⟩ : Addr).add j) = some v

theorem string_eq {s t : ByteArray} (h : bytesEq s.data.toList t.data.toList = true) : s = t := by
  have := bytesEq_eq h
  cases s; cases t
  simp only [ByteArray.mk.injEq]
  exact Array.ext' this

theorem rawEq_eq {u v : Value} (h : rawEq u v = true) : u = v := by
  unfold rawEq at h
  split at h
  · rw [string_eq h]
  · rfl
  · rw [te_eq] at h
    split at h
    · rename_i h1
      rw [Nat.eq_of_beq_eq_true h1, Nat.eq_of_beq_eq_true h]
    · cases h
  · rw [of_decide_eq_true h]
  · rw [of_decide_eq_true h]
  · rw [te_eq] at h
    split at h
    · rename_i h1
      rw [Nat.eq_of_beq_eq_true h1, Nat.eq_of_beq_eq_true h]
    · cases h
  · rfl
  · rfl
  · cases h
theorem eqAV_eq {x y : AV} (h : eqAV x y = true) : x = y := by
  unfold eqAV at h
  split at h
  · rw [rawEq_eq h]
  · rw [Nat.eq_of_beq_eq_true h]
  · rename_i b c
    cases b <;> cases c <;> first | rfl | cases h
  · rw [te_eq] at h
    split at h
    · rename_i h1
      rw [Nat.eq_of_beq_eq_true h1, Nat.eq_of_beq_eq_true h]
    · cases h
  · obtain ⟨h1, h⟩ : _ ∧ _ := by
      rw [te_eq] at h
      split at h
      · rename_i h1; exact ⟨h1, h⟩
      · cases h
    obtain ⟨h2, h⟩ : _ ∧ _ := by
      rw [te_eq] at h
      split at h
      · rename_i h1; exact ⟨h1, h⟩
      · cases h
    obtain ⟨h3, h⟩ : _ ∧ _ := by
      rw [te_eq] at h
      split at h
      · rename_i h1; exact ⟨h1, h⟩
      · cases h
    rw [Nat.eq_of_beq_eq_true h1, Nat.eq_of_beq_eq_true h2, Nat.eq_of_beq_eq_true h3, Nat.eq_of_beq_eq_true h]
  · rw [Nat.eq_of_beq_eq_true h]
  · rw [te_eq] at h
    split at h
    · rename_i h1
      rw [Nat.eq_of_beq_eq_true h1, Nat.eq_of_beq_eq_true h]
    · cases h
  · rw [Nat.eq_of_beq_eq_true h]
  · rw [te_eq] at h
    split at h
    · rename_i h1
      rw [Nat.eq_of_beq_eq_true h1, Nat.eq_of_beq_eq_true h]
    · cases h
  · cases h
theorem eqAVs_eq : ∀ {l r : List AV}, eqAVs l r = true → l = r
  | [], [], _ => rfl
  | [], _ :: _, h => by simp [eqAVs] at h
  | _ :: _, [], h => by simp [eqAVs] at h
  | x :: l, y :: r, h => by
    simp only [eqAVs, te_eq] at h
    split at h
    · rename_i h1
      rw [eqAV_eq h1, eqAVs_eq h]
    · cases h

theorem chk1_some {e : AV} {m : Mem} {k : R} {y : Out} (h : chk1 e m k = some y) : k = some y ∧ ∀ {F0 F : Env} {base : Nat} {w0 w : World}, Ext F0 F → Inv ρ base F m w → LdOk ρ F0 w0 e → LdOk ρ F0 w e := by
  obtain ⟨l, rfl, h⟩ := aggR_some h
  cases l with
  | nil => exact ⟨h, fun _ _ _ => .inl rfl⟩
  | cons x l =>
    obtain ⟨b, off, rfl, h⟩ := ptrR_some (show ptrR x (fun b off => m.read b off (lenAV l) fun l' => gdR (eqAVs l l') k) = some y from h)
    obtain ⟨l', h, hn, hread⟩ := read_some h
    obtain ⟨heq, h9⟩ := gdR_some h
    clear h
    obtain rfl := eqAVs_eq heq
    refine ⟨h9, fun {F0 F base w0 w} hext hI hL => ?_⟩
    rcases hL with hL | ⟨b', off', l', g, c, vs, he, hF, hvs, _⟩
    · cases hL
    · simp only [AV.agg.injEq, List.cons.injEq, AV.ptr.injEq] at he
      obtain ⟨⟨rfl, rfl⟩, rfl⟩ := he
      obtain ⟨g2, c2, vs2, h1, h2, _, h3⟩ := hread base F w hI
      rw [hext _ _ hF] at h1
      obtain ⟨rfl, rfl⟩ := Prod.mk.inj (Option.some.inj h1)
      rw [dens_ext hext _ _ hvs] at h2
      obtain rfl := Option.some.inj h2
      exact .inr ⟨b, off, l, g, c, vs, rfl, hF, hvs, h3⟩

theorem opCheck_some {kc : KO} {ih : Rec} {fr : Fr} {es : Es} {m : Mem} {y : Out} : ∀ (gets : List Get), opCheck gets kc ih fr es m = some y → kc.run ih fr es m = some y ∧
    ∀ g ∈ gets, ∀ {F0 F : Env} {base : Nat} {w0 w : World}, Ext F0 F → Inv ρ base F m w → LdOk ρ F0 w0 (g.at fr es) → LdOk ρ F0 w (g.at fr es)
  | [], h => ⟨h, fun g hg => by cases hg⟩
  | g :: gets, h => by
    obtain ⟨h, h1⟩ := chk1_some (ρ := ρ) (show chk1 (g.at fr es) m (opCheck gets kc ih fr es m) = some y from h)
    obtain ⟨h, h2⟩ := opCheck_some gets h
    refine ⟨h, fun g' hg' => ?_⟩
    rcases List.mem_cons.1 hg' with rfl | hg'
    · exact h1
    · exact h2 g' hg'

/-! ### Masks -/
theorem bitsOf_mem : ∀ (l : List Nat) (i : Nat), i ∈ l → (bitsOf l).testBit i = true
  | [], i, h => by cases h
  | x :: l, i, h => by
    show (Nat.lor (Nat.shiftLeft 1 x) (bitsOf l)).testBit i = true
    have e : Nat.lor (Nat.shiftLeft 1 x) (bitsOf l) = (1 <<< x) ||| bitsOf l := rfl
    rw [e, Nat.testBit_or]
    rcases List.mem_cons.1 h with rfl | h
    · simp [Nat.one_shiftLeft]
    · rw [bitsOf_mem l i h]
      simp

def MasksOk (ops : Array Oper) (ms : List (Nat × Nat)) : Prop := ∀ k i, (lookM ms k).testBit i = true → Dep ops i k

theorem edgeM_bit {ms : List (Nat × Nat)} {i : Nat} : ∀ (l : List Edge), (edgeM ms l).testBit i = true → ∃ e ∈ l, Region.binds .any e = true ∧ (e.on = i ∨ (lookM ms e.on).testBit i = true)
  | [], h => by
    have h' : (0 : Nat).testBit i = true := h
    simp at h'
  | e :: l, h => by
    have h' : (te (Region.binds .any e) (Nat.lor (Nat.lor (Nat.shiftLeft 1 e.on) (lookM ms e.on)) (edgeM ms l)) (edgeM ms l)).testBit i = true := h
    rw [te_eq] at h'
    by_cases hb : Region.binds .any e = true
    · rw [if_pos hb] at h'
      have e1 : Nat.lor (Nat.lor (Nat.shiftLeft 1 e.on) (lookM ms e.on)) (edgeM ms l) = ((1 <<< e.on) ||| lookM ms e.on) ||| edgeM ms l := rfl
      rw [e1, Nat.testBit_or, Nat.testBit_or] at h'
      simp only [Bool.or_eq_true] at h'
      rcases h' with (h' | h') | h'
      · refine ⟨e, by simp, hb, .inl ?_⟩
        rw [Nat.one_shiftLeft, Nat.testBit_two_pow] at h'
        simpa using h'
      · exact ⟨e, by simp, hb, .inr h'⟩
      · obtain ⟨e', h1, h2, h3⟩ := edgeM_bit l h'
        exact ⟨e', by simp [h1], h2, h3⟩
    · rw [if_neg hb] at h'
      obtain ⟨e', h1, h2, h3⟩ := edgeM_bit l h'
      exact ⟨e', by simp [h1], h2, h3⟩

theorem edgeM_dep {ms : List (Nat × Nat)} (hms : MasksOk ops ms) {j : Nat} {o : Oper} (hj : ops[j]? = some o) {i : Nat} (h : (edgeM ms o.after.toList).testBit i = true) : Dep ops i j := by
  obtain ⟨e, he, hb, h⟩ := edgeM_bit _ h
  have he' : e ∈ o.after := by simpa using he
  rcases h with h | h
  · exact .edge hj he' hb h
  · exact .trans hj he' hb rfl (hms _ _ h)
theorem masks_cons {ms : List (Nat × Nat)} (hms : MasksOk ops ms) {j : Nat} {o : Oper} (hj : ops[j]? = some o) : MasksOk ops ((j, edgeM ms o.after.toList) :: ms) := by
  intro k i h
  have h' : (te (Nat.beq j k) (edgeM ms o.after.toList) (lookM ms k)).testBit i = true := h
  rw [te_eq] at h'
  by_cases hk : Nat.beq j k = true
  · rw [if_pos hk] at h'
    rw [← Nat.eq_of_beq_eq_true hk]
    exact edgeM_dep hms hj h'
  · rw [if_neg hk] at h'
    exact hms _ _ h'
theorem masks_add {ms ms0 : List (Nat × Nat)} (hms : MasksOk ops ms) (hms0 : MasksOk ops ms0) {j : Nat} {o : Oper} (hj : ops[j]? = some o) : MasksOk ops ((j, edgeM ms0 o.after.toList) :: ms) := by
  intro k i h
  have h' : (te (Nat.beq j k) (edgeM ms0 o.after.toList) (lookM ms k)).testBit i = true := h
  rw [te_eq] at h'
  by_cases hk : Nat.beq j k = true
  · rw [if_pos hk] at h'
    rw [← Nat.eq_of_beq_eq_true hk]
    exact edgeM_dep hms0 hj h'
  · rw [if_neg hk] at h'
    exact hms _ _ h'
theorem masks_nil : MasksOk ops [] := fun k i h => by
  have h' : (0 : Nat).testBit i = true := h
  simp at h'

theorem pure0_memless {op : Op} (h : pure0 op = true) : memless op = true := by
  cases op <;> first | rfl | cases h
theorem pure0_cEff {sg : List Nat} {op : Op} (h : pure0 op = true) {d : Put} {kc ko : KO} (hc : cEff P oc S sg op d kc = some ko) : False := by
  cases op <;> simp only [cEff] at hc <;> first | (cases hc; done) | (cases h; done) | skip
  case call c =>
    unfold cCallE at hc
    simp only [pure0] at h
    split at hc
    · rename_i f hf; rw [hf] at h; cases h
    · rename_i b hb
      rw [hb] at h
      split at hc
      · cases h
      · cases h
      · cases hc
    · cases hc

/-- what is asked of the post at a panic -/
def Calm (Q : Exit → Act → World → Prop) : Prop := ∀ c a a' w, Q (.panic c) a w → Q (.panic c) a' w

/-! ### Two stores -/
open Classical in
theorem store_step (hpl : Plainly P) (hoc : OrcOk ρ P oc) {ih : Rec} (hih : RecOk ρ P ih) {o : Oper} {i : Nat} (hi : ops[i]? = some o) (ho : isStore0 o = true) {sg : List Nat} {fr : Fr} {es : Es} {nx wr b : Nat} {B B' : Blk} (y : Out)
    (hsh : ∀ (H0 : B5) (k' : KO), (⟨H0, nx, wr⟩ : Mem).at b = some B → (cOp P oc S sg n ops o k').run ih fr es ⟨H0, nx, wr⟩ = k'.run ih fr es ⟨H0.put b (some B'), nx, wr⟩)
    {H0 : B5} (h0 : (⟨H0, nx, wr⟩ : Mem).at b = some B) {base : Nat} {F : Env} {w : World} {a : Act} (hI : Inv ρ base F ⟨H0, nx, wr⟩ w) (hA : AR ρ F n S sg fr es a) {K : Act → World → Prop}
    (hK : ∀ F' a' w', Ext F F' → AR ρ F' n S sg fr es a' → Inv ρ base F' ⟨H0.put b (some B'), nx, wr⟩ w' → Fares base F ⟨H0, nx, wr⟩ w F' ⟨H0.put b (some B'), nx, wr⟩ w' → K a' w') : wpOp P ops Q i K a w := by
  have h : (cOp P oc S sg n ops o (.k fun _ fr' es' m' => if fr' = fr ∧ es' = es ∧ m' = ⟨H0.put b (some B'), nx, wr⟩ then some y else none)).run ih fr es ⟨H0, nx, wr⟩ = some y := by
    rw [hsh H0 _ h0]
    show (if _ then _ else _) = _
    rw [if_pos ⟨rfl, rfl, rfl⟩]
  refine cOp_wpOp hpl hoc hih hi h hI hA (fun fr' es' m' F' a' w' k1 k2 k3 k4 k5 k6 => ?_)
  have k6' : (if fr' = fr ∧ es' = es ∧ m' = ⟨H0.put b (some B'), nx, wr⟩ then some y else none) = some y := k6
  by_cases hc : fr' = fr ∧ es' = es ∧ m' = ⟨H0.put b (some B'), nx, wr⟩
  · obtain ⟨rfl, rfl, rfl⟩ := hc
    rw [(isStore0_eq ho).2.2] at k2
    exact hK F' a' w' k1 k2 k3 k4
  · rw [if_neg hc] at k6'
    cases k6'

theorem pair_goes (hpl : Plainly P) (hoc : OrcOk ρ P oc) {ih : Rec} (hih : RecOk ρ P ih) {i j : Nat} {o o' : Oper} (hi : ops[i]? = some o) (hj : ops[j]? = some o') (ho : isStore0 o = true) (ho' : isStore0 o' = true)
    {sg : List Nat} {fr : Fr} {es : Es} {m : Mem} {kc : KO} {y : Out} (h : opPair (addrB S sg o.op) (addrB S sg o'.op) (cOp P oc S sg n ops o (cOp P oc S sg n ops o' kc)) ih fr es m = some y) :
    ∃ m2, kc.run ih fr es m2 = some y ∧ ∀ (base : Nat) (F : Env) (w : World) (a : Act), Inv ρ base F m w → AR ρ F n S sg fr es a → ∀ K : Act → World → Prop,
      (∀ F' a' w', Ext F F' → AR ρ F' n S sg fr es a' → Inv ρ base F' m2 w' → Fares base F m w F' m2 w' → K a' w') →
      wpOp P ops Q i (fun a1 w1 => wpOp P ops Q j K a1 w1) a w ∧ wpOp P ops Q j (fun a1 w1 => wpOp P ops Q i K a1 w1) a w := by
  obtain ⟨b, off, hb, h⟩ := ptrR_some h
  obtain ⟨b', off', hb', h⟩ := ptrR_some h
  rw [te_eq] at h
  by_cases hbb : Nat.beq b b' = true
  · rw [if_pos hbb] at h
    cases h
  rw [if_neg hbb] at h
  have hne : b ≠ b' := fun e => hbb (by rw [e]; exact Nat.beq_refl _)
  cases m with | mk H nx wr =>
  obtain ⟨b1, off1, B, B', e1, hB, hlt, h, hsh⟩ := store_shape ho h
  obtain ⟨b2, off2, C, C', e2, hC, hlt', h, hsh'⟩ := store_shape ho' h
  rw [hb] at e1
  obtain ⟨rfl, rfl⟩ := AV.ptr.inj e1
  rw [hb'] at e2
  obtain ⟨rfl, rfl⟩ := AV.ptr.inj e2
  have hC0 : (⟨H, nx, wr⟩ : Mem).at b' = some C := by rw [← hC]; exact (at_other hlt hne.symm).symm
  have hB0 : (⟨H.put b' (some C'), nx, wr⟩ : Mem).at b = some B := by rw [← hB]; exact at_other hlt' hne
  refine ⟨_, h, fun base F w a hI hA K hK => ⟨?_, ?_⟩⟩
  · exact store_step hpl hoc hih hi ho y hsh hB hI hA fun F1 a1 w1 k1 k2 k3 k4 =>
      store_step hpl hoc hih hj ho' y hsh' hC k3 k2 fun F2 a2 w2 l1 l2 l3 l4 => hK F2 a2 w2 (k1.trans l1) l2 l3 (k4.trans l4)
  · have hsw : ∀ c, (⟨(H.put b (some B')).put b' (some C'), nx, wr⟩ : Mem).at c = (⟨(H.put b' (some C')).put b (some B'), nx, wr⟩ : Mem).at c := fun c => by
      by_cases hc : c = b
      · subst hc
        rw [at_other (nx' := nx) (wr' := wr) hlt' hne, at_same hlt, at_same hlt]
      · rw [at_other (H := H.put b' (some C')) (nx' := nx) (wr' := wr) hlt hc]
        by_cases hc' : c = b'
        · subst hc'
          rw [at_same hlt', at_same hlt']
        · rw [at_other (nx' := nx) (wr' := wr) hlt' hc', at_other (nx' := nx) (wr' := wr) hlt' hc', at_other (nx' := nx) (wr' := wr) hlt hc]
    exact store_step hpl hoc hih hj ho' y hsh' hC0 hI hA fun F1 a1 w1 k1 k2 k3 k4 =>
      store_step hpl hoc hih hi ho y hsh hB0 k3 k2 fun F2 a2 w2 l1 l2 l3 l4 => hK F2 a2 w2 (k1.trans l1) l2 (l3.same hsw rfl rfl) ((k4.trans l4).same hsw)

theorem wpAnyS_pair {Sx : Nat → World → World → Prop} {i j fuel : Nat} {listed : Array Bool} {a : Act} {w : World} (hr : Region.ready .any ops listed = [i, j])
    (hi : wpOp P ops Q i (fun a' w' => Sx i w w' ∧ wpAnyS P ops Q Sx fuel (listed.setIfInBounds i true) a' w') a w)
    (hj : wpOp P ops Q j (fun a' w' => Sx j w w' ∧ wpAnyS P ops Q Sx fuel (listed.setIfInBounds j true) a' w') a w) : wpAnyS P ops Q Sx (fuel + 1) listed a w :=
  ⟨fun h0 => (by rw [hr] at h0; cases h0), fun k hk => (by
    rw [hr] at hk
    rcases List.mem_cons.1 hk with rfl | hk
    · exact hi
    · obtain rfl := List.mem_singleton.1 hk; exact hj)⟩

/-! ### What touches no memory -/
theorem take_some2 (hoc : OrcOk ρ P oc) {ih : Rec} (hn : n ≤ 512) {o : Oper} (hp0 : pure0 o.op = true) {kc : KO} {y : Out} {sg : List Nat} {fr : Fr} {es : Es} {m : Mem} (h : (cOp P oc S sg n ops o kc).run ih fr es m = some y) :
    ∃ fr' es', kc.run ih fr' es' m = some y ∧ (∀ s, o.dst ≠ some s → getG S (sgOf S sg o.dst) fr' es' s = getG S sg fr es s) ∧ (∀ j, findE (big j) (sgOf S sg o.dst) es' = findE (big j) sg es) ∧ ∀ F a, AR ρ F n S sg fr es a → ∃ v, AR ρ F n S (sgOf S sg o.dst) fr' es' (a.put o.dst v) ∧ YieldsIf P ops (fun _ => True) o v a := by
  obtain ⟨ko, hko, h⟩ := orFail_some h
  obtain ⟨d, hd, hko⟩ := ob_some hko
  have goOn : ∀ v, fin d kc ih fr es m v = some y →
      ∃ fr' es', kc.run ih fr' es' m = some y ∧ (∀ s, o.dst ≠ some s → getG S (sgOf S sg o.dst) fr' es' s = getG S sg fr es s) ∧ (∀ j, findE (big j) (sgOf S sg o.dst) es' = findE (big j) sg es) ∧
        ∀ F a val, AR ρ F n S sg fr es a → den ρ F v = some val → AR ρ F n S (sgOf S sg o.dst) fr' es' (a.put o.dst val) := by
    intro v hf
    obtain ⟨fr', es', h1, h2, h2', h3⟩ := put_get (fr := fr) (es := es) hd v
    refine ⟨fr', es', ?_, h2 sg, fun j => h3 (big j) sg (by show n ≤ 1000000 + j; omega), fun F a val hA hv => hA.put_got (h2 sg) (h2' sg) hv⟩
    rw [← hf]
    unfold fin
    rw [h1]
  have run : (cOp1 P oc S sg o.op d kc).run ih fr es m = some y → ∃ v, fin d kc ih fr es m v = some y ∧
      ∀ (F : Env) (w : World) (a : Act), OrcOk ρ P oc → Held ρ F (getG S sg fr es) a → Tells ρ P F a w o v := by
    intro h
    rcases cOp1_some h with ⟨ko, hc, h⟩ | ⟨ko, hc, h⟩
    · exact cPure_goes0 o (pure0_memless hp0) hc h
    · exact (pure0_cEff hp0 hc).elim
  have fire : ∀ v, fin d kc ih fr es m v = some y → (∀ (F : Env) (w : World) (a : Act), OrcOk ρ P oc → Held ρ F (getG S sg fr es) a → Tells ρ P F a w o v) → (∀ F a, AR ρ F n S sg fr es a → Region.wanted o (yielded ops a.tmps) = true) →
      ∃ fr' es', kc.run ih fr' es' m = some y ∧ (∀ s, o.dst ≠ some s → getG S (sgOf S sg o.dst) fr' es' s = getG S sg fr es s) ∧ (∀ j, findE (big j) (sgOf S sg o.dst) es' = findE (big j) sg es) ∧ ∀ F a, AR ρ F n S sg fr es a → ∃ v, AR ρ F n S (sgOf S sg o.dst) fr' es' (a.put o.dst v) ∧ YieldsIf P ops (fun _ => True) o v a := by
    intro v hf hT hw
    obtain ⟨fr', es', h1, h0, h2, h4⟩ := goOn v hf
    refine ⟨fr', es', h1, h0, h2, fun F a hA => ?_⟩
    obtain ⟨val, hv, _⟩ := hT F default a hoc hA.slots
    refine ⟨val, h4 F a val hA hv, .inl ⟨hw F a hA, fun w' _ => ?_⟩⟩
    obtain ⟨val', hv', hrun⟩ := hT F w' a hoc hA.slots
    rw [hv] at hv'
    obtain rfl := Option.some.inj hv'
    exact hrun
  cases hg : o.guard with
  | none =>
    rw [hg] at hko
    obtain rfl := Option.some.inj hko
    obtain ⟨v, hf, hT⟩ := run h
    exact fire v hf hT (fun F a hA => by unfold Region.wanted; rw [hg])
  | some p =>
    obtain ⟨j, b⟩ := p
    rw [hg] at hko
    obtain rfl := Option.some.inj hko
    rcases isB_some (show isB b ((guardAt S sg ops j).at fr es) _ _ = some y from h) with ⟨hgv, h⟩ | ⟨h, hgv, hgn⟩
    · obtain ⟨v, hf, hT⟩ := run h
      exact fire v hf hT (fun F a hA => guard_yes hA.slots hg hgv)
    · obtain ⟨fr', es', h1, h0, h2, h4⟩ := goOn undefAV h
      exact ⟨fr', es', h1, h0, h2, fun F a hA => ⟨undef, h4 F a undef hA (den_undef F), .inr ⟨guard_no hA.slots hg hgv hgn, rfl⟩⟩⟩

theorem take_some (hoc : OrcOk ρ P oc) {ih : Rec} (hn : n ≤ 512) {o : Oper} (hp0 : pure0 o.op = true) {kc : KO} {y : Out} {sg : List Nat} {fr : Fr} {es : Es} {m : Mem} (h : (cOp P oc S sg n ops o kc).run ih fr es m = some y) :
    ∃ fr' es', kc.run ih fr' es' m = some y ∧ (∀ j, findE (big j) (sgOf S sg o.dst) es' = findE (big j) sg es) ∧ ∀ F a, AR ρ F n S sg fr es a → ∃ v, AR ρ F n S (sgOf S sg o.dst) fr' es' (a.put o.dst v) ∧ YieldsIf P ops (fun _ => True) o v a := by
  obtain ⟨fr', es', h1, _, h2, h3⟩ := take_some2 (ρ := ρ) (ops := ops) hoc hn hp0 h
  exact ⟨fr', es', h1, h2, h3⟩

/-! ### The later ones -/
theorem cntP_cons (p : Nat × Nat) (l : List (Nat × Nat)) : cntP (p :: l) = te (Nat.ble p.2 1) (Nat.succ (cntP l)) (Nat.succ (Nat.succ (cntP l))) := rfl
theorem waits_dep {ms : List (Nat × Nat)} (hms : MasksOk ops ms) {loads : List Nat} {j : Nat} {o : Oper} (hj : ops[j]? = some o) (h : waits loads (edgeM ms o.after.toList) = true) {i : Nat} (hi : i ∈ loads) : Dep ops i j := by
  have hand : (bitsOf loads) &&& (edgeM ms o.after.toList) = bitsOf loads := Nat.eq_of_beq_eq_true h
  have hb1 := bitsOf_mem loads i hi
  rw [← hand, Nat.testBit_and, Bool.and_eq_true] at hb1
  exact edgeM_dep hms hj hb1.2

theorem late_sound (hpl : Plainly P) (hoc : OrcOk ρ P oc) {ih : Rec} (hih : RecOk ρ P ih) (hn : n ≤ 512) (hcalm : Calm Q) (hsel : Region.noSelect ops = true) {loads : List Nat} {kc : KO} {y : Out} {F0 : Env} {E : Nat → AV} {Sx : Nat → World → World → Prop} {base : Nat} {m0 : Mem} {w0 : World}
    (hS : ∀ j w w', ((∃ i ∈ loads, ¬ Dep ops i j) → ∀ i ∈ loads, LdOk ρ F0 w' (E i)) → Sx j w w') (hSw : ∀ j w, Sx j w w) (hE : ∀ i ∈ loads, LdOk ρ F0 w0 (E i)) :
    ∀ (l : List (Nat × Nat)) (ms : List (Nat × Nat)) (sg : List Nat) (fr : Fr) (es : Es) (m : Mem), (cLate P oc S n ops loads kc l ms sg).run ih fr es m = some y →
    ∀ F w a listed, Ext F0 F → Inv ρ base F m w → Fares base F0 m0 w0 F m w → AR ρ F n S sg fr es a → (∀ i ∈ loads, findE (big i) sg es = E i) → MasksOk ops ms → Shut ops listed → goLate ops l listed = true →
      (∀ sg' fr' es' m' F' a' w', Ext F0 F' → AR ρ F' n S sg' fr' es' a' → Inv ρ base F' m' w' → Fares base F0 m0 w0 F' m' w' → kc.run ih fr' es' m' = some y → Q .normal a' w') →
      wpAnyS P ops Q Sx (cntP l) listed a w
  | [], ms, sg, fr, es, m, h, F, w, a, listed, hext, hI, hb, hA, hfe, hms, hsh, hgo, hQ => by
    have hgo' : (Region.ready .any ops listed).isEmpty = true := hgo
    exact wpAnyS_done (List.isEmpty_iff.1 hgo') (hQ sg fr es m F a w hext hA hI hb h) _
  | (i, c) :: l, ms, sg, fr, es, m, h, F, w, a, listed, hext, hI, hb, hA, hfe, hms, hsh, hgo, hQ => by
    have hgo' : te (Nat.beq c 0) (te (Region.ready .any ops listed == [i]) (goLate ops l (listed.setIfInBounds i true)) false)
      (te (Nat.beq c 1) (te (te (Region.ready .any ops listed == [i]) true (te ((Region.ready .any ops listed).contains i) (Region.free .any ops listed i) false)) (goLate ops l (listed.setIfInBounds i true)) false)
        (te (te (Region.ready .any ops listed == [i, Nat.pred (Nat.pred c)])
            (te (Region.ready .any ops (listed.setIfInBounds i true) == [Nat.pred (Nat.pred c)]) (Region.ready .any ops (listed.setIfInBounds (Nat.pred (Nat.pred c)) true) == [i]) false) false)
          (goLate ops l ((listed.setIfInBounds i true).setIfInBounds (Nat.pred (Nat.pred c)) true)) false)) = true := hgo
    clear hgo
    obtain ⟨ko, hko, h⟩ := orFail_some h
    obtain ⟨o, ho, hko⟩ := ob_some hko
    rw [te_eq] at hko hgo'
    by_cases hc0 : Nat.beq c 0 = true
    · have hc : c = 0 := Nat.eq_of_beq_eq_true hc0
      rw [if_pos hc0] at hko hgo'
      obtain rfl := Option.some.inj hko
      obtain ⟨hgo1, hgo2⟩ := both hgo'
      have hready : Region.ready .any ops listed = [i] := by simpa using hgo1
      have hmem : i ∈ Region.ready .any ops listed := by rw [hready]; simp
      have hcnt : cntP ((i, c) :: l) = cntP l + 1 := by rw [cntP_cons, hc]; rfl
      rw [hcnt]
      refine wpAnyS_run hready (cOp_wpOp hpl hoc hih ho h hI hA (fun fr' es' m' F' a' w' k1 k2 k3 k4 k5 k6 => ?_))
      have hfe' : ∀ j ∈ loads, findE (big j) (sgOf S sg o.dst) es' = E j := fun j hj => by
        rw [k5 (big j) (by show n ≤ 1000000 + j; omega)]
        exact hfe j hj
      have rest : (cLate P oc S n ops loads kc l ((i, edgeM ms o.after.toList) :: ms) (sgOf S sg o.dst)).run ih fr' es' m' = some y → wpAnyS P ops Q Sx (cntP l) (listed.setIfInBounds i true) a' w' := fun hr =>
        late_sound hpl hoc hih hn hcalm hsel hS hSw hE l _ _ fr' es' m' hr F' w' a' _ (hext.trans k1) k3 (hb.trans k4) k2 hfe' (masks_cons hms ho) (hsh.set hmem) hgo2 hQ
      rw [te_eq] at k6
      by_cases hbits : waits loads (edgeM ms o.after.toList) = true
      · rw [if_pos hbits] at k6
        exact ⟨hS i w w' (fun ⟨i', hi', hnd⟩ => absurd (waits_dep hms ho hbits hi') hnd), rest k6⟩
      · rw [if_neg hbits] at k6
        obtain ⟨k6, hck⟩ := opCheck_some (ρ := ρ) _ (show opCheck (loads.map fun j => locB (big j) (sgOf S sg o.dst)) _ ih fr' es' m' = some y from k6)
        refine ⟨hS i w w' (fun _ j hj => ?_), rest k6⟩
        have h1 := hck (locB (big j) (sgOf S sg o.dst)) (List.mem_map.2 ⟨j, hj, rfl⟩) (hext.trans k1) k3 (w0 := w0)
        rw [locB_at, hfe' j hj] at h1
        exact h1 (hE j hj)
    rw [if_neg hc0, te_eq] at hko hgo'
    by_cases hc1 : Nat.beq c 1 = true
    · have hc : c = 1 := Nat.eq_of_beq_eq_true hc1
      rw [if_pos hc1] at hko hgo'
      obtain ⟨hp0, hko⟩ := gd_some hko
      obtain rfl := Option.some.inj hko
      obtain ⟨hgo1, hgo2⟩ := both hgo'
      have hcnt : cntP ((i, c) :: l) = cntP l + 1 := by rw [cntP_cons, hc]; rfl
      rw [hcnt]
      obtain ⟨fr', es', h1, h2, h3⟩ := take_some (ρ := ρ) hoc hn hp0 h
      obtain ⟨v, hA', hy⟩ := h3 F a hA
      rw [te_eq] at hgo1
      have hfe' : ∀ j ∈ loads, findE (big j) (sgOf S sg o.dst) es' = E j := fun j hj => by rw [h2 j]; exact hfe j hj
      have hmem : i ∈ Region.ready .any ops listed := by
        split at hgo1
        · rename_i hr
          have hready : Region.ready .any ops listed = [i] := by simpa using hr
          rw [hready]; simp
        · simpa using (both hgo1).1
      have hrest : wpAnyS P ops Q Sx (cntP l) (listed.setIfInBounds i true) (a.put o.dst v) w :=
        late_sound hpl hoc hih hn hcalm hsel hS hSw hE l _ _ fr' es' m h1 F w _ _ hext hI hb hA' hfe' (masks_cons hms ho) (hsh.set hmem) hgo2 hQ
      split at hgo1
      · rename_i hr
        have hready : Region.ready .any ops listed = [i] := by simpa using hr
        exact wpAnyS_run hready (hy.wpOp ho trivial ⟨hSw i w, hrest⟩)
      · exact wpAnyS_first (T := fun _ => True) ho (Region.noSelect_spec hsel) (fun c a w => hcalm c _ _ w) (fun _ _ _ _ _ _ => trivial) (hSw i) _ listed a w hsh (Region.free_spec ho (both hgo1).2) hmem hy trivial hrest
    rw [if_neg hc1] at hko hgo'
    have hcge : 2 ≤ c := by
      rcases c with _ | _ | c
      · exact absurd rfl hc0
      · exact absurd rfl hc1
      · omega
    generalize hj : Nat.pred (Nat.pred c) = j at hko hgo'
    obtain ⟨o', ho', hko⟩ := ob_some hko
    obtain ⟨s1, hko⟩ := gd_some hko
    obtain ⟨s2, hko⟩ := gd_some hko
    obtain ⟨s3, hko⟩ := gd_some hko
    obtain ⟨s4, hko⟩ := gd_some hko
    obtain rfl := Option.some.inj hko
    obtain ⟨hgo1, hgo2⟩ := both hgo'
    obtain ⟨hr1, hgo1⟩ := both hgo1
    obtain ⟨hr2, hr3⟩ := both hgo1
    have hr1 : Region.ready .any ops listed = [i, j] := by simpa using hr1
    have hr2 : Region.ready .any ops (listed.setIfInBounds i true) = [j] := by simpa using hr2
    have hr3 : Region.ready .any ops (listed.setIfInBounds j true) = [i] := by simpa using hr3
    have hcnt : cntP ((i, c) :: l) = cntP l + 1 + 1 := by
      rw [cntP_cons, te_eq, if_neg (fun hle => by have := Nat.le_of_ble_eq_true hle; simp only at this; omega)]
    rw [hcnt]
    obtain ⟨m2, h2, hgoes⟩ := pair_goes (ρ := ρ) (Q := Q) hpl hoc hih ho ho' s1 s2 h
    have hmi : i ∈ Region.ready .any ops listed := by rw [hr1]; simp
    have hmj : j ∈ Region.ready .any ops (listed.setIfInBounds i true) := by rw [hr2]; simp
    have hany : ∀ w1 w2, Sx i w1 w2 := fun w1 w2 => hS i w1 w2 (fun ⟨k, hk, hnd⟩ => absurd (waits_dep hms ho s3 hk) hnd)
    have hany' : ∀ w1 w2, Sx j w1 w2 := fun w1 w2 => hS j w1 w2 (fun ⟨k, hk, hnd⟩ => absurd (waits_dep hms ho' s4 hk) hnd)
    obtain ⟨g1, g2⟩ := hgoes base F w a hI hA (fun a' w' => wpAnyS P ops Q Sx (cntP l) ((listed.setIfInBounds i true).setIfInBounds j true) a' w') (fun F' a' w' k1 k2 k3 k4 =>
      late_sound hpl hoc hih hn hcalm hsel hS hSw hE l _ sg fr es m2 h2 F' w' a' _ (hext.trans k1) k3 (hb.trans k4) k2 hfe (masks_add (masks_cons hms ho) hms ho') ((hsh.set hmi).set hmj) hgo2 hQ)
    refine wpAnyS_pair hr1 (wpOp_mono (fun a1 w1 hk => ⟨hany w w1, wpAnyS_run hr2 (wpOp_mono (fun a2 w2 hk2 => ⟨hany' w1 w2, hk2⟩) hk)⟩) g1)
      (wpOp_mono (fun a1 w1 hk => ⟨hany' w w1, wpAnyS_run hr3 (wpOp_mono (fun a2 w2 hk2 => ⟨hany w1 w2, ?_⟩) hk)⟩) g2)
    rw [Array.setIfInBounds_comm _ _ (fun e => ?_)]
    · exact hk2
    · have e' : i = j := by omega
      subst e'
      have hmem := (mem_ready.1 hmj).1
      have hlt := (mem_ready.1 hmi).1
      simp at hmem

end Go.Proofs.YtplnnlnkcfappaaGreat.E3
