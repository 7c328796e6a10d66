/- The second evaluator tells the truth, part 9: code, calls; the theorem. -/
import Derived.Test.YtplnnlnkcfappaaGreatQu
namespace Go.Proofs.YtplnnlnkcfappaaGreat.E3
open Go Go.RowKit
set_option linter.unusedSimpArgs false
set_option linter.unusedVariables false

variable {ρ : Syms}

variable {P : Program} {oc : Orc} {S n : Nat}

def Ex.to : Ex → Exit
  | .normal => .normal
  | .ret => .ret
  | .exit id => .exit id
  | .goto l => .goto l

/-- what stands behind a piece of code -/
def Post (ρ : Syms) (base : Nat) (F : Env) (n S : Nat) (e : Ex) (fr : Fr) (m m0 : Mem) (w : World) : Exit → Act → World → Prop := fun x a' w' =>
  ∃ F', x = e.to ∧ Ext F F' ∧ AR ρ F' n S [] fr [] a' ∧ Inv ρ base F' m w' ∧ Fares base F m0 w F' m w'

theorem Post.from {base : Nat} {F F1 : Env} {e : Ex} {fr : Fr} {m m0 m1 : Mem} {w w1 : World} (he : Ext F F1) (hb : Fares base F m0 w F1 m1 w1) {x : Exit} {a' : Act} {w' : World}
    (h : Post ρ base F1 n S e fr m m1 w1 x a' w') : Post ρ base F n S e fr m m0 w x a' w' := by
  obtain ⟨F', h1, h2, h3, h4, h5⟩ := h
  exact ⟨F', h1, he.trans h2, h3, h4, hb.trans h5⟩

/-- the code of a scope, from somewhere in it -/
def ScopeWp (P : Program) (b c : Code) (Q : Exit → Act → World → Prop) (a : Act) (w : World) : Prop :=
  ∀ (fr : Frame) (k : List Item) (cs : List Frame), ∃ e a' w', Q e a' w' ∧ Arrives P (lone (fr.at a (.code c :: .inScope b :: k)) cs w) fr k cs e a' w'

theorem rounds_mono {b : Code} {Q Q' : Exit → Act → World → Prop} (hq : ∀ e a w, Q e a w → Q' e a w) : ∀ (r : Nat) (a : Act) (w : World), Code.rounds P b Q r a w → Code.rounds P b Q' r a w
  | 0, _, _, h => h.elim
  | r + 1, a, w, h => by
    rw [rounds_succ] at h ⊢
    refine Code.wp_mono (fun e a' w' q => ?_) h
    cases e <;> first | exact rounds_mono hq r _ _ q | exact hq _ _ _ q

/-- a box tells what the code does -/
def CodeOk (ρ : Syms) (P : Program) (n S : Nat) (ih : Rec) (kb : KB) (c : Code) : Prop :=
  ∀ fr m e fr' m', kb.run ih fr m = some (.code e fr' m') → ∀ base F w a, Inv ρ base F m w → AR ρ F n S [] fr [] a → c.wp P (Post ρ base F n S e fr' m' m w) a w

theorem thenR_some {e : Ex} {x : R} {fr : Fr} {m : Mem} {y : Out} (h : thenR e x fr m = some y) : (e = .normal ∧ x = some y) ∨ (e ≠ .normal ∧ y = .code e fr m) := by
  cases e with
  | normal => exact .inl ⟨rfl, h⟩
  | ret => exact .inr ⟨by simp, (Option.some.inj (show some (Out.code .ret fr m) = some y from h)).symm⟩
  | exit id => exact .inr ⟨by simp, (Option.some.inj (show some (Out.code (.exit id) fr m) = some y from h)).symm⟩
  | goto l => exact .inr ⟨by simp, (Option.some.inj (show some (Out.code (.goto l) fr m) = some y from h)).symm⟩
theorem Ex.to_ne {e : Ex} (h : e ≠ .normal) : e.to ≠ .normal := by cases e <;> simp_all [Ex.to]

/-- a piece, then the next -/
theorem then_post {base : Nat} {F : Env} {w : World} {e1 e : Ex} {fr1 fr' : Fr} {m m1 m' : Mem} {x : R} (h : thenR e1 x fr1 m1 = some (.code e fr' m')) {K : Act → World → Prop}
    (hK : ∀ F1 a1 w1, Ext F F1 → AR ρ F1 n S [] fr1 [] a1 → Inv ρ base F1 m1 w1 → Fares base F m w F1 m1 w1 → x = some (.code e fr' m') → K a1 w1) :
    ∀ y a1 w1, Post ρ base F n S e1 fr1 m1 m w y a1 w1 → Exit.then K (Post ρ base F n S e fr' m' m w) y a1 w1 := by
  intro y a1 w1 ⟨F1, hx, h2, h3, h4, h5⟩
  rcases thenR_some h with ⟨rfl, h⟩ | ⟨hne, h⟩
  · subst hx
    exact hK F1 a1 w1 h2 h3 h4 h5 h
  · obtain ⟨rfl, rfl, rfl⟩ : e = e1 ∧ fr' = fr1 ∧ m' = m1 := by simpa using h
    subst hx
    have hp : Post ρ base F n S e fr' m' m w e.to a1 w1 := ⟨F1, rfl, h2, h3, h4, h5⟩
    cases e <;> first | exact absurd rfl hne | exact hp

theorem seq_sound {ih : Rec} {ka kb : KB} {c b : Code} (hc : CodeOk ρ P n S ih ka c) {e : Ex} {fr fr' : Fr} {m m' : Mem} (h : opSeq ka kb ih fr m = some (.code e fr' m')) {base : Nat} {F : Env} {w : World} {a : Act} (hI : Inv ρ base F m w) (hA : AR ρ F n S [] fr [] a)
    {K : Act → World → Prop} (hK : ∀ F1 fr1 m1 a1 w1, Ext F F1 → AR ρ F1 n S [] fr1 [] a1 → Inv ρ base F1 m1 w1 → Fares base F m w F1 m1 w1 → kb.run ih fr1 m1 = some (.code e fr' m') → K a1 w1) :
    c.wp P (Exit.then K (Post ρ base F n S e fr' m' m w)) a w := by
  obtain ⟨e1, fr1, m1, h1, h⟩ := codeR_some h
  exact Code.wp_mono (then_post h (fun F1 a1 w1 k1 k2 k3 k4 k5 => hK F1 fr1 m1 a1 w1 k1 k2 k3 k4 k5)) (hc fr m e1 fr1 m1 h1 base F w a hI hA)

theorem region_ops (hpl : Plainly P) (hoc : OrcOk ρ P oc) {ih : Rec} (hih : RecOk ρ P ih) {id : Nat} {ops : Array Oper} {kb : KB} {y : Out} {fr : Fr} {m : Mem} (h : opIn (cOps P oc S [] n ops ops.toList (.k (opOut kb))) ih fr m = some y) {base : Nat} {F : Env} {w : World} {a : Act}
    (hI : Inv ρ base F m w) (hA : AR ρ F n S [] fr [] a) {Q : Exit → Act → World → Prop} (hQ : ∀ F1 fr1 m1 a1 w1, Ext F F1 → AR ρ F1 n S [] fr1 [] a1 → Inv ρ base F1 m1 w1 → Fares base F m w F1 m1 w1 → kb.run ih fr1 m1 = some y → Q .normal a1 w1) :
    (Code.region id ops false).wp P Q a w :=
  wp_region_list (ops_sound hpl hoc hih ops (.k (opOut kb)) y ops.toList [] fr [] m h base F w a Q hI hA (fun sg' fr' es' m' F' a' w' k1 k2 k3 k4 k5 => hQ F' fr' m' a' w' k1 k2.shut k3 k4 k5))

theorem loop_sound {ih : Rec} {kb : KB} {b : Code} (hb : CodeOk ρ P n S ih kb b) : ∀ N fr m e fr' m', opLoopN N kb ih fr m = some (.code e fr' m') → ∀ base F w a, Inv ρ base F m w → AR ρ F n S [] fr [] a → Code.rounds P b (Post ρ base F n S e fr' m' m w) N a w
  | 0, fr, m, e, fr', m', h => no h
  | N + 1, fr, m, e, fr', m', h => by
    intro base F w a hI hA
    rw [rounds_succ]
    obtain ⟨e1, fr1, m1, h1, h⟩ := codeR_some (show codeR (kb.run ih fr m) (fun e fr m => thenR e (opLoopN N kb ih fr m) fr m) = some (.code e fr' m') from h)
    exact Code.wp_mono (then_post h (fun F1 a1 w1 k1 k2 k3 k4 k5 => rounds_mono (fun _ _ _ q => q.from k1 k4) _ _ _ (loop_sound hb N fr1 m1 e fr' m' k5 base F1 w1 a1 k3 k2))) (hb fr m e1 fr1 m1 h1 base F w a hI hA)

theorem scope_sound {ih : Rec} {cc : Code → KB} {b : Code} (hcc : ∀ l c, findLabel b l = some c → CodeOk ρ P n S ih (cc c) c) : ∀ N kb c, CodeOk ρ P n S ih kb c → ∀ fr m e fr' m', opScopeN P cc b N kb ih fr m = some (.code e fr' m') →
    ∀ base F w a, Inv ρ base F m w → AR ρ F n S [] fr [] a → ScopeWp P b c (Post ρ base F n S e fr' m' m w) a w
  | 0, kb, c, hc, fr, m, e, fr', m', h => no h
  | N + 1, kb, c, hc, fr, m, e, fr', m', h => by
    intro base F w a hI hA
    obtain ⟨e1, fr1, m1, h1, h⟩ := codeR_some (show codeR (kb.run ih fr m) (fun e fr m => Ex.rec (motive := fun _ => Fr → Mem → R) (fun fr m => some (.code .normal fr m)) (fun fr m => some (.code .ret fr m)) (fun id fr m => some (.code (.exit id) fr m))
      (fun l fr m => obR (findLabel b l) fun rest => opScopeN P cc b N (cc rest) ih fr m) e fr m) = some (.code e fr' m') from h)
    have hwp := hc fr m e1 fr1 m1 h1 base F w a hI hA
    intro fm k cs
    obtain ⟨x, a1, w1, ⟨F1, hx, h2, h3, h4, h5⟩, harr⟩ := hwp fm (.inScope b :: k) cs
    cases e1 with
    | normal =>
      obtain ⟨rfl, rfl, rfl⟩ : Ex.normal = e ∧ fr1 = fr' ∧ m1 = m' := by simpa using (show some (Out.code .normal fr1 m1) = some (.code e fr' m') from h)
      subst hx
      exact ⟨.normal, a1, w1, ⟨F1, rfl, h2, h3, h4, h5⟩, Steps.trans harr (.one step_inScope)⟩
    | ret =>
      obtain ⟨rfl, rfl, rfl⟩ : Ex.ret = e ∧ fr1 = fr' ∧ m1 = m' := by simpa using (show some (Out.code .ret fr1 m1) = some (.code e fr' m') from h)
      subst hx
      exact ⟨.ret, a1, w1, ⟨F1, rfl, h2, h3, h4, h5⟩, harr⟩
    | exit id =>
      obtain ⟨rfl, rfl, rfl⟩ : Ex.exit id = e ∧ fr1 = fr' ∧ m1 = m' := by simpa using (show some (Out.code (.exit id) fr1 m1) = some (.code e fr' m') from h)
      subst hx
      exact ⟨.exit id, a1, w1, ⟨F1, rfl, h2, h3, h4, h5⟩, fun k' hk => harr k' (by simp [exitTo, hk])⟩
    | goto l =>
      obtain ⟨rest, hf, h⟩ := obR_some (show obR (findLabel b l) (fun rest => opScopeN P cc b N (cc rest) ih fr1 m1) = some (.code e fr' m') from h)
      subst hx
      have hg : gotoIn l (.inScope b :: k) = some (.code rest :: .inScope b :: k) := by simp [gotoIn, hf]
      obtain ⟨x2, a2, w2, hp, harr2⟩ := scope_sound hcc N (cc rest) rest (hcc l rest hf) fr1 m1 e fr' m' h base F1 w1 a1 h4 h3 fm k cs
      exact ⟨x2, a2, w2, hp.from h2 h5, .of_steps (harr _ hg) harr2⟩

theorem end_ok {ih : Rec} {e0 : Ex} {c : Code} (hc : ∀ (Q : Exit → Act → World → Prop) a w, Q e0.to a w → c.wp P Q a w) : CodeOk ρ P n S ih (.k (opEnd e0)) c := by
  intro fr m e fr' m' h base F w a hI hA
  obtain ⟨rfl, rfl, rfl⟩ : e0 = e ∧ fr = fr' ∧ m = m' := by simpa using (show some (Out.code e0 fr m) = some (.code e fr' m') from h)
  exact hc _ _ _ ⟨F, rfl, Ext.refl F, hA, hI, Fares.refl _ _ _ _⟩

theorem fail_ok {ih : Rec} {c : Code} : CodeOk ρ P n S ih (.k opFail) c := fun fr m e fr' m' h => no h

theorem draw_ok (hmix : P.follows .mixedOrders = true) (hpl : Plainly P) (hoc : OrcOk ρ P oc) {ih : Rec} (hih : RecOk ρ P ih) {id : Nat} {ops : Array Oper} (hB : Region.lexB .any ops = true) :
    CodeOk ρ P n S ih (.k (opIn (cOpsD P oc S [] n ops ops.toList (.k (opOut (.k (opEnd .normal))))))) (.region id ops true) := by
  intro fr m e fr' m' h base F w a hI hA
  obtain ⟨sgE, frE, esE, h1, h2⟩ := draw_sound hpl hoc hih ops (.k (opOut (.k (opEnd .normal)))) (.code e fr' m') ops.toList [] fr [] m h
  obtain ⟨rfl, rfl, rfl⟩ : Ex.normal = e ∧ frE = fr' ∧ m = m' := by simpa using (show some (Out.code .normal frE m) = some (.code e fr' m') from h1)
  have e1 : ops.toList.toArray = ops := by simp
  have key := wp_region_quiet_below (P := P) (id := id) (Q := Post ρ base F n S .normal frE m m w) (a := a) (w := w) (l := ops.toList) hmix (by rw [e1]; exact hB)
    (by rw [e1]; exact h2 base F w a _ hI hA (fun a' hA' w' hw' => ⟨F, rfl, Ext.refl F, hA'.shut, hI.below (below_of_class hw'), Fares.above hI.size (below_of_class hw')⟩))
  rw [e1] at key
  exact key

theorem mixed_ok (hmix : P.follows .mixedOrders = true) (hpl : Plainly P) (hoc : OrcOk ρ P oc) {ih : Rec} (hih : RecOk ρ P ih) (hn : n ≤ 512) {id : Nat} {ops : Array Oper} (hB : schedOk ops = true) :
    CodeOk ρ P n S ih (.k (opIn (cOpsM P oc S n ops (.k (opOut (.k (opEnd .normal))))))) (.region id ops true) := by
  intro fr m e fr' m' h base F w a hI hA
  refine mixed_sound hmix hpl hoc hih hn (fun c a a' w h => ?_) hB h hI hA (fun sg' fr1 es' m1 F1 a1 w1 k1 k2 k3 k4 k5 => ?_)
  · obtain ⟨F', hx, _⟩ := h
    cases e <;> cases hx
  · obtain ⟨rfl, rfl, rfl⟩ : Ex.normal = e ∧ fr1 = fr' ∧ m1 = m' := by simpa using (show some (Out.code .normal fr1 m1) = some (.code e fr' m') from k5)
    exact ⟨F1, rfl, k1, k2.shut, k3, k4⟩

theorem plan_ok (hmix : P.follows .mixedOrders = true) (hpl : Plainly P) (hoc : OrcOk ρ P oc) {ih : Rec} (hih : RecOk ρ P ih) (hn : n ≤ 512) {id : Nat} {ops : Array Oper} {l : List (Nat × Nat)} (hB : planOk ops l = true) :
    CodeOk ρ P n S ih (.k (opIn (cPlan P oc S n ops (.k (opOut (.k (opEnd .normal)))) l [] [] []))) (.region id ops true) := by
  intro fr m e fr' m' h base F w a hI hA
  refine planned_sound hmix hpl hoc hih hn (fun c a a' w h => ?_) hB h hI hA (fun sg' fr1 es' m1 F1 a1 w1 k1 k2 k3 k4 k5 => ?_)
  · obtain ⟨F', hx, _⟩ := h
    cases e <;> cases hx
  · obtain ⟨rfl, rfl, rfl⟩ : Ex.normal = e ∧ fr1 = fr' ∧ m1 = m' := by simpa using (show some (Out.code .normal fr1 m1) = some (.code e fr' m') from k5)
    exact ⟨F1, rfl, k1, k2.shut, k3, k4⟩

theorem ops_ok (hpl : Plainly P) (hoc : OrcOk ρ P oc) {ih : Rec} (hih : RecOk ρ P ih) {id : Nat} {ops : Array Oper} : CodeOk ρ P n S ih (.k (opIn (cOps P oc S [] n ops ops.toList (.k (opOut (.k (opEnd .normal))))))) (.region id ops false) := by
  intro fr m e fr' m' h base F w a hI hA
  refine region_ops hpl hoc hih (kb := .k (opEnd .normal)) h hI hA (fun F1 fr1 m1 a1 w1 k1 k2 k3 k4 k5 => ?_)
  obtain ⟨rfl, rfl, rfl⟩ : Ex.normal = e ∧ fr1 = fr' ∧ m1 = m' := by simpa using (show some (Out.code .normal fr1 m1) = some (.code e fr' m') from k5)
  exact ⟨F1, rfl, k1, k2, k3, k4⟩

theorem seq_ok {ih : Rec} {ka kb : KB} {x z : Code} (ha : CodeOk ρ P n S ih ka x) (hb : CodeOk ρ P n S ih kb z) : CodeOk ρ P n S ih (.k (opSeq ka kb)) (.seq x z) := by
  intro fr m e fr' m' h base F w a hI hA
  exact wp_seq (seq_sound (b := z) ha h hI hA (fun F1 fr1 m1 a1 w1 k1 k2 k3 k4 k5 => Code.wp_mono (fun _ _ _ q => q.from k1 k4) (hb fr1 m1 e fr' m' k5 base F1 w1 a1 k3 k2)))

theorem cSeq_ok (hpl : Plainly P) (hoc : OrcOk ρ P oc) {ih : Rec} (hih : RecOk ρ P ih) {ka kb : KB} {x z : Code} (ha : CodeOk ρ P n S ih ka x) (hb : CodeOk ρ P n S ih kb z) : CodeOk ρ P n S ih (cSeq P oc S n x ka kb) (.seq x z) := by
  cases x with
  | region id ops draw =>
    cases draw with
    | true => exact seq_ok ha hb
    | false =>
      intro fr m e fr' m' h base F w a hI hA
      refine wp_seq (region_ops hpl hoc hih (kb := kb) h hI hA (fun F1 fr1 m1 a1 w1 k1 k2 k3 k4 k5 => ?_))
      exact Code.wp_mono (fun _ _ _ q => q.from k1 k4) (hb fr1 m1 e fr' m' k5 base F1 w1 a1 k3 k2)
  | skip => exact fun fr m e fr' m' h base F w a hI hA => wp_seq (wp_skip (hb fr m e fr' m' h base F w a hI hA))
  | label l => exact fun fr m e fr' m' h base F w a hI hA => wp_seq (wp_label (hb fr m e fr' m' h base F w a hI hA))
  | _ => exact seq_ok ha hb

theorem loop_ok {ih : Rec} {kb : KB} {b : Code} (N : Nat) (hb : CodeOk ρ P n S ih kb b) : CodeOk ρ P n S ih (.k (opLoopN N kb)) (.loop b) := by
  intro fr m e fr' m' h base F w a hI hA
  exact wp_loop_rounds _ (loop_sound hb N fr m e fr' m' h base F w a hI hA)

theorem scope_ok {ih : Rec} {cc : Code → KB} {kb : KB} {b : Code} (hcc : ∀ l c, findLabel b l = some c → CodeOk ρ P n S ih (cc c) c) (N : Nat) (hb : CodeOk ρ P n S ih kb b) : CodeOk ρ P n S ih (.k (opScopeN P cc b N kb)) (.scope b) := by
  intro fr m e fr' m' h base F w a hI hA
  have hs := scope_sound hcc N _ b hb fr m e fr' m' h base F w a hI hA
  intro fm k cs
  obtain ⟨x, a1, w1, hp, harr⟩ := hs fm k cs
  exact ⟨x, a1, w1, hp, .of_steps (.one step_scope) harr⟩

theorem lexAll_label {sk : Modes} : ∀ (c : Code) (l : Nat) (rest : Code), findLabel c l = some rest → lexAll sk c = true → lexAll sk rest = true
  | .seq a b, l, rest, h, hl => by
    have hl' : te (lexAll sk a) (lexAll sk b) false = true := hl
    rw [te_eq] at hl'
    by_cases ha : lexAll sk a = true
    · rw [if_pos ha] at hl'
      unfold findLabel at h
      split at h
      · rename_i r hr
        obtain rfl := Option.some.inj h
        have hrl := lexAll_label a l r hr ha
        show te (lexAll sk r) (lexAll sk b) false = true
        rw [te_eq, if_pos hrl]
        exact hl'
      · exact lexAll_label b l rest h hl'
    · rw [if_neg ha] at hl'
      cases hl'
  | .label l', l, rest, h, hl => by
    unfold findLabel at h
    split at h
    · obtain rfl := Option.some.inj h
      rfl
    · cases h
  | .skip, _, _, h, _ => by simp [findLabel] at h
  | .region .., _, _, h, _ => by simp [findLabel] at h
  | .cond .., _, _, h, _ => by simp [findLabel] at h
  | .block .., _, _, h, _ => by simp [findLabel] at h
  | .loop .., _, _, h, _ => by simp [findLabel] at h
  | .rangeFunc .., _, _, h, _ => by simp [findLabel] at h
  | .exit .., _, _, h, _ => by simp [findLabel] at h
  | .scope .., _, _, h, _ => by simp [findLabel] at h
  | .goto .., _, _, h, _ => by simp [findLabel] at h
  | .ret, _, _, h, _ => by simp [findLabel] at h
  | .refuse .., _, _, h, _ => by simp [findLabel] at h

theorem cCode_ok (hmix : P.follows .mixedOrders = true) (hpl : Plainly P) (hoc : OrcOk ρ P oc) {ih : Rec} (hih : RecOk ρ P ih) {sk : Modes} (hn : n ≤ 512) : ∀ (k : Nat) (c : Code), lexAll sk c = true → CodeOk ρ P n S ih (cCode P oc sk S n k c) c
  | 0, c, _ => fail_ok
  | k + 1, c, hlex => by
    have deeper := cCode_ok hmix hpl hoc hih (sk := sk) hn k
    induction c with
    | skip => exact end_ok (fun Q a w h => wp_skip h)
    | region id ops draw =>
      cases draw with
      | true =>
        show CodeOk ρ P n S ih (te (Nat.beq (sk id) 1) _ (te (Nat.beq (sk id) 2) _ (te (Nat.ble 16 (sk id)) _ (.k opFail)))) _
        rw [te_eq, te_eq, te_eq]
        have hlex' : te (Nat.beq (sk id) 1) (Region.lexB .any ops) (te (Nat.beq (sk id) 2) (schedOk ops) (te (Nat.ble 16 (sk id)) (planOk ops (planOf (sk id))) true)) = true := hlex
        rw [te_eq, te_eq, te_eq] at hlex'
        by_cases hB : Nat.beq (sk id) 1 = true
        · rw [if_pos hB] at hlex' ⊢
          exact draw_ok hmix hpl hoc hih hlex'
        · rw [if_neg hB] at hlex' ⊢
          by_cases hC : Nat.beq (sk id) 2 = true
          · rw [if_pos hC] at hlex' ⊢
            exact mixed_ok hmix hpl hoc hih hn hlex'
          · rw [if_neg hC] at hlex' ⊢
            by_cases hD : Nat.ble 16 (sk id) = true
            · rw [if_pos hD] at hlex' ⊢
              exact plan_ok hmix hpl hoc hih hn hlex'
            · rw [if_neg hD]
              exact fail_ok
      | false => exact ops_ok hpl hoc hih
    | seq x z hx hz =>
      obtain ⟨l1, l2⟩ := both hlex
      exact cSeq_ok hpl hoc hih (hx l1) (hz l2)
    | cond q x z hx hz =>
      obtain ⟨l1, l2⟩ := both hlex
      intro fr m e fr' m' h base F w a hI hA
      rcases boolOr_some (show boolOr ((getB S [] q).at fr []) (fun b => teR b _ _) none = some (.code e fr' m') from h) with ⟨b, hb, h⟩ | h
      · rw [getB_at] at hb
        have hq : a.eval q = .bool b := hA.slots.is ⟨by rw [hb]; simp, fun _ F => by rw [hb]; simp [den]⟩
        rw [teR_eq] at h
        refine wp_cond hq ?_
        cases b
        · exact hz l2 fr m e fr' m' h base F w a hI hA
        · exact hx l1 fr m e fr' m' h base F w a hI hA
      · exact no h
    | block id b hb =>
      intro fr m e fr' m' h base F w a hI hA
      obtain ⟨e1, fr1, m1, h1, h⟩ := codeR_some h
      refine wp_block (Code.wp_mono (fun x a1 w1 hp => ?_) (hb hlex fr m e1 fr1 m1 h1 base F w a hI hA))
      obtain ⟨F1, rfl, h2, h3, h4, h5⟩ := hp
      cases e1 with
      | normal =>
        obtain ⟨rfl, rfl, rfl⟩ : Ex.normal = e ∧ fr1 = fr' ∧ m1 = m' := by simpa using (show some (Out.code .normal fr1 m1) = some (.code e fr' m') from h)
        exact ⟨F1, rfl, h2, h3, h4, h5⟩
      | ret =>
        obtain ⟨rfl, rfl, rfl⟩ : Ex.ret = e ∧ fr1 = fr' ∧ m1 = m' := by simpa using (show some (Out.code .ret fr1 m1) = some (.code e fr' m') from h)
        exact ⟨F1, rfl, h2, h3, h4, h5⟩
      | goto l =>
        obtain ⟨rfl, rfl, rfl⟩ : Ex.goto l = e ∧ fr1 = fr' ∧ m1 = m' := by simpa using (show some (Out.code (.goto l) fr1 m1) = some (.code e fr' m') from h)
        exact ⟨F1, rfl, h2, h3, h4, h5⟩
      | exit i =>
        replace h : teR (Nat.beq i id) (some (.code .normal fr1 m1)) (some (.code (.exit i) fr1 m1)) = some (.code e fr' m') := h
        rw [teR_eq] at h
        by_cases hi : Nat.beq i id = true
        · rw [if_pos hi] at h
          obtain ⟨rfl, rfl, rfl⟩ : Ex.normal = e ∧ fr1 = fr' ∧ m1 = m' := by simpa using h
          simp only [Ex.to, Exit.inBlock]
          rw [if_pos (Nat.eq_of_beq_eq_true hi)]
          exact ⟨F1, rfl, h2, h3, h4, h5⟩
        · rw [if_neg hi] at h
          obtain ⟨rfl, rfl, rfl⟩ : Ex.exit i = e ∧ fr1 = fr' ∧ m1 = m' := by simpa using h
          simp only [Ex.to, Exit.inBlock]
          rw [if_neg (fun e => hi (by rw [e]; exact Nat.beq_refl id))]
          exact ⟨F1, rfl, h2, h3, h4, h5⟩
    | loop b hb => exact loop_ok many (hb hlex)
    | rangeFunc f ps asg b h1 h2 => exact fail_ok
    | exit id => exact end_ok (fun Q a w h => wp_exit h)
    | scope b hb => exact scope_ok (fun l c hf => deeper c (lexAll_label b l c hf hlex)) many (hb hlex)
    | label l => exact end_ok (fun Q a w h => wp_label h)
    | goto l => exact end_ok (fun Q a w h => wp_goto h)
    | ret => exact end_ok (fun Q a w h => wp_ret h)
    | refuse s => exact fail_ok

/-! ### Results -/
def resOf (tmps : Array Value) (r : ResultVar) : Sem Value :=
  match r with
  | .tmp t => Pure.pure (tmps.getD t undef)
  | .cell q t => do loadVar t (← Go.asAddr (tmps.getD q undef))

theorem res_some {r : ResultVar} {q : Res} (hr : cRes P S r = some q) {fr : Fr} {m : Mem} {k : AV → R} {y : Out} (h : resR q fr m k = some y) {base : Nat} {F : Env} {w : World} {a : Act} (hI : Inv ρ base F m w) (hA : AR ρ F n S [] fr [] a) :
    ∃ x v, k x = some y ∧ den ρ F x = some v ∧ (resOf a.tmps r).run P w = .ok v w := by
  cases r with
  | tmp t =>
    obtain rfl := Option.some.inj (show some (Res.tmp (getB S [] (.tmp t))) = some q from hr)
    obtain ⟨hb, h⟩ := force_some (show force ((getB S [] (.tmp t)).at fr []) k = some y from h)
    rw [getB_at] at hb h
    exact ⟨_, _, h, hA.slots.eval hb, rfl⟩
  | cell c t =>
    obtain ⟨g, hg, hr⟩ := ob_some (show ob (aggT P t) (fun q => te q (ob (sizeT P t) fun n => some (.loadN n (getB S [] (.tmp c)))) (some (.load1 (getB S [] (.tmp c))))) = some q from hr)
    obtain ⟨td, htd, rfl⟩ := aggT_some hg
    rw [te_eq] at hr
    by_cases hagg : aggD td = true
    · rw [if_pos hagg] at hr
      obtain ⟨s, hs, hr⟩ := ob_some hr
      obtain rfl := Option.some.inj hr
      obtain ⟨i, hi, rfl⟩ := sizeT_some hs
      obtain ⟨b, off, hb, h⟩ := ptrR_some (show ptrR ((getB S [] (.tmp c)).at fr []) (fun b off => m.read b off i.size fun l => k (.agg l)) = some y from h)
      rw [getB_at] at hb
      obtain ⟨l, h, hn, hv⟩ := read_some h
      obtain ⟨g, c', vs, h1, h2, _, h3⟩ := hv base F w hI
      obtain ⟨g', c2, h4, h5⟩ := hA.slots.ptr hb
      rw [h4] at h1
      obtain ⟨rfl, rfl⟩ := Prod.mk.inj (Option.some.inj h1)
      have hlen := dens_length h2
      have hl2 := run_loadCells_list (P := P) w ⟨g', _, none⟩ vs h3
      rw [hlen, hn] at hl2
      refine ⟨_, .agg vs.toArray, h, by simp [den, h2], ?_⟩
      have h5' : a.tmps.getD c undef = .pointer (some ⟨g', _, none⟩) := h5
      simp only [resOf, h5', Sem.run_bind, Go.asAddr, Sem.run_pure, Result.andThen_ok]
      simp [loadVar, run_isAgg htd, hagg, run_size hi, hl2]
    · rw [if_neg hagg] at hr
      obtain rfl := Option.some.inj hr
      obtain ⟨b, off, hb, h⟩ := ptrR_some (show ptrR ((getB S [] (.tmp c)).at fr []) (fun b off => m.read1 b off k) = some y from h)
      rw [getB_at] at hb
      obtain ⟨x, h, hv⟩ := read1_some h
      obtain ⟨g, c', val, h1, h2, _, h3⟩ := hv base F w hI
      obtain ⟨g', c2, h4, h5⟩ := hA.slots.ptr hb
      rw [h4] at h1
      obtain ⟨rfl, rfl⟩ := Prod.mk.inj (Option.some.inj h1)
      refine ⟨x, val, h, h2, ?_⟩
      have h5' : a.tmps.getD c undef = .pointer (some ⟨g', _, none⟩) := h5
      simp only [resOf, h5', Sem.run_bind, Go.asAddr, Sem.run_pure, Result.andThen_ok]
      simp [loadVar, run_isAgg htd, hagg, h3]

theorem resAll_some {fr : Fr} {m : Mem} {base : Nat} {F : Env} {w : World} {a : Act} (hI : Inv ρ base F m w) (hA : AR ρ F n S [] fr [] a) : ∀ (l : List ResultVar) (qs : List Res) (k : List AV → R) (y : Out), allSome P S l = some qs → resAll qs fr m k = some y →
    ∃ xs vs, k xs = some y ∧ dens ρ F xs = some vs ∧ (l.mapM (resOf a.tmps)).run P w = .ok vs w
  | [], qs, k, y, hq, h => by
    obtain rfl := Option.some.inj (show some [] = some qs from hq)
    exact ⟨[], [], h, dens_nil F, by simp⟩
  | r :: l, qs, k, y, hq, h => by
    obtain ⟨q, hr, hq⟩ := ob_some (show ob (cRes P S r) (fun x => ob (allSome P S l) fun xs => some (x :: xs)) = some qs from hq)
    obtain ⟨qs', hqs, hq⟩ := ob_some hq
    obtain rfl := Option.some.inj hq
    obtain ⟨x, v, h, h1, h2⟩ := res_some (P := P) (n := n) hr (show resR q fr m (fun v => resAll qs' fr m fun l => k (v :: l)) = some y from h) hI hA
    obtain ⟨xs, vs, h, h3, h4⟩ := resAll_some hI hA l qs' _ y hqs h
    refine ⟨x :: xs, v :: vs, h, dens_cons_mk h1 h3, ?_⟩
    simp only [List.mapM_cons, Sem.run_bind, h2, Result.andThen_ok, h4, Sem.run_pure]

theorem results_eq (fn : Func) (tmps : Array Value) : results fn tmps = (do let vs ← fn.results.mapM (resOf tmps); pure (if h : vs.size = 1 then vs[0] else .tuple vs)) := by
  have e : (fun | .tmp t => pure (tmps.getD t undef) | .cell q t => do loadVar t (← Go.asAddr (tmps.getD q undef)) : ResultVar → Sem Value) = resOf tmps := by
    funext r
    cases r <;> rfl
  rw [← e]
  rfl

theorem single_some {F : Env} {xs : List AV} {vs : List Value} (hd : dens ρ F xs = some vs) {k : AV → R} {y : Out} (h : singleR xs k = some y) : ∃ x, k x = some y ∧ den ρ F x = some (if h : vs.toArray.size = 1 then vs.toArray[0] else .tuple vs.toArray) := by
  have hl := dens_length hd
  match xs, vs, hd, hl, h with
  | [], [], hd, hl, h => exact ⟨_, h, by simp [den, dens]⟩
  | [x], [v], hd, hl, h =>
    obtain ⟨v', us, h1, h2, h3⟩ := dens_cons hd
    simp only [List.cons.injEq] at h3
    exact ⟨x, h, by simp [h1, h3.1]⟩
  | x :: z :: xs, v :: u :: vs, hd, hl, h => exact ⟨.tup (x :: z :: xs), h, by simp [den, hd]⟩

theorem results_run {fr : Fr} {m : Mem} {base : Nat} {F : Env} {w : World} {a : Act} (hI : Inv ρ base F m w) (hA : AR ρ F n S [] fr [] a) (fn : Func) {qs : List Res} (hq : allSome P S fn.results.toList = some qs) {y : Out}
    (h : resAll qs fr m (fun xs => singleR xs fun v => some (.call v m)) = some y) : ∃ x v, y = .call x m ∧ den ρ F x = some v ∧ (results fn a.tmps).run P w = .ok v w := by
  obtain ⟨xs, vs, h, h1, h2⟩ := resAll_some hI hA _ _ _ _ hq h
  obtain ⟨x, h, h3⟩ := single_some h1 h
  refine ⟨x, _, (Option.some.inj h).symm, h3, ?_⟩
  rw [results_eq]
  have e : fn.results.mapM (resOf a.tmps) = List.toArray <$> fn.results.toList.mapM (resOf a.tmps) := by
    rw [Array.mapM_eq_mapM_toList]
  simp only [e, Sem.run_bind, Sem.run_map, h2, Result.andThen_ok, Sem.run_pure]

/-! ### Calls -/
/-- drawn regions may be gone through in order -/
def LexOk (P : Program) (sk : Nat → Modes) : Prop := ∀ (f : FuncId) (fn : Func) (c : Code), P.funcs[f]? = some fn → fn.body = some c → lexAll (sk f) c = true

theorem lexFns_at {sk : Nat → Modes} : ∀ (l : List Func) (f j : Nat) (fn : Func) (c : Code), lexFns sk l f = true → l[j]? = some fn → fn.body = some c → lexAll (sk (f + j)) c = true
  | [], f, j, fn, c, _, hj, _ => by simp at hj
  | fn0 :: l, f, j, fn, c, h, hj, hc => by
    obtain ⟨h1, h2⟩ := both (show te (match fn0.body with | some c => lexAll (sk f) c | none => true) (lexFns sk l (Nat.succ f)) false = true from h)
    cases j with
    | zero =>
      obtain rfl : fn0 = fn := by simpa using hj
      rw [hc] at h1
      exact h1
    | succ j =>
      have := lexFns_at l (f + 1) j fn c h2 (by simpa using hj) hc
      rwa [show f + 1 + j = f + (j + 1) by omega] at this

theorem lexOk_of {sk : Nat → Modes} (h : lexFns sk P.funcs.toList 0 = true) : LexOk P sk := by
  intro f fn c hf hc
  have := lexFns_at P.funcs.toList 0 f fn c h (by simpa using hf) hc
  rwa [Nat.zero_add] at this

theorem call_sound (hmix : P.follows .mixedOrders = true) (hpl : Plainly P) (hoc : OrcOk ρ P oc) {sk : Nat → Modes} (hlex : LexOk P sk) {ih : Rec} (hih : RecOk ρ P ih) {f : FuncId} {args : List AV} {m : Mem} {x : AV} {m' : Mem} (h : bodyR P oc sk ih f args m = some (.call x m')) : CallOk ρ P f args m x m' := by
  obtain ⟨cf, hcf, h⟩ := obR_some h
  obtain ⟨fn, hf, hcf⟩ := ob_some hcf
  obtain ⟨c, hc, hcf⟩ := ob_some hcf
  obtain ⟨h512, hcf⟩ := gd_some hcf
  rw [strictN_eq] at hcf
  obtain ⟨qs, hqs, hcf⟩ := ob_some hcf
  obtain rfl := Option.some.inj hcf
  obtain ⟨hle, h⟩ := gdR_some h
  rw [lenAV_eq] at hle
  have hle' : args.length ≤ fn.ntmps := Nat.le_of_ble_eq_true hle
  have h512' : fn.ntmps ≤ 512 := Nat.le_of_ble_eq_true h512
  refine fun base F w vs hI hd => .inl ⟨callFunc_run hpl ⟨fn, hf, by rw [hc]; rfl⟩ _ _, ?_⟩
  obtain ⟨fr, h, hA⟩ := frame_AR (S := localS fn c) hd hle' h512' h
  obtain ⟨e1, fr1, m1, h1, h⟩ := codeR_some h
  refine calls_of_wp hf hc (Code.wp_mono (fun z a1 w1 hp => ?_) (cCode_ok hmix hpl hoc hih h512' 3 c (hlex f fn c hf hc) fr m e1 fr1 m1 h1 base F w _ hI hA))
  obtain ⟨F1, rfl, h2, h3, h4, h5⟩ := hp
  cases e1 with
  | normal =>
    obtain ⟨x', v, he, hv, hrun⟩ := results_run h4 h3 fn hqs h
    obtain ⟨rfl, rfl⟩ : x = x' ∧ m' = m1 := by simpa using he
    exact ⟨h3.slots.defers, v, hrun, v, rfl, F1, h2, hv, h4, h5⟩
  | ret =>
    obtain ⟨x', v, he, hv, hrun⟩ := results_run h4 h3 fn hqs h
    obtain ⟨rfl, rfl⟩ : x = x' ∧ m' = m1 := by simpa using he
    exact ⟨h3.slots.defers, v, hrun, v, rfl, F1, h2, hv, h4, h5⟩
  | exit i => exact no h
  | goto l => exact no h

/-- THE THEOREM -/
theorem rec_ok (hmix : P.follows .mixedOrders = true) (hpl : Plainly P) (hoc : OrcOk ρ P oc) {sk : Nat → Modes} (hlex : LexOk P sk) {kn : Known} (hkn : KnownOk ρ P kn) : ∀ N, RecOk ρ P (rec P oc sk kn N)
  | 0 => fun f args m x m' h => no h
  | N + 1 => by
    intro f args m x m' h
    replace h : Option.rec (motive := fun _ => R) (bodyR P oc sk (rec P oc sk kn N) f args m) (fun v => force v fun v => some (.call v m)) (kn f args) = some (.call x m') := h
    cases hk : kn f args with
    | some v =>
      rw [hk] at h
      obtain ⟨_, h⟩ := force_some (show force v (fun v => some (.call v m)) = some (.call x m') from h)
      obtain ⟨rfl, rfl⟩ : v = x ∧ m = m' := by simpa using h
      refine fun base F w vs hI hd => (hkn f args v hk F w vs hd).mono fun u w' hh => ?_
      obtain ⟨hu, hb⟩ := hh
      exact ⟨F, Ext.refl F, hu, hI.below hb, Fares.above hI.size hb⟩
    | none =>
      rw [hk] at h
      exact call_sound hmix hpl hoc hlex (rec_ok hmix hpl hoc hlex hkn N) h

/-! ### Closed calls -/
theorem at_u (b : Nat) : mem0.at b = none := by
  show (⟨b5u, 0, 0⟩ : Mem).at b = none
  rw [at_eq]
  split
  · show B5.at5 (dig (Nat.mod (Nat.div b 4096) 8)) (dig (Nat.mod (Nat.div b 512) 8)) (dig (Nat.mod (Nat.div b 64) 8)) (dig (Nat.mod (Nat.div b 8) 8)) (dig (Nat.mod b 8)) b5u = none
    have h5 : ∀ d, B5.sel d b5u = b4u := fun d => by cases d <;> rfl
    have h4 : ∀ d, B4.sel d b4u = b3u := fun d => by cases d <;> rfl
    have h3 : ∀ d, B3.sel d b3u = b2u := fun d => by cases d <;> rfl
    have h2 : ∀ d, B2.sel d b2u = b1u := fun d => by cases d <;> rfl
    have h1 : ∀ d, B1.sel d b1u = none := fun d => by cases d <;> rfl
    show B1.sel _ (B2.sel _ (B3.sel _ (B4.sel _ (B5.sel _ b5u)))) = _
    rw [h5, h4, h3, h2, h1]
  · rfl

theorem empty_inv (w : World) : Inv ρ w.heap.size (fun _ => none) mem0 w where
  live b k h := by rw [at_u] at h; cases h
  apart b b' k k' x x' h := by rw [at_u] at h; cases h
  fresh _ _ := rfl
  size := Nat.le_refl _
  wrnx := Nat.le_refl _

theorem isTrue_some {x : R} (h : isTrue x = true) : ∃ m, x = some (.call (.bool true) m) := by
  unfold isTrue at h
  split at h
  · exact ⟨_, rfl⟩
  · cases h

theorem runs_true {kn : Known} (hmix : P.follows .mixedOrders = true) (hpl : Plainly P) (hoc : OrcOk ρ P oc) {sk : Nat → Modes} (hlex : LexOk P sk) (hkn : KnownOk ρ P kn) (N : Nat) (f : FuncId) (args : List AV) (vs : List Value) (hd : dens ρ (fun _ => none) args = some vs)
    (h : isTrue (rec P oc sk kn N f args mem0) = true) (hbody : (match P.funcs[f]? with | some fn => fn.body.isSome | none => false) = true) (w : World) : Calls P f vs.toArray w fun e w' => e = .returned (.bool true) ∧ Below w.heap.size w w' := by
  obtain ⟨m', h⟩ := isTrue_some h
  have hfn : ∃ fn, P.funcs[f]? = some fn ∧ fn.body.isSome = true := by
    cases hf : P.funcs[f]? with
    | none => rw [hf] at hbody; cases hbody
    | some fn => rw [hf] at hbody; exact ⟨fn, rfl, hbody⟩
  rcases rec_ok hmix hpl hoc hlex hkn N f args mem0 _ _ h w.heap.size (fun _ => none) w vs (empty_inv w) hd with ⟨_, hc⟩ | ⟨u, hr, _⟩
  case inr =>
    rw [callFunc_run hpl hfn] at hr
    cases hr
  refine hc.mono fun e w' hh => ?_
  obtain ⟨v, rfl, F', _, hv, _, hb⟩ := hh
  simp only [den, Option.some.injEq] at hv
  subst hv
  exact ⟨rfl, hb.below⟩

theorem CallRuns.of_calls (hpl : Plainly P) {f : FuncId} (hf : ∃ fn, P.funcs[f]? = some fn ∧ fn.body.isSome = true) {vs : Array Value} {w : World} {K : Value → World → Prop} (h : Calls P f vs w fun e w' => ∃ v, e = .returned v ∧ K v w') : CallRuns P f vs w K :=
  .inl ⟨callFunc_run hpl hf _ _, h⟩
/-- a function of the model's own -/
theorem CallRuns.of_extern {f : FuncId} {fn : Func} {e : Array Value → Sem Value} (hf : P.funcs[f]? = some fn) (hname : (fn.name == "runtime.NumGoroutine") = false) (hb : fn.body.isNone = true) (hn : Extern.findNext fn = none) (he : Extern.find fn = some e)
    {vs : Array Value} {w : World} {v : Value} (hv : (e vs).run P w = .ok v w) {K : Value → World → Prop} (h : K v w) : CallRuns P f vs w K := by
  refine .inr ⟨v, ?_, h⟩
  have hname' : ¬ fn.name = "runtime.NumGoroutine" := by simpa using hname
  have hb' : fn.body = none := by simpa using hb
  simp [callFunc, hf, hname', hb', hn, he, hv]

theorem noneKnown_ok (P : Program) : KnownOk ρ P noneKnown := fun _ _ _ h => by cases h

theorem plainly_of (h : (P.funcs.toList.all fun fn => !(fn.name == "runtime.NumGoroutine")) = true) : Plainly P := by
  intro f fn hf
  have hm : fn ∈ P.funcs.toList := by
    rw [Array.mem_toList_iff]
    exact Array.mem_of_getElem? hf
  have := List.all_eq_true.1 h fn hm
  simpa using this

end Go.Proofs.YtplnnlnkcfappaaGreat.E3
