/- The evaluator tells the truth, part 9: the code. -/
import Derived.Test.YteaaahcgkodcdaaVj
import Derived.LoopN
import Derived.Scope
namespace Go.Proofs.Yteaaahcgkodcdaa.Ev
open Go Go.RowKit
set_option linter.unusedSimpArgs false
set_option linter.unusedVariables false

variable {P : Program} {kn : Known}

def Ex.to : Ex → Exit
  | .normal => .normal
  | .ret => .ret
  | .exit id => .exit id
  | .goto l => .goto l

/-- what stands behind a piece of code -/
def Post (base wr : Nat) (F : Env) (n : Nat) (e : Ex) (tm : Tr AV) (m : Mem) (w : World) : Exit → Act → World → Prop := fun x a' w' =>
  ∃ F', x = e.to ∧ Ext F F' ∧ AR F' n tm a' ∧ Inv base wr F' m w' ∧ Below base w w'

theorem Post.from {base wr n : Nat} {F F1 : Env} {e : Ex} {tm : Tr AV} {m : Mem} {w w1 : World} (he : Ext F F1) (hb : Below base w w1) {x : Exit} {a' : Act} {w' : World}
    (h : Post base wr F1 n e tm m w1 x a' w') : Post base wr F n e tm m w x a' w' := by
  obtain ⟨F', h1, h2, h3, h4, h5⟩ := h
  exact ⟨F', h1, he.trans h2, h3, h4, hb.trans h5⟩

/-- the calls that are known -/
def KnownOk (P : Program) (kn : Known) : Prop := ∀ f args v, kn f args = some v →
  (∃ fn, P.funcs[f]? = some fn ∧ fn.body.isSome = true) ∧
  ∀ (F : Env) (w : World) (vs : List Value), dens F args = some vs → Calls P f vs.toArray w fun e w' => e = .returned v ∧ Below w.heap.size w w'

def Plainly (P : Program) : Prop := ∀ (f : FuncId) (fn : Func), P.funcs[f]? = some fn → (fn.name == "runtime.NumGoroutine") = false

def CallOk (P : Program) (wr : Nat) (f : FuncId) (args : List AV) (m : Mem) (x : AV) (m' : Mem) : Prop :=
  (∃ fn, P.funcs[f]? = some fn ∧ fn.body.isSome = true) ∧
  ∀ (base : Nat) (F : Env) (w : World) (vs : List Value), Inv base wr F m w → dens F args = some vs →
    Calls P f vs.toArray w fun e w' => ∃ F' v, e = .returned v ∧ Ext F F' ∧ den F' x = some v ∧ Inv base wr F' m' w' ∧ Below base w w'

/-- the code of a scope, from somewhere in it -/
def ScopeWp (P : Program) (b c : Code) (Q : Exit → Act → World → Prop) (a : Act) (w : World) : Prop :=
  ∀ (fr : Frame) (k : List Item) (cs : List Frame), ∃ e a' w', Q e a' w' ∧ Arrives P (lone (fr.at a (.code c :: .inScope b :: k)) cs w) fr k cs e a' w'

structure Sound (P : Program) (kn : Known) (N : Nat) : Prop where
  code : ∀ wr n c tm m e tm' m', ev P kn N (.code wr n c tm m) = some (.code e tm' m') → ∀ base F w a, Inv base wr F m w → AR F n tm a → c.wp P (Post base wr F n e tm' m' w) a w
  loop : ∀ wr n b tm m e tm' m', ev P kn N (.code wr n (.loop b) tm m) = some (.code e tm' m') → ∀ base F w a, Inv base wr F m w → AR F n tm a → Code.rounds P b (Post base wr F n e tm' m' w) N a w
  ops : ∀ wr n all l tm m e tm' m', ev P kn N (.ops wr n all l tm m) = some (.code e tm' m') → e = .normal ∧ ∀ base F w a, Inv base wr F m w → AR F n tm a → wpList P all (Post base wr F n e tm' m' w) l a w
  draw : ∀ n all l tm m e tm' m', ev P kn N (.draw n all l tm m) = some (.code e tm' m') → e = .normal ∧ m' = m ∧ ∀ base wr F w a (Q : Act → Prop), Inv base wr F m w → AR F n tm a → (∀ a', AR F n tm' a' → Q a') →
    wpQuiet P all (fun w' => ∃ p : Regrown, w' = Sort.grow (redrawn w p.d) p.os) Q l a
  scope : ∀ wr n b c tm m e tm' m', ev P kn N (.scope wr n b c tm m) = some (.code e tm' m') → ∀ base F w a, Inv base wr F m w → AR F n tm a → ScopeWp P b c (Post base wr F n e tm' m' w) a w
  call : ∀ wr f args m x m', ev P kn N (.call wr f args m) = some (.call x m') → CallOk P wr f args m x m'

/-! ### Small -/
theorem asCode_some {β : Type} {o : Out} {k : Ex → Tr AV → Mem → Option β} {y : β} (h : asCode o k = some y) : ∃ e tm m, o = .code e tm m ∧ k e tm m = some y := by
  cases o with
  | code e tm m => exact ⟨e, tm, m, rfl, h⟩
  | call v m => cases h
theorem asCall_some {β : Type} {o : Out} {k : AV → Mem → Option β} {y : β} (h : asCall o k = some y) : ∃ v m, o = .call v m ∧ k v m = some y := by
  cases o with
  | code e tm m => cases h
  | call v m => exact ⟨v, m, rfl, h⟩

theorem rounds_mono {b : Code} {Q Q' : Exit → Act → World → Prop} (hq : ∀ e a w, Q e a w → Q' e a w) : ∀ (r : Nat) (a : Act) (w : World), Code.rounds P b Q r a w → Code.rounds P b Q' r a w
  | 0, _, _, h => h.elim
  | r + 1, a, w, h => by
    rw [rounds_succ] at h ⊢
    refine Code.wp_mono (fun e a' w' q => ?_) h
    cases e <;> first | exact rounds_mono hq r _ _ q | exact hq _ _ _ q

theorem scopeWp_mono {b c : Code} {Q Q' : Exit → Act → World → Prop} {a : Act} {w : World} (hq : ∀ e a w, Q e a w → Q' e a w) (h : ScopeWp P b c Q a w) : ScopeWp P b c Q' a w := by
  intro fr k cs
  obtain ⟨e, a', w', q, arr⟩ := h fr k cs
  exact ⟨e, a', w', hq _ _ _ q, arr⟩

theorem callFunc_run (hpl : Plainly P) {f : FuncId} (hf : ∃ fn, P.funcs[f]? = some fn ∧ fn.body.isSome = true) (args : Array Value) (w : World) : (callFunc f args).run P w = .ok (.enter f args) w := by
  obtain ⟨fn, h1, h2⟩ := hf
  have h3 := hpl f fn h1
  have h3' : ¬ fn.name = "runtime.NumGoroutine" := by simpa using h3
  have h4 : ¬ fn.body = none := by intro e; rw [e] at h2; cases h2
  simp [callFunc, h1, h3', h4]

/-- a piece, then the next -/
theorem seq_sound {N wr n : Nat} (ih : Sound P kn N) {c : Code} {e e1 : Ex} {tm tm1 tm' : Tr AV} {m1 m' : Mem} (h : thenCode (ev P kn N) wr n c e1 tm1 m1 = some (.code e tm' m'))
    {base : Nat} {F : Env} {w : World} {x : Exit} {a1 : Act} {w1 : World} (hp : Post base wr F n e1 tm1 m1 w x a1 w1) :
    (e1 = .normal ∧ x = .normal ∧ ∃ F1, Ext F F1 ∧ AR F1 n tm1 a1 ∧ Inv base wr F1 m1 w1 ∧ Below base w w1 ∧ ev P kn N (.code wr n c tm1 m1) = some (.code e tm' m')) ∨
    (x ≠ .normal ∧ Post base wr F n e tm' m' w x a1 w1) := by
  obtain ⟨F1, hx, h2, h3, h4, h5⟩ := hp
  cases e1 with
  | normal => exact .inl ⟨rfl, hx, F1, h2, h3, h4, h5, h⟩
  | ret =>
    obtain ⟨rfl, rfl, rfl⟩ : Ex.ret = e ∧ tm1 = tm' ∧ m1 = m' := by simpa [thenCode] using h
    exact .inr ⟨by rw [hx]; simp [Ex.to], F1, hx, h2, h3, h4, h5⟩
  | exit id =>
    obtain ⟨rfl, rfl, rfl⟩ : Ex.exit id = e ∧ tm1 = tm' ∧ m1 = m' := by simpa [thenCode] using h
    exact .inr ⟨by rw [hx]; simp [Ex.to], F1, hx, h2, h3, h4, h5⟩
  | goto l =>
    obtain ⟨rfl, rfl, rfl⟩ : Ex.goto l = e ∧ tm1 = tm' ∧ m1 = m' := by simpa [thenCode] using h
    exact .inr ⟨by rw [hx]; simp [Ex.to], F1, hx, h2, h3, h4, h5⟩

theorem seq_wp {N wr n : Nat} (ih : Sound P kn N) {b c : Code} {e : Ex} {tm tm' : Tr AV} {m m' : Mem} (h : stSeq (ev P kn N) wr n b c tm m = some (.code e tm' m'))
    {base : Nat} {F : Env} {w : World} {a : Act} (hI : Inv base wr F m w) (hA : AR F n tm a) {K : Act → World → Prop}
    (hK : ∀ F1 tm1 m1 a1 w1, Ext F F1 → AR F1 n tm1 a1 → Inv base wr F1 m1 w1 → Below base w w1 → ev P kn N (.code wr n c tm1 m1) = some (.code e tm' m') → K a1 w1) :
    b.wp P (Exit.then K (Post base wr F n e tm' m' w)) a w := by
  obtain ⟨o, ho, h⟩ := ob_some h
  obtain ⟨e1, tm1, m1, rfl, h⟩ := asCode_some h
  refine Code.wp_mono (fun x a1 w1 hp => ?_) (ih.code _ _ _ _ _ _ _ _ ho base F w a hI hA)
  rcases seq_sound ih (tm := tm) h hp with ⟨_, rfl, F1, h2, h3, h4, h5, h6⟩ | ⟨hx, hp⟩
  · exact hK F1 tm1 m1 a1 w1 h2 h3 h4 h5 h6
  · cases x <;> first | exact absurd rfl hx | exact hp

theorem loop_sound {N : Nat} (ih : Sound P kn N) : ∀ wr n b tm m e tm' m', ev P kn (N + 1) (.code wr n (.loop b) tm m) = some (.code e tm' m') → ∀ base F w a, Inv base wr F m w → AR F n tm a →
    Code.rounds P b (Post base wr F n e tm' m' w) (N + 1) a w := by
  intro wr n b tm m e tm' m' h base F w a hI hA
  rw [rounds_succ]
  exact seq_wp ih (show stSeq (ev P kn N) wr n b (.loop b) tm m = some (.code e tm' m') from h) hI hA
    (fun F1 tm1 m1 a1 w1 h2 h3 h4 h5 h6 => rounds_mono (fun _ _ _ q => q.from h2 h5) _ _ _ (ih.loop _ _ _ _ _ _ _ _ h6 base F1 w1 a1 h4 h3))

theorem oper_wp_mono {o : Oper} {a : Act} {w : World} {K K' : Act → World → Prop} {Q Q' : Exit → Act → World → Prop} (hk : ∀ a w, K a w → K' a w) (hq : ∀ e a w, Q e a w → Q' e a w)
    (h : o.wp P a w K Q) : o.wp P a w K' Q' := by
  unfold Oper.wp at h ⊢
  generalize (execOp a.eval o).run P w = r at h ⊢
  cases r with
  | ok nx w' =>
    cases nx <;> simp only [Oper.upon] at h ⊢ <;> first | exact hk _ _ h | exact h | skip
    case enter f args =>
      refine h.mono fun e w'' hh => ?_
      cases e with
      | returned v => exact hk _ _ hh
      | panicked ch => exact hq _ _ _ hh
      | outgrown => obtain ⟨a1, w1, h1⟩ := hh; exact ⟨a1, w1, hq _ _ _ h1⟩
    case row r args => exact h.mono fun v w'' hh => hk _ _ hh
  | halt x w' =>
    cases x <;> simp only [Oper.upon] at h ⊢ <;> first | exact hq _ _ _ h | exact h

theorem wpList_mono' {all : Array Oper} {Q Q' : Exit → Act → World → Prop} (hq : ∀ e a w, Q e a w → Q' e a w) : ∀ (l : List Oper) (a : Act) (w : World), wpList P all Q l a w → wpList P all Q' l a w
  | [], a, w, h => hq _ _ _ h
  | o :: rest, a, w, h => by
    unfold wpList at h ⊢
    split
    · rename_i hw
      rw [if_pos hw] at h
      rcases h with h | ⟨h1, a1, w1, h2⟩
      · exact .inl (oper_wp_mono (fun a w hh => wpList_mono' hq rest a w hh) hq h)
      · exact .inr ⟨h1, a1, w1, hq _ _ _ h2⟩
    · rename_i hw
      rw [if_neg hw] at h
      exact wpList_mono' hq rest _ _ h

theorem next_some {ih : Task → Option Out} {wr n : Nat} {all : Array Oper} {rest : List Oper} {tm : Tr AV} {d : Option Tmp} {v : AV} {m : Mem} {y : Out} (h : next ih wr n all rest tm d v m = some y) :
    ∃ tm1, putDst tm n d v = some tm1 ∧ ih (.ops wr n all rest tm1 m) = some y := ob_some h

theorem ops_sound (hpl : Plainly P) {N : Nat} (ih : Sound P kn N) : ∀ wr n all l tm m e tm' m', ev P kn (N + 1) (.ops wr n all l tm m) = some (.code e tm' m') → e = .normal ∧
    ∀ base F w a, Inv base wr F m w → AR F n tm a → wpList P all (Post base wr F n e tm' m' w) l a w := by
  intro wr n all l tm m e tm' m' h
  cases l with
  | nil =>
    obtain ⟨rfl, rfl, rfl⟩ : Ex.normal = e ∧ tm = tm' ∧ m = m' := by
      have h' : some (Out.code .normal tm m) = some (Out.code e tm' m') := h
      simpa using h'
    refine ⟨rfl, fun base F w a hI hA => ?_⟩
    exact wpList_nil ⟨F, rfl, Ext.refl F, hA, hI, Below.refl _ _⟩
  | cons o rest =>
    have h' : te (wantedAV o all tm) (stOp P (ev P kn N) wr n all rest tm o.dst m o.op) (next (ev P kn N) wr n all rest tm o.dst (.raw undef) m) = some (.code e tm' m') := h
    rw [te_eq] at h'
    by_cases hw : wantedAV o all tm = true
    · rw [if_pos hw] at h'
      unfold stOp at h'
      cases hp : evPure P tm m o.op with
      | some v =>
        rw [hp] at h'
        obtain ⟨tm1, ht, hn⟩ := next_some (show next (ev P kn N) wr n all rest tm o.dst v m = some _ from h')
        obtain ⟨he, hl⟩ := ih.ops _ _ _ _ _ _ _ _ _ hn
        refine ⟨he, fun base F w a hI hA => wpList_step fun K hK => ?_⟩
        rw [if_pos (by rw [← wanted_eq hA]; exact hw)]
        obtain ⟨val, hv, hrun⟩ := evPure_spec hI hA o hp
        unfold Oper.wp
        rw [hrun, Oper.upon_value]
        exact hK _ _ (hl base F w _ hI (hA.put hv ht))
      | none =>
        rw [hp] at h'
        obtain ⟨r, hr, h'⟩ := ob_some (show ob (evEff P wr tm m o.op) (fun r => stEff (ev P kn N) wr n all rest tm o.dst m r) = some _ from h')
        cases r with
        | val v m1 =>
          obtain ⟨tm1, ht, hn⟩ := next_some (show next (ev P kn N) wr n all rest tm o.dst v m1 = some _ from h')
          obtain ⟨he, hl⟩ := ih.ops _ _ _ _ _ _ _ _ _ hn
          refine ⟨he, fun base F w a hI hA => wpList_step fun K hK => ?_⟩
          rw [if_pos (by rw [← wanted_eq hA]; exact hw)]
          obtain ⟨F', val, w', hext, hv, hrun, hI', hb⟩ := evEff_spec hI hA o hr
          unfold Oper.wp
          rw [hrun, Oper.upon_value]
          refine hK _ _ ?_
          exact wpList_mono' (fun _ _ _ q => q.from hext hb) _ _ _ (hl base F' w' _ hI' ((hA.ext hext).put hv ht))
        | skip m1 =>
          obtain ⟨tm1, ht, hn⟩ := next_some (show next (ev P kn N) wr n all rest tm o.dst (.raw undef) m1 = some _ from h')
          obtain ⟨he, hl⟩ := ih.ops _ _ _ _ _ _ _ _ _ hn
          refine ⟨he, fun base F w a hI hA => wpList_step fun K hK => ?_⟩
          rw [if_pos (by rw [← wanted_eq hA]; exact hw)]
          obtain ⟨w', hrun, hI', hb⟩ := evEff_spec hI hA o hr
          unfold Oper.wp
          rw [hrun, Oper.upon_skip]
          exact hK _ _ (wpList_mono' (fun _ _ _ q => q.from (Ext.refl F) hb) _ _ _ (hl base F w' _ hI' (hA.put den_raw ht)))
        | call f args =>
          obtain ⟨oc, hoc, h'⟩ := ob_some (show ob (ev P kn N (.call wr f args m)) (fun oc => asCall oc fun v m' => next (ev P kn N) wr n all rest tm o.dst v m') = some _ from h')
          obtain ⟨v, m1, rfl, h'⟩ := asCall_some h'
          obtain ⟨tm1, ht, hn⟩ := next_some h'
          obtain ⟨he, hl⟩ := ih.ops _ _ _ _ _ _ _ _ _ hn
          refine ⟨he, fun base F w a hI hA => wpList_step fun K hK => ?_⟩
          rw [if_pos (by rw [← wanted_eq hA]; exact hw)]
          obtain ⟨vs, hvs, hrun⟩ := evEff_spec hI hA o hr
          obtain ⟨hfn, hcall⟩ := ih.call _ _ _ _ _ _ hoc
          unfold Oper.wp
          rw [hrun, callFunc_run hpl hfn, Oper.upon_enter]
          refine (hcall base F w vs hI hvs).mono fun e1 w' hh => ?_
          obtain ⟨F', val, rfl, hext, hv, hI', hb⟩ := hh
          exact hK _ _ (wpList_mono' (fun _ _ _ q => q.from hext hb) _ _ _ (hl base F' w' _ hI' ((hA.ext hext).put hv ht)))
    · rw [if_neg hw] at h'
      obtain ⟨tm1, ht, hn⟩ := next_some h'
      obtain ⟨he, hl⟩ := ih.ops _ _ _ _ _ _ _ _ _ hn
      refine ⟨he, fun base F w a hI hA => wpList_step fun K hK => ?_⟩
      rw [if_neg (by rw [← wanted_eq hA]; exact hw)]
      exact hK _ _ (hl base F w _ hI (hA.put den_raw ht))

end Go.Proofs.Yteaaahcgkodcdaa.Ev
