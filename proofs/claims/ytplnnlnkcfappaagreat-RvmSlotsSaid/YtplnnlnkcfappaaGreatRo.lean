/- RvmSlots: a scope of two labels; what the machine does, in plain words. -/
import Derived.Test.YtplnnlnkcfappaaGreatRn
import Derived.Scope
import Derived.WalkMore
import Derived.ScopeJumps
namespace Go.Proofs.YtplnnlnkcfappaaGreat.Rs
open Go Go.RowKit
set_option linter.unusedSimpArgs false
set_option linter.unusedVariables false

/-- by a goto to label 0: J; to label 1: K -/
def jump2 (J K : Act → World → Prop) (Q : Exit → Act → World → Prop) : Exit → Act → World → Prop
  | .goto l, a, w => (l = 0 ∧ J a w) ∨ (l = 1 ∧ K a w)
  | e, a, w => Q e a w
section
variable {P : Program} {a : Act} {w : World} {Q J K : Act → World → Prop}
theorem jump2_0 {Q : Exit → Act → World → Prop} (h : J a w) : jump2 J K Q (.goto 0) a w := .inl ⟨rfl, h⟩
theorem jump2_1 {Q : Exit → Act → World → Prop} (h : K a w) : jump2 J K Q (.goto 1) a w := .inr ⟨rfl, h⟩
end
/-- a scope in which the run jumps back to label 0, each time with less to go, and at last to label 1, from where it jumps no more -/
theorem wp_scope_two0 {P : Program} {a : Act} {w : World} {Q : Exit → Act → World → Prop} {c r0 r1 : Code} (J : Nat → Act → World → Prop) (K : Act → World → Prop) (hf0 : findLabel c 0 = some r0) (hf1 : findLabel c 1 = some r1)
    (first : (∀ n a w, J n a w → r0.wp P (jump2 (fun a' w' => ∃ m, J m a' w') K Q) a w) → c.wp P (jump2 (fun a' w' => ∃ m, J m a' w') K Q) a w)
    (pass0 : ∀ n a w, J n a w → r0.wp P (jump2 (fun a' w' => ∃ m, m < n ∧ J m a' w') K Q) a w)
    (pass1 : ∀ a w, K a w → r1.wp P (jump2 (fun _ _ => False) (fun _ _ => False) Q) a w) : (Code.scope c).wp P Q a w := by
  intro b k cs
  have hg0 : gotoIn 0 (.inScope c :: k) = some (.code r0 :: .inScope c :: k) := by simp [gotoIn, hf0]
  have hg1 : gotoIn 1 (.inScope c :: k) = some (.code r1 :: .inScope c :: k) := by simp [gotoIn, hf1]
  have keyK : ∀ a w, K a w → ∃ e a' w', Q e a' w' ∧ Arrives P (lone (b.at a (.code r1 :: .inScope c :: k)) cs w) b k cs e a' w' := by
    intro a w hK
    obtain ⟨e, a₁, w₁, hq, harr⟩ := pass1 a w hK b (.inScope c :: k) cs
    cases e with
    | normal => exact ⟨.normal, a₁, w₁, hq, Steps.trans harr (.one step_inScope)⟩
    | exit id => exact ⟨.exit id, a₁, w₁, hq, fun k' hk => harr k' (by simp [exitTo, hk])⟩
    | goto l' => rcases hq with ⟨_, h⟩ | ⟨_, h⟩ <;> exact h.elim
    | ret => exact ⟨_, a₁, w₁, hq, harr⟩
    | panic ch => exact ⟨_, a₁, w₁, hq, harr⟩
    | outgrown => exact ⟨_, a₁, w₁, hq, harr⟩
  have key : ∀ n a w, J n a w → ∃ e a' w', Q e a' w' ∧ Arrives P (lone (b.at a (.code r0 :: .inScope c :: k)) cs w) b k cs e a' w' := by
    intro n
    induction n using Nat.strongRecOn with
    | _ n ih =>
      intro a w hJ
      obtain ⟨e, a₁, w₁, hq, harr⟩ := pass0 n a w hJ b (.inScope c :: k) cs
      cases e with
      | normal => exact ⟨.normal, a₁, w₁, hq, Steps.trans harr (.one step_inScope)⟩
      | exit id => exact ⟨.exit id, a₁, w₁, hq, fun k' hk => harr k' (by simp [exitTo, hk])⟩
      | goto l' =>
        rcases hq with ⟨rfl, m, hm, hJ'⟩ | ⟨rfl, hK⟩
        · obtain ⟨e₂, a₂, w₂, hq₂, harr₂⟩ := ih m hm a₁ w₁ hJ'
          exact ⟨e₂, a₂, w₂, hq₂, .of_steps (harr _ hg0) harr₂⟩
        · obtain ⟨e₂, a₂, w₂, hq₂, harr₂⟩ := keyK a₁ w₁ hK
          exact ⟨e₂, a₂, w₂, hq₂, .of_steps (harr _ hg1) harr₂⟩
      | ret => exact ⟨_, a₁, w₁, hq, harr⟩
      | panic ch => exact ⟨_, a₁, w₁, hq, harr⟩
      | outgrown => exact ⟨_, a₁, w₁, hq, harr⟩
  have first' := first (fun n a w hJ => Code.wp_mono (fun e a w h => by
    cases e with
    | goto l' => exact h.imp (fun ⟨h1, m, _, h2⟩ => ⟨h1, m, h2⟩) id
    | _ => exact h) (pass0 n a w hJ))
  obtain ⟨e, a₁, w₁, hq, harr⟩ := first' b (.inScope c :: k) cs
  cases e with
  | normal => exact ⟨.normal, a₁, w₁, hq, .head step_scope (Steps.trans harr (.one step_inScope))⟩
  | exit id => exact ⟨.exit id, a₁, w₁, hq, fun k' hk => .head step_scope (harr k' (by simp [exitTo, hk]))⟩
  | goto l' =>
    rcases hq with ⟨rfl, n, hJ'⟩ | ⟨rfl, hK⟩
    · obtain ⟨e₂, a₂, w₂, hq₂, harr₂⟩ := key n a₁ w₁ hJ'
      exact ⟨e₂, a₂, w₂, hq₂, .of_steps (.head step_scope (harr _ hg0)) harr₂⟩
    · obtain ⟨e₂, a₂, w₂, hq₂, harr₂⟩ := keyK a₁ w₁ hK
      exact ⟨e₂, a₂, w₂, hq₂, .of_steps (.head step_scope (harr _ hg1)) harr₂⟩
  | ret => exact ⟨_, a₁, w₁, hq, .of_steps (.one step_scope) harr⟩
  | panic ch => exact ⟨_, a₁, w₁, hq, .of_steps (.one step_scope) harr⟩
  | outgrown => exact ⟨_, a₁, w₁, hq, .of_steps (.one step_scope) harr⟩

theorem wp_scope_two {P : Program} {a : Act} {w : World} {Q : Exit → Act → World → Prop} {c r0 r1 : Code} (J : Nat → Act → World → Prop) (K : Act → World → Prop) (hf0 : findLabel c 0 = some (Code.skip.seq r0)) (hf1 : findLabel c 1 = some (Code.skip.seq r1))
    (first : (∀ n a w, J n a w → r0.wp P (jump2 (fun a' w' => ∃ m, J m a' w') K Q) a w) → c.wp P (jump2 (fun a' w' => ∃ m, J m a' w') K Q) a w)
    (pass0 : ∀ n a w, J n a w → r0.wp P (jump2 (fun a' w' => ∃ m, m < n ∧ J m a' w') K Q) a w)
    (pass1 : ∀ a w, K a w → r1.wp P (jump2 (fun _ _ => False) (fun _ _ => False) Q) a w) : (Code.scope c).wp P Q a w :=
  wp_scope_two0 J K hf0 hf1
    (fun _ => first fun n a w hJ => Code.wp_mono (fun e a w h => by
      cases e with
      | goto l' => exact h.imp (fun ⟨h1, m, _, h2⟩ => ⟨h1, m, h2⟩) id
      | _ => exact h) (pass0 n a w hJ))
    (fun n a w hJ => wp_seq (wp_skip (pass0 n a w hJ)))
    (fun a w hK => wp_seq (wp_skip (pass1 a w hK)))

/-- registers, slots, what was put out -/
structure St where
  r : Nat → Int
  s : Nat → Int
  e : List Int
def st0 : St := ⟨fun _ => 0, fun _ => 0, []⟩
/-- what an instruction does -/
def step1 (L : List Int) (x : Ins) (σ : St) : St :=
  if x.1 = 1 then { σ with r := upd σ.r x.2.1.toNat (L.getD x.2.2.toNat 0) }
  else if x.1 = 13 then { σ with r := upd σ.r x.2.1.toNat (σ.s x.2.2.toNat) }
  else if x.1 = 14 then { σ with s := upd σ.s x.2.2.toNat (σ.r x.2.1.toNat) }
  else { σ with e := σ.e ++ [σ.r x.2.1.toNat] }
def exec (L : List Int) (l : List Ins) (σ : St) : St := l.foldl (fun σ x => step1 L x σ) σ
theorem exec_take (L : List Int) (l : List Ins) (i : Nat) (hi : i < l.length) (σ : St) : exec L (l.take (i + 1)) σ = step1 L l[i] (exec L (l.take i) σ) := by
  unfold exec
  rw [List.take_succ_eq_append_getElem hi, List.foldl_append]
  rfl
theorem exec_len (L : List Int) : ∀ (l : List Ins) (σ : St), (exec L l σ).e.length ≤ σ.e.length + l.length
  | [], σ => by simp [exec]
  | x :: l, σ => by
    have h := exec_len L l (step1 L x σ)
    have h2 : (step1 L x σ).e.length ≤ σ.e.length + 1 := by
      unfold step1
      split
      · simp
      · split
        · simp
        · split <;> simp
    show (exec L l (step1 L x σ)).e.length ≤ _
    simp only [List.length_cons]
    omega

end Go.Proofs.YtplnnlnkcfappaaGreat.Rs
