/- The second evaluator tells the truth, part 8: the law of regions that draw their order and touch the memory. -/
import Derived.Test.YtplnnlnkcfappaaGreatQi
import Derived.OrdersHeld
namespace Go.Proofs.YtplnnlnkcfappaaGreat.E3
open Go Go.RowKit
set_option linter.unusedSimpArgs false
set_option linter.unusedVariables false

variable {P : Program} {ops : Array Oper} {Q : Exit → Act → World → Prop}

/-- one operation waits for another -/
inductive Dep (ops : Array Oper) : Nat → Nat → Prop where
  | edge {i j : Nat} {o : Oper} {e : Edge} (hj : ops[j]? = some o) (he : e ∈ o.after) (hb : Region.binds .any e = true) (hi : e.on = i) : Dep ops i j
  | trans {i j k : Nat} {o : Oper} {e : Edge} (hj : ops[j]? = some o) (he : e ∈ o.after) (hb : Region.binds .any e = true) (hk : e.on = k) (h : Dep ops i k) : Dep ops i j

/-- what has come up waited for nothing that has not -/
def Shut (ops : Array Oper) (listed : Array Bool) : Prop := listed.size = ops.size ∧ ∀ k o, ops[k]? = some o → listed.getD k true = true → ∀ e ∈ o.after, Region.binds .any e = true → listed.getD e.on false = true

theorem Dep.some {i j : Nat} (h : Dep ops i j) : ∃ o, ops[j]? = some o := by
  cases h with
  | edge hj => exact ⟨_, hj⟩
  | trans hj => exact ⟨_, hj⟩

theorem dep_listed {listed : Array Bool} (hs : Shut ops listed) {i j : Nat} (h : Dep ops i j) : ∀ {o : Oper}, ops[j]? = some o → (∀ e ∈ o.after, Region.binds .any e = true → listed.getD e.on false = true) → listed.getD i false = true := by
  induction h with
  | edge hj he hb hi =>
    intro o' ho hall
    rw [hj] at ho
    obtain rfl := Option.some.inj ho
    rw [← hi]
    exact hall _ he hb
  | @trans j k o e hj he hb hk h ih =>
    intro o' ho hall
    rw [hj] at ho
    obtain rfl := Option.some.inj ho
    have hl := hall _ he hb
    rw [hk] at hl
    obtain ⟨ok, hok⟩ := h.some
    refine ih hok (hs.2 k ok hok ?_)
    rw [Array.getD_eq_getD_getElem?] at hl ⊢
    cases hg : listed[k]? with
    | none => rw [hg] at hl; cases hl
    | some b => rw [hg] at hl; simpa using hl

theorem Shut.set {listed : Array Bool} {i : Nat} (hs : Shut ops listed) (hr : i ∈ Region.ready .any ops listed) : Shut ops (listed.setIfInBounds i true) := by
  obtain ⟨h0, o, ho, hall⟩ := mem_ready.1 hr
  refine ⟨by simpa using hs.1, fun k ok hok hk e he hb => ?_⟩
  by_cases hki : i = k
  · subst hki
    rw [ho] at hok
    obtain rfl := Option.some.inj hok
    exact getD_set_true (hall e he hb)
  · rw [getD_set_ne true hki] at hk
    exact getD_set_true (hs.2 k ok hok hk e he hb)

theorem Shut.none : Shut ops (Array.replicate ops.size false) := by
  refine ⟨by simp, fun k o hk h => ?_⟩
  have hlt := (Array.getElem?_eq_some_iff.1 hk).1
  simp [hlt] at h

/-- whatever order is picked from here on, and behind each operation its own condition holds -/
def wpAnyS (P : Program) (ops : Array Oper) (Q : Exit → Act → World → Prop) (S : Nat → World → World → Prop) : Nat → Array Bool → Act → World → Prop
  | 0, listed, a, w => Region.ready .any ops listed = [] ∧ Q .normal a w
  | fuel + 1, listed, a, w =>
    (Region.ready .any ops listed = [] → Q .normal a w) ∧
    ∀ i ∈ Region.ready .any ops listed, wpOp P ops Q i (fun a' w' => S i w w' ∧ wpAnyS P ops Q S fuel (listed.setIfInBounds i true) a' w') a w

theorem wpAny_of_S {S : Nat → World → World → Prop} : ∀ (fuel : Nat) (listed : Array Bool) (a : Act) (w : World), wpAnyS P ops Q S fuel listed a w → wpAny P .any ops Q fuel listed a w
  | 0, _, _, _, h => h
  | fuel + 1, _, _, _, h => ⟨h.1, fun i hi => wpOp_mono (fun a' w' h' => wpAny_of_S fuel _ a' w' h'.2) (h.2 i hi)⟩

theorem wpAnyS_done {S : Nat → World → World → Prop} {listed : Array Bool} {a : Act} {w : World} (hr : Region.ready .any ops listed = []) (h : Q .normal a w) : ∀ fuel, wpAnyS P ops Q S fuel listed a w
  | 0 => ⟨hr, h⟩
  | _ + 1 => ⟨fun _ => h, by rw [hr]; simp⟩

theorem wpAnyS_run {S : Nat → World → World → Prop} {i fuel : Nat} {listed : Array Bool} {a : Act} {w : World} (hr : Region.ready .any ops listed = [i])
    (h : wpOp P ops Q i (fun a' w' => S i w w' ∧ wpAnyS P ops Q S fuel (listed.setIfInBounds i true) a' w') a w) : wpAnyS P ops Q S (fuel + 1) listed a w :=
  ⟨fun h0 => (by rw [hr] at h0; cases h0), fun j hj => (by rw [hr] at hj; obtain rfl := List.mem_singleton.1 hj; exact h)⟩

/-- an operation may be taken first, if it yields its value wherever T holds, and T holds behind whatever does not wait for it -/
theorem wpAnyS_first {S : Nat → World → World → Prop} {T : World → Prop} {i : Nat} {oi : Oper} {v : Value} (hi : ops[i]? = some oi) (hsel : ∀ (j : Nat) (o : Oper) cs b, ops[j]? = some o → o.op ≠ .select cs b)
    (hQ : ∀ c a w, Q (.panic c) (a.put oi.dst v) w → Q (.panic c) a w) (hST : ∀ j w w', ¬ Dep ops i j → T w → S j w w' → T w') (hSi : ∀ w, S i w w) :
    ∀ (fuel : Nat) (listed : Array Bool) (a : Act) (w : World), Shut ops listed →
      (∀ j oj, ops[j]? = some oj → j ≠ i → listed.getD j true = false → (∀ e ∈ oj.after, Region.binds .any e = true → e.on ≠ i) → oi.apart ops oj = true) →
      i ∈ Region.ready .any ops listed → YieldsIf P ops T oi v a → T w →
      wpAnyS P ops Q S fuel (listed.setIfInBounds i true) (a.put oi.dst v) w → wpAnyS P ops Q S (fuel + 1) listed a w := by
  intro fuel
  induction fuel with
  | zero =>
    intro listed a w hsh _ hr hy hT H
    refine ⟨fun h => (by rw [h] at hr; cases hr), fun j hj => ?_⟩
    by_cases hji : j = i
    · subst hji; exact hy.wpOp hi hT ⟨hSi w, H⟩
    · have := ready_mono hj hji
      rw [H.1] at this
      cases this
  | succ fuel ih =>
    intro listed a w hsh hfree hr hy hT H
    refine ⟨fun h => (by rw [h] at hr; cases hr), fun j hj => ?_⟩
    by_cases hji : j = i
    · subst hji; exact hy.wpOp hi hT ⟨hSi w, H⟩
    · have h1 := H.2 j (ready_mono hj hji)
      obtain ⟨hjun, oj, hoj, hall⟩ := mem_ready.1 hj
      have hiun := (mem_ready.1 hr).1
      have hifalse : ¬ listed.getD i false = true := by
        intro h1
        rcases Nat.lt_or_ge i listed.size with h' | h'
        · simp [h'] at hiun h1; rw [hiun] at h1; cases h1
        · simp [Array.getElem?_eq_none h'] at h1
      have hnot : ∀ e ∈ oj.after, Region.binds .any e = true → e.on ≠ i := fun e he hb heq => hifalse (by rw [← heq]; exact hall e he hb)
      have hnd : ¬ Dep ops i j := fun hd => hifalse (dep_listed hsh hd hoj hall)
      have h2 := wpOp_putIf hoj (hfree j oj hoj hji hjun hnot) (fun cs b => hsel i oi cs b hi) (fun cs b => hsel j oj cs b hoj) hQ hy h1
      have hfree' : ∀ k ok, ops[k]? = some ok → k ≠ i → (listed.setIfInBounds j true).getD k true = false →
          (∀ e ∈ ok.after, Region.binds .any e = true → e.on ≠ i) → oi.apart ops ok = true := fun k ok hk hki hun hno => by
        refine hfree k ok hk hki ?_ hno
        by_cases hjk : j = k
        · subst hjk; exact hjun
        · rw [getD_set_ne true hjk] at hun; exact hun
      refine wpOp_mono (fun a' w' h3 => ?_) h2
      have hT' := hST j w w' hnd hT h3.2.1
      refine ⟨h3.2.1, ih (listed.setIfInBounds j true) a' w' (hsh.set hj) hfree' (ready_mono hr (Ne.symm hji)) h3.1 hT' ?_⟩
      rw [Array.setIfInBounds_comm _ _ hji]
      exact h3.2.2

end Go.Proofs.YtplnnlnkcfappaaGreat.E3
