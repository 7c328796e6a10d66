/- A small evaluator of the model's code over words of its own: the words, the memory, the steps. Nothing of this project's program stands in it. (Part 1: what it computes. That it tells what the calls do: Vb, Vc, ..) -/
import Derived.WalkKit
import Derived.Below
namespace Go.Proofs.Yteaaahcgkodcdaa.Ev
open Go Go.RowKit

/-! ### Tries -/
inductive Tr (α : Type) where
  | leaf
  | node (v : Option α) (l r : Tr α)

namespace Tr
variable {α : Type}

noncomputable def get (t : Tr α) : Nat → Option α :=
  Tr.rec (motive := fun _ => Nat → Option α) (fun _ => none)
    (fun v _ _ gl gr k => Nat.rec (motive := fun _ => Option α) v (fun j _ => Nat.rec (motive := fun _ => Option α) (gl (Nat.div j 2)) (fun _ _ => gr (Nat.div j 2)) (Nat.mod j 2)) k) t

theorem get_leaf (k : Nat) : (leaf : Tr α).get k = none := rfl
theorem get_zero (v : Option α) (l r : Tr α) : (node v l r).get 0 = v := rfl
theorem get_succ (v : Option α) (l r : Tr α) (j : Nat) : (node v l r).get (j + 1) = if j % 2 = 0 then l.get (j / 2) else r.get (j / 2) := by
  show Nat.rec (motive := fun _ => Option α) (l.get (j / 2)) (fun _ _ => r.get (j / 2)) (j % 2) = _
  cases h : j % 2 with
  | zero => rw [if_pos rfl]; rfl
  | succ k => rw [if_neg (by omega)]

noncomputable def wrapL (v : Option α) (r : Tr α) (o : Option (Tr α)) : Option (Tr α) := Option.rec (motive := fun _ => Option (Tr α)) none (fun l => some (.node v l r)) o
noncomputable def wrapR (v : Option α) (l : Tr α) (o : Option (Tr α)) : Option (Tr α) := Option.rec (motive := fun _ => Option (Tr α)) none (fun r => some (.node v l r)) o

noncomputable def setNode (x : Option α) (ih : Tr α → Nat → Option (Tr α)) (v : Option α) (l r : Tr α) (k : Nat) : Option (Tr α) :=
  Nat.rec (motive := fun _ => Option (Tr α)) (some (.node x l r)) (fun j _ => Nat.rec (motive := fun _ => Option (Tr α)) (wrapL v r (ih l (Nat.div j 2))) (fun _ _ => wrapR v l (ih r (Nat.div j 2))) (Nat.mod j 2)) k

/-- sets, or (none) erases -/
noncomputable def set (x : Option α) (f : Nat) : Tr α → Nat → Option (Tr α) :=
  Nat.rec (motive := fun _ => Tr α → Nat → Option (Tr α)) (fun _ _ => none)
    (fun _ ih t => Tr.rec (motive := fun _ => Nat → Option (Tr α)) (setNode x ih none .leaf .leaf) (fun v l r _ _ => setNode x ih v l r) t) f

def parts : Tr α → Option α × Tr α × Tr α
  | .leaf => (none, .leaf, .leaf)
  | .node v l r => (v, l, r)

theorem set_succ (x : Option α) (f : Nat) (t : Tr α) (k : Nat) : set x (f + 1) t k = setNode x (set x f) t.parts.1 t.parts.2.1 t.parts.2.2 k := by
  cases t <;> rfl

theorem set_succ_zero (x : Option α) (f : Nat) (t : Tr α) : set x (f + 1) t 0 = some (.node x t.parts.2.1 t.parts.2.2) := by
  cases t <;> rfl

theorem set_succ_succ (x : Option α) (f : Nat) (t : Tr α) (j : Nat) : set x (f + 1) t (j + 1) =
    if j % 2 = 0 then wrapL t.parts.1 t.parts.2.2 (set x f t.parts.2.1 (j / 2)) else wrapR t.parts.1 t.parts.2.1 (set x f t.parts.2.2 (j / 2)) := by
  rw [set_succ]
  show Nat.rec (motive := fun _ => Option (Tr α)) (wrapL _ _ (set x f _ (j / 2))) (fun _ _ => wrapR _ _ (set x f _ (j / 2))) (j % 2) = _
  cases h : j % 2 with
  | zero => rw [if_pos rfl]; rfl
  | succ k => rw [if_neg (by omega)]

theorem wrapL_some {v : Option α} {r t' : Tr α} {o : Option (Tr α)} (h : wrapL v r o = some t') : ∃ l, o = some l ∧ t' = .node v l r := by
  cases o with
  | none => cases h
  | some l => exact ⟨l, rfl, (Option.some.inj h).symm⟩
theorem wrapR_some {v : Option α} {l t' : Tr α} {o : Option (Tr α)} (h : wrapR v l o = some t') : ∃ r, o = some r ∧ t' = .node v l r := by
  cases o with
  | none => cases h
  | some r => exact ⟨r, rfl, (Option.some.inj h).symm⟩

theorem get_parts_zero (t : Tr α) : t.get 0 = t.parts.1 := by cases t <;> rfl
theorem get_parts_succ (t : Tr α) (j : Nat) : t.get (j + 1) = if j % 2 = 0 then t.parts.2.1.get (j / 2) else t.parts.2.2.get (j / 2) := by
  cases t with
  | leaf => simp [parts, get_leaf]
  | node v l r => rw [get_succ]; rfl

theorem get_set_same (x : Option α) : ∀ (f : Nat) (t t' : Tr α) (k : Nat), set x f t k = some t' → t'.get k = x := by
  intro f
  induction f with
  | zero => intro t t' k h; cases h
  | succ f ih =>
    intro t t' k h
    cases k with
    | zero =>
      rw [set_succ_zero] at h
      obtain rfl := Option.some.inj h
      rfl
    | succ j =>
      rw [set_succ_succ] at h
      split at h
      · rename_i hj
        obtain ⟨l, hl, rfl⟩ := wrapL_some h
        rw [get_succ, if_pos hj]
        exact ih _ _ _ hl
      · rename_i hj
        obtain ⟨l, hl, rfl⟩ := wrapR_some h
        rw [get_succ, if_neg hj]
        exact ih _ _ _ hl

theorem get_set_other (x : Option α) : ∀ (f : Nat) (t t' : Tr α) (k j : Nat), set x f t k = some t' → j ≠ k → t'.get j = t.get j := by
  intro f
  induction f with
  | zero => intro t t' k j h; cases h
  | succ f ih =>
    intro t t' k i h hne
    cases k with
    | zero =>
      rw [set_succ_zero] at h
      obtain rfl := Option.some.inj h
      cases i with
      | zero => exact absurd rfl hne
      | succ i => rw [get_succ, get_parts_succ]
    | succ j =>
      rw [set_succ_succ] at h
      split at h
      · rename_i hj
        obtain ⟨l, hl, rfl⟩ := wrapL_some h
        cases i with
        | zero => rw [get_zero, get_parts_zero]
        | succ i =>
          rw [get_succ, get_parts_succ]
          split
          · exact ih _ _ _ _ hl (by omega)
          · rfl
      · rename_i hj
        obtain ⟨l, hl, rfl⟩ := wrapR_some h
        cases i with
        | zero => rw [get_zero, get_parts_zero]
        | succ i =>
          rw [get_succ, get_parts_succ]
          split
          · rfl
          · exact ih _ _ _ _ hl (by omega)

end Tr

/-! ### Values -/
inductive AV where
  | raw (v : Value)
  | ptr (b off : Nat)
  | sl (b off len sz : Nat)
  | agg (l : List AV)
  | tup (l : List AV)
  | fn (f : FuncId) (cap : List AV)

/-- where the abstract blocks lie: the block's number, its cells -/
abbrev Env := Nat → Option (Nat × Nat)

mutual
def den (F : Env) : AV → Option Value
  | .raw v => some v
  | .ptr b off => (F b).map fun x => .pointer (some ⟨x.1, off, none⟩)
  | .sl b off len sz => (F b).map fun x => .slice (some ⟨x.1, off, none⟩) len ((x.2 - off) / sz)
  | .agg l => (dens F l).map fun vs => .agg vs.toArray
  | .tup l => (dens F l).map fun vs => .tuple vs.toArray
  | .fn f l => (dens F l).map fun vs => .func (.func f) #[] vs.toArray
def dens (F : Env) : List AV → Option (List Value)
  | [] => some []
  | x :: l => match den F x, dens F l with
    | some v, some vs => some (v :: vs)
    | _, _ => none
end

def Ext (F F' : Env) : Prop := ∀ b x, F b = some x → F' b = some x

theorem Ext.refl (F : Env) : Ext F F := fun _ _ h => h
theorem Ext.trans {F G K : Env} (h : Ext F G) (k : Ext G K) : Ext F K := fun b x e => k b x (h b x e)

mutual
theorem den_ext {F F' : Env} (h : Ext F F') : ∀ (x : AV) (v : Value), den F x = some v → den F' x = some v
  | .raw _, _, e => by simpa [den] using e
  | .ptr b off, v, e => by
    simp only [den, Option.map_eq_some_iff] at e ⊢
    obtain ⟨x, hx, rfl⟩ := e
    exact ⟨x, h _ _ hx, rfl⟩
  | .sl b off len sz, v, e => by
    simp only [den, Option.map_eq_some_iff] at e ⊢
    obtain ⟨x, hx, rfl⟩ := e
    exact ⟨x, h _ _ hx, rfl⟩
  | .agg l, v, e => by
    simp only [den, Option.map_eq_some_iff] at e ⊢
    obtain ⟨x, hx, rfl⟩ := e
    exact ⟨x, dens_ext h l x hx, rfl⟩
  | .tup l, v, e => by
    simp only [den, Option.map_eq_some_iff] at e ⊢
    obtain ⟨x, hx, rfl⟩ := e
    exact ⟨x, dens_ext h l x hx, rfl⟩
  | .fn f l, v, e => by
    simp only [den, Option.map_eq_some_iff] at e ⊢
    obtain ⟨x, hx, rfl⟩ := e
    exact ⟨x, dens_ext h l x hx, rfl⟩
theorem dens_ext {F F' : Env} (h : Ext F F') : ∀ (l : List AV) (vs : List Value), dens F l = some vs → dens F' l = some vs
  | [], vs, e => by simpa [dens] using e
  | x :: l, vs, e => by
    simp only [dens] at e ⊢
    cases h1 : den F x with
    | none => rw [h1] at e; simp at e
    | some v =>
      cases h2 : dens F l with
      | none => rw [h1, h2] at e; simp at e
      | some us =>
        rw [h1, h2] at e
        rw [den_ext h x v h1, dens_ext h l us h2]
        exact e
end

end Go.Proofs.Yteaaahcgkodcdaa.Ev
