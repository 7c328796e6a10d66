/- RvmSlots: rows that read as lists. Plain words and laws. -/
import Derived.Test.YtplnnlnkcfappaaGreatYa
import Derived.Test.YtplnnlnkcfappaaGreatXw
import Derived.Lib.Hide
import Derived.Maps.AppendAt
import Derived.WalkLawsBesides
namespace Go.Proofs.YtplnnlnkcfappaaGreat.Rs
open Go.RowKit
set_option linter.unusedSimpArgs false
set_option linter.unusedVariables false

variable {α β : Type}

/-- the cells of a list's elements, one behind the other -/
def flat (cells : α → List β) : List α → List β
  | [] => []
  | x :: l => cells x ++ flat cells l

theorem flat_append (cells : α → List β) (l r : List α) : flat cells (l ++ r) = flat cells l ++ flat cells r := by
  induction l with
  | nil => rfl
  | cons x l ih => simp [flat, ih]

theorem flat_length (cells : α → List β) (sz : Nat) (hc : ∀ x, (cells x).length = sz) (l : List α) : (flat cells l).length = l.length * sz := by
  induction l with
  | nil => simp [flat]
  | cons x l ih => simp [flat, ih, hc, Nat.add_mul, Nat.add_comm]

theorem flat_get (cells : α → List β) (sz : Nat) (hc : ∀ x, (cells x).length = sz) : ∀ (l : List α) (i : Nat) (h : i < l.length) (j : Nat), j < sz → (flat cells l)[i * sz + j]? = (cells l[i])[j]? := by
  intro l
  induction l with
  | nil => intro i h; simp at h
  | cons x l ih =>
    intro i h j hj
    cases i with
    | zero =>
      simp only [flat, Nat.zero_mul, Nat.zero_add, List.getElem_cons_zero]
      rw [List.getElem?_append_left (by rw [hc]; exact hj)]
    | succ i =>
      simp only [flat, List.getElem_cons_succ]
      rw [List.getElem?_append_right (by rw [hc, Nat.add_mul]; omega), hc, show (i + 1) * sz + j - sz = i * sz + j from by rw [Nat.add_mul]; omega]
      exact ih i (by simpa using h) j hj

/-- in world w the value v is a slice of type e's elements, from its row's beginning on, that reads as the list l -/
def Rw (cells : α → List Value) (sz : Nat) (e : TypeId) (w : World) (v : Value) (l : List α) : Prop :=
  ∃ g cap cs, v = .slice (some ⟨g, 0, none⟩) l.length cap ∧ w.heap[g]? = some (.cells cs e) ∧ cs.size = cap * sz ∧ l.length ≤ cap ∧ cap ≤ maxLen ∧ cs.toList.take (l.length * sz) = flat cells l

theorem Rw.below {cells : α → List Value} {sz : Nat} {e : TypeId} {w w' : World} {v : Value} {l : List α} (h : Rw cells sz e w v l) (hb : Below w.heap.size w w') : Rw cells sz e w' v l := by
  obtain ⟨g, cap, cs, hv, hg, r⟩ := h
  exact ⟨g, cap, cs, hv, (hb.block g (Array.getElem?_eq_some_iff.1 hg).1).trans hg, r⟩
theorem Rw.ofOwns {cells : α → List Value} {sz base : Nat} {e : TypeId} {w : World} {v : Value} {l : List α} (hne : l ≠ []) (h : w.ownsRow base e sz v l.length (flat cells l)) : Rw cells sz e w v l ∧ ∀ g, v = .slice (some ⟨g, 0, none⟩) l.length (match v with | .slice _ _ c => c | _ => 0) → base ≤ g := by
  obtain ⟨hl, h | ⟨g, cap, cur, hv, hg, hh, hn, hm, hs, ht⟩⟩ := h
  · exact (hne (List.length_eq_zero_iff.1 h.2)).elim
  · refine ⟨⟨g, cap, cur, hv, hh, hs, hn, hm, ht⟩, fun g' e => ?_⟩
    subst hv
    injection e with e
    injection e with e
    injection e with e
    omega
/-- an element's cells -/
theorem Rw.cell {cells : α → List Value} {sz : Nat} {e : TypeId} {w : World} {v : Value} {l : List α} (hc : ∀ x, (cells x).length = sz) (h : Rw cells sz e w v l) :
    ∃ g cap, v = .slice (some ⟨g, 0, none⟩) l.length cap ∧ l.length ≤ cap ∧ g < w.heap.size ∧ ∀ (i : Nat) (hi : i < l.length) (j : Nat) (u : Value), (cells l[i])[j]? = some u → w.cell? ⟨g, i * sz + j, none⟩ = some u := by
  obtain ⟨g, cap, cs, hv, hg, hs, hcap, hm, ht⟩ := h
  refine ⟨g, cap, hv, hcap, (Array.getElem?_eq_some_iff.1 hg).1, fun i hi j u hu => ?_⟩
  have hj : j < sz := by
    have := (List.getElem?_eq_some_iff.1 hu).1
    rwa [hc] at this
  have h2 := flat_get cells sz hc l i hi j hj
  rw [hu, ← ht, List.getElem?_take_of_lt (by
    have : (i + 1) * sz ≤ l.length * sz := Nat.mul_le_mul_right _ hi
    rw [Nat.add_mul] at this; omega)] at h2
  simp only [World.cell?, hg]
  simpa using h2

/-- an instruction: what it does, its first two numbers -/
abbrev Ins := Int × Int × Int
def ic (x : Ins) : List Value := [.int .i64 x.1, .int .i64 x.2.1, .int .i64 x.2.2, .int .i64 0, .int .i64 0]
theorem ic_len (x : Ins) : (ic x).length = 5 := rfl
def opOk (x : Ins) : Prop := x.1 = 1 ∨ x.1 = 8 ∨ x.1 = 13 ∨ x.1 = 14
def last : Ins := (16, 0, 0)

end Go.Proofs.YtplnnlnkcfappaaGreat.Rs
