/- Slices that read as lists: of elements of any fixed number of cells. Plain words and laws. -/
import Derived.Test.YtplnnlnkcfappaaProg
import Derived.WalkKit
import Derived.Lib.Hide
import Derived.Maps.AppendAt
namespace Go.Proofs.Ytplnnlnkcfappaa.Oa
open Go.RowKit
set_option linter.unusedSimpArgs false
set_option linter.unusedVariables false

variable {α : Type}

/-- the cells of a list's elements, one behind the other -/
def flat (cells : α → List Value) : List α → List Value
  | [] => []
  | x :: l => cells x ++ flat cells l

theorem flat_append (cells : α → List Value) (l r : List α) : flat cells (l ++ r) = flat cells l ++ flat cells r := by
  induction l with
  | nil => rfl
  | cons x l ih => simp [flat, ih]

theorem flat_length (cells : α → List Value) (sz : Nat) (hc : ∀ x, (cells x).length = sz) (l : List α) : (flat cells l).length = l.length * sz := by
  induction l with
  | nil => simp [flat]
  | cons x l ih => simp [flat, ih, hc, Nat.add_mul, Nat.add_comm]

theorem flat_get (cells : α → List Value) (sz : Nat) (hc : ∀ x, (cells x).length = sz) : ∀ (l : List α) (i : Nat) (h : i < l.length) (j : Nat), j < sz → (flat cells l)[i * sz + j]? = (cells l[i])[j]? := by
  intro l
  induction l with
  | nil => intro i h; simp at h
  | cons x l ih =>
    intro i h j hj
    cases i with
    | zero =>
      simp only [flat, Nat.zero_mul, Nat.zero_add, List.getElem_cons_zero]
      rw [List.getElem?_append_left (by rw [hc]; exact hj)]
    | succ i =>
      simp only [flat, List.getElem_cons_succ]
      rw [List.getElem?_append_right (by rw [hc, Nat.add_mul]; omega), hc, show (i + 1) * sz + j - sz = i * sz + j from by rw [Nat.add_mul]; omega]
      exact ih i (by simpa using h) j hj

/-- In world w the value v is a slice that reads as the list l. -/
def Sl (cells : α → List Value) (sz : Nat) (w : World) (v : Value) (l : List α) : Prop :=
  (∃ a cap, v = .slice a 0 cap ∧ l = []) ∨
  ∃ b off cap, v = .slice (some ⟨b, off, none⟩) l.length cap ∧ l.length ≤ cap ∧ b < w.heap.size ∧ ∀ (i : Nat) (h : i < l.length) (j : Nat) (u : Value), (cells l[i])[j]? = some u → w.cell? ⟨b, off + (i * sz + j), none⟩ = some u

theorem Sl.nil (cells : α → List Value) (sz : Nat) (w : World) : Sl cells sz w (.slice none 0 0) [] := .inl ⟨_, _, rfl, rfl⟩

theorem Sl.below {cells : α → List Value} {sz : Nat} {w w' : World} {v : Value} {l : List α} (h : Sl cells sz w v l) (hb : Below w.heap.size w w') : Sl cells sz w' v l := by
  rcases h with h | ⟨b, off, cap, hv, hcap, hlt, hc⟩
  · exact .inl h
  · refine .inr ⟨b, off, cap, hv, hcap, Nat.lt_of_lt_of_le hlt hb.size, fun i hi j u hu => ?_⟩
    rw [hb.cell (p := ⟨b, off + (i * sz + j), none⟩) hlt]
    exact hc i hi j u hu

theorem Sl.below' {cells : α → List Value} {sz B : Nat} {w w' : World} {v : Value} {l : List α} (h : Sl cells sz w v l) (hb : Below B w w') (hB : w.heap.size ≤ B) : Sl cells sz w' v l := h.below (hb.mono hB)

/-- its form -/
theorem Sl.form {cells : α → List Value} {sz : Nat} {w : World} {v : Value} {l : List α} (h : Sl cells sz w v l) : ∃ a cap, v = .slice a l.length cap := by
  rcases h with ⟨_, _, rfl, rfl⟩ | ⟨b, off, cap, rfl, _⟩
  · exact ⟨_, _, rfl⟩
  · exact ⟨_, _, rfl⟩

/-- an element's place -/
theorem Sl.at {cells : α → List Value} {sz : Nat} {w : World} {v : Value} {l : List α} (h : Sl cells sz w v l) (hne : l ≠ []) :
    ∃ b off cap, v = .slice (some ⟨b, off, none⟩) l.length cap ∧ l.length ≤ cap ∧ b < w.heap.size ∧ ∀ (i : Nat) (h : i < l.length) (j : Nat) (u : Value), (cells l[i])[j]? = some u → w.cell? ⟨b, off + (i * sz + j), none⟩ = some u := by
  rcases h with ⟨_, _, _, rfl⟩ | h
  · exact (hne rfl).elim
  · exact h

/-- a row of the call's own reads as a list -/
theorem Sl.ofOwns {cells : α → List Value} {sz base : Nat} {e : TypeId} {w : World} {v : Value} {l : List α} (hc : ∀ x, (cells x).length = sz) (h : w.ownsRow base e sz v l.length (flat cells l)) : Sl cells sz w v l := by
  obtain ⟨hl, h | ⟨g, cap, cur, hv, hg, hh, hn, hm, hs, ht⟩⟩ := h
  · left
    exact ⟨_, _, h.1, List.length_eq_zero_iff.mp h.2⟩
  · right
    have hlt : g < w.heap.size := by
      rcases Nat.lt_or_ge g w.heap.size with hq | hq
      · exact hq
      · rw [Array.getElem?_eq_none hq] at hh; cases hh
    refine ⟨g, 0, cap, hv, hn, hlt, fun i hi j u hu => ?_⟩
    have hj : j < sz := by
      have := List.getElem?_eq_some_iff.1 hu
      obtain ⟨h1, _⟩ := this
      rw [hc] at h1; exact h1
    have h2 := flat_get cells sz hc l i hi j hj
    rw [hu, ← ht, List.getElem?_take_of_lt (by
      have : (i + 1) * sz ≤ l.length * sz := Nat.mul_le_mul_right _ hi
      rw [Nat.add_mul] at this; omega)] at h2
    simp only [World.cell?, hh, Nat.zero_add]
    simpa using h2

end Go.Proofs.Ytplnnlnkcfappaa.Oa
