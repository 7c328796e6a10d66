/- RvmSlots: the machine runs. -/
import Derived.Test.YtplnnlnkcfappaaGreatRo
namespace Go.Proofs.YtplnnlnkcfappaaGreat.Rs
open Go Go.RowKit
set_option linter.unusedSimpArgs false
set_option linter.unusedVariables false

/-- five cells that may be written -/
def Room (w : World) (b n : Nat) : Prop := (∀ j, j < n → ∃ z, w.cell? ⟨b, j, none⟩ = some z) ∧ ∀ j, j < n → w.frozen? ⟨b, j, none⟩ = false
theorem Room.fx {S : Nat → Prop} {w w' : World} {b n : Nat} (h : Room w b n) (hx : Fx S w w') (hb : b < w.heap.size) (hn : ¬ S b) : Room w' b n :=
  ⟨fun j hj => by obtain ⟨z, hz⟩ := h.1 j hj; exact ⟨z, (hx.cell hb hn _).trans hz⟩, fun j hj => (hx.frozen hb hn _).trans (h.2 j hj)⟩
theorem Room.set {w : World} {b n : Nat} (h : Room w b n) (j : Nat) (hj : j < n) (u : Value) : Room (w.setCell ⟨b, j, none⟩ u) b n := by
  refine ⟨fun k hk => ?_, fun k hk => ?_⟩
  · obtain ⟨z, hz⟩ := h.1 k hk
    by_cases hjk : j = k
    · subst hjk
      exact ⟨u, by simp [go_sem, hz]⟩
    · exact ⟨z, by simp [go_sem, hz, hjk]⟩
  · have := h.2 k hk
    simp [go_sem, this]

/-- the blocks that the run has, in their order -/
structure Lay (n0 pb rt tb rb sb cb cr ib vb B : Nat) : Prop where
  a : n0 ≤ pb ∧ pb < rt ∧ rt < tb ∧ tb < rb ∧ tb < sb ∧ rb ≠ sb
  b : rb < cb ∧ sb < cb ∧ cb < cr ∧ cr < ib ∧ ib < vb ∧ vb < B

/-- the machine ahead of instruction i -/
structure Mch (w0 : World) (K V : Value) (pb rt tb rb sb cb cr ib vb B i : Nat) (σ : St) (w : World) : Prop where
  lay : Lay w0.heap.size pb rt tb rb sb cb cr ib vb B
  size : B ≤ w.heap.size
  below : Below w0.heap.size w0 w
  call : Cb w cb rb sb i K V
  regs : Vats w rb 9 σ.r
  slots : Vats w sb 5 σ.s
  tank : Tk w tb B (99 - (σ.e.length : Int)) σ.e
  row : w.cell? ⟨cr, 0, none⟩ = some (.pointer (some ⟨cb, 0, none⟩))
  ins : Room w ib 5
  val : Room w vb 5
  res : Room w rt 7

def acts (u : Nat → Value) : Act := ⟨((List.range 127).map u).toArray, []⟩
set_option maxRecDepth 100000 in
theorem acts_eq (u : Nat → Value) : acts u = ⟨#[u 0, u 1, u 2, u 3, u 4, u 5, u 6, u 7, u 8, u 9, u 10, u 11, u 12, u 13, u 14, u 15, u 16, u 17, u 18, u 19, u 20, u 21, u 22, u 23, u 24, u 25, u 26, u 27, u 28, u 29, u 30, u 31, u 32, u 33, u 34, u 35, u 36, u 37, u 38, u 39, u 40, u 41, u 42, u 43, u 44, u 45, u 46, u 47, u 48, u 49, u 50, u 51, u 52, u 53, u 54, u 55, u 56, u 57, u 58, u 59, u 60, u 61, u 62, u 63, u 64, u 65, u 66, u 67, u 68, u 69, u 70, u 71, u 72, u 73, u 74, u 75, u 76, u 77, u 78, u 79, u 80, u 81, u 82, u 83, u 84, u 85, u 86, u 87, u 88, u 89, u 90, u 91, u 92, u 93, u 94, u 95, u 96, u 97, u 98, u 99, u 100, u 101, u 102, u 103, u 104, u 105, u 106, u 107, u 108, u 109, u 110, u 111, u 112, u 113, u 114, u 115, u 116, u 117, u 118, u 119, u 120, u 121, u 122, u 123, u 124, u 125, u 126], []⟩ := rfl
theorem acts_of {A : Array Value} (h : A.size = 127) : (⟨A, []⟩ : Act) = acts (fun i => A.getD i undef) := by
  unfold acts
  congr 1
  refine Array.ext (by simp [h]) fun i h1 h2 => ?_
  simp [Array.getD_eq_getD_getElem?, h1]

/-- what holds at the label ahead of instruction i -/
def Next (w0 : World) (K V : Value) (L : List Int) (l : List Ins) (n : Nat) (a : Act) (w : World) : Prop :=
  ∃ (u : Nat → Value) (pb rt tb rb sb cb cr ib vb B i : Nat), a = acts u ∧ u 4 = .pointer (some ⟨rt, 0, none⟩) ∧ u 5 = .int .i64 0 ∧ u 7 = .pointer (some ⟨tb, 0, none⟩) ∧ u 8 = .slice (some ⟨cr, 0, none⟩) 1 1 ∧ u 10 = .pointer (some ⟨ib, 0, none⟩) ∧ u 11 = .pointer (some ⟨vb, 0, none⟩) ∧
    i + n = l.length ∧ Mch w0 K V pb rt tb rb sb cb cr ib vb B i (exec L (l.take i) st0) w
/-- and behind the last -/
def Back (w0 : World) (K V : Value) (L : List Int) (l : List Ins) (a : Act) (w : World) : Prop :=
  ∃ (u : Nat → Value) (pb rt tb rb sb cb cr ib vb B i : Nat), a = acts u ∧ u 4 = .pointer (some ⟨rt, 0, none⟩) ∧ u 5 = .int .i64 0 ∧ u 7 = .pointer (some ⟨tb, 0, none⟩) ∧ u 8 = .slice (some ⟨cr, 0, none⟩) 1 1 ∧ u 11 = .pointer (some ⟨vb, 0, none⟩) ∧
    Mch w0 K V pb rt tb rb sb cb cr ib vb B i (exec L l st0) w ∧ Rv w vb 0 0

/-- which instruction stands there -/
theorem kinds {kn : Nat} {l : List Ins} {i : Nat} {x : Ins} (hok : ∀ x ∈ l, insOk kn x) (hnl : ∀ x ∈ l, x.1 ≠ 16) (hx : (l ++ [last])[i]? = some x) :
    (l[i]? = some x ∧ i < l.length ∧ ((∃ r s : Nat, r < 9 ∧ s < kn ∧ x = (1, (r : Int), (s : Int))) ∨ (∃ r s : Nat, r < 9 ∧ s < 5 ∧ x = (13, (r : Int), (s : Int))) ∨ (∃ r s : Nat, r < 9 ∧ s < 5 ∧ x = (14, (r : Int), (s : Int))) ∨ (∃ r : Nat, r < 9 ∧ x = (8, (r : Int), 0)))) ∨ (i = l.length ∧ x = (16, 0, 0)) := by
  have hi := (List.getElem?_eq_some_iff.1 hx).1
  simp only [List.length_append, List.length_singleton] at hi
  by_cases hil : i < l.length
  · left
    rw [List.getElem?_append_left hil] at hx
    have hm := List.mem_of_getElem? hx
    obtain ⟨o, a, b⟩ := x
    refine ⟨hx, hil, ?_⟩
    have ho := hok _ hm
    have hn := hnl _ hm
    unfold insOk at ho
    simp only at ho hn
    rcases ho with ⟨h1, h2, h3, h4, h5⟩ | ⟨h1, h2, h3, h4, h5⟩ | ⟨h1, h2, h3, h4, h5⟩ | ⟨h1, h2, h3, h4⟩ | ⟨h1, h2⟩
    · obtain ⟨r, rfl⟩ := Int.eq_ofNat_of_zero_le h2
      obtain ⟨s, rfl⟩ := Int.eq_ofNat_of_zero_le h4
      exact .inl ⟨r, s, by omega, by omega, by rw [h1]⟩
    · obtain ⟨r, rfl⟩ := Int.eq_ofNat_of_zero_le h2
      obtain ⟨s, rfl⟩ := Int.eq_ofNat_of_zero_le h4
      exact .inr (.inl ⟨r, s, by omega, by omega, by rw [h1]⟩)
    · obtain ⟨r, rfl⟩ := Int.eq_ofNat_of_zero_le h2
      obtain ⟨s, rfl⟩ := Int.eq_ofNat_of_zero_le h4
      exact .inr (.inr (.inl ⟨r, s, by omega, by omega, by rw [h1]⟩))
    · obtain ⟨r, rfl⟩ := Int.eq_ofNat_of_zero_le h2
      exact .inr (.inr (.inr ⟨r, by omega, by rw [h1, h4]⟩))
    · exact absurd (congrArg (·.1) h1) hn
  · right
    have : i = l.length := by omega
    subst this
    rw [List.getElem?_append_right (Nat.le_refl _)] at hx
    simp only [Nat.sub_self, List.getElem?_cons_zero, Option.some.injEq] at hx
    exact ⟨rfl, hx.symm⟩

end Go.Proofs.YtplnnlnkcfappaaGreat.Rs
