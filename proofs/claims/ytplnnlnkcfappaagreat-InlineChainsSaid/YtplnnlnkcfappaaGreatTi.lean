/- The machine with a stack: sums, differences, orders of numbers. -/
import Derived.Test.YtplnnlnkcfappaaGreatTh
namespace Go.Proofs.YtplnnlnkcfappaaGreat.Sv
open Go.RowKit E3
set_option linter.unusedSimpArgs false
set_option linter.unusedVariables false

theorem dec_eq (u v : Nat) : (((u : Int) == (v : Int)) : Bool) = decide (u = v) := by
  rw [Bool.eq_iff_iff]
  simp
  omega
theorem knB_ok {ρ : Syms} {op : BinOp} {u v : Nat} {r : Int} (h8 : ρ.val 8 = .int .i64 u) (h9 : ρ.val 9 = .int .i64 v) (h10 : ρ.val 10 = .int .i64 r) (hop : ∀ (w : World) (t : TypeId), (binOp op t (.int .i64 u) (.int .i64 v)).run Tryz.prog w = .ok (.int .i64 r) w) :
    OrcOk ρ Tryz.prog (ocL (knB op (decide (u = 0)) (decide (v = 0)) (decide (r = 0)) (decide (u < v)) (decide (v < u)))) := by
  have d8 : ∀ F, den ρ F (.sym 8) = some (.int .i64 u) := fun F => sym_den h8
  have d9 : ∀ F, den ρ F (.sym 9) = some (.int .i64 v) := fun F => sym_den h9
  have d10 : ∀ F, den ρ F (.sym 10) = some (.int .i64 r) := fun F => sym_den h10
  have db : ∀ (b : Bool) (F : Env), den ρ F (.bool b) = some (.bool b) := fun b F => by simp [den]
  have h3 : te (decide (u < v)) false (te (decide (v < u)) false true) = decide (u = v) := by
    rw [te_eq, te_eq, Bool.eq_iff_iff]
    by_cases h1 : u < v
    · simp [h1]; omega
    · by_cases h2 : v < u
      · simp [h1, h2]; omega
      · simp [h1, h2]; omega
  have h4 : te (decide (u < v)) true (decide (v < u)) = !decide (u = v) := by
    rw [te_eq, Bool.eq_iff_iff]
    by_cases h1 : u < v
    · simp [h1]; omega
    · simp [h1]; omega
  refine ocL_ok fun e he => ?_
  simp only [knB, List.mem_cons, List.not_mem_nil, or_false] at he
  rcases he with rfl | rfl | rfl | rfl | rfl | rfl | rfl | rfl | rfl | rfl | rfl
  · exact Entry.int d8 (natD_den _ 0) (db _) fun w t => by rw [bin_eql, dec_eq]
  · exact Entry.int d9 (natD_den _ 0) (db _) fun w t => by rw [bin_eql, dec_eq]
  · exact Entry.int d10 (natD_den _ 0) (db _) fun w t => by rw [bin_eql]; rfl
  · exact Entry.int d8 d8 (db _) fun w t => by rw [bin_neq]; simp
  · exact Entry.int d9 d9 (db _) fun w t => by rw [bin_neq]; simp
  · exact Entry.int d8 d9 (db _) fun w t => by rw [bin_lss]; simp
  · exact Entry.int d9 d8 (db _) fun w t => by rw [bin_lss]; simp
  · exact Entry.int d8 d9 (db _) fun w t => by rw [bin_gtr]; simp
  · exact Entry.int d8 d9 (db _) fun w t => by rw [bin_eql, dec_eq, h3]
  · exact Entry.int d8 d9 (db _) fun w t => by rw [bin_neq, bne, dec_eq, h4]
  · exact Entry.int d8 d9 d10 fun w t => hop w t

theorem six_some {f : Bool → Bool → Bool → Bool → Bool → Bool} (h : six f = true) (u v : Nat) : f (decide (u = 0)) (decide (v = 0)) (decide (u + v = 0)) (decide (u < v)) (decide (v < u)) = true := by
  obtain ⟨h1, h⟩ := both (show te (f true true true false false) _ false = true from h)
  obtain ⟨h2, h⟩ := both h
  obtain ⟨h3, h⟩ := both h
  obtain ⟨h4, h⟩ := both h
  obtain ⟨h5, h6⟩ := both h
  by_cases e1 : u = 0
  · by_cases e2 : v = 0
    · subst e1 e2; exact h1
    · subst e1
      simp only [Nat.zero_add, e2, Nat.pos_of_ne_zero e2, Nat.not_lt_zero, decide_true, decide_false]
      exact h2
  · by_cases e2 : v = 0
    · subst e2
      simp only [Nat.add_zero, e1, Nat.pos_of_ne_zero e1, Nat.not_lt_zero, decide_true, decide_false]
      exact h3
    · have e3 : ¬ u + v = 0 := by omega
      rcases Nat.lt_trichotomy u v with h | h | h
      · simp only [e1, e2, e3, h, Nat.not_lt.2 (Nat.le_of_lt h), decide_true, decide_false]
        exact h4
      · subst h
        simp only [e1, e3, Nat.lt_irrefl, decide_true, decide_false]
        exact h6
      · simp only [e1, e2, e3, h, Nat.not_lt.2 (Nat.le_of_lt h), decide_true, decide_false]
        exact h5
theorem sum_zero (u v : Nat) : decide (((u : Int) + v) = 0) = decide (u + v = 0) := by
  rw [Bool.eq_iff_iff]; simp; omega

/-- what an op of two numbers tells -/
def bop (op u v : Nat) : Nat := if op = 1 then u + v else if op = 2 then u - v else if op = 6 then (if u = v then 1 else 0) else (if u < v then 1 else 0)

theorem bin_calls {w : World} {cb tb B g op u v : Nat} {a vs tk : List Value} {s : Value} (hop : op = 1 ∨ op = 6 ∨ op = 8) (hu : u < 1000000) (hv : v < 1000000) (hB : B ≤ w.heap.size) (hcb : B ≤ cb) (ha : a.length = 7) (ha1 : Ones a) (hc : VarW w cb 129 (a ++ [s])) (hs : RowW w s 54 5 2 (iv u ++ iv v) g) (hg : B ≤ g)
    (htk : VarW w tb 194 (tk ++ [.int .i64 0])) (htb : B ≤ tb) (htl : tk.length = 7) (ht1 : Ones tk) :
    Calls Tryz.prog 46 #[.pointer (some ⟨cb, 0, none⟩), .pointer (some ⟨tb, 0, none⟩), .agg #[.int .i64 5, .int .i64 (.ofNat op), .int .i64 0]] w fun e w' => e = .returned (.bool true) ∧ ∃ s' g', VarW w' cb 129 (a ++ [s']) ∧ RowW w' s' 54 5 1 (iv (bop op u v)) g' ∧ B ≤ g' ∧ (g' = g ∨ w.heap.size ≤ g') ∧ VarW w' tb 194 (tk ++ [.int .i64 0]) ∧ Below B w w' ∧ ∀ b, b < w.heap.size → b ≠ cb → b ≠ g → b ≠ tb → w'.heap[b]? = w.heap[b]? := by
  have hsum : ∀ (w : World) (t : TypeId), (binOp .add t (.int .i64 u) (.int .i64 v)).run Tryz.prog w = .ok (.int .i64 (u + v)) w := fun w t => by rw [bin_add, wrap_in (by omega) (by omega)]
  have hx1 : Ones [.int .i64 (u : Int), .int .i64 (v : Int), .int .i64 ((u : Int) + v)] := by
    intro q hq
    simp only [List.mem_cons, List.not_mem_nil, or_false] at hq
    rcases hq with rfl | rfl | rfl <;> rfl
  have hoc : ∀ ρ : Syms, ρ.val 8 = .int .i64 (u : Int) → ρ.val 9 = .int .i64 (v : Int) → ρ.val 10 = .int .i64 ((u : Int) + v) → OrcOk ρ Tryz.prog (ocL (knB .add (decide (u = 0)) (decide (v = 0)) (decide (u + v = 0)) (decide (u < v)) (decide (v < u)))) := fun ρ h8 h9 h10 => by
    rw [← sum_zero]
    exact knB_ok h8 h9 h10 hsum
  rcases hop with rfl | rfl | rfl
  · have := binRow (x := [.int .i64 (u : Int), .int .i64 (v : Int), .int .i64 ((u : Int) + v)]) (vs := []) hB hcb ha ha1 hc (by simp) hx1 hs hg (by simp) ones_nil (by simp [iv]) htk htb htl ht1 (by decide) (by simp) rfl hoc (z := (u : Int) + v) (fun ρ F h => sym_den h) (six_some add_true u v)
    exact this
  · have := binRow (x := [.int .i64 (u : Int), .int .i64 (v : Int), .int .i64 ((u : Int) + v)]) (vs := []) hB hcb ha ha1 hc (by simp) hx1 hs hg (by simp) ones_nil (by simp [iv]) htk htb htl ht1 (by decide) (by simp) rfl hoc (z := (bop 6 u v : Int)) (fun ρ F h => by
      have : te (te (decide (u < v)) true (decide (v < u))) 0 1 = bop 6 u v := by
        unfold bop
        rw [te_eq, te_eq]
        by_cases h1 : u < v
        · have : u ≠ v := by omega
          simp [h1, this]
        · by_cases h2 : v < u
          · have : u ≠ v := by omega
            simp [h1, h2, this]
          · have : u = v := by omega
            simp [h1, h2, this]
      rw [this]
      exact natD_den _ _ F) (six_some eq_true u v)
    exact this
  · have := binRow (x := [.int .i64 (u : Int), .int .i64 (v : Int), .int .i64 ((u : Int) + v)]) (vs := []) hB hcb ha ha1 hc (by simp) hx1 hs hg (by simp) ones_nil (by simp [iv]) htk htb htl ht1 (by decide) (by simp) rfl hoc (z := (bop 8 u v : Int)) (fun ρ F h => by
      have : te (decide (u < v)) 1 0 = bop 8 u v := by
        unfold bop
        rw [te_eq]
        by_cases h1 : u < v <;> simp [h1]
      rw [this]
      exact natD_den _ _ F) (six_some lt_true u v)
    exact this

end Go.Proofs.YtplnnlnkcfappaaGreat.Sv
