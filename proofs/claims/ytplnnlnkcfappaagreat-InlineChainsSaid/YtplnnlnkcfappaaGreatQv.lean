/- The second evaluator: a word on operations, given by a list of what is known. -/
import Derived.Test.YtplnnlnkcfappaaGreatQl
namespace Go.Proofs.YtplnnlnkcfappaaGreat.E3
open Go Go.RowKit
set_option linter.unusedSimpArgs false
set_option linter.unusedVariables false

variable {ρ : Syms} {P : Program}

noncomputable def opN (o : BinOp) : Nat :=
  match o with
  | .add => 0 | .sub => 1 | .mul => 2 | .quo => 3 | .rem => 4 | .and => 5 | .or => 6 | .xor => 7 | .shl => 8 | .shr => 9 | .andNot => 10
  | .eql => 11 | .neq => 12 | .lss => 13 | .leq => 14 | .gtr => 15 | .geq => 16
theorem opN_inj {a b : BinOp} (h : opN a = opN b) : a = b := by cases a <;> cases b <;> first | rfl | cases h
abbrev Known2 := BinOp × AV × AV × AV
noncomputable def ocL (l : List Known2) : Orc := fun op u v =>
  List.rec (motive := fun _ => Option AV) none (fun e _ ih => te (te (Nat.beq (opN e.1) (opN op)) (te (eqAV e.2.1 u) (eqAV e.2.2.1 v) false) false) (some e.2.2.2) ih) l

/-- what a line says is so -/
structure Entry (ρ : Syms) (P : Program) (e : Known2) : Prop where
  u : e.2.1 ≠ .bad
  v : e.2.2.1 ≠ .bad
  run : ∀ F a b, den ρ F e.2.1 = some a → den ρ F e.2.2.1 = some b → ∃ c, den ρ F e.2.2.2 = some c ∧ ∀ w t p q, (do eqGuard e.1 t p q a b; binOp e.1 t a b : Sem Value).run P w = .ok c w

theorem ocL_ok : ∀ {l : List Known2}, (∀ e ∈ l, Entry ρ P e) → OrcOk ρ P (ocL l)
  | [], _, op, u, v, r, h => by cases h
  | e :: l, he, op, u, v, r, h => by
    have h' : te (te (Nat.beq (opN e.1) (opN op)) (te (eqAV e.2.1 u) (eqAV e.2.2.1 v) false) false) (some e.2.2.2) (ocL l op u v) = some r := h
    rw [te_eq] at h'
    split at h'
    · rename_i hc
      obtain ⟨h1, h2⟩ := both hc
      obtain ⟨h2, h3⟩ := both h2
      obtain rfl := opN_inj (Nat.eq_of_beq_eq_true h1)
      obtain rfl := eqAV_eq h2
      obtain rfl := eqAV_eq h3
      obtain rfl := Option.some.inj h'
      have := he e (by simp)
      exact ⟨this.u, this.v, this.run⟩
    · exact ocL_ok (fun e he' => he e (List.mem_cons_of_mem _ he')) op u v r h'

theorem guard_int {op : BinOp} {k k' : IntKind} {x y : Int} (t : TypeId) (p q : Operand) (s : Sem Value) (w : World) : (do eqGuard op t p q (.int k x) (.int k' y); s : Sem Value).run P w = s.run P w := by
  cases op <;> simp [eqGuard]

/-- a line on two whole numbers -/
theorem Entry.int {op : BinOp} {u v r : AV} {x y : Int} {c : Value} (hu : ∀ F, den ρ F u = some (.int .i64 x)) (hv : ∀ F, den ρ F v = some (.int .i64 y)) (hr : ∀ F, den ρ F r = some c)
    (hrun : ∀ w t, (binOp op t (.int .i64 x) (.int .i64 y)).run P w = .ok c w) : Entry ρ P (op, u, v, r) where
  u e := by
    have h1 := hu (fun _ => none)
    have e' : u = .bad := e
    rw [e'] at h1
    simp [den] at h1
  v e := by
    have h1 := hv (fun _ => none)
    have e' : v = .bad := e
    rw [e'] at h1
    simp [den] at h1
  run F a b ha hb := by
    have ha' : den ρ F u = some a := ha
    have hb' : den ρ F v = some b := hb
    rw [hu F] at ha'
    rw [hv F] at hb'
    obtain rfl := Option.some.inj ha'
    obtain rfl := Option.some.inj hb'
    exact ⟨c, hr F, fun w t p q => by rw [guard_int]; exact hrun w t⟩

section
variable (x y : Int) (w : World) (t : TypeId)
theorem bin_add : (binOp .add t (.int .i64 x) (.int .i64 y)).run P w = .ok (.int .i64 (wrap64 (x + y))) w := by simp [binOp, Op.intArith, IntWalk.i64_left]
theorem bin_sub : (binOp .sub t (.int .i64 x) (.int .i64 y)).run P w = .ok (.int .i64 (wrap64 (x - y))) w := by simp [binOp, Op.intArith, IntWalk.i64_left]
theorem bin_mul : (binOp .mul t (.int .i64 x) (.int .i64 y)).run P w = .ok (.int .i64 (wrap64 (x * y))) w := by simp [binOp, Op.intArith, IntWalk.i64_left]
theorem bin_quo (h : y ≠ 0) : (binOp .quo t (.int .i64 x) (.int .i64 y)).run P w = .ok (.int .i64 (wrap64 (x.tdiv y))) w := by simp [binOp, Op.intDiv, h, IntWalk.i64_left]
theorem bin_rem (h : y ≠ 0) : (binOp .rem t (.int .i64 x) (.int .i64 y)).run P w = .ok (.int .i64 (x.tmod y)) w := by simp [binOp, Op.intDiv, h]
theorem bin_eql : (binOp .eql t (.int .i64 x) (.int .i64 y)).run P w = .ok (.bool (x == y)) w := by simp [binOp, Op.intCmp]
theorem bin_neq : (binOp .neq t (.int .i64 x) (.int .i64 y)).run P w = .ok (.bool (x != y)) w := by simp [binOp, Op.intCmp]
theorem bin_lss : (binOp .lss t (.int .i64 x) (.int .i64 y)).run P w = .ok (.bool (decide (x < y))) w := by simp [binOp, Op.intCmp]
theorem bin_leq : (binOp .leq t (.int .i64 x) (.int .i64 y)).run P w = .ok (.bool (decide (x ≤ y))) w := by simp [binOp, Op.intCmp]
theorem bin_gtr : (binOp .gtr t (.int .i64 x) (.int .i64 y)).run P w = .ok (.bool (decide (x > y))) w := by simp [binOp, Op.intCmp]
theorem bin_geq : (binOp .geq t (.int .i64 x) (.int .i64 y)).run P w = .ok (.bool (decide (x ≥ y))) w := by simp [binOp, Op.intCmp]
end

end Go.Proofs.YtplnnlnkcfappaaGreat.E3
