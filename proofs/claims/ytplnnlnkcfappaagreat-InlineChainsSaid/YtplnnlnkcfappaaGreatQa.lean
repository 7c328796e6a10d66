/- The second evaluator: words, rows of eight, memory. Nothing of this project's program stands in it. (Printed by gen_rows.py.) -/
import Derived.WalkKit
import Derived.Below
namespace Go.Proofs.YtplnnlnkcfappaaGreat.E3
open Go Go.RowKit

inductive AV where
  | raw (v : Value)
  | nat (n : Nat)
  | bool (b : Bool)
  | ptr (b off : Nat)
  | sl (b off len sz : Nat)
  | agg (l : List AV)
  | tup (l : List AV)
  | fn (f : FuncId) (cap : List AV)
  | bad
  | sym (k : Nat)
  | str (n q : Nat)
  | byt (b : Nat)
  | hol (t j : Nat)

inductive D8 where
  | o0 | o1 | o2 | o3 | o4 | o5 | o6 | o7

structure A1 where
  (x0 x1 x2 x3 x4 x5 x6 x7 : AV)
structure A2 where
  (x0 x1 x2 x3 x4 x5 x6 x7 : A1)
structure A3 where
  (x0 x1 x2 x3 x4 x5 x6 x7 : A2)
structure A4 where
  (x0 x1 x2 x3 x4 x5 x6 x7 : A3)

/-- a block's cells -/
inductive Cells where
  | c1 (r : A1)
  | c2 (r : A2)
  | c4 (r : A4)

structure Blk where
  e : TypeId
  z : Nat
  n : Nat
  c : Cells

structure B1 where
  (x0 x1 x2 x3 x4 x5 x6 x7 : Option Blk)
structure B2 where
  (x0 x1 x2 x3 x4 x5 x6 x7 : B1)
structure B3 where
  (x0 x1 x2 x3 x4 x5 x6 x7 : B2)
structure B4 where
  (x0 x1 x2 x3 x4 x5 x6 x7 : B3)
structure B5 where
  (x0 x1 x2 x3 x4 x5 x6 x7 : B4)

structure Mem where
  H : B5
  nx : Nat
  wr : Nat

abbrev Fr := A3

inductive Ex where
  | normal | ret
  | exit (id : Nat)
  | goto (l : Nat)

inductive Out where
  | code (e : Ex) (fr : Fr) (m : Mem)
  | call (v : AV) (m : Mem)

abbrev R := Option Out

noncomputable section

/-! ### Digits -/
def D8.toNat : D8 → Nat
  | .o0 => 0 | .o1 => 1 | .o2 => 2 | .o3 => 3 | .o4 => 4 | .o5 => 5 | .o6 => 6 | .o7 => 7
def dig (k : Nat) : D8 :=
  Nat.rec (motive := fun _ => D8) .o0 (fun k _ => Nat.rec (motive := fun _ => D8) .o1 (fun k _ => Nat.rec (motive := fun _ => D8) .o2 (fun k _ => Nat.rec (motive := fun _ => D8) .o3 (fun k _ => Nat.rec (motive := fun _ => D8) .o4
    (fun k _ => Nat.rec (motive := fun _ => D8) .o5 (fun k _ => Nat.rec (motive := fun _ => D8) .o6 (fun _ _ => .o7) k) k) k) k) k) k) k
theorem dig_toNat : ∀ k, k < 8 → (dig k).toNat = k
  | 0, _ => rfl | 1, _ => rfl | 2, _ => rfl | 3, _ => rfl | 4, _ => rfl | 5, _ => rfl | 6, _ => rfl | 7, _ => rfl
  | k + 8, h => by omega
theorem dig_inj {k j : Nat} (hk : k < 8) (hj : j < 8) (h : dig k = dig j) : k = j := by
  rw [← dig_toNat k hk, ← dig_toNat j hj, h]

/-! ### A1 -/
def A1.sel (d : D8) (r : A1) : AV := D8.rec (motive := fun _ => A1 → AV) A1.x0 A1.x1 A1.x2 A1.x3 A1.x4 A1.x5 A1.x6 A1.x7 d r
def A1.s0 (r : A1) (x : AV) : A1 := ⟨x, r.x1, r.x2, r.x3, r.x4, r.x5, r.x6, r.x7⟩
def A1.u0 (r : A1) (f : AV → (AV → R) → R) (k : A1 → R) : R := A1.rec (motive := fun _ => (AV → (AV → R) → R) → (A1 → R) → R) (fun x0 x1 x2 x3 x4 x5 x6 x7 f k => f x0 (fun x => k (A1.mk x x1 x2 x3 x4 x5 x6 x7))) r f k
def A1.s1 (r : A1) (x : AV) : A1 := ⟨r.x0, x, r.x2, r.x3, r.x4, r.x5, r.x6, r.x7⟩
def A1.u1 (r : A1) (f : AV → (AV → R) → R) (k : A1 → R) : R := A1.rec (motive := fun _ => (AV → (AV → R) → R) → (A1 → R) → R) (fun x0 x1 x2 x3 x4 x5 x6 x7 f k => f x1 (fun x => k (A1.mk x0 x x2 x3 x4 x5 x6 x7))) r f k
def A1.s2 (r : A1) (x : AV) : A1 := ⟨r.x0, r.x1, x, r.x3, r.x4, r.x5, r.x6, r.x7⟩
def A1.u2 (r : A1) (f : AV → (AV → R) → R) (k : A1 → R) : R := A1.rec (motive := fun _ => (AV → (AV → R) → R) → (A1 → R) → R) (fun x0 x1 x2 x3 x4 x5 x6 x7 f k => f x2 (fun x => k (A1.mk x0 x1 x x3 x4 x5 x6 x7))) r f k
def A1.s3 (r : A1) (x : AV) : A1 := ⟨r.x0, r.x1, r.x2, x, r.x4, r.x5, r.x6, r.x7⟩
def A1.u3 (r : A1) (f : AV → (AV → R) → R) (k : A1 → R) : R := A1.rec (motive := fun _ => (AV → (AV → R) → R) → (A1 → R) → R) (fun x0 x1 x2 x3 x4 x5 x6 x7 f k => f x3 (fun x => k (A1.mk x0 x1 x2 x x4 x5 x6 x7))) r f k
def A1.s4 (r : A1) (x : AV) : A1 := ⟨r.x0, r.x1, r.x2, r.x3, x, r.x5, r.x6, r.x7⟩
def A1.u4 (r : A1) (f : AV → (AV → R) → R) (k : A1 → R) : R := A1.rec (motive := fun _ => (AV → (AV → R) → R) → (A1 → R) → R) (fun x0 x1 x2 x3 x4 x5 x6 x7 f k => f x4 (fun x => k (A1.mk x0 x1 x2 x3 x x5 x6 x7))) r f k
def A1.s5 (r : A1) (x : AV) : A1 := ⟨r.x0, r.x1, r.x2, r.x3, r.x4, x, r.x6, r.x7⟩
def A1.u5 (r : A1) (f : AV → (AV → R) → R) (k : A1 → R) : R := A1.rec (motive := fun _ => (AV → (AV → R) → R) → (A1 → R) → R) (fun x0 x1 x2 x3 x4 x5 x6 x7 f k => f x5 (fun x => k (A1.mk x0 x1 x2 x3 x4 x x6 x7))) r f k
def A1.s6 (r : A1) (x : AV) : A1 := ⟨r.x0, r.x1, r.x2, r.x3, r.x4, r.x5, x, r.x7⟩
def A1.u6 (r : A1) (f : AV → (AV → R) → R) (k : A1 → R) : R := A1.rec (motive := fun _ => (AV → (AV → R) → R) → (A1 → R) → R) (fun x0 x1 x2 x3 x4 x5 x6 x7 f k => f x6 (fun x => k (A1.mk x0 x1 x2 x3 x4 x5 x x7))) r f k
def A1.s7 (r : A1) (x : AV) : A1 := ⟨r.x0, r.x1, r.x2, r.x3, r.x4, r.x5, r.x6, x⟩
def A1.u7 (r : A1) (f : AV → (AV → R) → R) (k : A1 → R) : R := A1.rec (motive := fun _ => (AV → (AV → R) → R) → (A1 → R) → R) (fun x0 x1 x2 x3 x4 x5 x6 x7 f k => f x7 (fun x => k (A1.mk x0 x1 x2 x3 x4 x5 x6 x))) r f k
def A1.set (d : D8) (r : A1) (x : AV) : A1 := D8.rec (motive := fun _ => A1 → AV → A1) A1.s0 A1.s1 A1.s2 A1.s3 A1.s4 A1.s5 A1.s6 A1.s7 d r x
def A1.upd (d : D8) (r : A1) (f : AV → (AV → R) → R) (k : A1 → R) : R := D8.rec (motive := fun _ => A1 → (AV → (AV → R) → R) → (A1 → R) → R) A1.u0 A1.u1 A1.u2 A1.u3 A1.u4 A1.u5 A1.u6 A1.u7 d r f k
theorem A1.upd_eq (d : D8) (r : A1) (f : AV → (AV → R) → R) (k : A1 → R) : A1.upd d r f k = f (A1.sel d r) (fun x => k (A1.set d r x)) := by cases d <;> cases r <;> rfl
theorem A1.same (d : D8) (r : A1) (x : AV) : A1.sel d (A1.set d r x) = x := by cases d <;> rfl
theorem A1.other (d e : D8) (r : A1) (x : AV) (h : e ≠ d) : A1.sel e (A1.set d r x) = A1.sel e r := by cases d <;> cases e <;> first | rfl | exact absurd rfl h
/-! ### A2 -/
def A2.sel (d : D8) (r : A2) : A1 := D8.rec (motive := fun _ => A2 → A1) A2.x0 A2.x1 A2.x2 A2.x3 A2.x4 A2.x5 A2.x6 A2.x7 d r
def A2.s0 (r : A2) (x : A1) : A2 := ⟨x, r.x1, r.x2, r.x3, r.x4, r.x5, r.x6, r.x7⟩
def A2.u0 (r : A2) (f : A1 → (A1 → R) → R) (k : A2 → R) : R := A2.rec (motive := fun _ => (A1 → (A1 → R) → R) → (A2 → R) → R) (fun x0 x1 x2 x3 x4 x5 x6 x7 f k => f x0 (fun x => k (A2.mk x x1 x2 x3 x4 x5 x6 x7))) r f k
def A2.s1 (r : A2) (x : A1) : A2 := ⟨r.x0, x, r.x2, r.x3, r.x4, r.x5, r.x6, r.x7⟩
def A2.u1 (r : A2) (f : A1 → (A1 → R) → R) (k : A2 → R) : R := A2.rec (motive := fun _ => (A1 → (A1 → R) → R) → (A2 → R) → R) (fun x0 x1 x2 x3 x4 x5 x6 x7 f k => f x1 (fun x => k (A2.mk x0 x x2 x3 x4 x5 x6 x7))) r f k
def A2.s2 (r : A2) (x : A1) : A2 := ⟨r.x0, r.x1, x, r.x3, r.x4, r.x5, r.x6, r.x7⟩
def A2.u2 (r : A2) (f : A1 → (A1 → R) → R) (k : A2 → R) : R := A2.rec (motive := fun _ => (A1 → (A1 → R) → R) → (A2 → R) → R) (fun x0 x1 x2 x3 x4 x5 x6 x7 f k => f x2 (fun x => k (A2.mk x0 x1 x x3 x4 x5 x6 x7))) r f k
def A2.s3 (r : A2) (x : A1) : A2 := ⟨r.x0, r.x1, r.x2, x, r.x4, r.x5, r.x6, r.x7⟩
def A2.u3 (r : A2) (f : A1 → (A1 → R) → R) (k : A2 → R) : R := A2.rec (motive := fun _ => (A1 → (A1 → R) → R) → (A2 → R) → R) (fun x0 x1 x2 x3 x4 x5 x6 x7 f k => f x3 (fun x => k (A2.mk x0 x1 x2 x x4 x5 x6 x7))) r f k
def A2.s4 (r : A2) (x : A1) : A2 := ⟨r.x0, r.x1, r.x2, r.x3, x, r.x5, r.x6, r.x7⟩
def A2.u4 (r : A2) (f : A1 → (A1 → R) → R) (k : A2 → R) : R := A2.rec (motive := fun _ => (A1 → (A1 → R) → R) → (A2 → R) → R) (fun x0 x1 x2 x3 x4 x5 x6 x7 f k => f x4 (fun x => k (A2.mk x0 x1 x2 x3 x x5 x6 x7))) r f k
def A2.s5 (r : A2) (x : A1) : A2 := ⟨r.x0, r.x1, r.x2, r.x3, r.x4, x, r.x6, r.x7⟩
def A2.u5 (r : A2) (f : A1 → (A1 → R) → R) (k : A2 → R) : R := A2.rec (motive := fun _ => (A1 → (A1 → R) → R) → (A2 → R) → R) (fun x0 x1 x2 x3 x4 x5 x6 x7 f k => f x5 (fun x => k (A2.mk x0 x1 x2 x3 x4 x x6 x7))) r f k
def A2.s6 (r : A2) (x : A1) : A2 := ⟨r.x0, r.x1, r.x2, r.x3, r.x4, r.x5, x, r.x7⟩
def A2.u6 (r : A2) (f : A1 → (A1 → R) → R) (k : A2 → R) : R := A2.rec (motive := fun _ => (A1 → (A1 → R) → R) → (A2 → R) → R) (fun x0 x1 x2 x3 x4 x5 x6 x7 f k => f x6 (fun x => k (A2.mk x0 x1 x2 x3 x4 x5 x x7))) r f k
def A2.s7 (r : A2) (x : A1) : A2 := ⟨r.x0, r.x1, r.x2, r.x3, r.x4, r.x5, r.x6, x⟩
def A2.u7 (r : A2) (f : A1 → (A1 → R) → R) (k : A2 → R) : R := A2.rec (motive := fun _ => (A1 → (A1 → R) → R) → (A2 → R) → R) (fun x0 x1 x2 x3 x4 x5 x6 x7 f k => f x7 (fun x => k (A2.mk x0 x1 x2 x3 x4 x5 x6 x))) r f k
def A2.set (d : D8) (r : A2) (x : A1) : A2 := D8.rec (motive := fun _ => A2 → A1 → A2) A2.s0 A2.s1 A2.s2 A2.s3 A2.s4 A2.s5 A2.s6 A2.s7 d r x
def A2.upd (d : D8) (r : A2) (f : A1 → (A1 → R) → R) (k : A2 → R) : R := D8.rec (motive := fun _ => A2 → (A1 → (A1 → R) → R) → (A2 → R) → R) A2.u0 A2.u1 A2.u2 A2.u3 A2.u4 A2.u5 A2.u6 A2.u7 d r f k
theorem A2.upd_eq (d : D8) (r : A2) (f : A1 → (A1 → R) → R) (k : A2 → R) : A2.upd d r f k = f (A2.sel d r) (fun x => k (A2.set d r x)) := by cases d <;> cases r <;> rfl
theorem A2.same (d : D8) (r : A2) (x : A1) : A2.sel d (A2.set d r x) = x := by cases d <;> rfl
theorem A2.other (d e : D8) (r : A2) (x : A1) (h : e ≠ d) : A2.sel e (A2.set d r x) = A2.sel e r := by cases d <;> cases e <;> first | rfl | exact absurd rfl h
/-! ### A3 -/
def A3.sel (d : D8) (r : A3) : A2 := D8.rec (motive := fun _ => A3 → A2) A3.x0 A3.x1 A3.x2 A3.x3 A3.x4 A3.x5 A3.x6 A3.x7 d r
def A3.s0 (r : A3) (x : A2) : A3 := ⟨x, r.x1, r.x2, r.x3, r.x4, r.x5, r.x6, r.x7⟩
def A3.u0 (r : A3) (f : A2 → (A2 → R) → R) (k : A3 → R) : R := A3.rec (motive := fun _ => (A2 → (A2 → R) → R) → (A3 → R) → R) (fun x0 x1 x2 x3 x4 x5 x6 x7 f k => f x0 (fun x => k (A3.mk x x1 x2 x3 x4 x5 x6 x7))) r f k
def A3.s1 (r : A3) (x : A2) : A3 := ⟨r.x0, x, r.x2, r.x3, r.x4, r.x5, r.x6, r.x7⟩
def A3.u1 (r : A3) (f : A2 → (A2 → R) → R) (k : A3 → R) : R := A3.rec (motive := fun _ => (A2 → (A2 → R) → R) → (A3 → R) → R) (fun x0 x1 x2 x3 x4 x5 x6 x7 f k => f x1 (fun x => k (A3.mk x0 x x2 x3 x4 x5 x6 x7))) r f k
def A3.s2 (r : A3) (x : A2) : A3 := ⟨r.x0, r.x1, x, r.x3, r.x4, r.x5, r.x6, r.x7⟩
def A3.u2 (r : A3) (f : A2 → (A2 → R) → R) (k : A3 → R) : R := A3.rec (motive := fun _ => (A2 → (A2 → R) → R) → (A3 → R) → R) (fun x0 x1 x2 x3 x4 x5 x6 x7 f k => f x2 (fun x => k (A3.mk x0 x1 x x3 x4 x5 x6 x7))) r f k
def A3.s3 (r : A3) (x : A2) : A3 := ⟨r.x0, r.x1, r.x2, x, r.x4, r.x5, r.x6, r.x7⟩
def A3.u3 (r : A3) (f : A2 → (A2 → R) → R) (k : A3 → R) : R := A3.rec (motive := fun _ => (A2 → (A2 → R) → R) → (A3 → R) → R) (fun x0 x1 x2 x3 x4 x5 x6 x7 f k => f x3 (fun x => k (A3.mk x0 x1 x2 x x4 x5 x6 x7))) r f k
def A3.s4 (r : A3) (x : A2) : A3 := ⟨r.x0, r.x1, r.x2, r.x3, x, r.x5, r.x6, r.x7⟩
def A3.u4 (r : A3) (f : A2 → (A2 → R) → R) (k : A3 → R) : R := A3.rec (motive := fun _ => (A2 → (A2 → R) → R) → (A3 → R) → R) (fun x0 x1 x2 x3 x4 x5 x6 x7 f k => f x4 (fun x => k (A3.mk x0 x1 x2 x3 x x5 x6 x7))) r f k
def A3.s5 (r : A3) (x : A2) : A3 := ⟨r.x0, r.x1, r.x2, r.x3, r.x4, x, r.x6, r.x7⟩
def A3.u5 (r : A3) (f : A2 → (A2 → R) → R) (k : A3 → R) : R := A3.rec (motive := fun _ => (A2 → (A2 → R) → R) → (A3 → R) → R) (fun x0 x1 x2 x3 x4 x5 x6 x7 f k => f x5 (fun x => k (A3.mk x0 x1 x2 x3 x4 x x6 x7))) r f k
def A3.s6 (r : A3) (x : A2) : A3 := ⟨r.x0, r.x1, r.x2, r.x3, r.x4, r.x5, x, r.x7⟩
def A3.u6 (r : A3) (f : A2 → (A2 → R) → R) (k : A3 → R) : R := A3.rec (motive := fun _ => (A2 → (A2 → R) → R) → (A3 → R) → R) (fun x0 x1 x2 x3 x4 x5 x6 x7 f k => f x6 (fun x => k (A3.mk x0 x1 x2 x3 x4 x5 x x7))) r f k
def A3.s7 (r : A3) (x : A2) : A3 := ⟨r.x0, r.x1, r.x2, r.x3, r.x4, r.x5, r.x6, x⟩
def A3.u7 (r : A3) (f : A2 → (A2 → R) → R) (k : A3 → R) : R := A3.rec (motive := fun _ => (A2 → (A2 → R) → R) → (A3 → R) → R) (fun x0 x1 x2 x3 x4 x5 x6 x7 f k => f x7 (fun x => k (A3.mk x0 x1 x2 x3 x4 x5 x6 x))) r f k
def A3.set (d : D8) (r : A3) (x : A2) : A3 := D8.rec (motive := fun _ => A3 → A2 → A3) A3.s0 A3.s1 A3.s2 A3.s3 A3.s4 A3.s5 A3.s6 A3.s7 d r x
def A3.upd (d : D8) (r : A3) (f : A2 → (A2 → R) → R) (k : A3 → R) : R := D8.rec (motive := fun _ => A3 → (A2 → (A2 → R) → R) → (A3 → R) → R) A3.u0 A3.u1 A3.u2 A3.u3 A3.u4 A3.u5 A3.u6 A3.u7 d r f k
theorem A3.upd_eq (d : D8) (r : A3) (f : A2 → (A2 → R) → R) (k : A3 → R) : A3.upd d r f k = f (A3.sel d r) (fun x => k (A3.set d r x)) := by cases d <;> cases r <;> rfl
theorem A3.same (d : D8) (r : A3) (x : A2) : A3.sel d (A3.set d r x) = x := by cases d <;> rfl
theorem A3.other (d e : D8) (r : A3) (x : A2) (h : e ≠ d) : A3.sel e (A3.set d r x) = A3.sel e r := by cases d <;> cases e <;> first | rfl | exact absurd rfl h
/-! ### A4 -/
def A4.sel (d : D8) (r : A4) : A3 := D8.rec (motive := fun _ => A4 → A3) A4.x0 A4.x1 A4.x2 A4.x3 A4.x4 A4.x5 A4.x6 A4.x7 d r
def A4.s0 (r : A4) (x : A3) : A4 := ⟨x, r.x1, r.x2, r.x3, r.x4, r.x5, r.x6, r.x7⟩
def A4.u0 (r : A4) (f : A3 → (A3 → R) → R) (k : A4 → R) : R := A4.rec (motive := fun _ => (A3 → (A3 → R) → R) → (A4 → R) → R) (fun x0 x1 x2 x3 x4 x5 x6 x7 f k => f x0 (fun x => k (A4.mk x x1 x2 x3 x4 x5 x6 x7))) r f k
def A4.s1 (r : A4) (x : A3) : A4 := ⟨r.x0, x, r.x2, r.x3, r.x4, r.x5, r.x6, r.x7⟩
def A4.u1 (r : A4) (f : A3 → (A3 → R) → R) (k : A4 → R) : R := A4.rec (motive := fun _ => (A3 → (A3 → R) → R) → (A4 → R) → R) (fun x0 x1 x2 x3 x4 x5 x6 x7 f k => f x1 (fun x => k (A4.mk x0 x x2 x3 x4 x5 x6 x7))) r f k
def A4.s2 (r : A4) (x : A3) : A4 := ⟨r.x0, r.x1, x, r.x3, r.x4, r.x5, r.x6, r.x7⟩
def A4.u2 (r : A4) (f : A3 → (A3 → R) → R) (k : A4 → R) : R := A4.rec (motive := fun _ => (A3 → (A3 → R) → R) → (A4 → R) → R) (fun x0 x1 x2 x3 x4 x5 x6 x7 f k => f x2 (fun x => k (A4.mk x0 x1 x x3 x4 x5 x6 x7))) r f k
def A4.s3 (r : A4) (x : A3) : A4 := ⟨r.x0, r.x1, r.x2, x, r.x4, r.x5, r.x6, r.x7⟩
def A4.u3 (r : A4) (f : A3 → (A3 → R) → R) (k : A4 → R) : R := A4.rec (motive := fun _ => (A3 → (A3 → R) → R) → (A4 → R) → R) (fun x0 x1 x2 x3 x4 x5 x6 x7 f k => f x3 (fun x => k (A4.mk x0 x1 x2 x x4 x5 x6 x7))) r f k
def A4.s4 (r : A4) (x : A3) : A4 := ⟨r.x0, r.x1, r.x2, r.x3, x, r.x5, r.x6, r.x7⟩
def A4.u4 (r : A4) (f : A3 → (A3 → R) → R) (k : A4 → R) : R := A4.rec (motive := fun _ => (A3 → (A3 → R) → R) → (A4 → R) → R) (fun x0 x1 x2 x3 x4 x5 x6 x7 f k => f x4 (fun x => k (A4.mk x0 x1 x2 x3 x x5 x6 x7))) r f k
def A4.s5 (r : A4) (x : A3) : A4 := ⟨r.x0, r.x1, r.x2, r.x3, r.x4, x, r.x6, r.x7⟩
def A4.u5 (r : A4) (f : A3 → (A3 → R) → R) (k : A4 → R) : R := A4.rec (motive := fun _ => (A3 → (A3 → R) → R) → (A4 → R) → R) (fun x0 x1 x2 x3 x4 x5 x6 x7 f k => f x5 (fun x => k (A4.mk x0 x1 x2 x3 x4 x x6 x7))) r f k
def A4.s6 (r : A4) (x : A3) : A4 := ⟨r.x0, r.x1, r.x2, r.x3, r.x4, r.x5, x, r.x7⟩
def A4.u6 (r : A4) (f : A3 → (A3 → R) → R) (k : A4 → R) : R := A4.rec (motive := fun _ => (A3 → (A3 → R) → R) → (A4 → R) → R) (fun x0 x1 x2 x3 x4 x5 x6 x7 f k => f x6 (fun x => k (A4.mk x0 x1 x2 x3 x4 x5 x x7))) r f k
def A4.s7 (r : A4) (x : A3) : A4 := ⟨r.x0, r.x1, r.x2, r.x3, r.x4, r.x5, r.x6, x⟩
def A4.u7 (r : A4) (f : A3 → (A3 → R) → R) (k : A4 → R) : R := A4.rec (motive := fun _ => (A3 → (A3 → R) → R) → (A4 → R) → R) (fun x0 x1 x2 x3 x4 x5 x6 x7 f k => f x7 (fun x => k (A4.mk x0 x1 x2 x3 x4 x5 x6 x))) r f k
def A4.set (d : D8) (r : A4) (x : A3) : A4 := D8.rec (motive := fun _ => A4 → A3 → A4) A4.s0 A4.s1 A4.s2 A4.s3 A4.s4 A4.s5 A4.s6 A4.s7 d r x
def A4.upd (d : D8) (r : A4) (f : A3 → (A3 → R) → R) (k : A4 → R) : R := D8.rec (motive := fun _ => A4 → (A3 → (A3 → R) → R) → (A4 → R) → R) A4.u0 A4.u1 A4.u2 A4.u3 A4.u4 A4.u5 A4.u6 A4.u7 d r f k
theorem A4.upd_eq (d : D8) (r : A4) (f : A3 → (A3 → R) → R) (k : A4 → R) : A4.upd d r f k = f (A4.sel d r) (fun x => k (A4.set d r x)) := by cases d <;> cases r <;> rfl
theorem A4.same (d : D8) (r : A4) (x : A3) : A4.sel d (A4.set d r x) = x := by cases d <;> rfl
theorem A4.other (d e : D8) (r : A4) (x : A3) (h : e ≠ d) : A4.sel e (A4.set d r x) = A4.sel e r := by cases d <;> cases e <;> first | rfl | exact absurd rfl h
/-! ### B1 -/
def B1.sel (d : D8) (r : B1) : (Option Blk) := D8.rec (motive := fun _ => B1 → (Option Blk)) B1.x0 B1.x1 B1.x2 B1.x3 B1.x4 B1.x5 B1.x6 B1.x7 d r
def B1.s0 (r : B1) (x : (Option Blk)) : B1 := ⟨x, r.x1, r.x2, r.x3, r.x4, r.x5, r.x6, r.x7⟩
def B1.u0 (r : B1) (f : (Option Blk) → ((Option Blk) → R) → R) (k : B1 → R) : R := B1.rec (motive := fun _ => ((Option Blk) → ((Option Blk) → R) → R) → (B1 → R) → R) (fun x0 x1 x2 x3 x4 x5 x6 x7 f k => f x0 (fun x => k (B1.mk x x1 x2 x3 x4 x5 x6 x7))) r f k
def B1.s1 (r : B1) (x : (Option Blk)) : B1 := ⟨r.x0, x, r.x2, r.x3, r.x4, r.x5, r.x6, r.x7⟩
def B1.u1 (r : B1) (f : (Option Blk) → ((Option Blk) → R) → R) (k : B1 → R) : R := B1.rec (motive := fun _ => ((Option Blk) → ((Option Blk) → R) → R) → (B1 → R) → R) (fun x0 x1 x2 x3 x4 x5 x6 x7 f k => f x1 (fun x => k (B1.mk x0 x x2 x3 x4 x5 x6 x7))) r f k
def B1.s2 (r : B1) (x : (Option Blk)) : B1 := ⟨r.x0, r.x1, x, r.x3, r.x4, r.x5, r.x6, r.x7⟩
def B1.u2 (r : B1) (f : (Option Blk) → ((Option Blk) → R) → R) (k : B1 → R) : R := B1.rec (motive := fun _ => ((Option Blk) → ((Option Blk) → R) → R) → (B1 → R) → R) (fun x0 x1 x2 x3 x4 x5 x6 x7 f k => f x2 (fun x => k (B1.mk x0 x1 x x3 x4 x5 x6 x7))) r f k
def B1.s3 (r : B1) (x : (Option Blk)) : B1 := ⟨r.x0, r.x1, r.x2, x, r.x4, r.x5, r.x6, r.x7⟩
def B1.u3 (r : B1) (f : (Option Blk) → ((Option Blk) → R) → R) (k : B1 → R) : R := B1.rec (motive := fun _ => ((Option Blk) → ((Option Blk) → R) → R) → (B1 → R) → R) (fun x0 x1 x2 x3 x4 x5 x6 x7 f k => f x3 (fun x => k (B1.mk x0 x1 x2 x x4 x5 x6 x7))) r f k
def B1.s4 (r : B1) (x : (Option Blk)) : B1 := ⟨r.x0, r.x1, r.x2, r.x3, x, r.x5, r.x6, r.x7⟩
def B1.u4 (r : B1) (f : (Option Blk) → ((Option Blk) → R) → R) (k : B1 → R) : R := B1.rec (motive := fun _ => ((Option Blk) → ((Option Blk) → R) → R) → (B1 → R) → R) (fun x0 x1 x2 x3 x4 x5 x6 x7 f k => f x4 (fun x => k (B1.mk x0 x1 x2 x3 x x5 x6 x7))) r f k
def B1.s5 (r : B1) (x : (Option Blk)) : B1 := ⟨r.x0, r.x1, r.x2, r.x3, r.x4, x, r.x6, r.x7⟩
def B1.u5 (r : B1) (f : (Option Blk) → ((Option Blk) → R) → R) (k : B1 → R) : R := B1.rec (motive := fun _ => ((Option Blk) → ((Option Blk) → R) → R) → (B1 → R) → R) (fun x0 x1 x2 x3 x4 x5 x6 x7 f k => f x5 (fun x => k (B1.mk x0 x1 x2 x3 x4 x x6 x7))) r f k
def B1.s6 (r : B1) (x : (Option Blk)) : B1 := ⟨r.x0, r.x1, r.x2, r.x3, r.x4, r.x5, x, r.x7⟩
def B1.u6 (r : B1) (f : (Option Blk) → ((Option Blk) → R) → R) (k : B1 → R) : R := B1.rec (motive := fun _ => ((Option Blk) → ((Option Blk) → R) → R) → (B1 → R) → R) (fun x0 x1 x2 x3 x4 x5 x6 x7 f k => f x6 (fun x => k (B1.mk x0 x1 x2 x3 x4 x5 x x7))) r f k
def B1.s7 (r : B1) (x : (Option Blk)) : B1 := ⟨r.x0, r.x1, r.x2, r.x3, r.x4, r.x5, r.x6, x⟩
def B1.u7 (r : B1) (f : (Option Blk) → ((Option Blk) → R) → R) (k : B1 → R) : R := B1.rec (motive := fun _ => ((Option Blk) → ((Option Blk) → R) → R) → (B1 → R) → R) (fun x0 x1 x2 x3 x4 x5 x6 x7 f k => f x7 (fun x => k (B1.mk x0 x1 x2 x3 x4 x5 x6 x))) r f k
def B1.set (d : D8) (r : B1) (x : (Option Blk)) : B1 := D8.rec (motive := fun _ => B1 → (Option Blk) → B1) B1.s0 B1.s1 B1.s2 B1.s3 B1.s4 B1.s5 B1.s6 B1.s7 d r x
def B1.upd (d : D8) (r : B1) (f : (Option Blk) → ((Option Blk) → R) → R) (k : B1 → R) : R := D8.rec (motive := fun _ => B1 → ((Option Blk) → ((Option Blk) → R) → R) → (B1 → R) → R) B1.u0 B1.u1 B1.u2 B1.u3 B1.u4 B1.u5 B1.u6 B1.u7 d r f k
theorem B1.upd_eq (d : D8) (r : B1) (f : (Option Blk) → ((Option Blk) → R) → R) (k : B1 → R) : B1.upd d r f k = f (B1.sel d r) (fun x => k (B1.set d r x)) := by cases d <;> cases r <;> rfl
theorem B1.same (d : D8) (r : B1) (x : (Option Blk)) : B1.sel d (B1.set d r x) = x := by cases d <;> rfl
theorem B1.other (d e : D8) (r : B1) (x : (Option Blk)) (h : e ≠ d) : B1.sel e (B1.set d r x) = B1.sel e r := by cases d <;> cases e <;> first | rfl | exact absurd rfl h
/-! ### B2 -/
def B2.sel (d : D8) (r : B2) : B1 := D8.rec (motive := fun _ => B2 → B1) B2.x0 B2.x1 B2.x2 B2.x3 B2.x4 B2.x5 B2.x6 B2.x7 d r
def B2.s0 (r : B2) (x : B1) : B2 := ⟨x, r.x1, r.x2, r.x3, r.x4, r.x5, r.x6, r.x7⟩
def B2.u0 (r : B2) (f : B1 → (B1 → R) → R) (k : B2 → R) : R := B2.rec (motive := fun _ => (B1 → (B1 → R) → R) → (B2 → R) → R) (fun x0 x1 x2 x3 x4 x5 x6 x7 f k => f x0 (fun x => k (B2.mk x x1 x2 x3 x4 x5 x6 x7))) r f k
def B2.s1 (r : B2) (x : B1) : B2 := ⟨r.x0, x, r.x2, r.x3, r.x4, r.x5, r.x6, r.x7⟩
def B2.u1 (r : B2) (f : B1 → (B1 → R) → R) (k : B2 → R) : R := B2.rec (motive := fun _ => (B1 → (B1 → R) → R) → (B2 → R) → R) (fun x0 x1 x2 x3 x4 x5 x6 x7 f k => f x1 (fun x => k (B2.mk x0 x x2 x3 x4 x5 x6 x7))) r f k
def B2.s2 (r : B2) (x : B1) : B2 := ⟨r.x0, r.x1, x, r.x3, r.x4, r.x5, r.x6, r.x7⟩
def B2.u2 (r : B2) (f : B1 → (B1 → R) → R) (k : B2 → R) : R := B2.rec (motive := fun _ => (B1 → (B1 → R) → R) → (B2 → R) → R) (fun x0 x1 x2 x3 x4 x5 x6 x7 f k => f x2 (fun x => k (B2.mk x0 x1 x x3 x4 x5 x6 x7))) r f k
def B2.s3 (r : B2) (x : B1) : B2 := ⟨r.x0, r.x1, r.x2, x, r.x4, r.x5, r.x6, r.x7⟩
def B2.u3 (r : B2) (f : B1 → (B1 → R) → R) (k : B2 → R) : R := B2.rec (motive := fun _ => (B1 → (B1 → R) → R) → (B2 → R) → R) (fun x0 x1 x2 x3 x4 x5 x6 x7 f k => f x3 (fun x => k (B2.mk x0 x1 x2 x x4 x5 x6 x7))) r f k
def B2.s4 (r : B2) (x : B1) : B2 := ⟨r.x0, r.x1, r.x2, r.x3, x, r.x5, r.x6, r.x7⟩
def B2.u4 (r : B2) (f : B1 → (B1 → R) → R) (k : B2 → R) : R := B2.rec (motive := fun _ => (B1 → (B1 → R) → R) → (B2 → R) → R) (fun x0 x1 x2 x3 x4 x5 x6 x7 f k => f x4 (fun x => k (B2.mk x0 x1 x2 x3 x x5 x6 x7))) r f k
def B2.s5 (r : B2) (x : B1) : B2 := ⟨r.x0, r.x1, r.x2, r.x3, r.x4, x, r.x6, r.x7⟩
def B2.u5 (r : B2) (f : B1 → (B1 → R) → R) (k : B2 → R) : R := B2.rec (motive := fun _ => (B1 → (B1 → R) → R) → (B2 → R) → R) (fun x0 x1 x2 x3 x4 x5 x6 x7 f k => f x5 (fun x => k (B2.mk x0 x1 x2 x3 x4 x x6 x7))) r f k
def B2.s6 (r : B2) (x : B1) : B2 := ⟨r.x0, r.x1, r.x2, r.x3, r.x4, r.x5, x, r.x7⟩
def B2.u6 (r : B2) (f : B1 → (B1 → R) → R) (k : B2 → R) : R := B2.rec (motive := fun _ => (B1 → (B1 → R) → R) → (B2 → R) → R) (fun x0 x1 x2 x3 x4 x5 x6 x7 f k => f x6 (fun x => k (B2.mk x0 x1 x2 x3 x4 x5 x x7))) r f k
def B2.s7 (r : B2) (x : B1) : B2 := ⟨r.x0, r.x1, r.x2, r.x3, r.x4, r.x5, r.x6, x⟩
def B2.u7 (r : B2) (f : B1 → (B1 → R) → R) (k : B2 → R) : R := B2.rec (motive := fun _ => (B1 → (B1 → R) → R) → (B2 → R) → R) (fun x0 x1 x2 x3 x4 x5 x6 x7 f k => f x7 (fun x => k (B2.mk x0 x1 x2 x3 x4 x5 x6 x))) r f k
def B2.set (d : D8) (r : B2) (x : B1) : B2 := D8.rec (motive := fun _ => B2 → B1 → B2) B2.s0 B2.s1 B2.s2 B2.s3 B2.s4 B2.s5 B2.s6 B2.s7 d r x
def B2.upd (d : D8) (r : B2) (f : B1 → (B1 → R) → R) (k : B2 → R) : R := D8.rec (motive := fun _ => B2 → (B1 → (B1 → R) → R) → (B2 → R) → R) B2.u0 B2.u1 B2.u2 B2.u3 B2.u4 B2.u5 B2.u6 B2.u7 d r f k
theorem B2.upd_eq (d : D8) (r : B2) (f : B1 → (B1 → R) → R) (k : B2 → R) : B2.upd d r f k = f (B2.sel d r) (fun x => k (B2.set d r x)) := by cases d <;> cases r <;> rfl
theorem B2.same (d : D8) (r : B2) (x : B1) : B2.sel d (B2.set d r x) = x := by cases d <;> rfl
theorem B2.other (d e : D8) (r : B2) (x : B1) (h : e ≠ d) : B2.sel e (B2.set d r x) = B2.sel e r := by cases d <;> cases e <;> first | rfl | exact absurd rfl h
/-! ### B3 -/
def B3.sel (d : D8) (r : B3) : B2 := D8.rec (motive := fun _ => B3 → B2) B3.x0 B3.x1 B3.x2 B3.x3 B3.x4 B3.x5 B3.x6 B3.x7 d r
def B3.s0 (r : B3) (x : B2) : B3 := ⟨x, r.x1, r.x2, r.x3, r.x4, r.x5, r.x6, r.x7⟩
def B3.u0 (r : B3) (f : B2 → (B2 → R) → R) (k : B3 → R) : R := B3.rec (motive := fun _ => (B2 → (B2 → R) → R) → (B3 → R) → R) (fun x0 x1 x2 x3 x4 x5 x6 x7 f k => f x0 (fun x => k (B3.mk x x1 x2 x3 x4 x5 x6 x7))) r f k
def B3.s1 (r : B3) (x : B2) : B3 := ⟨r.x0, x, r.x2, r.x3, r.x4, r.x5, r.x6, r.x7⟩
def B3.u1 (r : B3) (f : B2 → (B2 → R) → R) (k : B3 → R) : R := B3.rec (motive := fun _ => (B2 → (B2 → R) → R) → (B3 → R) → R) (fun x0 x1 x2 x3 x4 x5 x6 x7 f k => f x1 (fun x => k (B3.mk x0 x x2 x3 x4 x5 x6 x7))) r f k
def B3.s2 (r : B3) (x : B2) : B3 := ⟨r.x0, r.x1, x, r.x3, r.x4, r.x5, r.x6, r.x7⟩
def B3.u2 (r : B3) (f : B2 → (B2 → R) → R) (k : B3 → R) : R := B3.rec (motive := fun _ => (B2 → (B2 → R) → R) → (B3 → R) → R) (fun x0 x1 x2 x3 x4 x5 x6 x7 f k => f x2 (fun x => k (B3.mk x0 x1 x x3 x4 x5 x6 x7))) r f k
def B3.s3 (r : B3) (x : B2) : B3 := ⟨r.x0, r.x1, r.x2, x, r.x4, r.x5, r.x6, r.x7⟩
def B3.u3 (r : B3) (f : B2 → (B2 → R) → R) (k : B3 → R) : R := B3.rec (motive := fun _ => (B2 → (B2 → R) → R) → (B3 → R) → R) (fun x0 x1 x2 x3 x4 x5 x6 x7 f k => f x3 (fun x => k (B3.mk x0 x1 x2 x x4 x5 x6 x7))) r f k
def B3.s4 (r : B3) (x : B2) : B3 := ⟨r.x0, r.x1, r.x2, r.x3, x, r.x5, r.x6, r.x7⟩
def B3.u4 (r : B3) (f : B2 → (B2 → R) → R) (k : B3 → R) : R := B3.rec (motive := fun _ => (B2 → (B2 → R) → R) → (B3 → R) → R) (fun x0 x1 x2 x3 x4 x5 x6 x7 f k => f x4 (fun x => k (B3.mk x0 x1 x2 x3 x x5 x6 x7))) r f k
def B3.s5 (r : B3) (x : B2) : B3 := ⟨r.x0, r.x1, r.x2, r.x3, r.x4, x, r.x6, r.x7⟩
def B3.u5 (r : B3) (f : B2 → (B2 → R) → R) (k : B3 → R) : R := B3.rec (motive := fun _ => (B2 → (B2 → R) → R) → (B3 → R) → R) (fun x0 x1 x2 x3 x4 x5 x6 x7 f k => f x5 (fun x => k (B3.mk x0 x1 x2 x3 x4 x x6 x7))) r f k
def B3.s6 (r : B3) (x : B2) : B3 := ⟨r.x0, r.x1, r.x2, r.x3, r.x4, r.x5, x, r.x7⟩
def B3.u6 (r : B3) (f : B2 → (B2 → R) → R) (k : B3 → R) : R := B3.rec (motive := fun _ => (B2 → (B2 → R) → R) → (B3 → R) → R) (fun x0 x1 x2 x3 x4 x5 x6 x7 f k => f x6 (fun x => k (B3.mk x0 x1 x2 x3 x4 x5 x x7))) r f k
def B3.s7 (r : B3) (x : B2) : B3 := ⟨r.x0, r.x1, r.x2, r.x3, r.x4, r.x5, r.x6, x⟩
def B3.u7 (r : B3) (f : B2 → (B2 → R) → R) (k : B3 → R) : R := B3.rec (motive := fun _ => (B2 → (B2 → R) → R) → (B3 → R) → R) (fun x0 x1 x2 x3 x4 x5 x6 x7 f k => f x7 (fun x => k (B3.mk x0 x1 x2 x3 x4 x5 x6 x))) r f k
def B3.set (d : D8) (r : B3) (x : B2) : B3 := D8.rec (motive := fun _ => B3 → B2 → B3) B3.s0 B3.s1 B3.s2 B3.s3 B3.s4 B3.s5 B3.s6 B3.s7 d r x
def B3.upd (d : D8) (r : B3) (f : B2 → (B2 → R) → R) (k : B3 → R) : R := D8.rec (motive := fun _ => B3 → (B2 → (B2 → R) → R) → (B3 → R) → R) B3.u0 B3.u1 B3.u2 B3.u3 B3.u4 B3.u5 B3.u6 B3.u7 d r f k
theorem B3.upd_eq (d : D8) (r : B3) (f : B2 → (B2 → R) → R) (k : B3 → R) : B3.upd d r f k = f (B3.sel d r) (fun x => k (B3.set d r x)) := by cases d <;> cases r <;> rfl
theorem B3.same (d : D8) (r : B3) (x : B2) : B3.sel d (B3.set d r x) = x := by cases d <;> rfl
theorem B3.other (d e : D8) (r : B3) (x : B2) (h : e ≠ d) : B3.sel e (B3.set d r x) = B3.sel e r := by cases d <;> cases e <;> first | rfl | exact absurd rfl h
/-! ### B4 -/
def B4.sel (d : D8) (r : B4) : B3 := D8.rec (motive := fun _ => B4 → B3) B4.x0 B4.x1 B4.x2 B4.x3 B4.x4 B4.x5 B4.x6 B4.x7 d r
def B4.s0 (r : B4) (x : B3) : B4 := ⟨x, r.x1, r.x2, r.x3, r.x4, r.x5, r.x6, r.x7⟩
def B4.u0 (r : B4) (f : B3 → (B3 → R) → R) (k : B4 → R) : R := B4.rec (motive := fun _ => (B3 → (B3 → R) → R) → (B4 → R) → R) (fun x0 x1 x2 x3 x4 x5 x6 x7 f k => f x0 (fun x => k (B4.mk x x1 x2 x3 x4 x5 x6 x7))) r f k
def B4.s1 (r : B4) (x : B3) : B4 := ⟨r.x0, x, r.x2, r.x3, r.x4, r.x5, r.x6, r.x7⟩
def B4.u1 (r : B4) (f : B3 → (B3 → R) → R) (k : B4 → R) : R := B4.rec (motive := fun _ => (B3 → (B3 → R) → R) → (B4 → R) → R) (fun x0 x1 x2 x3 x4 x5 x6 x7 f k => f x1 (fun x => k (B4.mk x0 x x2 x3 x4 x5 x6 x7))) r f k
def B4.s2 (r : B4) (x : B3) : B4 := ⟨r.x0, r.x1, x, r.x3, r.x4, r.x5, r.x6, r.x7⟩
def B4.u2 (r : B4) (f : B3 → (B3 → R) → R) (k : B4 → R) : R := B4.rec (motive := fun _ => (B3 → (B3 → R) → R) → (B4 → R) → R) (fun x0 x1 x2 x3 x4 x5 x6 x7 f k => f x2 (fun x => k (B4.mk x0 x1 x x3 x4 x5 x6 x7))) r f k
def B4.s3 (r : B4) (x : B3) : B4 := ⟨r.x0, r.x1, r.x2, x, r.x4, r.x5, r.x6, r.x7⟩
def B4.u3 (r : B4) (f : B3 → (B3 → R) → R) (k : B4 → R) : R := B4.rec (motive := fun _ => (B3 → (B3 → R) → R) → (B4 → R) → R) (fun x0 x1 x2 x3 x4 x5 x6 x7 f k => f x3 (fun x => k (B4.mk x0 x1 x2 x x4 x5 x6 x7))) r f k
def B4.s4 (r : B4) (x : B3) : B4 := ⟨r.x0, r.x1, r.x2, r.x3, x, r.x5, r.x6, r.x7⟩
def B4.u4 (r : B4) (f : B3 → (B3 → R) → R) (k : B4 → R) : R := B4.rec (motive := fun _ => (B3 → (B3 → R) → R) → (B4 → R) → R) (fun x0 x1 x2 x3 x4 x5 x6 x7 f k => f x4 (fun x => k (B4.mk x0 x1 x2 x3 x x5 x6 x7))) r f k
def B4.s5 (r : B4) (x : B3) : B4 := ⟨r.x0, r.x1, r.x2, r.x3, r.x4, x, r.x6, r.x7⟩
def B4.u5 (r : B4) (f : B3 → (B3 → R) → R) (k : B4 → R) : R := B4.rec (motive := fun _ => (B3 → (B3 → R) → R) → (B4 → R) → R) (fun x0 x1 x2 x3 x4 x5 x6 x7 f k => f x5 (fun x => k (B4.mk x0 x1 x2 x3 x4 x x6 x7))) r f k
def B4.s6 (r : B4) (x : B3) : B4 := ⟨r.x0, r.x1, r.x2, r.x3, r.x4, r.x5, x, r.x7⟩
def B4.u6 (r : B4) (f : B3 → (B3 → R) → R) (k : B4 → R) : R := B4.rec (motive := fun _ => (B3 → (B3 → R) → R) → (B4 → R) → R) (fun x0 x1 x2 x3 x4 x5 x6 x7 f k => f x6 (fun x => k (B4.mk x0 x1 x2 x3 x4 x5 x x7))) r f k
def B4.s7 (r : B4) (x : B3) : B4 := ⟨r.x0, r.x1, r.x2, r.x3, r.x4, r.x5, r.x6, x⟩
def B4.u7 (r : B4) (f : B3 → (B3 → R) → R) (k : B4 → R) : R := B4.rec (motive := fun _ => (B3 → (B3 → R) → R) → (B4 → R) → R) (fun x0 x1 x2 x3 x4 x5 x6 x7 f k => f x7 (fun x => k (B4.mk x0 x1 x2 x3 x4 x5 x6 x))) r f k
def B4.set (d : D8) (r : B4) (x : B3) : B4 := D8.rec (motive := fun _ => B4 → B3 → B4) B4.s0 B4.s1 B4.s2 B4.s3 B4.s4 B4.s5 B4.s6 B4.s7 d r x
def B4.upd (d : D8) (r : B4) (f : B3 → (B3 → R) → R) (k : B4 → R) : R := D8.rec (motive := fun _ => B4 → (B3 → (B3 → R) → R) → (B4 → R) → R) B4.u0 B4.u1 B4.u2 B4.u3 B4.u4 B4.u5 B4.u6 B4.u7 d r f k
theorem B4.upd_eq (d : D8) (r : B4) (f : B3 → (B3 → R) → R) (k : B4 → R) : B4.upd d r f k = f (B4.sel d r) (fun x => k (B4.set d r x)) := by cases d <;> cases r <;> rfl
theorem B4.same (d : D8) (r : B4) (x : B3) : B4.sel d (B4.set d r x) = x := by cases d <;> rfl
theorem B4.other (d e : D8) (r : B4) (x : B3) (h : e ≠ d) : B4.sel e (B4.set d r x) = B4.sel e r := by cases d <;> cases e <;> first | rfl | exact absurd rfl h
/-! ### B5 -/
def B5.sel (d : D8) (r : B5) : B4 := D8.rec (motive := fun _ => B5 → B4) B5.x0 B5.x1 B5.x2 B5.x3 B5.x4 B5.x5 B5.x6 B5.x7 d r
def B5.s0 (r : B5) (x : B4) : B5 := ⟨x, r.x1, r.x2, r.x3, r.x4, r.x5, r.x6, r.x7⟩
def B5.u0 (r : B5) (f : B4 → (B4 → R) → R) (k : B5 → R) : R := B5.rec (motive := fun _ => (B4 → (B4 → R) → R) → (B5 → R) → R) (fun x0 x1 x2 x3 x4 x5 x6 x7 f k => f x0 (fun x => k (B5.mk x x1 x2 x3 x4 x5 x6 x7))) r f k
def B5.s1 (r : B5) (x : B4) : B5 := ⟨r.x0, x, r.x2, r.x3, r.x4, r.x5, r.x6, r.x7⟩
def B5.u1 (r : B5) (f : B4 → (B4 → R) → R) (k : B5 → R) : R := B5.rec (motive := fun _ => (B4 → (B4 → R) → R) → (B5 → R) → R) (fun x0 x1 x2 x3 x4 x5 x6 x7 f k => f x1 (fun x => k (B5.mk x0 x x2 x3 x4 x5 x6 x7))) r f k
def B5.s2 (r : B5) (x : B4) : B5 := ⟨r.x0, r.x1, x, r.x3, r.x4, r.x5, r.x6, r.x7⟩
def B5.u2 (r : B5) (f : B4 → (B4 → R) → R) (k : B5 → R) : R := B5.rec (motive := fun _ => (B4 → (B4 → R) → R) → (B5 → R) → R) (fun x0 x1 x2 x3 x4 x5 x6 x7 f k => f x2 (fun x => k (B5.mk x0 x1 x x3 x4 x5 x6 x7))) r f k
def B5.s3 (r : B5) (x : B4) : B5 := ⟨r.x0, r.x1, r.x2, x, r.x4, r.x5, r.x6, r.x7⟩
def B5.u3 (r : B5) (f : B4 → (B4 → R) → R) (k : B5 → R) : R := B5.rec (motive := fun _ => (B4 → (B4 → R) → R) → (B5 → R) → R) (fun x0 x1 x2 x3 x4 x5 x6 x7 f k => f x3 (fun x => k (B5.mk x0 x1 x2 x x4 x5 x6 x7))) r f k
def B5.s4 (r : B5) (x : B4) : B5 := ⟨r.x0, r.x1, r.x2, r.x3, x, r.x5, r.x6, r.x7⟩
def B5.u4 (r : B5) (f : B4 → (B4 → R) → R) (k : B5 → R) : R := B5.rec (motive := fun _ => (B4 → (B4 → R) → R) → (B5 → R) → R) (fun x0 x1 x2 x3 x4 x5 x6 x7 f k => f x4 (fun x => k (B5.mk x0 x1 x2 x3 x x5 x6 x7))) r f k
def B5.s5 (r : B5) (x : B4) : B5 := ⟨r.x0, r.x1, r.x2, r.x3, r.x4, x, r.x6, r.x7⟩
def B5.u5 (r : B5) (f : B4 → (B4 → R) → R) (k : B5 → R) : R := B5.rec (motive := fun _ => (B4 → (B4 → R) → R) → (B5 → R) → R) (fun x0 x1 x2 x3 x4 x5 x6 x7 f k => f x5 (fun x => k (B5.mk x0 x1 x2 x3 x4 x x6 x7))) r f k
def B5.s6 (r : B5) (x : B4) : B5 := ⟨r.x0, r.x1, r.x2, r.x3, r.x4, r.x5, x, r.x7⟩
def B5.u6 (r : B5) (f : B4 → (B4 → R) → R) (k : B5 → R) : R := B5.rec (motive := fun _ => (B4 → (B4 → R) → R) → (B5 → R) → R) (fun x0 x1 x2 x3 x4 x5 x6 x7 f k => f x6 (fun x => k (B5.mk x0 x1 x2 x3 x4 x5 x x7))) r f k
def B5.s7 (r : B5) (x : B4) : B5 := ⟨r.x0, r.x1, r.x2, r.x3, r.x4, r.x5, r.x6, x⟩
def B5.u7 (r : B5) (f : B4 → (B4 → R) → R) (k : B5 → R) : R := B5.rec (motive := fun _ => (B4 → (B4 → R) → R) → (B5 → R) → R) (fun x0 x1 x2 x3 x4 x5 x6 x7 f k => f x7 (fun x => k (B5.mk x0 x1 x2 x3 x4 x5 x6 x))) r f k
def B5.set (d : D8) (r : B5) (x : B4) : B5 := D8.rec (motive := fun _ => B5 → B4 → B5) B5.s0 B5.s1 B5.s2 B5.s3 B5.s4 B5.s5 B5.s6 B5.s7 d r x
def B5.upd (d : D8) (r : B5) (f : B4 → (B4 → R) → R) (k : B5 → R) : R := D8.rec (motive := fun _ => B5 → (B4 → (B4 → R) → R) → (B5 → R) → R) B5.u0 B5.u1 B5.u2 B5.u3 B5.u4 B5.u5 B5.u6 B5.u7 d r f k
theorem B5.upd_eq (d : D8) (r : B5) (f : B4 → (B4 → R) → R) (k : B5 → R) : B5.upd d r f k = f (B5.sel d r) (fun x => k (B5.set d r x)) := by cases d <;> cases r <;> rfl
theorem B5.same (d : D8) (r : B5) (x : B4) : B5.sel d (B5.set d r x) = x := by cases d <;> rfl
theorem B5.other (d e : D8) (r : B5) (x : B4) (h : e ≠ d) : B5.sel e (B5.set d r x) = B5.sel e r := by cases d <;> cases e <;> first | rfl | exact absurd rfl h
def A1.at1 (d0 : D8) (r : A1) : AV := A1.sel d0 r
def A1.put1 (d0 : D8) (r : A1) (v : AV) : A1 := A1.set d0 r v
def A1.putK1 (d0 : D8) (r : A1) (v : AV) (k : A1 → R) : R := A1.upd d0 r (fun _ k => k v) k
theorem A1.putK_eq (d0 : D8) (r : A1) (v : AV) (k : A1 → R) : A1.putK1 d0 r v k = k (A1.put1 d0 r v) := by unfold A1.putK1; rw [A1.upd_eq]; rfl
theorem A1.at_same (d0 : D8) (r : A1) (v : AV) : A1.at1 d0 (A1.put1 d0 r v) = v := A1.same _ _ _
theorem A1.at_other (d0 e0 : D8) (r : A1) (v : AV) (h : ¬ (e0 = d0)) : A1.at1 e0 (A1.put1 d0 r v) = A1.at1 e0 r := A1.other _ _ _ _ h
def A2.at2 (d1 d0 : D8) (r : A2) : AV := A1.at1 d0 (A2.sel d1 r)
def A2.put2 (d1 d0 : D8) (r : A2) (v : AV) : A2 := A2.set d1 r (A1.put1 d0 (A2.sel d1 r) v)
def A2.putK2 (d1 d0 : D8) (r : A2) (v : AV) (k : A2 → R) : R := A2.upd d1 r (fun y k => A1.putK1 d0 y v k) k
theorem A2.putK_eq (d1 d0 : D8) (r : A2) (v : AV) (k : A2 → R) : A2.putK2 d1 d0 r v k = k (A2.put2 d1 d0 r v) := by unfold A2.putK2; rw [A2.upd_eq, A1.putK_eq]; rfl
theorem A2.at_same (d1 d0 : D8) (r : A2) (v : AV) : A2.at2 d1 d0 (A2.put2 d1 d0 r v) = v := by unfold A2.at2 A2.put2; rw [A2.same, A1.at_same]
theorem A2.at_other (d1 d0 e1 e0 : D8) (r : A2) (v : AV) (h : ¬ (e1 = d1 ∧ e0 = d0)) : A2.at2 e1 e0 (A2.put2 d1 d0 r v) = A2.at2 e1 e0 r := by
  unfold A2.at2 A2.put2
  by_cases hd : e1 = d1
  · subst hd
    rw [A2.same, A1.at_other]
    intro h2
    exact h ⟨rfl, h2⟩
  · rw [A2.other _ _ _ _ hd]
def A3.at3 (d2 d1 d0 : D8) (r : A3) : AV := A2.at2 d1 d0 (A3.sel d2 r)
def A3.put3 (d2 d1 d0 : D8) (r : A3) (v : AV) : A3 := A3.set d2 r (A2.put2 d1 d0 (A3.sel d2 r) v)
def A3.putK3 (d2 d1 d0 : D8) (r : A3) (v : AV) (k : A3 → R) : R := A3.upd d2 r (fun y k => A2.putK2 d1 d0 y v k) k
theorem A3.putK_eq (d2 d1 d0 : D8) (r : A3) (v : AV) (k : A3 → R) : A3.putK3 d2 d1 d0 r v k = k (A3.put3 d2 d1 d0 r v) := by unfold A3.putK3; rw [A3.upd_eq, A2.putK_eq]; rfl
theorem A3.at_same (d2 d1 d0 : D8) (r : A3) (v : AV) : A3.at3 d2 d1 d0 (A3.put3 d2 d1 d0 r v) = v := by unfold A3.at3 A3.put3; rw [A3.same, A2.at_same]
theorem A3.at_other (d2 d1 d0 e2 e1 e0 : D8) (r : A3) (v : AV) (h : ¬ (e2 = d2 ∧ e1 = d1 ∧ e0 = d0)) : A3.at3 e2 e1 e0 (A3.put3 d2 d1 d0 r v) = A3.at3 e2 e1 e0 r := by
  unfold A3.at3 A3.put3
  by_cases hd : e2 = d2
  · subst hd
    rw [A3.same, A2.at_other]
    intro h2
    exact h ⟨rfl, h2⟩
  · rw [A3.other _ _ _ _ hd]
def A4.at4 (d3 d2 d1 d0 : D8) (r : A4) : AV := A3.at3 d2 d1 d0 (A4.sel d3 r)
def A4.put4 (d3 d2 d1 d0 : D8) (r : A4) (v : AV) : A4 := A4.set d3 r (A3.put3 d2 d1 d0 (A4.sel d3 r) v)
def A4.putK4 (d3 d2 d1 d0 : D8) (r : A4) (v : AV) (k : A4 → R) : R := A4.upd d3 r (fun y k => A3.putK3 d2 d1 d0 y v k) k
theorem A4.putK_eq (d3 d2 d1 d0 : D8) (r : A4) (v : AV) (k : A4 → R) : A4.putK4 d3 d2 d1 d0 r v k = k (A4.put4 d3 d2 d1 d0 r v) := by unfold A4.putK4; rw [A4.upd_eq, A3.putK_eq]; rfl
theorem A4.at_same (d3 d2 d1 d0 : D8) (r : A4) (v : AV) : A4.at4 d3 d2 d1 d0 (A4.put4 d3 d2 d1 d0 r v) = v := by unfold A4.at4 A4.put4; rw [A4.same, A3.at_same]
theorem A4.at_other (d3 d2 d1 d0 e3 e2 e1 e0 : D8) (r : A4) (v : AV) (h : ¬ (e3 = d3 ∧ e2 = d2 ∧ e1 = d1 ∧ e0 = d0)) : A4.at4 e3 e2 e1 e0 (A4.put4 d3 d2 d1 d0 r v) = A4.at4 e3 e2 e1 e0 r := by
  unfold A4.at4 A4.put4
  by_cases hd : e3 = d3
  · subst hd
    rw [A4.same, A3.at_other]
    intro h2
    exact h ⟨rfl, h2⟩
  · rw [A4.other _ _ _ _ hd]
def B1.at1 (d0 : D8) (r : B1) : (Option Blk) := B1.sel d0 r
def B1.put1 (d0 : D8) (r : B1) (v : (Option Blk)) : B1 := B1.set d0 r v
def B1.putK1 (d0 : D8) (r : B1) (v : (Option Blk)) (k : B1 → R) : R := B1.upd d0 r (fun _ k => k v) k
theorem B1.putK_eq (d0 : D8) (r : B1) (v : (Option Blk)) (k : B1 → R) : B1.putK1 d0 r v k = k (B1.put1 d0 r v) := by unfold B1.putK1; rw [B1.upd_eq]; rfl
theorem B1.at_same (d0 : D8) (r : B1) (v : (Option Blk)) : B1.at1 d0 (B1.put1 d0 r v) = v := B1.same _ _ _
theorem B1.at_other (d0 e0 : D8) (r : B1) (v : (Option Blk)) (h : ¬ (e0 = d0)) : B1.at1 e0 (B1.put1 d0 r v) = B1.at1 e0 r := B1.other _ _ _ _ h
def B2.at2 (d1 d0 : D8) (r : B2) : (Option Blk) := B1.at1 d0 (B2.sel d1 r)
def B2.put2 (d1 d0 : D8) (r : B2) (v : (Option Blk)) : B2 := B2.set d1 r (B1.put1 d0 (B2.sel d1 r) v)
def B2.putK2 (d1 d0 : D8) (r : B2) (v : (Option Blk)) (k : B2 → R) : R := B2.upd d1 r (fun y k => B1.putK1 d0 y v k) k
theorem B2.putK_eq (d1 d0 : D8) (r : B2) (v : (Option Blk)) (k : B2 → R) : B2.putK2 d1 d0 r v k = k (B2.put2 d1 d0 r v) := by unfold B2.putK2; rw [B2.upd_eq, B1.putK_eq]; rfl
theorem B2.at_same (d1 d0 : D8) (r : B2) (v : (Option Blk)) : B2.at2 d1 d0 (B2.put2 d1 d0 r v) = v := by unfold B2.at2 B2.put2; rw [B2.same, B1.at_same]
theorem B2.at_other (d1 d0 e1 e0 : D8) (r : B2) (v : (Option Blk)) (h : ¬ (e1 = d1 ∧ e0 = d0)) : B2.at2 e1 e0 (B2.put2 d1 d0 r v) = B2.at2 e1 e0 r := by
  unfold B2.at2 B2.put2
  by_cases hd : e1 = d1
  · subst hd
    rw [B2.same, B1.at_other]
    intro h2
    exact h ⟨rfl, h2⟩
  · rw [B2.other _ _ _ _ hd]
def B3.at3 (d2 d1 d0 : D8) (r : B3) : (Option Blk) := B2.at2 d1 d0 (B3.sel d2 r)
def B3.put3 (d2 d1 d0 : D8) (r : B3) (v : (Option Blk)) : B3 := B3.set d2 r (B2.put2 d1 d0 (B3.sel d2 r) v)
def B3.putK3 (d2 d1 d0 : D8) (r : B3) (v : (Option Blk)) (k : B3 → R) : R := B3.upd d2 r (fun y k => B2.putK2 d1 d0 y v k) k
theorem B3.putK_eq (d2 d1 d0 : D8) (r : B3) (v : (Option Blk)) (k : B3 → R) : B3.putK3 d2 d1 d0 r v k = k (B3.put3 d2 d1 d0 r v) := by unfold B3.putK3; rw [B3.upd_eq, B2.putK_eq]; rfl
theorem B3.at_same (d2 d1 d0 : D8) (r : B3) (v : (Option Blk)) : B3.at3 d2 d1 d0 (B3.put3 d2 d1 d0 r v) = v := by unfold B3.at3 B3.put3; rw [B3.same, B2.at_same]
theorem B3.at_other (d2 d1 d0 e2 e1 e0 : D8) (r : B3) (v : (Option Blk)) (h : ¬ (e2 = d2 ∧ e1 = d1 ∧ e0 = d0)) : B3.at3 e2 e1 e0 (B3.put3 d2 d1 d0 r v) = B3.at3 e2 e1 e0 r := by
  unfold B3.at3 B3.put3
  by_cases hd : e2 = d2
  · subst hd
    rw [B3.same, B2.at_other]
    intro h2
    exact h ⟨rfl, h2⟩
  · rw [B3.other _ _ _ _ hd]
def B4.at4 (d3 d2 d1 d0 : D8) (r : B4) : (Option Blk) := B3.at3 d2 d1 d0 (B4.sel d3 r)
def B4.put4 (d3 d2 d1 d0 : D8) (r : B4) (v : (Option Blk)) : B4 := B4.set d3 r (B3.put3 d2 d1 d0 (B4.sel d3 r) v)
def B4.putK4 (d3 d2 d1 d0 : D8) (r : B4) (v : (Option Blk)) (k : B4 → R) : R := B4.upd d3 r (fun y k => B3.putK3 d2 d1 d0 y v k) k
theorem B4.putK_eq (d3 d2 d1 d0 : D8) (r : B4) (v : (Option Blk)) (k : B4 → R) : B4.putK4 d3 d2 d1 d0 r v k = k (B4.put4 d3 d2 d1 d0 r v) := by unfold B4.putK4; rw [B4.upd_eq, B3.putK_eq]; rfl
theorem B4.at_same (d3 d2 d1 d0 : D8) (r : B4) (v : (Option Blk)) : B4.at4 d3 d2 d1 d0 (B4.put4 d3 d2 d1 d0 r v) = v := by unfold B4.at4 B4.put4; rw [B4.same, B3.at_same]
theorem B4.at_other (d3 d2 d1 d0 e3 e2 e1 e0 : D8) (r : B4) (v : (Option Blk)) (h : ¬ (e3 = d3 ∧ e2 = d2 ∧ e1 = d1 ∧ e0 = d0)) : B4.at4 e3 e2 e1 e0 (B4.put4 d3 d2 d1 d0 r v) = B4.at4 e3 e2 e1 e0 r := by
  unfold B4.at4 B4.put4
  by_cases hd : e3 = d3
  · subst hd
    rw [B4.same, B3.at_other]
    intro h2
    exact h ⟨rfl, h2⟩
  · rw [B4.other _ _ _ _ hd]
def B5.at5 (d4 d3 d2 d1 d0 : D8) (r : B5) : (Option Blk) := B4.at4 d3 d2 d1 d0 (B5.sel d4 r)
def B5.put5 (d4 d3 d2 d1 d0 : D8) (r : B5) (v : (Option Blk)) : B5 := B5.set d4 r (B4.put4 d3 d2 d1 d0 (B5.sel d4 r) v)
def B5.putK5 (d4 d3 d2 d1 d0 : D8) (r : B5) (v : (Option Blk)) (k : B5 → R) : R := B5.upd d4 r (fun y k => B4.putK4 d3 d2 d1 d0 y v k) k
theorem B5.putK_eq (d4 d3 d2 d1 d0 : D8) (r : B5) (v : (Option Blk)) (k : B5 → R) : B5.putK5 d4 d3 d2 d1 d0 r v k = k (B5.put5 d4 d3 d2 d1 d0 r v) := by unfold B5.putK5; rw [B5.upd_eq, B4.putK_eq]; rfl
theorem B5.at_same (d4 d3 d2 d1 d0 : D8) (r : B5) (v : (Option Blk)) : B5.at5 d4 d3 d2 d1 d0 (B5.put5 d4 d3 d2 d1 d0 r v) = v := by unfold B5.at5 B5.put5; rw [B5.same, B4.at_same]
theorem B5.at_other (d4 d3 d2 d1 d0 e4 e3 e2 e1 e0 : D8) (r : B5) (v : (Option Blk)) (h : ¬ (e4 = d4 ∧ e3 = d3 ∧ e2 = d2 ∧ e1 = d1 ∧ e0 = d0)) : B5.at5 e4 e3 e2 e1 e0 (B5.put5 d4 d3 d2 d1 d0 r v) = B5.at5 e4 e3 e2 e1 e0 r := by
  unfold B5.at5 B5.put5
  by_cases hd : e4 = d4
  · subst hd
    rw [B5.same, B4.at_other]
    intro h2
    exact h ⟨rfl, h2⟩
  · rw [B5.other _ _ _ _ hd]
structure P1 where
  (d0 : D8)
def path1 (k : Nat) : P1 := P1.mk (dig (Nat.mod k 8))
theorem path1_inj {k j : Nat} (hk : k < 8) (hj : j < 8) (h : dig (Nat.mod k 8) = dig (Nat.mod j 8)) : k = j := by
  have h0 := h
  have g0 := dig_inj (Nat.mod_lt _ (by decide)) (Nat.mod_lt _ (by decide)) h0
  change k % 8 = j % 8 at g0
  omega
structure P2 where
  (d1 d0 : D8)
def path2 (k : Nat) : P2 := P2.mk (dig (Nat.mod (Nat.div k 8) 8)) (dig (Nat.mod k 8))
theorem path2_inj {k j : Nat} (hk : k < 64) (hj : j < 64) (h : dig (Nat.mod (Nat.div k 8) 8) = dig (Nat.mod (Nat.div j 8) 8) ∧ dig (Nat.mod k 8) = dig (Nat.mod j 8)) : k = j := by
  obtain ⟨h1, h0⟩ := h
  have g0 := dig_inj (Nat.mod_lt _ (by decide)) (Nat.mod_lt _ (by decide)) h0
  have g1 := dig_inj (Nat.mod_lt _ (by decide)) (Nat.mod_lt _ (by decide)) h1
  change k % 8 = j % 8 at g0
  change k / 8 % 8 = j / 8 % 8 at g1
  omega
structure P3 where
  (d2 d1 d0 : D8)
def path3 (k : Nat) : P3 := P3.mk (dig (Nat.mod (Nat.div k 64) 8)) (dig (Nat.mod (Nat.div k 8) 8)) (dig (Nat.mod k 8))
theorem path3_inj {k j : Nat} (hk : k < 512) (hj : j < 512) (h : dig (Nat.mod (Nat.div k 64) 8) = dig (Nat.mod (Nat.div j 64) 8) ∧ dig (Nat.mod (Nat.div k 8) 8) = dig (Nat.mod (Nat.div j 8) 8) ∧ dig (Nat.mod k 8) = dig (Nat.mod j 8)) : k = j := by
  obtain ⟨h2, h1, h0⟩ := h
  have g0 := dig_inj (Nat.mod_lt _ (by decide)) (Nat.mod_lt _ (by decide)) h0
  have g1 := dig_inj (Nat.mod_lt _ (by decide)) (Nat.mod_lt _ (by decide)) h1
  have g2 := dig_inj (Nat.mod_lt _ (by decide)) (Nat.mod_lt _ (by decide)) h2
  change k % 8 = j % 8 at g0
  change k / 8 % 8 = j / 8 % 8 at g1
  change k / 64 % 8 = j / 64 % 8 at g2
  omega
structure P4 where
  (d3 d2 d1 d0 : D8)
def path4 (k : Nat) : P4 := P4.mk (dig (Nat.mod (Nat.div k 512) 8)) (dig (Nat.mod (Nat.div k 64) 8)) (dig (Nat.mod (Nat.div k 8) 8)) (dig (Nat.mod k 8))
theorem path4_inj {k j : Nat} (hk : k < 4096) (hj : j < 4096) (h : dig (Nat.mod (Nat.div k 512) 8) = dig (Nat.mod (Nat.div j 512) 8) ∧ dig (Nat.mod (Nat.div k 64) 8) = dig (Nat.mod (Nat.div j 64) 8) ∧ dig (Nat.mod (Nat.div k 8) 8) = dig (Nat.mod (Nat.div j 8) 8) ∧ dig (Nat.mod k 8) = dig (Nat.mod j 8)) : k = j := by
  obtain ⟨h3, h2, h1, h0⟩ := h
  have g0 := dig_inj (Nat.mod_lt _ (by decide)) (Nat.mod_lt _ (by decide)) h0
  have g1 := dig_inj (Nat.mod_lt _ (by decide)) (Nat.mod_lt _ (by decide)) h1
  have g2 := dig_inj (Nat.mod_lt _ (by decide)) (Nat.mod_lt _ (by decide)) h2
  have g3 := dig_inj (Nat.mod_lt _ (by decide)) (Nat.mod_lt _ (by decide)) h3
  change k % 8 = j % 8 at g0
  change k / 8 % 8 = j / 8 % 8 at g1
  change k / 64 % 8 = j / 64 % 8 at g2
  change k / 512 % 8 = j / 512 % 8 at g3
  omega
structure P5 where
  (d4 d3 d2 d1 d0 : D8)
def path5 (k : Nat) : P5 := P5.mk (dig (Nat.mod (Nat.div k 4096) 8)) (dig (Nat.mod (Nat.div k 512) 8)) (dig (Nat.mod (Nat.div k 64) 8)) (dig (Nat.mod (Nat.div k 8) 8)) (dig (Nat.mod k 8))
theorem path5_inj {k j : Nat} (hk : k < 32768) (hj : j < 32768) (h : dig (Nat.mod (Nat.div k 4096) 8) = dig (Nat.mod (Nat.div j 4096) 8) ∧ dig (Nat.mod (Nat.div k 512) 8) = dig (Nat.mod (Nat.div j 512) 8) ∧ dig (Nat.mod (Nat.div k 64) 8) = dig (Nat.mod (Nat.div j 64) 8) ∧ dig (Nat.mod (Nat.div k 8) 8) = dig (Nat.mod (Nat.div j 8) 8) ∧ dig (Nat.mod k 8) = dig (Nat.mod j 8)) : k = j := by
  obtain ⟨h4, h3, h2, h1, h0⟩ := h
  have g0 := dig_inj (Nat.mod_lt _ (by decide)) (Nat.mod_lt _ (by decide)) h0
  have g1 := dig_inj (Nat.mod_lt _ (by decide)) (Nat.mod_lt _ (by decide)) h1
  have g2 := dig_inj (Nat.mod_lt _ (by decide)) (Nat.mod_lt _ (by decide)) h2
  have g3 := dig_inj (Nat.mod_lt _ (by decide)) (Nat.mod_lt _ (by decide)) h3
  have g4 := dig_inj (Nat.mod_lt _ (by decide)) (Nat.mod_lt _ (by decide)) h4
  change k % 8 = j % 8 at g0
  change k / 8 % 8 = j / 8 % 8 at g1
  change k / 64 % 8 = j / 64 % 8 at g2
  change k / 512 % 8 = j / 512 % 8 at g3
  change k / 4096 % 8 = j / 4096 % 8 at g4
  omega
def A1.get (r : A1) (k : Nat) : AV := P1.rec (motive := fun _ => A1 → AV) (fun d0 r => A1.at1 d0 r) (path1 k) r
def A1.put (r : A1) (k : Nat) (v : AV) : A1 := A1.put1 (dig (Nat.mod k 8)) r v
def A1.putK (r : A1) (k : Nat) (v : AV) (c : A1 → R) : R := P1.rec (motive := fun _ => A1 → AV → (A1 → R) → R) (fun d0 r v c => A1.putK1 d0 r v c) (path1 k) r v c
theorem A1.putK_spec (r : A1) (k : Nat) (v : AV) (c : A1 → R) : A1.putK r k v c = c (A1.put r k v) := A1.putK_eq _ r v c
theorem A1.get_same (r : A1) (k : Nat) (v : AV) : (A1.put r k v).get k = v := A1.at_same _ r v
theorem A1.get_other (r : A1) (k j : Nat) (v : AV) (hk : k < 8) (hj : j < 8) (h : j ≠ k) : (A1.put r k v).get j = A1.get r j := A1.at_other _ _ r v (fun h2 => h (path1_inj hj hk h2))
def A2.get (r : A2) (k : Nat) : AV := P2.rec (motive := fun _ => A2 → AV) (fun d1 d0 r => A2.at2 d1 d0 r) (path2 k) r
def A2.put (r : A2) (k : Nat) (v : AV) : A2 := A2.put2 (dig (Nat.mod (Nat.div k 8) 8)) (dig (Nat.mod k 8)) r v
def A2.putK (r : A2) (k : Nat) (v : AV) (c : A2 → R) : R := P2.rec (motive := fun _ => A2 → AV → (A2 → R) → R) (fun d1 d0 r v c => A2.putK2 d1 d0 r v c) (path2 k) r v c
theorem A2.putK_spec (r : A2) (k : Nat) (v : AV) (c : A2 → R) : A2.putK r k v c = c (A2.put r k v) := A2.putK_eq _ _ r v c
theorem A2.get_same (r : A2) (k : Nat) (v : AV) : (A2.put r k v).get k = v := A2.at_same _ _ r v
theorem A2.get_other (r : A2) (k j : Nat) (v : AV) (hk : k < 64) (hj : j < 64) (h : j ≠ k) : (A2.put r k v).get j = A2.get r j := A2.at_other _ _ _ _ r v (fun h2 => h (path2_inj hj hk h2))
def A3.get (r : A3) (k : Nat) : AV := P3.rec (motive := fun _ => A3 → AV) (fun d2 d1 d0 r => A3.at3 d2 d1 d0 r) (path3 k) r
def A3.put (r : A3) (k : Nat) (v : AV) : A3 := A3.put3 (dig (Nat.mod (Nat.div k 64) 8)) (dig (Nat.mod (Nat.div k 8) 8)) (dig (Nat.mod k 8)) r v
def A3.putK (r : A3) (k : Nat) (v : AV) (c : A3 → R) : R := P3.rec (motive := fun _ => A3 → AV → (A3 → R) → R) (fun d2 d1 d0 r v c => A3.putK3 d2 d1 d0 r v c) (path3 k) r v c
theorem A3.putK_spec (r : A3) (k : Nat) (v : AV) (c : A3 → R) : A3.putK r k v c = c (A3.put r k v) := A3.putK_eq _ _ _ r v c
theorem A3.get_same (r : A3) (k : Nat) (v : AV) : (A3.put r k v).get k = v := A3.at_same _ _ _ r v
theorem A3.get_other (r : A3) (k j : Nat) (v : AV) (hk : k < 512) (hj : j < 512) (h : j ≠ k) : (A3.put r k v).get j = A3.get r j := A3.at_other _ _ _ _ _ _ r v (fun h2 => h (path3_inj hj hk h2))
def A4.get (r : A4) (k : Nat) : AV := P4.rec (motive := fun _ => A4 → AV) (fun d3 d2 d1 d0 r => A4.at4 d3 d2 d1 d0 r) (path4 k) r
def A4.put (r : A4) (k : Nat) (v : AV) : A4 := A4.put4 (dig (Nat.mod (Nat.div k 512) 8)) (dig (Nat.mod (Nat.div k 64) 8)) (dig (Nat.mod (Nat.div k 8) 8)) (dig (Nat.mod k 8)) r v
def A4.putK (r : A4) (k : Nat) (v : AV) (c : A4 → R) : R := P4.rec (motive := fun _ => A4 → AV → (A4 → R) → R) (fun d3 d2 d1 d0 r v c => A4.putK4 d3 d2 d1 d0 r v c) (path4 k) r v c
theorem A4.putK_spec (r : A4) (k : Nat) (v : AV) (c : A4 → R) : A4.putK r k v c = c (A4.put r k v) := A4.putK_eq _ _ _ _ r v c
theorem A4.get_same (r : A4) (k : Nat) (v : AV) : (A4.put r k v).get k = v := A4.at_same _ _ _ _ r v
theorem A4.get_other (r : A4) (k j : Nat) (v : AV) (hk : k < 4096) (hj : j < 4096) (h : j ≠ k) : (A4.put r k v).get j = A4.get r j := A4.at_other _ _ _ _ _ _ _ _ r v (fun h2 => h (path4_inj hj hk h2))
def B5.get (r : B5) (k : Nat) : (Option Blk) := P5.rec (motive := fun _ => B5 → (Option Blk)) (fun d4 d3 d2 d1 d0 r => B5.at5 d4 d3 d2 d1 d0 r) (path5 k) r
def B5.put (r : B5) (k : Nat) (v : (Option Blk)) : B5 := B5.put5 (dig (Nat.mod (Nat.div k 4096) 8)) (dig (Nat.mod (Nat.div k 512) 8)) (dig (Nat.mod (Nat.div k 64) 8)) (dig (Nat.mod (Nat.div k 8) 8)) (dig (Nat.mod k 8)) r v
def B5.putK (r : B5) (k : Nat) (v : (Option Blk)) (c : B5 → R) : R := P5.rec (motive := fun _ => B5 → (Option Blk) → (B5 → R) → R) (fun d4 d3 d2 d1 d0 r v c => B5.putK5 d4 d3 d2 d1 d0 r v c) (path5 k) r v c
theorem B5.putK_spec (r : B5) (k : Nat) (v : (Option Blk)) (c : B5 → R) : B5.putK r k v c = c (B5.put r k v) := B5.putK_eq _ _ _ _ _ r v c
theorem B5.get_same (r : B5) (k : Nat) (v : (Option Blk)) : (B5.put r k v).get k = v := B5.at_same _ _ _ _ _ r v
theorem B5.get_other (r : B5) (k j : Nat) (v : (Option Blk)) (hk : k < 32768) (hj : j < 32768) (h : j ≠ k) : (B5.put r k v).get j = B5.get r j := B5.at_other _ _ _ _ _ _ _ _ _ _ r v (fun h2 => h (path5_inj hj hk h2))

end
end Go.Proofs.YtplnnlnkcfappaaGreat.E3
