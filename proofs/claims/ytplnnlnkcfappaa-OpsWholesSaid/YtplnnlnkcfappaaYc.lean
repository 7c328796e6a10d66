/- OpsWholes: what is known of the numbers, case by case. -/
import Derived.Test.YtplnnlnkcfappaaYb
namespace Go.Proofs.Ytplnnlnkcfappaa.Ew
open Go Go.RowKit
set_option linter.unusedSimpArgs false

/-! The numbers: 0 a, 1 b, 2 a + b, 3 a / b, 4 a % b, 5 (a / b) · b, 6 n. Where they stand: c: 0 a < b, 1 a = b, 2 a > b; s: 0 a < 0, 1 a = 0, 2 a > 0. -/
def isN (n k : Nat) : Bool := Nat.beq n k
noncomputable def notN (n k : Nat) : Bool := Bool.rec (motive := fun _ => Bool) true false (Nat.beq n k)
def minus1 : AV := .raw (.int .i64 (.negSucc 0))
/-- b is nought -/
noncomputable def ents0 (s : Nat) : List Known2 :=
  [(.add, .sym 0, .nat 0, .sym 0), (.sub, .sym 0, .nat 0, .sym 0), (.neq, .sym 0, .sym 0, .bool false), (.lss, .sym 0, .nat 0, .bool (isN s 0)), (.gtr, .sym 0, .nat 0, .bool (isN s 2))]
/-- what is asked in both other cases; B: b -/
noncomputable def entsB (B : AV) (c s r : Nat) : List Known2 :=
  [(.add, .sym 0, B, .sym 2), (.sub, .sym 2, B, .sym 0), (.neq, .sym 0, .sym 0, .bool false), (.neq, .sym 2, .sym 2, .bool false), (.lss, .sym 0, B, .bool (isN c 0)), (.gtr, .sym 0, B, .bool (isN c 2)),
   (.mul, .sym 3, B, .sym 5), (.geq, .sym 0, .nat 0, .bool (notN s 0)), (.leq, .sym 0, .nat 0, .bool (notN s 2)), (.and, .sym 6, .nat 15, .nat r)]
/-- b is -1 -/
noncomputable def ents1 (c s r : Nat) : List Known2 := (.sub, .nat 0, .sym 0, .sym 3) :: (.add, .sym 5, .nat 0, .sym 0) :: entsB minus1 c s r
/-- the rest's sign is the first number's -/
noncomputable def entsM (s : Nat) : List Known2 := te (isN s 0) [(.gtr, .sym 4, .nat 0, .bool false)] (te (isN s 1) [(.lss, .sym 4, .nat 0, .bool false), (.gtr, .sym 4, .nat 0, .bool false)] [(.lss, .sym 4, .nat 0, .bool false)])
/-- b is another -/
noncomputable def ents2 (c s r : Nat) : List Known2 :=
  (.neq, .sym 1, .sym 1, .bool false) :: (.eql, .sym 1, .nat 0, .bool false) :: (.eql, .sym 1, minus1, .bool false) :: (.quo, .sym 0, .sym 1, .sym 3) :: (.rem, .sym 0, .sym 1, .sym 4) :: (.add, .sym 5, .sym 4, .sym 0) :: (entsM s ++ entsB (.sym 1) c s r)

noncomputable def ok0 (s : Nat) : Bool := isTrue (rec Try.prog (ocL (ents0 s)) sk knS 200 3 [.sym 0, .nat 0, .sym 6] mem0)
noncomputable def ok1 (c s r : Nat) : Bool := isTrue (rec Try.prog (ocL (ents1 c s r)) sk knS 200 3 [.sym 0, minus1, .sym 6] mem0)
noncomputable def ok2 (c s r : Nat) : Bool := isTrue (rec Try.prog (ocL (ents2 c s r)) sk knS 200 3 [.sym 0, .sym 1, .sym 6] mem0)
theorem t0 : ok0 0 = true := by kernel_rfl
theorem t0' : ok0 1 = true := by kernel_rfl
theorem t0'' : ok0 2 = true := by kernel_rfl
noncomputable def all4 (f : Nat → Bool) (lo : Nat) : Bool := te (f lo) (te (f (Nat.add lo 1)) (te (f (Nat.add lo 2)) (f (Nat.add lo 3)) false) false) false
theorem all4_at {f : Nat → Bool} {lo : Nat} (h : all4 f lo = true) (r : Nat) (h1 : lo ≤ r) (h2 : r < lo + 4) : f r = true := by
  obtain ⟨a0, h⟩ := both h
  obtain ⟨a1, h⟩ := both h
  obtain ⟨a2, a3⟩ := both h
  obtain rfl | rfl | rfl | rfl : r = lo ∨ r = lo + 1 ∨ r = lo + 2 ∨ r = lo + 3 := by omega
  · exact a0
  · exact a1
  · exact a2
  · exact a3
theorem all16 {f : Nat → Bool} (h0 : all4 f 0 = true) (h4 : all4 f 4 = true) (h8 : all4 f 8 = true) (h12 : all4 f 12 = true) (r : Nat) (hr : r < 16) : f r = true := by
  by_cases c1 : r < 4
  · exact all4_at h0 r (by omega) (by omega)
  by_cases c2 : r < 8
  · exact all4_at h4 r (by omega) (by omega)
  by_cases c3 : r < 12
  · exact all4_at h8 r (by omega) (by omega)
  · exact all4_at h12 r (by omega) (by omega)

end Go.Proofs.Ytplnnlnkcfappaa.Ew
