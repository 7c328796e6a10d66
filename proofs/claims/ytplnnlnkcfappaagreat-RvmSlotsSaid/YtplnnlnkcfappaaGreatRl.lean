/- RvmSlots: which instructions may be. -/
import Derived.Test.YtplnnlnkcfappaaGreatRk
namespace Go.Proofs.YtplnnlnkcfappaaGreat.Rs
open Go.RowKit Ew
set_option linter.unusedSimpArgs false
set_option linter.unusedVariables false

noncomputable section
def aI (o : Nat) : AV := .agg [.nat o, .sym 0, .sym 1, .nat 0, .nat 0]
def aJ (o : Nat) : AV := .agg [.nat o, .sym 0, .nat 0, .nat 0, .nat 0]
def aL : AV := .agg [.nat 16, .nat 0, .nat 0, .nat 0, .nat 0]
def orcT : Orc := fun op u v => match op, u with
  | .neq, .sym k => none
  | _, _ => none
end
def twoSyms (a b : Int) : Syms := ⟨fun k => .int .i64 (if k = 0 then a else b), fun _ => rfl⟩
theorem tail1 : isTrue (rec Tryz.prog noOrc sk kn0 200 248 [aI 1] mem0) = true := by kernel_rfl
theorem tail13 : isTrue (rec Tryz.prog noOrc sk kn0 200 248 [aI 13] mem0) = true := by kernel_rfl
theorem tail14 : isTrue (rec Tryz.prog noOrc sk kn0 200 248 [aI 14] mem0) = true := by kernel_rfl
theorem tail8 : isTrue (rec Tryz.prog noOrc sk kn0 200 248 [aJ 8] mem0) = true := by kernel_rfl
theorem tail16 : isTrue (rec Tryz.prog noOrc sk kn0 200 248 [aL] mem0) = true := by kernel_rfl
theorem tailI (o : Nat) (h : isTrue (rec Tryz.prog noOrc sk kn0 200 248 [aI o] mem0) = true) (w : World) (a b : Int) : Calls Tryz.prog 248 #[.agg #[.int .i64 o, .int .i64 a, .int .i64 b, .int .i64 0, .int .i64 0]] w fun e w' => e = .returned (.bool true) ∧ Below w.heap.size w w' :=
  runs_true (ρ := twoSyms a b) mix (plainly_of plain_names) (noOrc_ok _) lex (kn0_ok _) 200 248 [aI o] [.agg #[.int .i64 o, .int .i64 a, .int .i64 b, .int .i64 0, .int .i64 0]] (by simp [dens, den, aI, twoSyms]) h (by kernel_rfl) w
theorem tailJ (w : World) (a : Int) : Calls Tryz.prog 248 #[.agg #[.int .i64 8, .int .i64 a, .int .i64 0, .int .i64 0, .int .i64 0]] w fun e w' => e = .returned (.bool true) ∧ Below w.heap.size w w' :=
  runs_true (ρ := twoSyms a 0) mix (plainly_of plain_names) (noOrc_ok _) lex (kn0_ok _) 200 248 [aJ 8] [.agg #[.int .i64 8, .int .i64 a, .int .i64 0, .int .i64 0, .int .i64 0]] (by simp [dens, den, aJ, twoSyms]) tail8 (by kernel_rfl) w
theorem tailL (w : World) : Calls Tryz.prog 248 #[.agg #[.int .i64 16, .int .i64 0, .int .i64 0, .int .i64 0, .int .i64 0]] w fun e w' => e = .returned (.bool true) ∧ Below w.heap.size w w' :=
  runs_true (ρ := twoSyms 0 0) mix (plainly_of plain_names) (noOrc_ok _) lex (kn0_ok _) 200 248 [aL] [.agg #[.int .i64 16, .int .i64 0, .int .i64 0, .int .i64 0, .int .i64 0]] (by simp [dens, den, aL]) tail16 (by kernel_rfl) w

set_option maxHeartbeats 1000000 in
theorem within_calls (w : World) (n m : Int) (h0 : 0 ≤ n) (h1 : n < m) : Calls Tryz.prog 91 #[.int .i64 n, .int .i64 m] w fun e w' => e = .returned (.bool true) ∧ w' = w := by
  go_enter Tryz.func91, Tryz.ntmps91
  go_wp2
  all_goals (go_ret; exact ⟨rfl, rfl⟩)

set_option maxHeartbeats 1000000 in
theorem reg_calls (w : World) (n : Int) (pb : Nat) (h0 : 0 ≤ n) (h1 : n < 9) (hp : w.cell? ⟨pb, 2, none⟩ = some (.int .i64 8)) : Calls Tryz.prog 245 #[.int .i64 n, .pointer (some ⟨pb, 0, none⟩)] w fun e w' => e = .returned (.bool true) ∧ w' = w := by
  have hwr : IntKind.i64.wrap 9 = 9 := by rw [IntKind.wrap_i64]; omega
  go_enter Tryz.func245, Tryz.ntmps245
  go_wp2_with fail
  refine (within_calls _ _ _ h0 (by simpa [hwr] using h1)).mono ?_
  rintro e w1 ⟨rfl, rfl⟩
  go_wp2
  go_ret
  exact ⟨rfl, rfl⟩

set_option maxRecDepth 100000 in
set_option maxHeartbeats 4000000 in
theorem form13 (w : World) (Q K V : Value) (a b : Int) (ha0 : 0 ≤ a) (ha1 : a < 9) (hb0 : 0 ≤ b) (hb1 : b < 5) : Calls Tryz.prog 171 #[.agg #[Q, .int .i64 0, .int .i64 8], .agg #[.string ⟨#[]⟩, .int .i64 0, .int .i64 5, K, V], .agg #[.int .i64 13, .int .i64 a, .int .i64 b, .int .i64 0, .int .i64 0]] w fun e w' => e = .returned (.bool true) ∧ Below w.heap.size w w' := by
  go_enter Tryz.func171, Tryz.ntmps171
  go_wp2_with fail
  refine (tailI 13 tail13 _ a b).mono ?_
  rintro e w1 ⟨rfl, hb⟩
  have hs : w.heap.size + 3 ≤ w1.heap.size := by have := hb.size; simpa using this
  have p2 : w1.cell? ⟨w.heap.size, 2, none⟩ = some (.int .i64 8) := by rw [hb.cell (by first | (simp; done) | (simp; omega))]; simp [go_sem]
  have f2 : w1.cell? ⟨w.heap.size + 1, 2, none⟩ = some (.int .i64 5) := by rw [hb.cell (by first | (simp; done) | (simp; omega))]; simp [go_sem]
  have i0 : w1.cell? ⟨w.heap.size + 1 + 1, 0, none⟩ = some (.int .i64 13) := by rw [hb.cell (by first | (simp; done) | (simp; omega))]; simp [go_sem]
  have i1 : w1.cell? ⟨w.heap.size + 1 + 1, 1, none⟩ = some (.int .i64 a) := by rw [hb.cell (by first | (simp; done) | (simp; omega))]; simp [go_sem]
  have i2 : w1.cell? ⟨w.heap.size + 1 + 1, 2, none⟩ = some (.int .i64 b) := by rw [hb.cell (by first | (simp; done) | (simp; omega))]; simp [go_sem]
  have HB := Lib.hid (show Below w.heap.size w w1 from ((((Below.refl _ w).alloc (Nat.le_refl _) _).alloc (by simp) _).alloc (by simp; omega) _).trans (hb.mono (by simp; omega)))
  clear hb
  go_wp2_with fail
  refine (reg_calls _ _ _ ha0 ha1 p2).mono ?_
  rintro e w2 ⟨rfl, rfl⟩
  go_wp2_with fail
  refine (within_calls _ _ _ hb0 hb1).mono ?_
  rintro e w2 ⟨rfl, rfl⟩
  go_wp2
  go_ret
  exact ⟨rfl, HB.out⟩

set_option maxRecDepth 100000 in
set_option maxHeartbeats 4000000 in
theorem form14 (w : World) (Q K V : Value) (a b : Int) (ha0 : 0 ≤ a) (ha1 : a < 9) (hb0 : 0 ≤ b) (hb1 : b < 5) : Calls Tryz.prog 171 #[.agg #[Q, .int .i64 0, .int .i64 8], .agg #[.string ⟨#[]⟩, .int .i64 0, .int .i64 5, K, V], .agg #[.int .i64 14, .int .i64 a, .int .i64 b, .int .i64 0, .int .i64 0]] w fun e w' => e = .returned (.bool true) ∧ Below w.heap.size w w' := by
  go_enter Tryz.func171, Tryz.ntmps171
  go_wp2_with fail
  refine (tailI 14 tail14 _ a b).mono ?_
  rintro e w1 ⟨rfl, hb⟩
  have hs : w.heap.size + 3 ≤ w1.heap.size := by have := hb.size; simpa using this
  have p2 : w1.cell? ⟨w.heap.size, 2, none⟩ = some (.int .i64 8) := by rw [hb.cell (by first | (simp; done) | (simp; omega))]; simp [go_sem]
  have f2 : w1.cell? ⟨w.heap.size + 1, 2, none⟩ = some (.int .i64 5) := by rw [hb.cell (by first | (simp; done) | (simp; omega))]; simp [go_sem]
  have i0 : w1.cell? ⟨w.heap.size + 1 + 1, 0, none⟩ = some (.int .i64 14) := by rw [hb.cell (by first | (simp; done) | (simp; omega))]; simp [go_sem]
  have i1 : w1.cell? ⟨w.heap.size + 1 + 1, 1, none⟩ = some (.int .i64 a) := by rw [hb.cell (by first | (simp; done) | (simp; omega))]; simp [go_sem]
  have i2 : w1.cell? ⟨w.heap.size + 1 + 1, 2, none⟩ = some (.int .i64 b) := by rw [hb.cell (by first | (simp; done) | (simp; omega))]; simp [go_sem]
  have HB := Lib.hid (show Below w.heap.size w w1 from ((((Below.refl _ w).alloc (Nat.le_refl _) _).alloc (by simp) _).alloc (by simp; omega) _).trans (hb.mono (by simp; omega)))
  clear hb
  go_wp2_with fail
  refine (reg_calls _ _ _ ha0 ha1 p2).mono ?_
  rintro e w2 ⟨rfl, rfl⟩
  go_wp2_with fail
  refine (within_calls _ _ _ hb0 hb1).mono ?_
  rintro e w2 ⟨rfl, rfl⟩
  go_wp2
  go_ret
  exact ⟨rfl, HB.out⟩

set_option maxRecDepth 100000 in
set_option maxHeartbeats 4000000 in
theorem form1 (w : World) (Q V : Value) (ka : Option Addr) (kn kc : Nat) (a b : Int) (ha0 : 0 ≤ a) (ha1 : a < 9) (hb0 : 0 ≤ b) (hb1 : b < kn) : Calls Tryz.prog 171 #[.agg #[Q, .int .i64 0, .int .i64 8], .agg #[.string ⟨#[]⟩, .int .i64 0, .int .i64 5, .slice ka kn kc, V], .agg #[.int .i64 1, .int .i64 a, .int .i64 b, .int .i64 0, .int .i64 0]] w fun e w' => e = .returned (.bool true) ∧ Below w.heap.size w w' := by
  go_enter Tryz.func171, Tryz.ntmps171
  go_wp2_with fail
  refine (tailI 1 tail1 _ a b).mono ?_
  rintro e w1 ⟨rfl, hb⟩
  have hs : w.heap.size + 3 ≤ w1.heap.size := by have := hb.size; simpa using this
  have p2 : w1.cell? ⟨w.heap.size, 2, none⟩ = some (.int .i64 8) := by rw [hb.cell (by first | (simp; done) | (simp; omega))]; simp [go_sem]
  have f3 : w1.cell? ⟨w.heap.size + 1, 3, none⟩ = some (.slice ka kn kc) := by rw [hb.cell (by first | (simp; done) | (simp; omega))]; simp [go_sem]
  have i0 : w1.cell? ⟨w.heap.size + 1 + 1, 0, none⟩ = some (.int .i64 1) := by rw [hb.cell (by first | (simp; done) | (simp; omega))]; simp [go_sem]
  have i1 : w1.cell? ⟨w.heap.size + 1 + 1, 1, none⟩ = some (.int .i64 a) := by rw [hb.cell (by first | (simp; done) | (simp; omega))]; simp [go_sem]
  have i2 : w1.cell? ⟨w.heap.size + 1 + 1, 2, none⟩ = some (.int .i64 b) := by rw [hb.cell (by first | (simp; done) | (simp; omega))]; simp [go_sem]
  have HB := Lib.hid (show Below w.heap.size w w1 from ((((Below.refl _ w).alloc (Nat.le_refl _) _).alloc (by simp) _).alloc (by simp; omega) _).trans (hb.mono (by simp; omega)))
  clear hb
  go_wp2_with fail
  refine (reg_calls _ _ _ ha0 ha1 p2).mono ?_
  rintro e w2 ⟨rfl, rfl⟩
  go_wp2_with fail
  refine (within_calls _ _ _ hb0 hb1).mono ?_
  rintro e w2 ⟨rfl, rfl⟩
  go_wp2
  go_ret
  exact ⟨rfl, HB.out⟩

set_option maxRecDepth 100000 in
set_option maxHeartbeats 4000000 in
theorem form8 (w : World) (Q K V : Value) (a : Int) (ha0 : 0 ≤ a) (ha1 : a < 9) : Calls Tryz.prog 171 #[.agg #[Q, .int .i64 0, .int .i64 8], .agg #[.string ⟨#[]⟩, .int .i64 0, .int .i64 5, K, V], .agg #[.int .i64 8, .int .i64 a, .int .i64 0, .int .i64 0, .int .i64 0]] w fun e w' => e = .returned (.bool true) ∧ Below w.heap.size w w' := by
  go_enter Tryz.func171, Tryz.ntmps171
  go_wp2_with fail
  refine (tailJ _ a).mono ?_
  rintro e w1 ⟨rfl, hb⟩
  have hs : w.heap.size + 3 ≤ w1.heap.size := by have := hb.size; simpa using this
  have p2 : w1.cell? ⟨w.heap.size, 2, none⟩ = some (.int .i64 8) := by rw [hb.cell (by first | (simp; done) | (simp; omega))]; simp [go_sem]
  have f2 : w1.cell? ⟨w.heap.size + 1, 2, none⟩ = some (.int .i64 5) := by rw [hb.cell (by first | (simp; done) | (simp; omega))]; simp [go_sem]
  have i0 : w1.cell? ⟨w.heap.size + 1 + 1, 0, none⟩ = some (.int .i64 8) := by rw [hb.cell (by first | (simp; done) | (simp; omega))]; simp [go_sem]
  have i1 : w1.cell? ⟨w.heap.size + 1 + 1, 1, none⟩ = some (.int .i64 a) := by rw [hb.cell (by first | (simp; done) | (simp; omega))]; simp [go_sem]
  have i2 : w1.cell? ⟨w.heap.size + 1 + 1, 2, none⟩ = some (.int .i64 0) := by rw [hb.cell (by first | (simp; done) | (simp; omega))]; simp [go_sem]
  have HB := Lib.hid (show Below w.heap.size w w1 from ((((Below.refl _ w).alloc (Nat.le_refl _) _).alloc (by simp) _).alloc (by simp; omega) _).trans (hb.mono (by simp; omega)))
  clear hb
  go_wp2_with fail
  refine (reg_calls _ _ _ ha0 ha1 p2).mono ?_
  rintro e w2 ⟨rfl, rfl⟩
  go_wp2
  go_ret
  exact ⟨rfl, HB.out⟩

set_option maxRecDepth 100000 in
set_option maxHeartbeats 4000000 in
theorem form16 (w : World) (Q V : Value) (ka : Option Addr) (kn kc : Nat) (hk : 0 < kn) : Calls Tryz.prog 171 #[.agg #[Q, .int .i64 0, .int .i64 8], .agg #[.string ⟨#[]⟩, .int .i64 0, .int .i64 5, .slice ka kn kc, V], .agg #[.int .i64 16, .int .i64 0, .int .i64 0, .int .i64 0, .int .i64 0]] w fun e w' => e = .returned (.bool true) ∧ Below w.heap.size w w' := by
  go_enter Tryz.func171, Tryz.ntmps171
  go_wp2_with fail
  refine (tailL _).mono ?_
  rintro e w1 ⟨rfl, hb⟩
  have hs : w.heap.size + 3 ≤ w1.heap.size := by have := hb.size; simpa using this
  have p2 : w1.cell? ⟨w.heap.size, 2, none⟩ = some (.int .i64 8) := by rw [hb.cell (by first | (simp; done) | (simp; omega))]; simp [go_sem]
  have f3 : w1.cell? ⟨w.heap.size + 1, 3, none⟩ = some (.slice ka kn kc) := by rw [hb.cell (by first | (simp; done) | (simp; omega))]; simp [go_sem]
  have i0 : w1.cell? ⟨w.heap.size + 1 + 1, 0, none⟩ = some (.int .i64 16) := by rw [hb.cell (by first | (simp; done) | (simp; omega))]; simp [go_sem]
  have i1 : w1.cell? ⟨w.heap.size + 1 + 1, 1, none⟩ = some (.int .i64 0) := by rw [hb.cell (by first | (simp; done) | (simp; omega))]; simp [go_sem]
  have i2 : w1.cell? ⟨w.heap.size + 1 + 1, 2, none⟩ = some (.int .i64 0) := by rw [hb.cell (by first | (simp; done) | (simp; omega))]; simp [go_sem]
  have HB := Lib.hid (show Below w.heap.size w w1 from ((((Below.refl _ w).alloc (Nat.le_refl _) _).alloc (by simp) _).alloc (by simp; omega) _).trans (hb.mono (by simp; omega)))
  clear hb
  go_wp2_with fail
  refine (within_calls _ 0 kn (Int.le_refl _) (by omega)).mono ?_
  rintro e w2 ⟨rfl, rfl⟩
  go_wp2
  go_ret
  exact ⟨rfl, HB.out⟩

end Go.Proofs.YtplnnlnkcfappaaGreat.Rs
