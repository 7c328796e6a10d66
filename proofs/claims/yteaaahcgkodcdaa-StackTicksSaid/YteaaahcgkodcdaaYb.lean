/- StackTicks: the word on the three masks; one case. -/
import Derived.Test.YteaaahcgkodcdaaYa
namespace Go.Proofs.Yteaaahcgkodcdaa.Ew
open Go Go.RowKit
set_option linter.unusedSimpArgs false

/-! the tags (k % 8): 0 n · 1 at, exactly · 2 call, exactly · 3 at, at least so much · 4 its masked value · 5 call, neither 1 nor 2 · 6 its masked value -/
noncomputable def maskT (g : Nat) : Nat := te (Nat.beq g 0) 15 (te (Nat.beq g 1) 31 (te (Nat.beq g 2) 3 99))
noncomputable def andT (k c : Nat) : Option AV :=
  te (Nat.beq (Nat.mod k 8) 3) (gd (Nat.beq c 31) (gd (Nat.ble (Nat.div k 8) 31) (some (.sym (Nat.add (Nat.mul 8 (Nat.div k 8)) 4)))))
    (te (Nat.beq (Nat.mod k 8) 5) (gd (Nat.beq c 3) (some (.sym 6)))
      (gd (Nat.ble (Nat.mod k 8) 2) (gd (Nat.beq c (maskT (Nat.mod k 8))) (gd (Nat.ble (Nat.div k 8) c) (some (.nat (Nat.div k 8)))))))
noncomputable def eqT (i k : Nat) : Option AV := gd (Nat.beq (Nat.mod k 8) 4) (gd (Nat.ble (Nat.div k 8) 31) (gd (Nat.blt i (Nat.div k 8)) (some (.bool false))))
noncomputable def eqC (k i : Nat) : Option AV := gd (Nat.beq k 6) (gd (Nat.ble 1 i) (gd (Nat.ble i 2) (some (.bool false))))
noncomputable def ocT : Orc := fun op u v =>
  match op, u, v with
  | .and, .sym k, .nat c => andT k c
  | .eql, .nat i, .sym k => eqT i k
  | .eql, .sym k, .nat i => eqC k i
  | _, _, _ => none

/-- the masked value -/
def masked (z : Int) (c : Nat) : Nat := (BitVec.ofInt 64 z &&& BitVec.ofInt 64 (c : Int)).toNat
theorem masked_le (z : Int) (c : Nat) (h : c < 100) : masked z c ≤ c := by
  unfold masked
  rw [BitVec.toNat_and]
  refine Nat.le_trans Nat.and_le_right ?_
  have : (BitVec.ofInt 64 (c : Int)).toNat = c := by
    rw [BitVec.toNat_ofInt]
    omega
  omega
theorem and_run (z : Int) (c : Nat) (h : c < 100) (w : World) : (Op.intBits .and .i64 z (c : Int)).run Try.prog w = .ok (.int .i64 (masked z c : Int)) w := by
  have hle := masked_le z c h
  show Result.ok (Value.int .i64 (IntKind.i64.wrap ((BitVec.ofInt 64 z &&& BitVec.ofInt 64 (c : Int)).toNat : Int))) w = _
  rw [i64_wrap_small (by omega) (by unfold masked at hle; omega)]
  rfl
theorem masked_self : ∀ r : Nat, r ≤ 31 → ∀ c : Nat, c = 3 ∨ c = 15 ∨ c = 31 → r ≤ c → masked (r : Int) c = r := by
  intro r hr c hc h
  have key : ∀ r : Fin 32, ∀ c : Fin 32, (c.val = 3 ∨ c.val = 15 ∨ c.val = 31) → r.val ≤ c.val → masked (r.val : Int) c.val = r.val := by unfold masked; decide +kernel
  have := key ⟨r, by omega⟩ ⟨c, by omega⟩ hc h
  exact this

/-- the numbers behind the tags -/
def rho (n a c : Int) (g j : Nat) : Int :=
  if g = 0 then (if j = masked n 15 then n else j)
  else if g = 1 then (if j = masked a 31 then a else j)
  else if g = 2 then (if j = masked c 3 then c else j)
  else if g = 3 then (if j ≤ masked a 31 then a else 31)
  else if g = 4 then (if j ≤ masked a 31 then (masked a 31 : Int) else 31)
  else if g = 5 then (if masked c 3 = 1 ∨ masked c 3 = 2 then 0 else c)
  else if g = 6 then (if masked c 3 = 1 ∨ masked c 3 = 2 then 0 else (masked c 3 : Int))
  else 0
def symsT (n a c : Int) : Syms := ⟨fun k => .int .i64 (rho n a c (k % 8) (k / 8)), fun _ => rfl⟩

theorem bin_and {a : Int} {c : Nat} (hc : c < 100) (t : TypeId) (p q : Operand) (w : World) :
    (do eqGuard .and t p q (.int .i64 a) (.int .i64 (.ofNat c)); binOp .and t (.int .i64 a) (.int .i64 (.ofNat c)) : Sem Value).run Try.prog w = .ok (.int .i64 (masked a c : Int)) w := by
  have := and_run a c hc w
  simp only [eqGuard, binOp]
  simpa using this
theorem bin_eql {a b : Int} (h : a ≠ b) (t : TypeId) (p q : Operand) (w : World) :
    (do eqGuard .eql t p q (.int .i64 a) (.int .i64 b); binOp .eql t (.int .i64 a) (.int .i64 b) : Sem Value).run Try.prog w = .ok (.bool false) w := by
  simp only [eqGuard, binOp, Op.intCmp]
  simp [h]

theorem ocT_ok (n a c : Int) : OrcOk (symsT n a c) Try.prog ocT := by
  intro op u v r h
  unfold ocT at h
  split at h
  · rename_i k m
    refine ⟨by simp, by simp, fun F x y hx hy => ?_⟩
    simp only [den, Option.some.injEq] at hx hy
    subst hx hy
    unfold andT at h
    rw [te_eq] at h
    by_cases g3 : Nat.beq (Nat.mod k 8) 3 = true
    · rw [if_pos g3] at h
      have g3' : k % 8 = 3 := Nat.eq_of_beq_eq_true g3
      obtain ⟨h1, h⟩ := gd_some h
      obtain ⟨h2, h⟩ := gd_some h
      have h1' : m = 31 := Nat.eq_of_beq_eq_true h1
      have h2' : k / 8 ≤ 31 := Nat.le_of_ble_eq_true h2
      obtain rfl := Option.some.inj h
      subst h1'
      refine ⟨.int .i64 (masked (rho n a c (k % 8) (k / 8)) 31 : Int), ?_, fun w t p q => bin_and (by decide) t p q w⟩
      show some (Value.int .i64 (rho n a c ((8 * (k / 8) + 4) % 8) ((8 * (k / 8) + 4) / 8))) = _
      have e1 : (8 * (k / 8) + 4) % 8 = 4 := by omega
      have e2 : (8 * (k / 8) + 4) / 8 = k / 8 := by omega
      rw [e1, e2, g3']
      simp only [rho]
      by_cases hj : k / 8 ≤ masked a 31
      · simp [hj]
      · simp only [hj]
        have : masked 31 31 = 31 := masked_self 31 (by decide) 31 (by simp) (by decide)
        simp
        omega
    · rw [if_neg g3, te_eq] at h
      by_cases g5 : Nat.beq (Nat.mod k 8) 5 = true
      · rw [if_pos g5] at h
        have g5' : k % 8 = 5 := Nat.eq_of_beq_eq_true g5
        obtain ⟨h1, h⟩ := gd_some h
        have h1' : m = 3 := Nat.eq_of_beq_eq_true h1
        obtain rfl := Option.some.inj h
        subst h1'
        refine ⟨.int .i64 (masked (rho n a c (k % 8) (k / 8)) 3 : Int), ?_, fun w t p q => bin_and (by decide) t p q w⟩
        show some (Value.int .i64 (rho n a c (6 % 8) (6 / 8))) = _
        rw [g5']
        simp only [rho]
        by_cases hj : masked c 3 = 1 ∨ masked c 3 = 2
        · simp only [hj]
          have : masked 0 3 = 0 := masked_self 0 (by decide) 3 (by simp) (by decide)
          simp
          omega
        · simp [hj]
      · rw [if_neg g5] at h
        obtain ⟨h1, h⟩ := gd_some h
        obtain ⟨h2, h⟩ := gd_some h
        obtain ⟨h3, h⟩ := gd_some h
        have h1' : k % 8 ≤ 2 := Nat.le_of_ble_eq_true h1
        have h2' : m = maskT (k % 8) := Nat.eq_of_beq_eq_true h2
        have h3' : k / 8 ≤ m := Nat.le_of_ble_eq_true h3
        obtain rfl := Option.some.inj h
        have hm : m < 100 ∧ (m = 3 ∨ m = 15 ∨ m = 31) := by
          have : k % 8 = 0 ∨ k % 8 = 1 ∨ k % 8 = 2 := by omega
          rcases this with e | e | e <;> (rw [e] at h2'; have : m = _ := h2'; revert this; simp [maskT, te_eq]; intro hh; omega)
        refine ⟨.int .i64 (masked (rho n a c (k % 8) (k / 8)) m : Int), ?_, fun w t p q => bin_and hm.1 t p q w⟩
        show some (Value.int .i64 ((k / 8 : Nat) : Int)) = _
        have key : masked (rho n a c (k % 8) (k / 8)) m = k / 8 := by
          have hk : k % 8 = 0 ∨ k % 8 = 1 ∨ k % 8 = 2 := by omega
          have hs := masked_self (k / 8) (by omega) m hm.2 h3'
          rcases hk with e | e | e
          · rw [e] at h2' ⊢
            have h2' : m = 15 := h2'
            simp only [rho]
            by_cases hj : k / 8 = masked n 15
            · simp [hj, h2']
            · simp [hj]; exact hs
          · rw [e] at h2' ⊢
            have h2' : m = 31 := h2'
            simp only [rho]
            by_cases hj : k / 8 = masked a 31
            · simp [hj, h2']
            · simp [hj]; exact hs
          · rw [e] at h2' ⊢
            have h2' : m = 3 := h2'
            simp only [rho]
            by_cases hj : k / 8 = masked c 3
            · simp [hj, h2']
            · simp [hj]; exact hs
        rw [key]
  · rename_i i k
    refine ⟨by simp, by simp, fun F x y hx hy => ?_⟩
    simp only [den, Option.some.injEq] at hx hy
    subst hx hy
    obtain ⟨h1, h⟩ := gd_some h
    obtain ⟨h2, h⟩ := gd_some h
    obtain ⟨h3, h⟩ := gd_some h
    have h1' : k % 8 = 4 := Nat.eq_of_beq_eq_true h1
    have h2' : k / 8 ≤ 31 := Nat.le_of_ble_eq_true h2
    have h3' : i < k / 8 := Nat.le_of_ble_eq_true h3
    obtain rfl := Option.some.inj h
    refine ⟨.bool false, by simp [den], fun w t p q => bin_eql ?_ t p q w⟩
    rw [h1']
    simp only [rho]
    by_cases hj : k / 8 ≤ masked a 31
    · simp [hj]; omega
    · simp [hj]; omega
  · rename_i k i
    refine ⟨by simp, by simp, fun F x y hx hy => ?_⟩
    simp only [den, Option.some.injEq] at hx hy
    subst hx hy
    obtain ⟨h1, h⟩ := gd_some h
    obtain ⟨h2, h⟩ := gd_some h
    obtain ⟨h3, h⟩ := gd_some h
    have h1' : k = 6 := Nat.eq_of_beq_eq_true h1
    have h2' : 1 ≤ i := Nat.le_of_ble_eq_true h2
    have h3' : i ≤ 2 := Nat.le_of_ble_eq_true h3
    obtain rfl := Option.some.inj h
    subst h1'
    refine ⟨.bool false, by simp [den], fun w t p q => bin_eql ?_ t p q w⟩
    simp only [rho]
    by_cases hj : masked c 3 = 1 ∨ masked c 3 = 2
    · simp [hj]; omega
    · simp [hj]; omega
  · cases h

/-! ### One case: a what n is, b what at is (a + 1: more), c what call is (0: neither 1 nor 2) -/
noncomputable def atS (a b : Nat) : Nat := te (Nat.ble b a) (Nat.add (Nat.mul 8 b) 1) (Nat.add (Nat.mul 8 (Nat.succ a)) 3)
noncomputable def callS (c : Nat) : Nat := te (Nat.beq c 0) 5 (Nat.add (Nat.mul 8 c) 2)
noncomputable def okT (a b c : Nat) : Bool := isTrue (rec Try.prog ocT sk kn 200 8 [.sym (Nat.mul 8 a), .sym (atS a b), .sym (callS c)] mem0)

/-- places from 'lo' on, so many; each call -/
noncomputable def okRange (a lo : Nat) (len : Nat) : Bool :=
  Nat.rec (motive := fun _ => Bool) true (fun i ih => te (okT a (Nat.add lo i) 0) (te (okT a (Nat.add lo i) 1) (te (okT a (Nat.add lo i) 2) ih false) false) false) len

theorem okRange_spec {a lo : Nat} : ∀ {len : Nat}, okRange a lo len = true → ∀ b, lo ≤ b → b < lo + len → ∀ c, c < 3 → okT a b c = true
  | 0, _, b, h1, h2, c, _ => by omega
  | len + 1, h, b, h1, h2, c, hc => by
    obtain ⟨k0, h⟩ := both (show te (okT a (lo + len) 0) (te (okT a (lo + len) 1) (te (okT a (lo + len) 2) (okRange a lo len) false) false) false = true from h)
    obtain ⟨k1, h⟩ := both h
    obtain ⟨k2, h⟩ := both h
    by_cases e : b = lo + len
    · subst e
      match c, hc with
      | 0, _ => exact k0
      | 1, _ => exact k1
      | 2, _ => exact k2
    · exact okRange_spec h b h1 (by omega) c hc

end Go.Proofs.Yteaaahcgkodcdaa.Ew
