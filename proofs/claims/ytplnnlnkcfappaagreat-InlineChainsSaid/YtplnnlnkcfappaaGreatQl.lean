/- The second evaluator: whole numbers that are masked, and divided: a word on operations, and that it is true. (x & (2^m - 1), or its rest by d.) -/
import Derived.Test.YtplnnlnkcfappaaGreatQk
namespace Go.Proofs.YtplnnlnkcfappaaGreat.E3
open Go Go.RowKit
set_option linter.unusedSimpArgs false
set_option linter.unusedVariables false

/-- the masked value -/
def maskd (z : Int) (m : Nat) : Nat := (BitVec.ofInt 64 z &&& BitVec.ofInt 64 ((2 ^ m - 1 : Nat) : Int)).toNat

theorem pow_bd {m : Nat} (h : m ≤ 62) : 2 ^ m ≤ 4611686018427387904 := by
  have : 2 ^ m ≤ 2 ^ 62 := Nat.pow_le_pow_right (by decide) h
  exact Nat.le_trans this (by decide)
theorem maskd_eq (z : Int) (m : Nat) (h : m ≤ 62) : maskd z m = (BitVec.ofInt 64 z).toNat % 2 ^ m := by
  have hp := pow_bd h
  have h1 : 1 ≤ 2 ^ m := Nat.one_le_two_pow
  have e : (BitVec.ofInt 64 ((2 ^ m - 1 : Nat) : Int)).toNat = 2 ^ m - 1 := by
    rw [BitVec.toNat_ofInt]
    omega
  unfold maskd
  rw [BitVec.toNat_and, e, Nat.and_two_pow_sub_one_eq_mod]
theorem maskd_lt (z : Int) (m : Nat) (h : m ≤ 62) : maskd z m < 2 ^ m := by
  rw [maskd_eq z m h]
  exact Nat.mod_lt _ (by have : 1 ≤ 2 ^ m := Nat.one_le_two_pow; omega)
theorem maskd_self (r m : Nat) (h : m ≤ 62) (hr : r < 2 ^ m) : maskd (r : Int) m = r := by
  have hp := pow_bd h
  have e : (BitVec.ofInt 64 (r : Int)).toNat = r := by
    rw [BitVec.toNat_ofInt]
    omega
  rw [maskd_eq _ m h, e, Nat.mod_eq_of_lt hr]

theorem and_run' (P : Program) (z : Int) (m : Nat) (h : m ≤ 62) (t : TypeId) (p q : Operand) (w : World) :
    (do eqGuard .and t p q (.int .i64 z) (.int .i64 (.ofNat (2 ^ m - 1))); binOp .and t (.int .i64 z) (.int .i64 (.ofNat (2 ^ m - 1))) : Sem Value).run P w = .ok (.int .i64 (maskd z m : Int)) w := by
  have hlt := maskd_lt z m h
  have hp := pow_bd h
  have key : (Op.intBits .and .i64 z ((2 ^ m - 1 : Nat) : Int)).run P w = .ok (.int .i64 (maskd z m : Int)) w := by
    show Result.ok (Value.int .i64 (IntKind.i64.wrap ((maskd z m : Nat) : Int))) w = _
    rw [i64_wrap_small (by omega) (by omega)]
  simp only [eqGuard, binOp]
  simpa using key
theorem rem_run' (P : Program) (r d : Nat) (hd : 0 < d) (t : TypeId) (p q : Operand) (w : World) :
    (do eqGuard .rem t p q (.int .i64 (r : Int)) (.int .i64 (.ofNat d)); binOp .rem t (.int .i64 (r : Int)) (.int .i64 (.ofNat d)) : Sem Value).run P w = .ok (.int .i64 ((r % d : Nat) : Int)) w := by
  have e : ((r : Int).tmod (d : Int)) = ((r % d : Nat) : Int) := by
    rw [Int.tmod_eq_emod_of_nonneg (by omega)]
    exact (Int.natCast_emod r d).symm
  have hne : ¬ ((d : Int) = 0) := by omega
  simp only [eqGuard, binOp]
  simp [Op.intDiv, e, hne]
  try omega

/-! A word for each number j: (m, d): masked by m bits; d = 0: no rest is taken. The tag of a number: 16 r + 2 j: what comes of it is r; 16 r + 2 j + 1: masked. -/
abbrev Wants := List (Nat × Nat)
noncomputable def nthW (l : Wants) (j : Nat) : Nat × Nat := List.rec (motive := fun _ => Nat → Nat × Nat) (fun _ => (0, 0)) (fun x _ ih j => Nat.rec (motive := fun _ => Nat × Nat) x (fun j _ => ih j) j) l j
noncomputable def andW (l : Wants) (k c : Nat) : Option AV :=
  gd (Nat.beq (Nat.mod k 2) 0) (gd (Nat.ble (nthW l (Nat.mod (Nat.div k 2) 8)).1 62) (gd (Nat.beq c (Nat.sub (Nat.pow 2 (nthW l (Nat.mod (Nat.div k 2) 8)).1) 1)) (gd (Nat.blt (Nat.div k 16) (Nat.pow 2 (nthW l (Nat.mod (Nat.div k 2) 8)).1))
    (te (Nat.beq (nthW l (Nat.mod (Nat.div k 2) 8)).2 0) (some (.nat (Nat.div k 16))) (gd (Nat.blt (Nat.div k 16) (nthW l (Nat.mod (Nat.div k 2) 8)).2) (some (.sym (Nat.add k 1))))))))
noncomputable def remW (l : Wants) (k c : Nat) : Option AV :=
  gd (Nat.beq (Nat.mod k 2) 1) (gd (Nat.beq c (nthW l (Nat.mod (Nat.div k 2) 8)).2) (gd (Nat.blt (Nat.div k 16) c) (some (.nat (Nat.div k 16)))))
noncomputable def ocW (l : Wants) : Orc := fun op u v =>
  match op, u, v with
  | .and, .sym k, .nat c => andW l k c
  | .rem, .sym k, .nat c => remW l k c
  | _, _, _ => none

/-- what comes of a number -/
def cameOf (x : Nat × Nat) (z : Int) : Nat := if x.2 = 0 then maskd z x.1 else maskd z x.1 % x.2
def nthZ : List Int → Nat → Int
  | [], _ => 0
  | z :: _, 0 => z
  | _ :: l, j + 1 => nthZ l j
noncomputable def rhoW (l : Wants) (zs : List Int) (k : Nat) : Int :=
  if k % 2 = 0 then (if k / 16 = cameOf (nthW l (k / 2 % 8)) (nthZ zs (k / 2 % 8)) then nthZ zs (k / 2 % 8) else (k / 16 : Nat))
  else (if k / 16 = cameOf (nthW l (k / 2 % 8)) (nthZ zs (k / 2 % 8)) then (maskd (nthZ zs (k / 2 % 8)) (nthW l (k / 2 % 8)).1 : Int) else (k / 16 : Nat))
noncomputable def symsW (l : Wants) (zs : List Int) : Syms := { val := fun k => .int .i64 (rhoW l zs k), one := fun _ => rfl }

theorem ocW_ok (P : Program) (l : Wants) (zs : List Int) : OrcOk (symsW l zs) P (ocW l) := by
  intro op u v r h
  unfold ocW at h
  split at h
  · rename_i k c
    refine ⟨by simp, by simp, fun F x y hx hy => ?_⟩
    simp only [den, Option.some.injEq] at hx hy
    subst hx hy
    obtain ⟨h1, h⟩ := gd_some h
    obtain ⟨h2, h⟩ := gd_some h
    obtain ⟨h3, h⟩ := gd_some h
    obtain ⟨h4, hl⟩ := gd_some h
    have h1' : k % 2 = 0 := Nat.eq_of_beq_eq_true h1
    have h2' : (nthW l (k / 2 % 8)).1 ≤ 62 := Nat.le_of_ble_eq_true h2
    have h3' : c = 2 ^ (nthW l (k / 2 % 8)).1 - 1 := Nat.eq_of_beq_eq_true h3
    have h4' : k / 16 < 2 ^ (nthW l (k / 2 % 8)).1 := Nat.le_of_ble_eq_true h4
    clear h
    subst h3'
    rw [te_eq] at hl
    refine ⟨.int .i64 (maskd (rhoW l zs k) (nthW l (k / 2 % 8)).1 : Int), ?_, fun w t p q => and_run' P _ _ h2' t p q w⟩
    by_cases h5 : Nat.beq (nthW l (Nat.mod (Nat.div k 2) 8)).2 0 = true
    · rw [if_pos h5] at hl
      have h5' : (nthW l (k / 2 % 8)).2 = 0 := Nat.eq_of_beq_eq_true h5
      obtain rfl := Option.some.inj hl
      show some (Value.int .i64 ((k / 16 : Nat) : Int)) = _
      have key : maskd (rhoW l zs k) (nthW l (k / 2 % 8)).1 = k / 16 := by
        unfold rhoW
        rw [if_pos h1']
        by_cases hc : k / 16 = cameOf (nthW l (k / 2 % 8)) (nthZ zs (k / 2 % 8))
        · rw [if_pos hc, hc, cameOf, if_pos h5']
        · rw [if_neg hc]
          exact maskd_self _ _ h2' h4'
      rw [key]
    · rw [if_neg h5] at hl
      obtain ⟨h6, hm⟩ := gd_some hl
      obtain rfl := Option.some.inj hm
      show some (Value.int .i64 (rhoW l zs (k + 1))) = _
      have key : rhoW l zs (k + 1) = (maskd (rhoW l zs k) (nthW l (k / 2 % 8)).1 : Int) := by
        have e1 : ¬ (k + 1) % 2 = 0 := by omega
        have e2 : (k + 1) / 2 % 8 = k / 2 % 8 := by omega
        have e3 : (k + 1) / 16 = k / 16 := by omega
        unfold rhoW
        rw [if_neg e1, e2, e3, if_pos h1']
        by_cases hc : k / 16 = cameOf (nthW l (k / 2 % 8)) (nthZ zs (k / 2 % 8))
        · rw [if_pos hc, if_pos hc]
        · rw [if_neg hc, if_neg hc, maskd_self _ _ h2' h4']
      rw [key]
  · rename_i k c
    refine ⟨by simp, by simp, fun F x y hx hy => ?_⟩
    simp only [den, Option.some.injEq] at hx hy
    subst hx hy
    obtain ⟨h1, h⟩ := gd_some h
    obtain ⟨h2, h⟩ := gd_some h
    obtain ⟨h3, h⟩ := gd_some h
    have h1' : k % 2 = 1 := Nat.eq_of_beq_eq_true h1
    have h2' : c = (nthW l (k / 2 % 8)).2 := Nat.eq_of_beq_eq_true h2
    have h3' : k / 16 < c := Nat.le_of_ble_eq_true h3
    obtain rfl := Option.some.inj h
    have e1 : ¬ k % 2 = 0 := by omega
    have key : ∃ r : Nat, rhoW l zs k = (r : Int) ∧ r % c = k / 16 := by
      unfold rhoW
      rw [if_neg e1]
      by_cases hc : k / 16 = cameOf (nthW l (k / 2 % 8)) (nthZ zs (k / 2 % 8))
      · rw [if_pos hc]
        refine ⟨_, rfl, ?_⟩
        rw [hc, cameOf, if_neg (by omega), ← h2']
      · rw [if_neg hc]
        exact ⟨_, rfl, Nat.mod_eq_of_lt h3'⟩
    obtain ⟨r, hr, hm⟩ := key
    refine ⟨.int .i64 ((r % c : Nat) : Int), ?_, fun w t p q => ?_⟩
    · rw [hm]
      rfl
    · show (do eqGuard .rem t p q (.int .i64 (rhoW l zs k)) _; binOp .rem t (.int .i64 (rhoW l zs k)) _ : Sem Value).run P w = _
      rw [hr]
      exact rem_run' P r c (by omega) t p q w
  · cases h

/-- the tag of the j-th number -/
theorem tagW (l : Wants) (zs : List Int) (j : Nat) (hj : j < 8) (F : Env) (z : Int) (hz : nthZ zs j = z) : den (symsW l zs) F (.sym (16 * cameOf (nthW l j) z + 2 * j)) = some (.int .i64 z) := by
  show some (Value.int .i64 (rhoW l zs (16 * cameOf (nthW l j) z + 2 * j))) = _
  have e1 : (16 * cameOf (nthW l j) z + 2 * j) % 2 = 0 := by omega
  have e2 : (16 * cameOf (nthW l j) z + 2 * j) / 2 % 8 = j := by omega
  have e3 : (16 * cameOf (nthW l j) z + 2 * j) / 16 = cameOf (nthW l j) z := by omega
  unfold rhoW
  rw [if_pos e1, e2, e3, hz, if_pos rfl]

end Go.Proofs.YtplnnlnkcfappaaGreat.E3
