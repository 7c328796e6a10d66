/- Whole numbers as texts; texts with digits in them. -/
import Derived.Test.YtplnnlnkcfappaaGreatTe
namespace Go.Proofs.YtplnnlnkcfappaaGreat.Sv
open Go.RowKit E3
set_option linter.unusedSimpArgs false
set_option linter.unusedVariables false

/-- how many digits a number has (below 10000); its digits, the first first -/
noncomputable def lenD (n : Nat) : Nat := te (Nat.blt n 10) 1 (te (Nat.blt n 100) 2 (te (Nat.blt n 1000) 3 4))
noncomputable def encD (n : Nat) : Nat := te (Nat.blt n 10) (Nat.add 48 n) (te (Nat.blt n 100) (Nat.add (Nat.add 48 (Nat.div n 10)) (Nat.mul 256 (Nat.add 48 (Nat.mod n 10))))
  (te (Nat.blt n 1000) (Nat.add (Nat.add 48 (Nat.div n 100)) (Nat.mul 256 (Nat.add (Nat.add 48 (Nat.mod (Nat.div n 10) 10)) (Nat.mul 256 (Nat.add 48 (Nat.mod n 10))))))
    (Nat.add (Nat.add 48 (Nat.div n 1000)) (Nat.mul 256 (Nat.add (Nat.add 48 (Nat.mod (Nat.div n 100) 10)) (Nat.mul 256 (Nat.add (Nat.add 48 (Nat.mod (Nat.div n 10) 10)) (Nat.mul 256 (Nat.add 48 (Nat.mod n 10))))))))))
def digL (n : Nat) : List UInt8 := if n < 10 then [.ofNat (48 + n)] else if n < 100 then [.ofNat (48 + n / 10), .ofNat (48 + n % 10)] else if n < 1000 then [.ofNat (48 + n / 100), .ofNat (48 + n / 10 % 10), .ofNat (48 + n % 10)] else [.ofNat (48 + n / 1000), .ofNat (48 + n / 100 % 10), .ofNat (48 + n / 10 % 10), .ofNat (48 + n % 10)]
theorem byte_dig (ρ : Syms) {a : Nat} (h : a < 10) : E3.byteOf ρ (48 + a) = UInt8.ofNat (48 + a) := by
  unfold E3.byteOf
  rw [if_pos (by omega)]
theorem bytes_one (ρ : Syms) {a : Nat} (h : a < 10) : bytesOf ρ 1 (48 + a) = [.ofNat (48 + a)] := by
  show E3.byteOf ρ ((48 + a) % 256) :: [] = _
  rw [Nat.mod_eq_of_lt (by omega), byte_dig ρ h]
theorem bytes_more (ρ : Syms) {a n q : Nat} {l : List UInt8} (h : a < 10) (hq : bytesOf ρ n q = l) : bytesOf ρ (n + 1) (48 + a + 256 * q) = .ofNat (48 + a) :: l := by
  show E3.byteOf ρ ((48 + a + 256 * q) % 256) :: bytesOf ρ n ((48 + a + 256 * q) / 256) = _
  rw [show (48 + a + 256 * q) % 256 = 48 + a by omega, show (48 + a + 256 * q) / 256 = q by omega, byte_dig ρ h, hq]
theorem bytes_num (ρ : Syms) {n : Nat} (h : n < 10000) : bytesOf ρ (lenD n) (encD n) = digL n := by
  have b : ∀ k, Nat.blt n k = decide (n < k) := fun k => by
    rw [Bool.eq_iff_iff]
    simp
  unfold lenD encD digL
  have c1 : ∀ x y, Nat.div x y = x / y := fun _ _ => rfl
  have c2 : ∀ x y, Nat.mod x y = x % y := fun _ _ => rfl
  have c3 : ∀ x y, Nat.add x y = x + y := fun _ _ => rfl
  have c4 : ∀ x y, Nat.mul x y = x * y := fun _ _ => rfl
  simp only [te_eq, b, decide_eq_true_eq, c1, c2, c3, c4]
  by_cases h1 : n < 10
  · simp only [if_pos h1]
    exact bytes_one ρ h1
  · simp only [if_neg h1]
    by_cases h2 : n < 100
    · simp only [if_pos h2]
      exact bytes_more ρ (by omega) (bytes_one ρ (by omega))
    · simp only [if_neg h2]
      by_cases h3 : n < 1000
      · simp only [if_pos h3]
        exact bytes_more ρ (by omega) (bytes_more ρ (by omega) (bytes_one ρ (by omega)))
      · simp only [if_neg h3]
        exact bytes_more ρ (by omega) (bytes_more ρ (by omega) (bytes_more ρ (by omega) (bytes_one ρ (by omega))))

theorem digits_true : allN 2000 (fun n => isVal (.str (lenD n) (encD n)) (rec Tryz.prog noOrc sk kn 200 19 [.nat n] mem0)) = true := by kernel_rfl
theorem digits_calls (w : World) {n : Nat} (h : n < 2000) : Calls Tryz.prog 19 #[.int .i64 n] w fun e w' => e = .returned (.string ⟨(digL n).toArray⟩) ∧ Below w.heap.size w w' := by
  have := runs_val (ρ := noSyms) mix (plainly_of plain_names) (noOrc_ok _) lex (kn_ok _) 200 19 [.nat n] [.int .i64 n] (dens_one (by simp [den])) (.str (lenD n) (encD n)) (.string (strOf noSyms (lenD n) (encD n))) (by simp [den]) (allN_some digits_true n h) Tryz.func19 (by kernel_rfl) w
  unfold strOf at this
  rw [bytes_num noSyms (by omega)] at this
  exact this

end Go.Proofs.YtplnnlnkcfappaaGreat.Sv
