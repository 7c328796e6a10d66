/- Plain law: four fields of six bits; 'bits' at any number. -/
import Derived.Test.YteaaahcgkodcdaaGc
namespace Go.Proofs.Yteaaahcgkodcdaa.Ea
open Go.RowKit

theorem or_E {a b c d : Int} (a0 : 0 ≤ a) (a1 : a < 64) (b0 : 0 ≤ b) (b1 : b < 64) (c0 : 0 ≤ c) (c1 : c < 64) (d0 : 0 ≤ d) (d1 : d < 64) :
    bits .or .u32 (bits .or .u32 (bits .or .u32 (bits .or .u32 251658240 (IntKind.u32.wrap (IntKind.u32.wrap a * 262144))) (IntKind.u32.wrap (IntKind.u32.wrap b * 4096))) (IntKind.u32.wrap (IntKind.u32.wrap c * 64))) (IntKind.u32.wrap d)
      = 15 * 16777216 + a * 262144 + b * 4096 + c * 64 + d := by
  simp only [IntKind.wrap_u32]
  rw [show a % 4294967296 = a from by omega, show b % 4294967296 = b from by omega, show c % 4294967296 = c from by omega, show d % 4294967296 = d from by omega,
    show a * 262144 % 4294967296 = a * 262144 from by omega, show b * 4096 % 4294967296 = b * 4096 from by omega, show c * 64 % 4294967296 = c * 64 from by omega]
  rw [join 24 251658240 (a * 262144) (by omega) (by omega) (by omega) (by omega) (by omega) (by omega),
    join 18 (251658240 + a * 262144) (b * 4096) (by omega) (by omega) (by omega) (by omega) (by omega) (by omega),
    join 12 (251658240 + a * 262144 + b * 4096) (c * 64) (by omega) (by omega) (by omega) (by omega) (by omega) (by omega),
    join 6 (251658240 + a * 262144 + b * 4096 + c * 64) d (by omega) (by omega) (by omega) (by omega) (by omega) (by omega)]
  omega

/-- likewise, the number of bits as an int -/
def fitI (x m : Int) : Bool := decide (0 ≤ x ∧ x < 2 ^ m.toNat)
theorem fitI8 (x : Int) : fitB x 8 = fitI x 8 := rfl
theorem fitI16 (x : Int) : fitB x 16 = fitI x 16 := rfl
theorem bits_any (x m : Int) (w : World) (h0 : 0 ≤ m) (h1 : m ≤ 62) : Calls Try.prog 44 #[.int .i64 x, .int .i64 m] w fun e w' => e = .returned (.bool (fitI x m)) ∧ w' = w := by
  obtain ⟨n, rfl⟩ := Int.eq_ofNat_of_zero_le h0
  exact bits_calls x n w (by omega)

end Go.Proofs.Yteaaahcgkodcdaa.Ea
