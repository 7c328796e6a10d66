/- StackGrows: one case. -/
import Derived.Test.YteaaahcgkodcdaaYa
import Derived.Test.YteaaahcgkodcdaaXl
namespace Go.Proofs.Yteaaahcgkodcdaa.Ew
open Go Go.RowKit

def wantsG : Wants := [(16, 80), (16, 3)]
noncomputable def okG (r s : Nat) : Bool := isTrue (rec Try.prog (ocW wantsG) sk kn 200 10 [.sym (Nat.mul 16 r), .sym (Nat.add (Nat.mul 16 s) 2)] mem0)
noncomputable def okGR (lo : Nat) (len : Nat) : Bool :=
  Nat.rec (motive := fun _ => Bool) true (fun i ih => te (okG (Nat.add lo i) 0) (te (okG (Nat.add lo i) 1) (te (okG (Nat.add lo i) 2) ih false) false) false) len
theorem okGR_spec {lo : Nat} : ∀ {len : Nat}, okGR lo len = true → ∀ b, lo ≤ b → b < lo + len → ∀ c, c < 3 → okG b c = true
  | 0, _, b, h1, h2, c, _ => by omega
  | len + 1, h, b, h1, h2, c, hc => by
    obtain ⟨k0, h⟩ := both (show te (okG (lo + len) 0) (te (okG (lo + len) 1) (te (okG (lo + len) 2) (okGR lo len) false) false) false = true from h)
    obtain ⟨k1, h⟩ := both h
    obtain ⟨k2, h⟩ := both h
    by_cases e : b = lo + len
    · subst e
      match c, hc with
      | 0, _ => exact k0
      | 1, _ => exact k1
      | 2, _ => exact k2
    · exact okGR_spec h b h1 (by omega) c hc

end Go.Proofs.Yteaaahcgkodcdaa.Ew
