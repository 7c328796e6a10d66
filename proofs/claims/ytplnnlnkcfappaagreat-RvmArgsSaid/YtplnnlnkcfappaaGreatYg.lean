/- RvmArgs: awake of layer 23 as a known call; one case. -/
import Derived.Test.YtplnnlnkcfappaaGreatYa
import Derived.Test.YtplnnlnkcfappaaGreatXl
namespace Go.Proofs.YtplnnlnkcfappaaGreat.Ew
open Go Go.RowKit

theorem awake27_true : isTrue (rec Tryz.prog noOrc sk kn0 200 27 [] mem0) = true := by kernel_rfl
theorem awake27_calls (w : World) : Calls Tryz.prog 27 #[] w fun e w' => e = .returned (.bool true) ∧ Below w.heap.size w w' :=
  runs_true (ρ := noSyms) mix (plainly_of plain_names) (noOrc_ok _) lex (kn0_ok _) 200 27 [] [] (by simp [dens]) awake27_true (by kernel_rfl) w
noncomputable def knR : Known := fun f args => te (Nat.beq f 27) (nilTrue args) (kn0 f args)
theorem knR_ok (ρ : Syms) : KnownOk ρ Tryz.prog knR := by
  intro f args v h F w vs hd
  have h' : te (Nat.beq f 27) (nilTrue args) (kn0 f args) = some v := h
  rw [te_eq] at h'
  split at h'
  · rename_i hf
    obtain rfl : f = 27 := Nat.eq_of_beq_eq_true hf
    exact kn_awake Tryz.func27 rfl awake27_calls h' F w vs hd
  · exact kn0_ok ρ f args v h' F w vs hd

def wantsR : Wants := [(16, 9), (3, 0)]
noncomputable def okA (r s : Nat) : Bool := isTrue (rec Tryz.prog (ocW wantsR) sk knR 200 10 [.sym (Nat.mul 16 r), .sym (Nat.add (Nat.mul 16 s) 2)] mem0)
/-- cases lo … lo + len - 1 of the second -/
noncomputable def okAR (r lo : Nat) (len : Nat) : Bool := Nat.rec (motive := fun _ => Bool) true (fun i ih => te (okA r (Nat.add lo i)) ih false) len
theorem okAR_spec {r lo : Nat} (len : Nat) : okAR r lo len = true → ∀ b, lo ≤ b → b < lo + len → okA r b = true := by
  induction len with
  | zero => intro _ b h1 h2; exact absurd h2 (by omega)
  | succ len ih =>
    intro h b h1 h2
    obtain ⟨k0, h⟩ := both (show te (okA r (lo + len)) (okAR r lo len) false = true from h)
    by_cases e : b = lo + len
    · exact e ▸ k0
    · exact ih h b h1 (by omega)

end Go.Proofs.YtplnnlnkcfappaaGreat.Ew
