/- The second evaluator at this seat's program: awake as a known call. -/
import Derived.Test.YtplnnlnkcfappaaGreatZm
namespace Go.Proofs.YtplnnlnkcfappaaGreat.E3
open Go Go.RowKit

theorem noOrc_ok (ρ : Syms) : OrcOk ρ Tryz.prog noOrc := fun _ _ _ _ h => by cases h
def noSyms : Syms := { val := fun _ => .int .i64 0, one := fun _ => rfl }

/-! the two functions of the model's own -/
noncomputable def bits64 (args : List AV) : Option AV := match args with | [.raw (.float .f64 b)] => some (.raw (.int .u64 b)) | _ => none
noncomputable def from64 (args : List AV) : Option AV := match args with | [.raw (.int .u64 b)] => some (.raw (.float .f64 b.toNat)) | _ => none
noncomputable def kn0 : Known := fun f args => te (Nat.beq f 316) (bits64 args) (te (Nat.beq f 323) (from64 args) none)
theorem ext316 : Extern.find Tryz.f316 = some Extern.MathFloatBits.float64bits := by kernel_rfl
theorem ext323 : Extern.find Tryz.f323 = some Extern.MathFloatBits.float64frombits := by kernel_rfl
theorem next316 : Extern.findNext Tryz.f316 = none := by kernel_rfl
theorem next323 : Extern.findNext Tryz.f323 = none := by kernel_rfl
theorem kn0_ok (ρ : Syms) : KnownOk ρ Tryz.prog kn0 := by
  intro f args v h F w vs hd
  have h' : te (Nat.beq f 316) (bits64 args) (te (Nat.beq f 323) (from64 args) none) = some v := h
  rw [te_eq] at h'
  split at h'
  · rename_i hf
    obtain rfl : f = 316 := Nat.eq_of_beq_eq_true hf
    unfold bits64 at h'
    split at h'
    · rename_i b
      obtain rfl := Option.some.inj h'
      obtain ⟨v1, us, h1, h2, rfl⟩ := dens_cons hd
      rw [dens_nil] at h2
      obtain rfl := Option.some.inj h2
      simp only [den, Option.some.injEq] at h1
      subst h1
      exact .of_extern Tryz.func316 (by kernel_rfl) (by kernel_rfl) next316 ext316 (v := .int .u64 b) rfl ⟨by simp [den], Below.refl _ _⟩
    · cases h'
  · rw [te_eq] at h'
    split at h'
    · rename_i hf
      obtain rfl : f = 323 := Nat.eq_of_beq_eq_true hf
      unfold from64 at h'
      split at h'
      · rename_i b
        obtain rfl := Option.some.inj h'
        obtain ⟨v1, us, h1, h2, rfl⟩ := dens_cons hd
        rw [dens_nil] at h2
        obtain rfl := Option.some.inj h2
        simp only [den, Option.some.injEq] at h1
        subst h1
        exact .of_extern Tryz.func323 (by kernel_rfl) (by kernel_rfl) next323 ext323 (v := .float .f64 b.toNat) rfl ⟨by simp [den], Below.refl _ _⟩
      · cases h'
    · cases h'

theorem awakeK_true : isTrue (rec Tryz.prog noOrc sk kn0 200 21 [] mem0) = true := by kernel_rfl
theorem awakeK_calls (w : World) : Calls Tryz.prog 21 #[] w fun e w' => e = .returned (.bool true) ∧ Below w.heap.size w w' :=
  runs_true (ρ := noSyms) mix (plainly_of plain_names) (noOrc_ok _) lex (kn0_ok _) 200 21 [] [] (by simp [dens]) awakeK_true (by kernel_rfl) w

/-- awake as a known call -/
noncomputable def nilTrue (args : List AV) : Option AV := List.rec (motive := fun _ => Option AV) (some (.bool true)) (fun _ _ _ => none) args
noncomputable def kn : Known := fun f args => te (Nat.beq f 21) (nilTrue args) (kn0 f args)

theorem kn_awake {ρ : Syms} {f : FuncId} {fn : Func} (hf : Tryz.prog.funcs[f]? = some fn) (hb : fn.body.isSome = true) (hc : ∀ w, Calls Tryz.prog f #[] w fun e w' => e = .returned (.bool true) ∧ Below w.heap.size w w') {args : List AV} {v : AV} (h : nilTrue args = some v)
    (F : Env) (w : World) (vs : List Value) (hd : dens ρ F args = some vs) : CallRuns Tryz.prog f vs.toArray w fun u w' => den ρ F v = some u ∧ Below w.heap.size w w' := by
  cases args with
  | nil =>
    obtain rfl := Option.some.inj (show some (AV.bool true) = some v from h)
    rw [dens_nil] at hd
    obtain rfl := Option.some.inj hd
    exact .of_calls (plainly_of plain_names) ⟨fn, hf, hb⟩ ((hc w).mono fun e w' ⟨h1, h2⟩ => ⟨.bool true, h1, by simp [den], h2⟩)
  | cons x l => cases h

theorem kn_ok (ρ : Syms) : KnownOk ρ Tryz.prog kn := by
  intro f args v h F w vs hd
  have h' : te (Nat.beq f 21) (nilTrue args) (kn0 f args) = some v := h
  rw [te_eq] at h'
  split at h'
  · rename_i hf
    obtain rfl : f = 21 := Nat.eq_of_beq_eq_true hf
    exact kn_awake Tryz.func21 rfl awakeK_calls h' F w vs hd
  · exact kn0_ok ρ f args v h' F w vs hd

end Go.Proofs.YtplnnlnkcfappaaGreat.E3