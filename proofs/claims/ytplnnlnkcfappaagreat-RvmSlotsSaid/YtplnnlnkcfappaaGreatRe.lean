/- RvmSlots: numbers and nil as values. -/
import Derived.Test.YtplnnlnkcfappaaGreatRb
import Derived.Test.YtplnnlnkcfappaaGreatXx
namespace Go.Proofs.YtplnnlnkcfappaaGreat.Rs
open Go.RowKit Ew
set_option linter.unusedSimpArgs false
set_option linter.unusedVariables false

def kd (n : Int) : Int := if n = 0 then 0 else 1
/-- the cells of the number n as a value; of 0: of nil -/
def vc (n : Int) : List Value := [.int .i64 (kd n), .int .i64 n, .complex .f64 0 0, .string ⟨#[]⟩, .slice none 0 0]
theorem vc_len (n : Int) : (vc n).length = 5 := rfl
def vv (n : Int) : Value := .agg #[.int .i64 (kd n), .int .i64 n, .complex .f64 0 0, .string ⟨#[]⟩, .slice none 0 0]

noncomputable section
def vv1 : AV := .agg [.nat 1, .sym 0, .raw (.complex .f64 0 0), .raw (.string ⟨#[]⟩), .raw (.slice none 0 0)]
def vv0 : AV := .agg [.nat 0, .nat 0, .raw (.complex .f64 0 0), .raw (.string ⟨#[]⟩), .raw (.slice none 0 0)]
def orcZ : Orc := fun op u v => match op, u with
  | .eql, .sym k => gd (Nat.beq k 0) (ob (asN64 v) fun c => gd (Nat.beq c 0) (some (.bool false)))
  | _, _ => none
end
def oneSym (n : Int) : Syms := ⟨fun _ => .int .i64 n, fun _ => rfl⟩
theorem orcZ_ok {n : Int} (hn : n ≠ 0) : OrcOk (oneSym n) Tryz.prog orcZ := by
  intro op u v r h
  unfold orcZ at h
  split at h
  · rename_i k
    obtain ⟨_, h⟩ := gd_some h
    obtain ⟨c, hc, h⟩ := ob_some h
    obtain ⟨hz, h⟩ := gd_some h
    obtain rfl := Option.some.inj h
    obtain rfl : c = 0 := Nat.eq_of_beq_eq_true hz
    refine ⟨by simp, (asN64_some hc (fun _ => none) (ρ := oneSym n)).2, fun F a b ha hb => ⟨.bool false, by simp [den], fun w t p q => ?_⟩⟩
    have hb' := (asN64_some hc F (ρ := oneSym n)).1
    rw [hb] at hb'
    obtain rfl := Option.some.inj hb'
    simp only [den, Option.some.injEq] at ha
    subst ha
    rw [show (oneSym n).val k = .int .i64 n from rfl, guard_int, bin_eql]
    simp [hn]
  · cases h
theorem den_vv1 {n : Int} (hn : n ≠ 0) (F : Env) : den (oneSym n) F vv1 = some (vv n) := by
  have h : kd n = 1 := by unfold kd; rw [if_neg hn]
  have hv : (oneSym n).val 0 = .int .i64 n := rfl
  unfold vv1 vv
  rw [h]
  simp [den, dens, hv]
theorem den_vv0 {ρ : Syms} (F : Env) : den ρ F vv0 = some (vv 0) := by
  unfold vv0 vv kd
  simp [den, dens]

theorem ok1 : isTrue (rec Tryz.prog orcZ sk kn0 200 130 [vv1] mem0) = true := by kernel_rfl
theorem ok0 : isTrue (rec Tryz.prog noOrc sk kn0 200 130 [vv0] mem0) = true := by kernel_rfl
theorem copy1 : isVal vv1 (rec Tryz.prog orcZ sk kn0 200 83 [vv1] mem0) = true := by kernel_rfl
theorem copy0 : isVal vv0 (rec Tryz.prog noOrc sk kn0 200 83 [vv0] mem0) = true := by kernel_rfl
theorem nil0 : isVal vv0 (rec Tryz.prog noOrc sk kn0 200 47 [] mem0) = true := by kernel_rfl
theorem int1 : isVal vv1 (rec Tryz.prog orcZ sk kn0 200 25 [.sym 0] mem0) = true := by kernel_rfl

theorem ok_calls (w : World) (n : Int) : Calls Tryz.prog 130 #[vv n] w fun e w' => e = .returned (.bool true) ∧ Below w.heap.size w w' := by
  by_cases hn : n = 0
  · subst hn
    exact runs_true (ρ := noSyms) mix (plainly_of plain_names) (noOrc_ok _) lex (kn0_ok _) 200 130 [vv0] [vv 0] (by simp [dens, den_vv0]) ok0 (by kernel_rfl) w
  · exact runs_true (ρ := oneSym n) mix (plainly_of plain_names) (orcZ_ok hn) lex (kn0_ok _) 200 130 [vv1] [vv n] (by simp [dens, den_vv1 hn]) ok1 (by kernel_rfl) w
theorem copy_calls (w : World) (n : Int) : Calls Tryz.prog 83 #[vv n] w fun e w' => e = .returned (vv n) ∧ Below w.heap.size w w' := by
  by_cases hn : n = 0
  · subst hn
    exact runs_val (ρ := noSyms) mix (plainly_of plain_names) (noOrc_ok _) lex (kn0_ok _) 200 83 [vv0] [vv 0] (by simp [dens, den_vv0]) vv0 (vv 0) (den_vv0 _) copy0 Tryz.func83 rfl w
  · exact runs_val (ρ := oneSym n) mix (plainly_of plain_names) (orcZ_ok hn) lex (kn0_ok _) 200 83 [vv1] [vv n] (by simp [dens, den_vv1 hn]) vv1 (vv n) (den_vv1 hn _) copy1 Tryz.func83 rfl w
theorem nil_calls (w : World) : Calls Tryz.prog 47 #[] w fun e w' => e = .returned (vv 0) ∧ Below w.heap.size w w' :=
  runs_val (ρ := noSyms) mix (plainly_of plain_names) (noOrc_ok _) lex (kn0_ok _) 200 47 [] [] (by simp [dens]) vv0 (vv 0) (den_vv0 _) nil0 Tryz.func47 rfl w
theorem int_calls (w : World) (n : Int) (hn : n ≠ 0) : Calls Tryz.prog 25 #[.int .i64 n] w fun e w' => e = .returned (vv n) ∧ Below w.heap.size w w' :=
  runs_val (ρ := oneSym n) mix (plainly_of plain_names) (orcZ_ok hn) lex (kn0_ok _) 200 25 [.sym 0] [.int .i64 n] (by simp [dens, den, oneSym]) vv1 (vv n) (den_vv1 hn _) int1 Tryz.func25 rfl w

end Go.Proofs.YtplnnlnkcfappaaGreat.Rs
