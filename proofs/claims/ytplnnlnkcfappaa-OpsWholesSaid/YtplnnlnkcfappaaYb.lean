/- OpsWholes: a whole number is a sound value, whatever it is: a known call. -/
import Derived.Test.YtplnnlnkcfappaaYa
import Derived.Test.YtplnnlnkcfappaaXv
namespace Go.Proofs.Ytplnnlnkcfappaa.Ew
open Go Go.RowKit
set_option linter.unusedSimpArgs false

def intsS (f : Nat → Int) : Syms := ⟨fun k => .int .i64 (f k), fun _ => rfl⟩
theorem den_sym (f : Nat → Int) (F : Env) (k : Nat) : den (intsS f) F (.sym k) = some (.int .i64 (f k)) := rfl
theorem den_nat (ρ : Syms) (F : Env) (n : Nat) : den ρ F (.nat n) = some (.int .i64 (n : Int)) := by simp [den]
theorem den_bool (ρ : Syms) (F : Env) (b : Bool) : den ρ F (.bool b) = some (.bool b) := by simp [den]
theorem den_raw (ρ : Syms) (F : Env) (v : Value) : den ρ F (.raw v) = some v := by simp [den]

/-- what a row of values is, and is not -/
def isOk1 (o : R) : Bool := match o with | some (.call (.tup [.nat 1, .bool true]) _) => true | _ => false
theorem isOk1_some {o : R} (h : isOk1 o = true) : ∃ m, o = some (.call (.tup [.nat 1, .bool true]) m) := by
  unfold isOk1 at h
  split at h
  · exact ⟨_, rfl⟩
  · cases h

/-- a whole number as a value, its number under a sign -/
def intV (n : AV) : AV := .agg [.nat 1, n, .raw (.complex .f64 0 0), .raw (.string ⟨#[]⟩), .raw (.slice none 0 0)]
def intC (n : Int) : Value := .agg #[.int .i64 1, .int .i64 n, .complex .f64 0 0, .string ⟨#[]⟩, .slice none 0 0]
noncomputable def soundL (z : Bool) : List Known2 := [(.eql, .sym 0, .nat 0, .bool z), (.geq, .nat 0, .sym 2, .bool false), (.leq, .nat 1, .sym 2, .bool true)]
theorem sound_true : isOk1 (rec Try.prog (ocL (soundL true)) sk kn0 200 64 [intV (.sym 0), .sym 1, .sym 2] mem0) = true := by kernel_rfl
theorem sound_false : isOk1 (rec Try.prog (ocL (soundL false)) sk kn0 200 64 [intV (.sym 0), .sym 1, .sym 2] mem0) = true := by kernel_rfl

def pick3 (a b c : Int) (k : Nat) : Int := match k with | 0 => a | 1 => b | _ => c
theorem soundL_ok (n d m : Int) (hm : 1 ≤ m) (z : Bool) (hz : (n == 0) = z) : OrcOk (intsS (pick3 n d m)) Try.prog (ocL (soundL z)) := by
  refine ocL_ok fun e he => ?_
  simp only [soundL, List.mem_cons, List.not_mem_nil, or_false] at he
  rcases he with rfl | rfl | rfl
  · exact .int (den_sym _ · 0) (den_nat _ · 0) (den_bool _ · _) (fun w t => by rw [bin_eql]; exact congrArg (fun b => Result.ok (Value.bool b) w) hz)
  · exact .int (den_nat _ · 0) (den_sym _ · 2) (den_bool _ · _) (fun w t => by
      rw [bin_geq]
      have : ¬ (0 : Int) ≥ m := by omega
      exact congrArg (fun b => Result.ok (Value.bool b) w) (decide_eq_false this))
  · exact .int (den_nat _ · 1) (den_sym _ · 2) (den_bool _ · _) (fun w t => by
      rw [bin_leq]
      exact congrArg (fun b => Result.ok (Value.bool b) w) (decide_eq_true (show ((1 : Nat) : Int) ≤ m by omega)))

theorem dens_intV {ρ : Syms} {F : Env} {x : AV} {n : Int} (h : den ρ F x = some (.int .i64 n)) : den ρ F (intV x) = some (intC n) := by
  simp [intV, intC, den, dens, h]

theorem sound_calls (n d m : Int) (hm : 1 ≤ m) (w : World) : Calls Try.prog 64 #[intC n, .int .i64 d, .int .i64 m] w fun e w' => e = .returned (.tuple #[.int .i64 1, .bool true]) ∧ Below w.heap.size w w' := by
  have key : ∀ z, (n == 0) = z → isOk1 (rec Try.prog (ocL (soundL z)) sk kn0 200 64 [intV (.sym 0), .sym 1, .sym 2] mem0) = true → Calls Try.prog 64 #[intC n, .int .i64 d, .int .i64 m] w fun e w' => e = .returned (.tuple #[.int .i64 1, .bool true]) ∧ Below w.heap.size w w' := by
    intro z hz h
    obtain ⟨m', h⟩ := isOk1_some h
    have hd : dens (intsS (pick3 n d m)) (fun _ => none) [intV (.sym 0), .sym 1, .sym 2] = some [intC n, .int .i64 d, .int .i64 m] :=
      dens_cons_mk (dens_intV (den_sym _ _ 0)) (dens_cons_mk (den_sym _ _ 1) (dens_one (den_sym _ _ 2)))
    rcases rec_ok mix (plainly_of plain_names) (soundL_ok n d m hm z hz) lex (kn0_ok _) 200 64 _ mem0 _ _ h w.heap.size (fun _ => none) w _ (empty_inv w) hd with ⟨_, hc⟩ | ⟨u, hr, _⟩
    · refine hc.mono fun e w' hh => ?_
      obtain ⟨v, rfl, F', _, hv, _, hb⟩ := hh
      have hv' : v = .tuple #[.int .i64 1, .bool true] := by
        have : den (intsS (pick3 n d m)) F' (.tup [.nat 1, .bool true]) = some (.tuple #[.int .i64 1, .bool true]) := by simp [den, dens]
        rw [this] at hv
        exact (Option.some.inj hv).symm
      exact ⟨by rw [hv'], hb.below⟩
    · rw [callFunc_run (plainly_of plain_names) ⟨Try.f64, Try.func64, rfl⟩] at hr
      cases hr
  cases hz : (n == 0) with
  | true => exact key true hz sound_true
  | false => exact key false hz sound_false

/-- the known calls: awake, the model's own, sound of a whole number -/
def isInt (x : AV) : Bool := match x with | .nat _ => true | .sym _ => true | _ => false
noncomputable def soundK (args : List AV) : Option AV :=
  match args with
  | [v, d, m] => match v with
    | .agg [k, n, z, s, l] => gd (eqAV k (.nat 1)) (gd (isInt n) (gd (eqAV z (.raw (.complex .f64 0 0))) (gd (eqAV s (.raw (.string ⟨#[]⟩))) (gd (eqAV l (.raw (.slice none 0 0)))
      (match d, m with | .nat _, .nat q => gd (Nat.ble 1 q) (some (.tup [.nat 1, .bool true])) | _, _ => none)))))
    | _ => none
  | _ => none
noncomputable def knS : Known := fun f args => te (Nat.beq f 64) (soundK args) (kn f args)

theorem knS_ok (g : Nat → Int) : KnownOk (intsS g) Try.prog knS := by
  intro f args v h F w vs hd
  have h' : te (Nat.beq f 64) (soundK args) (kn f args) = some v := h
  rw [te_eq] at h'
  split at h'
  · rename_i hf
    obtain rfl : f = 64 := Nat.eq_of_beq_eq_true hf
    unfold soundK at h'
    split at h'
    · rename_i x d m
      split at h'
      · rename_i k n z s l
        obtain ⟨h1, g1⟩ := gd_some h'
        obtain ⟨h2, g2⟩ := gd_some g1
        obtain ⟨h3, g3⟩ := gd_some g2
        obtain ⟨h4, g4⟩ := gd_some g3
        obtain ⟨h5, g5⟩ := gd_some g4
        clear h' g1 g2 g3 g4
        split at g5
        · rename_i dd q
          obtain ⟨h6, g6⟩ := gd_some g5
          clear g5
          obtain rfl := Option.some.inj g6
          obtain rfl := eqAV_eq h1
          obtain rfl := eqAV_eq h3
          obtain rfl := eqAV_eq h4
          obtain rfl := eqAV_eq h5
          have hq : 1 ≤ q := Nat.le_of_ble_eq_true h6
          obtain ⟨nz, hnz⟩ : ∃ nz : Int, den (intsS g) F n = some (.int .i64 nz) := by
            cases n <;> first | exact ⟨_, den_nat _ _ _⟩ | exact ⟨_, den_sym _ _ _⟩ | cases h2
          have hd2 := dens_cons_mk (dens_intV hnz) (dens_cons_mk (den_nat (intsS g) F dd) (dens_one (den_nat (intsS g) F q)))
          rw [show [AV.agg [AV.nat 1, n, .raw (.complex .f64 0 0), .raw (.string ⟨#[]⟩), .raw (.slice none 0 0)], AV.nat dd, AV.nat q] = [intV n, .nat dd, .nat q] from rfl, hd2] at hd
          obtain rfl := Option.some.inj hd
          refine .of_calls (plainly_of plain_names) ⟨Try.f64, Try.func64, rfl⟩ ((sound_calls nz dd q (by omega) w).mono fun e w' ⟨e1, e2⟩ => ⟨_, e1, by simp [den, dens], e2⟩)
        · cases g5
      · cases h'
    · cases h'
  · exact kn_ok _ f args v h' F w vs hd

end Go.Proofs.Ytplnnlnkcfappaa.Ew
