/- OpsWholes: whatever the numbers. -/
import Derived.Test.YtplnnlnkcfappaaYda
import Derived.Test.YtplnnlnkcfappaaYdb
import Derived.Test.YtplnnlnkcfappaaYdc
import Derived.Test.YtplnnlnkcfappaaYdd
import Derived.Test.YtplnnlnkcfappaaYde
import Derived.Test.YtplnnlnkcfappaaYdf
import Derived.Test.YtplnnlnkcfappaaYdg
import Derived.Test.YtplnnlnkcfappaaYdh
import Derived.Test.YtplnnlnkcfappaaYdi
import Derived.Test.YtplnnlnkcfappaaYdj
import Derived.Test.YtplnnlnkcfappaaYdk
import Derived.Test.YtplnnlnkcfappaaYdl
namespace Go.Proofs.Ytplnnlnkcfappaa.Ew
open Go Go.RowKit
set_option linter.unusedSimpArgs false

def pick7 (a b c d e f g : Int) (k : Nat) : Int := match k with | 0 => a | 1 => b | 2 => c | 3 => d | 4 => e | 5 => f | _ => g
/-- how two numbers stand -/
def Stand (c : Nat) (x y : Int) : Prop := (c = 0 ∧ x < y) ∨ (c = 1 ∧ x = y) ∨ (c = 2 ∧ y < x)
theorem Stand.lt {c : Nat} {x y : Int} (h : Stand c x y) : decide (x < y) = isN c 0 := by
  rcases h with ⟨rfl, h⟩ | ⟨rfl, h⟩ | ⟨rfl, h⟩
  · exact decide_eq_true h
  · exact decide_eq_false (by omega)
  · exact decide_eq_false (by omega)
theorem Stand.gt {c : Nat} {x y : Int} (h : Stand c x y) : decide (x > y) = isN c 2 := by
  rcases h with ⟨rfl, h⟩ | ⟨rfl, h⟩ | ⟨rfl, h⟩
  · exact decide_eq_false (by omega)
  · exact decide_eq_false (by omega)
  · exact decide_eq_true h
theorem Stand.ge {c : Nat} {x y : Int} (h : Stand c x y) : decide (x ≥ y) = notN c 0 := by
  rcases h with ⟨rfl, h⟩ | ⟨rfl, h⟩ | ⟨rfl, h⟩
  · exact decide_eq_false (by omega)
  · exact decide_eq_true (by omega)
  · exact decide_eq_true (by omega)
theorem Stand.le {c : Nat} {x y : Int} (h : Stand c x y) : decide (x ≤ y) = notN c 2 := by
  rcases h with ⟨rfl, h⟩ | ⟨rfl, h⟩ | ⟨rfl, h⟩
  · exact decide_eq_true (by omega)
  · exact decide_eq_true (by omega)
  · exact decide_eq_false (by omega)

def In (x : Int) : Prop := -9223372036854775808 ≤ x ∧ x ≤ 9223372036854775807

section
variable {f : Nat → Int}
theorem entB {b : Bool} {op : BinOp} {u v : AV} {x y : Int} (hu : ∀ F, den (intsS f) F u = some (.int .i64 x)) (hv : ∀ F, den (intsS f) F v = some (.int .i64 y))
    (hrun : ∀ w t, (binOp op t (.int .i64 x) (.int .i64 y)).run Try.prog w = .ok (.bool b) w) : Entry (intsS f) Try.prog (op, u, v, .bool b) := .int hu hv (den_bool _ · _) hrun
theorem entI {op : BinOp} {u v r : AV} {x y z : Int} (hu : ∀ F, den (intsS f) F u = some (.int .i64 x)) (hv : ∀ F, den (intsS f) F v = some (.int .i64 y)) (hr : ∀ F, den (intsS f) F r = some (.int .i64 z))
    (hrun : ∀ w t, (binOp op t (.int .i64 x) (.int .i64 y)).run Try.prog w = .ok (.int .i64 z) w) : Entry (intsS f) Try.prog (op, u, v, r) := .int hu hv hr hrun
theorem symI (k : Nat) {z : Int} (h : f k = z) (F : Env) : den (intsS f) F (.sym k) = some (.int .i64 z) := by rw [den_sym, h]
theorem okI {w : World} {z z' : Int} (h : z = z') : Result.ok (Value.int .i64 z) w = .ok (.int .i64 z') w := by rw [h]
theorem okB {w : World} {z z' : Bool} (h : z = z') : Result.ok (Value.bool z) w = .ok (.bool z') w := by rw [h]
theorem run_and15 (n : Int) (w : World) (t : TypeId) : (binOp .and t (.int .i64 n) (.int .i64 ((15 : Nat) : Int))).run Try.prog w = .ok (.int .i64 (maskd n 4 : Int)) w := by
  have h := and_run' Try.prog n 4 (by decide) t (.tmp 0) (.tmp 0) w
  rw [guard_int] at h
  exact h

theorem entsB_ok {B : AV} {c s : Nat} {x y n : Int} (hB : ∀ F, den (intsS f) F B = some (.int .i64 y)) (h0 : f 0 = x) (h2 : f 2 = wrap64 (x + y)) (h5 : f 5 = wrap64 (f 3 * y)) (h6 : f 6 = n) (hx : In x) (hc : Stand c x y) (hs : Stand s x 0) :
    ∀ e ∈ entsB B c s (maskd n 4), Entry (intsS f) Try.prog e := by
  intro e he
  simp only [entsB, List.mem_cons, List.not_mem_nil, or_false] at he
  obtain ⟨hx1, hx2⟩ := hx
  rcases he with rfl | rfl | rfl | rfl | rfl | rfl | rfl | rfl | rfl | rfl
  · exact entI (symI 0 h0) hB (symI 2 h2) (fun w t => bin_add ..)
  · exact entI (symI 2 h2) hB (symI 0 h0) (fun w t => (bin_sub ..).trans (okI (by unfold wrap64; omega)))
  · exact entB (symI 0 h0) (symI 0 h0) (fun w t => (bin_neq ..).trans (okB (by simp)))
  · exact entB (symI 2 h2) (symI 2 h2) (fun w t => (bin_neq ..).trans (okB (by simp)))
  · exact entB (symI 0 h0) hB (fun w t => (bin_lss ..).trans (okB hc.lt))
  · exact entB (symI 0 h0) hB (fun w t => (bin_gtr ..).trans (okB hc.gt))
  · exact entI (symI 3 rfl) hB (symI 5 h5) (fun w t => bin_mul ..)
  · exact entB (symI 0 h0) (den_nat _ · 0) (fun w t => (bin_geq ..).trans (okB hs.ge))
  · exact entB (symI 0 h0) (den_nat _ · 0) (fun w t => (bin_leq ..).trans (okB hs.le))
  · exact entI (symI 6 h6) (den_nat _ · 15) (den_nat _ · _) (fun w t => run_and15 n w t)

theorem entsM_ok {s : Nat} {x y : Int} (h4 : f 4 = x.tmod y) (hs : Stand s x 0) : ∀ e ∈ entsM s, Entry (intsS f) Try.prog e := by
  have lo : 0 ≤ x → Entry (intsS f) Try.prog (.lss, .sym 4, .nat 0, .bool false) := fun h => entB (symI 4 h4) (den_nat _ · 0) (fun w t => (bin_lss ..).trans (okB (decide_eq_false (by have := Int.tmod_nonneg y h; omega))))
  have hi : x ≤ 0 → Entry (intsS f) Try.prog (.gtr, .sym 4, .nat 0, .bool false) := fun h => entB (symI 4 h4) (den_nat _ · 0) (fun w t => (bin_gtr ..).trans (okB (decide_eq_false (by
    have h3 : 0 ≤ (-x).tmod y := Int.tmod_nonneg y (by omega)
    rw [Int.neg_tmod] at h3
    omega))))
  intro e he
  rcases hs with ⟨rfl, h⟩ | ⟨rfl, h⟩ | ⟨rfl, h⟩
  · have he' : e ∈ [((.gtr, .sym 4, .nat 0, .bool false) : Known2)] := he
    rw [List.mem_singleton.1 he']
    exact hi (by omega)
  · have he' : e ∈ [((.lss, .sym 4, .nat 0, .bool false) : Known2), (.gtr, .sym 4, .nat 0, .bool false)] := he
    simp only [List.mem_cons, List.not_mem_nil, or_false] at he'
    rcases he' with rfl | rfl
    · exact lo (by omega)
    · exact hi (by omega)
  · have he' : e ∈ [((.lss, .sym 4, .nat 0, .bool false) : Known2)] := he
    rw [List.mem_singleton.1 he']
    exact lo (by omega)
end

theorem wrap_off (t : Int) : ∃ k : Int, wrap64 t = t + 18446744073709551616 * k := ⟨-((t + 9223372036854775808) / 18446744073709551616), by unfold wrap64; omega⟩
theorem back (x y : Int) (hx : In x) : wrap64 (wrap64 (wrap64 (x.tdiv y) * y) + x.tmod y) = x := by
  obtain ⟨k, hk⟩ := wrap_off (x.tdiv y)
  have h1 := Int.mul_tdiv_add_tmod x y
  have h2 : wrap64 (x.tdiv y) * y = y * x.tdiv y + 18446744073709551616 * (k * y) := by rw [hk, Int.add_mul, Int.mul_comm (x.tdiv y) y, Int.mul_assoc]
  rw [h2]
  obtain ⟨hx1, hx2⟩ := hx
  generalize y * x.tdiv y = a at *
  generalize k * y = b at *
  generalize x.tmod y = c at *
  unfold wrap64
  omega

theorem wholes2 (x y n : Int) (hx : In x) (h0 : y ≠ 0) (h1 : y ≠ -1) (c s : Nat) (hc : Stand c x y) (hs : Stand s x 0) (hok : ok2 c s (maskd n 4) = true) (w : World) :
    Calls Try.prog 3 #[.int .i64 x, .int .i64 y, .int .i64 n] w fun e w' => e = .returned (.bool true) ∧ Below w.heap.size w w' := by
  let f := pick7 x y (wrap64 (x + y)) (wrap64 (x.tdiv y)) (x.tmod y) (wrap64 (wrap64 (x.tdiv y) * y)) n
  have hents : ∀ e ∈ ents2 c s (maskd n 4), Entry (intsS f) Try.prog e := by
    intro e he
    simp only [ents2, List.mem_cons, List.mem_append] at he
    rcases he with rfl | rfl | rfl | rfl | rfl | rfl | he | he
    · exact entB (symI 1 rfl) (symI 1 rfl) (fun w t => (bin_neq ..).trans (okB (by simp)))
    · exact entB (symI 1 rfl) (den_nat _ · 0) (fun w t => (bin_eql ..).trans (okB (by
        have : ¬ y = ((0 : Nat) : Int) := h0
        exact beq_eq_false_iff_ne.2 this)))
    · exact entB (symI 1 rfl) (den_raw _ · _) (fun w t => (bin_eql ..).trans (okB (by
        have : ¬ y = -1 := h1
        exact beq_eq_false_iff_ne.2 this)))
    · exact entI (symI 0 rfl) (symI 1 rfl) (symI 3 rfl) (fun w t => bin_quo _ _ _ _ h0)
    · exact entI (symI 0 rfl) (symI 1 rfl) (symI 4 rfl) (fun w t => bin_rem _ _ _ _ h0)
    · exact entI (symI 5 rfl) (symI 4 rfl) (symI 0 rfl) (fun w t => (bin_add ..).trans (okI (back x y hx)))
    · exact entsM_ok rfl hs e he
    · exact entsB_ok (symI 1 rfl) rfl rfl rfl rfl hx hc hs e he
  exact runs_true (ρ := intsS f) mix (plainly_of plain_names) (ocL_ok hents) lex (knS_ok _) 200 3 [.sym 0, .sym 1, .sym 6] [.int .i64 x, .int .i64 y, .int .i64 n]
    (dens_cons_mk (den_sym f _ 0) (dens_cons_mk (den_sym f _ 1) (dens_one (den_sym f _ 6)))) hok (by kernel_rfl) w

theorem wholes1 (x n : Int) (hx : In x) (c s : Nat) (hc : Stand c x (-1)) (hs : Stand s x 0) (hok : ok1 c s (maskd n 4) = true) (w : World) :
    Calls Try.prog 3 #[.int .i64 x, .int .i64 (-1), .int .i64 n] w fun e w' => e = .returned (.bool true) ∧ Below w.heap.size w w' := by
  let f := pick7 x 0 (wrap64 (x + -1)) (wrap64 (0 - x)) 0 (wrap64 (wrap64 (0 - x) * -1)) n
  have hB : ∀ F, den (intsS f) F minus1 = some (.int .i64 (-1)) := fun F => den_raw _ F _
  have hents : ∀ e ∈ ents1 c s (maskd n 4), Entry (intsS f) Try.prog e := by
    intro e he
    simp only [ents1, List.mem_cons] at he
    rcases he with rfl | rfl | he
    · exact entI (den_nat _ · 0) (symI 0 rfl) (symI 3 rfl) (fun w t => bin_sub ..)
    · exact entI (symI 5 rfl) (den_nat _ · 0) (symI 0 rfl) (fun w t => (bin_add ..).trans (okI (by
        obtain ⟨hx1, hx2⟩ := hx
        show wrap64 (wrap64 (wrap64 (0 - x) * -1) + 0) = x
        unfold wrap64
        omega)))
    · exact entsB_ok hB rfl rfl rfl rfl hx hc hs e he
  exact runs_true (ρ := intsS f) mix (plainly_of plain_names) (ocL_ok hents) lex (knS_ok _) 200 3 [.sym 0, minus1, .sym 6] [.int .i64 x, .int .i64 (-1), .int .i64 n]
    (dens_cons_mk (den_sym f _ 0) (dens_cons_mk (hB _) (dens_one (den_sym f _ 6)))) hok (by kernel_rfl) w

theorem wholes0 (x n : Int) (hx : In x) (s : Nat) (hs : Stand s x 0) (hok : ok0 s = true) (w : World) :
    Calls Try.prog 3 #[.int .i64 x, .int .i64 0, .int .i64 n] w fun e w' => e = .returned (.bool true) ∧ Below w.heap.size w w' := by
  let f := pick7 x 0 0 0 0 0 n
  have hents : ∀ e ∈ ents0 s, Entry (intsS f) Try.prog e := by
    intro e he
    obtain ⟨hx1, hx2⟩ := hx
    simp only [ents0, List.mem_cons, List.not_mem_nil, or_false] at he
    rcases he with rfl | rfl | rfl | rfl | rfl
    · exact entI (symI 0 rfl) (den_nat _ · 0) (symI 0 rfl) (fun w t => (bin_add ..).trans (okI (by show wrap64 (x + 0) = x; unfold wrap64; omega)))
    · exact entI (symI 0 rfl) (den_nat _ · 0) (symI 0 rfl) (fun w t => (bin_sub ..).trans (okI (by show wrap64 (x - 0) = x; unfold wrap64; omega)))
    · exact entB (symI 0 rfl) (symI 0 rfl) (fun w t => (bin_neq ..).trans (okB (by simp)))
    · exact entB (symI 0 rfl) (den_nat _ · 0) (fun w t => (bin_lss ..).trans (okB hs.lt))
    · exact entB (symI 0 rfl) (den_nat _ · 0) (fun w t => (bin_gtr ..).trans (okB hs.gt))
  exact runs_true (ρ := intsS f) mix (plainly_of plain_names) (ocL_ok hents) lex (knS_ok _) 200 3 [.sym 0, .nat 0, .sym 6] [.int .i64 x, .int .i64 0, .int .i64 n]
    (dens_cons_mk (den_sym f _ 0) (dens_cons_mk (den_nat _ _ 0) (dens_one (den_sym f _ 6)))) hok (by kernel_rfl) w

theorem stands (x y : Int) : (x < y ∧ Stand 0 x y) ∨ (x = y ∧ Stand 1 x y) ∨ (y < x ∧ Stand 2 x y) := by
  rcases Int.lt_trichotomy x y with h | h | h
  · exact .inl ⟨h, .inl ⟨rfl, h⟩⟩
  · exact .inr (.inl ⟨h, .inr (.inl ⟨rfl, h⟩)⟩)
  · exact .inr (.inr ⟨h, .inr (.inr ⟨rfl, h⟩)⟩)

theorem wholes_calls (x y n : Int) (hx : In x) (w : World) : Calls Try.prog 3 #[.int .i64 x, .int .i64 y, .int .i64 n] w fun e w' => e = .returned (.bool true) ∧ Below w.heap.size w w' := by
  have hr : maskd n 4 < 16 := maskd_lt n 4 (by decide)
  by_cases h0 : y = 0
  · subst h0
    rcases stands x 0 with ⟨_, hs⟩ | ⟨_, hs⟩ | ⟨_, hs⟩
    · exact wholes0 x n hx 0 hs t0 w
    · exact wholes0 x n hx 1 hs t0' w
    · exact wholes0 x n hx 2 hs t0'' w
  · by_cases h1 : y = -1
    · subst h1
      rcases stands x (-1) with ⟨h, hc⟩ | ⟨h, hc⟩ | ⟨h, hc⟩ <;> rcases stands x 0 with ⟨h', hs⟩ | ⟨h', hs⟩ | ⟨h', hs⟩ <;> first | omega | skip
      · exact wholes1 x n hx 0 0 hc hs (whole_100 _ hr) w
      · exact wholes1 x n hx 1 0 hc hs (whole_110 _ hr) w
      · exact wholes1 x n hx 2 1 hc hs (whole_121 _ hr) w
      · exact wholes1 x n hx 2 2 hc hs (whole_122 _ hr) w
    · rcases stands x y with ⟨h, hc⟩ | ⟨h, hc⟩ | ⟨h, hc⟩ <;> rcases stands x 0 with ⟨h', hs⟩ | ⟨h', hs⟩ | ⟨h', hs⟩
      · exact wholes2 x y n hx h0 h1 0 0 hc hs (whole_200 _ hr) w
      · exact wholes2 x y n hx h0 h1 0 1 hc hs (whole_201 _ hr) w
      · exact wholes2 x y n hx h0 h1 0 2 hc hs (whole_202 _ hr) w
      · exact wholes2 x y n hx h0 h1 1 0 hc hs (whole_210 _ hr) w
      · omega
      · exact wholes2 x y n hx h0 h1 1 2 hc hs (whole_212 _ hr) w
      · exact wholes2 x y n hx h0 h1 2 0 hc hs (whole_220 _ hr) w
      · exact wholes2 x y n hx h0 h1 2 1 hc hs (whole_221 _ hr) w
      · exact wholes2 x y n hx h0 h1 2 2 hc hs (whole_222 _ hr) w

end Go.Proofs.Ytplnnlnkcfappaa.Ew
