/- OpsSizes: the small functions. -/
import Derived.Test.YtplnnlnkcfappaaOa
import Derived.WalkLawsBesides
import Derived.KernelRfl
namespace Go.Proofs.Ytplnnlnkcfappaa.Oa
open Go.RowKit
set_option linter.unusedSimpArgs false
set_option linter.unusedVariables false

@[go_sem] theorem run_store_complex {P : Program} {w : World} {a : Addr} {m : Mode} (k : FloatKind) (x y : Nat) : (store a (.complex k x y) m).run P w = stored P w a (.complex k x y) m := run_store P w a _ m rfl

/-- a value of kind k with text s and list L -/
def cv (k : Int) (s : ByteArray) (L : Value) : Value := .agg #[.int .i64 k, .int .i64 0, .complex .f64 0 0, .string s, L]
def nilL : Value := .slice none 0 0
theorem info25 : (Try.prog.info? 25).map (fun i => (i.zero, i.size, i.bytes)) = some (some (cv 0 ⟨#[]⟩ nilL), 5, 72) := by kernel_rfl

set_option maxHeartbeats 1000000 in
theorem plain_nil (w : World) : Calls Try.prog 72 #[cv 0 ⟨#[]⟩ nilL] w fun e w' => e = .returned (.bool true) ∧ w' = w.alloc (.cells #[.int .i64 0, .int .i64 0, .complex .f64 0 0, .string ⟨#[]⟩, .slice none 0 0] 25) := by
  unfold cv nilL
  go_enter Try.func72, Try.ntmps72
  go_wp2
  go_ret
  exact ⟨rfl, rfl⟩

set_option maxHeartbeats 1000000 in
theorem plain_list (w : World) (a : Option Addr) (n : Nat) (cap : Nat) : Calls Try.prog 72 #[cv 4 ⟨#[]⟩ (.slice a n cap)] w fun e w' => e = .returned (.bool true) ∧ w' = w.alloc (.cells #[.int .i64 4, .int .i64 0, .complex .f64 0 0, .string ⟨#[]⟩, .slice a n cap] 25) := by
  unfold cv
  go_enter Try.func72, Try.ntmps72
  go_wp2
  all_goals (go_ret; refine ⟨rfl, ?_⟩; first | rfl | simp [*])

set_option maxHeartbeats 1000000 in
theorem plain_text (w : World) (s : ByteArray) : Calls Try.prog 72 #[cv 3 s nilL] w fun e w' => e = .returned (.bool true) ∧ w' = w.alloc (.cells #[.int .i64 3, .int .i64 0, .complex .f64 0 0, .string s, .slice none 0 0] 25) := by
  unfold cv nilL
  go_enter Try.func72, Try.ntmps72
  go_wp2
  all_goals (go_ret; exact ⟨rfl, rfl⟩)

theorem below_join {B : Nat} {a m b : World} (h1 : Below B a m) (hB : B ≤ a.heap.size) (h2 : Below m.heap.size m b) : Below B a b := h1.trans (h2.mono (Nat.le_trans hB h1.size))
theorem bcell {W w1 : World} (hb : Below W.heap.size W w1) : (∀ b o, b < W.heap.size → w1.cell? ⟨b, o, none⟩ = W.cell? ⟨b, o, none⟩) ∧ (∀ b o, b < W.heap.size → w1.frozen? ⟨b, o, none⟩ = W.frozen? ⟨b, o, none⟩) :=
  ⟨fun b o h => hb.cell (p := ⟨b, o, none⟩) h, fun b o h => hb.frozen (p := ⟨b, o, none⟩) h⟩
theorem set5 {B : Nat} {a w : World} (h : Below B a w) {g : Nat} (hg : B ≤ g) (u0 u1 u2 u3 u4 : Value) : Below B a (((((w.setCell ⟨g, 0, none⟩ u0).setCell ⟨g, 1, none⟩ u1).setCell ⟨g, 2, none⟩ u2).setCell ⟨g, 3, none⟩ u3).setCell ⟨g, 4, none⟩ u4) :=
  (((((h).setCell hg _).setCell hg _).setCell hg _).setCell hg _).setCell hg _

set_option maxHeartbeats 1000000 in
theorem nil_calls (w : World) : Calls Try.prog 22 #[] w fun e w' => e = .returned (cv 0 ⟨#[]⟩ nilL) ∧ w' = w.alloc (.cells #[.int .i64 0, .int .i64 0, .complex .f64 0 0, .string ⟨#[]⟩, .slice none 0 0] 25) := by
  unfold cv nilL
  go_enter Try.func22, Try.ntmps22
  go_wp2
  (try simp only [Exit.inBlock, Exit.then])
  refine bodyPost_ret (v := cv 0 ⟨#[]⟩ nilL) (by simp [results, Try.results22, go_sem, cv, nilL]) rfl ?_
  exact ⟨rfl, rfl⟩

set_option maxHeartbeats 1000000 in
theorem wrong_calls (w : World) (e0 : Int) : Calls Try.prog 12 #[.int .i64 e0] w fun e w' => e = .returned (.tuple #[cv 0 ⟨#[]⟩ nilL, .int .i64 e0]) ∧ w' = (w.alloc (.cells #[.int .i64 0, .int .i64 0, .complex .f64 0 0, .string ⟨#[]⟩, .slice none 0 0] 25)).alloc (.cells #[.int .i64 0, .int .i64 0, .complex .f64 0 0, .string ⟨#[]⟩, .slice none 0 0] 25) := by
  go_enter Try.func12, Try.ntmps12
  go_wp2_with fail
  refine (nil_calls _).mono ?_
  rintro e w1 ⟨rfl, rfl⟩
  unfold cv nilL
  go_wp2
  refine bodyPost_ret (v := .tuple #[cv 0 ⟨#[]⟩ nilL, .int .i64 e0]) (by simp [results, Try.results12, go_sem, cv, nilL]) rfl ?_
  exact ⟨rfl, by simp⟩

set_option maxHeartbeats 1000000 in
theorem soundNil_calls (w : World) (d m : Int) (hd : 0 ≤ d ∧ d < 100) (hm : 0 ≤ m ∧ m ≤ 1000) : Calls Try.prog 64 #[cv 0 ⟨#[]⟩ nilL, .int .i64 d, .int .i64 m] w fun e w' => e = .returned (if 1 ≤ m then .tuple #[.int .i64 1, .bool true] else .tuple #[.int .i64 0, .bool false]) ∧ Below w.heap.size w w' := by
  unfold cv nilL
  by_cases h1 : 1 ≤ m
  · have h2 : ¬ (0 ≥ m) := by omega
    rw [if_pos h1]
    go_enter Try.func64, Try.ntmps64
    go_wp2_with fail
    refine (plain_nil _).mono ?_
    rintro e w1 ⟨rfl, rfl⟩
    go_wp2
    refine wp_loop_once ?_
    go_wp2
    go_ret2
    exact ⟨rfl, by repeat (first | exact Below.refl _ _ | refine Below.alloc ?_ (by simp; omega) _ | refine Below.alloc ?_ (by simp) _)⟩
  · have h2 : m = 0 := by omega
    rw [if_neg h1]
    subst h2
    go_enter Try.func64, Try.ntmps64
    go_wp2_with fail
    refine (plain_nil _).mono ?_
    rintro e w1 ⟨rfl, rfl⟩
    go_wp2
    go_ret2
    exact ⟨rfl, by repeat (first | exact Below.refl _ _ | refine Below.alloc ?_ (by simp; omega) _ | refine Below.alloc ?_ (by simp) _)⟩

end Go.Proofs.Ytplnnlnkcfappaa.Oa
