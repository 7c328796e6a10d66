/- The machine with a stack, in plain words: a function that calls itself so often. No program in sight. -/
import Derived.Test.YtplnnlnkcfappaaGreatTq
namespace Go.Proofs.YtplnnlnkcfappaaGreat.Sv
open Go.RowKit E3
set_option linter.unusedVariables false

def fCode : List (Nat × Nat × Nat) := [(2, 0, 0), (1, 0, 0), (5, 6, 0), (8, 6, 0), (1, 0, 0), (10, 0, 0), (1, 1, 0), (2, 0, 0), (1, 1, 0), (5, 2, 0), (12, 1, 0), (9, 0, 1), (5, 1, 0), (10, 0, 0), (1, 2, 0), (10, 0, 0)]
def mCode : List (Nat × Nat × Nat) := [(1, 0, 0), (12, 2, 0), (9, 0, 1), (10, 0, 0), (1, 1, 0), (10, 0, 0)]
section
variable {fs : List FV} {f m : FV} (hf : fs[0]? = some f) (fc : f.code = fCode) (fk : f.consts = [(1, 0), (1, 1), (0, 0)]) (fl : f.locals = 1)
include hf fc fk fl

omit hf fl in
/-- from the first instruction to the tick -/
theorem f_head {k : Nat} (hk : k < 2000) {rest : List (FV × St)} {fuel : Nat} {t : List Nat} {R : Option Nat} (h : ∃ n, MRuns fs f ⟨10, [some (k + 1)], [1, k], true⟩ rest fuel t R n) : ∃ n, MRuns fs f ⟨0, [some (k + 1)], [], false⟩ rest fuel t R n := by
  obtain ⟨n, h⟩ := h
  have e : bop 6 (k + 1) 0 = 0 := by simp [bop]
  obtain ⟨_, h2⟩ : ∃ n, MRuns fs f ⟨if bop 6 (k + 1) 0 = 0 then 6 else 4, [some (k + 1)], [], true⟩ rest fuel t R n := by
    rw [e, if_pos rfl]
    exact ⟨_, .const (z := 1) (by rw [fc]; rfl) (by rw [fk]; rfl) (by simp) (.load (z := k + 1) (by rw [fc]; rfl) rfl (by simp) (.const (z := 1) (by rw [fc]; rfl) (by rw [fk]; rfl) (by simp) (.sub (u := k + 1) (v := 1) (by rw [fc]; rfl) (by omega) (by omega) h)))⟩
  exact ⟨_, .load (z := k + 1) (by rw [fc]; rfl) rfl (by simp) (.const (z := 0) (by rw [fc]; rfl) (by rw [fk]; rfl) (by simp) (.bin (by rw [fc]; rfl) (by simp) (by omega) (by omega) (.brz (by rw [fc]; rfl) h2)))⟩

/-- enough fuel -/
theorem f_runs : ∀ (k : Nat), k < 2000 → ∀ (g : FV) (st : St) (rest : List (FV × St)) (fuel : Nat) (t : List Nat) (R : Option Nat), k ≤ fuel → st.xs.length ≤ 2 → rest.length + 1 + k ≤ 5000 → (∃ n, MRuns fs g ⟨st.pc, st.ls, st.xs ++ [k], true⟩ rest (fuel - k) t R n) → ∃ n, MRuns fs f ⟨0, [some k], [], false⟩ ((g, st) :: rest) fuel (List.replicate k 1 ++ t) R n
  | 0, _, g, st, rest, fuel, t, R, _, hx, hd, ⟨n, h⟩ => by
    have e : bop 6 0 0 = 1 := rfl
    obtain ⟨_, h2⟩ : ∃ n, MRuns fs f ⟨if bop 6 0 0 = 0 then 6 else 4, [some 0], [], true⟩ ((g, st) :: rest) fuel t R n := by
      rw [e, if_neg (by decide)]
      exact ⟨_, .const (z := 0) (by rw [fc]; rfl) (by rw [fk]; rfl) (by simp) (.back (by rw [fc]; rfl) hx h)⟩
    exact ⟨_, .load (z := 0) (by rw [fc]; rfl) rfl (by simp) (.const (z := 0) (by rw [fc]; rfl) (by rw [fk]; rfl) (by simp) (.bin (by rw [fc]; rfl) (by simp) (by omega) (by omega) (.brz (by rw [fc]; rfl) h2)))⟩
  | k + 1, hk, g, st, rest, fuel, t, R, hf1, hx, hd, ⟨n, h⟩ => by
    refine f_head fc fk (by omega) ?_
    obtain ⟨fu, rfl⟩ : ∃ fu, fuel = fu + 1 := ⟨fuel - 1, by omega⟩
    have hb : bop 1 1 k = k + 1 := by simp [bop]; omega
    obtain ⟨n2, h2⟩ := f_runs k (by omega) f ⟨12, [some (k + 1)], [1], true⟩ ((g, st) :: rest) fu t R (by omega) (by simp) (by simp; omega) ⟨_, .bin (u := 1) (v := k) (by rw [fc]; rfl) (by simp) (by omega) (by omega) (.back (by rw [fc]; rfl) hx (by
      rw [hb, show fu - k = fu + 1 - (k + 1) by omega]
      exact h))⟩
    exact ⟨_, .tick (by rw [fc]; rfl) (by simp) (.call (ys := [1]) (z := k) (by rw [fc]; rfl) hf fl (by simp) (by simp; omega) h2)⟩

/-- not enough -/
theorem f_stops : ∀ (k : Nat), k < 2000 → ∀ (rest : List (FV × St)) (fuel : Nat), fuel < k → rest.length + k ≤ 5000 → ∃ n, MRuns fs f ⟨0, [some k], [], false⟩ rest fuel (List.replicate fuel 1) none n
  | 0, _, rest, fuel, h, hd => absurd h (Nat.not_lt_zero _)
  | k + 1, hk, rest, 0, h, hd => by
    refine f_head fc fk (by omega) ⟨_, .stop (by rw [fc]; rfl) (by simp)⟩
  | k + 1, hk, rest, fu + 1, h, hd => by
    obtain ⟨n2, h2⟩ := f_stops k (by omega) ((f, ⟨12, [some (k + 1)], [1], true⟩) :: rest) fu (by omega) (by simp; omega)
    exact f_head fc fk (by omega) ⟨_, .tick (by rw [fc]; rfl) (by simp) (.call (ys := [1]) (z := k) (by rw [fc]; rfl) hf fl (by simp) (by omega) h2)⟩

/-- the whole -/
theorem m_runs {n fuel : Nat} (mc : m.code = mCode) (mk : m.consts = [(1, (n : Int)), (0, 0)]) (hn : n < 2000) : ∃ t R N, MRuns fs m ⟨0, [], [], false⟩ [] fuel t R N ∧ (if fuel < n + 1 then R = none ∧ t.length = fuel else R = some n ∧ t.length = n + 1) := by
  cases fuel with
  | zero =>
    refine ⟨_, _, _, .const (z := n) (by rw [mc]; rfl) (by rw [mk]; rfl) (by simp) (.stop (by rw [mc]; rfl) (by simp)), ?_⟩
    rw [if_pos (by omega)]
    exact ⟨rfl, rfl⟩
  | succ fu =>
    by_cases h : fu < n
    · obtain ⟨n2, h2⟩ := f_stops hf fc fk fl n hn [(m, ⟨3, [], [], true⟩)] fu h (by simp; omega)
      refine ⟨_, _, _, .const (z := n) (by rw [mc]; rfl) (by rw [mk]; rfl) (by simp) (.tick (by rw [mc]; rfl) (by simp) (.call (ys := []) (z := n) (by rw [mc]; rfl) hf fl (by simp) (by simp) h2)), ?_⟩
      rw [if_pos (by omega)]
      exact ⟨rfl, by simp⟩
    · obtain ⟨n2, h2⟩ := f_runs hf fc fk fl n hn m ⟨3, [], [], true⟩ [] fu [] (some n) (by omega) (by simp) (by simp; omega) ⟨_, .done (r := n) (by rw [mc]; rfl)⟩
      refine ⟨_, _, _, .const (z := n) (by rw [mc]; rfl) (by rw [mk]; rfl) (by simp) (.tick (by rw [mc]; rfl) (by simp) (.call (ys := []) (z := n) (by rw [mc]; rfl) hf fl (by simp) (by simp) h2)), ?_⟩
      rw [if_neg (by omega)]
      exact ⟨rfl, by simp⟩
end

end Go.Proofs.YtplnnlnkcfappaaGreat.Sv
