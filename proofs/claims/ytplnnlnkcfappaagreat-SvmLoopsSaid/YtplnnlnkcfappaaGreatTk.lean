/- The machine with a stack, in plain words: one call, numbers alone; the law's loop. No program in sight. -/
import Derived.Test.YtplnnlnkcfappaaGreatTi
namespace Go.Proofs.YtplnnlnkcfappaaGreat.Sv
set_option linter.unusedVariables false

/-- where a call stands: the place, the locals, the stack (its last value on top), whether the stack has a row -/
structure St where
  pc : Nat
  ls : List (Option Nat)
  xs : List Nat
  row : Bool

/-- what comes of it: the ticks to come, the value returned, the number of steps -/
inductive Runs (code : List (Nat × Nat × Nat)) (consts : List (Nat × Int)) : St → List Nat → Nat → Nat → Prop where
  | ret {pc ls r b} (h : code[pc]? = some (10, 0, 0)) : Runs code consts ⟨pc, ls, [r], b⟩ [] r 0
  | const {pc ls xs b i t r n} {z : Nat} (h : code[pc]? = some (1, i, 0)) (hc : consts[i]? = some (1, (z : Int))) (hx : xs.length ≤ 2) (k : Runs code consts ⟨pc + 1, ls, xs ++ [z], true⟩ t r n) : Runs code consts ⟨pc, ls, xs, b⟩ t r (n + 1)
  | load {pc ls xs b i z t r n} (h : code[pc]? = some (2, i, 0)) (hl : ls[i]? = some (some z)) (hx : xs.length ≤ 2) (k : Runs code consts ⟨pc + 1, ls, xs ++ [z], true⟩ t r n) : Runs code consts ⟨pc, ls, xs, b⟩ t r (n + 1)
  | store {pc ls b i z t r n} (h : code[pc]? = some (3, i, 0)) (hi : i < ls.length) (k : Runs code consts ⟨pc + 1, ls.set i (some z), [], true⟩ t r n) : Runs code consts ⟨pc, ls, [z], b⟩ t r (n + 1)
  | bin {pc ls b op u v t r n} (h : code[pc]? = some (5, op, 0)) (ho : op = 1 ∨ op = 6 ∨ op = 8) (hu : u < 1000000) (hv : v < 1000000) (k : Runs code consts ⟨pc + 1, ls, [bop op u v], true⟩ t r n) : Runs code consts ⟨pc, ls, [u, v], b⟩ t r (n + 1)
  | jump {pc ls xs b a t r n} (h : code[pc]? = some (7, a, 0)) (k : Runs code consts ⟨a, ls, xs, b⟩ t r n) : Runs code consts ⟨pc, ls, xs, b⟩ t r (n + 1)
  | brz {pc ls b a c t r n} (h : code[pc]? = some (8, a, 0)) (k : Runs code consts ⟨if c = 0 then a else pc + 1, ls, [], true⟩ t r n) : Runs code consts ⟨pc, ls, [c], b⟩ t r (n + 1)
  | tick {pc ls xs a t r n} (h : code[pc]? = some (12, a, 0)) (hx : xs.length ≤ 2) (k : Runs code consts ⟨pc + 1, ls, xs, true⟩ t r n) : Runs code consts ⟨pc, ls, xs, true⟩ (a :: t) r (n + 1)

def RunsE (code : List (Nat × Nat × Nat)) (consts : List (Nat × Int)) (st : St) (t : List Nat) (r : Nat) : Prop := ∃ n, Runs code consts st t r n
section
variable {code : List (Nat × Nat × Nat)} {consts : List (Nat × Int)} {pc : Nat} {ls : List (Option Nat)} {xs : List Nat} {b : Bool} {t : List Nat} {r : Nat}
theorem RunsE.ret (h : code[pc]? = some (10, 0, 0)) : RunsE code consts ⟨pc, ls, [r], b⟩ [] r := ⟨_, .ret h⟩
theorem RunsE.const {i z : Nat} (h : code[pc]? = some (1, i, 0)) (hc : consts[i]? = some (1, (z : Int))) (hx : xs.length ≤ 2) (k : RunsE code consts ⟨pc + 1, ls, xs ++ [z], true⟩ t r) : RunsE code consts ⟨pc, ls, xs, b⟩ t r := ⟨_, .const h hc hx k.choose_spec⟩
theorem RunsE.load {i z : Nat} (h : code[pc]? = some (2, i, 0)) (hl : ls[i]? = some (some z)) (hx : xs.length ≤ 2) (k : RunsE code consts ⟨pc + 1, ls, xs ++ [z], true⟩ t r) : RunsE code consts ⟨pc, ls, xs, b⟩ t r := ⟨_, .load h hl hx k.choose_spec⟩
theorem RunsE.store {i z : Nat} (h : code[pc]? = some (3, i, 0)) (hi : i < ls.length) (k : RunsE code consts ⟨pc + 1, ls.set i (some z), [], true⟩ t r) : RunsE code consts ⟨pc, ls, [z], b⟩ t r := ⟨_, .store h hi k.choose_spec⟩
theorem RunsE.bin {op u v : Nat} (h : code[pc]? = some (5, op, 0)) (ho : op = 1 ∨ op = 6 ∨ op = 8) (hu : u < 1000000) (hv : v < 1000000) (k : RunsE code consts ⟨pc + 1, ls, [bop op u v], true⟩ t r) : RunsE code consts ⟨pc, ls, [u, v], b⟩ t r := ⟨_, .bin h ho hu hv k.choose_spec⟩
theorem RunsE.jump {a : Nat} (h : code[pc]? = some (7, a, 0)) (k : RunsE code consts ⟨a, ls, xs, b⟩ t r) : RunsE code consts ⟨pc, ls, xs, b⟩ t r := ⟨_, .jump h k.choose_spec⟩
theorem RunsE.brz {a c : Nat} (h : code[pc]? = some (8, a, 0)) (k : RunsE code consts ⟨if c = 0 then a else pc + 1, ls, [], true⟩ t r) : RunsE code consts ⟨pc, ls, [c], b⟩ t r := ⟨_, .brz h k.choose_spec⟩
theorem RunsE.tick {a : Nat} (h : code[pc]? = some (12, a, 0)) (hx : xs.length ≤ 2) (k : RunsE code consts ⟨pc + 1, ls, xs, true⟩ t r) : RunsE code consts ⟨pc, ls, xs, true⟩ (a :: t) r := ⟨_, .tick h hx k.choose_spec⟩
end

/-- the law's code: a break, a continue, a return or nothing within the branch -/
def tail (how : Nat) : List (Nat × Nat × Nat) := match how with | 0 => [(7, 23, 0)] | 1 => [(7, 21, 0)] | 2 => [(2, 1, 0), (10, 0, 0)] | _ => []
def loopCode (how c0 cn c1 ca cz : Nat) : List (Nat × Nat × Nat) :=
  [(1, c0, 0), (3, 0, 0), (1, c0, 0), (3, 1, 0), (2, 0, 0), (1, cn, 0), (5, 8, 0), (8, 22 + (tail how).length, 0), (2, 0, 0), (1, c1, 0), (5, 1, 0), (3, 0, 0), (2, 0, 0), (1, ca, 0), (5, 6, 0), (8, 16 + (tail how).length, 0)] ++
  (tail how ++ [(2, 1, 0), (1, c1, 0), (5, 1, 0), (3, 1, 0), (12, 1, 0), (7, 4, 0), (2, 1, 0), (10, 0, 0), (1, cz, 0), (10, 0, 0)])

variable {how c0 cn c1 ca cz n at_ : Nat} {consts : List (Nat × Int)}

/-- what the law says of the end -/
def hits (at_ n : Nat) : Prop := 1 ≤ at_ ∧ at_ ≤ n

/-- from the loop's head on -/
abbrev Goes (how c0 cn c1 ca cz : Nat) (consts : List (Nat × Int)) (i k : Nat) (t : List Nat) (r : Nat) : Prop := RunsE (loopCode how c0 cn c1 ca cz) consts ⟨4, [some i, some k], [], true⟩ t r

section
variable (hn : consts[cn]? = some (1, (n : Int))) (h1 : consts[c1]? = some (1, ((1 : Nat) : Int))) (ha : consts[ca]? = some (1, (at_ : Int)))
include hn

/-- the loop's end -/
theorem head_ge {i k : Nat} (hi : n ≤ i) (hb : i < 1000000) (hb2 : n < 1000000) (hh : how < 4) : Goes how c0 cn c1 ca cz consts i k [] k := by
  have e : bop 8 i n = 0 := by simp [bop]; omega
  obtain rfl | rfl | rfl | rfl : how = 0 ∨ how = 1 ∨ how = 2 ∨ how = 3 := by omega
  all_goals
    refine .load (z := i) rfl rfl (by simp) (.const (z := n) rfl hn (by simp) (.bin rfl (by simp) hb hb2 (.brz rfl ?_)))
    rw [e, if_pos rfl]
    exact .load (z := k) rfl rfl (by simp) (.ret rfl)

include h1 ha
/-- a round: the branch is not taken -/
theorem round_miss {i k r : Nat} {t : List Nat} (hi : i < n) (hb2 : n < 100000) (hk : k < 100000) (ha2 : at_ < 1000000) (hne : i + 1 ≠ at_) (hh : how < 4) (hg : Goes how c0 cn c1 ca cz consts (i + 1) (k + 1) t r) : Goes how c0 cn c1 ca cz consts i k (1 :: t) r := by
  have e : bop 8 i n = 1 := by simp [bop]; omega
  have e2 : bop 6 (i + 1) at_ = 0 := by simp [bop]; omega
  have e3 : bop 1 i 1 = i + 1 := by simp [bop]
  have e4 : bop 1 k 1 = k + 1 := by simp [bop]
  obtain rfl | rfl | rfl | rfl : how = 0 ∨ how = 1 ∨ how = 2 ∨ how = 3 := by omega
  all_goals
    refine .load (z := i) rfl rfl (by simp) (.const (z := n) rfl hn (by simp) (.bin rfl (by simp) (by omega) (by omega) (.brz rfl ?_)))
    rw [e, if_neg (by decide)]
    refine .load (z := i) rfl rfl (by simp) (.const (z := 1) rfl h1 (by simp) (.bin rfl (by simp) (by omega) (by omega) (.store rfl (by simp) ?_)))
    rw [e3]
    refine .load (z := i + 1) rfl rfl (by simp) (.const (z := at_) rfl ha (by simp) (.bin rfl (by simp) (by omega) (by omega) (.brz rfl ?_)))
    rw [e2, if_pos rfl]
    refine .load (z := k) rfl rfl (by simp) (.const (z := 1) rfl h1 (by simp) (.bin rfl (by simp) (by omega) (by omega) (.store rfl (by simp) ?_)))
    rw [e4]
    exact .tick rfl (by simp) (.jump rfl hg)

/-- a round: the branch is taken, and there is a break or a return -/
theorem round_out {i k : Nat} (hi : i < n) (hb2 : n < 100000) (ha2 : at_ < 1000000) (he : i + 1 = at_) (hh : how = 0 ∨ how = 2) : Goes how c0 cn c1 ca cz consts i k [] k := by
  have e : bop 8 i n = 1 := by simp [bop]; omega
  have e2 : bop 6 (i + 1) at_ = 1 := by simp [bop]; omega
  have e3 : bop 1 i 1 = i + 1 := by simp [bop]
  obtain rfl | rfl := hh
  all_goals
    refine .load (z := i) rfl rfl (by simp) (.const (z := n) rfl hn (by simp) (.bin rfl (by simp) (by omega) (by omega) (.brz rfl ?_)))
    rw [e, if_neg (by decide)]
    refine .load (z := i) rfl rfl (by simp) (.const (z := 1) rfl h1 (by simp) (.bin rfl (by simp) (by omega) (by omega) (.store rfl (by simp) ?_)))
    rw [e3]
    refine .load (z := i + 1) rfl rfl (by simp) (.const (z := at_) rfl ha (by simp) (.bin rfl (by simp) (by omega) (by omega) (.brz rfl ?_)))
    rw [e2, if_neg (by decide)]
  · exact .jump rfl (.load (z := k) rfl rfl (by simp) (.ret rfl))
  · exact .load (z := k) rfl rfl (by simp) (.ret rfl)
/-- a round: the branch is taken, and goes on -/
theorem round_on {i k r : Nat} {t : List Nat} (hi : i < n) (hb2 : n < 100000) (ha2 : at_ < 1000000) (he : i + 1 = at_) (hg : Goes 1 c0 cn c1 ca cz consts (i + 1) k t r) : Goes 1 c0 cn c1 ca cz consts i k (1 :: t) r := by
  have e : bop 8 i n = 1 := by simp [bop]; omega
  have e2 : bop 6 (i + 1) at_ = 1 := by simp [bop]; omega
  have e3 : bop 1 i 1 = i + 1 := by simp [bop]
  refine .load (z := i) rfl rfl (by simp) (.const (z := n) rfl hn (by simp) (.bin rfl (by simp) (by omega) (by omega) (.brz rfl ?_)))
  rw [e, if_neg (by decide)]
  refine .load (z := i) rfl rfl (by simp) (.const (z := 1) rfl h1 (by simp) (.bin rfl (by simp) (by omega) (by omega) (.store rfl (by simp) ?_)))
  rw [e3]
  refine .load (z := i + 1) rfl rfl (by simp) (.const (z := at_) rfl ha (by simp) (.bin rfl (by simp) (by omega) (by omega) (.brz rfl ?_)))
  rw [e2, if_neg (by decide)]
  exact .jump rfl (.tick rfl (by simp) (.jump rfl hg))
/-- a round: nothing stands within the branch -/
theorem round_no {i k r : Nat} {t : List Nat} (hi : i < n) (hb2 : n < 100000) (hk : k < 100000) (ha2 : at_ < 1000000) (he : i + 1 = at_) (hg : Goes 3 c0 cn c1 ca cz consts (i + 1) (k + 1) t r) : Goes 3 c0 cn c1 ca cz consts i k (1 :: t) r := by
  have e : bop 8 i n = 1 := by simp [bop]; omega
  have e2 : bop 6 (i + 1) at_ = 1 := by simp [bop]; omega
  have e3 : bop 1 i 1 = i + 1 := by simp [bop]
  have e4 : bop 1 k 1 = k + 1 := by simp [bop]
  refine .load (z := i) rfl rfl (by simp) (.const (z := n) rfl hn (by simp) (.bin rfl (by simp) (by omega) (by omega) (.brz rfl ?_)))
  rw [e, if_neg (by decide)]
  refine .load (z := i) rfl rfl (by simp) (.const (z := 1) rfl h1 (by simp) (.bin rfl (by simp) (by omega) (by omega) (.store rfl (by simp) ?_)))
  rw [e3]
  refine .load (z := i + 1) rfl rfl (by simp) (.const (z := at_) rfl ha (by simp) (.bin rfl (by simp) (by omega) (by omega) (.brz rfl ?_)))
  rw [e2, if_neg (by decide)]
  refine .load (z := k) rfl rfl (by simp) (.const (z := 1) rfl h1 (by simp) (.bin rfl (by simp) (by omega) (by omega) (.store rfl (by simp) ?_)))
  rw [e4]
  exact .tick rfl (by simp) (.jump rfl hg)

/-- rounds without the branch -/
theorem many {r : Nat} {t : List Nat} (hb2 : n < 1000) (ha2 : at_ < 1000) (hh : how < 4) : ∀ (m i k : Nat), i + m ≤ n → k ≤ i → (∀ j, i ≤ j → j < i + m → j + 1 ≠ at_) → Goes how c0 cn c1 ca cz consts (i + m) (k + m) t r → Goes how c0 cn c1 ca cz consts i k (List.replicate m 1 ++ t) r
  | 0, i, k, _, _, _, hg => hg
  | m + 1, i, k, h, hk, hj, hg => by
    refine round_miss hn h1 ha (by omega) (by omega) (by omega) (by omega) (hj i (Nat.le_refl _) (by omega)) hh ?_
    refine many hb2 ha2 hh m (i + 1) (k + 1) (by omega) (by omega) (fun j h1 h2 => hj j (by omega) (by omega)) ?_
    rw [show i + 1 + m = i + (m + 1) by omega, show k + 1 + m = k + (m + 1) by omega]
    exact hg

/-- what the law says of the ticks and of the answer -/
theorem all_rounds (hb2 : n < 100) (ha2 : at_ < 100) (hh : how < 4) : ∃ t r, Goes how c0 cn c1 ca cz consts 0 0 t r ∧
    t.length = (if 1 ≤ at_ ∧ at_ ≤ n then (if how = 0 ∨ how = 2 then at_ - 1 else n) else n) ∧ r = (if 1 ≤ at_ ∧ at_ ≤ n then (if how = 0 ∨ how = 2 then at_ - 1 else if how = 1 then n - 1 else n) else n) := by
  by_cases hit : 1 ≤ at_ ∧ at_ ≤ n
  · rw [if_pos hit, if_pos hit]
    by_cases h02 : how = 0 ∨ how = 2
    · rw [if_pos h02, if_pos h02]
      refine ⟨List.replicate (at_ - 1) 1 ++ [], at_ - 1, many hn h1 ha (by omega) (by omega) hh (at_ - 1) 0 0 (by omega) (by omega) (fun j _ _ => by omega) ?_, by simp, rfl⟩
      rw [Nat.zero_add]
      exact round_out hn h1 ha (by omega) (by omega) (by omega) (by omega) h02
    · rw [if_neg h02, if_neg h02]
      obtain rfl | rfl : how = 1 ∨ how = 3 := by omega
      · refine ⟨List.replicate (at_ - 1) 1 ++ (1 :: (List.replicate (n - at_) 1 ++ [])), n - 1, many hn h1 ha (by omega) (by omega) hh (at_ - 1) 0 0 (by omega) (by omega) (fun j _ _ => by omega) ?_, by simp; omega, by simp⟩
        rw [Nat.zero_add]
        refine round_on hn h1 ha (by omega) (by omega) (by omega) (by omega) ?_
        have hm := many (cz := cz) (c0 := c0) (t := []) (r := n - 1) hn h1 ha (by omega) (by omega) hh (n - at_) at_ (at_ - 1) (by omega) (by omega) (fun j _ _ => by omega) (by
          rw [show at_ + (n - at_) = n by omega, show at_ - 1 + (n - at_) = n - 1 by omega]
          exact head_ge hn (Nat.le_refl _) (by omega) (by omega) hh)
        rwa [show at_ - 1 + 1 = at_ by omega]
      · refine ⟨List.replicate (at_ - 1) 1 ++ (1 :: (List.replicate (n - at_) 1 ++ [])), n, many hn h1 ha (by omega) (by omega) hh (at_ - 1) 0 0 (by omega) (by omega) (fun j _ _ => by omega) ?_, by simp; omega, by simp⟩
        rw [Nat.zero_add]
        refine round_no hn h1 ha (by omega) (by omega) (by omega) (by omega) (by omega) ?_
        have hm := many (cz := cz) (c0 := c0) (t := []) (r := n) hn h1 ha (by omega) (by omega) hh (n - at_) at_ at_ (by omega) (by omega) (fun j _ _ => by omega) (by
          rw [show at_ + (n - at_) = n by omega]
          exact head_ge hn (Nat.le_refl _) (by omega) (by omega) hh)
        rwa [show at_ - 1 + 1 = at_ by omega]
  · rw [if_neg hit, if_neg hit]
    refine ⟨List.replicate n 1 ++ [], n, many hn h1 ha (by omega) (by omega) hh n 0 0 (by omega) (by omega) (fun j _ _ => by omega) ?_, by simp, rfl⟩
    rw [Nat.zero_add]
    exact head_ge hn (Nat.le_refl _) (by omega) (by omega) hh

/-- from the first instruction on -/
theorem loop_runs (h0 : consts[c0]? = some (1, ((0 : Nat) : Int))) (hb2 : n < 100) (ha2 : at_ < 100) (hh : how < 4) : ∃ t r, RunsE (loopCode how c0 cn c1 ca cz) consts ⟨0, [none, none], [], false⟩ t r ∧
    t.length = (if 1 ≤ at_ ∧ at_ ≤ n then (if how = 0 ∨ how = 2 then at_ - 1 else n) else n) ∧ r = (if 1 ≤ at_ ∧ at_ ≤ n then (if how = 0 ∨ how = 2 then at_ - 1 else if how = 1 then n - 1 else n) else n) := by
  obtain ⟨t, r, hg, h2, h3⟩ := all_rounds (c0 := c0) (cz := cz) hn h1 ha hb2 ha2 hh
  refine ⟨t, r, ?_, h2, h3⟩
  obtain rfl | rfl | rfl | rfl : how = 0 ∨ how = 1 ∨ how = 2 ∨ how = 3 := by omega
  all_goals exact .const (z := 0) rfl h0 (by simp) (.store rfl (by simp) (.const (z := 0) rfl h0 (by simp) (.store rfl (by simp) hg)))

end

end Go.Proofs.YtplnnlnkcfappaaGreat.Sv
