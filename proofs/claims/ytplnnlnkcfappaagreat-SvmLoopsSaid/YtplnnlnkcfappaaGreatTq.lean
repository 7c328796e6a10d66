/- The machine with a stack: many calls, in plain words; where the program lies; what the run itself keeps. -/
import Derived.Test.YtplnnlnkcfappaaGreatTp
import Derived.Scope
import Derived.WalkMore
import Derived.ScopeJumps
namespace Go.Proofs.YtplnnlnkcfappaaGreat.Sv
open Go.RowKit E3
set_option linter.unusedVariables false

/-- what comes of a call with others waiting below it: the ticks to come, the value at the end (none: the fuel ended), the number of steps -/
inductive MRuns (fs : List FV) : FV → St → List (FV × St) → Nat → List Nat → Option Nat → Nat → Prop where
  | done {f pc ls r b fuel} (h : f.code[pc]? = some (10, 0, 0)) : MRuns fs f ⟨pc, ls, [r], b⟩ [] fuel [] (some r) 0
  | back {f pc ls r b g st rest fuel t R n} (h : f.code[pc]? = some (10, 0, 0)) (hx : st.xs.length ≤ 2) (k : MRuns fs g ⟨st.pc, st.ls, st.xs ++ [r], true⟩ rest fuel t R n) : MRuns fs f ⟨pc, ls, [r], b⟩ ((g, st) :: rest) fuel t R (n + 1)
  | const {f pc ls xs b i rest fuel t R n} {z : Nat} (h : f.code[pc]? = some (1, i, 0)) (hc : f.consts[i]? = some (1, (z : Int))) (hx : xs.length ≤ 2) (k : MRuns fs f ⟨pc + 1, ls, xs ++ [z], true⟩ rest fuel t R n) : MRuns fs f ⟨pc, ls, xs, b⟩ rest fuel t R (n + 1)
  | load {f pc ls xs b i z rest fuel t R n} (h : f.code[pc]? = some (2, i, 0)) (hl : ls[i]? = some (some z)) (hx : xs.length ≤ 2) (k : MRuns fs f ⟨pc + 1, ls, xs ++ [z], true⟩ rest fuel t R n) : MRuns fs f ⟨pc, ls, xs, b⟩ rest fuel t R (n + 1)
  | store {f pc ls b i z rest fuel t R n} (h : f.code[pc]? = some (3, i, 0)) (hi : i < ls.length) (h2 : f.locals = 2) (k : MRuns fs f ⟨pc + 1, ls.set i (some z), [], true⟩ rest fuel t R n) : MRuns fs f ⟨pc, ls, [z], b⟩ rest fuel t R (n + 1)
  | bin {f pc ls b op u v rest fuel t R n} (h : f.code[pc]? = some (5, op, 0)) (ho : op = 1 ∨ op = 6 ∨ op = 8) (hu : u < 1000000) (hv : v < 1000000) (k : MRuns fs f ⟨pc + 1, ls, [bop op u v], true⟩ rest fuel t R n) : MRuns fs f ⟨pc, ls, [u, v], b⟩ rest fuel t R (n + 1)
  | sub {f pc ls b x u v rest fuel t R n} (h : f.code[pc]? = some (5, 2, 0)) (hu : u < 1000000) (hv : v ≤ u) (k : MRuns fs f ⟨pc + 1, ls, [x, u - v], true⟩ rest fuel t R n) : MRuns fs f ⟨pc, ls, [x, u, v], b⟩ rest fuel t R (n + 1)
  | jump {f pc ls xs b a rest fuel t R n} (h : f.code[pc]? = some (7, a, 0)) (k : MRuns fs f ⟨a, ls, xs, b⟩ rest fuel t R n) : MRuns fs f ⟨pc, ls, xs, b⟩ rest fuel t R (n + 1)
  | brz {f pc ls b a c rest fuel t R n} (h : f.code[pc]? = some (8, a, 0)) (k : MRuns fs f ⟨if c = 0 then a else pc + 1, ls, [], true⟩ rest fuel t R n) : MRuns fs f ⟨pc, ls, [c], b⟩ rest fuel t R (n + 1)
  | call {f pc ls ys z b i g rest fuel t R n} (h : f.code[pc]? = some (9, i, 1)) (hg : fs[i]? = some g) (h1 : g.locals = 1) (hx : ys.length ≤ 2) (hd : rest.length ≤ 5000) (k : MRuns fs g ⟨0, [some z], [], false⟩ ((f, ⟨pc + 1, ls, ys, true⟩) :: rest) fuel t R n) : MRuns fs f ⟨pc, ls, ys ++ [z], b⟩ rest fuel t R (n + 1)
  | tick {f pc ls xs a rest fuel t R n} (h : f.code[pc]? = some (12, a, 0)) (hx : xs.length ≤ 2) (k : MRuns fs f ⟨pc + 1, ls, xs, true⟩ rest fuel t R n) : MRuns fs f ⟨pc, ls, xs, true⟩ rest (fuel + 1) (a :: t) R (n + 1)
  | stop {f pc ls xs a rest} (h : f.code[pc]? = some (12, a, 0)) (hx : xs.length ≤ 2) : MRuns fs f ⟨pc, ls, xs, true⟩ rest 0 [] none 0

/-- one call alone -/
theorem MRuns.one {fs : List FV} {f : FV} (h2 : f.locals = 2) {st : St} {t : List Nat} {r n : Nat} (h : Runs f.code f.consts st t r n) : ∀ fuel, t.length ≤ fuel → MRuns fs f st [] fuel t (some r) n := by
  induction h with
  | ret h => exact fun fuel _ => .done h
  | const h hc hx _ ih => exact fun fuel hf => .const h hc hx (ih fuel hf)
  | load h hl hx _ ih => exact fun fuel hf => .load h hl hx (ih fuel hf)
  | store h hi _ ih => exact fun fuel hf => .store h hi h2 (ih fuel hf)
  | bin h ho hu hv _ ih => exact fun fuel hf => .bin h ho hu hv (ih fuel hf)
  | jump h _ ih => exact fun fuel hf => .jump h (ih fuel hf)
  | brz h _ ih => exact fun fuel hf => .brz h (ih fuel hf)
  | tick h hx _ ih =>
    intro fuel hf
    cases fuel with
    | zero => simp at hf
    | succ fuel => exact .tick h hx (ih fuel (by simpa using hf))

/-! ### The program in memory -/
structure Prg (w : World) (B g o : Nat) (fs : List FV) : Prop where
  lt : g < B
  fns : ∀ (i : Nat) (f : FV), fs[i]? = some f → ∃ sc sk gc, (∀ (j : Nat) (u : Value), [f.name, .int .i64 (.ofNat f.params), .int .i64 (.ofNat f.locals), sc, sk][j]? = some u → w.cell? ⟨g, o + 5 * i + j, none⟩ = some u) ∧ FnD w B f f.name (.int .i64 (.ofNat f.params)) (.int .i64 (.ofNat f.locals)) sc sk gc
theorem Prg.below {w w' : World} {B g o : Nat} {fs : List FV} (h : Prg w B g o fs) (hb : Below B w w') : Prg w' B g o fs :=
  ⟨h.lt, fun i f hi => by
    obtain ⟨sc, sk, gc, h1, h2⟩ := h.fns i f hi
    exact ⟨sc, sk, gc, fun j u hj => (hb.cell h.lt).trans (h1 j u hj), h2.below hb⟩⟩
theorem flat_some {code : List (Nat × Nat × Nat)} (h : code ≠ []) : ∃ u, (flatL insV code)[0]? = some u := by
  cases code with
  | nil => exact absurd rfl h
  | cons x l => exact ⟨_, rfl⟩
theorem prg_of {w : World} {p : Value} {fs : List FV} {main : Nat} (h : ProgAt w 54 p fs main) (hne : 0 < fs.length) (hok : ∀ f ∈ fs, f.name.oneCell' = true ∧ f.consts.length ≤ 5 ∧ f.locals ≤ 2 ∧ f.code ≠ [] ∧ f.code.length ≤ 1000) :
    ∃ g o cap, p = .agg #[.slice (some ⟨g, o, none⟩) fs.length cap, .int .i64 (.ofNat main)] ∧ Prg w w.heap.size g o fs := by
  obtain ⟨g, o, cap, rfl, h⟩ := h
  refine ⟨g, o, cap, rfl, ?_, fun i f hi => ?_⟩
  · obtain ⟨sc, sk, hF⟩ := h 0 fs[0] (List.getElem?_eq_getElem hne)
    exact World.block_lt_of_cell? w _ hF.c0
  · obtain ⟨h1, h2, h3, h4, h5⟩ := hok f (List.mem_of_getElem? hi)
    obtain ⟨sc, sk, hF⟩ := h i f hi
    obtain ⟨gc, hcon⟩ := hF.consts
    have hsc : sc.oneCell' = true := by
      obtain ⟨_, _, _, rfl, _⟩ := hcon
      rfl
    obtain ⟨gk, ok, capk, rfl, hk⟩ := hF.code
    refine ⟨sc, _, gc, fun j u hj => ?_, ?_, rfl, hcon, E3.RowW.lt hcon, h2, h3, ⟨gk, ok, capk, rfl, ?_, hk⟩, h5⟩
    · match j, hj with
      | 0, hj => rw [← Option.some.inj hj]; exact hF.c0
      | 1, hj => rw [← Option.some.inj hj]; exact hF.c1
      | 2, hj => rw [← Option.some.inj hj]; exact hF.c2
      | 3, hj => rw [← Option.some.inj hj]; exact hF.c3
      | 4, hj => rw [← Option.some.inj hj]; exact hF.c4
    · intro u hu
      simp only [List.mem_cons, List.not_mem_nil, or_false] at hu
      rcases hu with rfl | rfl | rfl | rfl | rfl
      · exact h1
      · rfl
      · rfl
      · exact hsc
      · rfl
    · obtain ⟨u, hu⟩ := flat_some h4
      exact World.block_lt_of_cell? w _ (hk 0 u hu)
theorem flat_get3 : ∀ (code : List (Nat × Nat × Nat)) (pc op a b : Nat), code[pc]? = some (op, a, b) → (flatL insV code)[3 * pc]? = some (.int .i64 (.ofNat op)) ∧ (flatL insV code)[3 * pc + 1]? = some (.int .i64 (.ofNat a)) ∧ (flatL insV code)[3 * pc + 2]? = some (.int .i64 (.ofNat b))
  | [], pc, op, a, b, h => by simp at h
  | x :: l, 0, op, a, b, h => by
    simp only [List.getElem?_cons_zero, Option.some.injEq] at h
    subst h
    exact ⟨rfl, rfl, rfl⟩
  | x :: l, pc + 1, op, a, b, h => by
    have := flat_get3 l pc op a b (by simpa using h)
    exact this
theorem CodeAt.ins {w : World} {B pc op a b : Nat} {sk : Value} {code : List (Nat × Nat × Nat)} (h : CodeAt w B sk code) (hc : code[pc]? = some (op, a, b)) :
    ∃ g o cap, sk = .slice (some ⟨g, o, none⟩) code.length cap ∧ g < B ∧ pc < code.length ∧ w.cell? ⟨g, o + 3 * pc, none⟩ = some (.int .i64 (.ofNat op)) ∧ w.cell? ⟨g, o + 3 * pc + 1, none⟩ = some (.int .i64 (.ofNat a)) ∧ w.cell? ⟨g, o + 3 * pc + 2, none⟩ = some (.int .i64 (.ofNat b)) := by
  obtain ⟨g, o, cap, rfl, hg, h⟩ := h
  obtain ⟨h0, h1, h2⟩ := flat_get3 code pc op a b hc
  exact ⟨g, o, cap, rfl, hg, (List.getElem?_eq_some_iff.1 hc).1, h _ _ h0, h _ _ h1, h _ _ h2⟩

/-! ### What the run itself keeps -/
/-- another block -/
def Oth (w : World) (b : Nat) : Prop := ∃ cs e, w.heap[b]? = some (.cells cs e) ∧ e ≠ 129 ∧ e ≠ 54 ∧ e ≠ 194 ∧ e ≠ 69
theorem VarW.oth {w : World} {g : Nat} {e : TypeId} {vs : List Value} (h : VarW w g e vs) (h1 : e ≠ 129) (h2 : e ≠ 54) (h3 : e ≠ 194) (h4 : e ≠ 69) : Oth w g := by
  obtain ⟨cs, h, _⟩ := h
  exact ⟨cs, e, h, h1, h2, h3, h4⟩
theorem Oth.own {w : World} {b : Nat} (h : Oth w b) (h2 : Own w b) : False := by
  obtain ⟨cs, e, h, h1, h2', _⟩ := h
  obtain ⟨cs', e', h', he⟩ := h2
  rw [h] at h'
  injection Option.some.inj h' with _ h3
  subst h3
  exact he.elim h1 h2'
theorem Oth.nty {w : World} {b : Nat} {cs : Array Value} {e : TypeId} (h : Oth w b) (h2 : w.heap[b]? = some (.cells cs e)) : e ≠ 129 ∧ e ≠ 54 ∧ e ≠ 194 ∧ e ≠ 69 := by
  obtain ⟨cs', e', h, h1⟩ := h
  rw [h2] at h
  injection Option.some.inj h with _ h3
  subst h3
  exact h1
theorem Oth.sx {w : World} {b C tb base : Nat} (h : Oth w b) (hty : ∃ cs, w.heap[tb]? = some (.cells cs 194)) : ¬ Sx C tb base w b := by
  intro hs
  rcases hs with ⟨_, h2⟩ | rfl | ⟨_, cs, h2⟩
  · exact h.own h2
  · obtain ⟨cs, h2⟩ := hty
    exact (h.nty h2).2.2.1 rfl
  · exact (h.nty h2).2.2.2 rfl
theorem VarW.set {w : World} {b j : Nat} {e : TypeId} {vs : List Value} (h : VarW w b e vs) (hj : j < vs.length) (u : Value) : VarW (w.setCell ⟨b, j, none⟩ u) b e (vs.set j u) := by
  obtain ⟨cs, h1, h2⟩ := h
  refine ⟨cs.setIfInBounds j u, ?_, fun k v hk => ?_⟩
  · simp [World.setCell, Array.getElem?_modify, h1]
  · rw [List.getElem?_set] at hk
    have hj2 := h2 j vs[j] (List.getElem?_eq_getElem hj)
    have hjl : j < cs.size := (Array.getElem?_eq_some_iff.1 hj2).1
    by_cases hjk : j = k
    · subst hjk
      simp [hj] at hk
      simp [hjl, hk]
    · simp [hjk] at hk
      simp [hjk, h2 k v hk]

def ptrs (l : List Nat) : List Value := l.map fun b => .pointer (some ⟨b, 0, none⟩)
structure Loc (w : World) (B qb rb ib g o cap n main : Nat) (v : Value) (cbs : List Nat) : Prop where
  q : VarW w qb 24 [.slice (some ⟨g, o, none⟩) n cap, .int .i64 (.ofNat main)]
  r : ∃ vs, vs.length = 7 ∧ VarW w rb 57 vs
  i : ∃ vs, vs.length = 3 ∧ VarW w ib 127 vs
  v : w.ownsRow B 123 1 v cbs.length (ptrs cbs)
  bq : B ≤ qb
  br : B ≤ rb
  bi : B ≤ ib
theorem Loc.keep {S : Nat → Prop} {w w' : World} {B qb rb ib g o cap n main : Nat} {v : Value} {cbs : List Nat} (h : Loc w B qb rb ib g o cap n main v cbs) (hx : Fx S w w') (hS : ∀ b cs e, w.heap[b]? = some (.cells cs e) → (e = 24 ∨ e = 57 ∨ e = 127 ∨ e = 123) → ¬ S b) : Loc w' B qb rb ib g o cap n main v cbs := by
  obtain ⟨hq, ⟨vr, hr1, hr⟩, ⟨vi, hi1, hi⟩, hv, b1, b2, b3⟩ := h
  refine ⟨E3.VarW.keep hq ?_, ⟨vr, hr1, E3.VarW.keep hr ?_⟩, ⟨vi, hi1, E3.VarW.keep hi ?_⟩, owns_fx' hv hx fun k hk => ?_, b1, b2, b3⟩
  · obtain ⟨cs, h, _⟩ := hq
    exact hx.block _ (Array.getElem?_eq_some_iff.1 h).1 (hS _ _ _ h (.inl rfl))
  · obtain ⟨cs, h, _⟩ := hr
    exact hx.block _ (Array.getElem?_eq_some_iff.1 h).1 (hS _ _ _ h (.inr (.inl rfl)))
  · obtain ⟨cs, h, _⟩ := hi
    exact hx.block _ (Array.getElem?_eq_some_iff.1 h).1 (hS _ _ _ h (.inr (.inr (.inl rfl))))
  · obtain ⟨cs, h⟩ := owns_ty hv hk
    exact hS _ _ _ h (.inr (.inr (.inr rfl)))
theorem Loc.sx {w w' : World} {C tb base B qb rb ib g o cap n main : Nat} {v : Value} {cbs : List Nat} (h : Loc w B qb rb ib g o cap n main v cbs) (hty : ∃ cs, w.heap[tb]? = some (.cells cs 194)) (hx : Fx (Sx C tb base w) w w') : Loc w' B qb rb ib g o cap n main v cbs :=
  h.keep hx fun b cs e h1 h2 => Oth.sx ⟨cs, e, h1, by rcases h2 with rfl | rfl | rfl | rfl <;> decide, by rcases h2 with rfl | rfl | rfl | rfl <;> decide, by rcases h2 with rfl | rfl | rfl | rfl <;> decide, by rcases h2 with rfl | rfl | rfl | rfl <;> decide⟩ hty

section
variable {w w' : World} {B C L tb base gc cb gl : Nat} {consts : List (Nat × Int)} {nm pr nl sc sk lsl : Value} {fuel : Int} {evs : List Int} {f : FV} {st : St}
/-- the call is as it was, where only other blocks change -/
theorem One.oth {S : Nat → Prop} (h : One w B C L tb base consts nm pr nl sc sk gc cb gl lsl st fuel evs) (hx : Fx S w w') (hS : ∀ b, S b → Oth w b) : One w' B C L tb base consts nm pr nl sc sk gc cb gl lsl st fuel evs := by
  obtain ⟨hBC, hsz, ⟨s, hc, hs⟩, ho, hcb, hl, hgl, h2, hle, hcon, hgc, hfew, hT, hty, h5, h6, h7⟩ := h
  have hk : ∀ b, b < w.heap.size → Own w b → w'.heap[b]? = w.heap[b]? := fun b h0 h1 => hx.block b h0 fun h => (hS b h).own h1
  refine ⟨hBC, Nat.le_trans hsz hx.size, ⟨s, E3.VarW.keep hc (hk _ (E3.VarW.lt hc) (VarW.own hc)), ?_⟩, ho, hcb, E3.RowW.keep hl (hk _ (E3.RowW.lt hl) (RowW.own hl)), hgl, h2, hle, E3.RowW.keep hcon (hk _ (E3.RowW.lt hcon) (RowW.own hcon)), hgc, hfew, hT.fx' hx (fun h => ?_) (fun g ⟨cs, h⟩ h1 => ?_), ?_, h5, h6, Nat.le_trans h7 hx.size⟩
  · cases hr : st.row with
    | true =>
      rw [hr, if_pos rfl] at hs
      rw [if_pos rfl]
      obtain ⟨g, h1, h3⟩ := hs
      exact ⟨g, E3.RowW.keep h1 (hk _ (E3.RowW.lt h1) (RowW.own h1)), h3⟩
    | false =>
      rw [hr, if_neg (by simp)] at hs
      rw [if_neg (by simp)]
      exact hs
  · obtain ⟨cs, h1⟩ := hty
    exact ((hS _ h).nty h1).2.2.1 rfl
  · exact ((hS _ h1).nty h).2.2.2 rfl
  · obtain ⟨cs, h1⟩ := hty
    exact ⟨cs, (hx.block tb hT.lt fun h => ((hS _ h).nty h1).2.2.1 rfl).trans h1⟩
end

/-- THE MACHINE: the top call, those that wait, what the run itself keeps -/
structure Mch (w0 : World) (B qb rb ib g o cap n main tb base : Nat) (v : Value) (cb : Nat) (f : FV) (st : St) (lows : List (Nat × FV × St)) (fuel : Int) (evs : List Int) (w : World) : Prop where
  below : Below B w0 w
  loc : Loc w B qb rb ib g o cap n main v ((cb :: lows.map (·.1)).reverse)
  top : ∃ C nm pr nl sc sk gc gl lsl, Frs w B C lows ∧ FnD w B f nm pr nl sc sk gc ∧ One w B C f.locals tb base f.consts nm pr nl sc sk gc cb gl lsl st fuel evs
section
variable {w0 w w' : World} {B qb rb ib g o cap n main tb base cb C gc gl : Nat} {v nm pr nl sc sk lsl : Value} {f : FV} {st st' : St} {lows : List (Nat × FV × St)} {fuel fuel' : Int} {evs evs' : List Int}
theorem Mch.go (hb : Below B w0 w) (hl : Loc w B qb rb ib g o cap n main v ((cb :: lows.map (·.1)).reverse)) (hFr : Frs w B C lows) (hFn : FnD w B f nm pr nl sc sk gc) (hO : One w B C f.locals tb base f.consts nm pr nl sc sk gc cb gl lsl st fuel evs)
    (hO2 : One w' B C f.locals tb base f.consts nm pr nl sc sk gc cb gl lsl st' fuel' evs') (hx : Fx (Sx C tb base w) w w') : Mch w0 B qb rb ib g o cap n main tb base v cb f st' lows fuel' evs' w' := by
  have hbw : Below B w w' := sx_below hx (Nat.le_trans hO.BC hO.size) hO.BC hO.tbB (by have := hO.tbB; have := hO.tbb; omega)
  exact ⟨hb.trans hbw, hl.sx hO.ty hx, C, nm, pr, nl, sc, sk, gc, gl, lsl, hFr.keep hbw fun b h0 ho => sx_keep hx hO.size hO.ty h0 ho, hFn.below hbw, hO2⟩
/-- blocks of the run's own change -/
theorem Mch.oth {S : Nat → Prop} {v' : Value} (h : Mch w0 B qb rb ib g o cap n main tb base v cb f st lows fuel evs w) (hx : Fx S w w') (hS : ∀ b, S b → Oth w b ∧ B ≤ b) (hl : Loc w' B qb rb ib g o cap n main v' ((cb :: lows.map (·.1)).reverse)) : Mch w0 B qb rb ib g o cap n main tb base v' cb f st lows fuel evs w' := by
  obtain ⟨hb, hl0, C, nm, pr, nl, sc, sk, gc, gl, lsl, hFr, hFn, hO⟩ := h
  have hbw : Below B w w' := hx.below (Nat.le_trans hO.BC hO.size) fun b hb1 h1 => by have := (hS b h1).2; omega
  exact ⟨hb.trans hbw, hl, C, nm, pr, nl, sc, sk, gc, gl, lsl, hFr.keep hbw fun b h0 ho => hx.block b (by have := hO.size; omega) fun h1 => (hS b h1).1.own ho, hFn.below hbw, hO.oth hx fun b h1 => (hS b h1).1⟩
/-- the instruction lies there -/
theorem Mch.seti (h : Mch w0 B qb rb ib g o cap n main tb base v cb f st lows fuel evs w) (x0 x1 x2 : Value) :
    Mch w0 B qb rb ib g o cap n main tb base v cb f st lows fuel evs (((w.setCell ⟨ib, 0, none⟩ x0).setCell ⟨ib, 1, none⟩ x1).setCell ⟨ib, 2, none⟩ x2) ∧ VarW (((w.setCell ⟨ib, 0, none⟩ x0).setCell ⟨ib, 1, none⟩ x1).setCell ⟨ib, 2, none⟩ x2) ib 127 [x0, x1, x2] := by
  obtain ⟨vi, hvi, hi⟩ := h.loc.i
  have h0 := hi
  have hV : VarW (((w.setCell ⟨ib, 0, none⟩ x0).setCell ⟨ib, 1, none⟩ x1).setCell ⟨ib, 2, none⟩ x2) ib 127 [x0, x1, x2] := by
    match vi, hvi with
    | [a, b, c], _ => exact VarW.set (VarW.set (VarW.set hi (j := 0) (by simp) x0) (j := 1) (by simp) x1) (j := 2) (by simp) x2
  have hx : Fx (fun b => b = ib) w (((w.setCell ⟨ib, 0, none⟩ x0).setCell ⟨ib, 1, none⟩ x1).setCell ⟨ib, 2, none⟩ x2) := Fx.setCell (Fx.setCell (Fx.setCell (S := fun b => b = ib) (Fx.refl _ _) rfl _) rfl _) rfl _
  refine ⟨h.oth hx (fun b hb => ⟨by rw [hb]; exact VarW.oth h0 (by decide) (by decide) (by decide) (by decide), by rw [hb]; exact h.loc.bi⟩) ?_, hV⟩
  have ne : ∀ {k : Nat} {e : TypeId} {vs : List Value}, VarW w k e vs → e ≠ 127 → k < w.heap.size ∧ ¬ k = ib := fun hk he => ⟨E3.VarW.lt hk, VarW.ne hk h0 he⟩
  obtain ⟨vr, hr1, hr⟩ := h.loc.r
  refine ⟨E3.VarW.keep h.loc.q (hx.block _ (ne h.loc.q (by decide)).1 (ne h.loc.q (by decide)).2), ⟨vr, hr1, E3.VarW.keep hr (hx.block _ (ne hr (by decide)).1 (ne hr (by decide)).2)⟩, ⟨_, rfl, hV⟩, owns_fx' h.loc.v hx fun k hk e => ?_, h.loc.bq, h.loc.br, h.loc.bi⟩
  obtain ⟨cs, h1⟩ := owns_ty h.loc.v hk
  have e' : k = ib := e
  subst e'
  obtain ⟨cs', h2, _⟩ := h0
  rw [h1] at h2
  injection Option.some.inj h2 with _ h3
  cases h3
theorem Mch.drew (h : Mch w0 B qb rb ib g o cap n main tb base v cb f st lows fuel evs w) : Mch w0 B qb rb ib g o cap n main tb base v cb f st lows fuel evs w.drew :=
  h.oth (S := fun _ => False) (Fx.refl _ w).drew (fun _ h => h.elim) (h.loc.keep (S := fun _ => False) (Fx.refl _ w).drew fun _ _ _ _ _ h => h)
theorem Mch.fx0 (h : Mch w0 B qb rb ib g o cap n main tb base v cb f st lows fuel evs w) (hx : Fx (fun _ => False) w w') : Mch w0 B qb rb ib g o cap n main tb base v cb f st lows fuel evs w' :=
  h.oth hx (fun _ h => h.elim) (h.loc.keep hx fun _ _ _ _ _ h => h)
/-- the place is set -/
theorem Mch.pc {pc pc' : Nat} {ls : List (Option Nat)} {xs : List Nat} {b : Bool} (h : Mch w0 B qb rb ib g o cap n main tb base v cb f ⟨pc, ls, xs, b⟩ lows fuel evs w) : Mch w0 B qb rb ib g o cap n main tb base v cb f ⟨pc', ls, xs, b⟩ lows fuel evs (w.setCell ⟨cb, 5, none⟩ (.int .i64 pc')) := by
  obtain ⟨hb, hl0, C, nm, pr, nl, sc, sk, gc, gl, lsl, hFr, hFn, hO⟩ := h
  have hx : Fx (fun b => b = cb) w (w.setCell ⟨cb, 5, none⟩ (.int .i64 pc')) := Fx.setCell (S := fun b => b = cb) (Fx.refl _ _) rfl _
  have hBC := hO.BC
  have hC := hO.cb
  have hs := hO.size
  obtain ⟨hO2, hx2⟩ := one_pc (pc' := pc') hO (hx.below (by omega) fun k h1 h2 => by omega) (fun s hc => VarW.set hc (j := 5) (by simp) _) (fun k h1 h2 => hx.block k h1 h2)
  exact Mch.go hb hl0 hFr hFn hO hO2 hx2
theorem Mch.frz (h : Mch w0 B qb rb ib g o cap n main tb base v cb f st lows fuel evs w) (j : Nat) : w.frozen? ⟨cb, j, none⟩ = false := by
  obtain ⟨_, _, _, _, _, _, _, _, _, _, _, _, _, hO⟩ := h
  obtain ⟨s, ⟨cs, hc, _⟩, _⟩ := hO.call
  exact froz hc j
theorem Mch.five (h : Mch w0 B qb rb ib g o cap n main tb base v cb f st lows fuel evs w) : ∃ z, w.cell? ⟨cb, 5, none⟩ = some z := by
  obtain ⟨_, _, _, _, _, _, _, _, _, _, _, _, _, hO⟩ := h
  obtain ⟨s, hc, _⟩ := hO.call
  exact ⟨_, E3.VarW.cell hc 5 rfl⟩
theorem VarW.setO {k j cbb : Nat} {e : TypeId} {vs : List Value} {u : Value} (h : VarW w k e vs) (hne : k ≠ cbb) : VarW (w.setCell ⟨cbb, j, none⟩ u) k e vs :=
  E3.VarW.keep h (Below.heap_setCell w _ _ k hne)
theorem VarW.keepS {k : Nat} {e : TypeId} {vs : List Value} (h : VarW w k e vs) (hty : ∃ cs, w.heap[tb]? = some (.cells cs 194)) (hx : Fx (Sx C tb base w) w w') (h1 : e ≠ 129) (h2 : e ≠ 54) (h3 : e ≠ 194) (h4 : e ≠ 69) : VarW w' k e vs :=
  E3.VarW.keep h (hx.block k (E3.VarW.lt h) (Oth.sx (VarW.oth h h1 h2 h3 h4) hty))
theorem cell_of {k j : Nat} {cs : Array Value} {e : TypeId} {u : Value} (h : w.heap[k]? = some (.cells cs e)) (hj : cs[j]? = some u) : w.cell? ⟨k, j, none⟩ = some u := by
  simp only [World.cell?, h]
  simpa using hj
end

end Go.Proofs.YtplnnlnkcfappaaGreat.Sv
