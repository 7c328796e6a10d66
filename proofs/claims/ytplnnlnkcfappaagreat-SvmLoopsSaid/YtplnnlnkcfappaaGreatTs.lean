/- The machine with a stack: it runs. -/
import Derived.Test.YtplnnlnkcfappaaGreatTr
import Derived.Deep.AppendLies
namespace Go.Proofs.YtplnnlnkcfappaaGreat.Sv
open Go.RowKit E3
set_option linter.unusedSimpArgs false
set_option linter.unusedVariables false

/-- a scope in which the run jumps back to label 0, each time with less to go -/
theorem wp_scope_one0 {P : Program} {a : Act} {w : World} {Q : Exit → Act → World → Prop} {c r0 : Code} (J : Nat → Act → World → Prop) (hf0 : findLabel c 0 = some r0)
    (first : (∀ n a w, J n a w → r0.wp P (Exit.jump 0 (fun a' w' => ∃ m, J m a' w') Q) a w) → c.wp P (Exit.jump 0 (fun a' w' => ∃ m, J m a' w') Q) a w)
    (pass0 : ∀ n a w, J n a w → r0.wp P (Exit.jump 0 (fun a' w' => ∃ m, m < n ∧ J m a' w') Q) a w) : (Code.scope c).wp P Q a w := by
  intro b k cs
  have hg0 : gotoIn 0 (.inScope c :: k) = some (.code r0 :: .inScope c :: k) := by simp [gotoIn, hf0]
  have key : ∀ n a w, J n a w → ∃ e a' w', Q e a' w' ∧ Arrives P (lone (b.at a (.code r0 :: .inScope c :: k)) cs w) b k cs e a' w' := by
    intro n
    induction n using Nat.strongRecOn with
    | _ n ih =>
      intro a w hJ
      obtain ⟨e, a₁, w₁, hq, harr⟩ := pass0 n a w hJ b (.inScope c :: k) cs
      cases e with
      | normal => exact ⟨.normal, a₁, w₁, hq, Steps.trans harr (.one step_inScope)⟩
      | exit id => exact ⟨.exit id, a₁, w₁, hq, fun k' hk => harr k' (by simp [exitTo, hk])⟩
      | goto l' =>
        obtain ⟨rfl, m, hm, hJ'⟩ := hq
        obtain ⟨e₂, a₂, w₂, hq₂, harr₂⟩ := ih m hm a₁ w₁ hJ'
        exact ⟨e₂, a₂, w₂, hq₂, .of_steps (harr _ hg0) harr₂⟩
      | ret => exact ⟨_, a₁, w₁, hq, harr⟩
      | panic ch => exact ⟨_, a₁, w₁, hq, harr⟩
      | outgrown => exact ⟨_, a₁, w₁, hq, harr⟩
  have first' := first (fun n a w hJ => Code.wp_mono (fun e a w h => by
    cases e with
    | goto l' => exact ⟨h.1, h.2.choose, h.2.choose_spec.2⟩
    | _ => exact h) (pass0 n a w hJ))
  obtain ⟨e, a₁, w₁, hq, harr⟩ := first' b (.inScope c :: k) cs
  cases e with
  | normal => exact ⟨.normal, a₁, w₁, hq, .head step_scope (Steps.trans harr (.one step_inScope))⟩
  | exit id => exact ⟨.exit id, a₁, w₁, hq, fun k' hk => .head step_scope (harr k' (by simp [exitTo, hk]))⟩
  | goto l' =>
    obtain ⟨rfl, n, hJ'⟩ := hq
    obtain ⟨e₂, a₂, w₂, hq₂, harr₂⟩ := key n a₁ w₁ hJ'
    exact ⟨e₂, a₂, w₂, hq₂, .of_steps (.head step_scope (harr _ hg0)) harr₂⟩
  | ret => exact ⟨_, a₁, w₁, hq, .of_steps (.one step_scope) harr⟩
  | panic ch => exact ⟨_, a₁, w₁, hq, .of_steps (.one step_scope) harr⟩
  | outgrown => exact ⟨_, a₁, w₁, hq, .of_steps (.one step_scope) harr⟩
theorem wp_scope_one {P : Program} {a : Act} {w : World} {Q : Exit → Act → World → Prop} {c r0 : Code} (J : Nat → Act → World → Prop) (hf0 : findLabel c 0 = some (Code.skip.seq r0))
    (first : (∀ n a w, J n a w → r0.wp P (Exit.jump 0 (fun a' w' => ∃ m, J m a' w') Q) a w) → c.wp P (Exit.jump 0 (fun a' w' => ∃ m, J m a' w') Q) a w)
    (pass0 : ∀ n a w, J n a w → r0.wp P (Exit.jump 0 (fun a' w' => ∃ m, m < n ∧ J m a' w') Q) a w) : (Code.scope c).wp P Q a w :=
  wp_scope_one0 J hf0
    (fun _ => first fun n a w hJ => Code.wp_mono (fun e a w h => by
      cases e with
      | goto l' => exact ⟨h.1, h.2.choose, h.2.choose_spec.2⟩
      | _ => exact h) (pass0 n a w hJ))
    (fun n a w hJ => wp_seq (wp_skip (pass0 n a w hJ)))

def acts (u : Nat → Value) : Act := ⟨((List.range 126).map u).toArray, []⟩
set_option maxRecDepth 100000 in
theorem acts_eq (u : Nat → Value) : acts u = ⟨#[u 0, u 1, u 2, u 3, u 4, u 5, u 6, u 7, u 8, u 9, u 10, u 11, u 12, u 13, u 14, u 15, u 16, u 17, u 18, u 19, u 20, u 21, u 22, u 23, u 24, u 25, u 26, u 27, u 28, u 29, u 30, u 31, u 32, u 33, u 34, u 35, u 36, u 37, u 38, u 39, u 40, u 41, u 42, u 43, u 44, u 45, u 46, u 47, u 48, u 49, u 50, u 51, u 52, u 53, u 54, u 55, u 56, u 57, u 58, u 59, u 60, u 61, u 62, u 63, u 64, u 65, u 66, u 67, u 68, u 69, u 70, u 71, u 72, u 73, u 74, u 75, u 76, u 77, u 78, u 79, u 80, u 81, u 82, u 83, u 84, u 85, u 86, u 87, u 88, u 89, u 90, u 91, u 92, u 93, u 94, u 95, u 96, u 97, u 98, u 99, u 100, u 101, u 102, u 103, u 104, u 105, u 106, u 107, u 108, u 109, u 110, u 111, u 112, u 113, u 114, u 115, u 116, u 117, u 118, u 119, u 120, u 121, u 122, u 123, u 124, u 125], []⟩ := rfl
theorem acts_of {A : Array Value} (h : A.size = 126) : (⟨A, []⟩ : Act) = acts (fun i => A.getD i undef) := by
  unfold acts
  congr 1
  refine Array.ext (by simp [h]) fun i h1 h2 => ?_
  simp [Array.getD_eq_getD_getElem?, h1]

theorem heap_new (w : World) (o : Obj) : (w.alloc o).heap[w.heap.size]? = some o := by
  show (w.heap.push o)[w.heap.size]? = some o
  simp
theorem var_alloc (w : World) (l : List Value) (e : TypeId) : VarW (w.alloc (.cells l.toArray e)) w.heap.size e l :=
  ⟨l.toArray, heap_new _ _, fun j u hj => by simpa using hj⟩
theorem nilV_true : isVal vvA (rec Tryz.prog noOrc sk kn 200 47 [] mem0) = true := by kernel_rfl
theorem nil_calls (w : World) : Calls Tryz.prog 47 #[] w fun e w' => e = .returned vv ∧ Below w.heap.size w w' :=
  runs_val (ρ := noSyms) mix (plainly_of plain_names) (noOrc_ok _) lex (kn_ok _) 200 47 [] [] (by simp [dens]) vvA vv (vvA_den _) nilV_true Tryz.func47 (by kernel_rfl) w
/-- the last is taken away -/
theorem owns_cut {w : World} {base g n cap : Nat} {e : TypeId} {xs ys : List Value} (h : w.ownsRow base e 1 (.slice (some ⟨g, 0, none⟩) (n + 1) cap) (n + 1) xs) (hy : xs.take n = ys) (hl : ys.length = n) : w.ownsRow base e 1 (.slice (some ⟨g, 0, none⟩) n cap) n ys := by
  obtain ⟨hxl, ⟨h0, _⟩ | ⟨g', cap', cur, hv, hb, hg, hle, hm, hs, ht⟩⟩ := h
  · cases h0
  · injection hv with e1 e2 e3
    injection Option.some.inj e1 with e4
    subst e3 e4
    refine ⟨by omega, .inr ⟨_, _, cur, rfl, hb, hg, by omega, hm, hs, ?_⟩⟩
    rw [← hy, ← ht, List.take_take]
    congr 1
    omega
theorem info123 : (Tryz.prog.info? 123).map (fun i => (i.zero, i.size, i.bytes)) = some (some (.pointer none), 1, 8) := by kernel_rfl
theorem VarW.ne' {w : World} {g b : Nat} {e e' : TypeId} {vs : List Value} {cs : Array Value} (h : VarW w g e vs) (hb : w.heap[b]? = some (.cells cs e')) (he : e ≠ e') : g ≠ b := by
  rintro rfl
  obtain ⟨cs', h1, _⟩ := h
  rw [hb] at h1
  exact he (by injection Option.some.inj h1 with _ h; exact h.symm)
def evsOf (t : List Nat) : List Int := t.map Int.ofNat
/-- what holds at the label -/
def NextS (w0 : World) (B g o cap main : Nat) (fs : List FV) (T : List Nat) (R : Option Nat) (n : Nat) (a : Act) (w : World) : Prop :=
  ∃ (u : Nat → Value) (qb rb ib tb base : Nat) (v : Value) (cb : Nat) (f : FV) (st : St) (lows : List (Nat × FV × St)) (fuel : Nat) (t0 t : List Nat), a = acts u ∧ u 2 = .pointer (some ⟨qb, 0, none⟩) ∧ u 4 = .pointer (some ⟨rb, 0, none⟩) ∧ u 5 = .int .i64 0 ∧ u 7 = .pointer (some ⟨tb, 0, none⟩) ∧ u 8 = v ∧ u 10 = .pointer (some ⟨ib, 0, none⟩) ∧
    Mch w0 B qb rb ib g o cap fs.length main tb base v cb f st lows (fuel : Int) (evsOf t0) w ∧ MRuns fs f st (lows.map (·.2)) fuel t R n ∧ t0 ++ t = T ∧ t0.length + fuel ≤ 5000 ∧ rb < base

/-- what the run tells at the end -/
def resOf (R : Option Nat) : Int × Int × Int := match R with | some r => (1, r, 0) | none => (0, 0, 6)

theorem wp_then_normal {P : Program} {Q : Exit → Act → World → Prop} {c : Code} {a A : Act} {w W : World} (h : c.wp P (fun e a' w' => e = .normal ∧ a' = A ∧ w' = W) a w) (hq : Q .normal A W) : c.wp P Q a w :=
  Code.wp_mono (fun e a' w' ⟨h1, h2, h3⟩ => by subst h1 h2 h3; exact hq) h
theorem natInt (k : Nat) : Int.ofNat k = (k : Int) := rfl
theorem wrap_pc {pc l : Nat} (h : pc < l) (h2 : l ≤ 1000) : IntKind.i64.wrap ((pc : Int) + 1) = (pc : Int) + 1 := by
  rw [IntKind.wrap_i64]
  omega
theorem wrap_len {w : World} {base : Nat} {e : TypeId} {sz : Nat} {a : Addr} {k l m cap : Nat} {xs : List Value} (h : w.ownsRow base e sz (.slice (some a) m cap) k xs) (hk : k = l + 1) : IntKind.i64.wrap (l : Int) = (l : Int) := by
  subst hk
  have hM : maxLen = 9223372036854775807 := rfl
  rw [IntKind.wrap_i64]
  obtain ⟨_, ⟨h, _⟩ | ⟨_, _, _, h, _, _, h2, h3, _⟩⟩ := h
  · cases h
  · have := Nat.le_trans h2 h3
    omega
theorem MRuns.ins {fs : List FV} {f : FV} {st : St} {rest : List (FV × St)} {fuel : Nat} {t : List Nat} {R : Option Nat} {n : Nat} (h : MRuns fs f st rest fuel t R n) : ∃ op a b, f.code[st.pc]? = some (op, a, b) := by
  cases h <;> exact ⟨_, _, _, by assumption⟩
theorem MRuns.inv {fs : List FV} {f : FV} {pc : Nat} {ls : List (Option Nat)} {xs : List Nat} {b : Bool} {rest : List (FV × St)} {fuel : Nat} {t : List Nat} {R : Option Nat} {n op ia ib2 : Nat} (hi : f.code[pc]? = some (op, ia, ib2)) (h : MRuns fs f ⟨pc, ls, xs, b⟩ rest fuel t R n) :
    (∃ r, op = 10 ∧ xs = [r] ∧ rest = [] ∧ t = [] ∧ R = some r) ∨
    (∃ r g st rest' n', op = 10 ∧ xs = [r] ∧ rest = (g, st) :: rest' ∧ st.xs.length ≤ 2 ∧ n' < n ∧ MRuns fs g ⟨st.pc, st.ls, st.xs ++ [r], true⟩ rest' fuel t R n') ∨
    (∃ z n', op = 1 ∧ ib2 = 0 ∧ f.consts[ia]? = some (1, ((z : Nat) : Int)) ∧ xs.length ≤ 2 ∧ n' < n ∧ MRuns fs f ⟨pc + 1, ls, xs ++ [z], true⟩ rest fuel t R n') ∨
    (∃ z n', op = 2 ∧ ib2 = 0 ∧ ls[ia]? = some (some z) ∧ xs.length ≤ 2 ∧ n' < n ∧ MRuns fs f ⟨pc + 1, ls, xs ++ [z], true⟩ rest fuel t R n') ∨
    (∃ z n', op = 3 ∧ ib2 = 0 ∧ xs = [z] ∧ ia < ls.length ∧ f.locals = 2 ∧ n' < n ∧ MRuns fs f ⟨pc + 1, ls.set ia (some z), [], true⟩ rest fuel t R n') ∨
    (∃ u v n', op = 5 ∧ ib2 = 0 ∧ xs = [u, v] ∧ (ia = 1 ∨ ia = 6 ∨ ia = 8) ∧ u < 1000000 ∧ v < 1000000 ∧ n' < n ∧ MRuns fs f ⟨pc + 1, ls, [bop ia u v], true⟩ rest fuel t R n') ∨
    (∃ x u v n', op = 5 ∧ ia = 2 ∧ ib2 = 0 ∧ xs = [x, u, v] ∧ u < 1000000 ∧ v ≤ u ∧ n' < n ∧ MRuns fs f ⟨pc + 1, ls, [x, u - v], true⟩ rest fuel t R n') ∨
    (∃ n', op = 7 ∧ n' < n ∧ MRuns fs f ⟨ia, ls, xs, b⟩ rest fuel t R n') ∨
    (∃ c n', op = 8 ∧ xs = [c] ∧ n' < n ∧ MRuns fs f ⟨if c = 0 then ia else pc + 1, ls, [], true⟩ rest fuel t R n') ∨
    (∃ g z ys n', op = 9 ∧ ib2 = 1 ∧ xs = ys ++ [z] ∧ fs[ia]? = some g ∧ g.locals = 1 ∧ ys.length ≤ 2 ∧ rest.length ≤ 5000 ∧ n' < n ∧ MRuns fs g ⟨0, [some z], [], false⟩ ((f, ⟨pc + 1, ls, ys, true⟩) :: rest) fuel t R n') ∨
    (∃ fu t' n', op = 12 ∧ ib2 = 0 ∧ b = true ∧ xs.length ≤ 2 ∧ fuel = fu + 1 ∧ t = ia :: t' ∧ n' < n ∧ MRuns fs f ⟨pc + 1, ls, xs, true⟩ rest fu t' R n') ∨
    (op = 12 ∧ ib2 = 0 ∧ b = true ∧ xs.length ≤ 2 ∧ fuel = 0 ∧ t = [] ∧ R = none) := by
  have e : ∀ {x y z : Nat}, f.code[pc]? = some (x, y, z) → op = x ∧ ia = y ∧ ib2 = z := fun h1 => by
    rw [h1] at hi
    simp only [Option.some.injEq, Prod.mk.injEq] at hi
    exact ⟨hi.1.symm, hi.2.1.symm, hi.2.2.symm⟩
  cases h with
  | done h => exact .inl ⟨_, (e h).1, rfl, rfl, rfl, rfl⟩
  | back h hx k => exact .inr (.inl ⟨_, _, _, _, _, (e h).1, rfl, rfl, hx, Nat.lt_succ_self _, k⟩)
  | const h hc hx k => obtain ⟨rfl, rfl, rfl⟩ := e h; exact .inr (.inr (.inl ⟨_, _, rfl, rfl, hc, hx, Nat.lt_succ_self _, k⟩))
  | load h hc hx k => obtain ⟨rfl, rfl, rfl⟩ := e h; exact .inr (.inr (.inr (.inl ⟨_, _, rfl, rfl, hc, hx, Nat.lt_succ_self _, k⟩)))
  | store h hl h2 k => obtain ⟨rfl, rfl, rfl⟩ := e h; exact .inr (.inr (.inr (.inr (.inl ⟨_, _, rfl, rfl, rfl, hl, h2, Nat.lt_succ_self _, k⟩))))
  | bin h ho hu hv k => obtain ⟨rfl, rfl, rfl⟩ := e h; exact .inr (.inr (.inr (.inr (.inr (.inl ⟨_, _, _, rfl, rfl, rfl, ho, hu, hv, Nat.lt_succ_self _, k⟩)))))
  | sub h hu hv k => obtain ⟨rfl, rfl, rfl⟩ := e h; exact .inr (.inr (.inr (.inr (.inr (.inr (.inl ⟨_, _, _, _, rfl, rfl, rfl, rfl, hu, hv, Nat.lt_succ_self _, k⟩))))))
  | jump h k => obtain ⟨rfl, rfl, rfl⟩ := e h; exact .inr (.inr (.inr (.inr (.inr (.inr (.inr (.inl ⟨_, rfl, Nat.lt_succ_self _, k⟩)))))))
  | brz h k => obtain ⟨rfl, rfl, rfl⟩ := e h; exact .inr (.inr (.inr (.inr (.inr (.inr (.inr (.inr (.inl ⟨_, _, rfl, rfl, Nat.lt_succ_self _, k⟩))))))))
  | call h hg h1 hx hd k => obtain ⟨rfl, rfl, rfl⟩ := e h; exact .inr (.inr (.inr (.inr (.inr (.inr (.inr (.inr (.inr (.inl ⟨_, _, _, _, rfl, rfl, rfl, hg, h1, hx, hd, Nat.lt_succ_self _, k⟩)))))))))
  | tick h hx k => obtain ⟨rfl, rfl, rfl⟩ := e h; exact .inr (.inr (.inr (.inr (.inr (.inr (.inr (.inr (.inr (.inr (.inl ⟨_, _, _, rfl, rfl, rfl, hx, rfl, rfl, Nat.lt_succ_self _, k⟩))))))))))
  | stop h hx => obtain ⟨rfl, rfl, rfl⟩ := e h; exact .inr (.inr (.inr (.inr (.inr (.inr (.inr (.inr (.inr (.inr (.inr ⟨rfl, rfl, rfl, hx, rfl, rfl, rfl⟩))))))))))

set_option maxRecDepth 100000 in
set_option maxHeartbeats 8000000 in
theorem run_calls {w0 : World} {g o cap main fuel N : Nat} {fs : List FV} {f0 : FV} {t : List Nat} {R : Option Nat} (hP : Prg w0 w0.heap.size g o fs) (hm : fs[main]? = some f0) (h0 : f0.locals = 0 ∨ f0.locals = 2) (hfuel : fuel ≤ 5000)
    (hchk : ∀ w, Below w0.heap.size w0 w → Calls Tryz.prog 31 #[.agg #[.slice (some ⟨g, o, none⟩) fs.length cap, .int .i64 (.ofNat main)]] w fun e w' => e = .returned (.int .i64 0) ∧ Below w.heap.size w w')
    (hr : MRuns fs f0 ⟨0, List.replicate f0.locals none, [], false⟩ [] fuel t R N) :
    Calls Tryz.prog 20 #[.agg #[.slice (some ⟨g, o, none⟩) fs.length cap, .int .i64 (.ofNat main)], .int .i64 fuel] w0 fun e w' => ∃ a cap' base, e = .returned (.tuple #[.agg #[.slice a t.length t.length, .int .i64 (resOf R).1, .int .i64 (resOf R).2.1, .complex .f64 0 0, .string ⟨#[]⟩, .slice none 0 0, .int .i64 (resOf R).2.2], .int .i64 0]) ∧
      w'.ownsRow base 69 7 (.slice a t.length cap') t.length (flat ec (evsOf t)) ∧ w0.heap.size ≤ base ∧ Below w0.heap.size w0 w' := by
  have HH := Lib.hid (And.intro hP (And.intro hm (And.intro hchk hr)))
  clear hP hm hchk hr
  go_enter Tryz.func20, Tryz.ntmps20
  go_wp2
  refine wp_scope_one (NextS w0 w0.heap.size g o cap main fs t R) rfl (fun p0 => ?_) ?_
  · have P0 := Lib.hid p0
    clear p0
    have hb0 : Below w0.heap.size w0 ((w0.alloc (.cells #[.slice (some ⟨g, o, none⟩) fs.length cap, .int .i64 main] 24)).alloc (.cells #[.slice none 0 0, .int .i64 0, .int .i64 0, .complex .f64 0 0, .string ⟨#[]⟩, .slice none 0 0, .int .i64 0] 57)) :=
      ((Below.refl _ _).alloc (Nat.le_refl _) _).alloc (by simp) _
    have HB0 := Lib.hid hb0
    clear hb0
    go_wp2_with fail
    refine (HH.out.2.2.1 _ HB0.out).mono ?_
    rintro e w1 ⟨rfl, hb1⟩
    have hsz : w0.heap.size + 2 ≤ w1.heap.size := by have := hb1.size; simpa using this
    have p0 : w1.cell? ⟨w0.heap.size, 0, none⟩ = some (.slice (some ⟨g, o, none⟩) fs.length cap) := by rw [hb1.cell (by simp; omega)]; simp [go_sem]
    have p1 : w1.cell? ⟨w0.heap.size, 1, none⟩ = some (.int .i64 main) := by rw [hb1.cell (by simp; omega)]; simp [go_sem]
    have hq : VarW w1 w0.heap.size 24 [.slice (some ⟨g, o, none⟩) fs.length cap, .int .i64 (.ofNat main)] := E3.VarW.keep (E3.VarW.keep (var_alloc w0 [.slice (some ⟨g, o, none⟩) fs.length cap, .int .i64 main] 24) (Below.heap_alloc _ _ _ (by simp))) (hb1.block _ (by simp; omega))
    have hrB : VarW w1 (w0.heap.size + 1) 57 [.slice none 0 0, .int .i64 0, .int .i64 0, .complex .f64 0 0, .string ⟨#[]⟩, .slice none 0 0, .int .i64 0] := by
      have := var_alloc (w0.alloc (.cells #[.slice (some ⟨g, o, none⟩) fs.length cap, .int .i64 main] 24)) [.slice none 0 0, .int .i64 0, .int .i64 0, .complex .f64 0 0, .string ⟨#[]⟩, .slice none 0 0, .int .i64 0] 57
      rw [show ∀ o : Obj, (w0.alloc o).heap.size = w0.heap.size + 1 from fun o => by simp] at this
      exact E3.VarW.keep this (hb1.block _ (by simp))
    have hbw := HB0.out.trans (hb1.mono HB0.out.size)
    have H1 := Lib.hid (And.intro hsz (And.intro hq (And.intro hrB hbw)))
    have P := Lib.hid (And.intro p0 p1)
    clear hsz hq hrB hbw hb1 HB0 p0 p1
    go_wp2_with fail
    refine (fill_calls _ (by omega)).mono ?_
    rintro e w2 ⟨rfl, hw2⟩
    have hx2 : Fx (fun _ => False) w1 w2 := by rw [hw2]; exact (Fx.refl _ _).alloc _
    have hl0 : w0.heap.size < w1.heap.size := by have := H1.out.1; omega
    have p0 := (hx2.cell (b := w0.heap.size) hl0 (fun h => h) 0).trans P.out.1
    have p1 := (hx2.cell (b := w0.heap.size) hl0 (fun h => h) 1).trans P.out.2
    have hbw2 := H1.out.2.2.2.trans (hx2.below (B := w0.heap.size) (by omega) (fun _ _ h => h))
    obtain ⟨sc, sk, gc, hcell, hFn⟩ := (HH.out.1.below hbw2).fns main f0 HH.out.2.1
    have x0 := hcell 0 _ rfl
    have x1 := hcell 1 _ rfl
    have x2 := hcell 2 _ rfl
    have x3 := hcell 3 _ rfl
    have x4 := hcell 4 _ rfl
    simp only [Nat.add_zero, Nat.mul_comm 5 main] at x0 x1 x2 x3 x4
    have hml : main < fs.length := (List.getElem?_eq_some_iff.1 HH.out.2.1).1
    have hm0 : (0 : Int) ≤ (main : Int) := by omega
    have hm1 : (main : Int) < (fs.length : Int) := by omega
    generalize hfl : fs.length = fl at hm1 p0
    have H2 := Lib.hid (And.intro hx2 (And.intro hw2 (And.intro hbw2 (And.intro hFn hl0))))
    clear hx2 hw2 hbw2 hFn hl0 hcell
    go_wp2_with fail
    obtain ⟨hfo, hfn, hfc⟩ : (f0.name.oneCell' = true ∧ sc.oneCell' = true ∧ sk.oneCell' = true) := ⟨H2.out.2.2.2.1.ones _ (by simp), H2.out.2.2.2.1.ones _ (by simp), H2.out.2.2.2.1.ones _ (by simp)⟩
    refine (open_nil (pr := .int .i64 f0.params) h0 hfo rfl hfn hfc).mono ?_
    rintro e w3 ⟨cb, gl, lsl, rfl, hO⟩
    have HO := Lib.hid hO
    clear hO p0 p1 x0 x1 x2 x3 x4 hfo hfn hfc
    go_wp2_with fail
    go_step3
    rename_i hKK
    refine hKK _ _ (P0.out N _ _ ?_)
    clear hKK
    subst hfl
    obtain ⟨oc, ol, ocb, ogl, obw⟩ := HO.out
    obtain ⟨hx2, hw2, hbw2, hFn, hl0⟩ := H2.out
    obtain ⟨hsz, hq, hrB, hbw⟩ := H1.out
    have hs2 : w2.heap.size = w1.heap.size + 1 := by rw [hw2]; simp
    have hs3 := obw.size
    have hT2 : Tk w2 w1.heap.size (w1.heap.size + 1) fuel [] := by
      rw [hw2]
      refine ⟨?_, ⟨.slice none 0 0, ?_, World.ownsRow_nil _ _ _ _⟩, ?_, ?_, ?_, ?_, ?_, ?_, fun j hj => ?_⟩
      all_goals simp [go_sem]
    have hty2 : ∃ cs, w2.heap[w1.heap.size]? = some (.cells cs 194) := by rw [hw2]; exact ⟨_, heap_new _ _⟩
    have hxa : Fx (fun _ => False) w3 ((w3.alloc (.cells #[.pointer (some ⟨cb, 0, none⟩)] 123)).alloc (.cells #[.int .i64 0, .int .i64 0, .int .i64 0] 127)) := ((Fx.refl _ w3).alloc _).alloc _
    have hx3 : Fx (fun _ => False) w2 w3 := Fx.ofB obw
    have hx4 := hx3.trans hxa
    have hbw4 := hbw2.trans (hx4.below (B := w0.heap.size) (by omega) (fun _ _ h => h))
    have hol : RowW w3 lsl 54 5 f0.locals (flat ov (List.replicate f0.locals none)) gl := by
      rcases h0 with h0 | h0
      · rw [h0] at ol ⊢; exact ol
      · rw [h0] at ol ⊢; exact ol
    obtain ⟨hF3, hO3⟩ := One.new (evs := []) hFn hT2 hty2 (by omega) (by omega) (by omega) (by omega) rfl oc hol (by simp) ocb ogl obw
    refine ⟨_, w0.heap.size, w0.heap.size + 1, w3.heap.size + 1, w1.heap.size, w1.heap.size + 1, _, cb, f0, _, [], fuel, [], t, acts_of rfl, rfl, rfl, rfl, rfl, rfl, rfl, ⟨hbw4, ⟨?_, ⟨[.slice none 0 0, .int .i64 0, .int .i64 0, .complex .f64 0 0, .string ⟨#[]⟩, .slice none 0 0, .int .i64 0], rfl, ?_⟩, ⟨[.int .i64 0, .int .i64 0, .int .i64 0], rfl, ?_⟩, ?_, ?_, ?_, ?_⟩, w2.heap.size, _, _, _, _, _, gc, gl, lsl, trivial, hF3.below (hxa.below (by omega) (fun _ _ h => h)), hO3.oth hxa (fun _ h => h.elim)⟩, HH.out.2.2.2, rfl, by simp; omega, by omega⟩
    · exact E3.VarW.keep hq ((hx4.block _ (by omega) (fun h => h)).trans (hx2.block _ (by omega) (fun h => h)))
    · exact E3.VarW.keep hrB ((hx4.block _ (by omega) (fun h => h)).trans (hx2.block _ (by omega) (fun h => h)))
    · have := var_alloc (w3.alloc (.cells #[.pointer (some ⟨cb, 0, none⟩)] 123)) [.int .i64 0, .int .i64 0, .int .i64 0] 127
      rw [show ∀ o : Obj, (w3.alloc o).heap.size = w3.heap.size + 1 from fun o => by simp] at this
      exact this
    · refine ⟨rfl, .inr ⟨w3.heap.size, 1, #[.pointer (some ⟨cb, 0, none⟩)], rfl, by omega, ?_, by simp, by decide, rfl, rfl⟩⟩
      rw [Below.heap_alloc _ _ _ (by simp)]
      exact heap_new _ _
    · omega
    · omega
    · omega
  · rintro n a w ⟨u, qb, rb, ib, tb, base, v, cb, f, ⟨pc, ls, xs, b⟩, lows, fu, t0, t1, rfl, u2, u4, u5, u7, u8, u10, hM, hR, hT, hfl, hrb⟩
    obtain ⟨rest, hrest⟩ : ∃ rest, rest = lows.map (·.2) := ⟨_, rfl⟩
    rw [← hrest] at hR
    obtain ⟨op, ia, ib2, hins⟩ : ∃ op ia ib2, f.code[pc]? = some (op, ia, ib2) := hR.ins
    have hPw := HH.out.1.below hM.below
    have HM := Lib.hid hM
    obtain ⟨hbw, hloc, C, nm, pr, nl, sc, sk, gc, gl, lsl, hFr, hFn, hO⟩ := hM
    obtain ⟨kg, ko, kc, rfl, hkg, hpl, y0, y1, y2⟩ := hFn.code.ins hins
    obtain ⟨s, hc, _⟩ := hO.call
    have c4 : w.cell? ⟨cb, 4, none⟩ = some (.slice (some ⟨kg, ko, none⟩) f.code.length kc) := E3.VarW.cell hc 4 rfl
    have c5 : w.cell? ⟨cb, 5, none⟩ = some (.int .i64 pc) := E3.VarW.cell hc 5 rfl
    obtain ⟨vi, hvi, hvI⟩ := hloc.i
    obtain ⟨z0, z1, z2, rfl⟩ : ∃ z0 z1 z2, vi = [z0, z1, z2] := by
      match vi, hvi with
      | [a, b, c], _ => exact ⟨a, b, c, rfl⟩
    have i0 : w.cell? ⟨ib, 0, none⟩ = some z0 := E3.VarW.cell hvI 0 rfl
    have i1 : w.cell? ⟨ib, 1, none⟩ = some z1 := E3.VarW.cell hvI 1 rfl
    have i2 : w.cell? ⟨ib, 2, none⟩ = some z2 := E3.VarW.cell hvI 2 rfl
    have hfi : ∀ j, w.frozen? ⟨ib, j, none⟩ = false := fun j => by
      obtain ⟨cs, h1, _⟩ := hvI
      exact froz h1 j
    have g0 := hfi 0
    have g1 := hfi 1
    have g2 := hfi 2
    have hown := hloc.v
    obtain ⟨cr, cc, hv, _, _⟩ := World.ownsRow.form hown (by simp)
    have hlast : w.cell? ⟨cr, lows.length, none⟩ = some (.pointer (some ⟨cb, 0, none⟩)) := by
      have := World.ownsRow.cells hown (by rw [hv]; rfl) lows.length (.pointer (some ⟨cb, 0, none⟩)) (by simp [ptrs])
      rwa [add_eq, Nat.zero_add] at this
    have hlen : ((cb :: lows.map (·.1)).reverse).length = lows.length + 1 := by simp
    rw [hlen] at hv
    subst hv
    have hsh := hFn.short
    have hcne : cb ≠ ib := VarW.ne hc hvI (by decide)
    have hcn' : ib ≠ cb := fun e => hcne e.symm
    have f5 : w.frozen? ⟨cb, 5, none⟩ = false := by
      obtain ⟨cs, h1, _⟩ := hc
      exact froz h1 5
    have hp0 : (0 : Int) ≤ (pc : Int) := Int.natCast_nonneg pc
    have hp1 : (pc : Int) < (f.code.length : Int) := Int.ofNat_lt.2 hpl
    generalize hcl : f.code.length = cl at c4 hp1
    have hl0 : (0 : Int) ≤ (lows.length : Int) := Int.natCast_nonneg _
    have hl1 : (lows.length : Int) < (lows.length : Int) + 1 := Int.lt_succ _
    have hw1 : IntKind.i64.wrap ((pc : Int) + 1) = (pc : Int) + 1 := wrap_pc hpl hsh
    have hwl : IntKind.i64.wrap (lows.length : Int) = (lows.length : Int) := wrap_len hown hlen
    generalize hml : lows.length = m at *
    have HL := Lib.hid (And.intro hbw (And.intro hloc (And.intro hFr (And.intro hFn (And.intro hO (And.intro hown hfi))))))
    clear hbw hloc hFr hFn hO hown hfi hc hvI
    simp only [Nat.mul_comm 3 pc] at y0 y1 y2
    rw [acts_eq, u2, u4, u5, u7, u8, u10]
    go_wp2_with fail
    apply wp_then_normal
    · refine wp_region_still_tail 11 mix (by kernel_rfl) ?_
      show wpStill Tryz.prog _ w.drew (fun a' => wpList Tryz.prog _ _ _ a' w.drew) _ _
      simp only [List.take_succ_cons, List.take_zero, List.drop_succ_cons, List.drop_zero]
      repeat still_step
      refine wpStill_nil ?_
      go_wp2_with fail
      exact ⟨rfl, rfl⟩
    rename_i hKK _
    refine hKK _ _ ?_
    clear hKK
    obtain ⟨hM1, hI1⟩ := HM.out.seti (.int .i64 op) (.int .i64 ia) (.int .i64 ib2)
    have hM2 := hM1.drew
    have hI2 : VarW (((w.setCell ⟨ib, 0, none⟩ (.int .i64 op)).setCell ⟨ib, 1, none⟩ (.int .i64 ia)).setCell ⟨ib, 2, none⟩ (.int .i64 ib2)).drew ib 127 [.int .i64 op, .int .i64 ia, .int .i64 ib2] := hI1
    clear hM1 hI1 i0 i1 i2 c4 c5 f5 g0 g1 g2 hlast y0 y1 y2 HL HM
    generalize (((w.setCell ⟨ib, 0, none⟩ (.int .i64 op)).setCell ⟨ib, 1, none⟩ (.int .i64 ia)).setCell ⟨ib, 2, none⟩ (.int .i64 ib2)).drew = W at hM2 hI2 ⊢
    have i0 : W.cell? ⟨ib, 0, none⟩ = some (.int .i64 op) := E3.VarW.cell hI2 0 rfl
    have i1 : W.cell? ⟨ib, 1, none⟩ = some (.int .i64 ia) := E3.VarW.cell hI2 1 rfl
    have i2 : W.cell? ⟨ib, 2, none⟩ = some (.int .i64 ib2) := E3.VarW.cell hI2 2 rfl
    have c5 : W.cell? ⟨cb, 5, none⟩ = some (.int .i64 pc) := by
      obtain ⟨_, _, _, _, _, _, _, _, _, _, _, _, _, hO⟩ := hM2
      obtain ⟨s, hc, _⟩ := hO.call
      exact E3.VarW.cell hc 5 rfl
    have f5 : W.frozen? ⟨cb, 5, none⟩ = false := by
      obtain ⟨_, _, _, _, _, _, _, _, _, _, _, _, _, hO⟩ := hM2
      obtain ⟨s, ⟨cs, hc, _⟩, _⟩ := hO.call
      exact froz hc 5
    have HM := Lib.hid (show Mch w0 w0.heap.size qb rb ib g o cap fs.length main tb base _ cb f ⟨pc + 1, ls, xs, b⟩ lows fu (evsOf t0) (W.setCell ⟨cb, 5, none⟩ (.int .i64 ((pc : Int) + 1))) from hM2.pc)
    have HI := Lib.hid hI2
    clear hM2 hI2 hPw
    rcases hR.inv hins with ⟨r, ho, hxs, hrs, ht, hr⟩ | ⟨r, g1, st1, rest1, n1, ho, hxs, hrs, hx, hn, k⟩ | ⟨z, n1, ho, hz, hc, hx, hn, k⟩ | ⟨z, n1, ho, hz, hc, hx, hn, k⟩ | ⟨z, n1, ho, hz, hxs, hc, h2, hn, k⟩ | ⟨x, y, n1, ho, hz, hxs, h3, hu, hv, hn, k⟩ | ⟨x, y, z, n1, ho, ha, hz, hxs, hu, hv, hn, k⟩ | ⟨n1, ho, hn, k⟩ | ⟨c, n1, ho, hxs, hn, k⟩ | ⟨g1, z, ys, n1, ho, hz, hxs, hg, h1, hx, hd, hn, k⟩ | ⟨fu1, t2, n1, ho, hz, hb, hx, hfu, ht, hn, k⟩ | ⟨ho, hz, hb, hx, hfu, ht, hr⟩
    · replace i0 : W.cell? ⟨ib, 0, none⟩ = some (.int .i64 10) := by rw [i0, ho]; rfl
      subst hxs
      have hm0 : m = 0 := by
        rw [hrs] at hrest
        have := congrArg List.length hrest
        simp at this
        omega
      have hmi : ((m : Nat) : Int) = 0 := by omega
      have hcc0 : (0 : Int) ≤ cc := Int.natCast_nonneg _
      have hcc : (m : Int) ≤ cc := by rw [hmi]; exact hcc0
      go_wp2_with fail
      clear hw1
      obtain ⟨hb1, hl1, C, nm, pr, nl, sc, sk, gc, gl, lsl, hFr, hFn, hO⟩ := HM.out
      refine (one_popN (ys := []) (zs := [r]) (n := 1) hO rfl (Nat.le_refl 1)).mono ?_
      rintro e w2 ⟨vv1, gv, rfl, hrow, hO2, hx2⟩
      have hM2 := Mch.go hb1 hl1 hFr hFn hO hO2 hx2
      obtain ⟨ov, capv, cs, rfl, hh, _, _, _, hcell⟩ := hrow
      have v0 : w2.cell? ⟨gv, ov, none⟩ = some (.int .i64 1) := cell_of hh (hcell 0 _ rfl)
      have v1 : w2.cell? ⟨gv, ov + 1, none⟩ = some (.int .i64 r) := cell_of hh (hcell 1 _ rfl)
      have v2 : w2.cell? ⟨gv, ov + 2, none⟩ = some (.complex .f64 0 0) := cell_of hh (hcell 2 _ rfl)
      have v3 : w2.cell? ⟨gv, ov + 3, none⟩ = some (.string ⟨#[]⟩) := cell_of hh (hcell 3 _ rfl)
      have v4 : w2.cell? ⟨gv, ov + 4, none⟩ = some (.slice none 0 0) := cell_of hh (hcell 4 _ rfl)
      have H2 := Lib.hid (And.intro hM2 (And.intro hO2.tank.toE (And.intro hO2.tbB (And.intro hO2.tbb (And.intro hO2.base hO2.ty)))))
      clear hb1 hl1 hFr hFn hO hO2 hx2 hM2 hh hcell c5 f5 i0 i1 i2
      go_wp2_with fail
      refine (endE_calls (k := 1) (z := (r : Int)) (fun w => copy_int w r) H2.out.2.1 H2.out.2.2.2.1 H2.out.2.2.2.2.1).mono ?_
      rintro e w3 ⟨a1, cap1, rfl, ho, hx⟩
      obtain ⟨vr, hvr, hR7⟩ := H2.out.1.loc.r
      have hR8 : VarW w3 rb 57 vr := E3.VarW.keep hR7 (hx.block rb (E3.VarW.lt hR7) (fun h => by
        rcases h with h | h
        · obtain ⟨cs, hc, _⟩ := hR7
          exact absurd h (ty_ne H2.out.2.2.2.2.2 hc (by decide))
        · omega))
      obtain ⟨z0, z1, z2, z3, z4, z5, z6, rfl⟩ : ∃ z0 z1 z2 z3 z4 z5 z6, vr = [z0, z1, z2, z3, z4, z5, z6] := by
        match vr, hvr with
        | [a, b, c, d, e, f, g], _ => exact ⟨a, b, c, d, e, f, g, rfl⟩
      have r0 : w3.cell? ⟨rb, 0, none⟩ = some z0 := E3.VarW.cell hR8 0 rfl
      have r1 : w3.cell? ⟨rb, 1, none⟩ = some z1 := E3.VarW.cell hR8 1 rfl
      have r2 : w3.cell? ⟨rb, 2, none⟩ = some z2 := E3.VarW.cell hR8 2 rfl
      have r3 : w3.cell? ⟨rb, 3, none⟩ = some z3 := E3.VarW.cell hR8 3 rfl
      have r4 : w3.cell? ⟨rb, 4, none⟩ = some z4 := E3.VarW.cell hR8 4 rfl
      have r5 : w3.cell? ⟨rb, 5, none⟩ = some z5 := E3.VarW.cell hR8 5 rfl
      have r6 : w3.cell? ⟨rb, 6, none⟩ = some z6 := E3.VarW.cell hR8 6 rfl
      have hfr : ∀ j, w3.frozen? ⟨rb, j, none⟩ = false := fun j => by
        obtain ⟨cs, h1, _⟩ := hR8
        exact froz h1 j
      have g0 := hfr 0
      have g1 := hfr 1
      have g2 := hfr 2
      have g3 := hfr 3
      have g4 := hfr 4
      have g5 := hfr 5
      have g6 := hfr 6
      have HE := Lib.hid (And.intro ho hx)
      clear ho hx hR7 hR8 hfr v0 v1 v2 v3 v4
      go_wp2_with fail
      simp only [Exit.jump]
      show bodyPost Tryz.prog Tryz.f20 _ Exit.ret _ _
      refine bodyPost_ret (v := .tuple #[.agg #[.slice a1 (evsOf t0).length (evsOf t0).length, .int .i64 1, .int .i64 r, .complex .f64 0 0, .string ⟨#[]⟩, .slice none 0 0, .int .i64 0], .int .i64 0]) (by simp [results, Tryz.results20, go_sem, r0, r1, r2, r3, r4, r5, r6]) rfl ?_
      obtain ⟨ho, hx⟩ := HE.out
      have hTT : t = t0 := by rw [← hT, ht, List.append_nil]
      have hel : (evsOf t0).length = t0.length := by simp [evsOf]
      have hend : ∀ y0 y1 y2 y3 y4 y5 y6, Fx (fun g => g = rb) w3 (((((((w3.setCell ⟨rb, 0, none⟩ y0).setCell ⟨rb, 1, none⟩ y1).setCell ⟨rb, 2, none⟩ y2).setCell ⟨rb, 3, none⟩ y3).setCell ⟨rb, 4, none⟩ y4).setCell ⟨rb, 5, none⟩ y5).setCell ⟨rb, 6, none⟩ y6) := fun y0 y1 y2 y3 y4 y5 y6 =>
        Fx.setCell (Fx.setCell (Fx.setCell (Fx.setCell (Fx.setCell (Fx.setCell (Fx.setCell (S := fun g => g = rb) (Fx.refl _ _) rfl _) rfl _) rfl _) rfl _) rfl _) rfl _) rfl _
      have hbr := H2.out.1.loc.br
      have htB := And.intro H2.out.2.2.1 H2.out.2.2.2.1
      have hs2 := H2.out.2.2.2.2.1
      have hs3 := hx.size
      refine ⟨a1, cap1, base, by rw [hr, hTT, hel]; rfl, ?_, by omega, ?_⟩
      · rw [hel] at ho
        rw [hTT]
        exact owns_fx ho (hend _ _ _ _ _ _ _) (fun g hg _ e => by omega)
      · exact (H2.out.1.below.trans (hx.below (by omega) fun g hg h => by omega)).trans ((hend _ _ _ _ _ _ _).below (by omega) fun g hg h => by omega)
    · replace i0 : W.cell? ⟨ib, 0, none⟩ = some (.int .i64 10) := by rw [i0, ho]; rfl
      subst hxs
      obtain ⟨cb1, lows1, rfl, hr1⟩ : ∃ cb1 lows1, lows = (cb1, g1, st1) :: lows1 ∧ rest1 = lows1.map (·.2) := by
        rw [hrs] at hrest
        cases lows with
        | nil => cases hrest
        | cons y l =>
          obtain ⟨y1, y2, y3⟩ := y
          injection hrest with e1 e2
          injection e1 with e3 e4
          subst e3 e4
          exact ⟨y1, l, rfl, e2⟩
      have hm1 : m = lows1.length + 1 := by rw [← hml]; rfl
      have hmn : ¬ ((m : Nat) : Int) = 0 := by omega
      have hcc : (m : Int) ≤ cc := by
        have hv := HM.out.loc.v
        obtain ⟨_, ⟨h, _⟩ | ⟨_, _, _, h, _, _, h2, _⟩⟩ := hv
        · cases h
        · injection h with _ _ e3
          simp at h2
          omega
      obtain ⟨m1, hmm⟩ : ∃ m1, m1 = lows1.length := ⟨_, rfl⟩
      have hwm : IntKind.i64.wrap ((m : Int) - 1) = (m1 : Int) := by
        rw [IntKind.wrap_i64] at hwl ⊢
        omega
      have hml0 : (0 : Int) ≤ (m1 : Int) := Int.natCast_nonneg _
      have hml1 : (m1 : Int) < (m : Int) := by omega
      have hmg : (0 : Int) ≤ (m : Int) := Int.natCast_nonneg _
      have hmk : (m : Int) ≤ (m : Int) + 1 := by omega
      have HMM := Lib.hid (And.intro hm1 hmm)
      clear hm1 hmm
      go_wp2_with fail
      clear hw1
      obtain ⟨hb1, hl1, C, nm, pr, nl, sc, sk, gc, gl, lsl, hFr, hFn, hO⟩ := HM.out
      refine (one_popN (ys := []) (zs := [r]) (n := 1) hO rfl (Nat.le_refl 1)).mono ?_
      rintro e w2 ⟨vv1, gv, rfl, hrow, hO2, hx2⟩
      have hM2 := Mch.go hb1 hl1 hFr hFn hO hO2 hx2
      obtain ⟨ov, capv, cs, rfl, hh, _, _, _, hcell⟩ := hrow
      have v0 : w2.cell? ⟨gv, ov, none⟩ = some (.int .i64 1) := cell_of hh (hcell 0 _ rfl)
      have v1 : w2.cell? ⟨gv, ov + 1, none⟩ = some (.int .i64 r) := cell_of hh (hcell 1 _ rfl)
      have v2 : w2.cell? ⟨gv, ov + 2, none⟩ = some (.complex .f64 0 0) := cell_of hh (hcell 2 _ rfl)
      have v3 : w2.cell? ⟨gv, ov + 3, none⟩ = some (.string ⟨#[]⟩) := cell_of hh (hcell 3 _ rfl)
      have v4 : w2.cell? ⟨gv, ov + 4, none⟩ = some (.slice none 0 0) := cell_of hh (hcell 4 _ rfl)
      have hp1 : w2.cell? ⟨cr, m1, none⟩ = some (.pointer (some ⟨cb1, 0, none⟩)) := by
        rw [HMM.out.2]
        have := World.ownsRow.cells hM2.loc.v rfl lows1.length (.pointer (some ⟨cb1, 0, none⟩)) (by simp [ptrs])
        rwa [add_eq, Nat.zero_add] at this
      have H2 := Lib.hid hM2
      clear hb1 hl1 hFr hFn hO hO2 hx2 hM2 hh hcell c5 f5 i0 i1 i2
      go_wp2_with fail
      refine wp_region_still_tail 9 mix (by kernel_rfl) ?_
      show wpStill Tryz.prog _ w2.drew (fun a' => wpList Tryz.prog _ _ _ a' w2.drew) _ _
      simp only [List.take_succ_cons, List.take_zero, List.drop_succ_cons, List.drop_zero]
      repeat still_step
      refine wpStill_nil ?_
      go_wp2_with fail
      obtain ⟨hb2, hl2, C, nm, pr, nl, sc, sk, gc, gl, lsl, ⟨C1, hLw, hFr1⟩, hFn, hO⟩ := H2.out.drew
      obtain ⟨nm1, pr1, nl1, sc1, sk1, gc1, gl1, lsl1, hFn1, hO1⟩ := hLw.top hO.size hO.tank hO.ty hO.tbB hO.tbb hO.base
      have hrow1 : st1.row = true := by
        obtain ⟨_, _, _, _, _, _, _, _, _, _, _, _, _, _, _, _, _, _, _, _, _, h⟩ := hLw
        exact h
      have hO1' : One w2.drew w0.heap.size C1 g1.locals tb base g1.consts nm1 pr1 nl1 sc1 sk1 gc1 cb1 gl1 lsl1 ⟨st1.pc, st1.ls, st1.xs, true⟩ fu (evsOf t0) := by
        rw [← hrow1]
        exact hO1
      refine (one_push (z := r) hO1' hx).mono ?_
      rintro e w3 ⟨rfl, hO3, hx3⟩
      have hl3 : Loc w2.drew w0.heap.size qb rb ib g o cap fs.length main (.slice (some ⟨cr, 0, none⟩) m cc) ((cb1 :: lows1.map (·.1)).reverse) := by
        obtain ⟨h1, h2, h3, h4, h5, h6, h7⟩ := hl2
        refine ⟨h1, h2, h3, ?_, h5, h6, h7⟩
        have e1 : ((cb1 :: lows1.map (·.1)).reverse).length = m := by rw [HMM.out.1]; simp
        rw [e1]
        have e2 : ((cb :: ((cb1, g1, st1) :: lows1).map (·.1)).reverse).length = m + 1 := hlen
        rw [e2] at h4
        refine owns_cut h4 ?_ ?_
        · simp only [ptrs, List.map_cons, List.reverse_cons, List.map_append]
          rw [List.take_left' (by rw [HMM.out.1]; simp)]
        · rw [HMM.out.1]; simp [ptrs]
      have HN := Lib.hid (Mch.go hb2 hl3 hFr1 hFn1 hO1' hO3 hx3)
      clear hb2 hl2 hl3 hLw hFr1 hFn hO hFn1 hO1 hO1' hO3 hx3 v0 v1 v2 v3 v4 hp1 hwl
      go_wp2_with fail
      go_step3
      refine ⟨rfl, n1, hn, ?_⟩
      rw [hr1] at k
      exact ⟨_, qb, rb, ib, tb, base, _, cb1, g1, _, lows1, fu, t0, t1, acts_of rfl, rfl, rfl, rfl, rfl, rfl, rfl, HN.out, k, hT, hfl, hrb⟩
    · replace i0 : W.cell? ⟨ib, 0, none⟩ = some (.int .i64 1) := by rw [i0, ho]; rfl
      replace i2 : W.cell? ⟨ib, 2, none⟩ = some (.int .i64 0) := by rw [i2, hz]; rfl
      go_wp2_with fail
      clear hw1 hwl
      obtain ⟨hb1, hl1, C, nm, pr, nl, sc, sk, gc, gl, lsl, hFr, hFn, hO⟩ := HM.out
      refine (one_const rfl hO hc hx).mono ?_
      rintro e w2 ⟨rfl, hO2, hx2⟩
      have HN := Lib.hid (Mch.go hb1 hl1 hFr hFn hO hO2 hx2)
      clear hb1 hl1 hFr hFn hO hO2 hx2
      go_wp2_with fail
      go_step3
      refine ⟨rfl, n1, hn, ?_⟩
      subst hrest
      exact ⟨_, qb, rb, ib, tb, base, _, cb, f, _, lows, fu, t0, t1, acts_of rfl, rfl, rfl, rfl, rfl, rfl, rfl, HN.out, k, hT, hfl, hrb⟩
    · replace i0 : W.cell? ⟨ib, 0, none⟩ = some (.int .i64 2) := by rw [i0, ho]; rfl
      replace i2 : W.cell? ⟨ib, 2, none⟩ = some (.int .i64 0) := by rw [i2, hz]; rfl
      go_wp2_with fail
      clear hw1 hwl
      obtain ⟨hb1, hl1, C, nm, pr, nl, sc, sk, gc, gl, lsl, hFr, hFn, hO⟩ := HM.out
      refine (one_load rfl hO hc hx).mono ?_
      rintro e w2 ⟨rfl, hO2, hx2⟩
      have HN := Lib.hid (Mch.go hb1 hl1 hFr hFn hO hO2 hx2)
      clear hb1 hl1 hFr hFn hO hO2 hx2
      go_wp2_with fail
      go_step3
      refine ⟨rfl, n1, hn, ?_⟩
      subst hrest
      exact ⟨_, qb, rb, ib, tb, base, _, cb, f, _, lows, fu, t0, t1, acts_of rfl, rfl, rfl, rfl, rfl, rfl, rfl, HN.out, k, hT, hfl, hrb⟩
    · replace i0 : W.cell? ⟨ib, 0, none⟩ = some (.int .i64 3) := by rw [i0, ho]; rfl
      replace i2 : W.cell? ⟨ib, 2, none⟩ = some (.int .i64 0) := by rw [i2, hz]; rfl
      subst hxs
      go_wp2_with fail
      clear hw1 hwl
      obtain ⟨hb1, hl1, C, nm, pr, nl, sc, sk, gc, gl, lsl, hFr, hFn, hO⟩ := HM.out
      rw [h2] at hO
      refine (one_store rfl hO hc).mono ?_
      rintro e w2 ⟨rfl, hO2, hx2⟩
      have HN := Lib.hid (Mch.go hb1 hl1 hFr hFn (by rw [h2]; exact hO) (by rw [h2]; exact hO2) hx2)
      clear hb1 hl1 hFr hFn hO hO2 hx2
      go_wp2_with fail
      go_step3
      refine ⟨rfl, n1, hn, ?_⟩
      subst hrest
      exact ⟨_, qb, rb, ib, tb, base, _, cb, f, _, lows, fu, t0, t1, acts_of rfl, rfl, rfl, rfl, rfl, rfl, rfl, HN.out, k, hT, hfl, hrb⟩
    · replace i0 : W.cell? ⟨ib, 0, none⟩ = some (.int .i64 5) := by rw [i0, ho]; rfl
      replace i2 : W.cell? ⟨ib, 2, none⟩ = some (.int .i64 0) := by rw [i2, hz]; rfl
      subst hxs
      go_wp2_with fail
      clear hw1 hwl
      obtain ⟨hb1, hl1, C, nm, pr, nl, sc, sk, gc, gl, lsl, hFr, hFn, hO⟩ := HM.out
      refine (one_bin h3 hu hv hO).mono ?_
      rintro e w2 ⟨rfl, hO2, hx2⟩
      have HN := Lib.hid (Mch.go hb1 hl1 hFr hFn hO hO2 hx2)
      clear hb1 hl1 hFr hFn hO hO2 hx2
      go_wp2_with fail
      go_step3
      refine ⟨rfl, n1, hn, ?_⟩
      subst hrest
      exact ⟨_, qb, rb, ib, tb, base, _, cb, f, _, lows, fu, t0, t1, acts_of rfl, rfl, rfl, rfl, rfl, rfl, rfl, HN.out, k, hT, hfl, hrb⟩
    · replace i0 : W.cell? ⟨ib, 0, none⟩ = some (.int .i64 5) := by rw [i0, ho]; rfl
      replace i2 : W.cell? ⟨ib, 2, none⟩ = some (.int .i64 0) := by rw [i2, hz]; rfl
      subst hxs
      replace i1 : W.cell? ⟨ib, 1, none⟩ = some (.int .i64 2) := by rw [i1, ha]; rfl
      go_wp2_with fail
      clear hw1 hwl
      obtain ⟨hb1, hl1, C, nm, pr, nl, sc, sk, gc, gl, lsl, hFr, hFn, hO⟩ := HM.out
      refine (one_sub hv hu hO).mono ?_
      rintro e w2 ⟨rfl, hO2, hx2⟩
      have HN := Lib.hid (Mch.go hb1 hl1 hFr hFn hO hO2 hx2)
      clear hb1 hl1 hFr hFn hO hO2 hx2
      go_wp2_with fail
      go_step3
      refine ⟨rfl, n1, hn, ?_⟩
      subst hrest
      exact ⟨_, qb, rb, ib, tb, base, _, cb, f, _, lows, fu, t0, t1, acts_of rfl, rfl, rfl, rfl, rfl, rfl, rfl, HN.out, k, hT, hfl, hrb⟩
    · replace i0 : W.cell? ⟨ib, 0, none⟩ = some (.int .i64 7) := by rw [i0, ho]; rfl
      go_wp2_with fail
      go_step3
      clear hw1 hwl
      refine ⟨rfl, n1, hn, ?_⟩
      subst hrest
      exact ⟨_, qb, rb, ib, tb, base, _, cb, f, _, lows, fu, t0, t1, acts_of rfl, rfl, rfl, rfl, rfl, rfl, rfl, HM.out.pc, k, hT, hfl, hrb⟩
    · replace i0 : W.cell? ⟨ib, 0, none⟩ = some (.int .i64 8) := by rw [i0, ho]; rfl
      subst hxs
      go_wp2_with fail
      clear hw1 hwl
      obtain ⟨hb1, hl1, C, nm, pr, nl, sc, sk, gc, gl, lsl, hFr, hFn, hO⟩ := HM.out
      refine (one_popN (ys := []) (zs := [c]) (n := 1) hO rfl (Nat.le_refl 1)).mono ?_
      rintro e w2 ⟨vv1, gv, rfl, hrow, hO2, hx2⟩
      have hM2 := Mch.go hb1 hl1 hFr hFn hO hO2 hx2
      have hI1 := VarW.keepS (VarW.setO HI.out hcn') hO.ty hx2 (by decide) (by decide) (by decide) (by decide)
      obtain ⟨ov, capv, cs, rfl, hh, _, _, _, hcell⟩ := hrow
      have v0 : w2.cell? ⟨gv, ov, none⟩ = some (.int .i64 1) := cell_of hh (hcell 0 _ rfl)
      have v1 : w2.cell? ⟨gv, ov + 1, none⟩ = some (.int .i64 c) := cell_of hh (hcell 1 _ rfl)
      have v2 : w2.cell? ⟨gv, ov + 2, none⟩ = some (.complex .f64 0 0) := cell_of hh (hcell 2 _ rfl)
      have v3 : w2.cell? ⟨gv, ov + 3, none⟩ = some (.string ⟨#[]⟩) := cell_of hh (hcell 3 _ rfl)
      have v4 : w2.cell? ⟨gv, ov + 4, none⟩ = some (.slice none 0 0) := cell_of hh (hcell 4 _ rfl)
      have H2 := Lib.hid (And.intro hM2 hI1)
      clear hb1 hl1 hFr hFn hO hO2 hx2 hM2 hI1 hh hcell c5 f5 i0 i1 i2
      go_wp2_with fail
      refine (truth_int _ (c : Int)).mono ?_
      rintro e w3 ⟨rfl, hb3⟩
      have hx3 : Fx (fun _ => False) w2 w3 := Fx.ofB hb3
      have hM3 := H2.out.1.fx0 hx3
      have hI3 := E3.VarW.keep H2.out.2 (hx3.block _ (E3.VarW.lt H2.out.2) (fun h => h))
      have i1 : w3.cell? ⟨ib, 1, none⟩ = some (.int .i64 ia) := E3.VarW.cell hI3 1 rfl
      have f5 : w3.frozen? ⟨cb, 5, none⟩ = false := hM3.frz 5
      obtain ⟨z5, c5⟩ := hM3.five
      have H3 := Lib.hid (And.intro hM3 hI3)
      clear hb3 hx3 hM3 hI3 v0 v1 v2 v3 v4 H2
      by_cases hc0 : c = 0
      · have hd : decide ((c : Int) ≠ 0) = false := decide_eq_false (by omega)
        rw [hd]
        go_wp2_with fail
        go_step3
        refine ⟨rfl, n1, hn, ?_⟩
        subst hrest
        rw [if_pos hc0] at k
        exact ⟨_, qb, rb, ib, tb, base, _, cb, f, _, lows, fu, t0, t1, acts_of rfl, rfl, rfl, rfl, rfl, rfl, rfl, H3.out.1.pc, k, hT, hfl, hrb⟩
      · have hd : decide ((c : Int) ≠ 0) = true := decide_eq_true (by omega)
        rw [hd]
        go_wp2_with fail
        go_step3
        refine ⟨rfl, n1, hn, ?_⟩
        subst hrest
        rw [if_neg hc0] at k
        exact ⟨_, qb, rb, ib, tb, base, _, cb, f, _, lows, fu, t0, t1, acts_of rfl, rfl, rfl, rfl, rfl, rfl, rfl, H3.out.1, k, hT, hfl, hrb⟩
    · replace i0 : W.cell? ⟨ib, 0, none⟩ = some (.int .i64 9) := by rw [i0, ho]; rfl
      replace i2 : W.cell? ⟨ib, 2, none⟩ = some (.int .i64 1) := by rw [i2, hz]; rfl
      subst hxs
      go_wp2_with fail
      clear hw1 hwl
      obtain ⟨hb1, hl1, C, nm, pr, nl, sc, sk, gc, gl, lsl, hFr, hFn, hO⟩ := HM.out
      refine (one_popN (ys := ys) (zs := [z]) (n := 1) hO rfl (Nat.le_refl 1)).mono ?_
      rintro e w2 ⟨vv1, gv, rfl, hrow, hO2, hx2⟩
      have hM2 := Mch.go hb1 hl1 hFr hFn hO hO2 hx2
      have hI1 := VarW.keepS (VarW.setO HI.out hcn') hO.ty hx2 (by decide) (by decide) (by decide) (by decide)
      have hgl := (List.getElem?_eq_some_iff.1 hg).1
      obtain ⟨scg, skg, gcg, hcg, hFg⟩ := (HH.out.1.below hM2.below).fns ia g1 hg
      have x0 := hcg 0 _ rfl
      have x1 := hcg 1 _ rfl
      have x2 := hcg 2 _ rfl
      have x3 := hcg 3 _ rfl
      have x4 := hcg 4 _ rfl
      simp only [Nat.add_zero, Nat.mul_comm 5 ia] at x0 x1 x2 x3 x4
      have q0 : w2.cell? ⟨qb, 0, none⟩ = some (.slice (some ⟨g, o, none⟩) fs.length cap) := E3.VarW.cell hM2.loc.q 0 rfl
      have i1 : w2.cell? ⟨ib, 1, none⟩ = some (.int .i64 ia) := E3.VarW.cell hI1 1 rfl
      have hia0 : (0 : Int) ≤ (ia : Int) := Int.natCast_nonneg _
      have hia1 : (ia : Int) < (fs.length : Int) := Int.ofNat_lt.2 hgl
      have hfo := hFg.ones
      rw [h1] at x2
      generalize hfl2 : fs.length = fl at q0 hia1
      have H2 := Lib.hid (And.intro hM2 (And.intro hrow (And.intro hFg (And.intro hfo hO2))))
      clear hb1 hl1 hFr hFn hO hO2 hx2 hM2 hI1 hFg hcg hfo c5 f5 i0 i2
      go_wp2_with fail
      refine (open_row (H2.out.2.2.2.1 _ (by simp)) rfl (H2.out.2.2.2.1 _ (by simp)) (H2.out.2.2.2.1 _ (by simp)) hrow (by simp [flat, nv_len]) (flat_ones nv_ones [z])).mono ?_
      rintro e w3 ⟨cb2, gl2, lsl2, rfl, oc, ol, ocb, ogl, obw⟩
      have hx3 : Fx (fun _ => False) w2 (w3.alloc (.cells #[.pointer (some ⟨cb2, 0, none⟩)] 123)) := (Fx.ofB obw).trans ((Fx.refl _ w3).alloc _)
      have HOWN : (w3.alloc (.cells #[.pointer (some ⟨cb2, 0, none⟩)] 123)).ownsRow w0.heap.size 123 1 (.slice (some ⟨cr, 0, none⟩) (m + 1) cc) (m + 1) (ptrs (cb :: lows.map (·.1)).reverse) := by
        have := owns_fx' H2.out.1.loc.v hx3 (fun _ _ h => h)
        rwa [hlen] at this
      have hmx : m ≤ 5000 := by
        rw [hrest] at hd
        simp at hd
        omega
      have hw0s : w0.heap.size ≤ w3.heap.size := by
        have := H2.out.1.below.size
        have := obw.size
        omega
      have HW := Lib.hid HOWN
      have H3 := Lib.hid (And.intro oc (And.intro ol (And.intro ocb (And.intro ogl (And.intro obw hx3)))))
      clear oc ol ocb ogl obw hx3 HOWN hrow x0 x1 x2 x3 x4 q0 i1
      obtain ⟨j0, hj, hj0, hj1, hj2⟩ := info_parts info123
      go_wp2_with (at_builtin; refine wpList_append_lies _ rfl _ _ 125 rfl w0.heap.size 123 j0 (.pointer none) 1 8 Tryz.underlying125 hj hj0 hj1 hj2 rfl (by decide) _ _ _ rfl HW.out ⟨w3.heap.size, 0, none⟩ 1 1 [.pointer (some ⟨cb2, 0, none⟩)] rfl rfl (cell_one_new _ _ _) (fun x hx => by simp at hx; subst hx; rfl) (by omega) (by unfold maxLen; omega) (by omega) (by simp; omega) _ rfl ?_; intro g5 cap5 w5 hown5 hgrow5 hat5 hlt5)
      go_step3
      refine ⟨rfl, n1, hn, ?_⟩
      obtain ⟨hM2, hrow, hFg, hfo, hO2⟩ := H2.out
      obtain ⟨oc, ol, ocb, ogl, obw, hx3⟩ := H3.out
      obtain ⟨hb2, hl2, C2, nm2, pr2, nl2, sc2, sk2, gc2, gla, lsla, hFr2, hFn2, hO2'⟩ := hM2
      have hLw := One.low hO2' hFn2 rfl
      have hol : RowW w3 lsl2 54 5 g1.locals (flat ov [some z]) gl2 := by
        rw [h1]
        exact ol
      have hnl : (.int .i64 (.ofNat 1) : Value) = .int .i64 (.ofNat g1.locals) := by rw [h1]
      rw [hnl] at oc
      obtain ⟨hF3, hO3⟩ := One.new (D := w2.heap.size) hFg hO2'.tank hO2'.ty hO2'.tbB hO2'.tbb hO2'.base (Nat.le_trans hO2'.BC hO2'.size) rfl oc hol (by rw [h1]; rfl) ocb ogl obw
      have hx3a : Fx (fun _ => False) w3 (w3.alloc (.cells #[.pointer (some ⟨cb2, 0, none⟩)] 123)) := (Fx.refl _ w3).alloc _
      have hxg : Fx (fun b => (Value.slice (some ⟨cr, 0, none⟩) (m + 1) cc).ownBlock = some b) (w3.alloc (.cells #[.pointer (some ⟨cb2, 0, none⟩)] 123)) w5 := Fx.ofGrown hgrow5
      have hx35 : Fx (fun b => b = cr) w3 w5 := (hx3a.mono (fun _ _ h => h.elim)).trans (hxg.mono fun b _ h => by injection h with h; exact h.symm)
      have hx25 : Fx (fun b => b = cr) w2 w5 := (Fx.ofB obw).trans hx35
      have hlv : ∃ cs, w2.heap[cr]? = some (.cells cs 123) := owns_ty hl2.v rfl
      have hcrB : w0.heap.size ≤ cr := (owns_lt hl2.v rfl).1
      obtain ⟨csv, hcsv⟩ := hlv
      have hcr2 : cr < w2.heap.size := (Array.getElem?_eq_some_iff.1 hcsv).1
      have hcsv3 : w3.heap[cr]? = some (.cells csv 123) := (obw.block cr hcr2).trans hcsv
      have hoth2 : Oth w2 cr := ⟨csv, _, hcsv, by decide, by decide, by decide, by decide⟩
      have hoth3 : Oth w3 cr := ⟨csv, _, hcsv3, by decide, by decide, by decide, by decide⟩
      have hw2 := Nat.le_trans hO2'.BC hO2'.size
      have hb25 : Below w0.heap.size w2 w5 := hx25.below hw2 fun b hb1 h => by omega
      have hb35 : Below w0.heap.size w3 w5 := hx35.below hw0s fun b hb1 h => by omega
      have hM5 : Mch w0 w0.heap.size qb rb ib g o cap fs.length main tb base (.slice (some ⟨g5, 0, none⟩) (m + 1 + 1) cap5) cb2 g1 ⟨0, [some z], [], false⟩ ((cb, f, ⟨pc + 1, ls, ys, true⟩) :: lows) fu (evsOf t0) w5 := by
        refine ⟨hb2.trans hb25, ⟨?_, ?_, ?_, ?_, hl2.bq, hl2.br, hl2.bi⟩, w2.heap.size, _, _, _, _, _, _, _, _, ⟨C2, hLw.keep hb25 ?_, hFr2.keep hb25 ?_⟩, hF3.below hb35, hO3.oth hx35 fun b hb1 => by rw [hb1]; exact hoth3⟩
        · exact E3.VarW.keep hl2.q (hx25.block _ (E3.VarW.lt hl2.q) (fun e => VarW.ne' hl2.q hcsv (by decide) e))
        · obtain ⟨vr, hr1, hr⟩ := hl2.r
          exact ⟨vr, hr1, E3.VarW.keep hr (hx25.block _ (E3.VarW.lt hr) (fun e => VarW.ne' hr hcsv (by decide) e))⟩
        · obtain ⟨vr, hr1, hr⟩ := hl2.i
          exact ⟨vr, hr1, E3.VarW.keep hr (hx25.block _ (E3.VarW.lt hr) (fun e => VarW.ne' hr hcsv (by decide) e))⟩
        · have e1 : ((cb2 :: ((cb, f, (⟨pc + 1, ls, ys, true⟩ : St)) :: lows).map (·.1)).reverse).length = m + 1 + 1 := by simp; omega
          rw [e1]
          have e2 : ptrs (cb2 :: ((cb, f, (⟨pc + 1, ls, ys, true⟩ : St)) :: lows).map (·.1)).reverse = ptrs (cb :: lows.map (·.1)).reverse ++ [.pointer (some ⟨cb2, 0, none⟩)] := by simp [ptrs]
          rw [e2]
          exact hown5
        · exact fun b h0 ho => hx25.block b h0 fun e => by rw [e] at ho; exact hoth2.own ho
        · exact fun b h0 ho => hx25.block b (by have := hO2'.size; omega) fun e => by rw [e] at ho; exact hoth2.own ho
      subst hrest
      exact ⟨_, qb, rb, ib, tb, base, _, cb2, g1, _, (cb, f, ⟨pc + 1, ls, ys, true⟩) :: lows, fu, t0, t1, acts_of rfl, rfl, rfl, rfl, rfl, rfl, rfl, hM5, k, hT, hfl, hrb⟩
    · replace i0 : W.cell? ⟨ib, 0, none⟩ = some (.int .i64 12) := by rw [i0, ho]; rfl
      replace i2 : W.cell? ⟨ib, 2, none⟩ = some (.int .i64 0) := by rw [i2, hz]; rfl
      subst hb hfu ht
      go_wp2_with fail
      clear hw1 hwl
      obtain ⟨hb1, hl1, C, nm, pr, nl, sc, sk, gc, gl, lsl, hFr, hFn, hO⟩ := HM.out
      refine (one_tick hO hx (by omega) (by omega) (by simp [evsOf]; omega)).mono ?_
      rintro e w2 ⟨rfl, hO2, hx2⟩
      have HN := Lib.hid (Mch.go hb1 hl1 hFr hFn hO hO2 hx2)
      clear hb1 hl1 hFr hFn hO hO2 hx2
      go_wp2_with fail
      go_step3
      refine ⟨rfl, n1, hn, ?_⟩
      have hN := HN.out
      rw [show ((fu1 + 1 : Nat) : Int) - 1 = (fu1 : Int) by omega, show evsOf t0 ++ [(ia : Int)] = evsOf (t0 ++ [ia]) by simp [evsOf]] at hN
      subst hrest
      exact ⟨_, qb, rb, ib, tb, base, _, cb, f, _, lows, fu1, t0 ++ [ia], t2, acts_of rfl, rfl, rfl, rfl, rfl, rfl, rfl, hN, k, by rw [← hT]; simp, by simp; omega, hrb⟩
    · replace i0 : W.cell? ⟨ib, 0, none⟩ = some (.int .i64 12) := by rw [i0, ho]; rfl
      replace i2 : W.cell? ⟨ib, 2, none⟩ = some (.int .i64 0) := by rw [i2, hz]; rfl
      subst hb hfu
      go_wp2_with fail
      clear hw1 hwl
      obtain ⟨hb1, hl1, C, nm, pr, nl, sc, sk, gc, gl, lsl, hFr, hFn, hO⟩ := HM.out
      refine (one_stop hO hx).mono ?_
      rintro e w2 ⟨rfl, hTE, hty2, hx2⟩
      have hBs := hO.tbB
      have hBb := hO.tbb
      have hss := Nat.le_trans hO.base hx2.size
      have hbw2 := hb1.trans (sx_below hx2 (Nat.le_trans hO.BC hO.size) hO.BC hO.tbB (by omega))
      have hl2 := hl1.sx hO.ty hx2
      have H1 := Lib.hid (And.intro (And.intro hbw2 hl2) (And.intro hTE (And.intro hBs (And.intro hBb (And.intro hss hty2)))))
      clear hb1 hl1 hFr hFn hO hTE hty2 hx2 hBs hBb hss hbw2 hl2 c5 f5 i0 i1 i2
      go_wp2_with fail
      refine (nil_calls _).mono ?_
      rintro e w2b ⟨rfl, hb2⟩
      have H2 : Hid ((Below w0.heap.size w0 w2b ∧ Loc w2b w0.heap.size qb rb ib g o cap fs.length main (.slice (some ⟨cr, 0, none⟩) (m + 1) cc) ((cb :: lows.map (·.1)).reverse)) ∧ TkE w2b tb base 0 (evsOf t0) 6 ∧ w0.heap.size ≤ tb ∧ tb < base ∧ base ≤ w2b.heap.size ∧ ∃ cs, w2b.heap[tb]? = some (.cells cs 194)) := by
        obtain ⟨⟨h1, h2⟩, h3, h4, h5, h6, cs, h7⟩ := H1.out
        have hx3 : Fx (fun _ => False) w2 w2b := Fx.ofB hb2
        exact Lib.hid ⟨⟨h1.trans (hb2.mono h1.size), h2.keep hx3 fun _ _ _ _ _ h => h⟩, h3.fx hx3 (fun h => h) (fun _ _ _ h => h), h4, h5, Nat.le_trans h6 hb2.size, cs, (hb2.block tb h3.lt).trans h7⟩
      clear H1
      go_wp2_with fail
      refine (endE_calls (k := 0) (z := 0) (fun w => copy_calls w) H2.out.2.1 H2.out.2.2.2.1 H2.out.2.2.2.2.1).mono ?_
      rintro e w3 ⟨a1, cap1, rfl, ho, hx⟩
      obtain ⟨vr, hvr, hR7⟩ := H2.out.1.2.r
      have hR8 : VarW w3 rb 57 vr := E3.VarW.keep hR7 (hx.block rb (E3.VarW.lt hR7) (fun h => by
        rcases h with h | h
        · obtain ⟨cs, hc, _⟩ := hR7
          exact absurd h (ty_ne H2.out.2.2.2.2.2 hc (by decide))
        · omega))
      obtain ⟨z0, z1, z2, z3, z4, z5, z6, rfl⟩ : ∃ z0 z1 z2 z3 z4 z5 z6, vr = [z0, z1, z2, z3, z4, z5, z6] := by
        match vr, hvr with
        | [a, b, c, d, e, f, g], _ => exact ⟨a, b, c, d, e, f, g, rfl⟩
      have r0 : w3.cell? ⟨rb, 0, none⟩ = some z0 := E3.VarW.cell hR8 0 rfl
      have r1 : w3.cell? ⟨rb, 1, none⟩ = some z1 := E3.VarW.cell hR8 1 rfl
      have r2 : w3.cell? ⟨rb, 2, none⟩ = some z2 := E3.VarW.cell hR8 2 rfl
      have r3 : w3.cell? ⟨rb, 3, none⟩ = some z3 := E3.VarW.cell hR8 3 rfl
      have r4 : w3.cell? ⟨rb, 4, none⟩ = some z4 := E3.VarW.cell hR8 4 rfl
      have r5 : w3.cell? ⟨rb, 5, none⟩ = some z5 := E3.VarW.cell hR8 5 rfl
      have r6 : w3.cell? ⟨rb, 6, none⟩ = some z6 := E3.VarW.cell hR8 6 rfl
      have hfr : ∀ j, w3.frozen? ⟨rb, j, none⟩ = false := fun j => by
        obtain ⟨cs, h1, _⟩ := hR8
        exact froz h1 j
      have g0 := hfr 0
      have g1 := hfr 1
      have g2 := hfr 2
      have g3 := hfr 3
      have g4 := hfr 4
      have g5 := hfr 5
      have g6 := hfr 6
      have HE := Lib.hid (And.intro ho hx)
      clear ho hx hR7 hR8 hfr hb2
      go_wp2_with fail
      simp only [Exit.jump]
      show bodyPost Tryz.prog Tryz.f20 _ Exit.ret _ _
      refine bodyPost_ret (v := .tuple #[.agg #[.slice a1 (evsOf t0).length (evsOf t0).length, .int .i64 0, .int .i64 0, .complex .f64 0 0, .string ⟨#[]⟩, .slice none 0 0, .int .i64 6], .int .i64 0]) (by simp [results, Tryz.results20, go_sem, r0, r1, r2, r3, r4, r5, r6]) rfl ?_
      obtain ⟨ho, hx⟩ := HE.out
      have hTT : t = t0 := by rw [← hT, ht, List.append_nil]
      have hel : (evsOf t0).length = t0.length := by simp [evsOf]
      have hend : ∀ y0 y1 y2 y3 y4 y5 y6, Fx (fun g => g = rb) w3 (((((((w3.setCell ⟨rb, 0, none⟩ y0).setCell ⟨rb, 1, none⟩ y1).setCell ⟨rb, 2, none⟩ y2).setCell ⟨rb, 3, none⟩ y3).setCell ⟨rb, 4, none⟩ y4).setCell ⟨rb, 5, none⟩ y5).setCell ⟨rb, 6, none⟩ y6) := fun y0 y1 y2 y3 y4 y5 y6 =>
        Fx.setCell (Fx.setCell (Fx.setCell (Fx.setCell (Fx.setCell (Fx.setCell (Fx.setCell (S := fun g => g = rb) (Fx.refl _ _) rfl _) rfl _) rfl _) rfl _) rfl _) rfl _) rfl _
      have hbr := H2.out.1.2.br
      have htB := And.intro H2.out.2.2.1 H2.out.2.2.2.1
      have hs2 := H2.out.2.2.2.2.1
      have hs3 := hx.size
      refine ⟨a1, cap1, base, by rw [hr, hTT, hel]; rfl, ?_, by omega, ?_⟩
      · rw [hel] at ho
        rw [hTT]
        exact owns_fx ho (hend _ _ _ _ _ _ _) (fun g hg _ e => by omega)
      · exact (H2.out.1.1.trans (hx.below (by omega) fun g hg h => by omega)).trans ((hend _ _ _ _ _ _ _).below (by omega) fun g hg h => by omega)

end Go.Proofs.YtplnnlnkcfappaaGreat.Sv
