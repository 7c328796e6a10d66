/- The third evaluator: a text's stack code, told exactly; the program's own check of it finds nothing. -/
import Derived.Test.YtplnnlnkcfappaaGreatQx
namespace Go.Proofs.YtplnnlnkcfappaaGreat.E3
open Go Go.RowKit
set_option linter.unusedSimpArgs false
set_option linter.unusedVariables false

variable {ρ : Syms} {P : Program} {α : Type}

/-- a function of stack code: its name, parameters, locals, constants (each its kind, its number), code -/
structure FS where
  name : AV
  params : Nat
  locals : Nat
  consts : List (Nat × AV)
  code : List (Nat × Nat × Nat)
/-- the same, as values -/
structure FV where
  name : Value
  params : Nat
  locals : Nat
  consts : List (Nat × Int)
  code : List (Nat × Nat × Nat)

noncomputable section
def flatL {β : Type} (f : α → List β) (l : List α) : List β := List.rec (motive := fun _ => List β) [] (fun x _ ih => f x ++ ih) l
def cntL (l : List α) : Nat := List.rec (motive := fun _ => Nat) 0 (fun _ _ ih => Nat.succ ih) l
def constL (c : Nat × AV) : List AV := [.nat c.1, c.2, .raw (.complex .f64 0 0), .str 0 0, .raw (.slice none 0 0)]
def insL (i : Nat × Nat × Nat) : List AV := [.nat i.1, .nat i.2.1, .nat i.2.2]
/-- a row's cells are these -/
def chkRow (m : Mem) (x : AV) (n sz : Nat) (l : List AV) (k : R) : R :=
  slR x fun b off len z => gdR (Nat.beq len n) (gdR (Nat.ble 1 n) (gdR (Nat.beq z sz) (m.read b off (Nat.mul n sz) fun l' => gdR (eqAVs l' l) k)))
/-- a row from its beginning on, its cells these -/
def chkT (m : Mem) (x : AV) (e n sz : Nat) (l : List AV) (k : R) : R :=
  slR x fun b off len z => gdR (Nat.beq len n) (gdR (Nat.beq off 0) (gdR (Nat.beq z sz) (gdR (Nat.ble 1 sz) (blkR (m.at b) fun e' z' q' _ => gdR (Nat.beq e' e) (gdR (Nat.beq z' sz) (gdR (Nat.ble (Nat.mul n sz) q') (m.read b 0 (Nat.mul n sz) fun l' => gdR (eqAVs l' l) k)))))))
def chkFn (m : Mem) (ty : TypeId) (f : FS) (l : List AV) (k : R) : R :=
  match l with
  | [a, b, c, d, e] => gdR (eqAVs [a, b, c] [f.name, .nat f.params, .nat f.locals]) (chkT m d ty (cntL f.consts) 5 (flatL constL f.consts) (chkRow m e (cntL f.code) 3 (flatL insL f.code) k))
  | _ => none
def chkFns (m : Mem) (ty : TypeId) (b off : Nat) (k : R) (fs : List FS) : Nat → R :=
  List.rec (motive := fun _ => Nat → R) (fun _ => k) (fun f _ ih i => m.read b (Nat.add off (Nat.mul 5 i)) 5 fun l => chkFn m ty f l (ih (Nat.succ i))) fs
def chkProg (m : Mem) (ty : TypeId) (fs : List FS) (main : Nat) (v : AV) (k : R) : R :=
  aggR v fun l => match l with
  | [x, y] => gdR (eqAV y (.nat main)) (slR x fun b off len z => gdR (Nat.beq len (cntL fs)) (gdR (Nat.ble 1 len) (chkFns m ty b off k fs 0)))
  | _ => none
/-- a text is turned into this code, and the program's own check finds nothing wrong with it -/
def stageR (P : Program) (oc : Orc) (sk : Nat → Modes) (kn : Known) (f1 f2 : FuncId) (ty : TypeId) (s : AV) (fs : List FS) (main : Nat) : R :=
  callR (rec P oc sk kn 200 f1 [s] mem0) fun v m => tupR v fun l => match l with
  | [p, ok] => isB true ok (chkProg m ty fs main p (lockM m fun m' => callR (rec P oc sk kn 200 f2 [p] m') fun e m2 => gdR (eqAV e (.nat 0)) (some (.call (.bool true) m2)))) none
  | _ => none
end

/-! ### What it says of the world -/
def constV (c : Nat × Int) : List Value := [.int .i64 (.ofNat c.1), .int .i64 c.2, .complex .f64 0 0, .string ⟨#[]⟩, .slice none 0 0]
def insV (i : Nat × Nat × Nat) : List Value := [.int .i64 (.ofNat i.1), .int .i64 (.ofNat i.2.1), .int .i64 (.ofNat i.2.2)]
def RowAt (w : World) (v : Value) (n : Nat) (vs : List Value) : Prop := ∃ g o cap, v = .slice (some ⟨g, o, none⟩) n cap ∧ ∀ j u, vs[j]? = some u → w.cell? ⟨g, o + j, none⟩ = some u
/-- a slice with its row: the first cells are these -/
def RowW (w : World) (v : Value) (e sz n : Nat) (vs : List Value) (g : Nat) : Prop :=
  ∃ o cap cs, v = .slice (some ⟨g, o, none⟩) n cap ∧ w.heap[g]? = some (.cells cs e) ∧ o + cap * sz ≤ cs.size ∧ n ≤ cap ∧ cap ≤ maxLen ∧ ∀ (j : Nat) (u : Value), vs[j]? = some u → cs[o + j]? = some u

structure FnAt (w : World) (ty : TypeId) (f : FV) (g o : Nat) (sc sk : Value) : Prop where
  c0 : w.cell? ⟨g, o, none⟩ = some f.name
  c1 : w.cell? ⟨g, o + 1, none⟩ = some (.int .i64 (.ofNat f.params))
  c2 : w.cell? ⟨g, o + 2, none⟩ = some (.int .i64 (.ofNat f.locals))
  c3 : w.cell? ⟨g, o + 3, none⟩ = some sc
  c4 : w.cell? ⟨g, o + 4, none⟩ = some sk
  consts : ∃ gc, RowW w sc ty 5 f.consts.length (flatL constV f.consts) gc
  code : RowAt w sk f.code.length (flatL insV f.code)
def ProgAt (w : World) (ty : TypeId) (p : Value) (fs : List FV) (main : Nat) : Prop :=
  ∃ g o cap, p = .agg #[.slice (some ⟨g, o, none⟩) fs.length cap, .int .i64 (.ofNat main)] ∧ ∀ i f, fs[i]? = some f → ∃ sc sk, FnAt w ty f g (o + 5 * i) sc sk

inductive All2 {α β : Type} (R : α → β → Prop) : List α → List β → Prop where
  | nil : All2 R [] []
  | cons {a : α} {b : β} {l : List α} {r : List β} (h : R a b) (t : All2 R l r) : All2 R (a :: l) (b :: r)
structure Same1 (ρ : Syms) (f : FS) (v : FV) : Prop where
  name : ∀ F, den ρ F f.name = some v.name
  params : f.params = v.params
  locals : f.locals = v.locals
  consts : All2 (fun (c : Nat × AV) (d : Nat × Int) => c.1 = d.1 ∧ ∀ F, den ρ F c.2 = some (.int .i64 d.2)) f.consts v.consts
  code : f.code = v.code

theorem cntL_eq (l : List α) : cntL l = l.length := by
  induction l with
  | nil => rfl
  | cons x l ih => show Nat.succ (cntL l) = _; rw [ih]; rfl
theorem forall2_len {β : Type} {R : α → β → Prop} {l : List α} {r : List β} (h : All2 R l r) : l.length = r.length := by
  induction h with
  | nil => rfl
  | cons _ _ ih => simp [ih]

theorem dens_consts {F : Env} {l : List (Nat × AV)} {r : List (Nat × Int)} (h : All2 (fun (c : Nat × AV) (d : Nat × Int) => c.1 = d.1 ∧ ∀ F, den ρ F c.2 = some (.int .i64 d.2)) l r) : dens ρ F (flatL constL l) = some (flatL constV r) := by
  induction h with
  | nil => exact dens_nil F
  | cons h _ ih =>
    refine dens_append ?_ ih
    obtain ⟨h1, h2⟩ := h
    refine dens_cons_mk (by simp [den, h1]) (dens_cons_mk (h2 F) (dens_cons_mk (by simp [den]) (dens_cons_mk ?_ (dens_cons_mk (by simp [den]) (dens_nil F)))))
    simp [den, strOf, bytesOf]
theorem dens_code {F : Env} (l : List (Nat × Nat × Nat)) : dens ρ F (flatL insL l) = some (flatL insV l) := by
  induction l with
  | nil => exact dens_nil F
  | cons x l ih => exact dens_append (dens_cons_mk (by simp [den]) (dens_cons_mk (by simp [den]) (dens_cons_mk (by simp [den]) (dens_nil F)))) ih

theorem chkRow_some {m : Mem} {x : AV} {n sz : Nat} {l : List AV} {k : R} {y : Out} (h : chkRow m x n sz l k = some y) : k = some y ∧ ∀ (base : Nat) (F : Env) (w : World) (vs : List Value) (v : Value), Inv ρ base F m w → dens ρ F l = some vs → den ρ F x = some v → RowAt w v n vs := by
  obtain ⟨b, off, len, z, rfl, h⟩ := slR_some h
  obtain ⟨h1, h⟩ := gdR_some h
  obtain ⟨h2, h⟩ := gdR_some h
  obtain ⟨h3, h⟩ := gdR_some h
  obtain rfl : len = n := Nat.eq_of_beq_eq_true h1
  have h2' : 1 ≤ len := Nat.le_of_ble_eq_true h2
  obtain ⟨l', h, hl, hread⟩ := read_some (ρ := ρ) h
  obtain ⟨h4, h5⟩ := gdR_some h
  clear h
  obtain rfl := eqAVs_eq h4
  refine ⟨h5, fun base F w vs v hI hd hv => ?_⟩
  obtain ⟨g, c, vs', hF, hvs, _, hcell⟩ := hread base F w hI
  rw [hd] at hvs
  obtain rfl := Option.some.inj hvs
  obtain ⟨g', c', hF', rfl⟩ := den_sl hv
  rw [hF] at hF'
  obtain ⟨rfl, rfl⟩ := Prod.mk.inj (Option.some.inj hF')
  rw [slOff_pos (by omega)]
  refine ⟨g, c.2 + off, _, rfl, fun j u hj => ?_⟩
  have := hcell j u hj
  rwa [add_eq] at this

theorem chkT_some {m : Mem} {x : AV} {e n sz : Nat} {l : List AV} {k : R} {y : Out} (h : chkT m x e n sz l k = some y) : k = some y ∧ ∃ b, x = .sl b 0 n sz ∧ ∀ (base : Nat) (F : Env) (w : World) (vs : List Value) (v : Value), Inv ρ base F m w → dens ρ F l = some vs → den ρ F x = some v →
    ∃ g c, F b = some (g, c) ∧ RowW w v e sz n vs g := by
  obtain ⟨b, off, len, z, rfl, k1⟩ := slR_some h
  clear h
  obtain ⟨h1, k2⟩ := gdR_some k1
  obtain ⟨h2, k3⟩ := gdR_some k2
  obtain ⟨h3, k4⟩ := gdR_some k3
  obtain ⟨h4, k5⟩ := gdR_some k4
  clear k1 k2 k3 k4
  obtain ⟨e', z', q', cc, hk, hkz, k6⟩ := blkR_some k5
  clear k5
  obtain ⟨h5, k7⟩ := gdR_some k6
  obtain ⟨h6, k8⟩ := gdR_some k7
  obtain ⟨hle, k9⟩ := gdR_some k8
  clear k6 k7 k8
  obtain ⟨l', h, hl, hread⟩ := read_some (ρ := ρ) k9
  clear k9
  obtain rfl : len = n := Nat.eq_of_beq_eq_true h1
  obtain rfl : off = 0 := Nat.eq_of_beq_eq_true h2
  obtain rfl : z = sz := Nat.eq_of_beq_eq_true h3
  have h4' : 1 ≤ z := Nat.le_of_ble_eq_true h4
  obtain rfl : e' = e := Nat.eq_of_beq_eq_true h5
  obtain rfl : z' = z := Nat.eq_of_beq_eq_true h6
  obtain ⟨h7, h8⟩ := gdR_some h
  clear h
  obtain rfl := eqAVs_eq h7
  refine ⟨h8, b, rfl, fun base F w vs v hI hd hv => ?_⟩
  obtain ⟨g, c, vs', hF, hvs, _, hcell⟩ := hread base F w hI
  rw [hd] at hvs
  obtain rfl := Option.some.inj hvs
  obtain ⟨g2, c2, hF2, _, _, cs, hh, hcs, hnc, hmod, hmax, _⟩ := hI.row b _ hk hkz
  rw [hF] at hF2
  obtain ⟨rfl, rfl⟩ := Prod.mk.inj (Option.some.inj hF2)
  obtain ⟨g', c', hF', rfl⟩ := den_sl hv
  rw [hF] at hF'
  obtain ⟨rfl, rfl⟩ := Prod.mk.inj (Option.some.inj hF')
  have hmod' : c.1 % z' = 0 := hmod.2 (show z' ≠ 0 by omega)
  have hdiv : c.1 / z' * z' = c.1 := Nat.div_mul_cancel (Nat.dvd_of_mod_eq_zero hmod')
  have hle' : len * z' ≤ q' := Nat.le_of_ble_eq_true hle
  have hnc' : q' ≤ c.1 := hnc
  refine ⟨g, c, hF, c.2, c.1 / z', cs, by rw [slOff_zero, Nat.sub_zero, Nat.add_zero], hh, by rw [hdiv]; exact hcs, (Nat.le_div_iff_mul_le h4').2 (by omega), hmax, fun j u hj => ?_⟩
  have := hcell j u hj
  rw [add_eq, Nat.add_zero] at this
  simp only [World.cell?, hh] at this
  simpa using this

theorem chkFn_some {m : Mem} {ty : TypeId} {f : FS} {l : List AV} {k : R} {y : Out} (h : chkFn m ty f l k = some y) : k = some y ∧ ∀ (base : Nat) (F : Env) (w : World) (v : FV) (vs : List Value), Inv ρ base F m w → Same1 ρ f v → dens ρ F l = some vs →
    ∃ sc sk, vs = [v.name, .int .i64 (.ofNat v.params), .int .i64 (.ofNat v.locals), sc, sk] ∧ (∃ gc, RowW w sc ty 5 v.consts.length (flatL constV v.consts) gc) ∧ RowAt w sk v.code.length (flatL insV v.code) := by
  unfold chkFn at h
  split at h
  · rename_i a b c d e
    obtain ⟨h1, h2⟩ := gdR_some h
    clear h
    obtain ⟨h3, bc, hbc, hc⟩ := chkT_some (ρ := ρ) h2
    clear h2
    obtain ⟨h, hk⟩ := chkRow_some (ρ := ρ) h3
    clear h3
    have h1' := eqAVs_eq h1
    simp only [List.cons.injEq, and_true] at h1'
    obtain ⟨rfl, rfl, rfl⟩ := h1'
    refine ⟨h, fun base F w v vs hI hs hd => ?_⟩
    obtain ⟨x0, r0, e0, hd0, rfl⟩ := dens_cons hd
    obtain ⟨x1, r1, e1, hd1, rfl⟩ := dens_cons hd0
    obtain ⟨x2, r2, e2, hd2, rfl⟩ := dens_cons hd1
    obtain ⟨x3, r3, e3, hd3, rfl⟩ := dens_cons hd2
    obtain ⟨x4, r4, e4, hd4, rfl⟩ := dens_cons hd3
    rw [dens_nil] at hd4
    obtain rfl := Option.some.inj hd4
    rw [hs.name F] at e0
    obtain rfl := Option.some.inj e0
    simp only [den, Option.some.injEq] at e1 e2
    subst e1 e2
    obtain ⟨gc, cc, _, hc'⟩ := hc base F w _ _ hI (dens_consts hs.consts) e3
    have hk' := hk base F w _ _ hI (dens_code f.code) e4
    rw [cntL_eq, forall2_len hs.consts] at hc'
    rw [cntL_eq, hs.code] at hk'
    exact ⟨x3, x4, by rw [hs.params, hs.locals], ⟨gc, hc'⟩, hk'⟩
  · exact no h

theorem chkFns_some {m : Mem} {ty : TypeId} {b off : Nat} {k : R} {y : Out} : ∀ (fs : List FS) (i : Nat), chkFns m ty b off k fs i = some y → k = some y ∧ ∀ (base : Nat) (F : Env) (w : World) (vs : List FV), Inv ρ base F m w → All2 (Same1 ρ) fs vs →
    ∀ j f, vs[j]? = some f → ∃ g c sc sk, F b = some (g, c) ∧ FnAt w ty f g (c.2 + off + 5 * (i + j)) sc sk
  | [], i, h => ⟨h, fun base F w vs hI hs j f hj => by cases hs; simp at hj⟩
  | x :: fs, i, h => by
    obtain ⟨l, h, hl, hread⟩ := read_some (ρ := ρ) (show m.read b (Nat.add off (Nat.mul 5 i)) 5 (fun l => chkFn m ty x l (chkFns m ty b off k fs (Nat.succ i))) = some y from h)
    obtain ⟨h, hx⟩ := chkFn_some (ρ := ρ) h
    obtain ⟨h, hr⟩ := chkFns_some fs (i + 1) h
    refine ⟨h, fun base F w vs hI hs j f hj => ?_⟩
    cases hs with
    | cons h1 h2 =>
      rename_i v vs
      cases j with
      | zero =>
        simp only [List.getElem?_cons_zero, Option.some.injEq] at hj
        subst hj
        obtain ⟨g, c, us, hF, hus, _, hcell⟩ := hread base F w hI
        obtain ⟨sc, sk, rfl, hsc, hsk⟩ := hx base F w v us hI h1 hus
        have hq : ∀ j u, [v.name, .int .i64 (.ofNat v.params), .int .i64 (.ofNat v.locals), sc, sk][j]? = some u → w.cell? ⟨g, c.2 + off + 5 * i + j, none⟩ = some u := fun j u hu => by
          have := hcell j u hu
          rw [add_eq] at this
          rw [← this]
          congr 2
          show _ = c.2 + (off + 5 * i) + j
          omega
        exact ⟨g, c, sc, sk, hF, by simpa using hq 0 _ rfl, by simpa using hq 1 _ rfl, by simpa using hq 2 _ rfl, by simpa using hq 3 _ rfl, by simpa using hq 4 _ rfl, hsc, hsk⟩
      | succ j =>
        simp only [List.getElem?_cons_succ] at hj
        obtain ⟨g, c, sc, sk, h3, h4⟩ := hr base F w vs hI h2 j f hj
        refine ⟨g, c, sc, sk, h3, ?_⟩
        rw [show i + (j + 1) = i + 1 + j by omega]
        exact h4

theorem chkProg_some {m : Mem} {ty : TypeId} {fs : List FS} {main : Nat} {v : AV} {k : R} {y : Out} (h : chkProg m ty fs main v k = some y) : (∃ l, v = .agg l) ∧ k = some y ∧ ∀ (base : Nat) (F : Env) (w : World) (vs : List FV) (p : Value), Inv ρ base F m w → All2 (Same1 ρ) fs vs → den ρ F v = some p → ProgAt w ty p vs main := by
  obtain ⟨l, rfl, h0⟩ := aggR_some h
  clear h
  split at h0
  · rename_i x y'
    obtain ⟨h1, h4⟩ := gdR_some h0
    clear h0
    have h1' := eqAV_eq h1
    subst h1'
    obtain ⟨b, off, len, z, rfl, h⟩ := slR_some h4
    clear h4
    obtain ⟨h2, h⟩ := gdR_some h
    obtain ⟨h3, h⟩ := gdR_some h
    have h2' : len = cntL fs := Nat.eq_of_beq_eq_true h2
    have h3' : 1 ≤ len := Nat.le_of_ble_eq_true h3
    obtain ⟨h, hr⟩ := chkFns_some (ρ := ρ) fs 0 h
    refine ⟨⟨_, rfl⟩, h, fun base F w vs p hI hs hp => ?_⟩
    obtain ⟨us, hus, rfl⟩ := den_agg hp
    obtain ⟨x0, r0, e0, hu0, rfl⟩ := dens_cons hus
    obtain ⟨x1, r1, e1, hu1, rfl⟩ := dens_cons hu0
    rw [dens_nil] at hu1
    obtain rfl := Option.some.inj hu1
    simp only [den, Option.some.injEq] at e1
    subst e1
    obtain ⟨g, c, hF, rfl⟩ := den_sl e0
    rw [cntL_eq, forall2_len hs] at h2'
    refine ⟨g, c.2 + off, _, by rw [slOff_pos (by omega), h2'], fun i f hi => ?_⟩
    obtain ⟨g', c', sc, sk, hF', h4⟩ := hr base F w vs hI hs i f hi
    rw [hF] at hF'
    obtain ⟨rfl, rfl⟩ := Prod.mk.inj (Option.some.inj hF')
    rw [Nat.zero_add] at h4
    exact ⟨sc, sk, h4⟩
  · exact no h0

theorem RowAt.below {w w' : World} {v : Value} {n : Nat} {vs : List Value} (h : RowAt w v n vs) (hb : Below w.heap.size w w') : RowAt w' v n vs := by
  obtain ⟨g, o, cap, rfl, h⟩ := h
  exact ⟨g, o, cap, rfl, fun j u hj => by
    have := h j u hj
    exact (hb.cell (World.block_lt_of_cell? w _ this)).trans this⟩

/-- THE STAGE -/
theorem stage_sound {oc : Orc} {kn : Known} (hmix : P.follows .mixedOrders = true) (hpl : Plainly P) (hoc : OrcOk ρ P oc) {sk : Nat → Modes} (hlex : LexOk P sk) (hkn : KnownOk ρ P kn) {f1 f2 : FuncId}
    {ty : TypeId} (hf1 : ∃ fn, P.funcs[f1]? = some fn ∧ fn.body.isSome = true) (hf2 : ∃ fn, P.funcs[f2]? = some fn ∧ fn.body.isSome = true) {s : AV} {sv : Value} (hs : ∀ F, den ρ F s = some sv) {fs : List FS} {vs : List FV} {main : Nat} (hsame : All2 (Same1 ρ) fs vs)
    (h : isTrue (stageR P oc sk kn f1 f2 ty s fs main) = true) (w : World) :
    Calls P f1 #[sv] w fun e w1 => ∃ p, e = .returned (.tuple #[p, .bool true]) ∧ Below w.heap.size w w1 ∧ ProgAt w1 ty p vs main ∧ ∀ w2, Below w1.heap.size w1 w2 → Calls P f2 #[p] w2 fun e w3 => e = .returned (.int .i64 0) ∧ Below w2.heap.size w2 w3 := by
  obtain ⟨mf, h⟩ := isTrue_some h
  obtain ⟨v, m, h1, h5⟩ := callR_some h
  clear h
  obtain ⟨l, rfl, h⟩ := tupR_some h5
  clear h5
  split at h
  · rename_i p ok
    rcases isB_some h with ⟨rfl, h⟩ | ⟨h, _⟩
    · obtain ⟨⟨lp, rfl⟩, h, hprog⟩ := chkProg_some (ρ := ρ) h
      cases m with | mk H nx wr =>
      obtain ⟨e, m2, h2, h⟩ := callR_some (show callR (rec P oc sk kn 200 f2 [.agg lp] ⟨H, nx, nx⟩) (fun e m2 => gdR (eqAV e (.nat 0)) (some (.call (.bool true) m2))) = some _ from h)
      obtain ⟨h3, _⟩ := gdR_some h
      obtain rfl := eqAV_eq h3
      rcases rec_ok hmix hpl hoc hlex hkn 200 f1 _ mem0 _ _ h1 w.heap.size (fun _ => none) w [sv] (empty_inv w) (dens_cons_mk (hs _) (dens_nil _)) with ⟨_, hc⟩ | ⟨u, hr, _⟩
      case inr =>
        rw [callFunc_run hpl hf1] at hr
        cases hr
      refine hc.mono fun e w1 hh => ?_
      obtain ⟨v, rfl, F1, _, hv, hI, hfa⟩ := hh
      obtain ⟨us, hus, rfl⟩ := den_tup hv
      obtain ⟨x0, r0, e0, hu0, rfl⟩ := dens_cons hus
      obtain ⟨x1, r1, e1, hu1, rfl⟩ := dens_cons hu0
      rw [dens_nil] at hu1
      obtain rfl := Option.some.inj hu1
      simp only [den, Option.some.injEq] at e1
      subst e1
      refine ⟨x0, rfl, hfa.below, hprog _ F1 w1 vs x0 hI hsame (by simpa [den] using e0), fun w2 hb => ?_⟩
      rcases rec_ok hmix hpl hoc hlex hkn 200 f2 _ _ _ _ h2 w2.heap.size F1 w2 [x0] (hI.below hb).inner (dens_cons_mk e0 (dens_nil _)) with ⟨_, hc⟩ | ⟨u, hr, _⟩
      case inr =>
        rw [callFunc_run hpl hf2] at hr
        cases hr
      refine hc.mono fun e w3 hh => ?_
      obtain ⟨v, rfl, F2, _, hv, _, hfa2⟩ := hh
      simp only [den, Option.some.injEq] at hv
      subst hv
      exact ⟨rfl, hfa2.below⟩
    · cases h
  · exact no h

end Go.Proofs.YtplnnlnkcfappaaGreat.E3
