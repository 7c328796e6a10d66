/- The evaluator tells the truth, part 1: the small words; the invariant; reading, writing, making blocks. -/
import Derived.Test.YteaaahcgkodcdaaVb
namespace Go.Proofs.Yteaaahcgkodcdaa.Ev
open Go Go.RowKit
set_option linter.unusedSimpArgs false
set_option linter.unusedVariables false

variable {α β : Type}

/-! ### Small words -/
theorem ob_some {o : Option α} {k : α → Option β} {y : β} (h : ob o k = some y) : ∃ a, o = some a ∧ k a = some y := by
  cases o with
  | none => cases h
  | some a => exact ⟨a, rfl, h⟩
theorem gd_some {b : Bool} {k : Option β} {y : β} (h : gd b k = some y) : b = true ∧ k = some y := by
  cases b with
  | false => cases h
  | true => exact ⟨rfl, h⟩
theorem te_eq (b : Bool) (x y : β) : te b x y = if b then x else y := by cases b <;> rfl
theorem asRaw_some {v : AV} {k : Value → Option β} {y : β} (h : asRaw v k = some y) : ∃ x, v = .raw x ∧ k x = some y := by
  cases v <;> simp only [asRaw] at h
  case raw x => exact ⟨x, rfl, h⟩
  all_goals cases h
theorem asPtr_some {v : AV} {k : Nat → Nat → Option β} {y : β} (h : asPtr v k = some y) : ∃ b off, v = .ptr b off ∧ k b off = some y := by
  cases v <;> simp only [asPtr] at h
  case ptr b off => exact ⟨b, off, rfl, h⟩
  all_goals cases h
theorem asSl_some {v : AV} {k : Nat → Nat → Nat → Nat → Option β} {y : β} (h : asSl v k = some y) : ∃ b off len sz, v = .sl b off len sz ∧ k b off len sz = some y := by
  cases v <;> simp only [asSl] at h
  case sl b off len sz => exact ⟨b, off, len, sz, rfl, h⟩
  all_goals cases h
theorem asAgg_some {v : AV} {k : List AV → Option β} {y : β} (h : asAgg v k = some y) : ∃ l, v = .agg l ∧ k l = some y := by
  cases v <;> simp only [asAgg] at h
  case agg l => exact ⟨l, rfl, h⟩
  all_goals cases h
theorem asTup_some {v : AV} {k : List AV → Option β} {y : β} (h : asTup v k = some y) : ∃ l, v = .tup l ∧ k l = some y := by
  cases v <;> simp only [asTup] at h
  case tup l => exact ⟨l, rfl, h⟩
  all_goals cases h
theorem asFn_some {v : AV} {k : FuncId → List AV → Option β} {y : β} (h : asFn v k = some y) : ∃ f l, v = .fn f l ∧ k f l = some y := by
  cases v <;> simp only [asFn] at h
  case fn f l => exact ⟨f, l, rfl, h⟩
  all_goals cases h
theorem asNat_some {v : AV} {k : Nat → Option β} {y : β} (h : asNat v k = some y) : ∃ q n, v = .raw (.int q (.ofNat n)) ∧ k n = some y := by
  cases v <;> simp only [asNat] at h
  case raw x =>
    cases x <;> simp only [asNatV] at h
    case int q n =>
      cases n <;> simp only [asNatI] at h
      case ofNat n => exact ⟨q, n, rfl, h⟩
      all_goals cases h
    all_goals cases h
  all_goals cases h
theorem strictN_eq (n : Nat) (k : Nat → β) : strictN n k = k n := by cases n <;> rfl
theorem strictI_eq (n : Int) (k : Int → β) : strictI n k = k n := by
  cases n with
  | ofNat m => exact strictN_eq m (fun n => k (.ofNat n))
  | negSucc m => exact strictN_eq m (fun n => k (.negSucc n))
theorem boolAV_eq (b : Bool) : boolAV b = some (.raw (.bool b)) := by cases b <;> rfl
theorem strictV_eq (v : Value) : strictV v = some (.raw v) := by
  cases v <;> simp only [strictV]
  case int q n => rw [strictI_eq]
  case bool b => rw [boolAV_eq]

theorem purely_run {P : Program} : ∀ (s : Sem α) (a : α) (w : World), purely P s = some a → s.run P w = .ok a w
  | .pure a, _, w, h => by simp only [purely, Option.some.injEq] at h; subst h; rfl
  | .program k, a, w, h => by simp only [purely] at h; exact purely_run (k P) a w h
  | .mark _ k, a, w, h => by simp only [purely] at h; exact purely_run k a w h
  | .load .., _, _, h => by simp [purely] at h
  | .store .., _, _, h => by simp [purely] at h
  | .new .., _, _, h => by simp [purely] at h
  | .shape .., _, _, h => by simp [purely] at h
  | .freeze .., _, _, h => by simp [purely] at h
  | .frozen .., _, _, h => by simp [purely] at h
  | .getObj .., _, _, h => by simp [purely] at h
  | .setObj .., _, _, h => by simp [purely] at h
  | .choose .., _, _, h => by simp [purely] at h
  | .sys .., _, _, h => by simp [purely] at h
  | .halt .., _, _, h => by simp [purely] at h

theorem evPlain_some {P : Program} {s : Sem Value} {x : AV} (h : evPlain P s = some x) : ∃ v, x = .raw v ∧ ∀ w, s.run P w = .ok v w := by
  obtain ⟨v, hv, h2⟩ := ob_some h
  rw [strictV_eq] at h2
  exact ⟨v, (Option.some.inj h2).symm, fun w => purely_run _ _ w hv⟩

/-! ### What stands in a list of values -/
theorem dens_nil (F : Env) : dens F [] = some [] := by simp [dens]
theorem dens_cons {F : Env} {x : AV} {l : List AV} {vs : List Value} (h : dens F (x :: l) = some vs) : ∃ v us, den F x = some v ∧ dens F l = some us ∧ vs = v :: us := by
  simp only [dens] at h
  cases h1 : den F x with
  | none => rw [h1] at h; simp at h
  | some v =>
    cases h2 : dens F l with
    | none => rw [h1, h2] at h; simp at h
    | some us => rw [h1, h2] at h; exact ⟨v, us, rfl, rfl, (Option.some.inj h).symm⟩
theorem dens_cons_mk {F : Env} {x : AV} {l : List AV} {v : Value} {us : List Value} (h1 : den F x = some v) (h2 : dens F l = some us) : dens F (x :: l) = some (v :: us) := by
  simp [dens, h1, h2]
theorem dens_append {F : Env} : ∀ {l r : List AV} {us vs : List Value}, dens F l = some us → dens F r = some vs → dens F (l ++ r) = some (us ++ vs)
  | [], r, us, vs, h1, h2 => by rw [dens_nil] at h1; obtain rfl := Option.some.inj h1; simpa using h2
  | x :: l, r, us, vs, h1, h2 => by
    obtain ⟨v, ws, hx, hl, rfl⟩ := dens_cons h1
    exact dens_cons_mk hx (dens_append hl h2)
theorem dens_length {F : Env} : ∀ {l : List AV} {vs : List Value}, dens F l = some vs → vs.length = l.length
  | [], vs, h => by rw [dens_nil] at h; obtain rfl := Option.some.inj h; rfl
  | x :: l, vs, h => by
    obtain ⟨v, us, _, hl, rfl⟩ := dens_cons h
    simp [dens_length hl]
theorem dens_raw (F : Env) : ∀ l : List Value, dens F (l.map .raw) = some l
  | [] => by simp [dens]
  | v :: l => by simp [dens, den, dens_raw F l]

theorem den_raw {F : Env} {v : Value} : den F (.raw v) = some v := by simp [den]

/-- the cells of a value -/
theorem dens_cellsV (F : Env) (v : Value) : dens F (cellsV v) = some v.cells.toList := by
  cases v <;> simp only [cellsV, Value.cells]
  case agg cs => exact dens_raw F _
  all_goals simp [dens, den]
theorem dens_cellsAV {F : Env} {x : AV} {v : Value} (h : den F x = some v) : dens F (cellsAV x) = some v.cells.toList := by
  cases x with
  | raw u =>
    simp only [den, Option.some.injEq] at h
    subst h
    exact dens_cellsV F u
  | agg l =>
    simp only [den, Option.map_eq_some_iff] at h
    obtain ⟨vs, hvs, rfl⟩ := h
    simpa [cellsAV, Value.cells] using hvs
  | ptr b off =>
    have h' := h
    simp only [den, Option.map_eq_some_iff] at h
    obtain ⟨vs, hvs, rfl⟩ := h
    exact dens_cons_mk h' (dens_nil F)
  | sl b off len sz =>
    have h' := h
    simp only [den, Option.map_eq_some_iff] at h
    obtain ⟨vs, hvs, rfl⟩ := h
    exact dens_cons_mk h' (dens_nil F)
  | tup l =>
    have h' := h
    simp only [den, Option.map_eq_some_iff] at h
    obtain ⟨vs, hvs, rfl⟩ := h
    exact dens_cons_mk h' (dens_nil F)
  | fn f l =>
    have h' := h
    simp only [den, Option.map_eq_some_iff] at h
    obtain ⟨vs, hvs, rfl⟩ := h
    exact dens_cons_mk h' (dens_nil F)

theorem one_den {F : Env} {x : AV} {v : Value} (h : den F x = some v) (h1 : oneAV x = true) : v.oneCell' = true := by
  cases x with
  | raw u =>
    simp only [den, Option.some.injEq] at h
    subst h
    cases u <;> simp_all [oneAV, oneV, Value.oneCell']
  | agg l => simp [oneAV] at h1
  | tup l => simp [oneAV] at h1
  | ptr b off => simp only [den, Option.map_eq_some_iff] at h; obtain ⟨vs, hvs, rfl⟩ := h; rfl
  | sl b off len sz => simp only [den, Option.map_eq_some_iff] at h; obtain ⟨vs, hvs, rfl⟩ := h; rfl
  | fn f l => simp only [den, Option.map_eq_some_iff] at h; obtain ⟨vs, hvs, rfl⟩ := h; rfl

/-! ### Cells in tries -/
theorem putAll_nil (i : Nat) (t : Tr AV) : putAll [] i t = some t := rfl
theorem putAll_cons (x : AV) (l : List AV) (i : Nat) (t : Tr AV) : putAll (x :: l) i t = gd (oneAV x) (ob (t.set (some x) deep i) fun t' => putAll l (i + 1) t') := rfl

theorem putAll_spec : ∀ (l : List AV) (i : Nat) (t t' : Tr AV), putAll l i t = some t' →
    (∀ x ∈ l, oneAV x = true) ∧ (∀ j, j < i → t'.get j = t.get j) ∧ (∀ j (h : j < l.length), t'.get (i + j) = some l[j]) ∧ (∀ j, i + l.length ≤ j → t'.get j = t.get j)
  | [], i, t, t', h => by
    rw [putAll_nil] at h
    obtain rfl := Option.some.inj h
    exact ⟨by simp, fun _ _ => rfl, fun j h => by simp at h, fun _ _ => rfl⟩
  | x :: l, i, t, t', h => by
    rw [putAll_cons] at h
    obtain ⟨h1, h⟩ := gd_some h
    obtain ⟨t1, ht, h⟩ := ob_some h
    obtain ⟨a, b, c, d⟩ := putAll_spec l (i + 1) t1 t' h
    have same := Tr.get_set_same _ _ _ _ _ ht
    have other := fun j hj => Tr.get_set_other _ _ _ _ _ j ht hj
    refine ⟨?_, ?_, ?_, ?_⟩
    · intro y hy
      rcases List.mem_cons.1 hy with rfl | hy
      · exact h1
      · exact a y hy
    · intro j hj
      rw [b j (by omega), other j (by omega)]
    · intro j hj
      cases j with
      | zero => rw [Nat.add_zero, b i (by omega), same]; rfl
      | succ j =>
        have := c j (by simpa using hj)
        rw [show i + (j + 1) = i + 1 + j by omega, this]
        rfl
    · intro j hj
      simp only [List.length_cons] at hj
      rw [d j (by omega), other j (by omega)]

theorem getAll_zero (t : Tr AV) (i : Nat) : getAll t 0 i = some [] := rfl
theorem getAll_succ (t : Tr AV) (n i : Nat) : getAll t (n + 1) i = ob (t.get i) fun x => ob (getAll t n (i + 1)) fun l => some (x :: l) := rfl

theorem getAll_spec : ∀ (n : Nat) (t : Tr AV) (i : Nat) (l : List AV), getAll t n i = some l → l.length = n ∧ ∀ j (h : j < l.length), t.get (i + j) = some l[j]
  | 0, t, i, l, h => by
    rw [getAll_zero] at h
    obtain rfl := Option.some.inj h
    exact ⟨rfl, fun j h => by simp at h⟩
  | n + 1, t, i, l, h => by
    rw [getAll_succ] at h
    obtain ⟨x, hx, h⟩ := ob_some h
    obtain ⟨l', hl, h⟩ := ob_some h
    obtain rfl := Option.some.inj h
    obtain ⟨hn, hg⟩ := getAll_spec n t (i + 1) l' hl
    refine ⟨by simp [hn], fun j hj => ?_⟩
    cases j with
    | zero => simpa using hx
    | succ j =>
      have := hg j (by simpa using hj)
      rw [show i + (j + 1) = i + 1 + j by omega, this]
      rfl

/-! ### The invariant -/
/-- what an abstract block says of the block where it lies -/
def BlkOk (F : Env) (k : Blk) (g c : Nat) (w : World) : Prop :=
  ∃ cs : Array Value, w.heap[g]? = some (.cells cs k.e) ∧ cs.size = c ∧ k.n ≤ c ∧ c % k.z = 0 ∧ c / k.z ≤ maxLen ∧
    ∀ i, i < k.n → ∃ x v, k.c.get i = some x ∧ den F x = some v ∧ v.oneCell' = true ∧ cs[i]? = some v

structure Inv (base wr : Nat) (F : Env) (m : Mem) (w : World) : Prop where
  live : ∀ b k, m.H.get b = some k → ∃ g c, F b = some (g, c) ∧ (wr ≤ b → base ≤ g) ∧ (b < wr → g < base) ∧ BlkOk F k g c w
  apart : ∀ b b' k k' x x', m.H.get b = some k → m.H.get b' = some k' → wr ≤ b → wr ≤ b' → F b = some x → F b' = some x' → x.1 = x'.1 → b = b'
  fresh : ∀ b, m.nx ≤ b → F b = none
  size : base ≤ w.heap.size
  wrnx : wr ≤ m.nx

theorem BlkOk.ext {F F' : Env} {k : Blk} {g c : Nat} {w w' : World} (h : BlkOk F k g c w) (he : Ext F F') (hw : w'.heap[g]? = w.heap[g]?) : BlkOk F' k g c w' := by
  obtain ⟨cs, h1, h2, h3, h4, h5, h6⟩ := h
  refine ⟨cs, hw.trans h1, h2, h3, h4, h5, fun i hi => ?_⟩
  obtain ⟨x, v, a, b, o, d⟩ := h6 i hi
  exact ⟨x, v, a, den_ext he x v b, o, d⟩

theorem BlkOk.lt {F : Env} {k : Blk} {g c : Nat} {w : World} (h : BlkOk F k g c w) : g < w.heap.size := by
  obtain ⟨cs, h1, _⟩ := h
  exact (Array.getElem?_eq_some_iff.1 h1).1

/-- what lies above does not matter -/
theorem Inv.below {base wr : Nat} {F : Env} {m : Mem} {w w' : World} (h : Inv base wr F m w) (hb : Below w.heap.size w w') : Inv base wr F m w' where
  live b k hk := by
    obtain ⟨g, c, h1, h2, h3, h4⟩ := h.live b k hk
    exact ⟨g, c, h1, h2, h3, h4.ext (Ext.refl F) (hb.block g h4.lt)⟩
  apart := h.apart
  fresh := h.fresh
  size := Nat.le_trans h.size hb.size
  wrnx := h.wrnx

/-- all that is there becomes read-only -/
theorem Inv.inner {base wr : Nat} {F : Env} {m : Mem} {w : World} (h : Inv base wr F m w) : Inv w.heap.size m.nx F m w where
  live b k hk := by
    obtain ⟨g, c, h1, h2, h3, h4⟩ := h.live b k hk
    refine ⟨g, c, h1, fun hle => ?_, fun _ => h4.lt, h4⟩
    rw [h.fresh b hle] at h1
    cases h1
  apart b b' k k' x x' _ _ hb _ hx := by
    rw [h.fresh b hb] at hx
    cases hx
  fresh := h.fresh
  size := Nat.le_refl _
  wrnx := Nat.le_refl _

/-- reading -/
theorem read_spec {base wr : Nat} {F : Env} {m : Mem} {w : World} (h : Inv base wr F m w) {b off n : Nat} {l : List AV} (hr : m.read b off n = some l) :
    ∃ g c vs, F b = some (g, c) ∧ dens F l = some vs ∧ l.length = n ∧ (∀ v ∈ vs, v.oneCell' = true) ∧ ∀ j v, vs[j]? = some v → w.cell? ((⟨g, off, none⟩ : Addr).add j) = some v := by
  obtain ⟨k, hk, hr⟩ := ob_some hr
  obtain ⟨hle, hr⟩ := gd_some hr
  have hle' : off + n ≤ k.n := Nat.le_of_ble_eq_true hle
  obtain ⟨hn, hg⟩ := getAll_spec _ _ _ _ hr
  obtain ⟨g, c, hF, _, _, cs, hh, hcs, hnc, _, _, hcell⟩ := h.live b k hk
  have key : ∀ (l' : List AV) (i : Nat), (∀ j (hj : j < l'.length), k.c.get (i + j) = some l'[j]) → i + l'.length ≤ k.n →
      ∃ vs, dens F l' = some vs ∧ (∀ v ∈ vs, v.oneCell' = true) ∧ ∀ j v, vs[j]? = some v → cs[i + j]? = some v := by
    intro l'
    induction l' with
    | nil => intro i _ _; exact ⟨[], dens_nil F, by simp, fun j v hv => by simp at hv⟩
    | cons x l' ih =>
      intro i hj hi
      simp only [List.length_cons] at hi
      obtain ⟨vs, h1, h2, h3⟩ := ih (i + 1) (fun j hj' => by
        have := hj (j + 1) (by simpa using hj')
        rw [show i + 1 + j = i + (j + 1) by omega, this]; rfl) (by omega)
      obtain ⟨x', v, hx', hv, ho, hc⟩ := hcell i (by omega)
      have h0 := hj 0 (by simp)
      rw [Nat.add_zero, hx'] at h0
      obtain rfl : x' = x := by simpa using h0
      refine ⟨v :: vs, dens_cons_mk hv h1, ?_, fun j u hu => ?_⟩
      · intro u hu
        rcases List.mem_cons.1 hu with rfl | hu
        · exact ho
        · exact h2 u hu
      · cases j with
        | zero => simp at hu; subst hu; simpa using hc
        | succ j => simp at hu; rw [show i + (j + 1) = i + 1 + j by omega]; exact h3 j u hu
  obtain ⟨vs, h1, h2, h3⟩ := key l off hg (by omega)
  refine ⟨g, c, vs, hF, h1, hn, h2, fun j v hv => ?_⟩
  have hadd : (⟨g, off, none⟩ : Addr).add j = ⟨g, off + j, none⟩ := by unfold Addr.add; split <;> simp_all
  rw [hadd]
  simp only [World.cell?, hh]
  simpa using h3 j v hv

theorem read1_spec {base wr : Nat} {F : Env} {m : Mem} {w : World} (h : Inv base wr F m w) {b off : Nat} {x : AV} (hr : m.read1 b off = some x) :
    ∃ g c v, F b = some (g, c) ∧ den F x = some v ∧ v.oneCell' = true ∧ w.cell? ⟨g, off, none⟩ = some v := by
  obtain ⟨k, hk, hr⟩ := ob_some hr
  obtain ⟨hle, hr⟩ := gd_some hr
  have hle' : off < k.n := Nat.le_of_ble_eq_true hle
  obtain ⟨g, c, hF, _, _, cs, hh, hcs, hnc, _, _, hcell⟩ := h.live b k hk
  obtain ⟨x', v, hx', hv, ho, hc⟩ := hcell off hle'
  rw [hx'] at hr
  obtain rfl := Option.some.inj hr
  exact ⟨g, c, v, hF, hv, ho, by simp only [World.cell?, hh]; simpa using hc⟩

end Go.Proofs.Yteaaahcgkodcdaa.Ev
