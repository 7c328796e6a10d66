/- The second evaluator tells the truth, part 3: operands, slots, filling. -/
import Derived.Test.YtplnnlnkcfappaaGreatQd
import Derived.Great.FillDense
namespace Go.Proofs.YtplnnlnkcfappaaGreat.E3
open Go Go.RowKit
set_option linter.unusedSimpArgs false
set_option linter.unusedVariables false

variable {ρ : Syms}

theorem takeAV_eq : ∀ (l : List AV) (n : Nat), takeAV l n = l.take n
  | _, 0 => by simp [takeAV]
  | [], n + 1 => by simp [takeAV]
  | x :: l, n + 1 => by simp [takeAV, takeAV_eq l n]
theorem dropAV_eq : ∀ (l : List AV) (n : Nat), dropAV l n = l.drop n
  | _, 0 => by simp [dropAV]
  | [], n + 1 => by simp [dropAV]
  | x :: l, n + 1 => by simp [dropAV, dropAV_eq l n]

theorem dens_take {F : Env} : ∀ {l : List AV} {vs : List Value} (n : Nat), dens ρ F l = some vs → dens ρ F (l.take n) = some (vs.take n)
  | _, _, 0, _ => by simp [dens]
  | [], vs, n + 1, h => by rw [dens_nil] at h; obtain rfl := Option.some.inj h; simp [dens]
  | x :: l, vs, n + 1, h => by
    obtain ⟨v, us, hx, hl, rfl⟩ := dens_cons h
    simp only [List.take_succ_cons]
    exact dens_cons_mk hx (dens_take n hl)
theorem dens_drop {F : Env} : ∀ {l : List AV} {vs : List Value} (n : Nat), dens ρ F l = some vs → dens ρ F (l.drop n) = some (vs.drop n)
  | _, _, 0, h => by simpa using h
  | [], vs, n + 1, h => by rw [dens_nil] at h; obtain rfl := Option.some.inj h; simp [dens]
  | x :: l, vs, n + 1, h => by
    obtain ⟨v, us, hx, hl, rfl⟩ := dens_cons h
    simpa using dens_drop n hl

/-! ### The slots -/
/-- what stands in the slots is what the act holds, where it is known -/
structure Held (ρ : Syms) (F : Env) (g : Nat → AV) (a : Act) : Prop where
  defers : a.defers = []
  held : ∀ t, g t = .bad ∨ den ρ F (g t) = some (a.tmps.getD t undef)

structure AR (ρ : Syms) (F : Env) (n S : Nat) (sg : List Nat) (fr : Fr) (es : Es) (a : Act) : Prop where
  size : a.tmps.size = n
  slots : Held ρ F (getG S sg fr es) a

theorem Held.eval {F : Env} {g : Nat → AV} {a : Act} (h : Held ρ F g a) {x : Operand} (hx : evO g x ≠ .bad) : den ρ F (evO g x) = some (a.eval x) := by
  cases x with
  | tmp t => exact (h.held t).resolve_left hx
  | const v => exact (avOf_is v).2 ρ F
  | global g => simp [evO, den, Act.eval]
  | func f =>
    by_cases hf : Nat.blt f mapId = true
    · have e : evO g (.func f) = .fn f [] := by show te (Nat.blt f mapId) (AV.fn f []) AV.bad = _; rw [te_eq, if_pos hf]
      rw [e, den_fn_mk hf (dens_nil F)]
      rfl
    · exact absurd (show te (Nat.blt f mapId) (AV.fn f []) AV.bad = AV.bad by rw [te_eq, if_neg hf]) hx
theorem Held.is {F : Env} {g : Nat → AV} {a : Act} (h : Held ρ F g a) {x : Operand} {v : Value} (hx : Is (evO g x) v) : a.eval x = v := by
  have := h.eval hx.1
  rw [hx.2 ρ F] at this
  exact (Option.some.inj this).symm
theorem Held.ext {F F' : Env} {g : Nat → AV} {a : Act} (h : Held ρ F g a) (he : Ext F F') : Held ρ F' g a :=
  ⟨h.defers, fun t => (h.held t).imp id (den_ext he _ _)⟩
theorem AR.ext {F F' : Env} {n S : Nat} {sg : List Nat} {fr : Fr} {es : Es} {a : Act} (h : AR ρ F n S sg fr es a) (he : Ext F F') : AR ρ F' n S sg fr es a := ⟨h.size, h.slots.ext he⟩

/-! what the boxes tell -/
theorem sel1_eq (d : D8) : ∃ f, sel1 d = .s f ∧ ∀ r, f r = A1.sel d r := by cases d <;> exact ⟨_, rfl, fun _ => rfl⟩
theorem sel2_eq (d : D8) : ∃ f, sel2 d = .s f ∧ ∀ r, f r = A2.sel d r := by cases d <;> exact ⟨_, rfl, fun _ => rfl⟩
theorem sel3_eq (d : D8) : ∃ f, sel3 d = .s f ∧ ∀ r, f r = A3.sel d r := by cases d <;> exact ⟨_, rfl, fun _ => rfl⟩
theorem upd1_eq (d : D8) : ∃ f, upd1 d = .s f ∧ ∀ r g k, f r g k = A1.upd d r g k := by cases d <;> exact ⟨_, rfl, fun _ _ _ => rfl⟩
theorem upd2_eq (d : D8) : ∃ f, upd2 d = .s f ∧ ∀ r g k, f r g k = A2.upd d r g k := by cases d <;> exact ⟨_, rfl, fun _ _ _ => rfl⟩
theorem upd3_eq (d : D8) : ∃ f, upd3 d = .s f ∧ ∀ r g k, f r g k = A3.upd d r g k := by cases d <;> exact ⟨_, rfl, fun _ _ _ => rfl⟩

theorem accB_at (t : Nat) (fr : Fr) (es : Es) : (accB t).at fr es = A3.get fr t := by
  obtain ⟨f3, e3, h3⟩ := sel3_eq (dig (Nat.mod (Nat.div t 64) 8))
  obtain ⟨f2, e2, h2⟩ := sel2_eq (dig (Nat.mod (Nat.div t 8) 8))
  obtain ⟨f1, e1, h1⟩ := sel1_eq (dig (Nat.mod t 8))
  have e : accB t = .g (fun fr _ => f1 (f2 (f3 fr))) := by
    unfold accB path3
    simp only [e3, e2, e1]
  rw [e]
  show f1 (f2 (f3 fr)) = A3.at3 (dig (Nat.mod (Nat.div t 64) 8)) (dig (Nat.mod (Nat.div t 8) 8)) (dig (Nat.mod t 8)) fr
  rw [h1, h2, h3]
  rfl

theorem putB_put (t : Nat) (fr : Fr) (es : Es) (v : AV) (k : Fr → Es → R) : (putB t).put fr es v k = k (A3.put fr t v) es := by
  obtain ⟨f3, e3, h3⟩ := upd3_eq (dig (Nat.mod (Nat.div t 64) 8))
  obtain ⟨f2, e2, h2⟩ := upd2_eq (dig (Nat.mod (Nat.div t 8) 8))
  obtain ⟨f1, e1, h1⟩ := upd1_eq (dig (Nat.mod t 8))
  have e : putB t = .p (fun fr es v k => f3 fr (fun y k => f2 y (fun y k => f1 y (fun _ k => k v) k) k) (fun fr => k fr es)) := by
    unfold putB path3
    simp only [e3, e2, e1]
  rw [e]
  show f3 fr (fun y k => f2 y (fun y k => f1 y (fun _ k => k v) k) k) (fun fr => k fr es) = _
  rw [h3, A3.upd_eq, h2, A2.upd_eq, h1, A1.upd_eq]
  rfl

theorem locB_at (t : Nat) (fr : Fr) : ∀ (sg : List Nat) (es : Es), (locB t sg).at fr es = findE t sg es
  | [], es => rfl
  | s :: sg, es => by
    have ih := locB_at t fr sg (tailE es)
    show (te (Nat.beq s t) (.g fun _ es => headE es) (Get.rec (motive := fun _ => Get) (fun f => .g fun fr es => f fr (tailE es)) (locB t sg))).at fr es = te (Nat.beq s t) (headE es) (findE t sg (tailE es))
    rw [te_eq, te_eq]
    by_cases h : Nat.beq s t = true
    · rw [if_pos h, if_pos h]
      rfl
    · rw [if_neg h, if_neg h, ← ih]
      generalize locB t sg = q
      cases q
      rfl

theorem getB_at (S : Nat) (sg : List Nat) (x : Operand) (fr : Fr) (es : Es) : (getB S sg x).at fr es = evO (getG S sg fr es) x := by
  cases x with
  | tmp t =>
    show (te (inS S t) (locB t sg) (te (Nat.blt t 512) (accB t) (.g fun _ _ => undefAV))).at fr es = te (inS S t) (findE t sg es) (te (Nat.blt t 512) (A3.get fr t) undefAV)
    rw [te_eq, te_eq, te_eq, te_eq]
    by_cases h : inS S t = true
    · rw [if_pos h, if_pos h, locB_at]
    · rw [if_neg h, if_neg h]
      by_cases h2 : Nat.blt t 512 = true
      · rw [if_pos h2, if_pos h2, accB_at]
      · rw [if_neg h2, if_neg h2]
        rfl
  | const v => rfl
  | global g => rfl
  | func f => rfl

theorem getG_in {S t : Nat} (h : inS S t = true) (sg : List Nat) (fr : Fr) (es : Es) : getG S sg fr es t = findE t sg es := by
  unfold getG
  rw [te_eq, if_pos h]
theorem getG_out {S t : Nat} (h : ¬ inS S t = true) (ht : t < 512) (sg : List Nat) (fr : Fr) (es : Es) : getG S sg fr es t = A3.get fr t := by
  have ht' : Nat.blt t 512 = true := Nat.ble_eq_true_of_le ht
  unfold getG
  rw [te_eq, if_neg h, te_eq, if_pos ht']
theorem getG_far {S t : Nat} (h : ¬ inS S t = true) (ht : ¬ t < 512) (sg : List Nat) (fr : Fr) (es : Es) : getG S sg fr es t = undefAV := by
  have ht' : ¬ Nat.blt t 512 = true := fun e => ht (Nat.le_of_ble_eq_true e)
  unfold getG
  rw [te_eq, if_neg h, te_eq, if_neg ht']

theorem den_undef (F : Env) : den ρ F undefAV = some undef := by simp [undefAV, den]

theorem put_same {a : Act} {t n : Nat} {v : Value} (hs : a.tmps.size = n) (h : t < n) : (a.put (some t) v).tmps.getD t undef = v := by
  simp only [Act.put]
  rw [Array.getD_eq_getD_getElem?, Array.getElem?_setIfInBounds_self, if_pos (by rw [hs]; exact h)]
  rfl
theorem put_other {a : Act} {t s : Nat} {v : Value} (h : s ≠ t) : (a.put (some t) v).tmps.getD s undef = a.tmps.getD s undef := by
  simp only [Act.put]
  rw [Array.getD_eq_getD_getElem?, Array.getD_eq_getD_getElem?, Array.getElem?_setIfInBounds_ne (fun e' => h e'.symm)]

theorem sgOf_in {S t : Nat} (h : inS S t = true) (sg : List Nat) : sgOf S sg (some t) = t :: sg := by show te (inS S t) (t :: sg) sg = _; rw [te_eq, if_pos h]
theorem sgOf_out {S t : Nat} (h : ¬ inS S t = true) (sg : List Nat) : sgOf S sg (some t) = sg := by show te (inS S t) (t :: sg) sg = _; rw [te_eq, if_neg h]

/-- what is put stands in its slot, the others stand as they stood -/
theorem put_get {n S : Nat} {fr : Fr} {es : Es} {d : Option Tmp} {p : Put} (hp : dstB S n d = some p) (x : AV) :
    ∃ fr' es', (∀ k, p.put fr es x k = k fr' es') ∧ (∀ (sg : List Nat) (s : Nat), d ≠ some s → getG S (sgOf S sg d) fr' es' s = getG S sg fr es s) ∧ (∀ (sg : List Nat) (t : Nat), d = some t → t < n ∧ getG S (sgOf S sg d) fr' es' t = x) ∧
      ∀ (t : Nat) (sg : List Nat), n ≤ t → findE t (sgOf S sg d) es' = findE t sg es := by
  cases d with
  | none =>
    obtain rfl := Option.some.inj (show some (Put.p fun fr es _ k => k fr es) = some p from hp)
    exact ⟨fr, es, fun _ => rfl, fun _ _ _ => rfl, (fun _ _ h => nomatch h), fun _ _ _ => rfl⟩
  | some t =>
    obtain ⟨hlt, hp⟩ := gd_some (show gd (Nat.blt t n) (te (inS S t) (some (.p fun fr es v k => k fr (v :: es))) (gd (Nat.blt t 512) (some (putB t)))) = some p from hp)
    have hlt' : t < n := Nat.le_of_ble_eq_true hlt
    rw [te_eq] at hp
    by_cases hS : inS S t = true
    · rw [if_pos hS] at hp
      obtain rfl := Option.some.inj hp
      refine ⟨fr, x :: es, fun _ => rfl, fun sg s hs => ?_, fun sg t' ht' => ?_, fun t' sg ht' => ?_⟩
      · rw [sgOf_in hS]
        have hst : s ≠ t := fun e => hs (by rw [e])
        by_cases hs : inS S s = true
        · rw [getG_in hs, getG_in hs]
          show te (Nat.beq t s) x (findE s sg es) = _
          rw [te_eq, if_neg (fun e => hst (Nat.eq_of_beq_eq_true e).symm)]
        · by_cases h5 : s < 512
          · rw [getG_out hs h5, getG_out hs h5]
          · rw [getG_far hs h5, getG_far hs h5]
      · obtain rfl := Option.some.inj ht'
        refine ⟨hlt', ?_⟩
        rw [sgOf_in hS, getG_in hS]
        show te (Nat.beq t t) x (findE t sg es) = _
        rw [te_eq, if_pos (Nat.beq_refl t)]
      · rw [sgOf_in hS]
        show te (Nat.beq t t') x (findE t' sg es) = _
        rw [te_eq, if_neg (fun hh => by
          have h9 : t = t' := Nat.eq_of_beq_eq_true hh
          rw [← h9] at ht'
          exact Nat.lt_irrefl t (Nat.lt_of_lt_of_le hlt' ht'))]
    · rw [if_neg hS] at hp
      obtain ⟨h512, hp⟩ := gd_some hp
      have h512' : t < 512 := Nat.le_of_ble_eq_true h512
      obtain rfl := Option.some.inj hp
      refine ⟨A3.put fr t x, es, fun k => putB_put t fr es x k, fun sg s hs => ?_, fun sg t' ht' => ?_, fun t' sg _ => ?_⟩
      · rw [sgOf_out hS]
        have hst : s ≠ t := fun e => hs (by rw [e])
        by_cases hs : inS S s = true
        · rw [getG_in hs, getG_in hs]
        · by_cases h5 : s < 512
          · rw [getG_out hs h5, getG_out hs h5, A3.get_other _ _ _ _ h512' h5 hst]
          · rw [getG_far hs h5, getG_far hs h5]
      · obtain rfl := Option.some.inj ht'
        refine ⟨hlt', ?_⟩
        rw [sgOf_out hS, getG_out hS h512', A3.get_same]
      · rw [sgOf_out hS]

theorem AR.put_got {n S : Nat} {sg : List Nat} {fr fr' : Fr} {es es' : Es} {d : Option Tmp} {x : AV} (h1 : ∀ s, d ≠ some s → getG S (sgOf S sg d) fr' es' s = getG S sg fr es s) (h2 : ∀ t, d = some t → t < n ∧ getG S (sgOf S sg d) fr' es' t = x)
    {F : Env} {a : Act} {v : Value} (h : AR ρ F n S sg fr es a) (hv : den ρ F x = some v) : AR ρ F n S (sgOf S sg d) fr' es' (a.put d v) := by
  cases d with
  | none => exact ⟨h.size, h.slots.defers, fun s => by rw [h1 s (by simp)]; exact h.slots.held s⟩
  | some t =>
    obtain ⟨hlt, hx⟩ := h2 t rfl
    refine ⟨by simp [Act.put, h.size], h.slots.defers, fun s => ?_⟩
    by_cases hst : s = t
    · subst hst
      right
      rw [hx, hv, put_same h.size hlt]
    · rw [put_other hst, h1 s (fun e => hst (Option.some.inj e).symm)]
      exact h.slots.held s

theorem put_spec {n S : Nat} {fr : Fr} {es : Es} {d : Option Tmp} {p : Put} (hp : dstB S n d = some p) (x : AV) :
    ∃ fr' es', (∀ k, p.put fr es x k = k fr' es') ∧ (∀ (F : Env) (sg : List Nat) (a : Act) (v : Value), AR ρ F n S sg fr es a → den ρ F x = some v → AR ρ F n S (sgOf S sg d) fr' es' (a.put d v)) ∧ ∀ (t : Nat) (sg : List Nat), n ≤ t → findE t (sgOf S sg d) es' = findE t sg es := by
  obtain ⟨fr', es', h1, h2, h3, h4⟩ := put_get (fr := fr) (es := es) hp x
  exact ⟨fr', es', h1, fun F sg a v h hv => h.put_got (h2 sg) (h3 sg) hv, h4⟩

/-- at a region's end, and at its beginning -/
theorem AR.shut {F : Env} {n S : Nat} {sg : List Nat} {fr : Fr} {es : Es} {a : Act} (h : AR ρ F n S sg fr es a) : AR ρ F n S [] fr [] a := by
  refine ⟨h.size, h.slots.defers, fun s => ?_⟩
  by_cases hs : inS S s = true
  · left
    rw [getG_in hs]
    rfl
  · have e2 : getG S [] fr [] s = getG S sg fr es s := by
      by_cases h5 : s < 512
      · rw [getG_out hs h5, getG_out hs h5]
      · rw [getG_far hs h5, getG_far hs h5]
    rw [e2]
    exact h.slots.held s

/-! ### Frames -/
theorem get_u (t : Nat) : A3.get a3u t = undefAV := by
  show A3.at3 (dig (Nat.mod (Nat.div t 64) 8)) (dig (Nat.mod (Nat.div t 8) 8)) (dig (Nat.mod t 8)) a3u = undefAV
  have h3 : ∀ d, A3.sel d a3u = a2u := fun d => by cases d <;> rfl
  have h2 : ∀ d, A2.sel d a2u = a1u := fun d => by cases d <;> rfl
  have h1 : ∀ d, A1.sel d a1u = undefAV := fun d => by cases d <;> rfl
  show A1.sel _ (A2.sel _ (A3.sel _ a3u)) = _
  rw [h3, h2, h1]

theorem frameR_cons (x : AV) (l : List AV) (i : Nat) (fr : Fr) (k : Fr → R) : frameR (x :: l) i fr k = force x fun x => A3.putK fr i x fun fr => frameR l (Nat.succ i) fr k := rfl

theorem frameR_some : ∀ (l : List AV) (i : Nat) (fr : Fr) (k : Fr → R) (y : Out), frameR l i fr k = some y → i + l.length ≤ 512 →
    ∃ fr' : Fr, k fr' = some y ∧ (∀ x ∈ l, x ≠ .bad) ∧ (∀ j, j < i → A3.get fr' j = A3.get fr j) ∧ (∀ j (h : j < l.length), A3.get fr' (i + j) = l[j]) ∧ (∀ j, i + l.length ≤ j → j < 512 → A3.get fr' j = A3.get fr j)
  | [], i, fr, k, y, h, _ => ⟨fr, h, by simp, fun _ _ => rfl, fun j h => by simp at h, fun _ _ _ => rfl⟩
  | x :: l, i, fr, k, y, h, hi => by
    rw [frameR_cons] at h
    obtain ⟨hb, h⟩ := force_some h
    rw [A3.putK_spec] at h
    simp only [List.length_cons] at hi
    obtain ⟨fr', p0, p2, p3, p4, p5⟩ := frameR_some l (i + 1) _ k y h (by omega)
    have other := fun j (hj : j < 512) (hne : j ≠ i) => A3.get_other fr i j x (by omega) hj hne
    refine ⟨fr', p0, ?_, ?_, ?_, ?_⟩
    · intro z hz
      rcases List.mem_cons.1 hz with rfl | hz
      · exact hb
      · exact p2 z hz
    · intro j hj
      rw [p3 j (by omega), other j (by omega) (by omega)]
    · intro j hj
      cases j with
      | zero => rw [Nat.add_zero, p3 i (by omega), A3.get_same]; rfl
      | succ j =>
        have := p4 j (by simpa using hj)
        rw [show i + (j + 1) = i + 1 + j by omega, this]
        rfl
    · intro j hj hjc
      simp only [List.length_cons] at hj
      rw [p5 j (by omega) hjc, other j hjc (by omega)]

theorem frame_AR {F : Env} {args : List AV} {vs : List Value} (hd : dens ρ F args = some vs) {N S : Nat} (hle : args.length ≤ N) (hN : N ≤ 512) {k : Fr → R} {y : Out} (h : frameR args 0 a3u k = some y) :
    ∃ fr, k fr = some y ∧ AR ρ F N S [] fr [] { tmps := vs.toArray ++ Array.replicate (N - vs.toArray.size) undef, defers := [] } := by
  obtain ⟨fr, h0, _, _, h2, h3⟩ := frameR_some _ _ _ _ _ h (by omega)
  have hl := dens_length hd
  refine ⟨fr, h0, by simp; omega, rfl, fun t => ?_⟩
  by_cases hS : inS S t = true
  · left
    rw [getG_in hS]
    rfl
  right
  by_cases hta : t < args.length
  · rw [getG_out hS (by omega)]
    have := h2 t hta
    rw [Nat.zero_add] at this
    rw [this]
    obtain ⟨v, h4, h5⟩ := dens_get hd t hta
    rw [h4, Array.getD_eq_getD_getElem?, Array.getElem?_append_left (by simp; omega)]
    simp [h5]
  · have e : getG S [] fr [] t = undefAV := by
      by_cases h5 : t < 512
      · rw [getG_out hS h5, h3 t (by omega) h5, get_u]
      · rw [getG_far hS h5]
    rw [e, den_undef, Array.getD_eq_getD_getElem?, Array.getElem?_append_right (by simp; omega)]
    simp
    rw [Array.getElem?_replicate]
    split <;> rfl

/-! ### Filling -/
theorem fill_one (off : Nat) (vs : List Value) (v : Value) (h : off + v.cells.size ≤ vs.length) :
    v.cells.zipIdx.foldl (fun cs (c, j) => cs.setIfInBounds (off + j) c) vs.toArray = (vs.take off ++ (v.cells.toList ++ vs.drop (off + v.cells.size))).toArray := by
  obtain ⟨g1, g2⟩ := Great.foldl_set off v.cells.toList 0 vs.toArray
  have e : v.cells.zipIdx.foldl (fun cs (c, j) => cs.setIfInBounds (off + j) c) vs.toArray = (v.cells.toList.zipIdx 0).foldl (fun cs (x : Value × Nat) => cs.setIfInBounds (off + x.2) x.1) vs.toArray := by
    rw [← Array.foldl_toList, Array.toList_zipIdx]
  rw [e]
  apply Array.ext_getElem?
  intro k
  rw [g2 k]
  simp only [Array.length_toList, List.size_toArray, Nat.add_zero, List.getElem?_toArray]
  by_cases h1 : k < off
  · rw [if_neg (by omega), List.getElem?_append_left (by simp; omega), List.getElem?_take_of_lt h1]
  · by_cases h2 : k < off + v.cells.size
    · rw [if_pos ⟨by omega, h2, by omega⟩, List.getElem?_append_right (by simp; omega), List.getElem?_append_left (by simp; omega)]
      congr 1
      simp; omega
    · rw [if_neg (by omega), List.getElem?_append_right (by simp; omega), List.getElem?_append_right (by simp; omega), List.getElem?_drop]
      congr 1
      simp; omega

/-- parts and their values -/
def PV (ρ : Syms) (F : Env) : List (Nat × AV) → List (Nat × Value) → Prop
  | [], [] => True
  | p :: ps, q :: qs => p.1 = q.1 ∧ (p.2 = .bad ∨ den ρ F p.2 = some q.2) ∧ PV ρ F ps qs
  | _, _ => False

theorem okAV_ne {v : AV} (h : okAV v = true) : v ≠ .bad := by
  rintro rfl
  exact nomatch (show false = true from h)

theorem fillAV_cons (place : Nat → Option (Nat × Nat)) (p : Nat × AV) (ps : List (Nat × AV)) (l : List AV) :
    fillAV place (p :: ps) l = gd (okAV p.2) (ob (place p.1) fun q => gd (Nat.beq (lenAV (cellsAV p.2)) q.2) (gd (Nat.ble (Nat.add q.1 (lenAV (cellsAV p.2))) (lenAV l))
        (fillAV place ps (takeAV l q.1 ++ (cellsAV p.2 ++ dropAV l (Nat.add q.1 (lenAV (cellsAV p.2)))))))) := rfl

theorem fillAV_spec {F : Env} (place : Nat → Option (Nat × Nat)) : ∀ (ps : List (Nat × AV)) (pv : List (Nat × Value)) (l l' : List AV) (vs : List Value), fillAV place ps l = some l' → dens ρ F l = some vs →
    PV ρ F ps pv → ∃ vs', dens ρ F l' = some vs' ∧ Instr.fill place vs.toArray pv = some vs'.toArray ∧ vs'.length = vs.length
  | [], [], l, l', vs, h, hd, _ => by
    obtain rfl := Option.some.inj (show some l = some l' from h)
    exact ⟨vs, hd, rfl, rfl⟩
  | [], q :: pv, l, l', vs, h, hd, h1 => h1.elim
  | p :: ps, [], l, l', vs, h, hd, h1 => h1.elim
  | p :: ps, q :: pv, l, l', vs, h, hd, ⟨h1, h2, h3⟩ => by
    rw [fillAV_cons] at h
    obtain ⟨c0, h⟩ := gd_some h
    obtain ⟨r, hr, h⟩ := ob_some h
    obtain ⟨c1, h⟩ := gd_some h
    obtain ⟨c2, h⟩ := gd_some h
    rw [lenAV_eq] at c1
    rw [lenAV_eq, lenAV_eq] at c2
    have c1' := Nat.eq_of_beq_eq_true c1
    have c2' : r.1 + (cellsAV p.2).length ≤ l.length := Nat.le_of_ble_eq_true c2
    have hv := h2.resolve_left (okAV_ne c0)
    have hcell := dens_cellsAV hv
    have hlen := dens_length hcell
    simp only [Array.length_toList] at hlen
    have hl := dens_length hd
    rw [takeAV_eq, dropAV_eq, lenAV_eq] at h
    have hd' : dens ρ F (l.take r.1 ++ (cellsAV p.2 ++ l.drop (r.1 + (cellsAV p.2).length))) = some (vs.take r.1 ++ (q.2.cells.toList ++ vs.drop (r.1 + (cellsAV p.2).length))) :=
      dens_append (dens_take _ hd) (dens_append hcell (dens_drop _ hd))
    obtain ⟨vs', a1, a2, a3⟩ := fillAV_spec place ps pv _ l' _ h hd' h3
    refine ⟨vs', a1, ?_, ?_⟩
    · obtain ⟨q1, q2⟩ := q
      obtain ⟨r1, r2⟩ := r
      simp only at h1 hlen hcell hd' a2 c1' c2' hr ⊢
      unfold Instr.fill
      rw [← h1, hr]
      simp only
      rw [if_neg (by simp only [List.size_toArray]; simp; omega), fill_one r1 vs q2 (by omega), ← a2]
      rw [hlen]
    · rw [a3]
      simp only [List.length_append, List.length_take, List.length_drop, Array.length_toList]
      omega

theorem Held.part {F : Env} {g : Nat → AV} {a : Act} (h : Held ρ F g a) (x : Operand) : evO g x = .bad ∨ den ρ F (evO g x) = some (a.eval x) := by
  by_cases hx : evO g x = .bad
  · exact .inl hx
  · exact .inr (h.eval hx)
theorem evParts_PV {F : Env} {g : Nat → AV} {a : Act} (h : Held ρ F g a) (ps : Array (Nat × Operand)) : PV ρ F (evParts g ps) (ps.map fun (i, x) => (i, a.eval x)).toList := by
  have key : ∀ l : List (Nat × Operand), PV ρ F (l.map fun x => (x.1, evO g x.2)) (l.map fun (i, x) => (i, a.eval x)) := by
    intro l
    induction l with
    | nil => trivial
    | cons p l ih => exact ⟨rfl, h.part p.2, ih⟩
  have := key ps.toList
  simpa [evParts] using this

theorem okAll_cons (x : AV) (l : List AV) : okAll (x :: l) = te (okAV x) (okAll l) false := rfl
theorem dens_args {F : Env} {g : Nat → AV} {a : Act} (h : Held ρ F g a) : ∀ (l : List Operand), okAll (evArgs g l) = true → dens ρ F (evArgs g l) = some (l.map a.eval)
  | [], _ => by simp [evArgs, dens]
  | x :: l, hk => by
    rw [show evArgs g (x :: l) = evO g x :: evArgs g l from rfl, okAll_cons, te_eq] at hk
    by_cases hx : okAV (evO g x) = true
    · rw [if_pos hx] at hk
      exact dens_cons_mk (h.eval (okAV_ne hx)) (dens_args h l hk)
    · rw [if_neg hx] at hk
      cases hk

theorem argsR_cons (x : Get) (l : List Get) (fr : Fr) (es : Es) (k : List AV → R) : argsR (x :: l) fr es k = force (x.at fr es) fun v => argsR l fr es fun l => k (v :: l) := rfl
theorem argsR_any {S : Nat} {sg : List Nat} {fr : Fr} {es : Es} : ∀ (l : List Operand) (k : List AV → R) (y : Out), argsR (l.map (getB S sg)) fr es k = some y →
    ∃ vs, k vs = some y ∧ ∀ F a, Held ρ F (getG S sg fr es) a → dens ρ F vs = some (l.map a.eval)
  | [], k, y, hk => ⟨[], hk, fun F a _ => dens_nil F⟩
  | x :: l, k, y, hk => by
    rw [List.map_cons, argsR_cons] at hk
    obtain ⟨hb, hk⟩ := force_some hk
    obtain ⟨vs, h1, h2⟩ := argsR_any l _ y hk
    rw [getB_at] at hb h1
    exact ⟨_, h1, fun F a hA => dens_cons_mk (hA.eval hb) (h2 F a hA)⟩
theorem argsR_some {F : Env} {S : Nat} {sg : List Nat} {fr : Fr} {es : Es} {a : Act} (h : Held ρ F (getG S sg fr es) a) (l : List Operand) (k : List AV → R) (y : Out) (hk : argsR (l.map (getB S sg)) fr es k = some y) :
    ∃ vs, k vs = some y ∧ dens ρ F vs = some (l.map a.eval) := by
  obtain ⟨vs, h1, h2⟩ := argsR_any (ρ := ρ) l k y hk
  exact ⟨vs, h1, h2 F a h⟩

end Go.Proofs.YtplnnlnkcfappaaGreat.E3
