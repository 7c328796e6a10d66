/- The second evaluator tells the truth, part 4: the operations that leave the memory, done slowly. -/
import Derived.Test.YteaaahcgkodcdaaXe
namespace Go.Proofs.Yteaaahcgkodcdaa.Ew
open Go Go.RowKit
set_option linter.unusedSimpArgs false
set_option linter.unusedVariables false

variable {ρ : Syms}

variable {β : Type} {P : Program} {base : Nat} {F : Env} {m : Mem} {w : World} {g : Nat → AV} {a : Act}

theorem run_isAgg {t : TypeId} {d : TypeDesc} (h : P.underlying t = some d) (w : World) : (isAgg t).run P w = .ok (aggD d) w := by
  cases d <;> simp [isAgg, run_underlying h, aggD]
theorem run_size {t : TypeId} {i : TypeInfo} (h : P.info? t = some i) (w : World) : (sizeOf t).run P w = .ok i.size w := by
  simp [sizeOf, typeInfo, h]
theorem run_zero {t : TypeId} {i : TypeInfo} {z : Value} (h : P.info? t = some i) (hz : i.zero = some z) (w : World) : (zeroValue t).run P w = .ok z w := by
  simp [zeroValue, typeInfo, h, hz]

theorem sizeT_some {t : TypeId} {s : Nat} (h : sizeT P t = some s) : ∃ i, P.info? t = some i ∧ i.size = s := by
  obtain ⟨i, h1, h2⟩ := ob_some h
  exact ⟨i, h1, Option.some.inj h2⟩
theorem zeroT_some {t : TypeId} {z : Value} (h : zeroT P t = some z) : ∃ i, P.info? t = some i ∧ i.zero = some z := ob_some h
theorem aggT_some {t : TypeId} {g : Bool} (h : aggT P t = some g) : ∃ d, P.underlying t = some d ∧ aggD d = g := by
  obtain ⟨i, h1, h2⟩ := ob_some h
  exact ⟨i, h1, Option.some.inj h2⟩
theorem elemT_some {t e : TypeId} (h : elemT P t = some e) : P.underlying t = some (.slice e) := by
  obtain ⟨d, h1, h2⟩ := ob_some h
  cases d <;> simp only [elemD] at h2
  case slice x => rw [h1, Option.some.inj h2]
  all_goals cases h2
theorem structT_some {t : TypeId} {fs : Array Field} (h : structT P t = some fs) : P.underlying t = some (.struct fs) := by
  obtain ⟨d, h1, h2⟩ := ob_some h
  cases d <;> simp only [structD] at h2
  case struct x => rw [h1, Option.some.inj h2]
  all_goals cases h2
theorem fieldT_some {t : TypeId} {i : Nat} {f : Field} (h : fieldT P t i = some f) : ∃ fs, P.underlying t = some (.struct fs) ∧ fs[i]? = some f := by
  obtain ⟨fs, h1, h2⟩ := ob_some h
  exact ⟨fs, structT_some h1, h2⟩

/-- an operation that yields a value -/
theorem valued {s : Sem Value} {v : Value} {w w' : World} (h : s.run P w = .ok v w') : (do pure (Next.value (← s)) : Sem Next).run P w = .ok (.value v) w' := by
  simp [h]

theorem asIntOf_int (q : IntKind) (i : Int) (w : World) : (asIntOf (.int q i)).run P w = .ok (q, i) w := rfl

theorem run_sliceBound (q : IntKind) (l y : Nat) (code : BoundsCode) (h : l ≤ y) (w : World) : (Instr.sliceBound (.int q (l : Int)) y code).run P w = .ok l w := by
  have h1 : (0 : Int) ≤ (l : Int) ∧ (l : Int) ≤ (y : Int) := ⟨Int.natCast_nonneg l, by omega⟩
  simp only [Instr.sliceBound, Sem.run_bind, asIntOf_int, Result.andThen_ok]
  rw [if_pos h1]
  simp

theorem run_sliceAt_sl {t e : TypeId} {ie : TypeInfo} (hu : P.underlying t = some (.slice e)) (hi : P.info? e = some ie) (g off len cap l h : Nat) (lo hiv : Option Value)
    (hlo : lo = none ∧ l = 0 ∨ ∃ q, lo = some (.int q (.ofNat l))) (hhi : hiv = none ∧ h = len ∨ ∃ q, hiv = some (.int q (.ofNat h)))
    (h1 : h ≤ len) (h2 : l ≤ h) (h3 : len ≤ cap) (h4 : l = 0 ∨ l < h) (w : World) :
    (Instr.sliceAt t (.slice (some ⟨g, off, none⟩) len cap) lo hiv none).run P w = .ok (.slice (some ⟨g, off + l * ie.size, none⟩) (h - l) (cap - l)) w := by
  have hb : (Instr.sliceBounds true len cap lo hiv none).run P w = .ok (l, h, cap) w := by
    rcases hlo with ⟨rfl, rfl⟩ | ⟨q, rfl⟩ <;> rcases hhi with ⟨rfl, rfl⟩ | ⟨q', rfl⟩
    · simp [Instr.sliceBounds]
    · simp [Instr.sliceBounds, run_sliceBound q' h cap _ (Nat.le_trans h1 h3)]
    · simp [Instr.sliceBounds, run_sliceBound q l h _ h2]
    · simp [Instr.sliceBounds, run_sliceBound q' h cap _ (Nat.le_trans h1 h3), run_sliceBound q l h _ h2]
  simp only [Instr.sliceAt, Sem.run_bind, run_underlying hu, Result.andThen_ok, Instr.slice, hb, run_size hi, Sem.run_pure]
  congr 2
  rcases h4 with rfl | h4
  · simp [Addr.add]
  · rw [if_neg (by omega)]
    simp [add_eq]

/-- what is shown of each -/
def Tells (ρ : Syms) (P : Program) (F : Env) (a : Act) (w : World) (o : Oper) (x : AV) : Prop := ∃ val, den ρ F x = some val ∧ (execOp a.eval o).run P w = .ok (.value val) w

theorem headAV_some {l : List AV} {x : AV} (h : headAV l = some x) : ∃ r, l = x :: r := by
  cases l with
  | nil => cases h
  | cons y r => exact ⟨r, by rw [Option.some.inj h]⟩

theorem Held.ptr (hA : Held ρ F g a) {x : Operand} {b off : Nat} (h : evO g x = .ptr b off) : ∃ q c, F b = some (q, c) ∧ a.eval x = .pointer (some ⟨q, off, none⟩) := by
  have := hA.eval (x := x) (by rw [h]; simp)
  rw [h] at this
  exact den_ptr this
theorem Held.sl (hA : Held ρ F g a) {x : Operand} {b off len sz : Nat} (h : evO g x = .sl b off len sz) : ∃ q c, F b = some (q, c) ∧ a.eval x = .slice (some ⟨q, off, none⟩) len ((c - off) / sz) := by
  have := hA.eval (x := x) (by rw [h]; simp)
  rw [h] at this
  exact den_sl this

theorem natOpt_some {d : Nat} {o : Option Operand} {k : Nat → Option β} {y : β} (h : natOpt g d o k = some y) :
    ∃ l, k l = some y ∧ (o = none ∧ l = d ∨ ∃ x q, o = some x ∧ Is (evO g x) (.int q (.ofNat l))) := by
  cases o with
  | none => exact ⟨d, h, .inl ⟨rfl, rfl⟩⟩
  | some x =>
    obtain ⟨q, l, h1, h2⟩ := asNat_some h
    exact ⟨l, h2, .inr ⟨x, q, rfl, h1⟩⟩

theorem rawOpt_some (hA : Held ρ F g a) {o : Option Operand} {k : Option Value → Option β} {y : β} (h : rawOpt g o k = some y) : k (o.map a.eval) = some y := by
  cases o with
  | none => exact h
  | some x =>
    obtain ⟨v, h1, h2⟩ := asRaw_some h
    simpa [hA.is h1] using h2

theorem evPick_spec (hA : Held ρ F g a) (o : Oper) {c p q : Operand} (ho : o.op = .pick c p q) {x : AV} (hx : x ≠ .bad) (h : evPick g c p q = some x) : Tells ρ P F a w o x := by
  obtain ⟨v, hv, h⟩ := asRaw_some h
  have hc := hA.is hv
  cases v <;> simp only at h <;> try cases h
  rename_i t
  rw [te_eq] at h
  refine ⟨if t then a.eval p else a.eval q, ?_, ?_⟩
  · cases t
    · obtain rfl := Option.some.inj h; exact hA.eval hx
    · obtain rfl := Option.some.inj h; exact hA.eval hx
  · unfold execOp
    simp only [ho, hc]
    cases t <;> simp [asBool]

theorem evBuild_spec (hA : Held ρ F g a) (o : Oper) {t : TypeId} {ps : Array (Nat × Operand)} (ho : o.op = .build t ps) {x : AV} (h : evBuild P g t ps = some x) : Tells ρ P F a w o x := by
  obtain ⟨z, hz, h⟩ := ob_some h
  obtain ⟨fs, hfs, h⟩ := ob_some h
  obtain ⟨pl, hpl, h⟩ := ob_some h
  obtain ⟨l, hl, h⟩ := ob_some h
  obtain rfl := Option.some.inj h
  obtain ⟨i, hi, hiz⟩ := zeroT_some hz
  have hu := structT_some hfs
  obtain ⟨vs, h1, h2, _⟩ := fillAV_spec (F := F) _ _ _ _ _ _ hl (dens_cellsV F z) (evParts_PV hA ps)
  have hb : P.built t (ps.map fun (i, x) => (i, a.eval x)).toList = some vs.toArray := by
    unfold Program.built
    simp only [hi, hu, hiz, hpl]
    simpa using h2
  refine ⟨.agg vs.toArray, by simp [den, h1], ?_⟩
  unfold execOp
  simp only [ho]
  exact valued (run_build w t _ _ hb)

theorem plain_tells (o : Oper) {s : Sem Value} {x : AV} (hs : execOp a.eval o = (do pure (Next.value (← s)))) (h : evPlain P s = some x) : Tells ρ P F a w o x := by
  obtain ⟨v, hx, hv⟩ := evPlain_some h
  exact ⟨v, hx.2 ρ F, by rw [hs]; exact valued (hv w)⟩

/-- the word on operations is true -/
def OrcOk (ρ : Syms) (P : Program) (oc : Orc) : Prop := ∀ op u v r, oc op u v = some r → u ≠ .bad ∧ v ≠ .bad ∧ ∀ F a b, den ρ F u = some a → den ρ F v = some b →
  ∃ c, den ρ F r = some c ∧ ∀ w t p q, (do eqGuard op t p q a b; binOp op t a b : Sem Value).run P w = .ok c w

theorem evBin_spec {oc : Orc} (hoc : OrcOk ρ P oc) (hA : Held ρ F g a) (o : Oper) {op : BinOp} {t ty : TypeId} {p q : Operand} (ho : o.op = .binOp op t p q ty) {x : AV} (h : evBin P oc g op t p q = some x) : Tells ρ P F a w o x := by
  unfold evBin at h
  cases hc : oc op (evO g p) (evO g q) with
  | some r =>
    rw [hc] at h
    obtain rfl := Option.some.inj (show some r = some x from h)
    obtain ⟨h1, h2, h3⟩ := hoc _ _ _ _ hc
    obtain ⟨c, hr, hrun⟩ := h3 F _ _ (hA.eval h1) (hA.eval h2)
    refine ⟨c, hr, ?_⟩
    unfold execOp
    simp only [ho]
    exact valued (hrun w t p q)
  | none =>
    rw [hc] at h
    obtain ⟨u, hu, h⟩ := asRaw_some (show asRaw (evO g p) _ = some x from h)
    obtain ⟨v, hv, h⟩ := asRaw_some h
    have h1 := hA.is hu
    have h2 := hA.is hv
    refine plain_tells o ?_ h
    unfold execOp
    simp only [ho, h1, h2]

theorem evFn_spec (hA : Held ρ F g a) (o : Oper) {f : Fn} {first cap : Array Operand} (ho : o.op = .makeFunc f first cap) {x : AV} (h : evFn g f first cap = some x) : Tells ρ P F a w o x := by
  cases f <;> simp only [evFn] at h <;> try cases h
  rename_i f
  obtain ⟨h0, h⟩ := gd_some h
  obtain ⟨hok, h⟩ := gd_some h
  obtain rfl := Option.some.inj h
  have h0' : first.size = 0 := Nat.eq_of_beq_eq_true h0
  have hf : first = #[] := Array.eq_empty_of_size_eq_zero h0'
  refine ⟨.func (.func f) #[] (cap.map a.eval), ?_, ?_⟩
  · have := dens_args hA cap.toList hok
    simp only [den, this, Option.map_some]
    congr 2
    apply Array.ext'
    simp
  · unfold execOp
    simp only [ho, hf]
    simp [Instr.makeFunc]

theorem slice_tells (hI : Inv ρ base F m w) (hA : Held ρ F g a) (o : Oper) {t e : TypeId} {y : Operand} {lo hi : Option Operand} (ho : o.op = .slice t y lo hi none) {ie : TypeInfo} (he : P.underlying t = some (.slice e)) (hie : P.info? e = some ie)
    {b off len l q : Nat} (hv : evO g y = .sl b off len ie.size) (hlo : lo = none ∧ l = 0 ∨ ∃ x k, lo = some x ∧ Is (evO g x) (.int k (.ofNat l))) (hhi : hi = none ∧ q = len ∨ ∃ x k, hi = some x ∧ Is (evO g x) (.int k (.ofNat q)))
    {k : Blk} (hk : m.at b = some k) (c2' : q ≤ len) (c3' : 1 ≤ ie.size) (c4' : off + len * ie.size ≤ k.n) (c5' : l = 0 ∨ l < q) : Tells ρ P F a w o (.sl b (off + l * ie.size) (q - l) ie.size) := by
  obtain ⟨g', c, hF, hy⟩ := hA.sl hv
  obtain ⟨g2, c2', hF', _, _, cs, _, hcs, hnc, _⟩ := hI.live b k hk
  rw [hF] at hF'
  obtain ⟨rfl, rfl⟩ := Prod.mk.inj (Option.some.inj hF')
  have hcap : len ≤ (c - off) / ie.size := (Nat.le_div_iff_mul_le c3').2 (by omega)
  have hmul : l * ie.size ≤ len * ie.size := Nat.mul_le_mul_right _ (by omega)
  refine ⟨.slice (some ⟨g', off + l * ie.size, none⟩) (q - l) ((c - off) / ie.size - l), ?_, ?_⟩
  · simp only [den, hF, Option.map_some]
    congr 2
    show (c - (off + l * ie.size)) / ie.size = _
    rw [show c - (off + l * ie.size) = c - off - ie.size * l by rw [Nat.mul_comm ie.size l]; omega, Nat.sub_mul_div]
  · unfold execOp
    simp only [ho, hy]
    refine valued (run_sliceAt_sl he hie g' off len _ l q _ _ ?_ ?_ (by omega) (by omega) hcap c5' w)
    · rcases hlo with ⟨rfl, rfl⟩ | ⟨y, q', rfl, hy'⟩
      · exact .inl ⟨rfl, rfl⟩
      · exact .inr ⟨q', by simp [hA.is hy']⟩
    · rcases hhi with ⟨rfl, rfl⟩ | ⟨y, q', rfl, hy'⟩
      · exact .inl ⟨rfl, rfl⟩
      · exact .inr ⟨q', by simp [hA.is hy']⟩

theorem bound_of {l q : Nat} (c5 : te (Nat.beq l 0) true (Nat.blt l q) = true) : l = 0 ∨ l < q := by
  rw [te_eq] at c5
  by_cases hl : Nat.beq l 0 = true
  · exact .inl (Nat.eq_of_beq_eq_true hl)
  · rw [if_neg hl] at c5
    exact .inr (Nat.le_of_ble_eq_true c5)

theorem evSlice_spec (hI : Inv ρ base F m w) (hA : Held ρ F g a) (o : Oper) {t : TypeId} {y : Operand} {lo hi mx : Option Operand} (ho : o.op = .slice t y lo hi mx) {x : AV}
    (h : evSlice P g m t y lo hi mx = some x) : Tells ρ P F a w o x := by
  unfold evSlice at h
  split at h
  · rename_i v hv
    have hv' : a.eval y = v := hA.is ⟨by rw [hv]; simp, fun _ F => by rw [hv]; simp [den]⟩
    have h1 := rawOpt_some hA h
    have h2 := rawOpt_some hA h1
    have h3 := rawOpt_some hA h2
    refine plain_tells o ?_ h3
    unfold execOp
    simp only [ho, hv']
  · rename_i b off len sz hv
    cases mx with
    | some _ => cases h
    | none =>
      obtain ⟨e, he, h⟩ := ob_some h
      obtain ⟨s, hs, h⟩ := ob_some h
      obtain ⟨l, h, hlo⟩ := natOpt_some h
      obtain ⟨q, h, hhi⟩ := natOpt_some h
      obtain ⟨k, hk, h⟩ := ob_some h
      obtain ⟨c1, h⟩ := gd_some h
      obtain ⟨c2, h⟩ := gd_some h
      obtain ⟨c3, h⟩ := gd_some h
      obtain ⟨c4, h⟩ := gd_some h
      obtain ⟨c5, h⟩ := gd_some h
      rw [strictN_eq, strictN_eq] at h
      obtain rfl := Option.some.inj h
      obtain rfl : s = sz := Nat.eq_of_beq_eq_true c1
      obtain ⟨ie, hie, rfl⟩ := sizeT_some hs
      exact slice_tells hI hA o ho (elemT_some he) hie hv hlo hhi hk (Nat.le_of_ble_eq_true c2) (Nat.le_of_ble_eq_true c3) (Nat.le_of_ble_eq_true c4) (bound_of c5)
  · cases h

theorem field1_tells (hA : Held ρ F g a) (o : Oper) {t : TypeId} {y : Operand} {i : Nat} (ho : o.op = .field t y i) {f : Field} {d : TypeDesc} {fs : Array Field} (hu : P.underlying t = some (.struct fs)) (hfs : fs[i]? = some f)
    (hd : P.underlying f.type = some d) (hgd : ¬ aggD d = true) {l : List AV} (hl : evO g y = .agg l) {x : AV} (h : headAV (dropAV l f.offset) = some x) : Tells ρ P F a w o x := by
  have hv := hA.eval (x := y) (by rw [hl]; simp)
  rw [hl] at hv
  obtain ⟨vs, hvs, hy⟩ := den_agg hv
  obtain ⟨r, hr⟩ := headAV_some h
  rw [dropAV_eq] at hr
  have hdd := dens_drop f.offset hvs
  rw [hr] at hdd
  obtain ⟨v, us, h1, h2, h3⟩ := dens_cons hdd
  have hget : vs[f.offset]? = some v := by
    have : (vs.drop f.offset)[0]? = some v := by rw [h3]; rfl
    simpa using this
  refine ⟨v, h1, ?_⟩
  unfold execOp
  simp only [ho, hy]
  refine valued ?_
  simp [Instr.field, run_underlying hu, hfs, Go.asAgg, part, run_isAgg hd, hgd, hget]

theorem evField_spec (hA : Held ρ F g a) (o : Oper) {t : TypeId} {y : Operand} {i : Nat} (ho : o.op = .field t y i) {x : AV} (h : evField P g t y i = some x) : Tells ρ P F a w o x := by
  obtain ⟨l, hl, h⟩ := asAgg_some h
  obtain ⟨f, hf, h⟩ := ob_some h
  obtain ⟨q, hq, h⟩ := ob_some h
  obtain ⟨fs, hu, hfs⟩ := fieldT_some hf
  obtain ⟨d, hd, rfl⟩ := aggT_some hq
  rw [te_eq] at h
  by_cases hgd : aggD d = true
  · rw [if_pos hgd] at h
    have hv := hA.eval (x := y) (by rw [hl]; simp)
    rw [hl] at hv
    obtain ⟨vs, hvs, hy⟩ := den_agg hv
    obtain ⟨s, hs, h⟩ := ob_some h
    obtain rfl := Option.some.inj h
    obtain ⟨ie, hie, rfl⟩ := sizeT_some hs
    refine ⟨.agg ((vs.drop f.offset).take ie.size).toArray, ?_, ?_⟩
    · rw [takeAV_eq, dropAV_eq]
      simp [den, dens_take _ (dens_drop _ hvs)]
    · unfold execOp
      simp only [ho, hy]
      refine valued ?_
      simp [Instr.field, run_underlying hu, hfs, Go.asAgg, part, run_isAgg hd, hgd, run_size hie]
  · rw [if_neg hgd] at h
    exact field1_tells hA o ho hu hfs hd hgd hl h

theorem extract_tells (hA : Held ρ F g a) (o : Oper) {y : Operand} {i : Nat} (ho : o.op = .extract y i) {l : List AV} (hl : evO g y = .tup l) {x : AV} (h : headAV (dropAV l i) = some x) : Tells ρ P F a w o x := by
  obtain ⟨r, hr⟩ := headAV_some h
  rw [dropAV_eq] at hr
  have hv := hA.eval (x := y) (by rw [hl]; simp)
  rw [hl] at hv
  obtain ⟨vs, hvs, hy⟩ := den_tup hv
  have hdd := dens_drop i hvs
  rw [hr] at hdd
  obtain ⟨v, us, h1, h2, h3⟩ := dens_cons hdd
  have hget : vs[i]? = some v := by
    have : (vs.drop i)[0]? = some v := by rw [h3]; rfl
    simpa using this
  refine ⟨v, h1, ?_⟩
  unfold execOp
  simp only [ho, hy]
  refine valued ?_
  simp [Instr.extract, hget]

theorem rawAll_some (hA : Held ρ F g a) : ∀ {l : List Operand} {vs : List Value}, rawAll (evArgs g l) = some vs → l.map a.eval = vs
  | [], vs, h => by obtain rfl := Option.some.inj (show some [] = some vs from h); rfl
  | x :: l, vs, h => by
    have h' : asRaw (evO g x) (fun v => ob (rawAll (evArgs g l)) fun vs => some (v :: vs)) = some vs := h
    obtain ⟨v, hv, h'⟩ := asRaw_some h'
    obtain ⟨us, hus, h'⟩ := ob_some h'
    obtain rfl := Option.some.inj h'
    simp [rawAll_some hA hus, hA.is hv]

theorem rawArgs (hA : Held ρ F g a) {args : Array Operand} {vs : List Value} (h : rawAll (evArgs g args.toList) = some vs) : args.map a.eval = vs.toArray := by
  apply Array.ext'
  simpa using rawAll_some hA h

theorem one_some {α : Type} {l : List α} {k : α → Option β} {y : β} (h : one? l k = some y) : ∃ x, l = [x] ∧ k x = some y := by
  unfold one? at h
  split at h
  · exact ⟨_, rfl, h⟩
  · cases h
theorem two_some {α : Type} {l : List α} {k : α → α → Option β} {y : β} (h : two? l k = some y) : ∃ x z, l = [x, z] ∧ k x z = some y := by
  unfold two? at h
  split at h
  · exact ⟨_, _, rfl, h⟩
  · cases h

theorem run_call_builtin (o : Oper) {c : Call} {b : Builtin} (ho : o.op = .call c) (hb : c.callee = .builtin b) (w : World) :
    ∃ cs, execOp a.eval o = builtin b c.argTypes o.type cs (c.args.map a.eval) := by
  refine ⟨(c.args.map fun | .const _ => true | _ => false), ?_⟩
  unfold execOp
  simp only [ho, resolve, hb]
  rfl

theorem len_sl_tells (hA : Held ρ F g a) (o : Oper) {c : Call} (ho : o.op = .call c) (hb : c.callee = .builtin .len) {y : Operand} {t e : TypeId} (hy : c.args.toList = [y]) (ht : c.argTypes.toList = [t]) (he : elemT P t = some e)
    {b off len sz : Nat} (hv : evO g y = .sl b off len sz) : Tells ρ P F a w o (.nat len) := by
  obtain ⟨cs, hrun⟩ := run_call_builtin (a := a) o ho hb w
  have hargs : c.args.map a.eval = #[a.eval y] := by apply Array.ext'; simp [hy]
  have htys : c.argTypes = #[t] := by apply Array.ext'; simp [ht]
  obtain ⟨g', c', hF, hyv⟩ := hA.sl hv
  refine ⟨.int .i64 (.ofNat len), by simp [den], ?_⟩
  rw [hrun]
  refine valued ?_
  rw [hargs, htys, hyv]
  simp [Builtin.len_, run_underlying (elemT_some he), goInt]

theorem evCallP_spec (hA : Held ρ F g a) (o : Oper) {c : Call} (ho : o.op = .call c) {x : AV} (h : evCallP P g c = some x) : Tells ρ P F a w o x := by
  unfold evCallP at h
  split at h
  · rename_i b hb
    obtain ⟨cs, hrun⟩ := run_call_builtin (a := a) o ho hb w
    cases b <;> simp only [evBuiltin] at h <;> try cases h
    case len =>
      obtain ⟨y, hy, h⟩ := one_some h
      obtain ⟨t, ht, h⟩ := one_some h
      unfold evLen1 at h
      split at h
      · rename_i b off len sz hv
        obtain ⟨e, he, h⟩ := ob_some h
        obtain rfl := Option.some.inj h
        exact len_sl_tells hA o ho hb hy ht he hv
      · obtain ⟨v, hv, h⟩ := asRaw_some h
        have hargs : c.args.map a.eval = #[a.eval y] := by apply Array.ext'; simp [hy]
        have htys : c.argTypes = #[t] := by apply Array.ext'; simp [ht]
        refine plain_tells o ?_ h
        rw [hrun, hargs, htys, hA.is hv]
        rfl
    case max =>
      obtain ⟨vs, hvs, h⟩ := ob_some h
      refine plain_tells o ?_ h
      rw [hrun, rawArgs hA hvs]
      rfl
    case min =>
      obtain ⟨vs, hvs, h⟩ := ob_some h
      refine plain_tells o ?_ h
      rw [hrun, rawArgs hA hvs]
      rfl
  · cases h

theorem evSlow_spec {oc : Orc} (hoc : OrcOk ρ P oc) (hI : Inv ρ base F m w) (hA : Held ρ F g a) (o : Oper) {x : AV} (hx : x ≠ .bad) (h : evSlow P oc g m o.op = some x) : Tells ρ P F a w o x := by
  generalize ho : o.op = op at h
  cases op <;> simp only [evSlow] at h <;> try cases h
  case pick => exact evPick_spec hA o ho hx h
  case build => exact evBuild_spec hA o ho h
  case binOp => exact evBin_spec hoc hA o ho h
  case unOp op t y =>
    obtain ⟨v, hv, h⟩ := asRaw_some h
    refine plain_tells o ?_ h
    unfold execOp
    simp only [ho, hA.is hv]
  case convert s d y =>
    obtain ⟨v, hv, h⟩ := asRaw_some h
    refine plain_tells o ?_ h
    unfold execOp
    simp only [ho, hA.is hv]
  case makeFunc => exact evFn_spec hA o ho h
  case slice => exact evSlice_spec hI hA o ho h
  case field => exact evField_spec hA o ho h
  case index t y i =>
    obtain ⟨v, hv, h⟩ := asRaw_some h
    obtain ⟨u, hu, h⟩ := asRaw_some h
    refine plain_tells o ?_ h
    unfold execOp
    simp only [ho, hA.is hv, hA.is hu]
  case call => exact evCallP_spec hA o ho h

end Go.Proofs.Yteaaahcgkodcdaa.Ew
