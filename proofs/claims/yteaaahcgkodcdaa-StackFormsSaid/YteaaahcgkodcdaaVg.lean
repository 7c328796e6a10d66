/- The evaluator tells the truth, part 5: the operations that leave the memory, joined. -/
import Derived.Test.YteaaahcgkodcdaaVf
namespace Go.Proofs.Yteaaahcgkodcdaa.Ev
open Go Go.RowKit
set_option linter.unusedSimpArgs false
set_option linter.unusedVariables false

variable {β : Type} {P : Program} {base wr : Nat} {F : Env} {m : Mem} {w : World} {n : Nat} {tm : Tr AV} {a : Act}

/-- what is shown of each -/
def Tells (P : Program) (F : Env) (a : Act) (w : World) (o : Oper) (x : AV) : Prop := ∃ val, den F x = some val ∧ (execOp a.eval o).run P w = .ok (.value val) w

theorem headAV_some {l : List AV} {x : AV} (h : headAV l = some x) : ∃ r, l = x :: r := by
  cases l with
  | nil => cases h
  | cons y r => exact ⟨r, by rw [Option.some.inj h]⟩

theorem den_ptr {b off : Nat} {val : Value} (h : den F (.ptr b off) = some val) : ∃ g c, F b = some (g, c) ∧ val = .pointer (some ⟨g, off, none⟩) := by
  simp only [den, Option.map_eq_some_iff] at h
  obtain ⟨⟨g, c⟩, h1, h2⟩ := h
  exact ⟨g, c, h1, h2.symm⟩
theorem den_sl {b off len sz : Nat} {val : Value} (h : den F (.sl b off len sz) = some val) : ∃ g c, F b = some (g, c) ∧ val = .slice (some ⟨g, off, none⟩) len ((c - off) / sz) := by
  simp only [den, Option.map_eq_some_iff] at h
  obtain ⟨⟨g, c⟩, h1, h2⟩ := h
  exact ⟨g, c, h1, h2.symm⟩
theorem den_agg {l : List AV} {val : Value} (h : den F (.agg l) = some val) : ∃ vs, dens F l = some vs ∧ val = .agg vs.toArray := by
  simp only [den, Option.map_eq_some_iff] at h
  obtain ⟨vs, h1, h2⟩ := h
  exact ⟨vs, h1, h2.symm⟩
theorem den_tup {l : List AV} {val : Value} (h : den F (.tup l) = some val) : ∃ vs, dens F l = some vs ∧ val = .tuple vs.toArray := by
  simp only [den, Option.map_eq_some_iff] at h
  obtain ⟨vs, h1, h2⟩ := h
  exact ⟨vs, h1, h2.symm⟩
theorem den_fn {f : FuncId} {l : List AV} {val : Value} (h : den F (.fn f l) = some val) : ∃ vs, dens F l = some vs ∧ val = .func (.func f) #[] vs.toArray := by
  simp only [den, Option.map_eq_some_iff] at h
  obtain ⟨vs, h1, h2⟩ := h
  exact ⟨vs, h1, h2.symm⟩

theorem AR.ptr (hA : AR F n tm a) {x : Operand} {b off : Nat} (h : evO tm x = .ptr b off) : ∃ g c, F b = some (g, c) ∧ a.eval x = .pointer (some ⟨g, off, none⟩) := by
  have := hA.eval x
  rw [h] at this
  exact den_ptr this
theorem AR.sl (hA : AR F n tm a) {x : Operand} {b off len sz : Nat} (h : evO tm x = .sl b off len sz) : ∃ g c, F b = some (g, c) ∧ a.eval x = .slice (some ⟨g, off, none⟩) len ((c - off) / sz) := by
  have := hA.eval x
  rw [h] at this
  exact den_sl this

theorem evPick_spec (hA : AR F n tm a) (o : Oper) {c p q : Operand} (ho : o.op = .pick c p q) {x : AV} (h : evPick tm c p q = some x) : Tells P F a w o x := by
  obtain ⟨v, hv, h⟩ := asRaw_some h
  have hc := hA.raw hv
  cases v <;> simp only at h <;> try cases h
  rename_i t
  rw [te_eq] at h
  refine ⟨if t then a.eval p else a.eval q, ?_, ?_⟩
  · cases t
    · obtain rfl := Option.some.inj h; exact hA.eval q
    · obtain rfl := Option.some.inj h; exact hA.eval p
  · unfold execOp
    simp only [ho, hc]
    cases t <;> simp [asBool]

theorem evBuild_spec (hA : AR F n tm a) (o : Oper) {t : TypeId} {ps : Array (Nat × Operand)} (ho : o.op = .build t ps) {x : AV} (h : evBuild P tm t ps = some x) : Tells P F a w o x := by
  obtain ⟨z, hz, h⟩ := ob_some h
  obtain ⟨fs, hfs, h⟩ := ob_some h
  obtain ⟨pl, hpl, h⟩ := ob_some h
  obtain ⟨l, hl, h⟩ := ob_some h
  obtain rfl := Option.some.inj h
  obtain ⟨i, hi, hiz⟩ := zeroT_some hz
  have hu := structT_some hfs
  obtain ⟨vs, h1, h2, _⟩ := fillAV_spec (F := F) _ _ _ _ _ _ hl (dens_cellsV F z) (evParts_fst tm a ps) (evParts_snd hA ps)
  have hb : P.built t (ps.map fun (i, x) => (i, a.eval x)).toList = some vs.toArray := by
    unfold Program.built
    simp only [hi, hu, hiz, hpl]
    simpa using h2
  refine ⟨.agg vs.toArray, by simp [den, h1], ?_⟩
  unfold execOp
  simp only [ho]
  exact valued (run_build w t _ _ hb)

theorem evLoad_spec (hI : Inv base wr F m w) (hA : AR F n tm a) (o : Oper) {t : TypeId} {y : Operand} (ho : o.op = .load t y) {x : AV} (h : evLoad P tm m t y = some x) : Tells P F a w o x := by
  obtain ⟨b, off, hb, h⟩ := asPtr_some h
  obtain ⟨g, c, val, h1, h2, h3⟩ := evRead_spec hI h
  obtain ⟨g', c', h4, h5⟩ := hA.ptr hb
  rw [h4] at h1
  obtain ⟨rfl, rfl⟩ := Prod.mk.inj (Option.some.inj h1)
  refine ⟨val, h2, ?_⟩
  unfold execOp
  simp only [ho, h5]
  refine valued ?_
  simp [Instr.loadAt, Instr.sureAddr, h3]

theorem plain_tells (o : Oper) {s : Sem Value} {x : AV} (hs : execOp a.eval o = (do pure (Next.value (← s)))) (h : evPlain P s = some x) : Tells P F a w o x := by
  obtain ⟨v, rfl, hv⟩ := evPlain_some h
  exact ⟨v, den_raw, by rw [hs]; exact valued (hv w)⟩

theorem evBin_spec (hA : AR F n tm a) (o : Oper) {op : BinOp} {t ty : TypeId} {p q : Operand} (ho : o.op = .binOp op t p q ty) {x : AV} (h : evBin P tm op t p q = some x) : Tells P F a w o x := by
  obtain ⟨u, hu, h⟩ := asRaw_some h
  obtain ⟨v, hv, h⟩ := asRaw_some h
  have h1 := hA.raw hu
  have h2 := hA.raw hv
  have hs : execOp a.eval o = (do pure (Next.value (← (do eqGuard op t p q u v; binOp op t u v)))) := by
    unfold execOp
    simp only [ho, h1, h2]
  rcases fastBin_some (P := P) h t p q with h | ⟨val, rfl, hrun⟩
  · exact plain_tells o hs h
  · exact ⟨val, den_raw, by rw [hs]; exact valued (hrun w)⟩

theorem evFn_spec (hA : AR F n tm a) (o : Oper) {f : Fn} {first cap : Array Operand} (ho : o.op = .makeFunc f first cap) {x : AV} (h : evFn tm f first cap = some x) : Tells P F a w o x := by
  cases f <;> simp only [evFn] at h <;> try cases h
  rename_i f
  obtain ⟨h0, h⟩ := gd_some h
  obtain rfl := Option.some.inj h
  have h0' : first.size = 0 := Nat.eq_of_beq_eq_true h0
  have hf : first = #[] := Array.eq_empty_of_size_eq_zero h0'
  refine ⟨.func (.func f) #[] (cap.map a.eval), ?_, ?_⟩
  · have := dens_map hA cap.toList
    simp only [den, evArgs, this, Option.map_some]
    congr 2
    apply Array.ext'
    simp
  · unfold execOp
    simp only [ho, hf]
    simp [Instr.makeFunc]

theorem evSlice_spec (hI : Inv base wr F m w) (hA : AR F n tm a) (o : Oper) {t : TypeId} {y : Operand} {lo hi mx : Option Operand} (ho : o.op = .slice t y lo hi mx) {x : AV}
    (h : evSlice P tm m t y lo hi mx = some x) : Tells P F a w o x := by
  unfold evSlice at h
  split at h
  · rename_i v hv
    have h1 := rawOpt_some hA h
    have h2 := rawOpt_some hA h1
    have h3 := rawOpt_some hA h2
    refine plain_tells o ?_ h3
    unfold execOp
    simp only [ho, hA.raw hv]
  · rename_i b off len sz hv
    cases mx with
    | some _ => cases h
    | none =>
      obtain ⟨e, he, h⟩ := ob_some h
      obtain ⟨s, hs, h⟩ := ob_some h
      obtain ⟨l, h, hlo⟩ := natOpt_some h
      obtain ⟨q, h, hhi⟩ := natOpt_some h
      obtain ⟨k, hk, h⟩ := ob_some h
      obtain ⟨c1, h⟩ := gd_some h
      obtain ⟨c2, h⟩ := gd_some h
      obtain ⟨c3, h⟩ := gd_some h
      obtain ⟨c4, h⟩ := gd_some h
      obtain ⟨c5, h⟩ := gd_some h
      rw [strictN_eq, strictN_eq] at h
      obtain rfl := Option.some.inj h
      obtain rfl : s = sz := Nat.eq_of_beq_eq_true c1
      have c2' : q ≤ len := Nat.le_of_ble_eq_true c2
      have c3' : 1 ≤ s := Nat.le_of_ble_eq_true c3
      have c4' : off + len * s ≤ k.n := Nat.le_of_ble_eq_true c4
      have c5' : l = 0 ∨ l < q := by
        rw [te_eq] at c5
        by_cases hl : Nat.beq l 0 = true
        · exact .inl (Nat.eq_of_beq_eq_true hl)
        · rw [if_neg hl] at c5
          exact .inr (Nat.le_of_ble_eq_true c5)
      obtain ⟨ie, hie, rfl⟩ := sizeT_some hs
      obtain ⟨g, c, hF, hy⟩ := hA.sl hv
      obtain ⟨g', c', hF', _, _, cs, _, hcs, hnc, _⟩ := hI.live b k hk
      rw [hF] at hF'
      obtain ⟨rfl, rfl⟩ := Prod.mk.inj (Option.some.inj hF')
      have hcap : len ≤ (c - off) / ie.size := (Nat.le_div_iff_mul_le c3').2 (by omega)
      have hmul : l * ie.size ≤ len * ie.size := Nat.mul_le_mul_right _ (by omega)
      refine ⟨.slice (some ⟨g, off + l * ie.size, none⟩) (q - l) ((c - off) / ie.size - l), ?_, ?_⟩
      · simp only [den, hF, Option.map_some]
        congr 2
        show (c - (off + l * ie.size)) / ie.size = _
        rw [show c - (off + l * ie.size) = c - off - ie.size * l by rw [Nat.mul_comm ie.size l]; omega, Nat.sub_mul_div]
      · unfold execOp
        simp only [ho, hy]
        refine valued (run_sliceAt_sl (elemT_some he) hie g off len _ l q _ _ ?_ ?_ c2' (by omega) hcap c5' w)
        · rcases hlo with ⟨rfl, rfl⟩ | ⟨y, q', rfl, hy'⟩
          · exact .inl ⟨rfl, rfl⟩
          · exact .inr ⟨q', by simp [hA.raw hy']⟩
        · rcases hhi with ⟨rfl, rfl⟩ | ⟨y, q', rfl, hy'⟩
          · exact .inl ⟨rfl, rfl⟩
          · exact .inr ⟨q', by simp [hA.raw hy']⟩
  · cases h

theorem evFieldAddr_spec (hA : AR F n tm a) (o : Oper) {t : TypeId} {y : Operand} {i : Nat} (ho : o.op = .fieldAddr t y i) {x : AV} (h : evFieldAddr P tm t y i = some x) : Tells P F a w o x := by
  obtain ⟨b, off, hb, h⟩ := asPtr_some h
  obtain ⟨f, hf, h⟩ := ob_some h
  obtain ⟨s, hs, h⟩ := ob_some h
  obtain ⟨c1, h⟩ := gd_some h
  rw [strictN_eq] at h
  obtain rfl := Option.some.inj h
  have c1' : 1 ≤ s := Nat.le_of_ble_eq_true c1
  obtain ⟨fs, hu, hfs⟩ := fieldT_some hf
  obtain ⟨ie, hie, rfl⟩ := sizeT_some hs
  obtain ⟨g, c, hF, hy⟩ := hA.ptr hb
  refine ⟨.pointer (some ⟨g, off + f.offset, none⟩), by simp only [den, hF, Option.map_some]; rfl, ?_⟩
  unfold execOp
  simp only [ho, hy]
  refine valued ?_
  have hne : ¬ ie.size = 0 := by omega
  simp [Instr.fieldAt, run_underlying hu, hfs, Instr.sureAddr, fieldPlace, run_size hie, hne, add_eq]

theorem evField_spec (hA : AR F n tm a) (o : Oper) {t : TypeId} {y : Operand} {i : Nat} (ho : o.op = .field t y i) {x : AV} (h : evField P tm t y i = some x) : Tells P F a w o x := by
  obtain ⟨l, hl, h⟩ := asAgg_some h
  obtain ⟨f, hf, h⟩ := ob_some h
  obtain ⟨g, hg, h⟩ := ob_some h
  obtain ⟨fs, hu, hfs⟩ := fieldT_some hf
  obtain ⟨d, hd, rfl⟩ := aggT_some hg
  have hv := hA.eval y
  rw [hl] at hv
  obtain ⟨vs, hvs, hy⟩ := den_agg hv
  rw [te_eq] at h
  by_cases hgd : aggD d = true
  · rw [if_pos hgd] at h
    obtain ⟨s, hs, h⟩ := ob_some h
    obtain rfl := Option.some.inj h
    obtain ⟨ie, hie, rfl⟩ := sizeT_some hs
    refine ⟨.agg ((vs.drop f.offset).take ie.size).toArray, ?_, ?_⟩
    · rw [takeAV_eq, dropAV_eq]
      simp [den, dens_take _ (dens_drop _ hvs)]
    · unfold execOp
      simp only [ho, hy]
      refine valued ?_
      simp [Instr.field, run_underlying hu, hfs, Go.asAgg, part, run_isAgg hd, hgd, run_size hie]
  · rw [if_neg hgd] at h
    obtain ⟨r, hr⟩ := headAV_some h
    rw [dropAV_eq] at hr
    have hdd := dens_drop f.offset hvs
    rw [hr] at hdd
    obtain ⟨v, us, h1, h2, h3⟩ := dens_cons hdd
    have hget : vs[f.offset]? = some v := by
      have : (vs.drop f.offset)[0]? = some v := by rw [h3]; rfl
      simpa using this
    refine ⟨v, h1, ?_⟩
    unfold execOp
    simp only [ho, hy]
    refine valued ?_
    simp [Instr.field, run_underlying hu, hfs, Go.asAgg, part, run_isAgg hd, hgd, hget]

theorem evIndexAddr_spec (hA : AR F n tm a) (o : Oper) {t : TypeId} {y ix : Operand} (ho : o.op = .indexAddr t y ix) {x : AV} (h : evIndexAddr P tm t y ix = some x) : Tells P F a w o x := by
  obtain ⟨b, off, len, sz, hb, h⟩ := asSl_some h
  obtain ⟨q, i, hi, h⟩ := asNat_some h
  obtain ⟨e, he, h⟩ := ob_some h
  obtain ⟨s, hs, h⟩ := ob_some h
  obtain ⟨c1, h⟩ := gd_some h
  obtain ⟨c2, h⟩ := gd_some h
  rw [strictN_eq] at h
  obtain rfl := Option.some.inj h
  obtain rfl : s = sz := Nat.eq_of_beq_eq_true c1
  have c2' : i < len := Nat.le_of_ble_eq_true c2
  have hu := elemT_some he
  obtain ⟨ie, hie, rfl⟩ := sizeT_some hs
  obtain ⟨g, c, hF, hy⟩ := hA.sl hb
  have hix := hA.raw hi
  refine ⟨.pointer (some ⟨g, off + i * ie.size, none⟩), by simp only [den, hF, Option.map_some]; rfl, ?_⟩
  unfold execOp
  simp only [ho, hy, hix]
  refine valued ?_
  have hlt : (i : Int) < (len : Int) := by omega
  have hnl : ¬ len ≤ i := by omega
  simp [Instr.indexAt, asIntOf, run_underlying hu, hlt, hnl, c2', run_size hie, add_eq]

theorem evExtract_spec (hA : AR F n tm a) (o : Oper) {y : Operand} {i : Nat} (ho : o.op = .extract y i) {x : AV} (h : evExtract tm y i = some x) : Tells P F a w o x := by
  obtain ⟨l, hl, h⟩ := asTup_some h
  obtain ⟨r, hr⟩ := headAV_some h
  rw [dropAV_eq] at hr
  have hv := hA.eval y
  rw [hl] at hv
  obtain ⟨vs, hvs, hy⟩ := den_tup hv
  have hdd := dens_drop i hvs
  rw [hr] at hdd
  obtain ⟨v, us, h1, h2, h3⟩ := dens_cons hdd
  have hget : vs[i]? = some v := by
    have : (vs.drop i)[0]? = some v := by rw [h3]; rfl
    simpa using this
  refine ⟨v, h1, ?_⟩
  unfold execOp
  simp only [ho, hy]
  refine valued ?_
  simp [Instr.extract, hget]

theorem rawAll_some {l : List AV} {vs : List Value} (h : rawAll l = some vs) : l = vs.map .raw := by
  induction l generalizing vs with
  | nil => obtain rfl := Option.some.inj (show some [] = some vs from h); rfl
  | cons x l ih =>
    have h' : asRaw x (fun v => ob (rawAll l) fun vs => some (v :: vs)) = some vs := h
    obtain ⟨v, rfl, h'⟩ := asRaw_some h'
    obtain ⟨us, hus, h'⟩ := ob_some h'
    obtain rfl := Option.some.inj h'
    rw [ih hus]
    rfl

theorem rawArgs (hA : AR F n tm a) {args : Array Operand} {vs : List Value} (h : rawAll (evArgs tm args.toList) = some vs) : args.map a.eval = vs.toArray := by
  have h1 := rawAll_some h
  have h2 := dens_map hA args.toList
  rw [show args.toList.map (evO tm) = evArgs tm args.toList from rfl, h1, dens_raw] at h2
  apply Array.ext'
  simpa using (Option.some.inj h2).symm

theorem one_some {α : Type} {l : List α} {k : α → Option β} {y : β} (h : one? l k = some y) : ∃ x, l = [x] ∧ k x = some y := by
  unfold one? at h
  split at h
  · exact ⟨_, rfl, h⟩
  · cases h
theorem two_some {α : Type} {l : List α} {k : α → α → Option β} {y : β} (h : two? l k = some y) : ∃ x z, l = [x, z] ∧ k x z = some y := by
  unfold two? at h
  split at h
  · exact ⟨_, _, rfl, h⟩
  · cases h

theorem run_call_builtin (o : Oper) {c : Call} {b : Builtin} (ho : o.op = .call c) (hb : c.callee = .builtin b) (w : World) :
    ∃ cs, execOp a.eval o = builtin b c.argTypes o.type cs (c.args.map a.eval) := by
  refine ⟨(c.args.map fun | .const _ => true | _ => false), ?_⟩
  unfold execOp
  simp only [ho, resolve, hb]
  rfl

theorem min_type (at_ : Array TypeId) (t u : TypeId) (args : Array Value) : Builtin.min_ at_ t args = Builtin.min_ at_ u args := rfl
theorem max_type (at_ : Array TypeId) (t u : TypeId) (args : Array Value) : Builtin.max_ at_ t args = Builtin.max_ at_ u args := rfl
theorem len_type (at_ : Array TypeId) (t u : TypeId) (args : Array Value) : Builtin.len_ at_ t args = Builtin.len_ at_ u args := rfl

theorem evCallP_spec (hA : AR F n tm a) (o : Oper) {c : Call} (ho : o.op = .call c) {x : AV} (h : evCallP P tm c = some x) : Tells P F a w o x := by
  unfold evCallP at h
  split at h
  · rename_i b hb
    obtain ⟨cs, hrun⟩ := run_call_builtin (a := a) o ho hb w
    cases b <;> simp only [evBuiltin] at h <;> try cases h
    case len =>
      obtain ⟨y, hy, h⟩ := one_some h
      obtain ⟨t, ht, h⟩ := one_some h
      have hargs : c.args.map a.eval = #[a.eval y] := by apply Array.ext'; simp [hy]
      have htys : c.argTypes = #[t] := by apply Array.ext'; simp [ht]
      unfold evLen1 at h
      split at h
      · rename_i b off len sz hv
        obtain ⟨e, he, h⟩ := ob_some h
        obtain rfl := Option.some.inj h
        obtain ⟨g, c', hF, hyv⟩ := hA.sl hv
        refine ⟨_, den_raw, ?_⟩
        rw [hrun]
        refine valued ?_
        rw [hargs, htys, hyv]
        simp [Builtin.len_, run_underlying (elemT_some he), goInt]
      · rename_i v hv
        refine plain_tells o ?_ h
        rw [hrun, hargs, htys, hA.raw hv]
        rfl
      · cases h
    case max =>
      obtain ⟨vs, hvs, h⟩ := ob_some h
      refine plain_tells o ?_ h
      rw [hrun, rawArgs hA hvs]
      rfl
    case min =>
      obtain ⟨vs, hvs, h⟩ := ob_some h
      refine plain_tells o ?_ h
      rw [hrun, rawArgs hA hvs]
      rfl
  · cases h

theorem evPure_spec (hI : Inv base wr F m w) (hA : AR F n tm a) (o : Oper) {x : AV} (h : evPure P tm m o.op = some x) : Tells P F a w o x := by
  generalize ho : o.op = op at h
  cases op <;> simp only [evPure] at h <;> try cases h
  case move y => exact ⟨_, hA.eval y, by unfold execOp; simp only [ho]; rfl⟩
  case assign y => exact ⟨_, hA.eval y, by unfold execOp; simp only [ho]; rfl⟩
  case pick => exact evPick_spec hA o ho h
  case build => exact evBuild_spec hA o ho h
  case load => exact evLoad_spec hI hA o ho h
  case binOp => exact evBin_spec hA o ho h
  case unOp op t y =>
    obtain ⟨v, hv, h⟩ := asRaw_some h
    refine plain_tells o ?_ h
    unfold execOp
    simp only [ho, hA.raw hv]
  case convert s d y =>
    obtain ⟨v, hv, h⟩ := asRaw_some h
    refine plain_tells o ?_ h
    unfold execOp
    simp only [ho, hA.raw hv]
  case makeFunc => exact evFn_spec hA o ho h
  case slice => exact evSlice_spec hI hA o ho h
  case fieldAddr => exact evFieldAddr_spec hA o ho h
  case field => exact evField_spec hA o ho h
  case indexAddr => exact evIndexAddr_spec hA o ho h
  case index t y i =>
    obtain ⟨v, hv, h⟩ := asRaw_some h
    obtain ⟨u, hu, h⟩ := asRaw_some h
    refine plain_tells o ?_ h
    unfold execOp
    simp only [ho, hA.raw hv, hA.raw hu]
  case extract => exact evExtract_spec hA o ho h
  case call => exact evCallP_spec hA o ho h

end Go.Proofs.Yteaaahcgkodcdaa.Ev
