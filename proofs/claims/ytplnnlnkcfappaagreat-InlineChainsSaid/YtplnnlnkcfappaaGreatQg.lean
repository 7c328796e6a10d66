/- The second evaluator tells the truth, part 5: the operations that leave the memory, done quickly; joined. -/
import Derived.Test.YtplnnlnkcfappaaGreatQf
import Derived.IntWalk
namespace Go.Proofs.YtplnnlnkcfappaaGreat.E3
open Go Go.RowKit
set_option linter.unusedSimpArgs false
set_option linter.unusedVariables false

variable {ρ : Syms}

variable {P : Program} {oc : Orc} {S : Nat} {sg : List Nat}

/-- it goes on with a value that the operation tells, wherever and whenever -/
def Goes (ρ : Syms) (P : Program) (oc : Orc) (S : Nat) (sg : List Nat) (d : Put) (kc : KO) (ih : Rec) (fr : Fr) (es : Es) (m : Mem) (o : Oper) (y : Out) : Prop :=
  ∃ x, fin d kc ih fr es m x = some y ∧ ∀ (base : Nat) (F : Env) (w : World) (a : Act), OrcOk ρ P oc → Inv ρ base F m w → Held ρ F (getG S sg fr es) a → Tells ρ P F a w o x

/-- the same, whatever the memory -/
def Goes0 (ρ : Syms) (P : Program) (oc : Orc) (S : Nat) (sg : List Nat) (d : Put) (kc : KO) (ih : Rec) (fr : Fr) (es : Es) (m : Mem) (o : Oper) (y : Out) : Prop :=
  ∃ x, fin d kc ih fr es m x = some y ∧ ∀ (F : Env) (w : World) (a : Act), OrcOk ρ P oc → Held ρ F (getG S sg fr es) a → Tells ρ P F a w o x
theorem Goes0.goes {d : Put} {kc : KO} {ih : Rec} {fr : Fr} {es : Es} {m : Mem} {o : Oper} {y : Out} (h : Goes0 ρ P oc S sg d kc ih fr es m o y) : Goes ρ P oc S sg d kc ih fr es m o y := by
  obtain ⟨x, h1, h2⟩ := h
  exact ⟨x, h1, fun _ F w a hoc _ hA => h2 F w a hoc hA⟩

variable {d : Put} {kc : KO} {ih : Rec} {fr : Fr} {es : Es} {m : Mem} {y : Out}

theorem move_goes (o : Oper) {x : Operand} (ho : o.op = .move x ∨ o.op = .assign x) (h : opMove (getB S sg x) d kc ih fr es m = some y) : Goes0 ρ P oc S sg d kc ih fr es m o y := by
  obtain ⟨hb, h⟩ := force_some h
  rw [getB_at] at hb h
  refine ⟨_, h, fun F w a hoc hA => ⟨_, hA.eval hb, ?_⟩⟩
  rcases ho with ho | ho <;> (unfold execOp; simp only [ho]; rfl)

theorem slow_goes0 (o : Oper) (hns : notSlice o.op = true) (h : opSlow P oc S sg o.op d kc ih fr es m = some y) : Goes0 ρ P oc S sg d kc ih fr es m o y := by
  obtain ⟨x, hx, h⟩ := obR_some h
  obtain ⟨hb, h⟩ := force_some h
  exact ⟨x, h, fun F w a hoc hA => evSlow_spec0 hoc hA o hns hb hx⟩

theorem slow_goes (o : Oper) (h : opSlow P oc S sg o.op d kc ih fr es m = some y) : Goes ρ P oc S sg d kc ih fr es m o y := by
  obtain ⟨x, hx, h⟩ := obR_some h
  obtain ⟨hb, h⟩ := force_some h
  exact ⟨x, h, fun base F w a hoc hI hA => evSlow_spec hoc hI hA o hb hx⟩

theorem load1_goes (o : Oper) {t : TypeId} {x : Operand} (ho : o.op = .load t x) {q : TypeDesc} (hd : P.underlying t = some q) (hq : ¬ aggD q = true) (h : opLoad1 (getB S sg x) d kc ih fr es m = some y) : Goes ρ P oc S sg d kc ih fr es m o y := by
  obtain ⟨b, off, hb, h⟩ := ptrR_some h
  rw [getB_at] at hb
  obtain ⟨v, h, hv⟩ := read1_some h
  refine ⟨v, h, fun base F w a hoc hI hA => ?_⟩
  obtain ⟨g, c, val, h1, h2, _, h3⟩ := hv base F w hI
  obtain ⟨g', c', h4, h5⟩ := hA.ptr hb
  rw [h4] at h1
  obtain ⟨rfl, rfl⟩ := Prod.mk.inj (Option.some.inj h1)
  refine ⟨val, h2, ?_⟩
  unfold execOp
  simp only [ho, h5]
  refine valued ?_
  simp [Instr.loadAt, Instr.sureAddr, loadVar, run_isAgg hd, hq, h3]

theorem loadN_goes (o : Oper) {t : TypeId} {x : Operand} (ho : o.op = .load t x) {q : TypeDesc} (hd : P.underlying t = some q) (hq : aggD q = true) {i : TypeInfo} (hi : P.info? t = some i)
    (h : opLoadN i.size (getB S sg x) d kc ih fr es m = some y) : Goes ρ P oc S sg d kc ih fr es m o y := by
  obtain ⟨b, off, hb, h⟩ := ptrR_some h
  rw [getB_at] at hb
  obtain ⟨l, h, hn, hv⟩ := read_some h
  refine ⟨.agg l, h, fun base F w a hoc hI hA => ?_⟩
  obtain ⟨g, c, vs, h1, h2, _, h3⟩ := hv base F w hI
  obtain ⟨g', c', h4, h5⟩ := hA.ptr hb
  rw [h4] at h1
  obtain ⟨rfl, rfl⟩ := Prod.mk.inj (Option.some.inj h1)
  refine ⟨.agg vs.toArray, by simp [den, h2], ?_⟩
  have hlen := dens_length h2
  have hl2 := run_loadCells_list (P := P) w ⟨g', _, none⟩ vs h3
  rw [hlen, hn] at hl2
  unfold execOp
  simp only [ho, h5]
  refine valued ?_
  simp [Instr.loadAt, Instr.sureAddr, loadVar, run_isAgg hd, hq, run_size hi, hl2]

theorem fieldAddr_goes (o : Oper) {t : TypeId} {x : Operand} {i : Nat} (ho : o.op = .fieldAddr t x i) {fs : Array Field} {f : Field} {ie : TypeInfo} (hu : P.underlying t = some (.struct fs)) (hfs : fs[i]? = some f) (hie : P.info? f.type = some ie)
    (h1 : 1 ≤ ie.size) (h : opFieldAddr f.offset (getB S sg x) d kc ih fr es m = some y) : Goes0 ρ P oc S sg d kc ih fr es m o y := by
  obtain ⟨b, off, hb, h⟩ := ptrR_some h
  rw [getB_at] at hb
  rw [strictR_eq] at h
  refine ⟨_, h, fun F w a hoc hA => ?_⟩
  obtain ⟨g, c, hF, hy⟩ := hA.ptr hb
  refine ⟨.pointer (some ⟨g, c.2 + off + f.offset, none⟩), by simp only [den, hF, Option.map_some, Nat.add_assoc]; rfl, ?_⟩
  unfold execOp
  simp only [ho, hy]
  refine valued ?_
  have hne : ¬ ie.size = 0 := by omega
  simp [Instr.fieldAt, run_underlying hu, hfs, Instr.sureAddr, fieldPlace, run_size hie, hne, add_eq]

theorem indexAddr_goes (o : Oper) {t e : TypeId} {x ix : Operand} (ho : o.op = .indexAddr t x ix) {ie : TypeInfo} (hu : P.underlying t = some (.slice e)) (hie : P.info? e = some ie)
    (h : opIndexAddr ie.size (getB S sg x) (getB S sg ix) d kc ih fr es m = some y) : Goes0 ρ P oc S sg d kc ih fr es m o y := by
  obtain ⟨b, off, len, sz, hb, h⟩ := slR_some h
  obtain ⟨q, i, hi, h⟩ := natR_some h
  rw [getB_at] at hb hi
  obtain ⟨c1, h⟩ := gdR_some h
  obtain ⟨c2, h⟩ := gdR_some h
  rw [strictR_eq] at h
  obtain rfl : ie.size = sz := Nat.eq_of_beq_eq_true c1
  have c2' : i < len := Nat.le_of_ble_eq_true c2
  refine ⟨_, h, fun F w a hoc hA => ?_⟩
  obtain ⟨g, c, hF, hy⟩ := hA.sl hb (.inl (by omega))
  have hix := hA.is hi
  refine ⟨.pointer (some ⟨g, c.2 + off + i * ie.size, none⟩), by simp only [den, hF, Option.map_some, Nat.add_assoc]; rfl, ?_⟩
  unfold execOp
  simp only [ho, hy, hix]
  refine valued ?_
  have hlt : (i : Int) < (len : Int) := by omega
  have hnl : ¬ len ≤ i := by omega
  simp [Instr.indexAt, asIntOf, run_underlying hu, hlt, hnl, c2', run_size hie, add_eq]

theorem indexArr_goes (o : Oper) {t e : TypeId} {n : Nat} {x ix : Operand} (ho : o.op = .indexAddr t x ix) {ie : TypeInfo} (hu : P.underlying t = some (.array n e)) (hie : P.info? e = some ie)
    (h : opIndexArr n ie.size (getB S sg x) (getB S sg ix) d kc ih fr es m = some y) : Goes0 ρ P oc S sg d kc ih fr es m o y := by
  obtain ⟨b, off, hb, h⟩ := ptrR_some h
  obtain ⟨q, i, hi, h⟩ := natR_some h
  rw [getB_at] at hb hi
  obtain ⟨c2, h⟩ := gdR_some h
  rw [strictR_eq] at h
  have c2' : i < n := Nat.le_of_ble_eq_true c2
  refine ⟨_, h, fun F w a hoc hA => ?_⟩
  obtain ⟨g, c, hF, hy⟩ := hA.ptr hb
  have hix := hA.is hi
  refine ⟨.pointer (some ⟨g, c.2 + off + i * ie.size, none⟩), by simp only [den, hF, Option.map_some, Nat.add_assoc]; rfl, ?_⟩
  unfold execOp
  simp only [ho, hy, hix]
  refine valued ?_
  have hlt : (i : Int) < (n : Int) := by omega
  simp [Instr.indexAt, Instr.sureAddr, asIntOf, run_underlying hu, hlt, c2', run_size hie, add_eq]

theorem sureR_some {v : AV} {k : AV → R} (h : sureR v k = some y) : k v = some y ∧ v ≠ .bad ∧ ((∃ b off, v = .ptr b off) ∨ (∃ b off len sz, v = .sl b off len sz) ∨ ∃ f l, Nat.blt f mapId = true ∧ v = .fn f l) := by
  cases v <;> first | exact no h | skip
  case ptr b off => exact ⟨h, by simp, .inl ⟨b, off, rfl⟩⟩
  case sl b off len sz => exact ⟨h, by simp, .inr (.inl ⟨b, off, len, sz, rfl⟩)⟩
  case fn f l =>
    have h' : teR (Nat.blt f mapId) (k (.fn f l)) none = some y := h
    rw [teR_eq] at h'
    by_cases hf : Nat.blt f mapId = true
    · rw [if_pos hf] at h'
      exact ⟨h', by simp, .inr (.inr ⟨f, l, hf, rfl⟩)⟩
    · rw [if_neg hf] at h'; cases h'

theorem nilCheck_goes (o : Oper) {x : Operand} (ho : o.op = .nilCheck x) (h : opNilCheck (getB S sg x) d kc ih fr es m = some y) : Goes0 ρ P oc S sg d kc ih fr es m o y := by
  obtain ⟨h, hb, hk⟩ := sureR_some h
  rw [getB_at] at h hb hk
  refine ⟨_, h, fun F w a hoc hA => ?_⟩
  have hv := hA.eval hb
  refine ⟨_, hv, ?_⟩
  rcases hk with ⟨b, off, e⟩ | ⟨b, off, len, sz, e⟩ | ⟨f, l, hf, e⟩
  · obtain ⟨g, c, _, hy⟩ := hA.ptr e
    unfold execOp
    simp only [ho, hy]
    rfl
  · obtain ⟨g, c, _, hy⟩ := hA.slAny e
    unfold execOp
    simp only [ho, hy]
    rfl
  · rw [e] at hv
    obtain ⟨us, _, hy⟩ := den_fn hf hv
    unfold execOp
    simp only [ho, hy]
    rfl

theorem field1_goes (o : Oper) {t : TypeId} {x : Operand} {i : Nat} (ho : o.op = .field t x i) {fs : Array Field} {f : Field} {q : TypeDesc} (hu : P.underlying t = some (.struct fs)) (hfs : fs[i]? = some f) (hd : P.underlying f.type = some q)
    (hq : ¬ aggD q = true) (h : opField1 f.offset (getB S sg x) d kc ih fr es m = some y) : Goes0 ρ P oc S sg d kc ih fr es m o y := by
  obtain ⟨l, hl, h⟩ := aggR_some h
  rw [getB_at] at hl
  obtain ⟨v, hv, h⟩ := obR_some h
  obtain ⟨_, h⟩ := force_some h
  exact ⟨v, h, fun F w a hoc hA => field1_tells hA o ho hu hfs hd hq hl hv⟩

theorem extract_goes (o : Oper) {x : Operand} {i : Nat} (ho : o.op = .extract x i) (h : opExtract i (getB S sg x) d kc ih fr es m = some y) : Goes0 ρ P oc S sg d kc ih fr es m o y := by
  obtain ⟨l, hl, h⟩ := tupR_some h
  rw [getB_at] at hl
  obtain ⟨v, hv, h⟩ := obR_some h
  obtain ⟨_, h⟩ := force_some h
  exact ⟨v, h, fun F w a hoc hA => extract_tells hA o ho hl hv⟩

theorem opLen_some {slow : KO} {x : Get} (h : opLen slow x d kc ih fr es m = some y) : (∃ b off len sz, x.at fr es = .sl b off len sz ∧ fin d kc ih fr es m (.nat len) = some y) ∨ slow.run ih fr es m = some y := by
  unfold opLen at h
  generalize x.at fr es = v at h ⊢
  cases v <;> first | exact .inr h | skip
  case sl b off len sz => exact .inl ⟨b, off, len, sz, rfl, h⟩

theorem len_goes (o : Oper) {c : Call} (ho : o.op = .call c) (hb : c.callee = .builtin .len) {x : Operand} {t e : TypeId} (hy : c.args.toList = [x]) (ht : c.argTypes.toList = [t]) (he : elemT P t = some e)
    (h : opLen (.k (opSlow P oc S sg o.op d kc)) (getB S sg x) d kc ih fr es m = some y) : Goes0 ρ P oc S sg d kc ih fr es m o y := by
  rcases opLen_some h with ⟨b, off, len, sz, hx, h⟩ | h
  · rw [getB_at] at hx
    exact ⟨_, h, fun F w a hoc hA => len_sl_tells hA o ho hb hy ht he hx⟩
  · exact slow_goes0 o (by rw [ho]; rfl) h

theorem pick_goes (o : Oper) {c p q : Operand} (ho : o.op = .pick c p q) (h : opPick (.k (opSlow P oc S sg o.op d kc)) (getB S sg c) (getB S sg p) (getB S sg q) d kc ih fr es m = some y) : Goes0 ρ P oc S sg d kc ih fr es m o y := by
  rcases boolOr_some h with ⟨t, ht, h⟩ | h
  · rw [getB_at] at ht
    rw [teR_eq, getB_at, getB_at] at h
    have key : ∀ (F : Env) (a : Act), Held ρ F (getG S sg fr es) a → a.eval c = .bool t := fun F a hA => hA.is ⟨by rw [ht]; simp, fun _ F => by rw [ht]; simp [den]⟩
    cases t with
    | true =>
      obtain ⟨hb, h⟩ := force_some (show force (evO (getG S sg fr es) p) _ = some y from h)
      refine ⟨_, h, fun F w a hoc hA => ⟨_, hA.eval hb, ?_⟩⟩
      unfold execOp
      simp only [ho, key F a hA]
      simp [asBool]
    | false =>
      obtain ⟨hb, h⟩ := force_some (show force (evO (getG S sg fr es) q) _ = some y from h)
      refine ⟨_, h, fun F w a hoc hA => ⟨_, hA.eval hb, ?_⟩⟩
      unfold execOp
      simp only [ho, key F a hA]
      simp [asBool]
  · exact slow_goes0 o (by rw [ho]; rfl) h

theorem not_goes (o : Oper) {x : Operand} {t : TypeId} (ho : o.op = .unOp .not t x) (h : opNot (.k (opSlow P oc S sg o.op d kc)) (getB S sg x) d kc ih fr es m = some y) : Goes0 ρ P oc S sg d kc ih fr es m o y := by
  rcases boolOr_some h with ⟨t, ht, h⟩ | h
  · rw [getB_at] at ht
    have key : ∀ (F : Env) (a : Act), Held ρ F (getG S sg fr es) a → a.eval x = .bool t := fun F a hA => hA.is ⟨by rw [ht]; simp, fun _ F => by rw [ht]; simp [den]⟩
    cases t with
    | true =>
      refine ⟨.bool false, h, fun F w a hoc hA => ⟨.bool false, by simp [den], ?_⟩⟩
      unfold execOp
      simp only [ho, key F a hA]
      exact valued rfl
    | false =>
      refine ⟨.bool true, h, fun F w a hoc hA => ⟨.bool true, by simp [den], ?_⟩⟩
      unfold execOp
      simp only [ho, key F a hA]
      exact valued rfl
  · exact slow_goes0 o (by rw [ho]; rfl) h

theorem fn_goes (o : Oper) {f : FuncId} {first cap : Array Operand} (ho : o.op = .makeFunc (.func f) first cap) (hlt : Nat.blt f mapId = true) (h0 : first.size = 0) (h : opFn f (cap.toList.map (getB S sg)) d kc ih fr es m = some y) : Goes0 ρ P oc S sg d kc ih fr es m o y := by
  obtain ⟨vs, h, hv⟩ := argsR_any (ρ := ρ) _ _ _ h
  refine ⟨_, h, fun F w a hoc hA => ⟨.func (.func f) #[] (cap.map a.eval), ?_, ?_⟩⟩
  · rw [den_fn_mk hlt (hv F a hA)]
    congr 2
    apply Array.ext'
    simp
  · unfold execOp
    simp only [ho, Array.eq_empty_of_size_eq_zero h0]
    simp [Instr.makeFunc]

theorem bndR_some {o : Option Operand} {n : Nat} {k : Nat → R} (h : bndR (o.map (getB S sg)) n fr es k = some y) : ∃ l, k l = some y ∧ (o = none ∧ l = n ∨ ∃ x q, o = some x ∧ Is (evO (getG S sg fr es) x) (.int q (.ofNat l))) := by
  cases o with
  | none => exact ⟨n, h, .inl ⟨rfl, rfl⟩⟩
  | some x =>
    obtain ⟨q, l, h1, h2⟩ := natR_some (show natR ((getB S sg x).at fr es) k = some y from h)
    rw [getB_at] at h1
    exact ⟨l, h2, .inr ⟨x, q, rfl, h1⟩⟩

theorem slCase {x : AV} {k : Nat → Nat → Nat → Nat → R} {z : R}
    (h : AV.rec (motive_1 := fun _ => (Nat → Nat → Nat → Nat → R) → R → R) (motive_2 := fun _ => Unit)
    (fun _ _ s => s) (fun _ _ s => s) (fun _ _ s => s) (fun _ _ _ s => s) (fun b off len sz k _ => k b off len sz) (fun _ _ _ s => s) (fun _ _ _ s => s) (fun _ _ _ _ s => s) (fun _ s => s) (fun _ _ s => s) (fun _ _ _ s => s) (fun _ _ s => s) (fun _ _ _ s => s) () (fun _ _ _ _ => ()) x k z = some y) :
    (∃ b off len sz, x = .sl b off len sz ∧ k b off len sz = some y) ∨ z = some y := by
  cases x <;> first | exact .inr h | skip
  case sl b off len sz => exact .inl ⟨b, off, len, sz, rfl, h⟩

theorem slice_goes (o : Oper) {t e : TypeId} {x : Operand} {lo hi : Option Operand} (ho : o.op = .slice t x lo hi none) {ie : TypeInfo} (he : P.underlying t = some (.slice e)) (hie : P.info? e = some ie)
    (h : opSlice (.k (opSlow P oc S sg o.op d kc)) ie.size (getB S sg x) (lo.map (getB S sg)) (hi.map (getB S sg)) d kc ih fr es m = some y) : Goes ρ P oc S sg d kc ih fr es m o y := by
  rcases slCase h with ⟨b, off, len, sz, hx, h⟩ | h
  · rw [getB_at] at hx
    obtain ⟨l, h, hlo⟩ := bndR_some h
    obtain ⟨q, h, hhi⟩ := bndR_some h
    obtain ⟨e', z', q', c', hk, hkz, h⟩ := blkR_some h
    obtain ⟨c1, h⟩ := gdR_some h
    obtain ⟨c2, h⟩ := gdR_some h
    obtain ⟨c3, h⟩ := gdR_some h
    obtain ⟨c4, h⟩ := gdR_some h
    obtain ⟨c5, h⟩ := gdR_some h
    rw [strictR_eq, strictR_eq] at h
    obtain rfl : ie.size = sz := Nat.eq_of_beq_eq_true c1
    rw [te_eq] at c5
    by_cases hnb : te (Nat.beq l 0) true (Nat.blt l q) = true
    · exact ⟨_, h, fun base F w a hoc hI hA => slice_tells hI hA o ho he hie hx hlo hhi hk hkz (Nat.le_of_ble_eq_true c2) (Nat.le_of_ble_eq_true c3) (Nat.le_of_ble_eq_true c4) (bound_of hnb)⟩
    · rw [if_neg hnb] at c5
      have hl0 : l ≠ 0 := fun e => hnb (by rw [te_eq, if_pos (by rw [e]; rfl)])
      obtain ⟨c6, c7⟩ := both c5
      obtain ⟨c7, c8⟩ := both c7
      obtain rfl : off = 0 := Nat.eq_of_beq_eq_true c6
      obtain rfl : l = q := Nat.eq_of_beq_eq_true c7
      exact ⟨_, h, fun base F w a hoc hI hA => slice_end_tells hI hA o ho he hie hx hlo hhi hk hkz (Nat.eq_of_beq_eq_true c8) (Nat.le_of_ble_eq_true c2) (Nat.le_of_ble_eq_true c3) (Nat.le_of_ble_eq_true c4) hl0⟩
  · exact slow_goes o h

/-- a slice of an array -/
theorem sliceArr_goes (o : Oper) {t e : TypeId} {n : Nat} {x : Operand} {lo hi : Option Operand} (ho : o.op = .slice t x lo hi none) {ie : TypeInfo} (he : P.underlying t = some (.array n e)) (hie : P.info? e = some ie)
    (h : opSliceArr n ie.size (getB S sg x) (lo.map (getB S sg)) (hi.map (getB S sg)) d kc ih fr es m = some y) : Goes ρ P oc S sg d kc ih fr es m o y := by
  obtain ⟨b, off, hx, h⟩ := ptrR_some h
  rw [getB_at] at hx
  obtain ⟨l, h, hlo⟩ := bndR_some h
  obtain ⟨q, h, hhi⟩ := bndR_some h
  obtain ⟨e', z', q', c', hk, hkz, h⟩ := blkR_some h
  obtain ⟨c1, h⟩ := gdR_some h
  obtain ⟨c2, h⟩ := gdR_some h
  obtain ⟨c3, h⟩ := gdR_some h
  obtain ⟨c4, h⟩ := gdR_some h
  obtain ⟨c5, h⟩ := gdR_some h
  obtain ⟨c6, h⟩ := gdR_some h
  rw [strictR_eq, strictR_eq] at h
  have c1' : z' = 0 := Nat.eq_of_beq_eq_true c1
  have c2' : off = 0 := Nat.eq_of_beq_eq_true c2
  have c3' : q' = n * ie.size := Nat.eq_of_beq_eq_true c3
  have c4' : l ≤ q := Nat.le_of_ble_eq_true c4
  have c5' : q ≤ n := Nat.le_of_ble_eq_true c5
  have c6' : 1 ≤ ie.size := Nat.le_of_ble_eq_true c6
  refine ⟨_, h, fun base F w a hoc hI hA => ?_⟩
  obtain ⟨g2, c, hF, _, _, cs, _, _, _, hZ, _⟩ := hI.row b _ hk hkz
  obtain ⟨g', cc, hF', hy⟩ := hA.ptr hx
  rw [hF] at hF'
  obtain ⟨rfl, rfl⟩ := Prod.mk.inj (Option.some.inj hF')
  have hc : c.1 = n * ie.size := (hZ.1 c1').1.trans c3'
  have hcap : (c.1 - l * ie.size) / ie.size = n - l := by rw [hc, ← Nat.sub_mul, Nat.mul_div_cancel _ c6']
  have haddr : slOff (l * ie.size) (q - l) c.1 = if n = l then 0 else l * ie.size := by
    unfold slOff
    by_cases hn : n = l
    · rw [if_pos hn, if_pos ⟨by omega, by rw [hc, hn]⟩]
    · have h1 : (l + 1) * ie.size ≤ n * ie.size := Nat.mul_le_mul_right _ (by omega)
      rw [Nat.add_mul] at h1
      rw [if_neg hn, if_neg (fun e => by have := e.2; omega)]
  refine ⟨.slice (some ⟨g2, c.2 + (if n = l then 0 else l * ie.size), none⟩) (q - l) (n - l), ?_, ?_⟩
  · simp only [den, hF, Option.map_some]
    show some (Value.slice (some ⟨g2, c.2 + slOff (l * ie.size) (q - l) c.1, none⟩) (q - l) ((c.1 - l * ie.size) / ie.size)) = _
    rw [haddr, hcap]
  · unfold execOp
    simp only [ho, hy]
    refine valued ?_
    have hlo' : lo.map a.eval = none ∧ l = 0 ∨ ∃ q, lo.map a.eval = some (.int q (.ofNat l)) := by
      rcases hlo with ⟨rfl, rfl⟩ | ⟨y, q', rfl, hy'⟩
      · exact .inl ⟨rfl, rfl⟩
      · exact .inr ⟨q', by simp [hA.is hy']⟩
    have hhi' : hi.map a.eval = none ∧ q = n ∨ ∃ q1, hi.map a.eval = some (.int q1 (.ofNat q)) := by
      rcases hhi with ⟨rfl, h2⟩ | ⟨y, q', rfl, hy'⟩
      · exact .inl ⟨rfl, h2⟩
      · exact .inr ⟨q', by simp [hA.is hy']⟩
    have hb : (Instr.sliceBounds false n n (lo.map a.eval) (hi.map a.eval) none).run P w = .ok (l, q, n) w := by
      rcases hlo' with ⟨e1, h1⟩ | ⟨q1, e1⟩ <;> rcases hhi' with ⟨e2, h2⟩ | ⟨q2, e2⟩ <;> rw [e1, e2]
      · subst h1; subst h2; simp [Instr.sliceBounds]
      · subst h1; simp [Instr.sliceBounds, run_sliceBound q2 q n _ c5']
      · subst h2; simp [Instr.sliceBounds, run_sliceBound q1 l q _ c4']
      · simp [Instr.sliceBounds, run_sliceBound q2 q n _ c5', run_sliceBound q1 l q _ c4']
    have e3 : Option.map a.eval none = none := rfl
    simp only [Instr.sliceAt, Instr.sureAddr, Sem.run_bind, run_underlying he, Result.andThen_ok, Sem.run_pure, e3, hb, run_size hie]
    congr 3
    rw [c2']
    split
    · rfl
    · simp [add_eq]
/-! ### Whole numbers -/
theorem i64_wrap_small {z : Int} (h0 : 0 ≤ z) (h1 : z < 9223372036854775808) : IntKind.i64.wrap z = z := IntWalk.i64_in z ⟨by omega, by omega⟩

theorem bin_tells {F : Env} {a : Act} {w : World} {g : Nat → AV} (hA : Held ρ F g a) (o : Oper) {op : BinOp} {t ty : TypeId} {p q : Operand} (ho : o.op = .binOp op t p q ty) {i j : Nat} (hi : evO g p = .nat i) (hj : evO g q = .nat j)
    {x : AV} {v : Value} (hx : den ρ F x = some v) (hrun : (do eqGuard op t p q (.int .i64 (.ofNat i)) (.int .i64 (.ofNat j)); binOp op t (.int .i64 (.ofNat i)) (.int .i64 (.ofNat j)) : Sem Value).run P w = .ok v w) : Tells ρ P F a w o x := by
  have h1 : a.eval p = .int .i64 (.ofNat i) := hA.is ⟨by rw [hi]; simp, fun _ F => by rw [hi]; simp [den]⟩
  have h2 : a.eval q = .int .i64 (.ofNat j) := hA.is ⟨by rw [hj]; simp, fun _ F => by rw [hj]; simp [den]⟩
  refine ⟨v, hx, ?_⟩
  unfold execOp
  simp only [ho, h1, h2]
  exact valued hrun

theorem bin_tells2 {F : Env} {a : Act} {w : World} {g : Nat → AV} (hA : Held ρ F g a) (o : Oper) {op : BinOp} {t ty : TypeId} {p q : Operand} (ho : o.op = .binOp op t p q ty) {κ : IntKind} {i j : Nat} (hi : Is (evO g p) (.int κ (.ofNat i))) (hj : Is (evO g q) (.int κ (.ofNat j)))
    {x : AV} {v : Value} (hx : den ρ F x = some v) (hrun : (do eqGuard op t p q (.int κ (.ofNat i)) (.int κ (.ofNat j)); binOp op t (.int κ (.ofNat i)) (.int κ (.ofNat j)) : Sem Value).run P w = .ok v w) : Tells ρ P F a w o x := by
  refine ⟨v, hx, ?_⟩
  unfold execOp
  simp only [ho, hA.is hi, hA.is hj]
  exact valued hrun

theorem boolR_eq (b : Bool) (k : AV → R) : boolR b k = k (.bool b) := by cases b <;> rfl

theorem cBin_goes (o : Oper) {op : BinOp} {t ty : TypeId} {p q : Operand} (ho : o.op = .binOp op t p q ty) (h : (cBin P oc S sg o.op op p q d kc).run ih fr es m = some y) : Goes0 ρ P oc S sg d kc ih fr es m o y := by
  have two : ∀ {k : Nat → Nat → R}, natOr ((getB S sg p).at fr es) (fun i => natOr ((getB S sg q).at fr es) (fun j => k i j) (opSlow P oc S sg o.op d kc ih fr es m)) (opSlow P oc S sg o.op d kc ih fr es m) = some y →
      (∃ i j, evO (getG S sg fr es) p = .nat i ∧ evO (getG S sg fr es) q = .nat j ∧ k i j = some y) ∨ Goes0 ρ P oc S sg d kc ih fr es m o y := by
    intro k h
    rcases natOr_some h with ⟨i, hi, h⟩ | h
    · rcases natOr_some h with ⟨j, hj, h⟩ | h
      · rw [getB_at] at hi hj
        exact .inl ⟨i, j, hi, hj, h⟩
      · exact .inr (slow_goes0 o (by rw [ho]; rfl) h)
    · exact .inr (slow_goes0 o (by rw [ho]; rfl) h)
  have two2 : ∀ {k : Nat → Nat → R}, cmp2 ((getB S sg p).at fr es) ((getB S sg q).at fr es) k (opSlow P oc S sg o.op d kc ih fr es m) = some y →
      (∃ κ i j, Is (evO (getG S sg fr es) p) (.int κ (.ofNat i)) ∧ Is (evO (getG S sg fr es) q) (.int κ (.ofNat j)) ∧ k i j = some y) ∨ Goes0 ρ P oc S sg d kc ih fr es m o y := by
    intro k h
    rcases cmp2_some h with ⟨i, j, ⟨hi, hj⟩ | ⟨hi, hj⟩, h⟩ | h
    · rw [getB_at] at hi hj
      exact .inl ⟨.i64, i, j, by rw [hi]; exact ⟨by simp, fun _ F => by simp [den]⟩, by rw [hj]; exact ⟨by simp, fun _ F => by simp [den]⟩, h⟩
    · rw [getB_at] at hi hj
      exact .inl ⟨.u8, i, j, by rw [hi]; exact ⟨by simp, fun _ F => by simp [den]⟩, by rw [hj]; exact ⟨by simp, fun _ F => by simp [den]⟩, h⟩
    · exact .inr (slow_goes0 o (by rw [ho]; rfl) h)
  have e1 : ∀ i j : Nat, Nat.beq i j = decide (i = j) := fun i j => by rw [Bool.eq_iff_iff]; simp
  have e3 : ∀ i j : Nat, Nat.ble i j = decide (i ≤ j) := fun i j => by rw [Bool.eq_iff_iff]; simp
  cases op <;> first | exact slow_goes0 o (by rw [ho]; rfl) h | skip
  case add =>
    rcases two h with ⟨i, j, hi, hj, h⟩ | h
    · rw [teR_eq] at h
      split at h
      · rename_i h3
        have h3' : i + j < 9223372036854775808 := Nat.le_of_ble_eq_true h3
        rw [strictR_eq] at h
        refine ⟨_, h, fun F w a hoc hA => bin_tells hA o ho hi hj (v := .int .i64 (.ofNat (i + j))) (by simp [den]) ?_⟩
        have e : IntKind.i64.wrap (Int.ofNat i + Int.ofNat j) = Int.ofNat (i + j) := by
          rw [i64_wrap_small (by simp; omega) (by simp; omega)]; simp
        simp only [eqGuard, binOp, Op.intArith, e]
        simp
      · exact slow_goes0 o (by rw [ho]; rfl) h
    · exact h
  case sub =>
    rcases two h with ⟨i, j, hi, hj, h⟩ | h
    · rw [teR_eq] at h
      split at h
      · rename_i h3
        rw [teR_eq] at h
        split at h
        · rename_i h4
          have h3' : j ≤ i := Nat.le_of_ble_eq_true h3
          have h4' : i < 9223372036854775808 := Nat.le_of_ble_eq_true h4
          rw [strictR_eq] at h
          refine ⟨_, h, fun F w a hoc hA => bin_tells hA o ho hi hj (v := .int .i64 (.ofNat (i - j))) (by simp [den]) ?_⟩
          have e : IntKind.i64.wrap (Int.ofNat i - Int.ofNat j) = Int.ofNat (i - j) := by
            rw [i64_wrap_small (by simp; omega) (by simp; omega)]; simp; omega
          simp only [eqGuard, binOp, Op.intArith, e]
          simp
        · exact slow_goes0 o (by rw [ho]; rfl) h
      · exact slow_goes0 o (by rw [ho]; rfl) h
    · exact h
  case eql =>
    rcases two2 h with ⟨κ, i, j, hi, hj, h⟩ | h
    · rw [boolR_eq] at h
      refine ⟨_, h, fun F w a hoc hA => bin_tells2 hA o ho hi hj (v := .bool (Nat.beq i j)) (by simp [den]) ?_⟩
      rw [e1]
      simp only [eqGuard, binOp, Op.intCmp]
      simp
      try (rw [Bool.eq_iff_iff]; simp)
      try omega
    · exact h
  case neq =>
    rcases two2 h with ⟨κ, i, j, hi, hj, h⟩ | h
    · rw [boolR_eq] at h
      refine ⟨_, h, fun F w a hoc hA => bin_tells2 hA o ho hi hj (v := .bool (!(Nat.beq i j))) (by cases hb : Nat.beq i j <;> simp [den]) ?_⟩
      rw [e1]
      simp only [eqGuard, binOp, Op.intCmp]
      simp
      try (rw [Bool.eq_iff_iff]; simp)
      try omega
    · exact h
  case lss =>
    rcases two2 h with ⟨κ, i, j, hi, hj, h⟩ | h
    · rw [boolR_eq] at h
      refine ⟨_, h, fun F w a hoc hA => bin_tells2 hA o ho hi hj (v := .bool (Nat.ble (Nat.succ i) j)) (by simp [den]) ?_⟩
      rw [e3]
      simp only [eqGuard, binOp, Op.intCmp]
      simp
      try omega
    · exact h
  case leq =>
    rcases two2 h with ⟨κ, i, j, hi, hj, h⟩ | h
    · rw [boolR_eq] at h
      refine ⟨_, h, fun F w a hoc hA => bin_tells2 hA o ho hi hj (v := .bool (Nat.ble i j)) (by simp [den]) ?_⟩
      rw [e3]
      simp only [eqGuard, binOp, Op.intCmp]
      simp
    · exact h
  case gtr =>
    rcases two2 h with ⟨κ, i, j, hi, hj, h⟩ | h
    · rw [boolR_eq] at h
      refine ⟨_, h, fun F w a hoc hA => bin_tells2 hA o ho hi hj (v := .bool (Nat.ble (Nat.succ j) i)) (by simp [den]) ?_⟩
      rw [e3]
      simp only [eqGuard, binOp, Op.intCmp]
      simp
      try omega
    · exact h
  case geq =>
    rcases two2 h with ⟨κ, i, j, hi, hj, h⟩ | h
    · rw [boolR_eq] at h
      refine ⟨_, h, fun F w a hoc hA => bin_tells2 hA o ho hi hj (v := .bool (Nat.ble j i)) (by simp [den]) ?_⟩
      rw [e3]
      simp only [eqGuard, binOp, Op.intCmp]
      simp
    · exact h

def memless (op : Op) : Bool := match op with | .load _ _ => false | .slice _ _ _ _ _ => false | _ => true
theorem cPure_goes0 (o : Oper) (hml : memless o.op = true) {ko : KO} (hc : cPure P oc S sg o.op d kc = some ko) (h : ko.run ih fr es m = some y) : Goes0 ρ P oc S sg d kc ih fr es m o y := by
  generalize ho : o.op = op at hc
  have slow : ∀ {ko : KO}, (some (KO.k (opSlow P oc S sg op d kc)) : Option KO) = some ko → ko.run ih fr es m = some y → Goes0 ρ P oc S sg d kc ih fr es m o y := by
    intro ko h1 h2
    obtain rfl := Option.some.inj h1
    exact slow_goes0 o (by revert hml; generalize o.op = q; intro hml; cases q <;> first | rfl | exact hml) (by rw [ho]; exact h2)
  cases op <;> simp only [cPure] at hc <;> first | exact slow hc h | (cases hc; done) | skip
  case move x =>
    obtain rfl := Option.some.inj hc
    exact move_goes o (.inl ho) h
  case assign x =>
    obtain rfl := Option.some.inj hc
    exact move_goes o (.inr ho) h
  case load t x => rw [ho] at hml; cases hml
  case binOp op t x q ty =>
    obtain rfl := Option.some.inj hc
    exact cBin_goes o ho (by rw [ho]; exact h)
  case pick c p q =>
    obtain rfl := Option.some.inj hc
    exact pick_goes o ho (by rw [ho]; exact h)
  case unOp u t x =>
    unfold cUn at hc
    split at hc
    · obtain rfl := Option.some.inj hc
      exact not_goes o ho (by rw [ho]; exact h)
    · exact slow hc h
  case makeFunc f first cap =>
    unfold cFn at hc
    split at hc
    · rw [te_eq] at hc
      split at hc
      · rename_i h0
        obtain ⟨h1, h0⟩ := both h0
        obtain rfl := Option.some.inj hc
        exact fn_goes o ho h1 (Nat.eq_of_beq_eq_true h0) h
      · exact slow hc h
    · exact slow hc h
  case slice t x lo hi mx => rw [ho] at hml; cases hml
  case fieldAddr t x i =>
    obtain ⟨f, hf, hc⟩ := ob_some hc
    obtain ⟨s, hs, hc⟩ := ob_some hc
    obtain ⟨c1, hc⟩ := gd_some hc
    obtain rfl := Option.some.inj hc
    obtain ⟨fs, hu, hfs⟩ := fieldT_some hf
    obtain ⟨ie, hie, rfl⟩ := sizeT_some hs
    exact fieldAddr_goes o ho hu hfs hie (Nat.le_of_ble_eq_true c1) h
  case field t x i =>
    obtain ⟨f, hf, hc⟩ := ob_some hc
    obtain ⟨q, hq, hc⟩ := ob_some hc
    obtain ⟨fs, hu, hfs⟩ := fieldT_some hf
    obtain ⟨td, htd, rfl⟩ := aggT_some hq
    rw [te_eq] at hc
    by_cases hg : aggD td = true
    · rw [if_pos hg] at hc
      exact slow hc h
    · rw [if_neg hg] at hc
      obtain rfl := Option.some.inj hc
      exact field1_goes o ho hu hfs htd hg h
  case indexAddr t x ix =>
    cases he : elemT P t with
    | some e =>
      simp only [cIndexAddr, he] at hc
      obtain ⟨s, hs, hc⟩ := ob_some hc
      obtain rfl := Option.some.inj hc
      obtain ⟨ie, hie, rfl⟩ := sizeT_some hs
      exact indexAddr_goes o ho (elemT_some he) hie h
    | none =>
      simp only [cIndexAddr, he] at hc
      obtain ⟨p, hp, hc⟩ := ob_some hc
      obtain ⟨s, hs, hc⟩ := ob_some hc
      obtain rfl := Option.some.inj hc
      obtain ⟨ie, hie, rfl⟩ := sizeT_some hs
      exact indexArr_goes o ho (arrT_some hp) hie h
  case nilCheck x =>
    obtain rfl := Option.some.inj hc
    exact nilCheck_goes o ho h
  case extract x i =>
    obtain rfl := Option.some.inj hc
    exact extract_goes o ho h
  case call c =>
    unfold cCallP at hc
    split at hc
    · rename_i b hb
      split at hc
      · obtain ⟨x, hx, hc⟩ := one_some hc
        obtain ⟨t, ht, hc⟩ := one_some hc
        cases he : elemT P t with
        | some e =>
          rw [he] at hc
          obtain rfl := Option.some.inj hc
          refine len_goes o ho hb hx ht he ?_
          rw [ho]
          exact h
        | none =>
          rw [he] at hc
          exact slow hc h
      · exact slow hc h
      · exact slow hc h
      · exact slow hc h
      · exact slow hc h
      · exact slow hc h
      · cases hc
    · cases hc

theorem cPure_goes (o : Oper) {ko : KO} (hc : cPure P oc S sg o.op d kc = some ko) (h : ko.run ih fr es m = some y) : Goes ρ P oc S sg d kc ih fr es m o y := by
  by_cases hml : memless o.op = true
  · exact (cPure_goes0 o hml hc h).goes
  generalize ho : o.op = op at hc
  have slow : ∀ {ko : KO}, (some (KO.k (opSlow P oc S sg op d kc)) : Option KO) = some ko → ko.run ih fr es m = some y → Goes ρ P oc S sg d kc ih fr es m o y := by
    intro ko h1 h2
    obtain rfl := Option.some.inj h1
    exact slow_goes o (by rw [ho]; exact h2)
  rw [ho] at hml
  cases op <;> first | exact absurd rfl hml | skip
  all_goals simp only [cPure] at hc
  case load t x =>
    obtain ⟨q, hq, hc⟩ := ob_some hc
    obtain ⟨td, htd, rfl⟩ := aggT_some hq
    rw [te_eq] at hc
    by_cases hg : aggD td = true
    · rw [if_pos hg] at hc
      obtain ⟨s, hs, hc⟩ := ob_some hc
      obtain rfl := Option.some.inj hc
      obtain ⟨i, hi, rfl⟩ := sizeT_some hs
      exact loadN_goes o ho htd hg hi h
    · rw [if_neg hg] at hc
      obtain rfl := Option.some.inj hc
      exact load1_goes o ho htd hg h
  case slice t x lo hi mx =>
    cases mx with
    | some _ => cases hc
    | none =>
      cases he : elemT P t with
      | none =>
        cases ha : arrT P t with
        | none =>
          simp only [cSlice, he, ha] at hc
          exact slow hc h
        | some p =>
          simp only [cSlice, he, ha] at hc
          obtain ⟨s, hs, hc⟩ := ob_some hc
          obtain rfl := Option.some.inj hc
          obtain ⟨ie, hie, rfl⟩ := sizeT_some hs
          exact sliceArr_goes o ho (arrT_some ha) hie h
      | some e =>
        simp only [cSlice, he] at hc
        obtain ⟨s, hs, hc⟩ := ob_some hc
        obtain rfl := Option.some.inj hc
        obtain ⟨ie, hie, rfl⟩ := sizeT_some hs
        exact slice_goes o ho (elemT_some he) hie (by rw [ho]; exact h)

end Go.Proofs.YtplnnlnkcfappaaGreat.E3
