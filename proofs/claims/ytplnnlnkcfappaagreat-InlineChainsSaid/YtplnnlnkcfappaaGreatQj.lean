/- The second evaluator tells the truth, part 8: regions. -/
import Derived.Test.YtplnnlnkcfappaaGreatQn
import Derived.LoopN
import Derived.Laws.BytesString
import Derived.Scope
namespace Go.Proofs.YtplnnlnkcfappaaGreat.E3
open Go Go.RowKit
set_option linter.unusedSimpArgs false
set_option linter.unusedVariables false

variable {ρ : Syms}

variable {P : Program} {oc : Orc} {S n : Nat}

/-! ### Guards -/
theorem isB_some {b : Bool} {v : AV} {x y : R} {out : Out} (h : isB b v x y = some out) : (v = .bool b ∧ x = some out) ∨ (y = some out ∧ v ≠ .bad ∧ ∀ (ρ : Syms) (F : Env) c, den ρ F v = some (.bool c) → c ≠ b) := by
  cases v with
  | raw u =>
    have h' : notBoolV u y = some out := h
    unfold notBoolV at h'
    split at h'
    · cases h'
    · rename_i hu
      exact .inr ⟨h', by simp, fun ρ F c hc => by simp only [den, Option.some.injEq] at hc; exact absurd hc (hu c)⟩
  | nat k => exact .inr ⟨h, by simp, fun ρ F c hc => by simp [den] at hc⟩
  | bool c =>
    cases b <;> cases c
    · exact .inl ⟨rfl, h⟩
    · exact .inr ⟨h, by simp, fun ρ F c hc => by simp only [den, Option.some.injEq, Value.bool.injEq] at hc; subst hc; simp⟩
    · exact .inr ⟨h, by simp, fun ρ F c hc => by simp only [den, Option.some.injEq, Value.bool.injEq] at hc; subst hc; simp⟩
    · exact .inl ⟨rfl, h⟩
  | ptr b off => exact .inr ⟨h, by simp, fun ρ F c hc => by obtain ⟨_, _, _, e⟩ := den_ptr hc; cases e⟩
  | sl b off len sz => exact .inr ⟨h, by simp, fun ρ F c hc => by obtain ⟨_, _, _, e⟩ := den_sl hc; cases e⟩
  | agg l => exact .inr ⟨h, by simp, fun ρ F c hc => by obtain ⟨_, _, e⟩ := den_agg hc; cases e⟩
  | tup l => exact .inr ⟨h, by simp, fun ρ F c hc => by obtain ⟨_, _, e⟩ := den_tup hc; cases e⟩
  | fn f l => exact .inr ⟨h, by simp, fun ρ F c hc => by rcases den_fn_any hc with ⟨_, e⟩ | ⟨_, e⟩ <;> cases e⟩
  | bad => exact no h
  | sym k => exact no h
  | str n q => exact no h
  | byt n => exact no h
  | hol t j => exact no h

theorem guard_at {sg : List Nat} {all : Array Oper} {j : Nat} {fr : Fr} {es : Es} : (guardAt S sg all j).at fr es = match (all[j]?).bind (·.dst) with | some t => getG S sg fr es t | none => undefAV := by
  unfold guardAt
  cases (all[j]?).bind (·.dst) with
  | none => rfl
  | some t => exact getB_at S sg (.tmp t) fr es

theorem guard_yes {F : Env} {sg : List Nat} {fr : Fr} {es : Es} {a : Act} (hA : Held ρ F (getG S sg fr es) a) {o : Oper} {all : Array Oper} {j : Nat} {b : Bool} (hg : o.guard = some (j, b)) (hv : (guardAt S sg all j).at fr es = .bool b) :
    Region.wanted o (yielded all a.tmps) = true := by
  rw [guard_at] at hv
  unfold Region.wanted
  simp only [hg, yielded]
  cases hd : (all[j]?).bind (·.dst) with
  | none => rw [hd] at hv; exact absurd hv (by simp [undefAV])
  | some t =>
    rw [hd] at hv
    simp only [Option.bind_some]
    have hv' : getG S sg fr es t = .bool b := hv
    have hh := (hA.held t).resolve_left (by rw [hv']; simp)
    rw [hv'] at hh
    simp only [den, Option.some.injEq] at hh
    have hget : a.tmps[t]? = some (.bool b) := by
      rw [Array.getD_eq_getD_getElem?] at hh
      cases he : a.tmps[t]? with
      | none => rw [he] at hh; simp [undef] at hh
      | some v => rw [he] at hh; simp at hh; rw [hh]
    rw [hget]
    simp
theorem guard_no {F : Env} {sg : List Nat} {fr : Fr} {es : Es} {a : Act} (hA : Held ρ F (getG S sg fr es) a) {o : Oper} {all : Array Oper} {j : Nat} {b : Bool} (hg : o.guard = some (j, b)) (hv : (guardAt S sg all j).at fr es ≠ .bad)
    (hn : ∀ (ρ : Syms) (F : Env) c, den ρ F ((guardAt S sg all j).at fr es) = some (.bool c) → c ≠ b) : Region.wanted o (yielded all a.tmps) = false := by
  rw [guard_at] at hv hn
  unfold Region.wanted
  simp only [hg, yielded]
  cases hd : (all[j]?).bind (·.dst) with
  | none => simp
  | some t =>
    rw [hd] at hv hn
    simp only [Option.bind_some]
    have hh := (hA.held t).resolve_left hv
    cases he : a.tmps[t]? with
    | none => simp
    | some v =>
      have hval : a.tmps.getD t undef = v := by rw [Array.getD_eq_getD_getElem?, he]; rfl
      rw [hval] at hh
      cases v <;> simp
      rename_i c
      exact hn ρ F c hh

/-! ### The calls -/
/-- what a call runs to: a function with code, or one of the model's own -/
def CallRuns (P : Program) (f : FuncId) (vs : Array Value) (w : World) (K : Value → World → Prop) : Prop :=
  ((callFunc f vs).run P w = .ok (.enter f vs) w ∧ Calls P f vs w fun e w' => ∃ v, e = .returned v ∧ K v w') ∨ ∃ v, (callFunc f vs).run P w = .ok (.value v) w ∧ K v w
theorem CallRuns.mono {P : Program} {f : FuncId} {vs : Array Value} {w : World} {K K' : Value → World → Prop} (hk : ∀ v w', K v w' → K' v w') (h : CallRuns P f vs w K) : CallRuns P f vs w K' :=
  h.imp (fun h => ⟨h.1, h.2.mono fun e w' ⟨v, h1, h2⟩ => ⟨v, h1, hk v w' h2⟩⟩) (fun ⟨v, h1, h2⟩ => ⟨v, h1, hk v w h2⟩)

/-- the calls that are known -/
def KnownOk (ρ : Syms) (P : Program) (kn : Known) : Prop := ∀ f args v, kn f args = some v →
  ∀ (F : Env) (w : World) (vs : List Value), dens ρ F args = some vs → CallRuns P f vs.toArray w fun u w' => den ρ F v = some u ∧ Below w.heap.size w w'

def Plainly (P : Program) : Prop := ∀ (f : FuncId) (fn : Func), P.funcs[f]? = some fn → (fn.name == "runtime.NumGoroutine") = false

def CallOk (ρ : Syms) (P : Program) (f : FuncId) (args : List AV) (m : Mem) (x : AV) (m' : Mem) : Prop :=
  ∀ (base : Nat) (F : Env) (w : World) (vs : List Value), Inv ρ base F m w → dens ρ F args = some vs →
    CallRuns P f vs.toArray w fun v w' => ∃ F', Ext F F' ∧ den ρ F' x = some v ∧ Inv ρ base F' m' w' ∧ Fares base F m w F' m' w'

def RecOk (ρ : Syms) (P : Program) (ih : Rec) : Prop := ∀ f args m x m', ih f args m = some (.call x m') → CallOk ρ P f args m x m'

theorem callFunc_run (hpl : Plainly P) {f : FuncId} (hf : ∃ fn, P.funcs[f]? = some fn ∧ fn.body.isSome = true) (args : Array Value) (w : World) : (callFunc f args).run P w = .ok (.enter f args) w := by
  obtain ⟨fn, h1, h2⟩ := hf
  have h3 := hpl f fn h1
  have h3' : ¬ fn.name = "runtime.NumGoroutine" := by simpa using h3
  have h4 : ¬ fn.body = none := by intro e; rw [e] at h2; cases h2
  simp [callFunc, h1, h3', h4]

theorem callR_some {o : R} {k : AV → Mem → R} {y : Out} (h : callR o k = some y) : ∃ v m, o = some (.call v m) ∧ k v m = some y := by
  cases o with
  | none => exact no h
  | some o =>
    cases o with
    | code e fr m => exact no h
    | call v m => exact ⟨v, m, rfl, h⟩
theorem codeR_some {o : R} {k : Ex → Fr → Mem → R} {y : Out} (h : codeR o k = some y) : ∃ e fr m, o = some (.code e fr m) ∧ k e fr m = some y := by
  cases o with
  | none => exact no h
  | some o =>
    cases o with
    | code e fr m => exact ⟨e, fr, m, rfl, h⟩
    | call v m => exact no h

/-! ### Operations in order -/
theorem orFail_some {o : Option KO} {ih : Rec} {fr : Fr} {es : Es} {m : Mem} {y : Out} (h : (orFail o).run ih fr es m = some y) : ∃ ko, o = some ko ∧ ko.run ih fr es m = some y := by
  cases o with
  | none => exact no h
  | some ko => exact ⟨ko, rfl, h⟩
theorem cOp1_some {sg : List Nat} {op : Op} {d : Put} {kc : KO} {ih : Rec} {fr : Fr} {es : Es} {m : Mem} {y : Out} (h : (cOp1 P oc S sg op d kc).run ih fr es m = some y) :
    (∃ ko, cPure P oc S sg op d kc = some ko ∧ ko.run ih fr es m = some y) ∨ ∃ ko, cEff P oc S sg op d kc = some ko ∧ ko.run ih fr es m = some y := by
  unfold cOp1 at h
  cases hc : cPure P oc S sg op d kc with
  | some ko =>
    rw [hc] at h
    exact .inl ⟨ko, rfl, h⟩
  | none =>
    rw [hc] at h
    exact .inr (orFail_some h)
theorem cOp1D_some {sg : List Nat} {op : Op} {d : Put} {kc : KO} {ih : Rec} {fr : Fr} {es : Es} {m : Mem} {y : Out} (h : (cOp1D P oc S sg op d kc).run ih fr es m = some y) :
    (∃ ko, cPure P oc S sg op d kc = some ko ∧ ko.run ih fr es m = some y) ∨ ∃ ko, cEffD S sg op d kc = some ko ∧ ko.run ih fr es m = some y := by
  unfold cOp1D at h
  cases hc : cPure P oc S sg op d kc with
  | some ko =>
    rw [hc] at h
    exact .inl ⟨ko, rfl, h⟩
  | none =>
    rw [hc] at h
    exact .inr (orFail_some h)

theorem bytes_fold : ∀ (ns : List Int) (s : ByteArray), ns.foldl (fun r n => r.push (UInt8.ofNat n.toNat)) s = ⟨s.data ++ (ns.map fun n => UInt8.ofNat n.toNat).toArray⟩
  | [], s => by simp
  | n :: ns, s => by
    rw [List.foldl_cons, bytes_fold ns]
    simp [ByteArray.push]
theorem bytesL_some {F : Env} : ∀ {l : List AV} {bs : List UInt8} {vs : List Value}, bytesL l = some bs → dens ρ F l = some vs → ∃ ns : List Int, vs = ns.map (Value.int .u8) ∧ bs = ns.map fun n => UInt8.ofNat n.toNat
  | [], bs, vs, h, hd => by
    obtain rfl := Option.some.inj (show some [] = some bs from h)
    rw [dens_nil] at hd
    obtain rfl := Option.some.inj hd
    exact ⟨[], rfl, rfl⟩
  | x :: l, bs, vs, h, hd => by
    obtain ⟨v, hv, h⟩ := asRaw_some (show asRaw x (fun v => match v with | .int .u8 n => ob (bytesL l) fun l => strictN n.toNat fun q => some (UInt8.ofNat q :: l) | _ => none) = some bs from h)
    obtain ⟨u, us, h1, h2, rfl⟩ := dens_cons hd
    rw [hv.2 ρ F] at h1
    obtain rfl := Option.some.inj h1
    split at h
    · rename_i n
      obtain ⟨bl, hbl, h⟩ := ob_some h
      rw [strictN_eq] at h
      obtain rfl := Option.some.inj h
      obtain ⟨ns, rfl, rfl⟩ := bytesL_some hbl h2
      exact ⟨n :: ns, rfl, rfl⟩
    · cases h
theorem u8T_some {t : TypeId} (h : u8T P t = true) : P.underlying t = some (.int .u8) := by
  unfold u8T at h
  split at h
  · assumption
  · cases h
/-- a row of bytes becomes a text -/
theorem bytes_goes {o : Oper} (hb : isBytes P o = true) {sg : List Nat} {fr : Fr} {es : Es} {m : Mem} {d : Put} {kc ko : KO} {ih : Rec} {y : Out} (hc : (match o.op with | .convert _ _ x => some (KO.k (opBytes (getB S sg x) d kc)) | _ => none) = some ko) (h : ko.run ih fr es m = some y) :
    o.guard = none ∧ ∃ x, fin d kc ih fr es m x = some y ∧ ∀ (base : Nat) (F : Env) (w : World) (a : Act), Inv ρ base F m w → Held ρ F (getG S sg fr es) a → ∃ val, den ρ F x = some val ∧ (execOp a.eval o).run P w = .ok (.value val) w := by
  obtain ⟨h1, h2⟩ := both (show te (noGuard o) (match o.op with | .convert s t _ => bytesT P s t | _ => false) false = true from hb)
  have hg : o.guard = none := by
    unfold noGuard at h1
    cases hdd : o.guard with
    | none => rfl
    | some t => rw [hdd] at h1; cases h1
  refine ⟨hg, ?_⟩
  cases hop : o.op <;> rw [hop] at hc h2 <;> try cases hc
  rename_i s t q
  have h2 : bytesT P s t = true := h2
  unfold bytesT at h2
  cases he : elemT P s with
  | none => rw [he] at h2; cases h2
  | some e =>
    rw [he] at h2
    obtain ⟨h3, h4⟩ := both h2
    obtain ⟨b, off, len, sz, hq, h⟩ := slR_some (show slR ((getB S sg q).at fr es) (fun b off len sz => gdR (Nat.beq sz 1) (gdR (Nat.ble 1 len) (m.read b off len fun l => obR (bytesL l) fun bs => force (strAV ⟨bs.toArray⟩) fun v => fin d kc ih fr es m v))) = some y from h)
    rw [getB_at] at hq
    obtain ⟨c1, h⟩ := gdR_some h
    obtain ⟨c2, h⟩ := gdR_some h
    obtain ⟨l, h, hn, hread⟩ := read_some (ρ := ρ) h
    obtain ⟨bs, hbs, h⟩ := obR_some h
    obtain ⟨_, h⟩ := force_some h
    refine ⟨_, h, fun base F w a hI hA => ⟨.string ⟨bs.toArray⟩, (strAV_is _).2 ρ F, ?_⟩⟩
    obtain ⟨g, c, vs, hF, hvs, _, hcell⟩ := hread base F w hI
    obtain ⟨ns, rfl, rfl⟩ := bytesL_some hbs hvs
    have hv := hA.eval (x := q) (by rw [hq]; simp)
    rw [hq] at hv
    obtain ⟨g', c', hF', hxv⟩ := den_sl hv
    rw [hF] at hF'
    obtain ⟨rfl, rfl⟩ := Prod.mk.inj (Option.some.inj hF')
    have hlen : 1 ≤ len := Nat.le_of_ble_eq_true c2
    rw [slOff_pos (by omega)] at hxv
    have hl := dens_length hvs
    have hload := run_loadCells_list (P := P) w ⟨g, c.2 + off, none⟩ (ns.map (Value.int .u8)) hcell
    rw [hl, hn] at hload
    unfold execOp
    simp only [hop, hxv]
    refine valued ?_
    rw [run_convert_bytes_string w s t e _ _ _ (elemT_some he) (u8T_some h3) (stT_some h4), run_bytesToString w _ len _ ns hload, bytes_fold]
    simp

theorem ops_sound (hpl : Plainly P) (hoc : OrcOk ρ P oc) {ih : Rec} (hih : RecOk ρ P ih) (all : Array Oper) (kc : KO) (y : Out) : ∀ (l : List Oper) (sg : List Nat) (fr : Fr) (es : Es) (m : Mem), (cOps P oc S sg n all l kc).run ih fr es m = some y →
    ∀ base F w a (Q : Exit → Act → World → Prop), Inv ρ base F m w → AR ρ F n S sg fr es a →
    (∀ sg' fr' es' m' F' a' w', Ext F F' → AR ρ F' n S sg' fr' es' a' → Inv ρ base F' m' w' → Fares base F m w F' m' w' → kc.run ih fr' es' m' = some y → Q .normal a' w') → wpList P all Q l a w
  | [], sg, fr, es, m, h, base, F, w, a, Q, hI, hA, hQ => wpList_nil (hQ sg fr es m F a w (Ext.refl F) hA hI (Fares.refl _ _ _ _) h)
  | o :: rest, sg, fr, es, m, h, base, F, w, a, Q, hI, hA, hQ => by
    have next := ops_sound hpl hoc hih all kc y rest (sgOf S sg o.dst)
    have h' : (te (isBytes P o) (cBytes P S sg n o (cOps P oc S (sgOf S sg o.dst) n all rest kc)) (cOp P oc S sg n all o (cOps P oc S (sgOf S sg o.dst) n all rest kc))).run ih fr es m = some y := h
    clear h
    rw [te_eq] at h'
    by_cases hby : isBytes P o = true
    · rw [if_pos hby] at h'
      obtain ⟨ko, hko, h⟩ := orFail_some h'
      obtain ⟨d, hd, hko⟩ := ob_some hko
      obtain ⟨hg, x, hf, hx⟩ := bytes_goes (ρ := ρ) hby hko h
      obtain ⟨val, hv, hrun⟩ := hx base F w a hI hA.slots
      obtain ⟨fr', es', h1, h2, _⟩ := put_spec (ρ := ρ) (fr := fr) (es := es) hd x
      have hrest : (cOps P oc S (sgOf S sg o.dst) n all rest kc).run ih fr' es' m = some y := by
        rw [← hf]
        unfold fin
        rw [h1]
      refine wpList_step fun K hK => ?_
      rw [if_pos (by unfold Region.wanted; rw [hg])]
      unfold Oper.wp
      rw [hrun, Oper.upon_value]
      exact hK _ _ (next fr' es' m hrest base F w _ Q hI (h2 F sg a val hA hv) hQ)
    rw [if_neg hby] at h'
    obtain ⟨ko, hko, h⟩ := orFail_some h'
    obtain ⟨d, hd, hko⟩ := ob_some hko
    -- goes on with a value
    have goOn : ∀ (x : AV) (v : Value) (F' : Env) (m' : Mem) (w' : World), fin d (cOps P oc S (sgOf S sg o.dst) n all rest kc) ih fr es m' x = some y → Ext F F' → den ρ F' x = some v → Inv ρ base F' m' w' → Fares base F m w F' m' w' →
        wpList P all Q rest (a.put o.dst v) w' := by
      intro x v F' m' w' hf hext hv hI' hb
      obtain ⟨fr', es', h1, h2, _⟩ := put_spec (ρ := ρ) (fr := fr) (es := es) hd x
      have hrun : (cOps P oc S (sgOf S sg o.dst) n all rest kc).run ih fr' es' m' = some y := by
        rw [← hf]
        unfold fin
        rw [h1]
      refine next fr' es' m' hrun base F' w' _ Q hI' (h2 F' sg a v (hA.ext hext) hv) (fun sg2 fr2 es2 m2 F2 a2 w2 k1 k2 k3 k4 k5 => ?_)
      exact hQ sg2 fr2 es2 m2 F2 a2 w2 (hext.trans k1) k2 k3 (hb.trans k4) k5
    have run : (cOp1 P oc S sg o.op d (cOps P oc S (sgOf S sg o.dst) n all rest kc)).run ih fr es m = some y → Region.wanted o (yielded all a.tmps) = true → wpList P all Q (o :: rest) a w := by
      intro h hw
      refine wpList_step fun K hK => ?_
      rw [if_pos hw]
      unfold Oper.wp
      rcases cOp1_some h with ⟨ko, hc, h⟩ | ⟨ko, hc, h⟩
      · obtain ⟨x, hf, ht⟩ := cPure_goes o hc h
        obtain ⟨val, hv, hrun⟩ := ht base F w a hoc hI hA.slots
        rw [hrun, Oper.upon_value]
        exact hK _ _ (goOn x val F m w hf (Ext.refl F) hv hI (Fares.refl _ _ _ _))
      · cases cEff_does hoc hI hA.slots o hc h with
        | value x m' F' val w' h0 h1 h2 h3 h4 h5 =>
          rw [h3, Oper.upon_value]
          exact hK _ _ (goOn x val F' m' w' h0 h1 h2 h4 h5)
        | skip m' w' h0 h3 h4 h5 =>
          rw [h3, Oper.upon_skip]
          exact hK _ _ (goOn undefAV undef F m' w' h0 (Ext.refl F) (den_undef F) h4 h5)
        | call f args vs h0 h1 h3 =>
          obtain ⟨v, m1, hc, h0⟩ := callR_some h0
          rcases hih _ _ _ _ _ hc base F w vs hI h1 with ⟨hr, hcall⟩ | ⟨u, hr, hh⟩
          · rw [h3, hr, Oper.upon_enter]
            refine hcall.mono fun e1 w' hh => ?_
            obtain ⟨val, rfl, F', hext, hv, hI', hb⟩ := hh
            exact hK _ _ (goOn v val F' m1 w' h0 hext hv hI' hb)
          · obtain ⟨F', hext, hv, hI', hb⟩ := hh
            rw [h3, hr, Oper.upon_value]
            exact hK _ _ (goOn v u F' m1 w h0 hext hv hI' hb)
    cases hg : o.guard with
    | none =>
      rw [hg] at hko
      obtain rfl := Option.some.inj hko
      exact run h (by unfold Region.wanted; rw [hg])
    | some p =>
      obtain ⟨j, b⟩ := p
      rw [hg] at hko
      obtain rfl := Option.some.inj hko
      rcases isB_some (show isB b ((guardAt S sg all j).at fr es) _ _ = some y from h) with ⟨hv, h⟩ | ⟨h, hv, hn⟩
      · exact run h (guard_yes hA.slots hg hv)
      · refine wpList_step fun K hK => ?_
        rw [if_neg (by rw [guard_no hA.slots hg hv hn]; simp)]
        exact hK _ _ (goOn undefAV undef F m w h (Ext.refl F) (den_undef F) hI (Fares.refl _ _ _ _))

/-! ### Operations in an order that is drawn -/
theorem below_of_class {w w' : World} (h : ∃ p : Regrown, w' = Sort.grow (redrawn w p.d) p.os) : Below w.heap.size w w' := by
  obtain ⟨p, rfl⟩ := h
  exact below_regrown w p.d p.os

theorem plainR_some {v : AV} {k : AV → R} {y : Out} (h : plainR v k = some y) : k v = some y ∧ ∀ (ρ : Syms), ∃ val, ∀ F : Env, den ρ F v = some val := by
  cases v <;> first | exact no h | skip
  case raw u => exact ⟨h, fun ρ => ⟨u, fun F => by simp [den]⟩⟩
  case nat u => exact ⟨h, fun ρ => ⟨.int .i64 (.ofNat u), fun F => by simp [den]⟩⟩
  case bool u => exact ⟨h, fun ρ => ⟨.bool u, fun F => by simp [den]⟩⟩
  case sym u => exact ⟨h, fun ρ => ⟨ρ.val u, fun F => by simp [den]⟩⟩
  case str n q => exact ⟨h, fun ρ => ⟨_, fun F => by simp [den]; rfl⟩⟩
  case byt n => exact ⟨h, fun ρ => ⟨_, fun F => by simp [den]; rfl⟩⟩
  case hol t j => exact ⟨h, fun ρ => ⟨_, fun F => by simp [den]; rfl⟩⟩

theorem draw_sound (hpl : Plainly P) (hoc : OrcOk ρ P oc) {ih : Rec} (hih : RecOk ρ P ih) (all : Array Oper) (kc : KO) (y : Out) : ∀ (l : List Oper) (sg : List Nat) (fr : Fr) (es : Es) (m : Mem), (cOpsD P oc S sg n all l kc).run ih fr es m = some y →
    ∃ sgE frE esE, kc.run ih frE esE m = some y ∧ ∀ base F w a (Q : Act → Prop), Inv ρ base F m w → AR ρ F n S sg fr es a → (∀ a', AR ρ F n S sgE frE esE a' → Q a') →
      wpQuiet P all (fun w' => ∃ p : Regrown, w' = Sort.grow (redrawn w p.d) p.os) Q l a
  | [], sg, fr, es, m, h => ⟨sg, fr, es, h, fun base F w a Q hI hA hQ => wpQuiet_nil (hQ a hA)⟩
  | o :: rest, sg, fr, es, m, h => by
    have next := draw_sound hpl hoc hih all kc y rest (sgOf S sg o.dst)
    obtain ⟨ko, hko, h⟩ := orFail_some (show (cOpD P oc S sg n all o (cOpsD P oc S (sgOf S sg o.dst) n all rest kc)).run ih fr es m = some y from h)
    obtain ⟨d, hd, hko⟩ := ob_some hko
    have goOn : ∀ (x : AV), fin d (cOpsD P oc S (sgOf S sg o.dst) n all rest kc) ih fr es m x = some y → ∃ sgE frE esE, kc.run ih frE esE m = some y ∧ ∀ base F w a v (Q : Act → Prop), den ρ F x = some v → Inv ρ base F m w → AR ρ F n S sg fr es a →
        (∀ a', AR ρ F n S sgE frE esE a' → Q a') → wpQuiet P all (fun w' => ∃ p : Regrown, w' = Sort.grow (redrawn w p.d) p.os) Q rest (a.put o.dst v) := by
      intro x hf
      obtain ⟨fr', es', h1, h2, _⟩ := put_spec (ρ := ρ) (fr := fr) (es := es) hd x
      have hrun : (cOpsD P oc S (sgOf S sg o.dst) n all rest kc).run ih fr' es' m = some y := by
        rw [← hf]
        unfold fin
        rw [h1]
      obtain ⟨sgE, frE, esE, k1, k2⟩ := next fr' es' m hrun
      exact ⟨sgE, frE, esE, k1, fun base F w a v Q hv hI hA hQ => k2 base F w _ Q hI (h2 F sg a v hA hv) hQ⟩
    have run : (cOp1D P oc S sg o.op d (cOpsD P oc S (sgOf S sg o.dst) n all rest kc)).run ih fr es m = some y → ∃ sgE frE esE, kc.run ih frE esE m = some y ∧ ∀ base F w a (Q : Act → Prop), Region.wanted o (yielded all a.tmps) = true →
        Inv ρ base F m w → AR ρ F n S sg fr es a → (∀ a', AR ρ F n S sgE frE esE a' → Q a') → wpQuiet P all (fun w' => ∃ p : Regrown, w' = Sort.grow (redrawn w p.d) p.os) Q (o :: rest) a := by
      intro h
      rcases cOp1D_some h with ⟨ko, hc, h⟩ | ⟨ko, hc, h⟩
      · obtain ⟨x, hf, ht⟩ := cPure_goes o hc h
        obtain ⟨sgE, frE, esE, k1, k2⟩ := goOn x hf
        refine ⟨sgE, frE, esE, k1, fun base F w a Q hw hI hA hQ => wpQuiet_step fun K hK => ?_⟩
        rw [if_pos hw]
        obtain ⟨val, hv, _⟩ := ht base F w a hoc hI hA.slots
        refine ⟨val, fun w' hw' => ?_, hK _ (k2 base F w a val Q hv hI hA hQ)⟩
        obtain ⟨val', hv', hrun⟩ := ht base F w' a hoc (hI.below (below_of_class hw')) hA.slots
        rw [hv] at hv'
        obtain rfl := Option.some.inj hv'
        unfold Oper.quietAt
        rw [hrun]
        exact ⟨rfl, rfl⟩
      · generalize ho : o.op = op at hc
        cases op <;> simp only [cEffD] at hc <;> try cases hc
        rename_i c
        split at hc
        · rename_i f hcf
          obtain rfl := Option.some.inj hc
          cases m with | mk H nx wr =>
          obtain ⟨g, cap, hf, h⟩ := fnR_some (show opCallD (getB S sg f) (c.args.toList.map (getB S sg)) d _ ih fr es ⟨H, nx, wr⟩ = some y from h)
          rw [getB_at] at hf
          obtain ⟨hgl, h⟩ := gdR_some h
          -- the operands are the same whatever the memory
          have hargs : ∃ l, callR (ih g (l ++ cap) ⟨H, nx, nx⟩) (fun v _ => plainR v fun v => fin d (cOpsD P oc S (sgOf S sg o.dst) n all rest kc) ih fr es ⟨H, nx, wr⟩ v) = some y ∧
              ∀ (F : Env) (a : Act), Held ρ F (getG S sg fr es) a → dens ρ F l = some (c.args.toList.map a.eval) := by
            have key : ∀ (l : List Operand) (k : List AV → R), argsR (l.map (getB S sg)) fr es k = some y → ∃ vs, k vs = some y ∧ ∀ (F : Env) (a : Act), Held ρ F (getG S sg fr es) a → dens ρ F vs = some (l.map a.eval) := by
              intro l
              induction l with
              | nil => intro k hk; exact ⟨[], hk, fun F a _ => dens_nil F⟩
              | cons x l ihl =>
                intro k hk
                rw [List.map_cons, argsR_cons] at hk
                obtain ⟨hb, hk⟩ := force_some hk
                obtain ⟨vs, h1, h2⟩ := ihl _ hk
                rw [getB_at] at hb h1
                exact ⟨_, h1, fun F a hA => dens_cons_mk (hA.eval hb) (h2 F a hA)⟩
            obtain ⟨l, h1, h2⟩ := key _ _ h
            exact ⟨l, h1, h2⟩
          obtain ⟨l, h, hl⟩ := hargs
          obtain ⟨v, m1, hcall, h⟩ := callR_some h
          obtain ⟨h, hval⟩ := plainR_some h
          obtain ⟨val, hval⟩ := hval ρ
          obtain ⟨sgE, frE, esE, k1, k2⟩ := goOn v h
          have hcallOk := hih _ _ _ _ _ hcall
          refine ⟨sgE, frE, esE, k1, fun base F w a Q hw hI hA hQ => wpQuiet_step fun K hK => ?_⟩
          rw [if_pos hw]
          refine ⟨val, fun w' hw' => ?_, hK _ (k2 base F w a val Q (hval F) hI hA hQ)⟩
          have hb0 := below_of_class hw'
          have hI' := (hI.below hb0).inner
          have hv := hA.slots.eval (x := f) (by rw [hf]; simp)
          rw [hf] at hv
          obtain ⟨us, hus, hfv⟩ := den_fn hgl hv
          have hrun : (execOp a.eval o).run P w' = (callFunc g (c.args.toList.map a.eval ++ us).toArray).run P w' := by
            unfold execOp
            simp only [ho, resolve, hcf, hfv, Deferred.ofValue, invoke]
            have e : c.args.map a.eval ++ us.toArray = (c.args.toList.map a.eval ++ us).toArray := by apply Array.ext'; simp
            simp only [Sem.run_bind, Sem.run_pure, Result.andThen_ok, Array.empty_append, e]
          unfold Oper.quietAt
          rw [hrun]
          rcases hcallOk _ F w' _ hI' (dens_append (hl F a hA.slots) hus) with ⟨hr, hc⟩ | ⟨u, hr, hh⟩
          · rw [hr]
            refine ⟨rfl, hc.mono fun e1 w'' hh => ?_⟩
            obtain ⟨val', rfl, F', hext, hv', _, hb⟩ := hh
            rw [hval F'] at hv'
            obtain rfl := Option.some.inj hv'
            exact ⟨rfl, regrown_of_below (hb0.trans (hb.below.mono hb0.size))⟩
          · rw [hr]
            obtain ⟨F', hext, hv', _, hb⟩ := hh
            rw [hval F'] at hv'
            obtain rfl := Option.some.inj hv'
            exact ⟨rfl, rfl⟩
        · cases hc
    cases hg : o.guard with
    | none =>
      rw [hg] at hko
      obtain rfl := Option.some.inj hko
      obtain ⟨sgE, frE, esE, k1, k2⟩ := run h
      exact ⟨sgE, frE, esE, k1, fun base F w a Q hI hA hQ => k2 base F w a Q (by unfold Region.wanted; rw [hg]) hI hA hQ⟩
    | some p =>
      obtain ⟨j, b⟩ := p
      rw [hg] at hko
      obtain rfl := Option.some.inj hko
      rcases isB_some (show isB b ((guardAt S sg all j).at fr es) _ _ = some y from h) with ⟨hv, h⟩ | ⟨h, hv, hn⟩
      · obtain ⟨sgE, frE, esE, k1, k2⟩ := run h
        exact ⟨sgE, frE, esE, k1, fun base F w a Q hI hA hQ => k2 base F w a Q (guard_yes hA.slots hg hv) hI hA hQ⟩
      · obtain ⟨sgE, frE, esE, k1, k2⟩ := goOn undefAV h
        refine ⟨sgE, frE, esE, k1, fun base F w a Q hI hA hQ => wpQuiet_step fun K hK => ?_⟩
        rw [if_neg (by rw [guard_no hA.slots hg hv hn]; simp)]
        exact hK _ (k2 base F w a undef Q (den_undef F) hI hA hQ)

end Go.Proofs.YtplnnlnkcfappaaGreat.E3
