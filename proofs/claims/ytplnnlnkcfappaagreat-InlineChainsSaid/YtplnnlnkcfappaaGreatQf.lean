/- The second evaluator tells the truth, part 4: the operations that leave the memory, done slowly. -/
import Derived.Test.YtplnnlnkcfappaaGreatQe
import Derived.Laws.Strings
namespace Go.Proofs.YtplnnlnkcfappaaGreat.E3
open Go Go.RowKit
set_option linter.unusedSimpArgs false
set_option linter.unusedVariables false

variable {ρ : Syms}

variable {β : Type} {P : Program} {base : Nat} {F : Env} {m : Mem} {w : World} {g : Nat → AV} {a : Act}

theorem run_isAgg {t : TypeId} {d : TypeDesc} (h : P.underlying t = some d) (w : World) : (isAgg t).run P w = .ok (aggD d) w := by
  cases d <;> simp [isAgg, run_underlying h, aggD]
theorem run_size {t : TypeId} {i : TypeInfo} (h : P.info? t = some i) (w : World) : (sizeOf t).run P w = .ok i.size w := by
  simp [sizeOf, typeInfo, h]
theorem run_zero {t : TypeId} {i : TypeInfo} {z : Value} (h : P.info? t = some i) (hz : i.zero = some z) (w : World) : (zeroValue t).run P w = .ok z w := by
  simp [zeroValue, typeInfo, h, hz]

theorem sizeT_some {t : TypeId} {s : Nat} (h : sizeT P t = some s) : ∃ i, P.info? t = some i ∧ i.size = s := by
  obtain ⟨i, h1, h2⟩ := ob_some h
  exact ⟨i, h1, Option.some.inj h2⟩
theorem zeroT_some {t : TypeId} {z : Value} (h : zeroT P t = some z) : ∃ i, P.info? t = some i ∧ i.zero = some z := ob_some h
theorem aggT_some {t : TypeId} {g : Bool} (h : aggT P t = some g) : ∃ d, P.underlying t = some d ∧ aggD d = g := by
  obtain ⟨i, h1, h2⟩ := ob_some h
  exact ⟨i, h1, Option.some.inj h2⟩
theorem elemT_some {t e : TypeId} (h : elemT P t = some e) : P.underlying t = some (.slice e) := by
  obtain ⟨d, h1, h2⟩ := ob_some h
  cases d <;> simp only [elemD] at h2
  case slice x => rw [h1, Option.some.inj h2]
  all_goals cases h2
theorem structT_some {t : TypeId} {fs : Array Field} (h : structT P t = some fs) : P.underlying t = some (.struct fs) := by
  obtain ⟨d, h1, h2⟩ := ob_some h
  cases d <;> simp only [structD] at h2
  case struct x => rw [h1, Option.some.inj h2]
  all_goals cases h2
theorem fieldT_some {t : TypeId} {i : Nat} {f : Field} (h : fieldT P t i = some f) : ∃ fs, P.underlying t = some (.struct fs) ∧ fs[i]? = some f := by
  obtain ⟨fs, h1, h2⟩ := ob_some h
  exact ⟨fs, structT_some h1, h2⟩

/-- an operation that yields a value -/
theorem valued {s : Sem Value} {v : Value} {w w' : World} (h : s.run P w = .ok v w') : (do pure (Next.value (← s)) : Sem Next).run P w = .ok (.value v) w' := by
  simp [h]

theorem asIntOf_int (q : IntKind) (i : Int) (w : World) : (asIntOf (.int q i)).run P w = .ok (q, i) w := rfl

theorem run_sliceBound (q : IntKind) (l y : Nat) (code : BoundsCode) (h : l ≤ y) (w : World) : (Instr.sliceBound (.int q (l : Int)) y code).run P w = .ok l w := by
  have h1 : (0 : Int) ≤ (l : Int) ∧ (l : Int) ≤ (y : Int) := ⟨Int.natCast_nonneg l, by omega⟩
  simp only [Instr.sliceBound, Sem.run_bind, asIntOf_int, Result.andThen_ok]
  rw [if_pos h1]
  simp

theorem run_sliceAt_sl {t e : TypeId} {ie : TypeInfo} (hu : P.underlying t = some (.slice e)) (hi : P.info? e = some ie) (g off len cap l h : Nat) (lo hiv : Option Value)
    (hlo : lo = none ∧ l = 0 ∨ ∃ q, lo = some (.int q (.ofNat l))) (hhi : hiv = none ∧ h = len ∨ ∃ q, hiv = some (.int q (.ofNat h)))
    (h1 : h ≤ len) (h2 : l ≤ h) (h3 : len ≤ cap) (h4 : l = 0 ∨ l < h) (w : World) :
    (Instr.sliceAt t (.slice (some ⟨g, off, none⟩) len cap) lo hiv none).run P w = .ok (.slice (some ⟨g, off + l * ie.size, none⟩) (h - l) (cap - l)) w := by
  have hb : (Instr.sliceBounds true len cap lo hiv none).run P w = .ok (l, h, cap) w := by
    rcases hlo with ⟨rfl, rfl⟩ | ⟨q, rfl⟩ <;> rcases hhi with ⟨rfl, rfl⟩ | ⟨q', rfl⟩
    · simp [Instr.sliceBounds]
    · simp [Instr.sliceBounds, run_sliceBound q' h cap _ (Nat.le_trans h1 h3)]
    · simp [Instr.sliceBounds, run_sliceBound q l h _ h2]
    · simp [Instr.sliceBounds, run_sliceBound q' h cap _ (Nat.le_trans h1 h3), run_sliceBound q l h _ h2]
  simp only [Instr.sliceAt, Sem.run_bind, run_underlying hu, Result.andThen_ok, Instr.slice, hb, run_size hi, Sem.run_pure]
  congr 2
  rcases h4 with rfl | h4
  · simp [Addr.add]
  · rw [if_neg (by omega)]
    simp [add_eq]

/-- what is shown of each -/
def Tells (ρ : Syms) (P : Program) (F : Env) (a : Act) (w : World) (o : Oper) (x : AV) : Prop := ∃ val, den ρ F x = some val ∧ (execOp a.eval o).run P w = .ok (.value val) w

theorem headAV_some {l : List AV} {x : AV} (h : headAV l = some x) : ∃ r, l = x :: r := by
  cases l with
  | nil => cases h
  | cons y r => exact ⟨r, by rw [Option.some.inj h]⟩

theorem Held.ptr (hA : Held ρ F g a) {x : Operand} {b off : Nat} (h : evO g x = .ptr b off) : ∃ q c, F b = some (q, c) ∧ a.eval x = .pointer (some ⟨q, c.2 + off, none⟩) := by
  have := hA.eval (x := x) (by rw [h]; simp)
  rw [h] at this
  exact den_ptr this
theorem Held.slAny (hA : Held ρ F g a) {x : Operand} {b off len sz : Nat} (h : evO g x = .sl b off len sz) : ∃ q c, F b = some (q, c) ∧ a.eval x = .slice (some ⟨q, c.2 + slOff off len c.1, none⟩) len ((c.1 - off) / sz) := by
  have := hA.eval (x := x) (by rw [h]; simp)
  rw [h] at this
  exact den_sl this
theorem Held.sl (hA : Held ρ F g a) {x : Operand} {b off len sz : Nat} (h : evO g x = .sl b off len sz) (h0 : len ≠ 0 ∨ off = 0) : ∃ q c, F b = some (q, c) ∧ a.eval x = .slice (some ⟨q, c.2 + off, none⟩) len ((c.1 - off) / sz) := by
  obtain ⟨q, c, h1, h2⟩ := hA.slAny h
  refine ⟨q, c, h1, ?_⟩
  rcases h0 with h0 | rfl
  · rwa [slOff_pos h0] at h2
  · rwa [slOff_zero] at h2

theorem natOpt_some {d : Nat} {o : Option Operand} {k : Nat → Option β} {y : β} (h : natOpt g d o k = some y) :
    ∃ l, k l = some y ∧ (o = none ∧ l = d ∨ ∃ x q, o = some x ∧ Is (evO g x) (.int q (.ofNat l))) := by
  cases o with
  | none => exact ⟨d, h, .inl ⟨rfl, rfl⟩⟩
  | some x =>
    obtain ⟨q, l, h1, h2⟩ := asNat_some h
    exact ⟨l, h2, .inr ⟨x, q, rfl, h1⟩⟩

theorem rawOpt_some (hA : Held ρ F g a) {o : Option Operand} {k : Option Value → Option β} {y : β} (h : rawOpt g o k = some y) : k (o.map a.eval) = some y := by
  cases o with
  | none => exact h
  | some x =>
    obtain ⟨v, h1, h2⟩ := asRaw_some h
    simpa [hA.is h1] using h2

theorem evPick_spec (hA : Held ρ F g a) (o : Oper) {c p q : Operand} (ho : o.op = .pick c p q) {x : AV} (hx : x ≠ .bad) (h : evPick g c p q = some x) : Tells ρ P F a w o x := by
  obtain ⟨v, hv, h⟩ := asRaw_some h
  have hc := hA.is hv
  cases v <;> simp only at h <;> try cases h
  rename_i t
  rw [te_eq] at h
  refine ⟨if t then a.eval p else a.eval q, ?_, ?_⟩
  · cases t
    · obtain rfl := Option.some.inj h; exact hA.eval hx
    · obtain rfl := Option.some.inj h; exact hA.eval hx
  · unfold execOp
    simp only [ho, hc]
    cases t <;> simp [asBool]

theorem arrT_some {t : TypeId} {p : Nat × TypeId} (h : arrT P t = some p) : P.underlying t = some (.array p.1 p.2) := by
  obtain ⟨d, h1, h2⟩ := ob_some h
  cases d <;> simp only [arrD] at h2
  case array n e => rw [h1, ← Option.some.inj h2]
  all_goals cases h2

theorem evBuild_spec (hA : Held ρ F g a) (o : Oper) {t : TypeId} {ps : Array (Nat × Operand)} (ho : o.op = .build t ps) {x : AV} (h : evBuild P g t ps = some x) : Tells ρ P F a w o x := by
  have fin : ∀ vs : List Value, P.built t (ps.map fun (i, x) => (i, a.eval x)).toList = some vs.toArray → (execOp a.eval o).run P w = .ok (.value (.agg vs.toArray)) w := by
    intro vs hb
    unfold execOp
    simp only [ho]
    exact valued (run_build w t _ _ hb)
  unfold evBuild at h
  cases harr : arrT P t with
  | some p =>
    rw [harr] at h
    obtain ⟨z, hz, h⟩ := ob_some (show evBuildA P g t ps = some x from h)
    obtain ⟨p', hp, h⟩ := ob_some h
    obtain ⟨s, hs, h⟩ := ob_some h
    obtain ⟨l, hl, h⟩ := ob_some h
    obtain rfl := Option.some.inj h
    obtain ⟨i, hi, hiz⟩ := zeroT_some hz
    obtain ⟨ie, hie, rfl⟩ := sizeT_some hs
    have hu := arrT_some hp
    obtain ⟨vs, h1, h2, _⟩ := fillAV_spec (F := F) _ _ _ _ _ _ hl (dens_cellsV F z) (evParts_PV hA ps)
    refine ⟨.agg vs.toArray, by simp [den, h1], fin vs ?_⟩
    unfold Program.built
    simp only [hi, hu, hiz, hie]
    simpa using h2
  | none =>
    rw [harr] at h
    obtain ⟨z, hz, h⟩ := ob_some (show evBuildS P g t ps = some x from h)
    obtain ⟨fs, hfs, h⟩ := ob_some h
    obtain ⟨pl, hpl, h⟩ := ob_some h
    obtain ⟨l, hl, h⟩ := ob_some h
    obtain rfl := Option.some.inj h
    obtain ⟨i, hi, hiz⟩ := zeroT_some hz
    have hu := structT_some hfs
    obtain ⟨vs, h1, h2, _⟩ := fillAV_spec (F := F) _ _ _ _ _ _ hl (dens_cellsV F z) (evParts_PV hA ps)
    refine ⟨.agg vs.toArray, by simp [den, h1], fin vs ?_⟩
    unfold Program.built
    simp only [hi, hu, hiz, hpl]
    simpa using h2

theorem plain_tells (o : Oper) {s : Sem Value} {x : AV} (hs : execOp a.eval o = (do pure (Next.value (← s)))) (h : evPlain P s = some x) : Tells ρ P F a w o x := by
  obtain ⟨v, hx, hv⟩ := evPlain_some h
  exact ⟨v, hx.2 ρ F, by rw [hs]; exact valued (hv w)⟩

/-- the word on operations is true -/
def OrcOk (ρ : Syms) (P : Program) (oc : Orc) : Prop := ∀ op u v r, oc op u v = some r → u ≠ .bad ∧ v ≠ .bad ∧ ∀ F a b, den ρ F u = some a → den ρ F v = some b →
  ∃ c, den ρ F r = some c ∧ ∀ w t p q, (do eqGuard op t p q a b; binOp op t a b : Sem Value).run P w = .ok c w

theorem slT_some {t : TypeId} (h : slT P t = true) : ∃ e, P.underlying t = some (.slice e) := by
  unfold slT at h
  split at h
  · exact ⟨_, by assumption⟩
  · cases h
theorem ptT_some {t : TypeId} (h : ptT P t = true) : ∃ e, P.underlying t = some (.pointer e) := by
  unfold ptT at h
  split at h
  · exact ⟨_, by assumption⟩
  · cases h
theorem eqOut_some {op : BinOp} {x : AV} (h : eqOut op = some x) {t : TypeId} {u v : Value} (h0 : ∀ w, (Op.equal t u v).run P w = .ok false w) (hu : (∃ a n c, u = .slice a n c) ∨ ∃ a, u = .pointer a) (hv : (∃ a n c, v = .slice a n c) ∨ ∃ a, v = .pointer a) :
    ∃ c, (∀ F, den ρ F x = some c) ∧ ∀ (w : World) p q, (do eqGuard op t p q u v; binOp op t u v : Sem Value).run P w = .ok c w := by
  unfold eqOut at h
  split at h
  · obtain rfl := Option.some.inj h
    refine ⟨.bool false, fun F => by simp [den], fun w p q => ?_⟩
    rcases hu with ⟨a, n, c, rfl⟩ | ⟨a, rfl⟩ <;> rcases hv with ⟨b, k, d, rfl⟩ | ⟨b, rfl⟩ <;> simp [eqGuard, binOp, h0]
  · obtain rfl := Option.some.inj h
    refine ⟨.bool true, fun F => by simp [den], fun w p q => ?_⟩
    rcases hu with ⟨a, n, c, rfl⟩ | ⟨a, rfl⟩ <;> rcases hv with ⟨b, k, d, rfl⟩ | ⟨b, rfl⟩ <;> simp [eqGuard, binOp, h0]
  · cases h
theorem eqIn_sn {t e : TypeId} {g : Addr} {n c k l : Nat} (w : World) (d : Nat) (he : P.underlying t = some (.slice e)) : (Op.equalIn (d + 1) t (.slice (some g) n c) (.slice none k l)).run P w = .ok false w := by
  simp [Op.equalIn, run_underlying he]
theorem eqIn_ns {t e : TypeId} {g : Addr} {n c k l : Nat} (w : World) (d : Nat) (he : P.underlying t = some (.slice e)) : (Op.equalIn (d + 1) t (.slice none k l) (.slice (some g) n c)).run P w = .ok false w := by
  simp [Op.equalIn, run_underlying he]
theorem eqIn_pn {t e : TypeId} {g : Addr} (w : World) (d : Nat) (he : P.underlying t = some (.pointer e)) : (Op.equalIn (d + 1) t (.pointer (some g)) (.pointer none)).run P w = .ok false w := by
  simp [Op.equalIn, run_underlying he]
theorem eqIn_np {t e : TypeId} {g : Addr} (w : World) (d : Nat) (he : P.underlying t = some (.pointer e)) : (Op.equalIn (d + 1) t (.pointer none) (.pointer (some g))).run P w = .ok false w := by
  simp [Op.equalIn, run_underlying he]
theorem evNil_spec {op : BinOp} {t : TypeId} {u v x : AV} (h : evNil P op t u v = some x) : u ≠ .bad ∧ v ≠ .bad ∧ ∀ F a b, den ρ F u = some a → den ρ F v = some b →
    ∃ c, den ρ F x = some c ∧ ∀ (w : World) p q, (do eqGuard op t p q a b; binOp op t a b : Sem Value).run P w = .ok c w := by
  unfold evNil at h
  split at h
  · obtain ⟨h1, h⟩ := gd_some h
    obtain ⟨e, he⟩ := slT_some h1
    refine ⟨by simp, by simp, fun F a b ha hb => ?_⟩
    obtain ⟨g, c, _, rfl⟩ := den_sl ha
    simp only [den, Option.some.injEq] at hb
    subst hb
    obtain ⟨c, h2, h3⟩ := eqOut_some (ρ := ρ) h (t := t) (fun w => eqIn_sn w 9999 he) (.inl ⟨_, _, _, rfl⟩) (.inl ⟨_, _, _, rfl⟩)
    exact ⟨c, h2 F, h3⟩
  · obtain ⟨h1, h⟩ := gd_some h
    obtain ⟨e, he⟩ := slT_some h1
    refine ⟨by simp, by simp, fun F a b ha hb => ?_⟩
    obtain ⟨g, c, _, rfl⟩ := den_sl hb
    simp only [den, Option.some.injEq] at ha
    subst ha
    obtain ⟨c, h2, h3⟩ := eqOut_some (ρ := ρ) h (t := t) (fun w => eqIn_ns w 9999 he) (.inl ⟨_, _, _, rfl⟩) (.inl ⟨_, _, _, rfl⟩)
    exact ⟨c, h2 F, h3⟩
  · obtain ⟨h1, h⟩ := gd_some h
    obtain ⟨e, he⟩ := ptT_some h1
    refine ⟨by simp, by simp, fun F a b ha hb => ?_⟩
    obtain ⟨g, c, _, rfl⟩ := den_ptr ha
    simp only [den, Option.some.injEq] at hb
    subst hb
    obtain ⟨c, h2, h3⟩ := eqOut_some (ρ := ρ) h (t := t) (fun w => eqIn_pn w 9999 he) (.inr ⟨_, rfl⟩) (.inr ⟨_, rfl⟩)
    exact ⟨c, h2 F, h3⟩
  · obtain ⟨h1, h⟩ := gd_some h
    obtain ⟨e, he⟩ := ptT_some h1
    refine ⟨by simp, by simp, fun F a b ha hb => ?_⟩
    obtain ⟨g, c, _, rfl⟩ := den_ptr hb
    simp only [den, Option.some.injEq] at ha
    subst ha
    obtain ⟨c, h2, h3⟩ := eqOut_some (ρ := ρ) h (t := t) (fun w => eqIn_np w 9999 he) (.inr ⟨_, rfl⟩) (.inr ⟨_, rfl⟩)
    exact ⟨c, h2 F, h3⟩
  · cases h

theorem bytesEq_eq : ∀ {l r : List UInt8}, bytesEq l r = true → l = r
  | [], [], _ => rfl
  | [], _ :: _, h => by simp [bytesEq] at h
  | _ :: _, [], h => by simp [bytesEq] at h
  | x :: l, y :: r, h => by
    simp only [bytesEq, te_eq] at h
    split at h
    · rename_i h1
      rw [UInt8.toNat_inj.1 (Nat.eq_of_beq_eq_true h1), bytesEq_eq h]
    · cases h
theorem bytesEq_iff : ∀ (l r : List UInt8), bytesEq l r = decide (l = r)
  | [], [] => by simp [bytesEq]
  | [], _ :: _ => by simp [bytesEq]
  | _ :: _, [] => by simp [bytesEq]
  | x :: l, y :: r => by
    simp only [bytesEq, te_eq]
    by_cases h : Nat.beq x.toNat y.toNat = true
    · rw [if_pos h, bytesEq_iff l r, UInt8.toNat_inj.1 (Nat.eq_of_beq_eq_true h)]
      simp
    · rw [if_neg h]
      have hne : x ≠ y := fun e => h (by rw [e]; exact Nat.beq_refl _)
      simp [hne]
theorem lessB_eq : ∀ (l r : List UInt8), lessB l r = Op.bytesLess l r
  | [], [] => by simp [lessB, Op.bytesLess]
  | [], _ :: _ => by simp [lessB, Op.bytesLess]
  | _ :: _, [] => by simp [lessB, Op.bytesLess]
  | x :: l, y :: r => by
    simp only [lessB, Op.bytesLess, te_eq, lessB_eq l r]
    by_cases h : Nat.blt x.toNat y.toNat = true
    · rw [if_pos h]
      have : x < y := UInt8.lt_iff_toNat_lt.2 (Nat.le_of_ble_eq_true h)
      simp [this]
    · rw [if_neg h]
      have hn : ¬ x < y := fun hh => h (Nat.ble_eq_true_of_le (UInt8.lt_iff_toNat_lt.1 hh))
      by_cases h2 : Nat.beq x.toNat y.toNat = true
      · rw [if_pos h2, UInt8.toNat_inj.1 (Nat.eq_of_beq_eq_true h2)]
        simp
      · rw [if_neg h2]
        have hne : x ≠ y := fun e => h2 (by rw [e]; exact Nat.beq_refl _)
        simp [hn, hne]
theorem notB_eq (b : Bool) : notB b = !b := by cases b <;> rfl
theorem lenB_eq : ∀ l : List UInt8, lenB l = l.length
  | [] => rfl
  | _ :: l => by show Nat.succ (lenB l) = _; rw [lenB_eq l]; rfl
theorem asCode_some {v : AV} {k : Nat → Nat → Option AV} {y : AV} (h : asCode v k = some y) : ∃ n q, v = .str n q ∧ k n q = some y := by
  unfold asCode at h
  split at h
  · exact ⟨_, _, rfl, h⟩
  · cases h
theorem Held.str (hA : Held ρ F g a) {x : Operand} {n q : Nat} (h : evO g x = .str n q) : a.eval x = .string (strOf ρ n q) := by
  have := hA.eval (x := x) (by rw [h]; simp)
  rw [h] at this
  simp only [den, Option.some.injEq] at this
  exact this.symm
theorem Held.byt (hA : Held ρ F g a) {x : Operand} {n : Nat} (h : evO g x = .byt n) : a.eval x = .int .u8 (.ofNat n) := by
  have := hA.eval (x := x) (by rw [h]; simp)
  rw [h] at this
  simp only [den, Option.some.injEq] at this
  exact this.symm
theorem Held.hol (hA : Held ρ F g a) {x : Operand} {t j : Nat} (h : evO g x = .hol t j) : a.eval x = holOf ρ t j := by
  have := hA.eval (x := x) (by rw [h]; simp)
  rw [h] at this
  simp only [den, Option.some.injEq] at this
  exact this.symm
/-! two texts as numbers -/
theorem byteOf_toNat (b : Nat) : (byteOf ρ b).toNat = if b < 128 then b else 48 + ρ.hole (b - 128) % 10 := by
  unfold byteOf
  split
  · simp; omega
  · have := Nat.mod_lt (ρ.hole (b - 128)) (by decide : 0 < 10)
    simp; omega
theorem noDig_some {b : Nat} (h : noDig b = true) : b < 48 ∨ (57 < b ∧ b < 128) := by
  unfold noDig at h
  rw [te_eq, te_eq] at h
  split at h
  · rename_i h1; exact .inl (Nat.le_of_ble_eq_true h1)
  · split at h
    · rename_i h1; exact .inr ⟨Nat.le_of_ble_eq_true h1, Nat.le_of_ble_eq_true h⟩
    · cases h
theorem blt_false {a b : Nat} (h : ¬ Nat.blt a b = true) : ¬ a < b := fun e => h (Nat.ble_eq_true_of_le e)
theorem differ_ne {a b : Nat} (h : differ a b = true) : byteOf ρ a ≠ byteOf ρ b := by
  intro e
  have e' := congrArg UInt8.toNat e
  rw [byteOf_toNat, byteOf_toNat] at e'
  have ha := Nat.mod_lt (ρ.hole (a - 128)) (by decide : 0 < 10)
  have hb := Nat.mod_lt (ρ.hole (b - 128)) (by decide : 0 < 10)
  unfold differ at h
  rw [te_eq, te_eq] at h
  split at h
  · rename_i h1
    have h1' : a < 128 := Nat.le_of_ble_eq_true h1
    rw [if_pos h1'] at e'
    split at h
    · rename_i h2
      have h2' : b < 128 := Nat.le_of_ble_eq_true h2
      rw [if_pos h2'] at e'
      rw [notB_eq, e', Nat.beq_refl] at h
      cases h
    · rename_i h2
      rw [if_neg (blt_false h2)] at e'
      have := noDig_some h
      omega
  · rename_i h1
    rw [if_neg (blt_false h1)] at e'
    have := noDig_some h
    split at e' <;> omega
theorem cmpS_spec : ∀ (n q r : Nat) (b : Bool), cmpS n q r = some b → decide (bytesOf ρ n q = bytesOf ρ n r) = b
  | 0, q, r, b, h => by obtain rfl := Option.some.inj (show some true = some b from h); rfl
  | n + 1, q, r, b, h => by
    replace h : te (differ (Nat.mod q 256) (Nat.mod r 256)) (some false) (strictN (Nat.div q 256) fun q' => strictN (Nat.div r 256) fun r' => te (Nat.beq (Nat.mod q 256) (Nat.mod r 256)) (cmpS n q' r') (ob (cmpS n q' r') fun b => te b none (some false))) = some b := h
    rw [te_eq, strictN_eq, strictN_eq, te_eq] at h
    show decide (byteOf ρ (q % 256) :: bytesOf ρ n (q / 256) = byteOf ρ (r % 256) :: bytesOf ρ n (r / 256)) = b
    split at h
    · rename_i h1
      obtain rfl := Option.some.inj h
      have := differ_ne (ρ := ρ) h1
      simp only [List.cons.injEq, decide_eq_false_iff_not, not_and]
      exact fun e => absurd e this
    · split at h
      · rename_i h2
        have h2' : q % 256 = r % 256 := Nat.eq_of_beq_eq_true h2
        have := cmpS_spec n (q / 256) (r / 256) b h
        rw [h2', ← this]
        simp
      · obtain ⟨b', h3, h⟩ := ob_some h
        rw [te_eq] at h
        cases b' with
        | true => cases h
        | false =>
          obtain rfl := Option.some.inj (show some false = some b from h)
          have h4 := cmpS_spec n (q / 256) (r / 256) false h3
          simp only [decide_eq_false_iff_not] at h4
          simp [h4]
theorem eqS_spec {n q m r : Nat} {b : Bool} (h : eqS n q m r = some b) : bytesEq (strOf ρ n q).data.toList (strOf ρ m r).data.toList = b := by
  rw [bytesEq_iff]
  show decide (bytesOf ρ n q = bytesOf ρ m r) = b
  unfold eqS at h
  rw [te_eq, te_eq] at h
  split at h
  · rename_i h1
    obtain rfl : n = m := Nat.eq_of_beq_eq_true h1
    split at h
    · rename_i h2
      obtain rfl : q = r := Nat.eq_of_beq_eq_true h2
      obtain rfl := Option.some.inj h
      simp
    · exact cmpS_spec n q r b h
  · rename_i h1
    obtain rfl := Option.some.inj h
    have hne : n ≠ m := fun e => h1 (by rw [e]; exact Nat.beq_refl _)
    simp only [decide_eq_false_iff_not]
    intro e
    have := congrArg List.length e
    rw [bytesOf_length, bytesOf_length] at this
    exact hne this
theorem rawBytes_str {n q : Nat} {l : List UInt8} (h : rawBytes n q = some l) : (strOf ρ n q).data.toList = l := rawBytes_some ρ n q l h
theorem strOf_size (n q : Nat) : (strOf ρ n q).size = n := by
  show (bytesOf ρ n q).toArray.size = n
  simp [bytesOf_length]
theorem toList_beq (a b : ByteArray) : (a.toList == b.toList) = bytesEq a.data.toList b.data.toList := by
  rw [ByteArray.toList_eq, ByteArray.toList_eq, bytesEq_iff, Bool.eq_iff_iff]
  simp
theorem strBin_spec {op : BinOp} {n q m r : Nat} {x : AV} (h : strBin op n q m r = some x) : ∃ c, (∀ F, den ρ F x = some c) ∧ ∀ (w : World) (t : TypeId) p p', (do eqGuard op t p p' (.string (strOf ρ n q)) (.string (strOf ρ m r)); binOp op t (.string (strOf ρ n q)) (.string (strOf ρ m r)) : Sem Value).run P w = .ok c w := by
  have hl : Op.bytesLess (strOf ρ n q).toList (strOf ρ m r).toList = lessB (strOf ρ n q).data.toList (strOf ρ m r).data.toList := by rw [ByteArray.toList_eq, ByteArray.toList_eq, lessB_eq]
  have hu : op ≠ .add → op ≠ .eql → op ≠ .neq → (ob (rawBytes n q) fun s => ob (rawBytes m r) fun t => ordS op s t) = some x → ordS op (strOf ρ n q).data.toList (strOf ρ m r).data.toList = some x := by
    intro _ _ _ h
    obtain ⟨s, hs, h⟩ := ob_some h
    obtain ⟨t, ht, h⟩ := ob_some h
    rw [rawBytes_str hs, rawBytes_str ht]
    exact h
  cases op <;> simp only [strBin] at h
  case add =>
    obtain ⟨h1, h⟩ := gd_some h
    rw [strictN_eq, strictN_eq] at h
    obtain rfl := Option.some.inj h
    have h1' : n + m ≤ 1000000 := Nat.le_of_ble_eq_true h1
    refine ⟨.string (strOf ρ n q ++ strOf ρ m r), fun F => ?_, fun w t p1 p2 => ?_⟩
    · simp only [den, Option.some.injEq, Value.string.injEq]
      apply ByteArray.ext
      rw [ByteArray.data_append]
      apply Array.ext'
      show bytesOf ρ (n + m) (q % 256 ^ n + r * 256 ^ n) = _
      rw [← bytesOf_append]
      simp [strOf]
    · have h2 : ¬ (((strOf ρ n q).size + (strOf ρ m r).size : Nat) : Int) > IntKind.i64.max := by
        have e : IntKind.i64.max = 9223372036854775807 := by decide
        rw [e, strOf_size, strOf_size]
        omega
      simp only [eqGuard, binOp, Op.stringOp]
      rw [if_neg h2]
      simp
  case eql =>
    obtain ⟨b, hb, h⟩ := ob_some h
    rw [boolAV_eq] at h
    obtain rfl := Option.some.inj h
    refine ⟨.bool _, fun F => rfl, fun w t p1 p2 => ?_⟩
    simp [eqGuard, binOp, Op.stringOp, toList_beq, eqS_spec hb]
  case neq =>
    obtain ⟨b, hb, h⟩ := ob_some h
    rw [boolAV_eq] at h
    obtain rfl := Option.some.inj h
    refine ⟨.bool _, fun F => rfl, fun w t p1 p2 => ?_⟩
    simp [eqGuard, binOp, Op.stringOp, toList_beq, eqS_spec hb, notB_eq]
  all_goals
    have h := hu (by simp) (by simp) (by simp) h
    simp only [ordS] at h
    try cases h
  all_goals
    rw [boolAV_eq] at h
    obtain rfl := Option.some.inj h
    refine ⟨.bool _, fun F => rfl, fun w t p1 p2 => ?_⟩
    simp [eqGuard, binOp, Op.stringOp, hl, toList_beq, notB_eq, te_eq]
  all_goals
    cases lessB (strOf ρ n q).data.toList (strOf ρ m r).data.toList <;> simp
theorem nthB_some {n q i : Nat} {x : AV} (h : nthB n q i = some x) : i < n ∧ ∀ F, den ρ F x = some (.int .u8 (byteOf ρ (q / 256 ^ i % 256)).toNat) := by
  obtain ⟨h1, h⟩ := gd_some h
  rw [strictN_eq, te_eq] at h
  refine ⟨Nat.le_of_ble_eq_true h1, fun F => ?_⟩
  have e : Nat.mod (Nat.div q (Nat.pow 256 i)) 256 = q / 256 ^ i % 256 := rfl
  rw [e] at h
  rw [byteOf_toNat]
  split at h
  · rename_i h2
    obtain rfl := Option.some.inj h
    have h2' : q / 256 ^ i % 256 < 128 := Nat.le_of_ble_eq_true h2
    rw [if_pos h2']
    rfl
  · rename_i h2
    rw [strictN_eq] at h
    obtain rfl := Option.some.inj h
    rw [if_neg (blt_false h2)]
    rfl
theorem stT_some {t : TypeId} (h : stT P t = true) : P.underlying t = some .string := by
  unfold stT at h
  split at h
  · assumption
  · cases h
theorem evNth_spec {t : TypeId} {u i x : AV} (h : evNth P t u i = some x) : ∃ n q k j, u = .str n q ∧ Is i (.int k (.ofNat j)) ∧ ∃ c, (∀ F, den ρ F x = some c) ∧ ∀ w : World, (Instr.index t (.string (strOf ρ n q)) (.int k (.ofNat j))).run P w = .ok c w := by
  obtain ⟨h1, h⟩ := gd_some h
  obtain ⟨n, q, rfl, h⟩ := asCode_some h
  obtain ⟨k, j, hi, h⟩ := asNat_some h
  obtain ⟨hlt, hb⟩ := nthB_some (ρ := ρ) h
  refine ⟨n, q, k, j, rfl, hi, _, hb, fun w => ?_⟩
  have hb' : (strOf ρ n q)[j]? = some (byteOf ρ (q / 256 ^ j % 256)) := by
    have hlt' : j < (strOf ρ n q).size := by rw [strOf_size]; exact hlt
    rw [getElem?_pos (strOf ρ n q) j hlt']
    have hh := bytesOf_get ρ n q j hlt
    refine congrArg some ?_
    have : (strOf ρ n q).data.toList[j]? = some (byteOf ρ (q / 256 ^ j % 256)) := hh
    rw [Array.getElem?_toList] at this
    obtain ⟨hlt2, hx⟩ := Array.getElem?_eq_some_iff.1 this
    exact hx
  simp only [Instr.index, asIntOf, run_underlying (stT_some h1), Sem.run_bind, Sem.run_pure, Result.andThen_ok]
  simp [hb']

theorem holCmp_spec {op : BinOp} {j b : Nat} {x : AV} (h : holCmp op j b = some x) : ∃ c, (∀ F, den ρ F x = some c) ∧ ∀ (w : World) (t : TypeId) p q, (do eqGuard op t p q (holOf ρ 0 j) (.int .u8 (.ofNat b)); binOp op t (holOf ρ 0 j) (.int .u8 (.ofNat b)) : Sem Value).run P w = .ok c w := by
  have hd := Nat.mod_lt (ρ.hole j) (by decide : 0 < 10)
  have hh : holOf ρ 0 j = .int .u8 (.ofNat (48 + ρ.hole j % 10)) := rfl
  rw [hh]
  have ble {a b : Nat} (h : Nat.ble a b = true) : a ≤ b := Nat.le_of_ble_eq_true h
  cases op <;> simp only [holCmp] at h <;> try cases h
  case sub =>
    obtain ⟨h1, h⟩ := gd_some h
    obtain rfl := Option.some.inj h
    obtain rfl : b = 48 := Nat.eq_of_beq_eq_true h1
    refine ⟨.int .u8 (.ofNat (ρ.hole j % 10)), fun F => rfl, fun w t p q => ?_⟩
    have e : IntKind.u8.wrap (Int.ofNat (48 + ρ.hole j % 10) - Int.ofNat 48) = Int.ofNat (ρ.hole j % 10) := by
      rw [show Int.ofNat (48 + ρ.hole j % 10) - Int.ofNat 48 = Int.ofNat (ρ.hole j % 10) by simp; omega]
      generalize ρ.hole j % 10 = d at hd ⊢
      revert d
      decide
    simp only [eqGuard, binOp, Op.intArith, e]
    simp
  all_goals
    first
    | (obtain ⟨h1, h⟩ := gd_some h
       obtain rfl := Option.some.inj h
       refine ⟨.bool _, fun F => rfl, fun w t p q => ?_⟩
       have := noDig_some h1
       simp only [eqGuard, binOp, Op.intCmp]
       simp
       try omega)
    | (rw [te_eq] at h
       split at h
       · rename_i h1
         obtain rfl := Option.some.inj h
         refine ⟨.bool _, fun F => rfl, fun w t p q => ?_⟩
         have h1' := ble h1
         simp only [eqGuard, binOp, Op.intCmp]
         simp
         try omega
       · obtain ⟨h2, h⟩ := gd_some h
         obtain rfl := Option.some.inj h
         refine ⟨.bool _, fun F => rfl, fun w t p q => ?_⟩
         have h2' := ble h2
         simp only [eqGuard, binOp, Op.intCmp]
         simp
         try omega)
theorem evHol_some {op : BinOp} {u v x : AV} (h : evHol op u v = some x) : ∃ j b, u = .hol 0 j ∧ v = .byt b ∧ holCmp op j b = some x := by
  unfold evHol at h
  split at h
  · exact ⟨_, _, rfl, rfl, h⟩
  · cases h
theorem evBin_spec {oc : Orc} (hoc : OrcOk ρ P oc) (hA : Held ρ F g a) (o : Oper) {op : BinOp} {t ty : TypeId} {p q : Operand} (ho : o.op = .binOp op t p q ty) {x : AV} (h : evBin P oc g op t p q = some x) : Tells ρ P F a w o x := by
  unfold evBin at h
  cases hc : oc op (evO g p) (evO g q) with
  | some r =>
    rw [hc] at h
    obtain rfl := Option.some.inj (show some r = some x from h)
    obtain ⟨h1, h2, h3⟩ := hoc _ _ _ _ hc
    obtain ⟨c, hr, hrun⟩ := h3 F _ _ (hA.eval h1) (hA.eval h2)
    refine ⟨c, hr, ?_⟩
    unfold execOp
    simp only [ho]
    exact valued (hrun w t p q)
  | none =>
    rw [hc] at h
    cases hp : (Option.rec (motive := fun _ => Option AV) (asRaw (evO g p) fun a => asRaw (evO g q) fun b => evPlain P (do eqGuard op t p q a b; binOp op t a b)) some (Option.rec (motive := fun _ => Option AV) (evStr op (evO g p) (evO g q)) some (evHol op (evO g p) (evO g q))) : Option AV) with
    | none =>
      rw [hp] at h
      obtain ⟨h1, h2, h3⟩ := evNil_spec (ρ := ρ) (show evNil P op t (evO g p) (evO g q) = some x from h)
      obtain ⟨c, hr, hrun⟩ := h3 F _ _ (hA.eval h1) (hA.eval h2)
      refine ⟨c, hr, ?_⟩
      unfold execOp
      simp only [ho]
      exact valued (hrun w p q)
    | some x' =>
      rw [hp] at h
      obtain rfl := Option.some.inj (show some x' = some x from h)
      cases hho : evHol op (evO g p) (evO g q) with
      | some x2 =>
        rw [hho] at hp
        obtain rfl := Option.some.inj (show some x2 = some x' from hp)
        obtain ⟨j, b, hs, hu, hho⟩ := evHol_some hho
        obtain ⟨c, hr, hrun⟩ := holCmp_spec (ρ := ρ) (P := P) hho
        refine ⟨c, hr F, ?_⟩
        unfold execOp
        simp only [ho, hA.hol hs, hA.byt hu]
        exact valued (hrun w t p q)
      | none =>
      rw [hho] at hp
      cases hst : evStr op (evO g p) (evO g q) with
      | some x2 =>
        rw [hst] at hp
        obtain rfl := Option.some.inj (show some x2 = some x' from hp)
        obtain ⟨n1, q1, hs, hst⟩ := asCode_some hst
        obtain ⟨n2, q2, hu, hst⟩ := asCode_some hst
        obtain ⟨c, hr, hrun⟩ := strBin_spec (ρ := ρ) (P := P) hst
        refine ⟨c, hr F, ?_⟩
        unfold execOp
        simp only [ho, hA.str hs, hA.str hu]
        exact valued (hrun w t p q)
      | none =>
      rw [hst] at hp
      obtain ⟨u, hu, hp⟩ := asRaw_some (show asRaw (evO g p) (fun a => asRaw (evO g q) fun b => evPlain P (do eqGuard op t p q a b; binOp op t a b)) = some x' from hp)
      obtain ⟨v, hv, hp⟩ := asRaw_some hp
      have h1 := hA.is hu
      have h2 := hA.is hv
      refine plain_tells o ?_ hp
      unfold execOp
      simp only [ho, h1, h2]

theorem run_neg {v c : Value} (h : ∀ (w : World) (t : TypeId) p q, (do eqGuard .sub t p q (.int .i64 (.ofNat 0)) v; binOp .sub t (.int .i64 (.ofNat 0)) v : Sem Value).run P w = .ok c w) (w : World) : (Op.unary .neg v).run P w = .ok c w := by
  have h1 := h w 0 (.tmp 0) (.tmp 0)
  have h2 : (binOp .sub 0 (.int .i64 (.ofNat 0)) v).run P w = .ok c w := by simpa [eqGuard] using h1
  cases v with
  | int k n =>
    by_cases hk : k = .i64
    · subst hk
      simpa [binOp, Op.unary] using h2
    · have hk' : ¬ IntKind.i64 = k := fun e => hk e.symm
      simp [binOp, hk', stuck] at h2
  | _ => simp [binOp, stuck] at h2
theorem evUn_spec {oc : Orc} (hoc : OrcOk ρ P oc) (hA : Held ρ F g a) (o : Oper) {op : UnOp} {t : TypeId} {y : Operand} (ho : o.op = .unOp op t y) {x : AV} (h : evUn P oc g op y = some x) : Tells ρ P F a w o x := by
  unfold evUn at h
  cases hr : (asRaw (evO g y) fun a => evPlain P (Op.unary op a)) with
  | some x' =>
    rw [hr] at h
    obtain rfl := Option.some.inj (show some x' = some x from h)
    obtain ⟨v, hv, hr⟩ := asRaw_some hr
    refine plain_tells o ?_ hr
    unfold execOp
    simp only [ho, hA.is hv]
  | none =>
    rw [hr] at h
    obtain ⟨h1, h⟩ := gd_some (show gd (isNeg op) (oc .sub (.nat 0) (evO g y)) = some x from h)
    have hop : op = .neg := by cases op <;> first | rfl | cases h1
    subst hop
    obtain ⟨_, h2, h3⟩ := hoc _ _ _ _ h
    obtain ⟨c, hc, hrun⟩ := h3 F _ _ (by simp [den]; rfl) (hA.eval h2)
    refine ⟨c, hc, ?_⟩
    unfold execOp
    simp only [ho]
    exact valued (run_neg hrun w)

theorem evIndexR_spec (hA : Held ρ F g a) (o : Oper) {t : TypeId} {y i : Operand} (ho : o.op = .index t y i) {x : AV} (h : evIndexR P g t y i = some x) : Tells ρ P F a w o x := by
  cases hn : evNth P t (evO g y) (evO g i) with
  | some x' =>
    rw [evIndexR, hn] at h
    obtain rfl := Option.some.inj (show some x' = some x from h)
    obtain ⟨n1, q1, k1, j1, hb, hc, v, hv, hrun⟩ := evNth_spec (ρ := ρ) hn
    refine ⟨v, hv F, ?_⟩
    unfold execOp
    simp only [ho, hA.str hb, hA.is hc]
    exact valued (hrun w)
  | none =>
    rw [evIndexR, hn] at h
    obtain ⟨v, hv, h⟩ := asRaw_some (show asRaw (evO g y) (fun a => asRaw (evO g i) fun i => evPlain P (Instr.index t a i)) = some x from h)
    obtain ⟨u, hu, h⟩ := asRaw_some h
    refine plain_tells o ?_ h
    unfold execOp
    simp only [ho, hA.is hv, hA.is hu]

theorem intT_some {t : TypeId} {k : IntKind} (h : intT P t k = true) : P.underlying t = some (.int k) := by
  unfold intT at h
  split at h
  · rename_i q hq
    rw [hq, of_decide_eq_true h]
  · cases h
theorem evConv_spec (hA : Held ρ F g a) (o : Oper) {s d : TypeId} {y : Operand} (ho : o.op = .convert s d y) {x : AV} (h : evConv P g s d y = some x) : Tells ρ P F a w o x := by
  unfold evConv at h
  cases hc : evConvH P s d (evO g y) with
  | some x' =>
    rw [hc] at h
    obtain rfl := Option.some.inj (show some x' = some x from h)
    unfold evConvH at hc
    split at hc
    · rename_i j hv
      obtain ⟨h1, hc⟩ := gd_some hc
      obtain ⟨h2, hc⟩ := gd_some hc
      obtain rfl := Option.some.inj hc
      refine ⟨.int .i64 (.ofNat (ρ.hole j % 10)), by simp [den, holOf], ?_⟩
      unfold execOp
      simp only [ho, hA.hol hv]
      refine valued ?_
      have hd := Nat.mod_lt (ρ.hole j) (by decide : 0 < 10)
      have e : IntKind.i64.wrap (Int.ofNat (ρ.hole j % 10)) = Int.ofNat (ρ.hole j % 10) := IntWalk.i64_in _ ⟨by simp; omega, by simp; omega⟩
      simp only [convert, Sem.run_bind, run_underlying (intT_some h1), run_underlying (intT_some h2), Result.andThen_ok, holOf, Conv.intToInt, e, Sem.run_pure]
    · cases hc
  | none =>
    rw [hc] at h
    obtain ⟨v, hv, h⟩ := asRaw_some (show asRaw (evO g y) (fun a => evPlain P (convert s d a)) = some x from h)
    refine plain_tells o ?_ h
    unfold execOp
    simp only [ho, hA.is hv]

theorem evFn_spec (hA : Held ρ F g a) (o : Oper) {f : Fn} {first cap : Array Operand} (ho : o.op = .makeFunc f first cap) {x : AV} (h : evFn g f first cap = some x) : Tells ρ P F a w o x := by
  cases f <;> simp only [evFn] at h <;> try cases h
  rename_i f
  obtain ⟨hlt, h⟩ := gd_some h
  obtain ⟨h0, h⟩ := gd_some h
  obtain ⟨hok, h⟩ := gd_some h
  obtain rfl := Option.some.inj h
  have h0' : first.size = 0 := Nat.eq_of_beq_eq_true h0
  have hf : first = #[] := Array.eq_empty_of_size_eq_zero h0'
  refine ⟨.func (.func f) #[] (cap.map a.eval), ?_, ?_⟩
  · have := dens_args hA cap.toList hok
    rw [den_fn_mk hlt this]
    congr 2
    apply Array.ext'
    simp
  · unfold execOp
    simp only [ho, hf]
    simp [Instr.makeFunc]

theorem slice_tells (hI : Inv ρ base F m w) (hA : Held ρ F g a) (o : Oper) {t e : TypeId} {y : Operand} {lo hi : Option Operand} (ho : o.op = .slice t y lo hi none) {ie : TypeInfo} (he : P.underlying t = some (.slice e)) (hie : P.info? e = some ie)
    {b off len l q : Nat} (hv : evO g y = .sl b off len ie.size) (hlo : lo = none ∧ l = 0 ∨ ∃ x k, lo = some x ∧ Is (evO g x) (.int k (.ofNat l))) (hhi : hi = none ∧ q = len ∨ ∃ x k, hi = some x ∧ Is (evO g x) (.int k (.ofNat q)))
    {k : Blk} (hk : m.at b = some k) (hkz : k.z ≠ mapZ) (c2' : q ≤ len) (c3' : 1 ≤ ie.size) (c4' : off + len * ie.size ≤ k.n) (c5' : l = 0 ∨ l < q) : Tells ρ P F a w o (.sl b (off + l * ie.size) (q - l) ie.size) := by
  obtain ⟨g', c, hF, hy⟩ := hA.slAny hv
  obtain ⟨g2, c2', hF', _, _, cs, _, hcs, hnc, _⟩ := hI.row b k hk hkz
  rw [hF] at hF'
  obtain ⟨rfl, rfl⟩ := Prod.mk.inj (Option.some.inj hF')
  have hres : slOff (off + l * ie.size) (q - l) c.1 = slOff off len c.1 + l * ie.size := by
    rcases c5' with rfl | c5'
    · rw [Nat.zero_mul, Nat.add_zero, Nat.sub_zero, Nat.add_zero]
      by_cases hl0 : len = 0
      · rw [hl0, show q = 0 by omega]
      · have : ie.size ≤ len * ie.size := Nat.le_mul_of_pos_left _ (by omega)
        rw [slOff_ne (show off ≠ c.1 by omega), slOff_ne (show off ≠ c.1 by omega)]
    · rw [slOff_pos (show q - l ≠ 0 by omega), slOff_pos (show len ≠ 0 by omega)]
  have hcap : len ≤ (c.1 - off) / ie.size := (Nat.le_div_iff_mul_le c3').2 (by omega)
  have hmul : l * ie.size ≤ len * ie.size := Nat.mul_le_mul_right _ (by omega)
  refine ⟨.slice (some ⟨g', c.2 + slOff off len c.1 + l * ie.size, none⟩) (q - l) ((c.1 - off) / ie.size - l), ?_, ?_⟩
  · simp only [den, hF, Option.map_some, hres, Nat.add_assoc]
    congr 2
    show (c.1 - (off + l * ie.size)) / ie.size = _
    rw [show c.1 - (off + l * ie.size) = c.1 - off - ie.size * l by rw [Nat.mul_comm ie.size l]; omega, Nat.sub_mul_div]
  · unfold execOp
    simp only [ho, hy]
    refine valued (run_sliceAt_sl he hie g' _ len _ l q _ _ ?_ ?_ (by omega) (by omega) hcap c5' w)
    · rcases hlo with ⟨rfl, rfl⟩ | ⟨y, q', rfl, hy'⟩
      · exact .inl ⟨rfl, rfl⟩
      · exact .inr ⟨q', by simp [hA.is hy']⟩
    · rcases hhi with ⟨rfl, rfl⟩ | ⟨y, q', rfl, hy'⟩
      · exact .inl ⟨rfl, rfl⟩
      · exact .inr ⟨q', by simp [hA.is hy']⟩

theorem slice_end_tells (hI : Inv ρ base F m w) (hA : Held ρ F g a) (o : Oper) {t e : TypeId} {y : Operand} {lo hi : Option Operand} (ho : o.op = .slice t y lo hi none) {ie : TypeInfo} (he : P.underlying t = some (.slice e)) (hie : P.info? e = some ie)
    {b len l : Nat} (hv : evO g y = .sl b 0 len ie.size) (hlo : lo = none ∧ l = 0 ∨ ∃ x k, lo = some x ∧ Is (evO g x) (.int k (.ofNat l))) (hhi : hi = none ∧ l = len ∨ ∃ x k, hi = some x ∧ Is (evO g x) (.int k (.ofNat l)))
    {k : Blk} (hk : m.at b = some k) (hkz : k.z ≠ mapZ) (hz : k.z = ie.size) (c2' : l ≤ len) (c3' : 1 ≤ ie.size) (c4' : 0 + len * ie.size ≤ k.n) (h0 : l ≠ 0) : Tells ρ P F a w o (.sl b (0 + l * ie.size) (l - l) ie.size) := by
  obtain ⟨g', c, hF, hy⟩ := hA.sl hv (.inr rfl)
  obtain ⟨g2, c2', hF', _, _, cs, _, hcs, hnc, hmod0, _⟩ := hI.row b k hk hkz
  rw [hF] at hF'
  obtain ⟨rfl, rfl⟩ := Prod.mk.inj (Option.some.inj hF')
  have hmod : c.1 % ie.size = 0 := by
    have h9 := hmod0.2 (by rw [hz]; omega)
    rwa [hz] at h9
  clear hmod0
  have hcap : len ≤ (c.1 - 0) / ie.size := (Nat.le_div_iff_mul_le c3').2 (by omega)
  have hdiv : c.1 / ie.size * ie.size = c.1 := Nat.div_mul_cancel (Nat.dvd_of_mod_eq_zero hmod)
  refine ⟨.slice (some ⟨g', c.2 + (if (c.1 - 0) / ie.size = l then 0 else l * ie.size), none⟩) 0 ((c.1 - 0) / ie.size - l), ?_, ?_⟩
  · simp only [den, hF, Option.map_some, Nat.zero_add, Nat.sub_self, Nat.sub_zero]
    have e1 : slOff (l * ie.size) 0 c.1 = if c.1 / ie.size = l then 0 else l * ie.size := by
      unfold slOff
      by_cases hl : c.1 / ie.size = l
      · rw [if_pos hl, if_pos ⟨rfl, by rw [← hl, hdiv]⟩]
      · rw [if_neg hl, if_neg (fun e => hl (by rw [← e.2, Nat.mul_div_cancel _ c3']))]
    rw [e1]
    congr 2
    rw [Nat.mul_comm, Nat.sub_mul_div]
  · unfold execOp
    simp only [ho, hy]
    refine valued ?_
    clear hy hF hdiv hmod
    generalize (c.1 - 0) / ie.size = cap at hcap ⊢
    have hlo' : lo.map a.eval = none ∧ l = 0 ∨ ∃ q, lo.map a.eval = some (.int q (.ofNat l)) := by
      rcases hlo with ⟨rfl, rfl⟩ | ⟨y, q', rfl, hy'⟩
      · exact .inl ⟨rfl, rfl⟩
      · exact .inr ⟨q', by simp [hA.is hy']⟩
    have hhi' : hi.map a.eval = none ∧ l = len ∨ ∃ q, hi.map a.eval = some (.int q (.ofNat l)) := by
      rcases hhi with ⟨rfl, h2⟩ | ⟨y, q', rfl, hy'⟩
      · exact .inl ⟨rfl, h2⟩
      · exact .inr ⟨q', by simp [hA.is hy']⟩
    have hb : (Instr.sliceBounds true len cap (lo.map a.eval) (hi.map a.eval) none).run P w = .ok (l, l, cap) w := by
      rcases hlo' with ⟨e1, h1⟩ | ⟨q, e1⟩ <;> rcases hhi' with ⟨e2, h2⟩ | ⟨q', e2⟩ <;> rw [e1, e2]
      · exact absurd h1 h0
      · exact absurd h1 h0
      · subst h2; simp [Instr.sliceBounds, run_sliceBound q l l _ (Nat.le_refl _)]
      · simp [Instr.sliceBounds, run_sliceBound q' l cap _ (Nat.le_trans c2' hcap), run_sliceBound q l l _ (Nat.le_refl _)]
    simp only [Option.map_none, Instr.sliceAt, Sem.run_bind, run_underlying he, Result.andThen_ok, Instr.slice, hb, run_size hie, Sem.run_pure]
    congr 2
    by_cases hl : cap = l
    · simp [hl]
    · simp only [if_neg hl]
      simp [add_eq]
    exact Nat.sub_self l

theorem bound_of {l q : Nat} (c5 : te (Nat.beq l 0) true (Nat.blt l q) = true) : l = 0 ∨ l < q := by
  rw [te_eq] at c5
  by_cases hl : Nat.beq l 0 = true
  · exact .inl (Nat.eq_of_beq_eq_true hl)
  · rw [if_neg hl] at c5
    exact .inr (Nat.le_of_ble_eq_true c5)

theorem evSlice_spec (hI : Inv ρ base F m w) (hA : Held ρ F g a) (o : Oper) {t : TypeId} {y : Operand} {lo hi mx : Option Operand} (ho : o.op = .slice t y lo hi mx) {x : AV}
    (h : evSlice P g m t y lo hi mx = some x) : Tells ρ P F a w o x := by
  unfold evSlice at h
  split at h
  · rename_i v hv
    have hv' : a.eval y = v := hA.is ⟨by rw [hv]; simp, fun _ F => by rw [hv]; simp [den]⟩
    have h1 := rawOpt_some hA h
    have h2 := rawOpt_some hA h1
    have h3 := rawOpt_some hA h2
    refine plain_tells o ?_ h3
    unfold execOp
    simp only [ho, hv']
  · rename_i b off len sz hv
    cases mx with
    | some _ => cases h
    | none =>
      obtain ⟨e, he, h⟩ := ob_some h
      obtain ⟨s, hs, h⟩ := ob_some h
      obtain ⟨l, h, hlo⟩ := natOpt_some h
      obtain ⟨q, h, hhi⟩ := natOpt_some h
      obtain ⟨k, hk, h⟩ := ob_some h
      obtain ⟨c0, h⟩ := gd_some h
      have hkz : k.z ≠ mapZ := fun e0 => by
        rw [e0] at c0
        exact absurd c0 (by decide)
      obtain ⟨c1, h⟩ := gd_some h
      obtain ⟨c2, h⟩ := gd_some h
      obtain ⟨c3, h⟩ := gd_some h
      obtain ⟨c4, h⟩ := gd_some h
      obtain ⟨c5, h⟩ := gd_some h
      rw [strictN_eq, strictN_eq] at h
      obtain rfl := Option.some.inj h
      obtain rfl : s = sz := Nat.eq_of_beq_eq_true c1
      obtain ⟨ie, hie, rfl⟩ := sizeT_some hs
      exact slice_tells hI hA o ho (elemT_some he) hie hv hlo hhi hk hkz (Nat.le_of_ble_eq_true c2) (Nat.le_of_ble_eq_true c3) (Nat.le_of_ble_eq_true c4) (bound_of c5)
  · rename_i n q hv
    cases mx with
    | some _ => cases h
    | none =>
      obtain ⟨h1, h⟩ := gd_some h
      obtain ⟨l, h, hlo⟩ := natOpt_some h
      obtain ⟨r, h, hhi⟩ := natOpt_some h
      obtain ⟨c1, h⟩ := gd_some h
      obtain ⟨c2, h⟩ := gd_some h
      rw [strictN_eq, strictN_eq] at h
      obtain rfl := Option.some.inj h
      have c1' : l ≤ r := Nat.le_of_ble_eq_true c1
      have c2' : r ≤ n := Nat.le_of_ble_eq_true c2
      refine ⟨.string ((strOf ρ n q).extract l r), ?_, ?_⟩
      · simp only [den, Option.some.injEq, Value.string.injEq]
        apply ByteArray.ext
        apply Array.ext'
        have e1 : (strOf ρ (Nat.sub r l) (Nat.mod (Nat.div q (Nat.pow 256 l)) (Nat.pow 256 (Nat.sub r l)))).data.toList = bytesOf ρ (r - l) (q / 256 ^ l) := bytesOf_mod ρ (r - l) (q / 256 ^ l)
        rw [e1]
        have e2 : ((strOf ρ n q).extract l r).data.toList = ((bytesOf ρ n q).drop l).take (r - l) := by
          rw [ByteArray.data_extract]
          simp [strOf, List.extract_eq_take_drop]
        rw [e2, bytesOf_drop ρ l n q (by omega), bytesOf_take ρ (r - l) (n - l) _ (by omega)]
      · unfold execOp
        simp only [ho, hA.str hv]
        refine valued ?_
        have hlo' : lo.map a.eval = none ∧ l = 0 ∨ ∃ q, lo.map a.eval = some (.int q (.ofNat l)) := by
          rcases hlo with ⟨rfl, rfl⟩ | ⟨y, q', rfl, hy'⟩
          · exact .inl ⟨rfl, rfl⟩
          · exact .inr ⟨q', by simp [hA.is hy']⟩
        have hhi' : hi.map a.eval = none ∧ r = n ∨ ∃ q, hi.map a.eval = some (.int q (.ofNat r)) := by
          rcases hhi with ⟨rfl, h2⟩ | ⟨y, q', rfl, hy'⟩
          · exact .inl ⟨rfl, h2⟩
          · exact .inr ⟨q', by simp [hA.is hy']⟩
        have hb : (Instr.sliceBounds false n n (lo.map a.eval) (hi.map a.eval) none).run P w = .ok (l, r, n) w := by
          rcases hlo' with ⟨e1, h1⟩ | ⟨q, e1⟩ <;> rcases hhi' with ⟨e2, h2⟩ | ⟨q', e2⟩ <;> rw [e1, e2]
          · subst h1; subst h2; simp [Instr.sliceBounds]
          · subst h1; simp [Instr.sliceBounds, run_sliceBound q' r n _ c2']
          · subst h2; simp [Instr.sliceBounds, run_sliceBound q l r _ c1']
          · simp [Instr.sliceBounds, run_sliceBound q' r n _ c2', run_sliceBound q l r _ c1']
        have e3 : Option.map a.eval none = none := rfl
        simp only [Instr.sliceAt, e3, Sem.run_bind, run_underlying (stT_some h1), Result.andThen_ok, Instr.slice, strOf_size, Sem.run_pure]
        rw [if_neg (by simp), Sem.run_bind, show (Sem.run P (Instr.sliceBounds false n n (Option.map a.eval lo) (Option.map a.eval hi) none) w) = .ok (l, r, n) w from hb]
        rfl
  · cases h

theorem field1_tells (hA : Held ρ F g a) (o : Oper) {t : TypeId} {y : Operand} {i : Nat} (ho : o.op = .field t y i) {f : Field} {d : TypeDesc} {fs : Array Field} (hu : P.underlying t = some (.struct fs)) (hfs : fs[i]? = some f)
    (hd : P.underlying f.type = some d) (hgd : ¬ aggD d = true) {l : List AV} (hl : evO g y = .agg l) {x : AV} (h : headAV (dropAV l f.offset) = some x) : Tells ρ P F a w o x := by
  have hv := hA.eval (x := y) (by rw [hl]; simp)
  rw [hl] at hv
  obtain ⟨vs, hvs, hy⟩ := den_agg hv
  obtain ⟨r, hr⟩ := headAV_some h
  rw [dropAV_eq] at hr
  have hdd := dens_drop f.offset hvs
  rw [hr] at hdd
  obtain ⟨v, us, h1, h2, h3⟩ := dens_cons hdd
  have hget : vs[f.offset]? = some v := by
    have : (vs.drop f.offset)[0]? = some v := by rw [h3]; rfl
    simpa using this
  refine ⟨v, h1, ?_⟩
  unfold execOp
  simp only [ho, hy]
  refine valued ?_
  simp [Instr.field, run_underlying hu, hfs, Go.asAgg, part, run_isAgg hd, hgd, hget]

theorem evField_spec (hA : Held ρ F g a) (o : Oper) {t : TypeId} {y : Operand} {i : Nat} (ho : o.op = .field t y i) {x : AV} (h : evField P g t y i = some x) : Tells ρ P F a w o x := by
  obtain ⟨l, hl, h⟩ := asAgg_some h
  obtain ⟨f, hf, h⟩ := ob_some h
  obtain ⟨q, hq, h⟩ := ob_some h
  obtain ⟨fs, hu, hfs⟩ := fieldT_some hf
  obtain ⟨d, hd, rfl⟩ := aggT_some hq
  rw [te_eq] at h
  by_cases hgd : aggD d = true
  · rw [if_pos hgd] at h
    have hv := hA.eval (x := y) (by rw [hl]; simp)
    rw [hl] at hv
    obtain ⟨vs, hvs, hy⟩ := den_agg hv
    obtain ⟨s, hs, h⟩ := ob_some h
    obtain rfl := Option.some.inj h
    obtain ⟨ie, hie, rfl⟩ := sizeT_some hs
    refine ⟨.agg ((vs.drop f.offset).take ie.size).toArray, ?_, ?_⟩
    · rw [takeAV_eq, dropAV_eq]
      simp [den, dens_take _ (dens_drop _ hvs)]
    · unfold execOp
      simp only [ho, hy]
      refine valued ?_
      simp [Instr.field, run_underlying hu, hfs, Go.asAgg, part, run_isAgg hd, hgd, run_size hie]
  · rw [if_neg hgd] at h
    exact field1_tells hA o ho hu hfs hd hgd hl h

theorem extract_tells (hA : Held ρ F g a) (o : Oper) {y : Operand} {i : Nat} (ho : o.op = .extract y i) {l : List AV} (hl : evO g y = .tup l) {x : AV} (h : headAV (dropAV l i) = some x) : Tells ρ P F a w o x := by
  obtain ⟨r, hr⟩ := headAV_some h
  rw [dropAV_eq] at hr
  have hv := hA.eval (x := y) (by rw [hl]; simp)
  rw [hl] at hv
  obtain ⟨vs, hvs, hy⟩ := den_tup hv
  have hdd := dens_drop i hvs
  rw [hr] at hdd
  obtain ⟨v, us, h1, h2, h3⟩ := dens_cons hdd
  have hget : vs[i]? = some v := by
    have : (vs.drop i)[0]? = some v := by rw [h3]; rfl
    simpa using this
  refine ⟨v, h1, ?_⟩
  unfold execOp
  simp only [ho, hy]
  refine valued ?_
  simp [Instr.extract, hget]

theorem evIndexA_spec (hA : Held ρ F g a) (o : Oper) {t : TypeId} {y ix : Operand} (ho : o.op = .index t y ix) {p : Nat × TypeId} (hp : P.underlying t = some (.array p.1 p.2)) {x : AV} (h : evIndexA P g p y ix = some x) : Tells ρ P F a w o x := by
  obtain ⟨l, hl, h⟩ := asAgg_some h
  obtain ⟨k, i, hi, h⟩ := asNat_some h
  obtain ⟨q, hq, h⟩ := ob_some h
  obtain ⟨s, hs, h⟩ := ob_some h
  obtain ⟨c1, h⟩ := gd_some h
  rw [strictN_eq, te_eq] at h
  have c1' : i < p.1 := Nat.le_of_ble_eq_true c1
  obtain ⟨ie, hie, rfl⟩ := sizeT_some hs
  obtain ⟨d, hd, rfl⟩ := aggT_some hq
  have hv := hA.eval (x := y) (by rw [hl]; simp)
  rw [hl] at hv
  obtain ⟨vs, hvs, hy⟩ := den_agg hv
  have hix := hA.is hi
  have hlt : (i : Int) < (p.1 : Int) := by omega
  have h0 : (0 : Int) ≤ (i : Int) := by omega
  by_cases hgd : aggD d = true
  · rw [if_pos hgd] at h
    obtain rfl := Option.some.inj h
    refine ⟨.agg ((vs.drop (i * ie.size)).take ie.size).toArray, ?_, ?_⟩
    · rw [takeAV_eq, dropAV_eq]
      simp [den, dens_take _ (dens_drop _ hvs)]
    · unfold execOp
      simp only [ho, hy, hix]
      refine valued ?_
      simp [Instr.index, asIntOf, run_underlying hp, hlt, c1', run_size hie, part, run_isAgg hd, hgd]
  · rw [if_neg hgd] at h
    obtain ⟨r, hr⟩ := headAV_some h
    rw [dropAV_eq] at hr
    have hdd := dens_drop (i * ie.size) hvs
    rw [show l.drop (i * ie.size) = x :: r from hr] at hdd
    obtain ⟨v, us, h1, h2, h3⟩ := dens_cons hdd
    have hget : vs[i * ie.size]? = some v := by
      have : (vs.drop (i * ie.size))[0]? = some v := by rw [h3]; rfl
      simpa using this
    refine ⟨v, h1, ?_⟩
    unfold execOp
    simp only [ho, hy, hix]
    refine valued ?_
    simp [Instr.index, asIntOf, run_underlying hp, hlt, c1', run_size hie, part, run_isAgg hd, hgd, hget]

theorem rawAll_some (hA : Held ρ F g a) : ∀ {l : List Operand} {vs : List Value}, rawAll (evArgs g l) = some vs → l.map a.eval = vs
  | [], vs, h => by obtain rfl := Option.some.inj (show some [] = some vs from h); rfl
  | x :: l, vs, h => by
    have h' : asRaw (evO g x) (fun v => ob (rawAll (evArgs g l)) fun vs => some (v :: vs)) = some vs := h
    obtain ⟨v, hv, h'⟩ := asRaw_some h'
    obtain ⟨us, hus, h'⟩ := ob_some h'
    obtain rfl := Option.some.inj h'
    simp [rawAll_some hA hus, hA.is hv]

theorem rawArgs (hA : Held ρ F g a) {args : Array Operand} {vs : List Value} (h : rawAll (evArgs g args.toList) = some vs) : args.map a.eval = vs.toArray := by
  apply Array.ext'
  simpa using rawAll_some hA h

theorem one_some {α : Type} {l : List α} {k : α → Option β} {y : β} (h : one? l k = some y) : ∃ x, l = [x] ∧ k x = some y := by
  unfold one? at h
  split at h
  · exact ⟨_, rfl, h⟩
  · cases h
theorem two_some {α : Type} {l : List α} {k : α → α → Option β} {y : β} (h : two? l k = some y) : ∃ x z, l = [x, z] ∧ k x z = some y := by
  unfold two? at h
  split at h
  · exact ⟨_, _, rfl, h⟩
  · cases h

theorem run_call_builtin (o : Oper) {c : Call} {b : Builtin} (ho : o.op = .call c) (hb : c.callee = .builtin b) (w : World) :
    ∃ cs, execOp a.eval o = builtin b c.argTypes o.type cs (c.args.map a.eval) := by
  refine ⟨(c.args.map fun | .const _ => true | _ => false), ?_⟩
  unfold execOp
  simp only [ho, resolve, hb]
  rfl

theorem len_sl_tells (hA : Held ρ F g a) (o : Oper) {c : Call} (ho : o.op = .call c) (hb : c.callee = .builtin .len) {y : Operand} {t e : TypeId} (hy : c.args.toList = [y]) (ht : c.argTypes.toList = [t]) (he : elemT P t = some e)
    {b off len sz : Nat} (hv : evO g y = .sl b off len sz) : Tells ρ P F a w o (.nat len) := by
  obtain ⟨cs, hrun⟩ := run_call_builtin (a := a) o ho hb w
  have hargs : c.args.map a.eval = #[a.eval y] := by apply Array.ext'; simp [hy]
  have htys : c.argTypes = #[t] := by apply Array.ext'; simp [ht]
  obtain ⟨g', c', hF, hyv⟩ := hA.slAny hv
  refine ⟨.int .i64 (.ofNat len), by simp [den], ?_⟩
  rw [hrun]
  refine valued ?_
  rw [hargs, htys, hyv]
  simp [Builtin.len_, run_underlying (elemT_some he), goInt]

theorem isT_some {o : Option AV} (h : isT o = true) : o = some (.bool true) := by
  unfold isT at h
  split at h
  · rfl
  · cases h
theorem isS_some {k : Nat} {o : Option AV} (h : isS k o = true) : o = some (.sym k) := by
  unfold isS at h
  split at h
  · rw [Nat.eq_of_beq_eq_true h]
  · cases h
theorem ext_int {oc : Orc} (hoc : OrcOk ρ P oc) {k : Nat} (h : oc .mul (.nat 1) (.sym k) = some (.sym k)) : ∃ z, ρ.val k = .int .i64 z := by
  obtain ⟨_, _, h3⟩ := hoc _ _ _ _ h
  obtain ⟨c, hc, hrun⟩ := h3 (fun _ => none) (.int .i64 1) (ρ.val k) (by simp [den]) (by simp [den])
  simp only [den, Option.some.injEq] at hc
  subst hc
  have hr := hrun default 0 (.const .nilFunc) (.const .nilFunc)
  cases hv : ρ.val k
  case int k' z =>
    rw [hv] at hr
    by_cases hk : IntKind.i64 = k'
    · exact ⟨z, by rw [hk]⟩
    · simp [eqGuard, binOp, hk] at hr
  all_goals rw [hv] at hr; simp [eqGuard, binOp] at hr
theorem extSym_some {oc : Orc} (hoc : OrcOk ρ P oc) {lo : Bool} {x y r : AV} (h : extSym oc lo x y = some r) : ∃ k n z, x = .sym k ∧ y = .nat n ∧ ρ.val k = .int .i64 z ∧
    ((r = .nat n ∧ (if lo then (n : Int) ≤ z else z ≤ (n : Int))) ∨ (r = .sym k ∧ (if lo then z ≤ (n : Int) else (n : Int) ≤ z))) := by
  unfold extSym at h
  split at h
  · rename_i k n
    obtain ⟨h1, h⟩ := gd_some h
    obtain ⟨z, hz⟩ := ext_int hoc (isS_some h1)
    refine ⟨k, n, z, rfl, rfl, hz, ?_⟩
    rw [te_eq] at h
    split at h
    · rename_i h2
      obtain ⟨_, _, h3⟩ := hoc _ _ _ _ (isT_some h2)
      obtain ⟨c, hc, hrun⟩ := h3 (fun _ => none) (.int .i64 n) (ρ.val k) (by simp [den]) (by simp [den])
      simp only [den, Option.some.injEq] at hc
      subst hc
      have hr := hrun default 0 (.const .nilFunc) (.const .nilFunc)
      rw [hz] at hr
      simp [eqGuard, binOp, Op.intCmp] at hr
      obtain rfl := Option.some.inj h
      cases lo
      · exact .inr ⟨rfl, by simpa using hr⟩
      · exact .inl ⟨rfl, by simpa using hr⟩
    · obtain ⟨h2, h⟩ := gd_some h
      obtain ⟨_, _, h3⟩ := hoc _ _ _ _ (isT_some h2)
      obtain ⟨c, hc, hrun⟩ := h3 (fun _ => none) (.int .i64 n) (ρ.val k) (by simp [den]) (by simp [den])
      simp only [den, Option.some.injEq] at hc
      subst hc
      have hr := hrun default 0 (.const .nilFunc) (.const .nilFunc)
      rw [hz] at hr
      simp [eqGuard, binOp, Op.intCmp] at hr
      obtain rfl := Option.some.inj h
      cases lo
      · exact .inl ⟨rfl, by simpa using hr⟩
      · exact .inr ⟨rfl, by simpa using hr⟩
  · cases h
theorem evMin_spec {oc : Orc} (hoc : OrcOk ρ P oc) (hA : Held ρ F g a) (o : Oper) {c : Call} {lo : Bool} (ho : o.op = .call c) (hb : c.callee = .builtin (if lo then .min else .max)) {x : AV} (h : two? c.args.toList (fun p q => extSym oc lo (evO g p) (evO g q)) = some x) : Tells ρ P F a w o x := by
  obtain ⟨cs, hrun⟩ := run_call_builtin (a := a) o ho hb w
  obtain ⟨p, q, hpq, h⟩ := two_some h
  obtain ⟨k, n, z, h1, h2, h3, h4⟩ := extSym_some hoc h
  have hargs : c.args.map a.eval = #[a.eval p, a.eval q] := by apply Array.ext'; simp [hpq]
  have hp : a.eval p = .int .i64 z := by
    have := hA.eval (x := p) (by rw [h1]; simp)
    rw [h1] at this
    simp only [den, Option.some.injEq] at this
    rw [← this, h3]
  have hq : a.eval q = .int .i64 n := by
    have := hA.eval (x := q) (by rw [h2]; simp)
    rw [h2] at this
    simp only [den, Option.some.injEq] at this
    exact this.symm
  rcases h4 with ⟨rfl, h4⟩ | ⟨rfl, h4⟩
  · refine ⟨.int .i64 n, by simp [den], ?_⟩
    rw [hrun, hargs, hp, hq]
    cases lo
    · simp only [Bool.false_eq_true, if_false] at h4 ⊢
      refine valued ?_
      simp [Builtin.max_, Builtin.max2]
      omega
    · simp only [if_true] at h4 ⊢
      refine valued ?_
      simp [Builtin.min_, Builtin.min2]
      omega
  · refine ⟨.int .i64 z, by simp [den, h3], ?_⟩
    rw [hrun, hargs, hp, hq]
    cases lo
    · simp only [Bool.false_eq_true, if_false] at h4 ⊢
      refine valued ?_
      simp [Builtin.max_, Builtin.max2]
      omega
    · simp only [if_true] at h4 ⊢
      refine valued ?_
      simp [Builtin.min_, Builtin.min2]
      omega

theorem evCallP_spec {oc : Orc} (hoc : OrcOk ρ P oc) (hA : Held ρ F g a) (o : Oper) {c : Call} (ho : o.op = .call c) {x : AV} (h : evCallP P oc g c = some x) : Tells ρ P F a w o x := by
  unfold evCallP at h
  split at h
  · rename_i b hb
    obtain ⟨cs, hrun⟩ := run_call_builtin (a := a) o ho hb w
    cases b <;> simp only [evBuiltin] at h <;> try cases h
    case len =>
      obtain ⟨y, hy, h⟩ := one_some h
      obtain ⟨t, ht, h⟩ := one_some h
      unfold evLen1 at h
      split at h
      · rename_i b off len sz hv
        obtain ⟨e, he, h⟩ := ob_some h
        obtain rfl := Option.some.inj h
        exact len_sl_tells hA o ho hb hy ht he hv
      · rename_i n q hv
        obtain ⟨h1, h⟩ := gd_some h
        obtain rfl := Option.some.inj h
        have hargs : c.args.map a.eval = #[a.eval y] := by apply Array.ext'; simp [hy]
        have htys : c.argTypes = #[t] := by apply Array.ext'; simp [ht]
        refine ⟨.int .i64 (.ofNat n), by simp [den], ?_⟩
        rw [hrun]
        refine valued ?_
        rw [hargs, htys, hA.str hv]
        simp [Builtin.len_, run_underlying (stT_some h1), goInt, strOf_size]
      · obtain ⟨v, hv, h⟩ := asRaw_some h
        have hargs : c.args.map a.eval = #[a.eval y] := by apply Array.ext'; simp [hy]
        have htys : c.argTypes = #[t] := by apply Array.ext'; simp [ht]
        refine plain_tells o ?_ h
        rw [hrun, hargs, htys, hA.is hv]
        rfl
    case max =>
      unfold evMin at h
      cases hr : (ob (rawAll (evArgs g c.args.toList)) fun vs => evPlain P (Builtin.max_ c.argTypes 0 vs.toArray)) with
      | none =>
        rw [hr] at h
        exact evMin_spec (lo := false) hoc hA o ho hb h
      | some x' =>
        rw [hr] at h
        obtain rfl := Option.some.inj (show some x' = some x from h)
        obtain ⟨vs, hvs, h⟩ := ob_some hr
        refine plain_tells o ?_ h
        rw [hrun, rawArgs hA hvs]
        rfl
    case min =>
      unfold evMin at h
      cases hr : (ob (rawAll (evArgs g c.args.toList)) fun vs => evPlain P (Builtin.min_ c.argTypes 0 vs.toArray)) with
      | none =>
        rw [hr] at h
        exact evMin_spec (lo := true) hoc hA o ho hb h
      | some x' =>
        rw [hr] at h
        obtain rfl := Option.some.inj (show some x' = some x from h)
        obtain ⟨vs, hvs, h⟩ := ob_some hr
        refine plain_tells o ?_ h
        rw [hrun, rawArgs hA hvs]
        rfl
    case complex =>
      obtain ⟨vs, hvs, h⟩ := ob_some h
      refine plain_tells o ?_ h
      rw [hrun, rawArgs hA hvs]
      rfl
    case real =>
      obtain ⟨vs, hvs, h⟩ := ob_some h
      refine plain_tells o ?_ h
      rw [hrun, rawArgs hA hvs]
      rfl
    case imag =>
      obtain ⟨vs, hvs, h⟩ := ob_some h
      refine plain_tells o ?_ h
      rw [hrun, rawArgs hA hvs]
      rfl
  · cases h

def notSlice (op : Op) : Bool := match op with | .slice _ _ _ _ _ => false | _ => true
theorem evSlow_spec0 {oc : Orc} (hoc : OrcOk ρ P oc) (hA : Held ρ F g a) (o : Oper) {x : AV} (hns : notSlice o.op = true) (hx : x ≠ .bad) (h : evSlow P oc g m o.op = some x) : Tells ρ P F a w o x := by
  generalize ho : o.op = op at h
  cases op <;> simp only [evSlow] at h <;> try cases h
  case pick => exact evPick_spec hA o ho hx h
  case build => exact evBuild_spec hA o ho h
  case binOp => exact evBin_spec hoc hA o ho h
  case unOp op t y => exact evUn_spec hoc hA o ho h
  case convert s d y =>
    exact evConv_spec hA o ho h
  case makeFunc => exact evFn_spec hA o ho h
  case slice => rw [ho] at hns; cases hns
  case field => exact evField_spec hA o ho h
  case index t y i =>
    unfold evIndex at h
    cases harr : arrT P t with
    | some p =>
      rw [harr] at h
      exact evIndexA_spec hA o ho (arrT_some harr) h
    | none =>
      rw [harr] at h
      exact evIndexR_spec hA o ho h
  case call => exact evCallP_spec hoc hA o ho h

theorem evSlow_spec {oc : Orc} (hoc : OrcOk ρ P oc) (hI : Inv ρ base F m w) (hA : Held ρ F g a) (o : Oper) {x : AV} (hx : x ≠ .bad) (h : evSlow P oc g m o.op = some x) : Tells ρ P F a w o x := by
  generalize ho : o.op = op at h
  cases op <;> simp only [evSlow] at h <;> try cases h
  case pick => exact evPick_spec hA o ho hx h
  case build => exact evBuild_spec hA o ho h
  case binOp => exact evBin_spec hoc hA o ho h
  case unOp op t y => exact evUn_spec hoc hA o ho h
  case convert s d y =>
    exact evConv_spec hA o ho h
  case makeFunc => exact evFn_spec hA o ho h
  case slice => exact evSlice_spec hI hA o ho h
  case field => exact evField_spec hA o ho h
  case index t y i =>
    unfold evIndex at h
    cases harr : arrT P t with
    | some p =>
      rw [harr] at h
      exact evIndexA_spec hA o ho (arrT_some harr) h
    | none =>
      rw [harr] at h
      exact evIndexR_spec hA o ho h
  case call => exact evCallP_spec hoc hA o ho h

end Go.Proofs.YtplnnlnkcfappaaGreat.E3
