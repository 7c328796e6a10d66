/- The evaluator tells the truth, part 4: the operations that leave the memory. -/
import Derived.Test.YteaaahcgkodcdaaVe
namespace Go.Proofs.Yteaaahcgkodcdaa.Ev
open Go Go.RowKit
set_option linter.unusedSimpArgs false
set_option linter.unusedVariables false

variable {β : Type} {P : Program} {base wr : Nat} {F : Env} {m : Mem} {w : World} {n : Nat} {tm : Tr AV} {a : Act}

theorem add_eq (g off k : Nat) : (⟨g, off, none⟩ : Addr).add k = ⟨g, off + k, none⟩ := by unfold Addr.add; split <;> simp_all

theorem run_isAgg {t : TypeId} {d : TypeDesc} (h : P.underlying t = some d) (w : World) : (isAgg t).run P w = .ok (aggD d) w := by
  cases d <;> simp [isAgg, run_underlying h, aggD]
theorem run_size {t : TypeId} {i : TypeInfo} (h : P.info? t = some i) (w : World) : (sizeOf t).run P w = .ok i.size w := by
  simp [sizeOf, typeInfo, h]
theorem run_zero {t : TypeId} {i : TypeInfo} {z : Value} (h : P.info? t = some i) (hz : i.zero = some z) (w : World) : (zeroValue t).run P w = .ok z w := by
  simp [zeroValue, typeInfo, h, hz]

theorem sizeT_some {t : TypeId} {s : Nat} (h : sizeT P t = some s) : ∃ i, P.info? t = some i ∧ i.size = s := by
  obtain ⟨i, h1, h2⟩ := ob_some h
  exact ⟨i, h1, Option.some.inj h2⟩
theorem zeroT_some {t : TypeId} {z : Value} (h : zeroT P t = some z) : ∃ i, P.info? t = some i ∧ i.zero = some z := ob_some h
theorem aggT_some {t : TypeId} {g : Bool} (h : aggT P t = some g) : ∃ d, P.underlying t = some d ∧ aggD d = g := by
  obtain ⟨i, h1, h2⟩ := ob_some h
  exact ⟨i, h1, Option.some.inj h2⟩
theorem elemT_some {t e : TypeId} (h : elemT P t = some e) : P.underlying t = some (.slice e) := by
  obtain ⟨d, h1, h2⟩ := ob_some h
  cases d <;> simp only [elemD] at h2
  case slice x => rw [h1, Option.some.inj h2]
  all_goals cases h2
theorem structT_some {t : TypeId} {fs : Array Field} (h : structT P t = some fs) : P.underlying t = some (.struct fs) := by
  obtain ⟨d, h1, h2⟩ := ob_some h
  cases d <;> simp only [structD] at h2
  case struct x => rw [h1, Option.some.inj h2]
  all_goals cases h2
theorem fieldT_some {t : TypeId} {i : Nat} {f : Field} (h : fieldT P t i = some f) : ∃ fs, P.underlying t = some (.struct fs) ∧ fs[i]? = some f := by
  obtain ⟨fs, h1, h2⟩ := ob_some h
  exact ⟨fs, structT_some h1, h2⟩

/-- an operation that yields a value -/
theorem valued {s : Sem Value} {v : Value} {w w' : World} (h : s.run P w = .ok v w') : (do pure (Next.value (← s)) : Sem Next).run P w = .ok (.value v) w' := by
  simp [h]

theorem evRead_spec (hI : Inv base wr F m w) {t : TypeId} {b off : Nat} {x : AV} (h : evRead P m t b off = some x) :
    ∃ g c val, F b = some (g, c) ∧ den F x = some val ∧ (loadVar t ⟨g, off, none⟩).run P w = .ok val w := by
  obtain ⟨q, hq, h⟩ := ob_some h
  obtain ⟨d, hd, rfl⟩ := aggT_some hq
  rw [te_eq] at h
  by_cases hg : aggD d = true
  · rw [if_pos hg] at h
    obtain ⟨s, hs, h⟩ := ob_some h
    obtain ⟨l, hl, h⟩ := ob_some h
    obtain rfl := Option.some.inj h
    obtain ⟨i, hi, rfl⟩ := sizeT_some hs
    obtain ⟨g, c, vs, h1, h2, h3, _, h5⟩ := read_spec hI hl
    have hlen := dens_length h2
    have hl2 := run_loadCells_list (P := P) w ⟨g, off, none⟩ vs h5
    rw [hlen, h3] at hl2
    refine ⟨g, c, .agg vs.toArray, h1, by simp [den, h2], ?_⟩
    simp [loadVar, run_isAgg hd, hg, run_size hi, hl2]
  · rw [if_neg hg] at h
    obtain ⟨g, c, v, h1, h2, _, h4⟩ := read1_spec hI h
    refine ⟨g, c, v, h1, h2, ?_⟩
    simp [loadVar, run_isAgg hd, hg, h4]

theorem asIntOf_int (q : IntKind) (i : Int) (w : World) : (asIntOf (.int q i)).run P w = .ok (q, i) w := rfl

theorem run_sliceBound (q : IntKind) (l y : Nat) (code : BoundsCode) (h : l ≤ y) (w : World) : (Instr.sliceBound (.int q (l : Int)) y code).run P w = .ok l w := by
  have h1 : (0 : Int) ≤ (l : Int) ∧ (l : Int) ≤ (y : Int) := ⟨Int.natCast_nonneg l, by omega⟩
  simp only [Instr.sliceBound, Sem.run_bind, asIntOf_int, Result.andThen_ok]
  rw [if_pos h1]
  simp

theorem run_sliceAt_sl {t e : TypeId} {ie : TypeInfo} (hu : P.underlying t = some (.slice e)) (hi : P.info? e = some ie) (g off len cap l h : Nat) (lo hiv : Option Value)
    (hlo : lo = none ∧ l = 0 ∨ ∃ q, lo = some (.int q (.ofNat l))) (hhi : hiv = none ∧ h = len ∨ ∃ q, hiv = some (.int q (.ofNat h)))
    (h1 : h ≤ len) (h2 : l ≤ h) (h3 : len ≤ cap) (h4 : l = 0 ∨ l < h) (w : World) :
    (Instr.sliceAt t (.slice (some ⟨g, off, none⟩) len cap) lo hiv none).run P w = .ok (.slice (some ⟨g, off + l * ie.size, none⟩) (h - l) (cap - l)) w := by
  have hb : (Instr.sliceBounds true len cap lo hiv none).run P w = .ok (l, h, cap) w := by
    rcases hlo with ⟨rfl, rfl⟩ | ⟨q, rfl⟩ <;> rcases hhi with ⟨rfl, rfl⟩ | ⟨q', rfl⟩
    · simp [Instr.sliceBounds]
    · simp [Instr.sliceBounds, run_sliceBound q' h cap _ (Nat.le_trans h1 h3)]
    · simp [Instr.sliceBounds, run_sliceBound q l h _ h2]
    · simp [Instr.sliceBounds, run_sliceBound q' h cap _ (Nat.le_trans h1 h3), run_sliceBound q l h _ h2]
  simp only [Instr.sliceAt, Sem.run_bind, run_underlying hu, Result.andThen_ok, Instr.slice, hb, run_size hi, Sem.run_pure]
  congr 2
  rcases h4 with rfl | h4
  · simp [Addr.add]
  · rw [if_neg (by omega)]
    simp [add_eq]

theorem natOpt_some {d : Nat} {o : Option Operand} {k : Nat → Option β} {y : β} (h : natOpt tm d o k = some y) :
    ∃ l, k l = some y ∧ (o = none ∧ l = d ∨ ∃ x q, o = some x ∧ evO tm x = .raw (.int q (.ofNat l))) := by
  cases o with
  | none => exact ⟨d, h, .inl ⟨rfl, rfl⟩⟩
  | some x =>
    obtain ⟨q, l, h1, h2⟩ := asNat_some h
    exact ⟨l, h2, .inr ⟨x, q, rfl, h1⟩⟩

theorem rawOpt_some (hA : AR F n tm a) {o : Option Operand} {k : Option Value → Option β} {y : β} (h : rawOpt tm o k = some y) : k (o.map a.eval) = some y := by
  cases o with
  | none => exact h
  | some x =>
    obtain ⟨v, h1, h2⟩ := asRaw_some h
    simpa [hA.raw h1] using h2

/-! ### Whole numbers -/
theorem kcode_inj {k k' : IntKind} (h : kcode k = kcode k') : k = k' := by cases k <;> cases k' <;> first | rfl | (simp [kcode] at h)

theorem i64_wrap_small {z : Int} (h0 : 0 ≤ z) (h1 : z < 9223372036854775808) : IntKind.i64.wrap z = z := by
  exact IntWalk.i64_in z ⟨by omega, by omega⟩

theorem fastBin_some {op : BinOp} {u v : Value} {slow : Unit → Option AV} {x : AV} (h : fastBin op u v slow = some x) (t : TypeId) (p q : Operand) :
    slow () = some x ∨ ∃ val, x = .raw val ∧ ∀ w, (do eqGuard op t p q u v; binOp op t u v : Sem Value).run P w = .ok val w := by
  cases u <;> simp only [fastBin] at h <;> try exact .inl h
  rename_i k i
  cases v <;> simp only [fastBin2] at h <;> try exact .inl h
  rename_i k' j
  cases i <;> simp only [fastInt] at h <;> try exact .inl h
  rename_i i
  cases j <;> simp only [fastInt2] at h <;> try exact .inl h
  rename_i j
  cases op <;> simp only [fastInt3] at h <;> try exact .inl h
  case add =>
    simp only [fastAdd, te_eq, strictN_eq] at h
    split at h
    · split at h
      · split at h
        · rename_i h1 h2 h3
          obtain rfl : k = .i64 := kcode_inj (Nat.eq_of_beq_eq_true h1)
          obtain rfl : k' = .i64 := kcode_inj (Nat.eq_of_beq_eq_true h2)
          have h3' : i + j < 9223372036854775808 := Nat.le_of_ble_eq_true h3
          refine .inr ⟨_, (Option.some.inj h).symm, fun w => ?_⟩
          have e : IntKind.i64.wrap (Int.ofNat i + Int.ofNat j) = Int.ofNat (i + j) := by
            rw [i64_wrap_small (by simp; omega) (by simp; omega)]; simp
          simp only [eqGuard, binOp, Op.intArith, e]
          simp
        · exact .inl h
      · exact .inl h
    · exact .inl h
  case sub =>
    simp only [fastSub, te_eq, strictN_eq] at h
    split at h
    · split at h
      · split at h
        · split at h
          · rename_i h1 h2 h3 h4
            obtain rfl : k = .i64 := kcode_inj (Nat.eq_of_beq_eq_true h1)
            obtain rfl : k' = .i64 := kcode_inj (Nat.eq_of_beq_eq_true h2)
            have h3' : j ≤ i := Nat.le_of_ble_eq_true h3
            have h4' : i < 9223372036854775808 := Nat.le_of_ble_eq_true h4
            refine .inr ⟨_, (Option.some.inj h).symm, fun w => ?_⟩
            have e : IntKind.i64.wrap (Int.ofNat i - Int.ofNat j) = Int.ofNat (i - j) := by
              rw [i64_wrap_small (by simp; omega) (by simp; omega)]; simp; omega
            simp only [eqGuard, binOp, Op.intArith, e]
            simp
          · exact .inl h
        · exact .inl h
      · exact .inl h
    · exact .inl h
  all_goals
    simp only [fastCmp, te_eq, boolAV_eq] at h
    split at h
    · rename_i h1
      obtain rfl : k = k' := kcode_inj (Nat.eq_of_beq_eq_true h1)
      refine .inr ⟨_, (Option.some.inj h).symm, fun w => ?_⟩
      simp only [eqGuard, binOp, Op.intCmp]
      have e1 : Nat.beq i j = decide (i = j) := by rw [Bool.eq_iff_iff]; simp
      have e2 : ∀ i j : Nat, Nat.blt i j = decide (i < j) := fun i j => by rw [Bool.eq_iff_iff]; simp
      have e3 : ∀ i j : Nat, Nat.ble i j = decide (i ≤ j) := fun i j => by rw [Bool.eq_iff_iff]; simp
      simp only [e1, e2, e3]
      simp
      try (rw [Bool.eq_iff_iff]; simp)
      try omega
    · exact .inl h

end Go.Proofs.Yteaaahcgkodcdaa.Ev
