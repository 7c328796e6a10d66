/- The evaluator tells the truth, part 6: the operations that touch the memory. -/
import Derived.Test.YteaaahcgkodcdaaVg
import Derived.Great.BuildSlice
import Derived.Laws.MakeOwn
namespace Go.Proofs.Yteaaahcgkodcdaa.Ev
open Go Go.RowKit
set_option linter.unusedSimpArgs false
set_option linter.unusedVariables false

variable {β : Type} {P : Program} {base wr : Nat} {F : Env} {m : Mem} {w : World} {n : Nat} {tm : Tr AV} {a : Act}

/-- what is shown of an operation that yields a value and may lay blocks -/
def Makes (P : Program) (base wr : Nat) (F : Env) (a : Act) (w : World) (o : Oper) : Rs → Prop
  | .val x m' => ∃ F' val w', Ext F F' ∧ den F' x = some val ∧ (execOp a.eval o).run P w = .ok (.value val) w' ∧ Inv base wr F' m' w' ∧ Below base w w'
  | .skip m' => ∃ w', (execOp a.eval o).run P w = .ok .skip w' ∧ Inv base wr F m' w' ∧ Below base w w'
  | .call f args => ∃ vs, dens F args = some vs ∧ (execOp a.eval o).run P w = (callFunc f vs.toArray).run P w

theorem below_alloc {base : Nat} {w : World} (h : base ≤ w.heap.size) (o : Obj) : Below base w (w.alloc o) := (Below.refl base w).alloc h o

theorem evAlloc_spec (hI : Inv base wr F m w) (o : Oper) {e : TypeId} (ho : o.op = .alloc e) {r : Rs} (h : evAlloc P m e = some r) : Makes P base wr F a w o r := by
  obtain ⟨z, hz, h⟩ := ob_some h
  obtain ⟨i, hi, hiz⟩ := zeroT_some hz
  obtain ⟨m', F', h, hext, hF', hI', _, _⟩ := new_spec hI (dens_cellsV F z) h
  obtain rfl := Option.some.inj h
  refine ⟨F', .pointer (some ⟨w.heap.size, 0, none⟩), _, hext, by simp [den, hF'], ?_, hI', below_alloc hI.size _⟩
  unfold execOp
  simp only [ho]
  refine valued ?_
  simp [Instr.alloc, run_zero hi hiz, newVar, newRow]

theorem evBox_spec (hI : Inv base wr F m w) (hA : AR F n tm a) (o : Oper) {e : TypeId} {y : Operand} (ho : o.op = .box e y) {r : Rs} (h : evBox tm m e y = some r) : Makes P base wr F a w o r := by
  obtain ⟨m', F', h, hext, hF', hI', _, _⟩ := new_spec hI (dens_cellsAV (hA.eval y)) h
  obtain rfl := Option.some.inj h
  refine ⟨F', .pointer (some ⟨w.heap.size, 0, none⟩), _, hext, by simp [den, hF'], ?_, hI', below_alloc hI.size _⟩
  unfold execOp
  simp only [ho]
  refine valued ?_
  simp [Instr.box, newVar, newRow]

/-! ### Rows of one thing -/
def repeatV (l : List Value) : Nat → List Value
  | 0 => []
  | n + 1 => l ++ repeatV l n
theorem repeatV_length (l : List Value) : ∀ n, (repeatV l n).length = n * l.length
  | 0 => by simp [repeatV]
  | n + 1 => by simp [repeatV, repeatV_length l n, Nat.add_mul, Nat.add_comm]
theorem repeatV_get (l : List Value) (hl : 0 < l.length) : ∀ n i, i < n * l.length → (repeatV l n)[i]? = l[i % l.length]?
  | 0, i, h => by simp at h
  | n + 1, i, h => by
    simp only [repeatV]
    by_cases hi : i < l.length
    · rw [List.getElem?_append_left hi, Nat.mod_eq_of_lt hi]
    · have h' : i < n * l.length + l.length := by rw [Nat.add_mul] at h; simpa using h
      rw [List.getElem?_append_right (by omega), repeatV_get l hl n (i - l.length) (by omega), ← Nat.mod_eq_sub_mod (by omega)]
theorem dens_repeat {l : List AV} {vs : List Value} (h : dens F l = some vs) : ∀ n, dens F (repeatAV l n) = some (repeatV vs n)
  | 0 => by simp [repeatAV, repeatV, dens]
  | n + 1 => dens_append h (dens_repeat h n)
theorem repeat_array (cs : Array Value) (s n : Nat) (hs : cs.size = s) (h0 : 0 < s) : (Array.range (n * s)).map (cs[· % cs.size]!) = (repeatV cs.toList n).toArray := by
  apply Array.ext_getElem?
  intro i
  simp only [List.getElem?_toArray, Array.getElem?_map]
  by_cases hi : i < n * s
  · rw [repeatV_get _ (by simp; omega) n i (by simp; rw [hs]; exact hi)]
    have hm : i % cs.size < cs.size := Nat.mod_lt _ (by omega)
    rw [Array.getElem?_range, if_pos hi]
    simp [Array.getElem!_eq_getD, hm]
  · rw [List.getElem?_eq_none (by rw [repeatV_length]; simp; rw [hs]; omega), Array.getElem?_range, if_neg hi]
    rfl

theorem evBuildSlice_spec (hI : Inv base wr F m w) (hA : AR F n tm a) (o : Oper) {t : TypeId} {len : Nat} {ps : Array (Nat × Operand)} (ho : o.op = .buildSlice t len ps) {r : Rs}
    (h : evBuildSlice P tm m t len ps = some r) : Makes P base wr F a w o r := by
  obtain ⟨e, he, h⟩ := ob_some h
  obtain ⟨s, hs, h⟩ := ob_some h
  obtain ⟨z, hz, h⟩ := ob_some h
  obtain ⟨c1, h⟩ := gd_some h
  obtain ⟨c2, h⟩ := gd_some h
  obtain ⟨c3, h⟩ := gd_some h
  obtain ⟨l, hl, h⟩ := ob_some h
  obtain ⟨i, hi, rfl⟩ := sizeT_some hs
  obtain ⟨i', hi', hiz⟩ := zeroT_some hz
  rw [hi] at hi'
  obtain rfl := Option.some.inj hi'
  have c1' : len * i.size ≤ 4096 := Nat.le_of_ble_eq_true c1
  have c2' : 1 ≤ len * i.size := Nat.le_of_ble_eq_true c2
  have hzd := dens_cellsV F z
  have c3' : z.cells.size = i.size := by
    have := dens_length hzd
    rw [Nat.eq_of_beq_eq_true c3] at this
    simpa using this
  have hpos : 0 < i.size := by
    rcases Nat.eq_zero_or_pos i.size with h0 | h0
    · rw [h0] at c2'; simp at c2'
    · exact h0
  obtain ⟨vs, h1, h2, h3⟩ := fillAV_spec (F := F) _ _ _ _ _ _ hl (dens_repeat hzd len) (evParts_fst tm a ps) (evParts_snd hA ps)
  obtain ⟨m', F', h, hext, hF', hI', hmod, _⟩ := new_spec hI h1 h
  obtain rfl := Option.some.inj h
  have hll : l.length = len * i.size := by
    have := dens_length h1
    rw [h3, repeatV_length] at this
    simp only [Array.length_toList, c3'] at this
    exact this.symm
  refine ⟨F', .slice (some ⟨w.heap.size, 0, none⟩) len len, _, hext, ?_, ?_, hI', below_alloc hI.size _⟩
  · simp only [den, hF', Option.map_some, Nat.sub_zero]
    rw [hll, Nat.mul_div_cancel _ hpos]
  · unfold execOp
    simp only [ho]
    refine valued (run_buildSlice w t e len _ _ i z (elemT_some he) hi hiz (by omega) (by omega) ?_)
    rw [repeat_array z.cells i.size len c3' hpos]
    exact h2

theorem evMakeSlice_spec (hI : Inv base wr F m w) (hA : AR F n tm a) (o : Oper) {t : TypeId} {y q : Operand} (ho : o.op = .makeSlice t y q) {r : Rs}
    (h : evMakeSlice P tm m t y q = some r) : Makes P base wr F a w o r := by
  obtain ⟨e, he, h⟩ := ob_some h
  obtain ⟨kl, l, hy, h⟩ := asNat_some h
  obtain ⟨kc, k, hq, h⟩ := asNat_some h
  obtain ⟨i, hi, h⟩ := ob_some h
  obtain ⟨z, hz, h⟩ := ob_some h
  obtain ⟨c1, h⟩ := gd_some h
  obtain ⟨c2, h⟩ := gd_some h
  obtain ⟨c3, h⟩ := gd_some h
  obtain ⟨c4, h⟩ := gd_some h
  obtain ⟨c5, h⟩ := gd_some h
  obtain ⟨c6, hfin⟩ := gd_some h
  obtain rfl : l = k := Nat.eq_of_beq_eq_true c1
  have c2' : l ≤ 4096 := Nat.le_of_ble_eq_true c2
  have c4' : i.bytes ≤ 4096 := Nat.le_of_ble_eq_true c4
  have hpos : 0 < i.size := Nat.le_of_ble_eq_true c5
  have hzd := dens_cellsV F z
  have c6' : z.cells.size = i.size := by
    have := dens_length hzd
    rw [Nat.eq_of_beq_eq_true c6] at this
    simpa using this
  obtain ⟨m', F', h, hext, hF', hI', hmod, _⟩ := new_spec hI (dens_repeat hzd l) hfin
  obtain rfl := Option.some.inj h
  have hll : (repeatAV (cellsV z) l).length = l * i.size := by
    have := dens_length (dens_repeat hzd l)
    rw [repeatV_length] at this
    simp only [Array.length_toList, c6'] at this
    exact this.symm
  have hb : i.bytes * l ≤ 16777216 := Nat.le_trans (Nat.mul_le_mul c4' c2') (by decide)
  have hbI : (i.bytes : Int) * (l : Int) ≤ 281474976710656 := by
    have h1 : ((i.bytes * l : Nat) : Int) ≤ ((16777216 : Nat) : Int) := Int.ofNat_le.2 hb
    rw [Int.natCast_mul] at h1
    exact Int.le_trans h1 (by decide)
  have hsz : i.size = i.size := rfl
  refine ⟨F', .slice (some ⟨w.heap.size, 0, none⟩) l l, _, hext, ?_, ?_, hI', below_alloc hI.size _⟩
  · simp only [den, hF', Option.map_some, Nat.sub_zero]
    rw [hll, Nat.mul_div_cancel _ hpos]
  · unfold execOp
    simp only [ho, hA.raw hy, hA.raw hq]
    refine valued ?_
    have hrun := run_make (P := P) w t e i z (elemT_some he) hi hz kl kc (l : Int) (l : Int) (Int.natCast_nonneg l) (Int.le_refl _) hbI (by omega)
    rw [show (Value.int kl (Int.ofNat l)) = Value.int kl (l : Int) from rfl, show (Value.int kc (Int.ofNat l)) = Value.int kc (l : Int) from rfl, hrun]
    simp only [Int.toNat_natCast]
    congr 3
    rw [← repeat_array z.cells i.size l c6' hpos]
    rfl

theorem evStore_spec (hI : Inv base wr F m w) (hA : AR F n tm a) (o : Oper) {t : TypeId} {y q : Operand} (ho : o.op = .store t y q) {r : Rs} (h : evStore P wr tm m t y q = some r) : Makes P base wr F a w o r := by
  obtain ⟨b, off, hb, h⟩ := asPtr_some h
  obtain ⟨s, hs, h⟩ := ob_some h
  obtain ⟨c1, h⟩ := gd_some h
  obtain ⟨m', hm, h⟩ := ob_some h
  obtain rfl := Option.some.inj h
  obtain ⟨i, hi, rfl⟩ := sizeT_some hs
  have hd := dens_cellsAV (hA.eval q)
  obtain ⟨g, c, hF, hy⟩ := hA.ptr hb
  obtain ⟨g', c', cur, e, hF', hbg, hh, hle, hone, hI'⟩ := write_spec hI hd hm
  rw [hF] at hF'
  obtain ⟨rfl, rfl⟩ := Prod.mk.inj (Option.some.inj hF')
  have hsz : (a.eval q).cells.size = i.size := by
    have := dens_length hd
    rw [Nat.eq_of_beq_eq_true c1] at this
    simpa using this
  refine ⟨_, ?_, hI', ⟨rfl, rfl, rfl, by simp [World.setRow], fun k hk => setRow_other w g k _ (by omega)⟩⟩
  unfold execOp
  simp only [ho, hy]
  have hst := run_storeCells_at (P := P) g off e _ 0 cur w hh (by simpa using hle) hone
  simp only [Nat.add_zero] at hst
  simp [Instr.storeAt, Instr.sureAddr, storeVar, run_size hi, hsz, hst]

theorem evCallV_spec (hA : AR F n tm a) (o : Oper) {c : Call} {f : Operand} (ho : o.op = .call c) (hc : c.callee = .value f) {g : FuncId} {cap : List AV} (hf : evO tm f = .fn g cap) :
    Makes P base wr F a w o (.call g (evArgs tm c.args.toList ++ cap)) := by
  have hv := hA.eval f
  rw [hf] at hv
  obtain ⟨vs, hvs, hfv⟩ := den_fn hv
  refine ⟨c.args.toList.map a.eval ++ vs, dens_append (dens_map hA _) hvs, ?_⟩
  unfold execOp
  simp only [ho, resolve, hc, hfv, Deferred.ofValue, invoke]
  have e : c.args.map a.eval ++ vs.toArray = (c.args.toList.map a.eval ++ vs).toArray := by apply Array.ext'; simp
  simp only [Sem.run_bind, Sem.run_pure, Result.andThen_ok, Array.empty_append, e]

end Go.Proofs.Yteaaahcgkodcdaa.Ev
