/- The second evaluator tells the truth, part 6: the operations that touch the memory. -/
import Derived.Test.YtplnnlnkcfappaaGreatQg
import Derived.Great.BuildSlice
import Derived.Laws.MakeOwn
namespace Go.Proofs.YtplnnlnkcfappaaGreat.E3
open Go Go.RowKit
set_option linter.unusedSimpArgs false
set_option linter.unusedVariables false

variable {ρ : Syms}

variable {P : Program} {oc : Orc} {S : Nat} {sg : List Nat} {base : Nat} {F : Env} {w : World} {a : Act}
variable {d : Put} {kc : KO} {ih : Rec} {fr : Fr} {es : Es} {m : Mem} {y : Out}

/-- what is shown of an operation that may touch the memory, or calls -/
inductive Does (ρ : Syms) (P : Program) (base : Nat) (F : Env) (a : Act) (w : World) (o : Oper) (d : Put) (kc : KO) (ih : Rec) (fr : Fr) (es : Es) (m : Mem) (y : Out) : Prop where
  | value (x : AV) (m' : Mem) (F' : Env) (val : Value) (w' : World) (h0 : fin d kc ih fr es m' x = some y) (h1 : Ext F F') (h2 : den ρ F' x = some val) (h3 : (execOp a.eval o).run P w = .ok (.value val) w') (h4 : Inv ρ base F' m' w') (h5 : Fares base F m w F' m' w')
  | skip (m' : Mem) (w' : World) (h0 : fin d kc ih fr es m' undefAV = some y) (h3 : (execOp a.eval o).run P w = .ok .skip w') (h4 : Inv ρ base F m' w') (h5 : Fares base F m w F m' w')
  | call (f : FuncId) (args : List AV) (vs : List Value) (h0 : callR (ih f args m) (fun v m => fin d kc ih fr es m v) = some y) (h1 : dens ρ F args = some vs) (h3 : (execOp a.eval o).run P w = (callFunc f vs.toArray).run P w)

theorem below_alloc {base : Nat} {w : World} (h : base ≤ w.heap.size) (o : Obj) : Below base w (w.alloc o) := (Below.refl base w).alloc h o

theorem putsB_eq : ∀ (l : List AV) (i : Nat) (c : Cells), putsB l i c = c.puts i l
  | [], _, _ => rfl
  | x :: l, i, c => putsB_eq l (i + 1) (c.put i x)
theorem fit_base {q : Nat} (h : q ≤ 4096) (k : Cells → R) : Cells.fit (.c1 a1u) q k = k (base0 q) := by
  unfold Cells.fit base0
  rw [teR_eq, teR_eq, teR_eq, te_eq, te_eq, again_eq, again_eq]
  have e3 : Nat.ble q (Cells.c1 a1u).grow.grow.cap = true := Nat.ble_eq_true_of_le h
  rw [e3]
  by_cases h1 : Nat.ble q 8 = true
  · rw [if_pos h1, if_pos (show Nat.ble q (Cells.c1 a1u).cap = true from h1)]
  · rw [if_neg h1, if_neg (show ¬ Nat.ble q (Cells.c1 a1u).cap = true from h1)]
    by_cases h2 : Nat.ble q 64 = true
    · rw [if_pos h2, if_pos (show Nat.ble q (Cells.c1 a1u).grow.cap = true from h2)]
    · rw [if_neg h2, if_neg (show ¬ Nat.ble q (Cells.c1 a1u).grow.cap = true from h2)]
      rfl
theorem okCells_some {l : List AV} (h : okCells l = true) : l.length ≤ 4096 ∧ ∀ x ∈ l, Ok1 x := by
  obtain ⟨h1, h2⟩ := both h
  have h1' := Nat.le_of_ble_eq_true h1
  rw [lenAV_eq] at h1'
  refine ⟨h1', ?_⟩
  clear h1 h h1'
  induction l with
  | nil => simp
  | cons x l ih =>
    obtain ⟨h3, h4⟩ := both (show te (oneAV x) (te (okAV x) _ false) false = true from h2)
    obtain ⟨h5, h6⟩ := both h4
    intro z hz
    rcases List.mem_cons.1 hz with rfl | hz
    · exact ⟨h3, okAV_ne h5⟩
    · exact ih h6 z hz
theorem allocC_eq {e : TypeId} {l : List AV} (h : okCells l = true) (d : Put) (kc : KO) (ih : Rec) (fr : Fr) (es : Es) (m : Mem) : opAllocC e (lenAV l) (zc (lenAV l) l) d kc ih fr es m = opAlloc e l d kc ih fr es m := by
  obtain ⟨h1, h2⟩ := okCells_some h
  cases m with | mk H nx wr =>
  unfold opAlloc Mem.new
  rw [strictR_eq, lenAV_eq]
  have e1 : Nat.ble l.length 4096 = true := Nat.ble_eq_true_of_le h1
  have e2 : te (Nat.beq 0 0) true (te (Nat.beq 0 mapZ) false (Nat.beq (Nat.mod l.length 0) 0)) = true := by
    rw [show Nat.beq 0 0 = true from rfl]
    rfl
  have eg : ∀ k : R, gdR true k = k := fun _ => rfl
  rw [e1, e2, eg, eg, fit_base h1, putAll_ok1 h2 (by omega)]
  unfold zc
  rw [putsB_eq]
  rfl
theorem oneP_some {len : Nat} {l : List (Nat × Operand)} {x : Operand} (h : oneP len l = some x) : len = 1 ∧ l = [(0, x)] := by
  unfold oneP at h
  split at h
  · rw [te_eq] at h
    split at h
    · rename_i hb
      obtain rfl := Option.some.inj h
      exact ⟨Nat.eq_of_beq_eq_true hb, rfl⟩
    · cases h
  · cases h
theorem build1_eq {S : Nat} {sg : List Nat} {e : TypeId} {s : Nat} {z : List AV} (hz : z.length = s) {ps : Array (Nat × Operand)} {q : Operand} (hp : ps.toList = [(0, q)]) {y : Out} (h : opBuild1 e s (getB S sg q) d kc ih fr es m = some y) : opBuildSlice S sg e s 1 z ps d kc ih fr es m = some y := by
  unfold opBuild1 at h
  obtain ⟨hb, h⟩ := force_some h
  obtain ⟨h1, h⟩ := gdR_some h
  rw [getB_at] at hb h1 h
  unfold opBuildSlice
  have e1 : evParts (getG S sg fr es) ps = [(0, evO (getG S sg fr es) q)] := by unfold evParts; rw [hp]; rfl
  have h1' : lenAV (cellsAV (evO (getG S sg fr es) q)) = s := Nat.eq_of_beq_eq_true h1
  have hok : okAV (evO (getG S sg fr es) q) = true := by
    cases hv : evO (getG S sg fr es) q <;> first | rfl | exact absurd hv hb
  have hl : lenAV (z ++ []) = s := by rw [lenAV_eq, List.append_nil]; exact hz
  have hd : ∀ (l : List AV) n, l.length ≤ n → dropAV l n = [] := by
    intro l
    induction l with
    | nil => intro n _; cases n <;> rfl
    | cons x l ihl =>
      intro n hn
      cases n with
      | zero => simp at hn
      | succ n => exact ihl n (by simpa using hn)
  have ef : fillAV (fun i => some (Nat.mul i s, s)) [(0, evO (getG S sg fr es) q)] (repeatAV z 1) = some (cellsAV (evO (getG S sg fr es) q)) := by
    show gd (okAV (evO (getG S sg fr es) q)) (ob (some (Nat.mul 0 s, s)) fun p => gd (Nat.beq (lenAV (cellsAV (evO (getG S sg fr es) q))) p.2) (gd (Nat.ble (Nat.add p.1 (lenAV (cellsAV (evO (getG S sg fr es) q)))) (lenAV (z ++ []))) (some (takeAV (z ++ []) p.1 ++ (cellsAV (evO (getG S sg fr es) q) ++ dropAV (z ++ []) (Nat.add p.1 (lenAV (cellsAV (evO (getG S sg fr es) q))))))))) = _
    rw [hok]
    show gd (Nat.beq (lenAV (cellsAV (evO (getG S sg fr es) q))) s) (gd (Nat.ble (Nat.add (Nat.mul 0 s) (lenAV (cellsAV (evO (getG S sg fr es) q)))) (lenAV (z ++ []))) (some (takeAV (z ++ []) (Nat.mul 0 s) ++ (cellsAV (evO (getG S sg fr es) q) ++ dropAV (z ++ []) (Nat.add (Nat.mul 0 s) (lenAV (cellsAV (evO (getG S sg fr es) q)))))))) = _
    have e0 : Nat.mul 0 s = 0 := Nat.zero_mul s
    have e2 : Nat.add 0 s = s := Nat.zero_add s
    rw [h1', e0, e2, hl, show Nat.beq s s = true from Nat.beq_refl s, show Nat.ble s s = true from Nat.ble_eq_true_of_le (Nat.le_refl s), hd (z ++ []) s (by simp [hz])]
    have e3 : takeAV (z ++ []) 0 = [] := by cases (z ++ []) <;> rfl
    rw [e3]
    simp [gd]
  rw [e1, ef]
  exact h

theorem alloc_does (hI : Inv ρ base F m w) (o : Oper) {e : TypeId} (ho : o.op = .alloc e) {i : TypeInfo} {z : Value} (hi : P.info? e = some i) (hiz : i.zero = some z) (h : opAlloc e (cellsV z) d kc ih fr es m = some y) :
    Does ρ P base F a w o d kc ih fr es m y := by
  obtain ⟨b, m', F', h, hext, hF', hI', _, _, hfa⟩ := new_some hI (dens_cellsV F z) h
  refine .value _ m' F' (.pointer (some ⟨w.heap.size, 0, none⟩)) _ h hext (by simp [den, hF']) ?_ hI' hfa
  unfold execOp
  simp only [ho]
  refine valued ?_
  simp [Instr.alloc, run_zero hi hiz, newVar, newRow]

theorem putAll_ok {l : List AV} {i : Nat} {c : Cells} {k : Cells → R} (h : putAll l i c k = some y) : ∀ x ∈ l, x ≠ .bad := fun x hx => ((putAll_puts h).1 x hx).2
theorem new_ok {e : TypeId} {z : Nat} {l : List AV} {k : Nat → Mem → R} (hr : m.new e z l k = some y) : ∀ x ∈ l, x ≠ .bad := by
  unfold Mem.new at hr
  rw [strictR_eq] at hr
  obtain ⟨_, hr⟩ := gdR_some hr
  obtain ⟨_, hr⟩ := gdR_some hr
  obtain ⟨c0, _, _, _, hr⟩ := fit_some hr
  exact putAll_ok hr
theorem write_ok {b off : Nat} {l : List AV} {k : Mem → R} (hr : m.write b off l k = some y) : ∀ x ∈ l, x ≠ .bad := by
  cases m with | mk H nx wr =>
  unfold Mem.write at hr
  rw [memR_eq] at hr
  obtain ⟨_, hr⟩ := gdR_some hr
  obtain ⟨e, z, q, c0, _, _, hr⟩ := blkR_some hr
  obtain ⟨_, hr⟩ := gdR_some hr
  exact putAll_ok hr
theorem cells_ok {x : AV} (h : ∀ z ∈ cellsAV x, z ≠ .bad) : x ≠ .bad := by
  rintro rfl
  exact h .bad (List.mem_singleton.2 rfl) rfl

theorem box_does (hI : Inv ρ base F m w) (hA : Held ρ F (getG S sg fr es) a) (o : Oper) {e : TypeId} {q : Operand} (ho : o.op = .box e q) (h : opBox e (getB S sg q) d kc ih fr es m = some y) : Does ρ P base F a w o d kc ih fr es m y := by
  unfold opBox at h
  rw [getB_at] at h
  have hq := hA.eval (cells_ok (new_ok h))
  obtain ⟨b, m', F', h, hext, hF', hI', _, _, hfa⟩ := new_some hI (dens_cellsAV hq) h
  refine .value _ m' F' (.pointer (some ⟨w.heap.size, 0, none⟩)) _ h hext (by simp [den, hF']) ?_ hI' hfa
  unfold execOp
  simp only [ho]
  refine valued ?_
  simp [Instr.box, newVar, newRow]

/-! ### Rows of one thing -/
def repeatV (l : List Value) : Nat → List Value
  | 0 => []
  | n + 1 => l ++ repeatV l n
theorem repeatV_length (l : List Value) : ∀ n, (repeatV l n).length = n * l.length
  | 0 => by simp [repeatV]
  | n + 1 => by simp [repeatV, repeatV_length l n, Nat.add_mul, Nat.add_comm]
theorem repeatV_get (l : List Value) (hl : 0 < l.length) : ∀ n i, i < n * l.length → (repeatV l n)[i]? = l[i % l.length]?
  | 0, i, h => by simp at h
  | n + 1, i, h => by
    simp only [repeatV]
    by_cases hi : i < l.length
    · rw [List.getElem?_append_left hi, Nat.mod_eq_of_lt hi]
    · have h' : i < n * l.length + l.length := by rw [Nat.add_mul] at h; simpa using h
      rw [List.getElem?_append_right (by omega), repeatV_get l hl n (i - l.length) (by omega), ← Nat.mod_eq_sub_mod (by omega)]
theorem dens_repeat {l : List AV} {vs : List Value} (h : dens ρ F l = some vs) : ∀ n, dens ρ F (repeatAV l n) = some (repeatV vs n)
  | 0 => by simp [repeatAV, repeatV, dens]
  | n + 1 => dens_append h (dens_repeat h n)
theorem repeat_array (cs : Array Value) (s n : Nat) (hs : cs.size = s) (h0 : 0 < s) : (Array.range (n * s)).map (cs[· % cs.size]!) = (repeatV cs.toList n).toArray := by
  apply Array.ext_getElem?
  intro i
  simp only [List.getElem?_toArray, Array.getElem?_map]
  by_cases hi : i < n * s
  · rw [repeatV_get _ (by simp; omega) n i (by simp; rw [hs]; exact hi)]
    have hm : i % cs.size < cs.size := Nat.mod_lt _ (by omega)
    rw [Array.getElem?_range, if_pos hi]
    simp [Array.getElem!_eq_getD, hm]
  · rw [List.getElem?_eq_none (by rw [repeatV_length]; simp; rw [hs]; omega), Array.getElem?_range, if_neg hi]
    rfl

theorem buildSlice_does (hI : Inv ρ base F m w) (hA : Held ρ F (getG S sg fr es) a) (o : Oper) {t e : TypeId} {len : Nat} {ps : Array (Nat × Operand)} (ho : o.op = .buildSlice t len ps) (he : P.underlying t = some (.slice e)) {i : TypeInfo} {z : Value}
    (hi : P.info? e = some i) (hiz : i.zero = some z) (c1' : len * i.size ≤ 4096) (c2' : 1 ≤ len * i.size) (c3 : (cellsV z).length = i.size)
    (h : opBuildSlice S sg e i.size len (cellsV z) ps d kc ih fr es m = some y) : Does ρ P base F a w o d kc ih fr es m y := by
  obtain ⟨l, hl, h⟩ := obR_some h
  have hzd := dens_cellsV (ρ := ρ) F z
  have c3' : z.cells.size = i.size := by
    have := dens_length hzd
    rw [c3] at this
    simpa using this
  have hpos : 0 < i.size := by
    rcases Nat.eq_zero_or_pos i.size with h0 | h0
    · rw [h0] at c2'; simp at c2'
    · exact h0
  obtain ⟨vs, h1, h2, h3⟩ := fillAV_spec (F := F) _ _ _ _ _ _ hl (dens_repeat hzd len) (evParts_PV hA ps)
  obtain ⟨b, m', F', h, hext, hF', hI', hmod, _, hfa⟩ := new_some hI h1 h
  have hll : l.length = len * i.size := by
    have := dens_length h1
    rw [h3, repeatV_length] at this
    simp only [Array.length_toList, c3'] at this
    exact this.symm
  refine .value _ m' F' (.slice (some ⟨w.heap.size, 0, none⟩) len len) _ h hext ?_ ?_ hI' hfa
  · simp only [den, hF', Option.map_some, Nat.sub_zero, slOff_zero]
    rw [hll, Nat.mul_div_cancel _ hpos]
  · unfold execOp
    simp only [ho]
    refine valued (run_buildSlice w t e len _ _ i z he hi hiz (by omega) (by omega) ?_)
    rw [repeat_array z.cells i.size len c3' hpos]
    exact h2

theorem empty_does (hI : Inv ρ base F m w) (o : Oper) {t e : TypeId} {len : Nat} {ps : Array (Nat × Operand)} (ho : o.op = .buildSlice t len ps) (he : P.underlying t = some (.slice e)) {i : TypeInfo}
    (hi : P.info? e = some i) (h0 : len = 0) (hp : ps.size = 0) (h : opEmpty e i.size d kc ih fr es m = some y) : Does ρ P base F a w o d kc ih fr es m y := by
  subst h0
  obtain rfl := Array.eq_empty_of_size_eq_zero hp
  obtain ⟨b, m', F', h, hext, hF', hI', _, _, hfa⟩ := new_some hI (dens_nil F) h
  refine .value _ m' F' (.slice (some ⟨w.heap.size, 0, none⟩) 0 0) _ h hext (by simp [den, hF']) ?_ hI' hfa
  unfold execOp
  simp only [ho]
  refine valued ?_
  have e0 : ∀ f : Nat → Value, Array.map f (Array.range 0) = #[] := fun f => by simp
  simp [Instr.buildSlice, run_underlying he, sizeOf, typeInfo, hi, newRow, Instr.fill, e0]

theorem makeSlice_does (hI : Inv ρ base F m w) (hA : Held ρ F (getG S sg fr es) a) (o : Oper) {t e : TypeId} {q r : Operand} (ho : o.op = .makeSlice t q r) (he : P.underlying t = some (.slice e)) {i : TypeInfo} {z : Value}
    (hi : P.info? e = some i) (hz : i.zero = some z) (c4' : i.bytes ≤ 4096) (hpos : 0 < i.size) (c6 : (cellsV z).length = i.size)
    (h : opMakeSlice e i.size (cellsV z) (getB S sg q) (getB S sg r) d kc ih fr es m = some y) : Does ρ P base F a w o d kc ih fr es m y := by
  obtain ⟨kl, l, hq, h⟩ := natR_some h
  obtain ⟨kc', k, hr, h⟩ := natR_some h
  rw [getB_at] at hq hr
  obtain ⟨c1, h⟩ := gdR_some h
  obtain ⟨c2, hfin⟩ := gdR_some h
  obtain rfl : l = k := Nat.eq_of_beq_eq_true c1
  have c2' : l ≤ 4096 := Nat.le_of_ble_eq_true c2
  have hzd := dens_cellsV (ρ := ρ) F z
  have c6' : z.cells.size = i.size := by
    have := dens_length hzd
    rw [c6] at this
    simpa using this
  obtain ⟨b, m', F', h, hext, hF', hI', hmod, _, hfa⟩ := new_some hI (dens_repeat hzd l) hfin
  have hll : (repeatAV (cellsV z) l).length = l * i.size := by
    have := dens_length (dens_repeat hzd l)
    rw [repeatV_length] at this
    simp only [Array.length_toList, c6'] at this
    exact this.symm
  have hb : i.bytes * l ≤ 16777216 := Nat.le_trans (Nat.mul_le_mul c4' c2') (by decide)
  have hbI : (i.bytes : Int) * (l : Int) ≤ 281474976710656 := by
    have h1 : ((i.bytes * l : Nat) : Int) ≤ ((16777216 : Nat) : Int) := Int.ofNat_le.2 hb
    rw [Int.natCast_mul] at h1
    exact Int.le_trans h1 (by decide)
  refine .value _ m' F' (.slice (some ⟨w.heap.size, 0, none⟩) l l) _ h hext ?_ ?_ hI' hfa
  · simp only [den, hF', Option.map_some, Nat.sub_zero, slOff_zero]
    rw [hll, Nat.mul_div_cancel _ hpos]
  · unfold execOp
    simp only [ho, hA.is hq, hA.is hr]
    refine valued ?_
    have hrun := run_make (P := P) w t e i z he hi hz kl kc' (l : Int) (l : Int) (Int.natCast_nonneg l) (Int.le_refl _) hbI (by omega)
    rw [show (Value.int kl (Int.ofNat l)) = Value.int kl (l : Int) from rfl, show (Value.int kc' (Int.ofNat l)) = Value.int kc' (l : Int) from rfl, hrun]
    simp only [Int.toNat_natCast]
    congr 3
    rw [← repeat_array z.cells i.size l c6' hpos]
    rfl

theorem store_does (hA : Held ρ F (getG S sg fr es) a) (o : Oper) {t : TypeId} {p q : Operand} (ho : o.op = .store t p q) {i : TypeInfo} (hi : P.info? t = some i) {b off : Nat} (hb : evO (getG S sg fr es) p = .ptr b off) (hq : evO (getG S sg fr es) q ≠ .bad)
    {m' : Mem} (h0 : fin d kc ih fr es m' undefAV = some y) {g : Nat} {c : Nat × Nat} {cur : Array Value} {e : TypeId} (hF' : F b = some (g, c)) (hbg : base ≤ g) (hh : w.heap[g]? = some (.cells cur e (0, 0)))
    (hsz : (a.eval q).cells.size = i.size) (hle : c.2 + off + (a.eval q).cells.size ≤ cur.size) (hone : ∀ v ∈ (a.eval q).cells.toList, v.oneCell' = true)
    (hI' : Inv ρ base F m' (w.setRow g (cur.toList.take (c.2 + off) ++ (a.eval q).cells.toList ++ cur.toList.drop (c.2 + off + (a.eval q).cells.toList.length)).toArray))
    (hfa : Fares base F m w F m' (w.setRow g (cur.toList.take (c.2 + off) ++ (a.eval q).cells.toList ++ cur.toList.drop (c.2 + off + (a.eval q).cells.toList.length)).toArray)) : Does ρ P base F a w o d kc ih fr es m y := by
  obtain ⟨g2, c2, hF, hy⟩ := hA.ptr hb
  rw [hF] at hF'
  obtain ⟨rfl, rfl⟩ := Prod.mk.inj (Option.some.inj hF')
  refine .skip m' _ h0 ?_ hI' hfa
  unfold execOp
  simp only [ho, hy]
  have hst := run_storeCells_at (P := P) g2 (c2.2 + off) e (a.eval q).cells.toList 0 cur w hh (by simpa using hle) hone
  simp only [Nat.add_zero] at hst
  simp [Instr.storeAt, Instr.sureAddr, storeVar, run_size hi, hsz, hst]

theorem storeN_does (hI : Inv ρ base F m w) (hA : Held ρ F (getG S sg fr es) a) (o : Oper) {t : TypeId} {p q : Operand} (ho : o.op = .store t p q) {i : TypeInfo} (hi : P.info? t = some i)
    (h : opStoreN i.size (getB S sg p) (getB S sg q) d kc ih fr es m = some y) : Does ρ P base F a w o d kc ih fr es m y := by
  obtain ⟨b, off, hb, h⟩ := ptrR_some h
  rw [getB_at] at hb h
  obtain ⟨c1, h⟩ := gdR_some h
  rw [lenAV_eq] at c1
  have hq := cells_ok (write_ok h)
  have hd := dens_cellsAV (hA.eval hq)
  obtain ⟨m', h0, g', c', cur, e, hF', hbg, hh, hle, hone, hI', hfa⟩ := write_some hI hd h
  have hsz : (a.eval q).cells.size = i.size := by
    have := dens_length hd
    rw [Nat.eq_of_beq_eq_true c1] at this
    simpa using this
  exact store_does hA o ho hi hb hq h0 hF' hbg hh hsz (by simpa using hle) hone hI' hfa

theorem cells_one {v : Value} (h : v.oneCell' = true) : v.cells = #[v] := by cases v <;> first | rfl | (simp [Value.oneCell'] at h)

theorem store1_does (hI : Inv ρ base F m w) (hA : Held ρ F (getG S sg fr es) a) (o : Oper) {t : TypeId} {p q : Operand} (ho : o.op = .store t p q) {i : TypeInfo} (hi : P.info? t = some i) (h1 : i.size = 1)
    (h : opStore1 (getB S sg p) (getB S sg q) d kc ih fr es m = some y) : Does ρ P base F a w o d kc ih fr es m y := by
  obtain ⟨b, off, hb, h⟩ := ptrR_some h
  obtain ⟨hq, h⟩ := force_some h
  rw [getB_at] at hb hq h
  obtain ⟨m', h0, g', c', cur, e, hF', hbg, hh, hle, hone, hI', hfa⟩ := write1_some hI (hA.eval hq) h
  have hc := cells_one hone
  exact store_does hA o ho hi hb hq h0 hF' hbg hh (by rw [hc, h1]; rfl) (by rw [hc]; exact hle) (by rw [hc]; simpa using hone) (by rw [hc]; exact hI') (by rw [hc]; exact hfa)

theorem run_copy_sz (w : World) (dT sT ty elem : TypeId) (g o dLen dCap : Nat) (q : Addr) (sLen sCap : Nat) (cur : Array Value) (t : TypeId) (cs : List Value) (ie : TypeInfo)
    (hu : P.underlying dT = some (.slice elem)) (hi : P.info? elem = some ie) (hg : w.heap[g]? = some (.cells cur t (0, 0))) (hn : cs.length = Nat.min sLen dLen * ie.size)
    (hsrc : ∀ j v, cs[j]? = some v → w.cell? (q.add j) = some v) (hfit : o + cs.length ≤ cur.size) (h1 : ∀ v ∈ cs, v.oneCell' = true) :
    (Builtin.copy_ #[dT, sT] ty #[.slice (some ⟨g, o, none⟩) dLen dCap, .slice (some q) sLen sCap]).run P w =
      .ok (goInt (Nat.min sLen dLen)) (w.setRow g (cur.toList.take o ++ cs ++ cur.toList.drop (o + cs.length)).toArray) := by
  have hl := run_loadCells_list (P := P) w q cs hsrc
  have hst := run_storeCells_at P g o t cs 0 cur w hg (by simpa using hfit) h1
  simp [Builtin.copy_, run_underlying hu, Builtin.lenOf, Builtin.firstCells, sizeOf, typeInfo, hi, ← hn, hl, hst]

theorem copyCase {x : AV} {k1 : Value → R} {k2 : Nat → Nat → Nat → Nat → R}
    (h : AV.rec (motive_1 := fun _ => (Value → R) → (Nat → Nat → Nat → Nat → R) → R) (motive_2 := fun _ => Unit)
      (fun v k _ => k v) (fun _ _ _ => none) (fun _ _ _ => none) (fun _ _ _ _ => none) (fun b off len sz _ k => k b off len sz) (fun _ _ _ _ => none) (fun _ _ _ _ => none) (fun _ _ _ _ _ => none) (fun _ _ => none) (fun _ _ _ => none) (fun _ _ _ _ => none) (fun _ _ _ => none) (fun _ _ _ _ => none) () (fun _ _ _ _ => ()) x k1 k2 = some y) :
    (∃ v, x = .raw v ∧ k1 v = some y) ∨ ∃ b off len sz, x = .sl b off len sz ∧ k2 b off len sz = some y := by
  cases x <;> first | exact no h | skip
  case raw v => exact .inl ⟨v, rfl, h⟩
  case sl b off len sz => exact .inr ⟨b, off, len, sz, rfl, h⟩

theorem copy_builtin (o : Oper) {c : Call} (ho : o.op = .call c) (hcb : c.callee = .builtin .copy) {x q : Operand} (hxy : c.args.toList = [x, q]) {t ty : TypeId} (htt : c.argTypes.toList = [t, ty]) {v : Value} {w' : World}
    (h : ∀ k, (Builtin.copy_ #[t, ty] k #[a.eval x, a.eval q]).run P w = .ok v w') : (execOp a.eval o).run P w = .ok (.value v) w' := by
  obtain ⟨cs0, hrun⟩ := run_call_builtin (a := a) o ho hcb w
  have hargs : c.args.map a.eval = #[a.eval x, a.eval q] := by apply Array.ext'; simp [hxy]
  have hty : c.argTypes = #[t, ty] := by apply Array.ext'; simp [htt]
  rw [hrun, hargs, hty]
  exact valued (h _)

theorem copy_does (hI : Inv ρ base F m w) (hA : Held ρ F (getG S sg fr es) a) (o : Oper) {c : Call} (ho : o.op = .call c) (hcb : c.callee = .builtin .copy) {x q : Operand} (hxy : c.args.toList = [x, q]) {t ty e : TypeId} (htt : c.argTypes.toList = [t, ty])
    (hu : P.underlying t = some (.slice e)) {ie : TypeInfo} (hie : P.info? e = some ie) (h : opCopy ie.size (getB S sg x) (getB S sg q) d kc ih fr es m = some y) : Does ρ P base F a w o d kc ih fr es m y := by
  obtain ⟨b, off, len, sz, hx, h⟩ := slR_some h
  rw [getB_at] at hx h
  obtain ⟨c1, h9⟩ := gdR_some h
  clear h
  obtain ⟨c0, h9⟩ := gdR_some h9
  obtain rfl : sz = ie.size := Nat.eq_of_beq_eq_true c1
  have c0' : len ≠ 0 ∨ off = 0 := by
    rw [te_eq] at c0
    split at c0
    · rename_i hl; exact .inl (Nat.pos_iff_ne_zero.1 (Nat.le_of_ble_eq_true hl))
    · exact .inr (Nat.eq_of_beq_eq_true c0)
  obtain ⟨g, cc, hF, hxv⟩ := hA.sl hx c0'
  rcases copyCase h9 with ⟨v, hv, h⟩ | ⟨b2, off2, n, sz2, hv, h⟩
  · obtain ⟨c2, h8⟩ := gdR_some h
    clear h
    have hq : a.eval q = v := hA.is ⟨by rw [hv]; simp, fun _ F => by rw [hv]; simp [den]⟩
    have hnil : ∃ cap, v = .slice none 0 cap := by
      unfold nilSl at c2
      split at c2
      · rename_i aa len' cap'
        cases aa with
        | none => exact ⟨cap', by rw [show len' = 0 from Nat.eq_of_beq_eq_true c2]⟩
        | some _ => cases c2
      · cases c2
    obtain ⟨cap, rfl⟩ := hnil
    refine .value (.nat 0) m F (.int .i64 (.ofNat 0)) w h8 (Ext.refl F) (by simp [den]) (copy_builtin o ho hcb hxy htt fun k => ?_) hI (Fares.refl _ _ _ _)
    rw [hxv, hq]
    simp [Builtin.copy_, run_underlying hu, Builtin.lenOf, Builtin.firstCells, sizeOf, typeInfo, hie, storeCells, goInt]
  · obtain ⟨c2, h8⟩ := gdR_some h
    clear h
    obtain rfl : sz2 = ie.size := Nat.eq_of_beq_eq_true c2
    have h := h8
    clear h8
    rw [strictR_eq] at h
    have hmin : te (Nat.ble n len) n len = Nat.min n len := by
      rw [te_eq]
      by_cases hnl : n ≤ len
      · rw [if_pos (Nat.ble_eq_true_of_le hnl)]
        exact (Nat.min_eq_left hnl).symm
      · rw [if_neg (fun hh => hnl (Nat.le_of_ble_eq_true hh))]
        exact (Nat.min_eq_right (by omega)).symm
    rw [hmin] at h
    obtain ⟨l, h, hn, hread⟩ := read_some h
    obtain ⟨g2, c2', vs, hF2, hvs, hone, hcell⟩ := hread base F w hI
    obtain ⟨g2', cc2, hF2', hyv⟩ := hA.slAny hv
    rw [hF2] at hF2'
    obtain ⟨rfl, rfl⟩ := Prod.mk.inj (Option.some.inj hF2')
    obtain ⟨m', h0, g', c', cur, e', hF', hbg, hh, hle, hone', hI', hfa⟩ := write_some hI hvs h
    rw [hF] at hF'
    obtain ⟨rfl, rfl⟩ := Prod.mk.inj (Option.some.inj hF')
    have hvl := dens_length hvs
    have hn' : vs.length = Nat.min n len * ie.size := hvl.trans hn
    refine .value _ m' F (.int .i64 (.ofNat (Nat.min n len))) _ h0 (Ext.refl F) (by simp [den]) (copy_builtin o ho hcb hxy htt fun k => ?_) hI' hfa
    rw [hxv, hyv]
    refine run_copy_sz w t ty k e g (cc.2 + off) len _ ⟨g2, c2'.2 + slOff off2 n _, none⟩ n _ cur e' vs ie hu hie hh hn' (fun j v hj => ?_) hle hone
    have hlt := (List.getElem?_eq_some_iff.1 hj).1
    by_cases hn0 : n = 0
    · rw [hn', hn0] at hlt
      simp at hlt
    · rw [slOff_pos hn0]
      exact hcell j v hj

theorem call_does (hA : Held ρ F (getG S sg fr es) a) (o : Oper) {c : Call} {f : Operand} (ho : o.op = .call c) (hc : c.callee = .value f) (h : opCall (getB S sg f) (c.args.toList.map (getB S sg)) d kc ih fr es m = some y) :
    Does ρ P base F a w o d kc ih fr es m y := by
  obtain ⟨g, cap, hf, h⟩ := fnR_some h
  rw [getB_at] at hf
  obtain ⟨hlt, h⟩ := gdR_some h
  obtain ⟨l, h, hl⟩ := argsR_some hA _ _ _ h
  have hv := hA.eval (x := f) (by rw [hf]; simp)
  rw [hf] at hv
  obtain ⟨vs, hvs, hfv⟩ := den_fn hlt hv
  refine .call g (l ++ cap) (c.args.toList.map a.eval ++ vs) h (dens_append hl hvs) ?_
  unfold execOp
  simp only [ho, resolve, hc, hfv, Deferred.ofValue, invoke]
  have e : c.args.map a.eval ++ vs.toArray = (c.args.toList.map a.eval ++ vs).toArray := by apply Array.ext'; simp
  simp only [Sem.run_bind, Sem.run_pure, Result.andThen_ok, Array.empty_append, e]

end Go.Proofs.YtplnnlnkcfappaaGreat.E3
