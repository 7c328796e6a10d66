/- The third evaluator: rows that are there at the start, to be read and written; what stands in them at the end. -/
import Derived.Test.YtplnnlnkcfappaaGreatQs
namespace Go.Proofs.YtplnnlnkcfappaaGreat.E3
open Go Go.RowKit
set_option linter.unusedSimpArgs false
set_option linter.unusedVariables false

variable {ρ : Syms} {P : Program}

noncomputable section
/-- one more row that is there at the start -/
def layW (m : Mem) (e : TypeId) (z : Nat) (l : List AV) (k : Mem → R) : R :=
  strictR (lenAV l) fun q => Cells.fit (.c1 a1u) q fun c => putAll l 0 c fun c => memR m fun H nx wr => strictR nx fun b => heapPut H b (some ⟨e, z, q, c⟩) fun H => strictR (Nat.succ b) fun nx => k ⟨H, nx, wr⟩
def layAll (rows : List (TypeId × Nat × List AV)) : Mem → (Mem → R) → R :=
  List.rec (motive := fun _ => Mem → (Mem → R) → R) (fun m k => k m) (fun r _ ih m k => layW m r.1 r.2.1 r.2.2 fun m => ih m k) rows
end

theorem layW_some {m : Mem} {e : TypeId} {z : Nat} {l : List AV} {k : Mem → R} {y : Out} (h : layW m e z l k = some y) {B : Nat} {F : Env} {w : World} (hI : Inv ρ B F m w) (hz : z ≠ mapZ)
    {g c o : Nat} {cs : Array Value} (hB : B ≤ g) (hg : w.heap[g]? = some (.cells cs e)) (hc : o + c ≤ cs.size) (hlc : l.length ≤ c) (hzk : ZOk z l.length (c, o)) (hmax : c / z ≤ maxLen) (hnew : ∀ b x, F b = some x → x.1 ≠ g)
    (hcell : ∀ i (hi : i < l.length), ∃ v, den ρ F l[i] = some v ∧ v.oneCell' = true ∧ cs[o + i]? = some v) :
    ∃ m', k m' = some y ∧ Inv ρ B (setF F m.nx (g, c, o)) m' w ∧ m'.nx = m.nx + 1 := by
  unfold layW at h
  rw [strictR_eq] at h
  obtain ⟨c1, h1, _, _, h⟩ := fit_some h
  rw [lenAV_eq] at h1
  obtain ⟨c2, hh, hcap, hone, _, hget, _⟩ := putAll_some l 0 c1 _ y h (by omega)
  clear h
  cases m with
  | mk H nx wr =>
  rw [memR_eq, strictR_eq] at hh
  obtain ⟨hb, hh⟩ := heapPut_some hh
  rw [strictR_eq, lenAV_eq] at hh
  have hwn : wr ≤ nx := hI.wrnx
  have hFn : F nx = none := hI.fresh nx (Nat.le_refl _)
  have hext := setF_ext (x := (g, c, o)) hFn
  refine ⟨_, hh, ⟨?_, ?_, ?_, hI.size, Nat.le_succ_of_le hwn⟩, rfl⟩
  · intro b' k' hk
    by_cases hb' : b' = nx
    · subst hb'
      rw [at_same hb] at hk
      obtain rfl := Option.some.inj hk
      refine ⟨g, (c, o), by simp [setF], fun _ => hB, fun hlt => absurd (show b' < wr from hlt) (Nat.not_lt.2 hwn), fun _ => ⟨cs, hg, hc, hlc, hzk, hmax, by rw [hcap]; exact h1, fun i hi => ?_⟩, fun e => absurd e hz⟩
      have := hget i hi
      rw [Nat.zero_add] at this
      rw [this]
      obtain ⟨v, a1, a2, a3⟩ := hcell i hi
      exact ⟨v, den_ext hext _ _ a1, a2, a3⟩
    · rw [at_other hb hb'] at hk
      obtain ⟨g', c', hF, h3, h4, h5⟩ := hI.live b' k' hk
      exact ⟨g', c', hext _ _ hF, h3, h4, h5.ext hext rfl⟩
  · intro b b' k1 k2 x x' hk hk' hw1 hw2 hx hx' hxx
    by_cases e1 : b = nx
    · by_cases e2 : b' = nx
      · rw [e1, e2]
      · exfalso
        have hx2 : F b' = some x' := by simpa [setF, e2] using hx'
        have hx1 : x = (g, c, o) := by rw [e1] at hx; simpa [setF] using hx.symm
        exact hnew b' x' hx2 (by rw [← hxx, hx1])
    · have hx1 : F b = some x := by simpa [setF, e1] using hx
      rw [at_other hb e1] at hk
      by_cases e2 : b' = nx
      · exfalso
        have hx2 : x' = (g, c, o) := by rw [e2] at hx'; simpa [setF] using hx'.symm
        exact hnew b x hx1 (by rw [hxx, hx2])
      · have hx2 : F b' = some x' := by simpa [setF, e2] using hx'
        rw [at_other hb e2] at hk'
        exact hI.apart b b' k1 k2 x x' hk hk' hw1 hw2 hx1 hx2 hxx
  · intro b hb1
    have hlt : nx < b := hb1
    unfold setF
    rw [if_neg (fun e' => Nat.ne_of_gt hlt e')]
    exact hI.fresh b (Nat.le_of_lt hlt)

/-- where rows lie -/
def envAll (F : Env) (n : Nat) : List (Nat × Nat × Nat) → Env
  | [] => F
  | x :: l => envAll (setF F n x) (n + 1) l
def RowsOk (ρ : Syms) (w : World) (B : Nat) (F : Env) (n : Nat) : List (TypeId × Nat × List AV) → List (Nat × Nat × Nat) → Prop
  | [], [] => True
  | r :: rs, x :: xs => (∃ cs, B ≤ x.1 ∧ w.heap[x.1]? = some (.cells cs r.1) ∧ x.2.2 + x.2.1 ≤ cs.size ∧ r.2.2.length ≤ x.2.1 ∧ ZOk r.2.1 r.2.2.length x.2 ∧ x.2.1 / r.2.1 ≤ maxLen ∧ r.2.1 ≠ mapZ ∧ (∀ b y, F b = some y → y.1 ≠ x.1) ∧
      ∃ vs, dens ρ F r.2.2 = some vs ∧ (∀ v ∈ vs, v.oneCell' = true) ∧ ∀ (j : Nat) (u : Value), vs[j]? = some u → cs[x.2.2 + j]? = some u) ∧ RowsOk ρ w B (setF F n x) (n + 1) rs xs
  | _, _ => False

theorem layAll_some {B : Nat} {w : World} {y : Out} {k : Mem → R} : ∀ (rows : List (TypeId × Nat × List AV)) (xs : List (Nat × Nat × Nat)) (F : Env) (m : Mem), layAll rows m k = some y → Inv ρ B F m w → RowsOk ρ w B F m.nx rows xs →
    ∃ m', k m' = some y ∧ Inv ρ B (envAll F m.nx xs) m' w
  | [], [], F, m, h, hI, _ => ⟨m, h, hI⟩
  | r :: rs, x :: xs, F, m, h, hI, hok => by
    obtain ⟨⟨cs, h0, h1, h2, h3, h4, h5, h6, h7, vs, h8, h9, h10⟩, hok⟩ := hok
    obtain ⟨m', h', hI', hnx⟩ := layW_some (show layW m r.1 r.2.1 r.2.2 (fun m => layAll rs m k) = some y from h) hI h6 h0 h1 h2 h3 h4 h5 h7 (fun i hi => by
      obtain ⟨v, a1, a2⟩ := dens_get h8 i hi
      exact ⟨v, a1, h9 v (List.mem_of_getElem? a2), h10 i v a2⟩)
    rw [← hnx] at hok
    obtain ⟨m2, h, hI2⟩ := layAll_some rs xs _ m' h' hI' hok
    rw [hnx] at hI2
    exact ⟨m2, h, hI2⟩
  | [], _ :: _, F, m, h, hI, hok => hok.elim
  | _ :: _, [], F, m, h, hI, hok => hok.elim

theorem RowW.lay {w : World} {v : Value} {e sz n : Nat} {vs : List Value} {g : Nat} (h : RowW w v e sz n vs g) : ∃ o cap, v = .slice (some ⟨g, o, none⟩) n cap ∧ ∀ (F : Env) (k : Nat) (l : List AV), (∀ b y, F b = some y → y.1 ≠ g) → dens ρ F l = some vs → (∀ u ∈ vs, u.oneCell' = true) → l.length = n * sz → 1 ≤ sz → sz ≠ mapZ →
    ∀ B rs xs, B ≤ g → RowsOk ρ w B (setF F k (g, cap * sz, o)) (k + 1) rs xs → RowsOk ρ w B F k ((e, sz, l) :: rs) ((g, cap * sz, o) :: xs) := by
  obtain ⟨o, cap, cs, rfl, h1, h2, h3, h4, h5⟩ := h
  refine ⟨o, cap, rfl, fun F k l hn hd ho hl hs hz B rs xs hB hr => ⟨⟨cs, hB, h1, h2, ?_, ⟨fun h0 => absurd (show sz = 0 from h0) (by omega), fun _ => Nat.mul_mod_left _ _⟩, ?_, hz, hn, vs, hd, ho, h5⟩, hr⟩⟩
  · show l.length ≤ cap * sz
    rw [hl]
    exact Nat.mul_le_mul_right _ h3
  · show cap * sz / sz ≤ maxLen
    rw [Nat.mul_div_cancel _ hs]
    exact h4
/-- a variable of several cells: the first cells are these -/
def VarW (w : World) (g : Nat) (e : TypeId) (vs : List Value) : Prop := ∃ cs, w.heap[g]? = some (.cells cs e) ∧ ∀ (j : Nat) (u : Value), vs[j]? = some u → cs[j]? = some u
theorem VarW.cell {w : World} {g : Nat} {e : TypeId} {vs : List Value} (h : VarW w g e vs) (j : Nat) {u : Value} (hj : vs[j]? = some u) : w.cell? ⟨g, j, none⟩ = some u := by
  obtain ⟨cs, h1, h2⟩ := h
  simp only [World.cell?, h1]
  simpa using h2 j u hj
theorem VarW.keep {w w' : World} {g : Nat} {e : TypeId} {vs : List Value} (h : VarW w g e vs) (hw : w'.heap[g]? = w.heap[g]?) : VarW w' g e vs := by
  obtain ⟨cs, h1, h2⟩ := h
  exact ⟨cs, hw.trans h1, h2⟩
theorem RowW.keep {w w' : World} {v : Value} {e sz n : Nat} {vs : List Value} {g : Nat} (h : RowW w v e sz n vs g) (hw : w'.heap[g]? = w.heap[g]?) : RowW w' v e sz n vs g := by
  obtain ⟨o, cap, cs, h1, h2, h3⟩ := h
  exact ⟨o, cap, cs, h1, hw.trans h2, h3⟩
theorem VarW.lt {w : World} {g : Nat} {e : TypeId} {vs : List Value} (h : VarW w g e vs) : g < w.heap.size := by
  obtain ⟨cs, h1, _⟩ := h
  exact (Array.getElem?_eq_some_iff.1 h1).1
theorem RowW.lt {w : World} {v : Value} {e sz n : Nat} {vs : List Value} {g : Nat} (h : RowW w v e sz n vs g) : g < w.heap.size := by
  obtain ⟨o, cap, cs, _, h1, _⟩ := h
  exact (Array.getElem?_eq_some_iff.1 h1).1
theorem RowsOk.var {w : World} {g : Nat} {e : TypeId} {vs : List Value} (h : VarW w g e vs) {F : Env} {k : Nat} {l : List AV} (hn : ∀ b y, F b = some y → y.1 ≠ g) (hd : dens ρ F l = some vs) (ho : ∀ u ∈ vs, u.oneCell' = true) {q : Nat} (hq : l.length = q)
    {B : Nat} (hB : B ≤ g) {rs : List (TypeId × Nat × List AV)} {xs : List (Nat × Nat × Nat)} (hr : RowsOk ρ w B (setF F k (g, q, 0)) (k + 1) rs xs) : RowsOk ρ w B F k ((e, 0, l) :: rs) ((g, q, 0) :: xs) := by
  subst hq
  obtain ⟨cs, h1, h2⟩ := h
  refine ⟨⟨cs, hB, h1, ?_, Nat.le_refl _, ⟨fun _ => ⟨rfl, rfl⟩, fun h0 => absurd rfl h0⟩, ?_, (by show (0 : Nat) ≠ mapZ; decide), hn, vs, hd, ho, fun j u hj => by simpa using h2 j u hj⟩, hr⟩
  · show 0 + l.length ≤ cs.size
    have hl := dens_length hd
    rw [Nat.zero_add, ← hl]
    rcases Nat.eq_zero_or_pos vs.length with h0 | h0
    · rw [h0]; exact Nat.zero_le _
    · have h3 := h2 (vs.length - 1) _ (List.getElem?_eq_getElem (by omega))
      have := (Array.getElem?_eq_some_iff.1 h3).1
      omega
  · show l.length / 0 ≤ maxLen
    rw [Nat.div_zero]
    exact Nat.zero_le _
/-- a variable's first cells -/
noncomputable def chkV (m : Mem) (b e n : Nat) (k : List AV → R) : R := blkR (m.at b) fun e' _ _ _ => gdR (Nat.beq e' e) (m.read b 0 n k)
theorem chkV_some {m : Mem} {b e n : Nat} {k : List AV → R} {y : Out} (h : chkV m b e n k = some y) : ∃ l, k l = some y ∧ l.length = n ∧ ∀ (base : Nat) (F : Env) (w : World), Inv ρ base F m w →
    ∃ g c vs, F b = some (g, c) ∧ dens ρ F l = some vs ∧ (c.2 = 0 → VarW w g e vs) := by
  obtain ⟨e', z', q', cc, hk, hkz, k6⟩ := blkR_some h
  obtain ⟨h5, k7⟩ := gdR_some k6
  obtain rfl : e' = e := Nat.eq_of_beq_eq_true h5
  obtain ⟨l, h1, h2, hread⟩ := read_some (ρ := ρ) k7
  refine ⟨l, h1, h2, fun base F w hI => ?_⟩
  obtain ⟨g, c, vs, hF, hvs, _, hcell⟩ := hread base F w hI
  obtain ⟨g2, c2, hF2, _, _, cs, hh, hcs, _⟩ := hI.row b _ hk hkz
  rw [hF] at hF2
  obtain ⟨rfl, rfl⟩ := Prod.mk.inj (Option.some.inj hF2)
  refine ⟨g, c, vs, hF, hvs, fun h0 => ⟨cs, hh, fun j u hj => ?_⟩⟩
  have := hcell j u hj
  rw [add_eq, h0] at this
  simp only [World.cell?, hh] at this
  simpa using this

/-- a variable that lies in a block of its own -/
noncomputable def chkN (m : Mem) (b e n : Nat) (k : List AV → R) : R := blkR (m.at b) fun e' z' _ _ => gdR (Nat.beq e' e) (gdR (Nat.beq z' 0) (gdR (Nat.ble m.wr b) (m.read b 0 n k)))
theorem chkN_some {m : Mem} {b e n : Nat} {k : List AV → R} {y : Out} (h : chkN m b e n k = some y) : ∃ l, k l = some y ∧ l.length = n ∧ ∀ (B : Nat) (F : Env) (w : World), Inv ρ B F m w →
    ∃ g q vs, F b = some (g, q, 0) ∧ B ≤ g ∧ dens ρ F l = some vs ∧ VarW w g e vs := by
  obtain ⟨e', z', q', cc, hk, hkz, k6⟩ := blkR_some h
  obtain ⟨h5, k7⟩ := gdR_some k6
  obtain ⟨h6, k8⟩ := gdR_some k7
  obtain ⟨h7, k9⟩ := gdR_some k8
  obtain rfl : e' = e := Nat.eq_of_beq_eq_true h5
  obtain rfl : z' = 0 := Nat.eq_of_beq_eq_true h6
  have hwr : m.wr ≤ b := Nat.le_of_ble_eq_true h7
  obtain ⟨l, h1, h2, hread⟩ := read_some (ρ := ρ) k9
  refine ⟨l, h1, h2, fun B F w hI => ?_⟩
  obtain ⟨g, c, vs, hF, hvs, _, hcell⟩ := hread B F w hI
  obtain ⟨g2, c2, hF2, hB, _, cs, hh, hcs, _, hz, _⟩ := hI.row b _ hk hkz
  rw [hF] at hF2
  obtain ⟨rfl, rfl⟩ := Prod.mk.inj (Option.some.inj hF2)
  have h0 : c.2 = 0 := (hz.1 rfl).2
  refine ⟨g, c.1, vs, by rw [hF, ← h0], hB hwr, hvs, cs, hh, fun j u hj => ?_⟩
  have := hcell j u hj
  rw [add_eq, h0] at this
  simp only [World.cell?, hh] at this
  simpa using this

/-! ### Rows that are only read: they lie below B -/
noncomputable def layRO (rows : List (TypeId × Nat × List AV)) : Mem → (Mem → R) → R :=
  List.rec (motive := fun _ => Mem → (Mem → R) → R) (fun m k => k m) (fun r _ ih m k => layOne m r.1 r.2.1 r.2.2 fun m => ih m k) rows
theorem layOne_some {m : Mem} {e : TypeId} {z : Nat} {l : List AV} {k : Mem → R} {y : Out} (h : layOne m e z l k = some y) {B : Nat} {F : Env} {w : World} (hI : Inv ρ B F m w) (hro : m.wr = m.nx) (hz : z ≠ mapZ)
    {g c o : Nat} {cs : Array Value} (hB : g < B) (hg : w.heap[g]? = some (.cells cs e)) (hc : o + c ≤ cs.size) (hlc : l.length ≤ c) (hzk : ZOk z l.length (c, o)) (hmax : c / z ≤ maxLen)
    (hcell : ∀ i (hi : i < l.length), ∃ v, den ρ F l[i] = some v ∧ v.oneCell' = true ∧ cs[o + i]? = some v) :
    ∃ m', k m' = some y ∧ Inv ρ B (setF F m.nx (g, c, o)) m' w ∧ m'.wr = m'.nx ∧ m'.nx = m.nx + 1 := by
  unfold layOne at h
  rw [strictR_eq] at h
  obtain ⟨c1, h1, _, _, h⟩ := fit_some h
  rw [lenAV_eq] at h1
  obtain ⟨c2, hh, hcap, hone, _, hget, _⟩ := putAll_some l 0 c1 _ y h (by omega)
  clear h
  cases m with
  | mk H nx wr =>
  rw [memR_eq, strictR_eq] at hh
  obtain ⟨hb, hh⟩ := heapPut_some hh
  rw [strictR_eq, lenAV_eq] at hh
  have hro' : nx = wr := Eq.symm hro
  subst hro'
  have hFn : F nx = none := hI.fresh nx (Nat.le_refl _)
  have hext := setF_ext (x := (g, c, o)) hFn
  refine ⟨_, hh, ⟨?_, ?_, ?_, hI.size, Nat.le_refl _⟩, rfl, rfl⟩
  · intro b' k' hk
    by_cases hb' : b' = nx
    · subst hb'
      rw [at_same hb] at hk
      obtain rfl := Option.some.inj hk
      refine ⟨g, (c, o), by simp [setF], fun hle => absurd hle (Nat.not_succ_le_self _), fun _ => hB, fun _ => ⟨cs, hg, hc, hlc, hzk, hmax, by rw [hcap]; exact h1, fun i hi => ?_⟩, fun e => absurd e hz⟩
      have := hget i hi
      rw [Nat.zero_add] at this
      rw [this]
      obtain ⟨v, a1, a2, a3⟩ := hcell i hi
      exact ⟨v, den_ext hext _ _ a1, a2, a3⟩
    · rw [at_other hb hb'] at hk
      obtain ⟨g', c', hF, h3, h4, h5⟩ := hI.live b' k' hk
      have hlt : b' < nx := by
        rcases Nat.lt_or_ge b' nx with hq | hq
        · exact hq
        · rw [hI.fresh b' hq] at hF; cases hF
      exact ⟨g', c', hext _ _ hF, fun hle => absurd (Nat.lt_of_lt_of_le hlt (Nat.le_succ nx)) (Nat.not_lt.2 hle), fun _ => h4 hlt, h5.ext hext rfl⟩
  · intro b b' k1 k2 x x' hk _ hb1 _ hx _ _
    have hlt : nx < b := hb1
    rw [at_other hb (by omega)] at hk
    obtain ⟨g', c', hF, _⟩ := hI.live b k1 hk
    rw [hI.fresh b (Nat.le_of_lt hlt)] at hF
    cases hF
  · intro b hb1
    have hlt : nx < b := hb1
    unfold setF
    rw [if_neg (fun e' => Nat.ne_of_gt hlt e')]
    exact hI.fresh b (Nat.le_of_lt hlt)
def RosOk (ρ : Syms) (w : World) (B : Nat) (F : Env) (n : Nat) : List (TypeId × Nat × List AV) → List (Nat × Nat × Nat) → Prop
  | [], [] => True
  | r :: rs, x :: xs => (∃ cs, x.1 < B ∧ w.heap[x.1]? = some (.cells cs r.1) ∧ x.2.2 + x.2.1 ≤ cs.size ∧ r.2.2.length ≤ x.2.1 ∧ ZOk r.2.1 r.2.2.length x.2 ∧ x.2.1 / r.2.1 ≤ maxLen ∧ r.2.1 ≠ mapZ ∧
      ∃ vs, dens ρ F r.2.2 = some vs ∧ (∀ v ∈ vs, v.oneCell' = true) ∧ ∀ (j : Nat) (u : Value), vs[j]? = some u → cs[x.2.2 + j]? = some u) ∧ RosOk ρ w B (setF F n x) (n + 1) rs xs
  | _, _ => False
theorem layRO_some {B : Nat} {w : World} {y : Out} {k : Mem → R} : ∀ (rows : List (TypeId × Nat × List AV)) (xs : List (Nat × Nat × Nat)) (F : Env) (m : Mem), layRO rows m k = some y → Inv ρ B F m w → m.wr = m.nx → RosOk ρ w B F m.nx rows xs →
    ∃ m', k m' = some y ∧ Inv ρ B (envAll F m.nx xs) m' w ∧ m'.nx = m.nx + xs.length
  | [], [], F, m, h, hI, _, _ => ⟨m, h, hI, rfl⟩
  | r :: rs, x :: xs, F, m, h, hI, hwr, hok => by
    obtain ⟨⟨cs, h0, h1, h2, h3, h4, h5, h6, vs, h8, h9, h10⟩, hok⟩ := hok
    obtain ⟨m', h', hI', hwr', hnx⟩ := layOne_some (show layOne m r.1 r.2.1 r.2.2 (fun m => layRO rs m k) = some y from h) hI hwr h6 h0 h1 h2 h3 h4 h5 (fun i hi => by
      obtain ⟨v, a1, a2⟩ := dens_get h8 i hi
      exact ⟨v, a1, h9 v (List.mem_of_getElem? a2), h10 i v a2⟩)
    rw [← hnx] at hok
    obtain ⟨m2, h, hI2, hn2⟩ := layRO_some rs xs _ m' h' hI' hwr' hok
    rw [hnx] at hI2 hn2
    exact ⟨m2, h, hI2, by rw [hn2, List.length_cons]; omega⟩
  | [], _ :: _, F, m, h, hI, _, hok => hok.elim
  | _ :: _, [], F, m, h, hI, _, hok => hok.elim
/-- a slice's row that is only read -/
theorem RowW.ro {w : World} {v : Value} {e sz n : Nat} {vs : List Value} {g : Nat} (h : RowW w v e sz n vs g) : ∃ o cap, v = .slice (some ⟨g, o, none⟩) n cap ∧ ∀ (F : Env) (k : Nat) (l : List AV) (B : Nat), g < B → dens ρ F l = some vs → (∀ u ∈ vs, u.oneCell' = true) → l.length = n * sz → 1 ≤ sz → sz ≠ mapZ →
    ∀ rs xs, RosOk ρ w B (setF F k (g, cap * sz, o)) (k + 1) rs xs → RosOk ρ w B F k ((e, sz, l) :: rs) ((g, cap * sz, o) :: xs) := by
  obtain ⟨o, cap, cs, rfl, h1, h2, h3, h4, h5⟩ := h
  refine ⟨o, cap, rfl, fun F k l B hB hd ho hl hs hz rs xs hr => ⟨⟨cs, hB, h1, h2, ?_, ⟨fun h0 => absurd (show sz = 0 from h0) (by omega), fun _ => Nat.mul_mod_left _ _⟩, ?_, hz, vs, hd, ho, h5⟩, hr⟩⟩
  · show l.length ≤ cap * sz
    rw [hl]
    exact Nat.mul_le_mul_right _ h3
  · show cap * sz / sz ≤ maxLen
    rw [Nat.mul_div_cancel _ hs]
    exact h4

theorem envAll_mem : ∀ (xs : List (Nat × Nat × Nat)) (F : Env) (n : Nat) (b : Nat) (x : Nat × Nat × Nat), envAll F n xs b = some x → F b = some x ∨ x ∈ xs
  | [], F, n, b, x, h => .inl h
  | y :: xs, F, n, b, x, h => by
    rcases envAll_mem xs _ _ b x h with h | h
    · unfold setF at h
      split at h
      · exact .inr (by rw [Option.some.inj h]; exact List.mem_cons_self ..)
      · exact .inl h
    · exact .inr (List.mem_cons_of_mem _ h)

/-- cells that are not known, by number -/
noncomputable def symRow (s n : Nat) : List AV := Nat.rec (motive := fun _ => Nat → List AV) (fun _ => []) (fun _ ih s => .sym s :: ih (Nat.succ s)) n s
/-- the unknown values are these -/
def symsV (vs : List Value) : Syms where
  val k := match vs[k]? with | some v => if v.oneCell' then v else .int .i64 0 | none => .int .i64 0
  one k := by
    split
    · split
      · assumption
      · rfl
    · rfl
theorem symsV_den {vs : List Value} {k : Nat} {v : Value} (h : vs[k]? = some v) (h1 : v.oneCell' = true) (F : Env) : den (symsV vs) F (.sym k) = some v := by
  simp [den, symsV, h, h1]
theorem symRow_dens {vs : List Value} (F : Env) : ∀ (us : List Value) (s : Nat), (∀ (j : Nat) (u : Value), us[j]? = some u → vs[s + j]? = some u) → (∀ u ∈ us, u.oneCell' = true) → dens (symsV vs) F (symRow s us.length) = some us
  | [], s, _, _ => dens_nil F
  | u :: us, s, h, h1 => by
    show dens (symsV vs) F (.sym s :: symRow (Nat.succ s) us.length) = some (u :: us)
    refine dens_cons_mk (symsV_den (h 0 u rfl) (h1 u (List.mem_cons_self ..)) F) (symRow_dens F us (s + 1) (fun j v hj => ?_) (fun v hv => h1 v (List.mem_cons_of_mem _ hv)))
    rw [show s + 1 + j = s + (j + 1) by omega]
    exact h (j + 1) v hj

/-- A CALL ON ROWS THAT ARE THERE (some only read): what comes of it -/
theorem run_rows {oc : Orc} {kn : Known} (hmix : P.follows .mixedOrders = true) (hpl : Plainly P) (hoc : OrcOk ρ P oc) {sk : Nat → Modes} (hlex : LexOk P sk) (hkn : KnownOk ρ P kn) {f : FuncId} (hf : ∃ fn, P.funcs[f]? = some fn ∧ fn.body.isSome = true)
    {args : List AV} {ros rows : List (TypeId × Nat × List AV)} {xr xs : List (Nat × Nat × Nat)} {chk : AV → Mem → R} {B : Nat} {w : World} {vs : List Value} (hB : B ≤ w.heap.size)
    (h : isTrue (layRO ros mem0 fun m => layAll rows m fun m => callR (rec P oc sk kn 200 f args m) chk) = true) (hros : RosOk ρ w B (fun _ => none) 0 ros xr) (hrows : RowsOk ρ w B (envAll (fun _ => none) 0 xr) xr.length rows xs)
    (hargs : dens ρ (envAll (envAll (fun _ => none) 0 xr) xr.length xs) args = some vs) :
    Calls P f vs.toArray w fun e w' => ∃ v x m' F', e = .returned v ∧ (∃ m2, chk x m' = some (.call (.bool true) m2)) ∧ den ρ F' x = some v ∧ Ext (envAll (envAll (fun _ => none) 0 xr) xr.length xs) F' ∧ Inv ρ B F' m' w' ∧ Below B w w' ∧
      ∀ g, g < w.heap.size → (∀ x ∈ xr ++ xs, x.1 ≠ g) → w'.heap[g]? = w.heap[g]? ∧ Away F' m' g := by
  obtain ⟨m2, h⟩ := isTrue_some h
  have hI0 : Inv ρ B (fun _ => none) mem0 w := ⟨fun b k h => by rw [at_u] at h; (cases h), fun b b' k k' x x' h => by rw [at_u] at h; (cases h), fun _ _ => rfl, hB, Nat.le_refl _⟩
  obtain ⟨m0, h, hI0, hnx⟩ := layRO_some ros xr (fun _ => none) mem0 h hI0 rfl hros
  have hnx' : m0.nx = xr.length := by rw [hnx]; exact Nat.zero_add _
  have hI0' : Inv ρ B (envAll (fun _ => none) 0 xr) m0 w := hI0
  rw [← hnx'] at hrows hargs
  obtain ⟨m', h, hI⟩ := layAll_some rows xs _ m0 h hI0' hrows
  obtain ⟨x, m1, h1, h2⟩ := callR_some h
  rcases rec_ok hmix hpl hoc hlex hkn 200 f args m' _ _ h1 B _ w vs hI hargs with ⟨_, hc⟩ | ⟨u, hr, _⟩
  case inr =>
    rw [callFunc_run hpl hf] at hr
    cases hr
  refine hc.mono fun e w' hh => ?_
  obtain ⟨v, rfl, F', hext, hv, hI', hfa⟩ := hh
  refine ⟨v, x, m1, F', rfl, ⟨_, h2⟩, hv, by rw [← hnx']; exact hext, hI', hfa.below, fun g hg hxs => ?_⟩
  obtain ⟨a1, a2⟩ := hfa.kept g hg (fun b k y hk hy => by
    rcases envAll_mem xs _ _ b y hy with h | h
    · rcases envAll_mem xr _ _ b y h with h | h
      · cases h
      · exact hxs y (List.mem_append_left _ h)
    · exact hxs y (List.mem_append_right _ h))
  exact ⟨a2, a1⟩

end Go.Proofs.YtplnnlnkcfappaaGreat.E3
