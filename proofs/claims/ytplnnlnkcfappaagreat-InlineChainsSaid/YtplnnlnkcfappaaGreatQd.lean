/- The second evaluator tells the truth, part 2: making and writing blocks. -/
import Derived.Test.YtplnnlnkcfappaaGreatQc
namespace Go.Proofs.YtplnnlnkcfappaaGreat.E3
open Go Go.RowKit
set_option linter.unusedSimpArgs false
set_option linter.unusedVariables false

variable {ρ : Syms}

def addEnv (F : Env) (n : Nat) (x : Nat × Nat × Nat) : Env := fun b => if b = n then some x else F b

theorem addEnv_same (F : Env) (n : Nat) (x : Nat × Nat × Nat) : addEnv F n x n = some x := by simp [addEnv]
theorem addEnv_ext {F : Env} {n : Nat} {x : Nat × Nat × Nat} (h : F n = none) : Ext F (addEnv F n x) := by
  intro b y hy
  have : b ≠ n := fun e => by rw [e, h] at hy; cases hy
  simp [addEnv, this, hy]

theorem dens_get {F : Env} : ∀ {l : List AV} {vs : List Value}, dens ρ F l = some vs → ∀ i (h : i < l.length), ∃ v, den ρ F l[i] = some v ∧ vs[i]? = some v
  | x :: l, vs, hd, i, h => by
    obtain ⟨v, us, hx, hl, rfl⟩ := dens_cons hd
    cases i with
    | zero => exact ⟨v, hx, rfl⟩
    | succ i =>
      obtain ⟨u, h1, h2⟩ := dens_get hl i (by simpa using h)
      exact ⟨u, h1, by simpa using h2⟩

/-- one block more, wherever it lies -/
theorem Inv.put {base : Nat} {F : Env} {H : B5} {nx wr : Nat} {w : World} (hI : Inv ρ base F ⟨H, nx, wr⟩ w) {k : Blk} {gn : Nat} {c : Nat × Nat} {H' : B5} {w' : World} (hnew : (⟨H', nx + 1, wr⟩ : Mem).at nx = some k)
    (hold : ∀ b k', b ≠ nx → (⟨H', nx + 1, wr⟩ : Mem).at b = some k' → (⟨H, nx, wr⟩ : Mem).at b = some k') (hblk : BlkOk ρ (addEnv F nx (gn, c)) k gn c w') (hbase : base ≤ gn)
    (hsep : ∀ b k' g' c', b ≠ nx → (⟨H', nx + 1, wr⟩ : Mem).at b = some k' → F b = some (g', c') → g' ≠ gn ∧ w'.heap[g']? = w.heap[g']?) (hsz : w.heap.size ≤ w'.heap.size) :
    Inv ρ base (addEnv F nx (gn, c)) ⟨H', nx + 1, wr⟩ w' := by
  have hfr := hI.fresh nx (Nat.le_refl _)
  have hext : Ext F (addEnv F nx (gn, c)) := addEnv_ext hfr
  have hwn : wr ≤ nx := hI.wrnx
  constructor
  · intro b k' hk
    by_cases hb : b = nx
    · subst hb
      rw [hnew] at hk
      obtain rfl := Option.some.inj hk
      exact ⟨gn, c, addEnv_same _ _ _, fun _ => hbase, fun hlt => by have hlt' : b < wr := hlt; omega, hblk⟩
    · obtain ⟨g', c', h1, h2, h3, h4⟩ := hI.live b k' (hold b k' hb hk)
      exact ⟨g', c', hext _ _ h1, h2, h3, h4.ext hext (hsep b k' g' c' hb hk h1).2⟩
  · intro b b' k1 k2 x x' hk hk' hb hb' hx hx' hxx
    by_cases e1 : b = nx
    · by_cases e2 : b' = nx
      · rw [e1, e2]
      · exfalso
        obtain ⟨g', c', h1, _⟩ := hI.live b' k2 (hold b' k2 e2 hk')
        rw [e1, addEnv_same] at hx
        rw [hext _ _ h1] at hx'
        rw [← Option.some.inj hx, ← Option.some.inj hx'] at hxx
        exact (hsep b' k2 g' c' e2 hk' h1).1 hxx.symm
    · obtain ⟨g', c', h1, _⟩ := hI.live b k1 (hold b k1 e1 hk)
      by_cases e2 : b' = nx
      · exfalso
        rw [e2, addEnv_same] at hx'
        rw [hext _ _ h1] at hx
        rw [← Option.some.inj hx, ← Option.some.inj hx'] at hxx
        exact (hsep b k1 g' c' e1 hk h1).1 hxx
      · obtain ⟨g2, c2, h2, _⟩ := hI.live b' k2 (hold b' k2 e2 hk')
        rw [hext _ _ h1] at hx
        rw [hext _ _ h2] at hx'
        exact hI.apart b b' k1 k2 (g', c') (g2, c2) (hold b k1 e1 hk) (hold b' k2 e2 hk') hb hb' h1 h2 (by rw [Option.some.inj hx, Option.some.inj hx']; exact hxx)
  · intro b hb
    have hb' : nx + 1 ≤ b := hb
    have hne : b ≠ nx := by omega
    simp [addEnv, hne, hI.fresh b (show nx ≤ b by omega)]
  · exact Nat.le_trans hI.size hsz
  · show wr ≤ nx + 1
    omega

theorem Fares.put {base : Nat} {F : Env} {H : B5} {nx wr : Nat} {w : World} {gn : Nat} {c : Nat × Nat} {H' : B5} {w' : World} (hb : Below base w w')
    (hold : ∀ b k', b ≠ nx → (⟨H', nx + 1, wr⟩ : Mem).at b = some k' → ∃ k0, (⟨H, nx, wr⟩ : Mem).at b = some k0)
    (hgn : w.heap.size ≤ gn ∨ ∃ b0 k0 x0, (⟨H, nx, wr⟩ : Mem).at b0 = some k0 ∧ F b0 = some x0 ∧ x0.1 = gn) (hheap : ∀ g, g < w.heap.size → g ≠ gn → w'.heap[g]? = w.heap[g]?) :
    Fares base F ⟨H, nx, wr⟩ w (addEnv F nx (gn, c)) ⟨H', nx + 1, wr⟩ w' := by
  refine ⟨hb, fun g hg ha => ?_⟩
  have hne : gn ≠ g := by
    rcases hgn with h | ⟨b0, k0, x0, h1, h2, h3⟩
    · omega
    · rw [← h3]; exact ha b0 k0 x0 h1 h2
  refine ⟨fun b k' x hk hx => ?_, hheap g hg hne.symm⟩
  by_cases hbn : b = nx
  · rw [hbn, addEnv_same] at hx
    rw [← Option.some.inj hx]
    exact hne
  · obtain ⟨k0, h0⟩ := hold b k' hbn hk
    simp only [addEnv, if_neg hbn] at hx
    exact ha b k0 x h0 hx

theorem Fares.write {base : Nat} {F : Env} {m m' : Mem} {w w' : World} (hb : Below base w w') (hold : ∀ b k', m'.at b = some k' → ∃ k0, m.at b = some k0) {b : Nat} {k : Blk} {x : Nat × Nat × Nat} (h1 : m.at b = some k) (h2 : F b = some x)
    (hheap : ∀ g, g ≠ x.1 → w'.heap[g]? = w.heap[g]?) : Fares base F m w F m' w' :=
  ⟨hb, fun g _ ha => ⟨fun b' k' x' hk' hx' => (by
    obtain ⟨k0, h0⟩ := hold b' k' hk'
    exact ha b' k0 x' h0 hx'), hheap g (ha b k x h1 h2).symm⟩⟩

/-- a new row whose first cells are known -/
theorem BlkOk.row {F' : Env} {e : TypeId} {z : Nat} {t : Cells} {l : List AV} {vs : List Value} {cs : Array Value} {g : Nat} {c : Nat × Nat} {w' : World} (hd : dens ρ F' l = some vs)
    (ht : ∀ j (h : j < l.length), t.get j = l[j]) (h1 : ∀ v ∈ vs, v.oneCell' = true) (hh : w'.heap[g]? = some (.cells cs e)) (hpre : ∀ (j : Nat) (v : Value), vs[j]? = some v → cs[c.2 + j]? = some v) (hc : c.2 + c.1 ≤ cs.size) (hle : l.length ≤ c.1)
    (hmod : ZOk z l.length c) (hz : z ≠ mapZ) (hmax : c.1 / z ≤ maxLen) (hcap : l.length ≤ t.cap) (q : Nat) (hq : q = l.length) : BlkOk ρ F' ⟨e, z, q, t⟩ g c w' := by
  subst hq
  refine ⟨fun _ => ?_, fun h0 => absurd h0 hz⟩
  refine ⟨cs, hh, hc, hle, hmod, hmax, hcap, fun i hi => ?_⟩
  obtain ⟨v, a1, a2⟩ := dens_get hd i hi
  refine ⟨v, ?_, h1 v (List.mem_of_getElem? a2), hpre i v a2⟩
  rw [show (⟨e, z, l.length, t⟩ : Blk).c.get i = l[i] from ht i hi]
  exact a1

/-- a new block -/
theorem zOk_some {z q : Nat} (h : te (Nat.beq z 0) true (te (Nat.beq z mapZ) false (Nat.beq (Nat.mod q z) 0)) = true) : ZOk z q (q, 0) ∧ z ≠ mapZ := by
  rw [te_eq, te_eq] at h
  by_cases h0 : Nat.beq z 0 = true
  · have h0' : z = 0 := Nat.eq_of_beq_eq_true h0
    exact ⟨⟨fun _ => ⟨rfl, rfl⟩, fun hne => absurd h0' hne⟩, by rw [h0']; decide⟩
  · rw [if_neg h0] at h
    by_cases h1 : Nat.beq z mapZ = true
    · rw [if_pos h1] at h; cases h
    · rw [if_neg h1] at h
      exact ⟨⟨fun _ => ⟨rfl, rfl⟩, fun _ => Nat.eq_of_beq_eq_true h⟩, fun e => h1 (by rw [e]; rfl)⟩

theorem new_some {base : Nat} {F : Env} {m : Mem} {w : World} (h : Inv ρ base F m w) {e : TypeId} {z : Nat} {l : List AV} {vs : List Value} {k : Nat → Mem → R} {y : Out}
    (hd : dens ρ F l = some vs) (hr : m.new e z l k = some y) :
    ∃ b m' F', k b m' = some y ∧ Ext F F' ∧ F' b = some (w.heap.size, l.length, 0) ∧ Inv ρ base F' m' (w.alloc (.cells vs.toArray e)) ∧ ZOk z l.length (l.length, 0) ∧ l.length ≤ 4096 ∧ Fares base F m w F' m' (w.alloc (.cells vs.toArray e)) := by
  cases m with | mk H nx wr =>
  unfold Mem.new at hr
  rw [strictR_eq, lenAV_eq] at hr
  obtain ⟨hlen, hr⟩ := gdR_some hr
  obtain ⟨hz, hr⟩ := gdR_some hr
  obtain ⟨c0, hcap, _, _, hr⟩ := fit_some hr
  obtain ⟨c, hr, p1, p2, _, p4, _⟩ := putAll_some _ _ _ _ _ hr (by omega)
  rw [memR_eq, strictR_eq] at hr
  obtain ⟨hlt, hr⟩ := heapPut_some hr
  rw [strictR_eq] at hr
  have hlen' : l.length ≤ 4096 := Nat.le_of_ble_eq_true hlen
  obtain ⟨hz', hzm⟩ := zOk_some hz
  have hvl := dens_length hd
  have hone : ∀ v ∈ vs, v.oneCell' = true := by
    intro v hv
    obtain ⟨i, hi, rfl⟩ := List.mem_iff_getElem.1 hv
    obtain ⟨u, h1, h2⟩ := dens_get hd i (by omega)
    rw [List.getElem?_eq_getElem hi] at h2
    obtain rfl := Option.some.inj h2
    exact one_den h1 (p2 _ (List.getElem_mem _))
  have hext : Ext F (addEnv F nx (w.heap.size, l.length, 0)) := addEnv_ext (h.fresh nx (Nat.le_refl _))
  refine ⟨nx, _, addEnv F nx (w.heap.size, l.length, 0), hr, hext, addEnv_same _ _ _, ?_, hz', hlen', Fares.put ((Below.refl base w).alloc h.size _) (fun b k' hb hk' => ⟨k', by rw [← hk']; exact (at_other hlt hb).symm⟩) (.inl (Nat.le_refl _)) (fun g hg _ => heap_alloc_old w _ hg)⟩
  have hsz : vs.toArray.size = l.length := by simpa using hvl
  refine h.put (at_same hlt) (fun b k' hb hk' => by rw [← hk']; exact (at_other hlt hb).symm) ?_ h.size ?_ (by simp)
  · exact BlkOk.row (z := z) (t := c) (dens_ext hext _ _ hd) (fun j hj => by have := p4 j hj; rwa [Nat.zero_add] at this) hone (heap_alloc_new w (.cells vs.toArray e)) (fun j v hv => by simpa using hv) (by simp; omega) (Nat.le_refl _)
      hz' hzm (Nat.le_trans (Nat.div_le_self _ _) (by simp only [maxLen]; omega)) (by omega) l.length rfl
  · intro b k' g' c' hb hk' hF
    obtain ⟨g2, c2, h1, _, _, h4⟩ := h.live b k' (by rw [← hk']; exact (at_other hlt hb).symm)
    rw [hF] at h1
    obtain ⟨rfl, rfl⟩ := Prod.mk.inj (Option.some.inj h1)
    have hlt2 := h4.lt
    exact ⟨by omega, heap_alloc_old w _ hlt2⟩

theorem write_some {base : Nat} {F : Env} {m : Mem} {w : World} (h : Inv ρ base F m w) {b off : Nat} {l : List AV} {vs : List Value} {k : Mem → R} {y : Out}
    (hd : dens ρ F l = some vs) (hr : m.write b off l k = some y) :
    ∃ m', k m' = some y ∧ ∃ g c cur e, F b = some (g, c) ∧ base ≤ g ∧ w.heap[g]? = some (.cells cur e (0, 0)) ∧ c.2 + off + vs.length ≤ cur.size ∧ (∀ v ∈ vs, v.oneCell' = true) ∧
      Inv ρ base F m' (w.setRow g (cur.toList.take (c.2 + off) ++ vs ++ cur.toList.drop (c.2 + off + vs.length)).toArray) ∧ Fares base F m w F m' (w.setRow g (cur.toList.take (c.2 + off) ++ vs ++ cur.toList.drop (c.2 + off + vs.length)).toArray) := by
  cases m with | mk H nx wr =>
  unfold Mem.write at hr
  rw [memR_eq] at hr
  obtain ⟨hwr, hr⟩ := gdR_some hr
  obtain ⟨e, z, q, c0, hk, hz, hr⟩ := blkR_some hr
  obtain ⟨hle, hr⟩ := gdR_some hr
  rw [lenAV_eq] at hle
  have hwr' : wr ≤ b := Nat.le_of_ble_eq_true hwr
  have hle' : off + l.length ≤ q := Nat.le_of_ble_eq_true hle
  have hvl := dens_length hd
  obtain ⟨g, c, hF, hg, _, cs, hh, hcs, hnc, hmod, hmax, hcap, hcell⟩ := h.row b _ hk hz
  have hcap' : q ≤ c0.cap := hcap
  have hnc' : q ≤ c.1 := hnc
  obtain ⟨c1, hr, p0, p1, p2, p3, p4⟩ := putAll_some _ _ _ _ _ hr (by omega)
  obtain ⟨hlt, hr⟩ := heapPut_some hr
  have hbg := hg hwr'
  have hone : ∀ v ∈ vs, v.oneCell' = true := by
    intro v hv
    obtain ⟨i, hi, rfl⟩ := List.mem_iff_getElem.1 hv
    obtain ⟨u, h1, h2⟩ := dens_get hd i (by omega)
    rw [List.getElem?_eq_getElem hi] at h2
    obtain rfl := Option.some.inj h2
    exact one_den h1 (p1 _ (List.getElem_mem _))
  refine ⟨_, hr, g, c, cs, e, hF, hbg, hh, by omega, hone, ?_, ?fares⟩
  case fares =>
    refine Fares.write ⟨rfl, rfl, rfl, by simp [World.setRow], fun k hk => setRow_other w g k _ (by omega)⟩ (fun b' k' hk' => ?_) hk hF (fun g' hg' => setRow_other w g g' _ hg')
    by_cases e : b' = b
    · exact ⟨_, by rw [e]; exact hk⟩
    · exact ⟨k', by rw [← hk']; exact (at_other hlt e).symm⟩
  have hget : ∀ b', b' ≠ b → (⟨H.put b (some ⟨e, z, q, c1⟩), nx, wr⟩ : Mem).at b' = (⟨H, nx, wr⟩ : Mem).at b' := fun b' hb => at_other hlt hb
  have hsame : (⟨H.put b (some ⟨e, z, q, c1⟩), nx, wr⟩ : Mem).at b = some ⟨e, z, q, c1⟩ := at_same hlt
  have hlive : ∀ b' k', (⟨H.put b (some ⟨e, z, q, c1⟩), nx, wr⟩ : Mem).at b' = some k' → ∃ k0, (⟨H, nx, wr⟩ : Mem).at b' = some k0 := by
    intro b' k' hk'
    by_cases e : b' = b
    · exact ⟨_, by rw [e]; exact hk⟩
    · exact ⟨k', by rw [← hget b' e]; exact hk'⟩
  constructor
  · intro b' k' hk'
    by_cases e1 : b' = b
    · subst e1
      rw [hsame] at hk'
      obtain rfl := Option.some.inj hk'
      refine ⟨g, c, hF, hg, fun hlt => by have hlt' : b' < wr := hlt; omega, fun _ => ⟨_, setRow_heap w g cs _ e _ hh, ?_, hnc, hmod, hmax, by show q ≤ c1.cap; omega, ?_⟩, fun h0 => absurd h0 hz⟩
      · simp; omega
      · intro i hi
        have hi' : i < q := hi
        by_cases i1 : i < off
        · obtain ⟨v, a2, a3, a4⟩ := hcell i hi'
          refine ⟨v, by rw [← a2]; exact congrArg (den ρ F) (p2 i i1), a3, ?_⟩
          simp only [List.getElem?_toArray]
          rw [List.append_assoc, List.getElem?_append_left (by simp; omega), List.getElem?_take_of_lt (show c.2 + i < c.2 + off by omega)]
          simpa using a4
        · by_cases i2 : i < off + l.length
          · obtain ⟨j, rfl⟩ : ∃ j, i = off + j := ⟨i - off, by omega⟩
            have hj : j < l.length := by omega
            obtain ⟨v, b1, b2⟩ := dens_get hd j hj
            refine ⟨v, by rw [← b1]; exact congrArg (den ρ F) (p3 j hj), one_den b1 (p1 _ (List.getElem_mem _)), ?_⟩
            simp only [List.getElem?_toArray]
            rw [List.append_assoc, List.getElem?_append_right (by simp; omega)]
            have e1 : c.2 + (off + j) - (List.take (c.2 + off) cs.toList).length = j := by simp; omega
            rw [e1, List.getElem?_append_left (by omega)]
            exact b2
          · obtain ⟨v, a2, a3, a4⟩ := hcell i hi'
            refine ⟨v, by rw [← a2]; exact congrArg (den ρ F) (p4 i (by omega) (by omega)), a3, ?_⟩
            simp only [List.getElem?_toArray]
            rw [List.append_assoc, List.getElem?_append_right (by simp; omega), List.getElem?_append_right (by simp; omega), List.getElem?_drop]
            have e1 : c.2 + off + vs.length + (c.2 + i - (List.take (c.2 + off) cs.toList).length - vs.length) = c.2 + i := by simp; omega
            rw [e1]
            simpa using a4
    · rw [hget b' e1] at hk'
      obtain ⟨g', c', h1, h2, h3, h4⟩ := h.live b' k' hk'
      have hne : g' ≠ g := by
        intro e2
        by_cases hw : wr ≤ b'
        · exact e1 (h.apart b' b k' _ (g', c') (g, c) hk' hk hw hwr' h1 hF e2)
        · have := h3 (show b' < wr by omega)
          omega
      exact ⟨g', c', h1, h2, h3, h4.ext (Ext.refl F) (setRow_other w g g' _ hne)⟩
  · intro b1 b2 k1 k2 x1 x2 hk1 hk2
    obtain ⟨k1', h1⟩ := hlive b1 k1 hk1
    obtain ⟨k2', h2⟩ := hlive b2 k2 hk2
    exact h.apart b1 b2 k1' k2' x1 x2 h1 h2
  · exact h.fresh
  · have := h.size
    simpa [World.setRow] using this
  · exact h.wrnx

theorem write1_eq {m : Mem} {b off : Nat} {x : AV} {k : Mem → R} (hx : x ≠ .bad) : m.write1 b off x k = m.write b off [x] k := by
  cases m with | mk H nx wr =>
  show gdR _ (blkR _ _) = gdR _ (blkR _ _)
  cases hat : (⟨H, nx, wr⟩ : Mem).at b with
  | none => rfl
  | some k0 =>
    cases k0 with | mk e z q c =>
    show gdR _ (teR _ none (gdR (Nat.blt off q) (gdR (oneAV x) (c.putK off x fun c => heapPut H b (some ⟨e, z, q, c⟩) fun H => k ⟨H, nx, wr⟩)))) = gdR _ (teR _ none (gdR (Nat.ble (Nat.add off (lenAV [x])) q) (putAll [x] off c fun c => heapPut H b (some ⟨e, z, q, c⟩) fun H => k ⟨H, nx, wr⟩)))
    rw [putAll_one hx, Cells.putK_spec]
    rfl

theorem write1_some {base : Nat} {F : Env} {m : Mem} {w : World} (h : Inv ρ base F m w) {b off : Nat} {x : AV} {v : Value} {k : Mem → R} {y : Out}
    (hd : den ρ F x = some v) (hr : m.write1 b off x k = some y) :
    ∃ m', k m' = some y ∧ ∃ g c cur e, F b = some (g, c) ∧ base ≤ g ∧ w.heap[g]? = some (.cells cur e (0, 0)) ∧ c.2 + off + 1 ≤ cur.size ∧ v.oneCell' = true ∧
      Inv ρ base F m' (w.setRow g (cur.toList.take (c.2 + off) ++ [v] ++ cur.toList.drop (c.2 + off + 1)).toArray) ∧ Fares base F m w F m' (w.setRow g (cur.toList.take (c.2 + off) ++ [v] ++ cur.toList.drop (c.2 + off + 1)).toArray) := by
  have hx : x ≠ .bad := fun e => by rw [e] at hd; simp [den] at hd
  rw [write1_eq hx] at hr
  obtain ⟨m', h0, g, c, cur, e, h1, h2, h3, h4, h5, h6, h7⟩ := write_some h (dens_one hd) hr
  exact ⟨m', h0, g, c, cur, e, h1, h2, h3, h4, h5 v (by simp), h6, h7⟩

end Go.Proofs.YtplnnlnkcfappaaGreat.E3
