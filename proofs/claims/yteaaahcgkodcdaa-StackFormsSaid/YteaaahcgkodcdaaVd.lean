/- The evaluator tells the truth, part 2: making and writing blocks. -/
import Derived.Test.YteaaahcgkodcdaaVc
namespace Go.Proofs.Yteaaahcgkodcdaa.Ev
open Go Go.RowKit
set_option linter.unusedSimpArgs false
set_option linter.unusedVariables false

variable {β : Type}

def addEnv (F : Env) (n : Nat) (x : Nat × Nat) : Env := fun b => if b = n then some x else F b

theorem addEnv_same (F : Env) (n : Nat) (x : Nat × Nat) : addEnv F n x n = some x := by simp [addEnv]
theorem addEnv_ext {F : Env} {n : Nat} {x : Nat × Nat} (h : F n = none) : Ext F (addEnv F n x) := by
  intro b y hy
  have : b ≠ n := fun e => by rw [e, h] at hy; cases hy
  simp [addEnv, this, hy]

theorem dens_get {F : Env} : ∀ {l : List AV} {vs : List Value}, dens F l = some vs → ∀ i (h : i < l.length), ∃ v, den F l[i] = some v ∧ vs[i]? = some v
  | x :: l, vs, hd, i, h => by
    obtain ⟨v, us, hx, hl, rfl⟩ := dens_cons hd
    cases i with
    | zero => exact ⟨v, hx, rfl⟩
    | succ i =>
      obtain ⟨u, h1, h2⟩ := dens_get hl i (by simpa using h)
      exact ⟨u, h1, by simpa using h2⟩

/-- a new block -/
theorem new_spec {base wr : Nat} {F : Env} {m : Mem} {w : World} (h : Inv base wr F m w) {e : TypeId} {z : Nat} {l : List AV} {vs : List Value} {k : Nat → Mem → Option β} {y : β}
    (hd : dens F l = some vs) (hr : m.new e z l k = some y) :
    ∃ m' F', k m.nx m' = some y ∧ Ext F F' ∧ F' m.nx = some (w.heap.size, l.length) ∧ Inv base wr F' m' (w.alloc (.cells vs.toArray e)) ∧ l.length % z = 0 ∧ l.length ≤ 1048576 := by
  obtain ⟨hlen, hr⟩ := gd_some hr
  obtain ⟨hz, hr⟩ := gd_some hr
  rw [strictN_eq] at hr
  obtain ⟨c, hc, hr⟩ := ob_some hr
  rw [strictN_eq] at hr
  obtain ⟨H, hH, hr⟩ := ob_some hr
  have hlen' : l.length ≤ 1048576 := Nat.le_of_ble_eq_true hlen
  have hz' : l.length % z = 0 := Nat.eq_of_beq_eq_true hz
  obtain ⟨p1, p2, p3, p4⟩ := putAll_spec _ _ _ _ hc
  have hfr := h.fresh m.nx (Nat.le_refl _)
  have hext : Ext F (addEnv F m.nx (w.heap.size, l.length)) := addEnv_ext hfr
  have hnew : (w.alloc (.cells vs.toArray e)).heap[w.heap.size]? = some (.cells vs.toArray e) := heap_alloc_new w _
  have hold : ∀ g, g < w.heap.size → (w.alloc (.cells vs.toArray e)).heap[g]? = w.heap[g]? := fun g hg => heap_alloc_old w _ hg
  refine ⟨⟨H, m.nx + 1⟩, addEnv F m.nx (w.heap.size, l.length), hr, hext, addEnv_same _ _ _, ?_, hz', hlen'⟩
  have hget : ∀ b, b ≠ m.nx → H.get b = m.H.get b := fun b hb => Tr.get_set_other _ _ _ _ _ b hH hb
  have hsame : H.get m.nx = some ⟨e, z, l.length, c⟩ := Tr.get_set_same _ _ _ _ _ hH
  have hne : ∀ b k, m.H.get b = some k → b ≠ m.nx := fun b k hk e => by
    obtain ⟨g, c, hF, _⟩ := h.live b k hk
    rw [e, hfr] at hF
    cases hF
  constructor
  · intro b k hk
    by_cases hb : b = m.nx
    · subst hb
      simp only [hsame, Option.some.injEq] at hk
      subst hk
      refine ⟨w.heap.size, l.length, addEnv_same _ _ _, fun _ => h.size, fun hlt => ?_, vs.toArray, hnew, ?_, Nat.le_refl _, hz', ?_, ?_⟩
      · have := h.wrnx; omega
      · simp [dens_length hd]
      · exact Nat.le_trans (Nat.div_le_self _ _) (by simp only [maxLen]; omega)
      · intro i hi
        obtain ⟨v, h1, h2⟩ := dens_get hd i hi
        refine ⟨l[i], v, ?_, den_ext hext _ _ h1, one_den h1 (p1 _ (List.getElem_mem _)), by simpa using h2⟩
        have := p3 i hi
        simpa using this
    · rw [show (⟨H, m.nx + 1⟩ : Mem).H.get b = m.H.get b from hget b hb] at hk
      obtain ⟨g, c', h1, h2, h3, h4⟩ := h.live b k hk
      exact ⟨g, c', hext _ _ h1, h2, h3, h4.ext hext (hold g h4.lt)⟩
  · intro b b' k k' x x' hk hk' hb hb' hx hx' hxx
    by_cases e1 : b = m.nx
    · by_cases e2 : b' = m.nx
      · rw [e1, e2]
      · exfalso
        rw [show (⟨H, m.nx + 1⟩ : Mem).H.get b' = m.H.get b' from hget b' e2] at hk'
        obtain ⟨g, c', h1, h2, h3, h4⟩ := h.live b' k' hk'
        rw [e1, addEnv_same] at hx
        rw [hext _ _ h1] at hx'
        have a1 := Option.some.inj hx
        have a2 := Option.some.inj hx'
        have := h4.lt
        rw [← a1, ← a2] at hxx
        simp at hxx
        omega
    · rw [show (⟨H, m.nx + 1⟩ : Mem).H.get b = m.H.get b from hget b e1] at hk
      obtain ⟨g, c', h1, h2, h3, h4⟩ := h.live b k hk
      by_cases e2 : b' = m.nx
      · exfalso
        rw [e2, addEnv_same] at hx'
        rw [hext _ _ h1] at hx
        have a1 := Option.some.inj hx
        have a2 := Option.some.inj hx'
        have := h4.lt
        rw [← a1, ← a2] at hxx
        simp at hxx
        omega
      · rw [show (⟨H, m.nx + 1⟩ : Mem).H.get b' = m.H.get b' from hget b' e2] at hk'
        obtain ⟨g', c'', h1', _⟩ := h.live b' k' hk'
        rw [hext _ _ h1] at hx
        rw [hext _ _ h1'] at hx'
        exact h.apart b b' k k' (g, c') (g', c'') hk hk' hb hb' h1 h1' (by rw [Option.some.inj hx, Option.some.inj hx']; exact hxx)
  · intro b hb
    have hb' : m.nx + 1 ≤ b := hb
    have : b ≠ m.nx := by omega
    simp [addEnv, this, h.fresh b (by omega)]
  · have := h.size
    simp
    omega
  · have := h.wrnx
    show wr ≤ m.nx + 1
    omega

theorem write_spec {base wr : Nat} {F : Env} {m m' : Mem} {w : World} (h : Inv base wr F m w) {b off : Nat} {l : List AV} {vs : List Value}
    (hd : dens F l = some vs) (hr : m.write wr b off l = some m') :
    ∃ g c cur e, F b = some (g, c) ∧ base ≤ g ∧ w.heap[g]? = some (.cells cur e (0, 0)) ∧ off + vs.length ≤ cur.size ∧ (∀ v ∈ vs, v.oneCell' = true) ∧
      Inv base wr F m' (w.setRow g (cur.toList.take off ++ vs ++ cur.toList.drop (off + vs.length)).toArray) := by
  obtain ⟨hwr, hr⟩ := gd_some hr
  obtain ⟨k, hk, hr⟩ := ob_some hr
  obtain ⟨hle, hr⟩ := gd_some hr
  obtain ⟨c1, hc1, hr⟩ := ob_some hr
  obtain ⟨H, hH, hr⟩ := ob_some hr
  obtain rfl := Option.some.inj hr
  have hwr' : wr ≤ b := Nat.le_of_ble_eq_true hwr
  have hle' : off + l.length ≤ k.n := Nat.le_of_ble_eq_true hle
  have hvl := dens_length hd
  obtain ⟨p1, p2, p3, p4⟩ := putAll_spec _ _ _ _ hc1
  obtain ⟨g, c, hF, hg, _, cs, hh, hcs, hnc, hmod, hmax, hcell⟩ := h.live b k hk
  have hbg := hg hwr'
  have hone : ∀ v ∈ vs, v.oneCell' = true := by
    intro v hv
    obtain ⟨i, hi, rfl⟩ := List.mem_iff_getElem.1 hv
    obtain ⟨u, h1, h2⟩ := dens_get hd i (by omega)
    rw [List.getElem?_eq_getElem hi] at h2
    obtain rfl := Option.some.inj h2
    exact one_den h1 (p1 _ (List.getElem_mem _))
  refine ⟨g, c, cs, k.e, hF, hbg, hh, by omega, hone, ?_⟩
  have hget : ∀ b', b' ≠ b → H.get b' = m.H.get b' := fun b' hb => Tr.get_set_other _ _ _ _ _ b' hH hb
  have hsame : H.get b = some ⟨k.e, k.z, k.n, c1⟩ := Tr.get_set_same _ _ _ _ _ hH
  have hlive : ∀ b' k', (⟨H, m.nx⟩ : Mem).H.get b' = some k' → ∃ k0, m.H.get b' = some k0 := by
    intro b' k' hk'
    by_cases e : b' = b
    · exact ⟨k, by rw [e]; exact hk⟩
    · exact ⟨k', by rw [← hget b' e]; exact hk'⟩
  constructor
  · intro b' k' hk'
    by_cases e : b' = b
    · subst e
      rw [show (⟨H, m.nx⟩ : Mem).H.get b' = _ from hsame] at hk'
      obtain rfl := Option.some.inj hk'
      refine ⟨g, c, hF, hg, fun hlt => by omega, _, setRow_heap w g cs _ k.e _ hh, ?_, hnc, hmod, hmax, ?_⟩
      · simp; omega
      · intro i hi
        have hi' : i < k.n := hi
        by_cases i1 : i < off
        · obtain ⟨x, v, a1, a2, a3, a4⟩ := hcell i hi'
          refine ⟨x, v, by rw [← a1]; exact p2 i i1, a2, a3, ?_⟩
          simp only [List.getElem?_toArray]
          rw [List.append_assoc, List.getElem?_append_left (by simp; omega), List.getElem?_take_of_lt i1]
          simpa using a4
        · by_cases i2 : i < off + l.length
          · obtain ⟨j, rfl⟩ : ∃ j, i = off + j := ⟨i - off, by omega⟩
            have hj : j < l.length := by omega
            obtain ⟨v, b1, b2⟩ := dens_get hd j hj
            refine ⟨l[j], v, p3 j hj, b1, one_den b1 (p1 _ (List.getElem_mem _)), ?_⟩
            simp only [List.getElem?_toArray]
            rw [List.append_assoc, List.getElem?_append_right (by simp; omega)]
            have e1 : off + j - (List.take off cs.toList).length = j := by simp; omega
            rw [e1, List.getElem?_append_left (by omega)]
            exact b2
          · obtain ⟨x, v, a1, a2, a3, a4⟩ := hcell i hi'
            refine ⟨x, v, by rw [← a1]; exact p4 i (by omega), a2, a3, ?_⟩
            simp only [List.getElem?_toArray]
            rw [List.append_assoc, List.getElem?_append_right (by simp; omega), List.getElem?_append_right (by simp; omega), List.getElem?_drop]
            have e1 : off + vs.length + (i - (List.take off cs.toList).length - vs.length) = i := by simp; omega
            rw [e1]
            simpa using a4
    · rw [show (⟨H, m.nx⟩ : Mem).H.get b' = m.H.get b' from hget b' e] at hk'
      obtain ⟨g', c', h1, h2, h3, h4⟩ := h.live b' k' hk'
      have hne : g' ≠ g := by
        intro e2
        by_cases hw : wr ≤ b'
        · exact e (h.apart b' b k' k (g', c') (g, c) hk' hk hw hwr' h1 hF e2)
        · have := h3 (by omega)
          omega
      exact ⟨g', c', h1, h2, h3, h4.ext (Ext.refl F) (setRow_other w g g' _ hne)⟩
  · intro b1 b2 k1 k2 x1 x2 hk1 hk2
    obtain ⟨k1', h1⟩ := hlive b1 k1 hk1
    obtain ⟨k2', h2⟩ := hlive b2 k2 hk2
    exact h.apart b1 b2 k1' k2' x1 x2 h1 h2
  · exact h.fresh
  · have := h.size
    simpa [World.setRow] using this
  · exact h.wrnx

end Go.Proofs.Yteaaahcgkodcdaa.Ev
