/- The evaluator tells the truth, part 7: append. -/
import Derived.Test.YteaaahcgkodcdaaVh
namespace Go.Proofs.Yteaaahcgkodcdaa.Ev
open Go Go.RowKit
set_option linter.unusedSimpArgs false
set_option linter.unusedVariables false

variable {β : Type} {P : Program} {base wr : Nat} {F : Env} {m : Mem} {w : World} {n : Nat} {tm : Tr AV} {a : Act}

/-- one block more, wherever it lies -/
theorem Inv.put (hI : Inv base wr F m w) {k : Blk} {gn c : Nat} {H : Tr Blk} {w' : World} (hnew : H.get m.nx = some k)
    (hold : ∀ b k', b ≠ m.nx → H.get b = some k' → m.H.get b = some k') (hblk : BlkOk (addEnv F m.nx (gn, c)) k gn c w') (hbase : base ≤ gn)
    (hsep : ∀ b k' g' c', b ≠ m.nx → H.get b = some k' → F b = some (g', c') → g' ≠ gn ∧ w'.heap[g']? = w.heap[g']?) (hsz : w.heap.size ≤ w'.heap.size) :
    Inv base wr (addEnv F m.nx (gn, c)) ⟨H, m.nx + 1⟩ w' := by
  have hfr := hI.fresh m.nx (Nat.le_refl _)
  have hext : Ext F (addEnv F m.nx (gn, c)) := addEnv_ext hfr
  constructor
  · intro b k' hk
    by_cases hb : b = m.nx
    · subst hb
      rw [show (⟨H, m.nx + 1⟩ : Mem).H.get m.nx = some k from hnew] at hk
      obtain rfl := Option.some.inj hk
      exact ⟨gn, c, addEnv_same _ _ _, fun _ => hbase, fun hlt => by have := hI.wrnx; omega, hblk⟩
    · obtain ⟨g', c', h1, h2, h3, h4⟩ := hI.live b k' (hold b k' hb hk)
      exact ⟨g', c', hext _ _ h1, h2, h3, h4.ext hext (hsep b k' g' c' hb hk h1).2⟩
  · intro b b' k1 k2 x x' hk hk' hb hb' hx hx' hxx
    by_cases e1 : b = m.nx
    · by_cases e2 : b' = m.nx
      · rw [e1, e2]
      · exfalso
        obtain ⟨g', c', h1, _⟩ := hI.live b' k2 (hold b' k2 e2 hk')
        rw [e1, addEnv_same] at hx
        rw [hext _ _ h1] at hx'
        rw [← Option.some.inj hx, ← Option.some.inj hx'] at hxx
        exact (hsep b' k2 g' c' e2 hk' h1).1 hxx.symm
    · obtain ⟨g', c', h1, _⟩ := hI.live b k1 (hold b k1 e1 hk)
      by_cases e2 : b' = m.nx
      · exfalso
        rw [e2, addEnv_same] at hx'
        rw [hext _ _ h1] at hx
        rw [← Option.some.inj hx, ← Option.some.inj hx'] at hxx
        exact (hsep b k1 g' c' e1 hk h1).1 hxx
      · obtain ⟨g2, c2, h2, _⟩ := hI.live b' k2 (hold b' k2 e2 hk')
        rw [hext _ _ h1] at hx
        rw [hext _ _ h2] at hx'
        exact hI.apart b b' k1 k2 (g', c') (g2, c2) (hold b k1 e1 hk) (hold b' k2 e2 hk') hb hb' h1 h2 (by rw [Option.some.inj hx, Option.some.inj hx']; exact hxx)
  · intro b hb
    have hb' : m.nx + 1 ≤ b := hb
    have hne : b ≠ m.nx := by omega
    simp [addEnv, hne, hI.fresh b (by omega)]
  · exact Nat.le_trans hI.size hsz
  · have := hI.wrnx
    show wr ≤ m.nx + 1
    omega

/-- a new row whose first cells are known -/
theorem BlkOk.row {F' : Env} {e : TypeId} {z : Nat} {t : Tr AV} {l : List AV} {vs : List Value} {cs : Array Value} {g : Nat} {w' : World} (hd : dens F' l = some vs)
    (ht : ∀ j (h : j < l.length), t.get j = some l[j]) (h1 : ∀ v ∈ vs, v.oneCell' = true) (hh : w'.heap[g]? = some (.cells cs e)) (hpre : ∀ (j : Nat) (v : Value), vs[j]? = some v → cs[j]? = some v) (hle : l.length ≤ cs.size)
    (hmod : cs.size % z = 0) (hmax : cs.size / z ≤ maxLen) (q : Nat) (hq : q = l.length) : BlkOk F' ⟨e, z, q, t⟩ g cs.size w' := by
  subst hq
  refine ⟨cs, hh, rfl, hle, hmod, hmax, fun i hi => ?_⟩
  obtain ⟨v, a1, a2⟩ := dens_get hd i hi
  exact ⟨l[i], v, ht i hi, a1, h1 v (List.mem_of_getElem? a2), hpre i v a2⟩

theorem new_parts {e : TypeId} {z : Nat} {l : List AV} {k : Nat → Mem → Option β} {y : β} (hr : m.new e z l k = some y) :
    ∃ c H, putAll l 0 .leaf = some c ∧ m.H.set (some ⟨e, z, l.length, c⟩) deep m.nx = some H ∧ k m.nx ⟨H, m.nx + 1⟩ = some y ∧ l.length % z = 0 ∧ l.length ≤ 1048576 := by
  obtain ⟨hlen, hr⟩ := gd_some hr
  obtain ⟨hz, hr⟩ := gd_some hr
  rw [strictN_eq] at hr
  obtain ⟨c, hc, hr⟩ := ob_some hr
  rw [strictN_eq] at hr
  obtain ⟨H, hH, hr⟩ := ob_some hr
  exact ⟨c, H, hc, hH, hr, Nat.eq_of_beq_eq_true hz, Nat.le_of_ble_eq_true hlen⟩

theorem known_list {k : Blk} {cs : Array Value} (h : ∀ i, i < k.n → ∃ x v, k.c.get i = some x ∧ den F x = some v ∧ v.oneCell' = true ∧ cs[i]? = some v) : ∀ q, q ≤ k.n →
    ∃ l vs, l.length = q ∧ (∀ j (hj : j < l.length), k.c.get j = some l[j]) ∧ dens F l = some vs ∧ (∀ v ∈ vs, v.oneCell' = true) ∧ ∀ (j : Nat) (v : Value), vs[j]? = some v → cs[j]? = some v
  | 0, _ => ⟨[], [], rfl, fun j hj => by simp at hj, dens_nil F, by simp, fun j v hv => by simp at hv⟩
  | q + 1, hq => by
    obtain ⟨l, vs, h1, h2, h3, h4, h5⟩ := known_list h q (by omega)
    obtain ⟨x, v, a1, a2, a3, a4⟩ := h q (by omega)
    have hlv := dens_length h3
    refine ⟨l ++ [x], vs ++ [v], by simp [h1], ?_, dens_append h3 (dens_cons_mk a2 (dens_nil F)), ?_, ?_⟩
    · intro j hj
      by_cases e : j < l.length
      · rw [List.getElem_append_left e]; exact h2 j e
      · have : j = q := by simp at hj; omega
        subst this
        rw [List.getElem_append_right (by omega)]
        simpa [h1] using a1
    · intro u hu
      rcases List.mem_append.1 hu with hu | hu
      · exact h4 u hu
      · rw [List.mem_singleton.1 hu]; exact a3
    · intro j u hu
      by_cases e : j < vs.length
      · rw [List.getElem?_append_left e] at hu; exact h5 j u hu
      · rw [List.getElem?_append_right (by omega)] at hu
        have hj : j - vs.length = 0 := by
          rcases Nat.eq_zero_or_pos (j - vs.length) with h0 | h0
          · exact h0
          · rw [List.getElem?_eq_none (by simp; omega)] at hu; cases hu
        rw [hj] at hu
        have hjq : j = q := by omega
        subst hjq
        simp at hu
        subst hu
        exact a4

theorem evAppend_spec (hI : Inv base wr F m w) (hA : AR F n tm a) (o : Oper) {c : Call} (ho : o.op = .call c) (hcb : c.callee = .builtin .append) {r : Rs} (h : evAppend P wr tm m c = some r) :
    Makes P base wr F a w o r := by
  obtain ⟨x, y, hxy, h⟩ := two_some h
  obtain ⟨t, ty, htt, h⟩ := two_some h
  obtain ⟨c1, h⟩ := gd_some h
  obtain ⟨e, he, h⟩ := ob_some h
  obtain ⟨ie, hie, h⟩ := ob_some h
  obtain ⟨z, hz, h⟩ := ob_some h
  obtain ⟨c2, h⟩ := gd_some h
  obtain ⟨b2, off2, k2, sz2, hy, h⟩ := asSl_some h
  obtain ⟨c3, h⟩ := gd_some h
  obtain ⟨c4, h⟩ := gd_some h
  obtain ⟨c5, h⟩ := gd_some h
  obtain ⟨c6, h⟩ := gd_some h
  obtain ⟨news, hnews, hfin⟩ := ob_some h
  have hu := elemT_some he
  have hpos : 0 < ie.size := Nat.le_of_ble_eq_true c4
  have c5' : 0 < k2 := Nat.le_of_ble_eq_true c5
  have c6' : k2 * ie.bytes ≤ 1048576 := Nat.le_of_ble_eq_true c6
  have hzs : z.cells.size = ie.size := by
    have := dens_length (dens_cellsV F z)
    rw [Nat.eq_of_beq_eq_true c2] at this
    simpa using this
  have hty : c.argTypes = #[t, t] := by
    have e1 : t = ty := Nat.eq_of_beq_eq_true c1
    apply Array.ext'
    rw [htt, ← e1]
  have hargs : c.args.map a.eval = #[a.eval x, a.eval y] := by apply Array.ext'; simp [hxy]
  obtain ⟨cs0, hrun⟩ := run_call_builtin (a := a) o ho hcb w
  obtain ⟨g2, cc2, vsn, hF2, hvsn, hnl, hone, hcell⟩ := read_spec hI hnews
  obtain ⟨g2', cc2', hF2', hyv⟩ := hA.sl hy
  rw [hF2] at hF2'
  obtain ⟨rfl, rfl⟩ := Prod.mk.inj (Option.some.inj hF2')
  have hnl : news.length = k2 * ie.size := hnl
  have hvl := dens_length hvsn
  rw [hnl] at hvl
  have hexec : ∀ v w', (Builtin.append_ #[t, t] o.type #[a.eval x, a.eval y]).run P w = .ok v w' → (execOp a.eval o).run P w = .ok (.value v) w' := by
    intro v w' hv
    rw [hrun, hargs, hty]
    exact valued hv
  split at hfin
  · rename_i v hv
    unfold appendNil at hfin
    split at hfin
    · rename_i aa len cap
      split at hfin
      · obtain ⟨d1, hfin⟩ := gd_some hfin
        obtain ⟨d2, hlast⟩ := gd_some hfin
        obtain rfl : len = 0 := Nat.eq_of_beq_eq_true d1
        obtain rfl : cap = 0 := Nat.eq_of_beq_eq_true d2
        obtain ⟨tc, H, hc, hH, hlast, hmod, hlen⟩ := new_parts hlast
        obtain rfl := Option.some.inj hlast
        have hxv := hA.raw hv
        have hk2 : k2 ≤ 1048576 := by
          rw [hnl] at hlen
          exact Nat.le_trans (Nat.le_mul_of_pos_right k2 hpos) hlen
        have hr := run_append_nil (P := P) w t o.type e ie z hu hie hz ⟨g2, off2, none⟩ k2 ((cc2 - off2) / sz2) vsn hvl hcell c5' (by omega) (by omega)
        have hge := grownCap_ge w k2 0 e
        have hcm := grownCap_le_maxLen w k2 0 e (by simp only [maxLen]; omega)
        obtain ⟨p1, p2, p3, p4⟩ := putAll_spec _ _ _ _ hc
        have hcsz : (vsn.toArray ++ Builtin.zeroCells z.cells (grownCap w k2 0 e - k2)).size = grownCap w k2 0 e * ie.size := by
          simp only [Array.size_append, List.size_toArray, size_zeroCells, hzs, hvl, ← Nat.add_mul]
          congr 1
          omega
        have hext : Ext F (addEnv F m.nx (w.heap.size, grownCap w k2 0 e * ie.size)) := addEnv_ext (hI.fresh m.nx (Nat.le_refl _))
        refine ⟨addEnv F m.nx (w.heap.size, grownCap w k2 0 e * ie.size), _, _, hext, ?_, hexec _ _ (by rw [hxv, hyv]; exact hr), ?_, ?_⟩
        · simp only [den, addEnv_same, Option.map_some, Nat.sub_zero, Nat.mul_div_cancel _ hpos]
        · refine hI.put (Tr.get_set_same _ _ _ _ _ hH) (fun b k' hb hk => by rw [← Tr.get_set_other _ _ _ _ _ b hH hb]; exact hk) ?_ hI.size ?_ ?_
          · rw [← hcsz]
            refine BlkOk.row (dens_ext (by rw [hcsz]; exact hext) _ _ hvsn) (fun j hj => by have := p3 j hj; simpa using this) hone (heap_alloc_new w.drew _) ?_ ?_ ?_ ?_ _ rfl
            · intro j v hv
              rw [Array.getElem?_append_left (by simp; exact (List.getElem?_eq_some_iff.1 hv).1)]
              simpa using hv
            · rw [hcsz, hnl]; exact Nat.mul_le_mul_right _ hge
            · rw [hcsz]; exact Nat.mul_mod_left _ _
            · rw [hcsz, Nat.mul_div_cancel _ hpos]; exact hcm
          · intro b k' g' c' hb hk hF'
            rw [Tr.get_set_other _ _ _ _ _ b hH hb] at hk
            obtain ⟨g3, c3', h1, _, _, h4⟩ := hI.live b k' hk
            rw [hF'] at h1
            obtain ⟨rfl, rfl⟩ := Prod.mk.inj (Option.some.inj h1)
            have hlt := h4.lt
            exact ⟨by omega, heap_alloc_old w.drew _ hlt⟩
          · simp
        · exact (Below.refl base w).drew.alloc (by simpa using hI.size) _
      · cases hfin
    · cases hfin
  · rename_i b off len sz hv
    obtain ⟨d1, hfin⟩ := gd_some hfin
    obtain ⟨d2, hfin⟩ := gd_some hfin
    obtain ⟨d3, hfin⟩ := gd_some hfin
    obtain ⟨d4, hfin⟩ := gd_some hfin
    obtain ⟨k, hk, hfin⟩ := ob_some hfin
    obtain ⟨d5, hfin⟩ := gd_some hfin
    obtain ⟨d6, hfin⟩ := gd_some hfin
    obtain ⟨d7, hfin⟩ := gd_some hfin
    obtain ⟨tc, hc, hfin⟩ := ob_some hfin
    obtain ⟨H0, hH0, hfin⟩ := ob_some hfin
    rw [strictN_eq, strictN_eq] at hfin
    obtain ⟨d8, hfin⟩ := gd_some hfin
    rw [strictN_eq] at hfin
    obtain ⟨H, hH, hlast⟩ := ob_some hfin
    have e1 : off = 0 := Nat.eq_of_beq_eq_true d1
    have e2 : sz = ie.size := Nat.eq_of_beq_eq_true d2
    have e3 : k.e = e := Nat.eq_of_beq_eq_true d5
    have e4 : k.z = sz := Nat.eq_of_beq_eq_true d6
    have d3' : wr ≤ b := Nat.le_of_ble_eq_true d3
    have d4' : len * ie.bytes ≤ 1048576 := Nat.le_of_ble_eq_true d4
    have d7' : len * sz ≤ k.n := Nat.le_of_ble_eq_true d7
    have d8' : len + k2 ≤ 1048576 := Nat.le_of_ble_eq_true d8
    clear hfin d1 d2 d3 d4 d5 d6 d7 d8
    subst e1 e2
    obtain ⟨g, cB, hF, hbase, _, cs, hh, hcs, hnc, hmod, hmax, hknown⟩ := hI.live b k hk
    rw [e3] at hh
    rw [e4] at hmod hmax
    have hbg := hbase d3'
    obtain ⟨g', cB', hF', hxv⟩ := hA.sl hv
    rw [hF] at hF'
    obtain ⟨rfl, rfl⟩ := Prod.mk.inj (Option.some.inj hF')
    rw [Nat.sub_zero] at hxv
    obtain ⟨olds, ov, o1, o2, o3, o4, o5⟩ := known_list hknown (len * ie.size) d7'
    have hovl := dens_length o3
    rw [o1] at hovl
    obtain ⟨p1, p2, p3, p4⟩ := putAll_spec _ _ _ _ hc
    have hdd := dens_append o3 hvsn
    have hllen : (olds ++ news).length = (len + k2) * ie.size := by rw [List.length_append, o1, hnl, Nat.add_mul]
    have htc : ∀ j (hj : j < (olds ++ news).length), tc.get j = some (olds ++ news)[j] := by
      intro j hj
      by_cases hj' : j < olds.length
      · rw [List.getElem_append_left hj', p2 j (by show j < len * ie.size; omega), o2 j hj']
      · rw [List.getElem_append_right (by omega)]
        have := p3 (j - olds.length) (by simp at hj; omega)
        rw [show Nat.mul len ie.size + (j - olds.length) = j by show len * ie.size + _ = _; omega] at this
        exact this
    have hone' : ∀ v ∈ ov ++ vsn, v.oneCell' = true := by
      intro v hv
      rcases List.mem_append.1 hv with hv | hv
      · exact o4 v hv
      · exact hone v hv
    have hq : (len + k2) * ie.size = (olds ++ news).length := hllen.symm
    have hne : b ≠ m.nx := fun e => by rw [e, hI.fresh m.nx (Nat.le_refl _)] at hF; cases hF
    have hold : ∀ b' k', b' ≠ m.nx → H.get b' = some k' → b' ≠ b ∧ m.H.get b' = some k' := by
      intro b' k' hb' hk'
      rw [Tr.get_set_other _ _ _ _ _ b' hH hb'] at hk'
      by_cases eb : b' = b
      · subst eb
        rw [Tr.get_set_same _ _ _ _ _ hH0] at hk'
        cases hk'
      · rw [Tr.get_set_other _ _ _ _ _ b' hH0 eb] at hk'
        exact ⟨eb, hk'⟩
    have hby : (len + k2) * ie.bytes ≤ 2097152 := by rw [Nat.add_mul]; omega
    have hsc : cB / ie.size * ie.size ≤ cB := Nat.div_mul_le_self cB ie.size
    obtain rfl := Option.some.inj hlast
    by_cases hroom : len + k2 ≤ cB / ie.size
    · have hfit : (len + k2) * ie.size ≤ cs.size := by
        rw [hcs]; exact Nat.le_trans (Nat.mul_le_mul_right _ hroom) hsc
      have hfit' : len * ie.size + vsn.length ≤ cs.size := by rw [hvl, ← Nat.add_mul]; exact hfit
      have hr := run_append_room (P := P) w t o.type e ie hu hie g len (cB / ie.size) cs hh ⟨g2, off2, none⟩ k2 ((cc2 - off2) / sz2) vsn hvl hcell hone hroom hfit'
      have hext : Ext F (addEnv F m.nx (g, cB)) := addEnv_ext (hI.fresh m.nx (Nat.le_refl _))
      have hnsz : (cs.toList.take (len * ie.size) ++ vsn ++ cs.toList.drop (len * ie.size + vsn.length)).toArray.size = cB := by
        simp; omega
      refine ⟨addEnv F m.nx (g, cB), _, _, hext, ?_, hexec _ _ (by rw [hxv, hyv]; exact hr), ?_, ?_⟩
      · simp only [den, addEnv_same, Option.map_some, Nat.sub_zero]
        rfl
      · refine hI.put (Tr.get_set_same _ _ _ _ _ hH) (fun b' k' hb' hk' => (hold b' k' hb' hk').2) ?_ hbg ?_ ?_
        · have hrow := BlkOk.row (z := ie.size) (t := tc) (dens_ext hext _ _ hdd) htc hone' (setRow_heap w g cs (cs.toList.take (len * ie.size) ++ vsn ++ cs.toList.drop (len * ie.size + vsn.length)).toArray e _ hh) (by
            intro j v hv
            simp only [List.getElem?_toArray]
            rw [List.append_assoc]
            by_cases hj : j < len * ie.size
            · rw [List.getElem?_append_left (by omega)] at hv
              rw [List.getElem?_append_left (by simp; omega), List.getElem?_take_of_lt hj]
              simpa using o5 j v hv
            · rw [List.getElem?_append_right (by omega)] at hv
              have hj2 := (List.getElem?_eq_some_iff.1 hv).1
              rw [List.getElem?_append_right (by simp; omega), List.getElem?_append_left (by simp; omega)]
              rw [← hv]
              congr 1
              simp; omega) (by rw [hnsz, hllen, ← hcs]; exact hfit) (by rw [hnsz]; exact hmod) (by rw [hnsz]; exact hmax) _ hq
          rw [hnsz] at hrow
          exact hrow
        · intro b' k' g3 c3 hb' hk' hF3
          obtain ⟨eb, hk0⟩ := hold b' k' hb' hk'
          have hg : g3 ≠ g := by
            intro e2
            obtain ⟨g4, c4, h1, _, h3, _⟩ := hI.live b' k' hk0
            rw [hF3] at h1
            obtain ⟨rfl, rfl⟩ := Prod.mk.inj (Option.some.inj h1)
            by_cases hw : wr ≤ b'
            · exact eb (hI.apart b' b k' k (g3, c3) (g, cB) hk0 hk hw d3' hF3 hF e2)
            · have := h3 (by omega)
              omega
          exact ⟨hg, setRow_other w g g3 _ hg⟩
        · simp [World.setRow]
      · exact ⟨rfl, rfl, rfl, by simp [World.setRow], fun k' hk' => setRow_other w g k' _ (by omega)⟩
    · have holds : ∀ j u, ov[j]? = some u → w.cell? ((⟨g, 0, none⟩ : Addr).add j) = some u := by
        intro j u hu'
        rw [add_eq, Nat.zero_add]
        simp only [World.cell?, hh]
        simpa using o5 j u hu'
      have hns : Builtin.nextslicecap (len + k2) (cB / ie.size) * ie.bytes ≤ 281474976710656 := by
        have h1 := nextslicecap_le (need := len + k2) (old := cB / ie.size) (by omega)
        have h2 := Nat.mul_le_mul_right ie.bytes h1
        have h3 : 2 * (len + k2) * ie.bytes ≤ 4194304 := by rw [Nat.mul_assoc]; omega
        omega
      have hr := run_append_grow (P := P) w t o.type e ie z hu hie hz ⟨g, 0, none⟩ len (cB / ie.size) ov hovl holds ⟨g2, off2, none⟩ k2 ((cc2 - off2) / sz2) vsn hvl hcell (by omega) (by omega) hns
      have hge := grownCap_ge w (len + k2) (cB / ie.size) e
      have hcm := grownCap_le_maxLen w (len + k2) (cB / ie.size) e (by simp only [maxLen]; omega)
      have hcsz : (ov.toArray ++ vsn.toArray ++ Builtin.zeroCells z.cells (grownCap w (len + k2) (cB / ie.size) e - (len + k2))).size = grownCap w (len + k2) (cB / ie.size) e * ie.size := by
        simp only [Array.size_append, List.size_toArray, size_zeroCells, hzs, hvl, hovl, ← Nat.add_mul]
        congr 1
        omega
      have hext : Ext F (addEnv F m.nx (w.heap.size, grownCap w (len + k2) (cB / ie.size) e * ie.size)) := addEnv_ext (hI.fresh m.nx (Nat.le_refl _))
      refine ⟨addEnv F m.nx (w.heap.size, grownCap w (len + k2) (cB / ie.size) e * ie.size), _, _, hext, ?_, hexec _ _ (by rw [hxv, hyv]; exact hr), ?_, ?_⟩
      · simp only [den, addEnv_same, Option.map_some, Nat.sub_zero, Nat.mul_div_cancel _ hpos]
        rfl
      · refine hI.put (Tr.get_set_same _ _ _ _ _ hH) (fun b' k' hb' hk' => (hold b' k' hb' hk').2) ?_ hI.size ?_ ?_
        · have hrow := BlkOk.row (z := ie.size) (t := tc) (dens_ext hext _ _ hdd) htc hone' (heap_alloc_new w.drew (.cells (ov.toArray ++ vsn.toArray ++ Builtin.zeroCells z.cells (grownCap w (len + k2) (cB / ie.size) e - (len + k2))) e)) (by
            intro j v hv
            have hj := (List.getElem?_eq_some_iff.1 hv).1
            rw [Array.getElem?_append_left (by simpa using hj)]
            simpa using hv) (by rw [hcsz, hllen]; exact Nat.mul_le_mul_right _ hge) (by rw [hcsz]; exact Nat.mul_mod_left _ _) (by rw [hcsz, Nat.mul_div_cancel _ hpos]; exact hcm) _ hq
          rw [hcsz] at hrow
          exact hrow
        · intro b' k' g3 c3 hb' hk' hF3
          obtain ⟨_, hk0⟩ := hold b' k' hb' hk'
          obtain ⟨g4, c4, h1, _, _, h4⟩ := hI.live b' k' hk0
          rw [hF3] at h1
          obtain ⟨rfl, rfl⟩ := Prod.mk.inj (Option.some.inj h1)
          have hlt := h4.lt
          exact ⟨by omega, heap_alloc_old w.drew _ hlt⟩
        · simp
      · exact (Below.refl base w).drew.alloc (by simpa using hI.size) _
  · cases hfin

end Go.Proofs.Yteaaahcgkodcdaa.Ev
