/- The second evaluator tells the truth, part 7: append; the operations that touch the memory, joined. -/
import Derived.Test.YtplnnlnkcfappaaGreatQh
import Derived.Deep.Upon
import Derived.MapKept
namespace Go.Proofs.YtplnnlnkcfappaaGreat.E3
open Go Go.RowKit
set_option linter.unusedSimpArgs false
set_option linter.unusedVariables false

variable {ρ : Syms}

variable {P : Program} {oc : Orc} {S : Nat} {sg : List Nat} {base : Nat} {F : Env} {w : World} {a : Act}
variable {d : Put} {kc : KO} {ih : Rec} {fr : Fr} {es : Es} {m : Mem} {y : Out}

theorem new_parts {H : B5} {nx wr : Nat} {e : TypeId} {z : Nat} {l : List AV} {k : Nat → Mem → R} (hr : (⟨H, nx, wr⟩ : Mem).new e z l k = some y) :
    ∃ c : Cells, l.length ≤ c.cap ∧ (∀ j (h : j < l.length), c.get j = l[j]) ∧ nx < 32768 ∧ k nx ⟨H.put nx (some ⟨e, z, l.length, c⟩), nx + 1, wr⟩ = some y ∧ z ≠ mapZ ∧ l.length ≤ 4096 := by
  unfold Mem.new at hr
  rw [strictR_eq, lenAV_eq] at hr
  obtain ⟨hlen, hr⟩ := gdR_some hr
  obtain ⟨hz, hr⟩ := gdR_some hr
  obtain ⟨c0, hcap, _, _, hr⟩ := fit_some hr
  obtain ⟨c, hr, p1, p2, _, p4, _⟩ := putAll_some _ _ _ _ _ hr (by omega)
  rw [memR_eq, strictR_eq] at hr
  obtain ⟨hlt, hr⟩ := heapPut_some hr
  rw [strictR_eq] at hr
  exact ⟨c, by omega, fun j hj => by have := p4 j hj; rwa [Nat.zero_add] at this, hlt, hr, (zOk_some hz).2, Nat.le_of_ble_eq_true hlen⟩

theorem run_append_room_off (w : World) (t ty e : TypeId) (i : TypeInfo) (ht : P.underlying t = some (.slice e)) (hi : P.info? e = some i)
    (g o sLen sCap : Nat) (cur : Array Value) (hg : w.heap[g]? = some (.cells cur e (0, 0)))
    (a : Addr) (m c : Nat) (news : List Value) (hl : news.length = m * i.size) (hnews : ∀ j u, news[j]? = some u → w.cell? (a.add j) = some u) (h1 : ∀ u ∈ news, u.oneCell' = true)
    (hroom : sLen + m ≤ sCap) (hfit : o + sLen * i.size + news.length ≤ cur.size) :
    (Builtin.append_ #[t, t] ty #[.slice (some ⟨g, o, none⟩) sLen sCap, .slice (some a) m c]).run P w =
      .ok (.slice (some ⟨g, o, none⟩) (sLen + m) sCap) (w.setRow g (cur.toList.take (o + sLen * i.size) ++ news ++ cur.toList.drop (o + sLen * i.size + news.length)).toArray) := by
  have hf := run_firstCells_some (P := P) w i.size m a m c news hl hnews
  have hst := run_storeCells_at P g (o + sLen * i.size) e news 0 cur w hg (by simpa using hfit) h1
  simp only [Nat.add_zero] at hst
  simp [Builtin.append_, run_underlying ht, sizeOf, typeInfo, hi, Builtin.lenOf, hroom, hf, add_eq, hst]

theorem shiftR_some {c : Cells} {off n : Nat} {k : Cells → R} (h : shiftR c off n k = some y) (hn : off + n ≤ c.cap) : ∃ c', k c' = some y ∧ n ≤ c'.cap ∧ ∀ j, j < n → c'.get j = c.get (off + j) := by
  unfold shiftR at h
  rw [teR_eq] at h
  split at h
  · rename_i h0
    obtain rfl : off = 0 := Nat.eq_of_beq_eq_true h0
    exact ⟨c, h, by omega, fun j _ => by rw [Nat.zero_add]⟩
  · obtain ⟨l, h, hl, hg⟩ := getAll_some _ _ _ _ _ h
    obtain ⟨c1, h1, _, _, h⟩ := fit_some h
    obtain ⟨c2, h, p1, p2, _, p4, _⟩ := putAll_some _ _ _ _ _ h (by omega)
    refine ⟨c2, h, by omega, fun j hj => ?_⟩
    have := p4 j (by omega)
    rw [Nat.zero_add] at this
    rw [this, hg j (by omega)]

theorem known_list {c : Cells} {q o : Nat} {cs : Array Value} (h : ∀ i, i < q → ∃ v, den ρ F (c.get i) = some v ∧ v.oneCell' = true ∧ cs[o + i]? = some v) : ∀ n, n ≤ q →
    ∃ l vs, l.length = n ∧ (∀ j (hj : j < l.length), c.get j = l[j]) ∧ dens ρ F l = some vs ∧ (∀ v ∈ vs, v.oneCell' = true) ∧ ∀ (j : Nat) (v : Value), vs[j]? = some v → cs[o + j]? = some v
  | 0, _ => ⟨[], [], rfl, fun j hj => by simp at hj, dens_nil F, by simp, fun j v hv => by simp at hv⟩
  | n + 1, hn => by
    obtain ⟨l, vs, h1, h2, h3, h4, h5⟩ := known_list h n (by omega)
    obtain ⟨v, a2, a3, a4⟩ := h n (by omega)
    have hlv := dens_length h3
    refine ⟨l ++ [c.get n], vs ++ [v], by simp [h1], ?_, dens_append h3 (dens_cons_mk a2 (dens_nil F)), ?_, ?_⟩
    · intro j hj
      by_cases e : j < l.length
      · rw [List.getElem_append_left e]; exact h2 j e
      · have : j = n := by simp at hj; omega
        subst this
        rw [List.getElem_append_right (by omega)]
        simp [h1]
    · intro u hu
      rcases List.mem_append.1 hu with hu | hu
      · exact h4 u hu
      · rw [List.mem_singleton.1 hu]; exact a3
    · intro j u hu
      by_cases e : j < vs.length
      · rw [List.getElem?_append_left e] at hu; exact h5 j u hu
      · rw [List.getElem?_append_right (by omega)] at hu
        have hj : j - vs.length = 0 := by
          rcases Nat.eq_zero_or_pos (j - vs.length) with h0 | h0
          · exact h0
          · rw [List.getElem?_eq_none (by simp; omega)] at hu; cases hu
        rw [hj] at hu
        have hjq : j = n := by omega
        subst hjq
        simp at hu
        subst hu
        exact a4

theorem appendCase {x : AV} {k1 : Value → R} {k2 : Nat → Nat → Nat → Nat → R}
    (h : AV.rec (motive_1 := fun _ => (Value → R) → (Nat → Nat → Nat → Nat → R) → R) (motive_2 := fun _ => Unit)
      (fun v k _ => k v) (fun _ _ _ => none) (fun _ _ _ => none) (fun _ _ _ _ => none) (fun b off len sz _ k => k b off len sz) (fun _ _ _ _ => none) (fun _ _ _ _ => none) (fun _ _ _ _ _ => none) (fun _ _ => none) (fun _ _ _ => none) (fun _ _ _ _ => none) (fun _ _ _ => none) (fun _ _ _ _ => none) () (fun _ _ _ _ => ()) x k1 k2 = some y) :
    (∃ v, x = .raw v ∧ k1 v = some y) ∨ ∃ b off len sz, x = .sl b off len sz ∧ k2 b off len sz = some y := by
  cases x <;> first | exact no h | skip
  case raw v => exact .inl ⟨v, rfl, h⟩
  case sl b off len sz => exact .inr ⟨b, off, len, sz, rfl, h⟩

theorem append_does (hI : Inv ρ base F m w) (hA : Held ρ F (getG S sg fr es) a) (o : Oper) {c : Call} (ho : o.op = .call c) (hcb : c.callee = .builtin .append) {x q : Operand} (hxy : c.args.toList = [x, q]) {t e : TypeId} (htt : c.argTypes.toList = [t, t])
    (hu : P.underlying t = some (.slice e)) {ie : TypeInfo} {z : Value} (hie : P.info? e = some ie) (hz : ie.zero = some z) (c2 : (cellsV z).length = ie.size)
    (h : opAppend e ie.size ie.bytes (getB S sg x) (getB S sg q) d kc ih fr es m = some y) : Does ρ P base F a w o d kc ih fr es m y := by
  obtain ⟨b2, off2, k2, sz2, hy, h⟩ := slR_some h
  rw [getB_at] at hy h
  obtain ⟨c3, h⟩ := gdR_some h
  obtain ⟨c4, h⟩ := gdR_some h
  obtain ⟨c5, h⟩ := gdR_some h
  obtain ⟨c6, h⟩ := gdR_some h
  obtain ⟨news, hfin, hnl, hread⟩ := read_some h
  have hpos : 0 < ie.size := Nat.le_of_ble_eq_true c4
  have c5' : 0 < k2 := Nat.le_of_ble_eq_true c5
  have c6' : k2 * ie.bytes ≤ 1048576 := Nat.le_of_ble_eq_true c6
  have hzs : z.cells.size = ie.size := by
    have := dens_length (dens_cellsV (ρ := ρ) F z)
    rw [c2] at this
    simpa using this
  have hty : c.argTypes = #[t, t] := by
    apply Array.ext'
    rw [htt]
  have hargs : c.args.map a.eval = #[a.eval x, a.eval q] := by apply Array.ext'; simp [hxy]
  obtain ⟨cs0, hrun⟩ := run_call_builtin (a := a) o ho hcb w
  obtain ⟨g2, cc2, vsn, hF2, hvsn, hone, hcell⟩ := hread base F w hI
  obtain ⟨g2', cc2', hF2', hyv⟩ := hA.sl hy (.inl (by omega))
  rw [hF2] at hF2'
  obtain ⟨rfl, rfl⟩ := Prod.mk.inj (Option.some.inj hF2')
  have hnl : news.length = k2 * ie.size := hnl
  have hvl := dens_length hvsn
  rw [hnl] at hvl
  have hexec : ∀ v w', (Builtin.append_ #[t, t] o.type #[a.eval x, a.eval q]).run P w = .ok v w' → (execOp a.eval o).run P w = .ok (.value v) w' := by
    intro v w' hv
    rw [hrun, hargs, hty]
    exact valued hv
  cases m with | mk H nx wr =>
  rcases appendCase hfin with ⟨v, hv, hfin⟩ | ⟨b, off, len, sz, hv, hfin⟩
  · unfold appendNil at hfin
    split at hfin
    · rename_i aa len cap
      split at hfin
      · obtain ⟨d1, hfin⟩ := gdR_some hfin
        obtain ⟨d2, hlast⟩ := gdR_some hfin
        obtain rfl : len = 0 := Nat.eq_of_beq_eq_true d1
        obtain rfl : cap = 0 := Nat.eq_of_beq_eq_true d2
        obtain ⟨tc, hcap, p3, hlt, hlast, hmod, hlen⟩ := new_parts hlast
        have hxv : a.eval x = .slice none 0 0 := hA.is ⟨by rw [hv]; simp, fun _ F => by rw [hv]; simp [den]⟩
        have hk2 : k2 ≤ 1048576 := by
          rw [hnl] at hlen
          exact Nat.le_trans (Nat.le_mul_of_pos_right k2 hpos) (by omega)
        have hr := run_append_nil (P := P) w t o.type e ie z hu hie hz ⟨g2, cc2.2 + off2, none⟩ k2 ((cc2.1 - off2) / sz2) vsn hvl hcell c5' (by omega) (by omega)
        have hge := grownCap_ge w k2 0 e
        have hcm := grownCap_le_maxLen w k2 0 e (by simp only [maxLen]; omega)
        have hcsz : (vsn.toArray ++ Builtin.zeroCells z.cells (grownCap w k2 0 e - k2)).size = grownCap w k2 0 e * ie.size := by
          simp only [Array.size_append, List.size_toArray, size_zeroCells, hzs, hvl, ← Nat.add_mul]
          congr 1
          omega
        have hext : Ext F (addEnv F nx (w.heap.size, grownCap w k2 0 e * ie.size, 0)) := addEnv_ext (hI.fresh nx (Nat.le_refl _))
        refine .value _ _ (addEnv F nx (w.heap.size, grownCap w k2 0 e * ie.size, 0)) _ _ hlast hext ?_ (hexec _ _ (by rw [hxv, hyv]; exact hr)) ?_ ?_
        · simp only [den, addEnv_same, Option.map_some, Nat.sub_zero, slOff_zero, Nat.mul_div_cancel _ hpos, Nat.add_zero]
        · refine hI.put (at_same hlt) (fun b k' hb hk => by rw [← hk]; exact (at_other hlt hb).symm) ?_ hI.size ?_ ?_
          · refine BlkOk.row (dens_ext hext _ _ hvsn) p3 hone (heap_alloc_new w.drew _) ?_ (by rw [hcsz]; simp) ?_ ⟨fun h0 => by omega, fun _ => Nat.mul_mod_left _ _⟩ hmod ?_ hcap _ rfl
            · intro j v hv
              rw [Array.getElem?_append_left (by simp; exact (List.getElem?_eq_some_iff.1 hv).1)]
              simpa using hv
            · rw [hnl]; exact Nat.mul_le_mul_right _ hge
            · rw [Nat.mul_div_cancel _ hpos]; exact hcm
          · intro b k' g' c' hb hk hF'
            obtain ⟨g3, c3', h1, _, _, h4⟩ := hI.live b k' (by rw [← hk]; exact (at_other hlt hb).symm)
            rw [hF'] at h1
            obtain ⟨rfl, rfl⟩ := Prod.mk.inj (Option.some.inj h1)
            have hlt := h4.lt
            exact ⟨by omega, heap_alloc_old w.drew _ hlt⟩
          · simp
        · exact Fares.put ((Below.refl base w).drew.alloc (by simpa using hI.size) _) (fun b k' hb hk => ⟨k', by rw [← hk]; exact (at_other hlt hb).symm⟩) (.inl (Nat.le_refl _)) (fun g hg _ => heap_alloc_old w.drew _ hg)
      · exact no hfin
    · exact no hfin
  · unfold appendSl at hfin
    obtain ⟨d1, hfin⟩ := gdR_some hfin
    obtain ⟨d2, hfin⟩ := gdR_some hfin
    rw [memR_eq] at hfin
    obtain ⟨d3, hfin⟩ := gdR_some hfin
    obtain ⟨d4, hfin⟩ := gdR_some hfin
    obtain ⟨e', z', q', c0, hk, hkz, hfin⟩ := blkR_some hfin
    obtain ⟨d5, hfin⟩ := gdR_some hfin
    obtain ⟨d6, hfin⟩ := gdR_some hfin
    obtain ⟨d7, hfin⟩ := gdR_some hfin
    rw [strictR_eq] at hfin
    obtain ⟨d8, hfin⟩ := gdR_some hfin
    rw [strictR_eq] at hfin
    have e1 : off % sz = 0 := Nat.eq_of_beq_eq_true d1
    have e2 : sz = ie.size := Nat.eq_of_beq_eq_true d2
    have e3 : e' = e := Nat.eq_of_beq_eq_true d5
    have e4 : z' = sz := Nat.eq_of_beq_eq_true d6
    have d3' : wr ≤ b := Nat.le_of_ble_eq_true d3
    have d4' : len * ie.bytes ≤ 1048576 := Nat.le_of_ble_eq_true d4
    have d7' : off + len * sz ≤ q' := Nat.le_of_ble_eq_true d7
    have d8' : len + k2 ≤ 4096 := Nat.le_of_ble_eq_true d8
    obtain ⟨g, cB, hF, hbase, _, cs, hh, hcs, hnc, hmod, hmax, hcapB, hknown⟩ := hI.row b _ hk hkz
    have hnc' : q' ≤ cB.1 := hnc
    have hcapB' : q' ≤ c0.cap := hcapB
    obtain ⟨cS, hfin, hcapS, hgetS⟩ := shiftR_some hfin (show off + len * sz ≤ c0.cap by omega)
    obtain ⟨cF, hcapF, hcapL, hgetF, hfin⟩ := fit_some hfin
    have hcapF' : (len + k2) * sz ≤ cF.cap := hcapF
    have hcapS' : len * sz ≤ cS.cap := hcapS
    have hsum : len * sz + news.length ≤ cF.cap := by rw [hnl, ← e2, ← Nat.add_mul]; exact hcapF'
    obtain ⟨tc, hfin, q1, q2, q3, q4, _⟩ := putAll_some _ _ _ _ _ hfin hsum
    obtain ⟨hltb, hfin⟩ := heapPut_some hfin
    rw [strictR_eq] at hfin
    obtain ⟨hltn, hlast⟩ := heapPut_some hfin
    rw [strictR_eq] at hlast
    clear d1 d2 d3 d4 d5 d6 d7 d8
    subst e2 e3 e4
    replace hgetS : ∀ j, j < len * ie.size → cS.get j = c0.get (off + j) := hgetS
    have hbg := hbase d3'
    obtain ⟨g', cB', hF', hxv⟩ := hA.slAny hv
    rw [hF] at hF'
    obtain ⟨rfl, rfl⟩ := Prod.mk.inj (Option.some.inj hF')
    obtain ⟨olds, ov, o1, o2, o3, o4, o5⟩ := known_list (ρ := ρ) (F := F) (c := cS) (q := len * ie.size) (o := cB.2 + off) (cs := cs) (fun i hi => by
      obtain ⟨v, a2, a3, a4⟩ := hknown (off + i) (show off + i < q' by omega)
      exact ⟨v, by rw [hgetS i hi]; exact a2, a3, by rw [Nat.add_assoc]; exact a4⟩) (len * ie.size) (Nat.le_refl _)
    have hovl := dens_length o3
    rw [o1] at hovl
    have hdd := dens_append o3 hvsn
    have hllen : (olds ++ news).length = (len + k2) * ie.size := by rw [List.length_append, o1, hnl, Nat.add_mul]
    have htc : ∀ j (hj : j < (olds ++ news).length), tc.get j = (olds ++ news)[j] := by
      intro j hj
      by_cases hj' : j < olds.length
      · rw [List.getElem_append_left hj', q3 j (by show j < len * ie.size; omega), hgetF j (by omega), o2 j hj']
      · rw [List.getElem_append_right (by omega)]
        have := q4 (j - olds.length) (by simp at hj; omega)
        rw [show Nat.mul len ie.size + (j - olds.length) = j by show len * ie.size + _ = _; omega] at this
        exact this
    have hone' : ∀ v ∈ ov ++ vsn, v.oneCell' = true := by
      intro v hv
      rcases List.mem_append.1 hv with hv | hv
      · exact o4 v hv
      · exact hone v hv
    have hq : (len + k2) * ie.size = (olds ++ news).length := hllen.symm
    have hcapT : (olds ++ news).length ≤ tc.cap := by rw [hllen, q1]; exact hcapF'
    have hne : b ≠ nx := fun e => by rw [e, hI.fresh nx (Nat.le_refl _)] at hF; cases hF
    have hold : ∀ b' k', b' ≠ nx → (⟨(H.put b none).put nx (some ⟨e', ie.size, Nat.mul (Nat.add len k2) ie.size, tc⟩), nx + 1, wr⟩ : Mem).at b' = some k' → b' ≠ b ∧ (⟨H, nx, wr⟩ : Mem).at b' = some k' := by
      intro b' k' hb' hk'
      rw [at_other (nx' := nx) (wr' := wr) hltn hb'] at hk'
      by_cases eb : b' = b
      · subst eb
        rw [at_same hltb] at hk'
        cases hk'
      · rw [at_other (nx' := nx) (wr' := wr) hltb eb] at hk'
        exact ⟨eb, hk'⟩
    have hby : (len + k2) * ie.bytes ≤ 2097152 := by rw [Nat.add_mul]; omega
    have hsc : (cB.1 - off) / ie.size * ie.size ≤ cB.1 - off := Nat.div_mul_le_self (cB.1 - off) ie.size
    have hmz : (cB.1 - off) % ie.size = 0 := by
      have h1 := hmod.2 (show ie.size ≠ 0 by omega)
      have h1' : cB.1 % ie.size = 0 := h1
      obtain ⟨q1, hq1⟩ := Nat.dvd_of_mod_eq_zero h1'
      obtain ⟨q2, hq2⟩ := Nat.dvd_of_mod_eq_zero e1
      rw [hq1, hq2, ← Nat.mul_sub]
      exact Nat.mul_mod_right _ _
    have hmax' : (cB.1 - off) / ie.size ≤ maxLen := Nat.le_trans (Nat.div_le_div_right (Nat.sub_le _ _)) hmax
    by_cases hroom : len + k2 ≤ (cB.1 - off) / ie.size
    · have hfit : (len + k2) * ie.size ≤ cB.1 - off := Nat.le_trans (Nat.mul_le_mul_right _ hroom) hsc
      have hkp : 0 < (len + k2) * ie.size := Nat.mul_pos (by omega) hpos
      have hvl2 : len * ie.size + vsn.length = (len + k2) * ie.size := by rw [hvl, ← Nat.add_mul]
      have hfit' : cB.2 + off + len * ie.size + vsn.length ≤ cs.size := by omega
      rw [slOff_ne (show off ≠ cB.1 by omega)] at hxv
      have hr := run_append_room_off (P := P) w t o.type e' ie hu hie g (cB.2 + off) len ((cB.1 - off) / ie.size) cs hh ⟨g2, cc2.2 + off2, none⟩ k2 ((cc2.1 - off2) / sz2) vsn hvl hcell hone hroom hfit'
      have hext : Ext F (addEnv F nx (g, cB.1 - off, cB.2 + off)) := addEnv_ext (hI.fresh nx (Nat.le_refl _))
      have hnsz : cB.2 + off + (cB.1 - off) ≤ (cs.toList.take (cB.2 + off + len * ie.size) ++ vsn ++ cs.toList.drop (cB.2 + off + len * ie.size + vsn.length)).toArray.size := by
        simp; omega
      refine .value _ _ (addEnv F nx (g, cB.1 - off, cB.2 + off)) _ _ hlast hext ?_ (hexec _ _ (by rw [hxv, hyv]; exact hr)) ?_ ?_
      · simp only [den, addEnv_same, Option.map_some, Nat.sub_zero]
        rw [slOff_zero, Nat.add_zero]; rfl
      · refine hI.put (at_same hltn) (fun b' k' hb' hk' => (hold b' k' hb' hk').2) ?_ hbg ?_ ?_
        · exact BlkOk.row (z := ie.size) (t := tc) (dens_ext hext _ _ hdd) htc hone' (setRow_heap w g cs (cs.toList.take (cB.2 + off + len * ie.size) ++ vsn ++ cs.toList.drop (cB.2 + off + len * ie.size + vsn.length)).toArray e' _ hh) (by
            intro j v hv
            simp only [List.getElem?_toArray]
            rw [List.append_assoc]
            by_cases hj : j < len * ie.size
            · rw [List.getElem?_append_left (by omega)] at hv
              rw [List.getElem?_append_left (by simp; omega), List.getElem?_take_of_lt (show cB.2 + off + j < cB.2 + off + len * ie.size by omega)]
              simpa using o5 j v hv
            · rw [List.getElem?_append_right (by omega)] at hv
              have hj2 := (List.getElem?_eq_some_iff.1 hv).1
              rw [List.getElem?_append_right (by simp; omega), List.getElem?_append_left (by simp; omega)]
              rw [← hv]
              congr 1
              simp; omega) hnsz (by rw [hllen]; exact hfit) ⟨fun h0 => by omega, fun _ => hmz⟩ hkz hmax' hcapT _ hq
        · intro b' k' g3 c3 hb' hk' hF3
          obtain ⟨eb, hk0⟩ := hold b' k' hb' hk'
          have hg : g3 ≠ g := by
            intro e2
            obtain ⟨g4, c4, h1, _, h3, _⟩ := hI.live b' k' hk0
            rw [hF3] at h1
            obtain ⟨rfl, rfl⟩ := Prod.mk.inj (Option.some.inj h1)
            by_cases hw : wr ≤ b'
            · exact eb (hI.apart b' b k' _ (g3, c3) (g, cB) hk0 hk hw d3' hF3 hF e2)
            · have := h3 (show b' < wr by omega)
              omega
          exact ⟨hg, setRow_other w g g3 _ hg⟩
        · simp [World.setRow]
      · exact Fares.put ⟨rfl, rfl, rfl, by simp [World.setRow], fun k' hk' => setRow_other w g k' _ (by omega)⟩ (fun b' k' hb' hk' => ⟨k', (hold b' k' hb' hk').2⟩) (.inr ⟨b, _, (g, cB), hk, hF, rfl⟩) (fun g' _ hg' => setRow_other w g g' _ hg')
    · have holds : ∀ j u, ov[j]? = some u → w.cell? ((⟨g, cB.2 + slOff off len cB.1, none⟩ : Addr).add j) = some u := by
        intro j u hu'
        have hj := (List.getElem?_eq_some_iff.1 hu').1
        have hl0 : len ≠ 0 := by
          intro h0
          rw [h0] at hovl
          omega
        rw [add_eq, slOff_pos hl0]
        simp only [World.cell?, hh]
        simpa using o5 j u hu'
      have hns : Builtin.nextslicecap (len + k2) ((cB.1 - off) / ie.size) * ie.bytes ≤ 281474976710656 := by
        have h1 := nextslicecap_le (need := len + k2) (old := (cB.1 - off) / ie.size) (by omega)
        have h2 := Nat.mul_le_mul_right ie.bytes h1
        have h3 : 2 * (len + k2) * ie.bytes ≤ 4194304 := by rw [Nat.mul_assoc]; omega
        omega
      have hr := run_append_grow (P := P) w t o.type e' ie z hu hie hz ⟨g, cB.2 + slOff off len cB.1, none⟩ len ((cB.1 - off) / ie.size) ov hovl holds ⟨g2, cc2.2 + off2, none⟩ k2 ((cc2.1 - off2) / sz2) vsn hvl hcell (by omega) (by omega) hns
      have hge := grownCap_ge w (len + k2) ((cB.1 - off) / ie.size) e'
      have hcm := grownCap_le_maxLen w (len + k2) ((cB.1 - off) / ie.size) e' (by simp only [maxLen]; omega)
      have hcsz : (ov.toArray ++ vsn.toArray ++ Builtin.zeroCells z.cells (grownCap w (len + k2) ((cB.1 - off) / ie.size) e' - (len + k2))).size = grownCap w (len + k2) ((cB.1 - off) / ie.size) e' * ie.size := by
        simp only [Array.size_append, List.size_toArray, size_zeroCells, hzs, hvl, hovl, ← Nat.add_mul]
        congr 1
        omega
      have hext : Ext F (addEnv F nx (w.heap.size, grownCap w (len + k2) ((cB.1 - off) / ie.size) e' * ie.size, 0)) := addEnv_ext (hI.fresh nx (Nat.le_refl _))
      refine .value _ _ (addEnv F nx (w.heap.size, grownCap w (len + k2) ((cB.1 - off) / ie.size) e' * ie.size, 0)) _ _ hlast hext ?_ (hexec _ _ (by rw [hxv, hyv]; exact hr)) ?_ ?_
      · simp only [den, addEnv_same, Option.map_some, Nat.sub_zero, slOff_zero, Nat.mul_div_cancel _ hpos, Nat.add_zero]
        rfl
      · refine hI.put (at_same hltn) (fun b' k' hb' hk' => (hold b' k' hb' hk').2) ?_ hI.size ?_ ?_
        · exact BlkOk.row (z := ie.size) (t := tc) (dens_ext hext _ _ hdd) htc hone' (heap_alloc_new w.drew (.cells (ov.toArray ++ vsn.toArray ++ Builtin.zeroCells z.cells (grownCap w (len + k2) ((cB.1 - off) / ie.size) e' - (len + k2))) e')) (by
            intro j v hv
            have hj := (List.getElem?_eq_some_iff.1 hv).1
            rw [Array.getElem?_append_left (by simpa using hj)]
            simpa using hv) (by rw [hcsz]; simp) (by rw [hllen]; exact Nat.mul_le_mul_right _ hge) ⟨fun h0 => by omega, fun _ => Nat.mul_mod_left _ _⟩ hkz (by rw [Nat.mul_div_cancel _ hpos]; exact hcm) hcapT _ hq
        · intro b' k' g3 c3 hb' hk' hF3
          obtain ⟨_, hk0⟩ := hold b' k' hb' hk'
          obtain ⟨g4, c4, h1, _, _, h4⟩ := hI.live b' k' hk0
          rw [hF3] at h1
          obtain ⟨rfl, rfl⟩ := Prod.mk.inj (Option.some.inj h1)
          have hlt := h4.lt
          exact ⟨by omega, heap_alloc_old w.drew _ hlt⟩
        · simp
      · exact Fares.put ((Below.refl base w).drew.alloc (by simpa using hI.size) _) (fun b' k' hb' hk' => ⟨k', (hold b' k' hb' hk').2⟩) (.inl (Nat.le_refl _)) (fun g' hg' _ => heap_alloc_old w.drew _ hg')

theorem nil0_eq {v : Value} (h : nil0 v = true) : v = .slice none 0 0 := by
  unfold nil0 at h
  split at h
  · split at h
    · obtain ⟨h1, h2⟩ := both h
      rw [Nat.eq_of_beq_eq_true h1, Nat.eq_of_beq_eq_true h2]
    · cases h
  · cases h
theorem nilSl_eq' {v : Value} (h : nilSl v = true) : ∃ c, v = .slice none 0 c := by
  unfold nilSl at h
  split at h
  · split at h
    · exact ⟨_, by rw [Nat.eq_of_beq_eq_true h]⟩
    · cases h
  · cases h

theorem same_does (hI : Inv ρ base F m w) (hA : Held ρ F (getG S sg fr es) a) (o : Oper) {c : Call} (ho : o.op = .call c) (hcb : c.callee = .builtin .append) {x q : Operand} (hxy : c.args.toList = [x, q]) {t e : TypeId} (htt : c.argTypes.toList = [t, t])
    (hu : P.underlying t = some (.slice e)) {ie : TypeInfo} (hie : P.info? e = some ie) (hq : ∃ p n, a.eval q = .slice p 0 n ∧ (p = none ∨ ∃ ad, p = some ad))
    (h : opSame ie.size (getB S sg x) d kc ih fr es m = some y) : Does ρ P base F a w o d kc ih fr es m y := by
  have hty : c.argTypes = #[t, t] := by
    apply Array.ext'
    rw [htt]
  have hargs : c.args.map a.eval = #[a.eval x, a.eval q] := by apply Array.ext'; simp [hxy]
  obtain ⟨cs0, hrun⟩ := run_call_builtin (a := a) o ho hcb w
  have hsrc : Src P ie.size t (a.eval q) 0 [] w := by
    obtain ⟨p, n, hq, hp⟩ := hq
    rw [hq]
    rcases hp with rfl | ⟨ad, rfl⟩
    · exact Src.ofNil w hu n
    · exact Src.ofSlice w hu ad 0 n [] (by simp) (fun j u hj => by simp at hj) (fun u hu => by simp at hu)
  have hexec : ∀ b len cap, a.eval x = .slice b len cap → len ≤ cap → (execOp a.eval o).run P w = .ok (.value (.slice b len cap)) w := by
    intro b len cap hx hle
    rw [hrun, hargs, hty, hx]
    exact valued (run_append_nothing w t t o.type e ie hu hie b len cap hle (a.eval q) hsrc)
  rcases appendCase h with ⟨v, hv, h⟩ | ⟨b, off, len, sz, hv, h⟩
  · rw [getB_at] at hv
    obtain ⟨h1, h⟩ := gdR_some h
    obtain rfl := nil0_eq h1
    exact .value _ m F _ w h (Ext.refl F) (by simp [den]) (hexec none 0 0 (hA.is ⟨by rw [hv]; simp, fun _ F => by rw [hv]; simp [den]⟩) (Nat.le_refl _)) hI (Fares.refl _ _ _ _)
  · rw [getB_at] at hv
    obtain ⟨e', z', q', c', hk, hkz, h⟩ := blkR_some h
    obtain ⟨d1, h⟩ := gdR_some h
    obtain ⟨d2, h⟩ := gdR_some h
    obtain ⟨d3, h⟩ := gdR_some h
    obtain ⟨g, cB, hF, _, _, cs, hh, hcs, hnc, _⟩ := hI.row b _ hk hkz
    have d2' : 1 ≤ sz := Nat.le_of_ble_eq_true d2
    have d3' : off + len * sz ≤ q' := Nat.le_of_ble_eq_true d3
    have hnc' : q' ≤ cB.1 := hnc
    have hvx := hA.eval (x := x) (by rw [hv]; simp)
    rw [hv] at hvx
    obtain ⟨g', cB', hF', hxv⟩ := den_sl hvx
    rw [hF] at hF'
    obtain ⟨rfl, rfl⟩ := Prod.mk.inj (Option.some.inj hF')
    refine .value _ m F _ w h (Ext.refl F) (by rw [← hv]; rw [hv]; exact hvx) ?_ hI (Fares.refl _ _ _ _)
    rw [hxv]
    exact hexec _ _ _ hxv ((Nat.le_div_iff_mul_le d2').2 (by omega))

theorem clipCase {x : AV} {k : Nat → Nat → Nat → Nat → R} {z : R}
    (h : AV.rec (motive_1 := fun _ => (Nat → Nat → Nat → Nat → R) → R → R) (motive_2 := fun _ => Unit)
    (fun _ _ s => s) (fun _ _ s => s) (fun _ _ s => s) (fun _ _ _ s => s) (fun b off len sz k _ => k b off len sz) (fun _ _ _ s => s) (fun _ _ _ s => s) (fun _ _ _ _ s => s) (fun _ s => s) (fun _ _ s => s) (fun _ _ _ s => s) (fun _ _ s => s) (fun _ _ _ s => s) () (fun _ _ _ _ => ()) x k z = some y) :
    (∃ b off len sz, x = .sl b off len sz ∧ k b off len sz = some y) ∨ z = some y := slCase h

theorem clip_does (hoc : OrcOk ρ P oc) (hI : Inv ρ base F m w) (hA : Held ρ F (getG S sg fr es) a) (o : Oper) {t e : TypeId} {x q hi : Operand} {lo : Option Operand} (ho : o.op = .slice t x lo (some hi) (some q)) {ie : TypeInfo} (hu : P.underlying t = some (.slice e)) (hie : P.info? e = some ie)
    (h : opClip (.k (opSlow P oc S sg o.op d kc)) ie.size (getB S sg x) (lo.map (getB S sg)) (getB S sg hi) (getB S sg q) d kc ih fr es m = some y) : Does ρ P base F a w o d kc ih fr es m y := by
  rcases clipCase h with ⟨b, off, len, sz, hx, h⟩ | h
  · rw [getB_at] at hx
    obtain ⟨l, h, hlo⟩ := bndR_some h
    obtain ⟨q2, r, hr, h⟩ := natR_some h
    rw [getB_at] at hr
    obtain ⟨kq, k, hq, h⟩ := natR_some h
    rw [getB_at] at hq
    cases m with | mk H nx wr =>
    rw [memR_eq] at h
    obtain ⟨e', z', n', c', hk, hkz, h⟩ := blkR_some h
    obtain ⟨d1, h⟩ := gdR_some h
    obtain ⟨d2, h⟩ := gdR_some h
    obtain ⟨d3, h⟩ := gdR_some h
    obtain ⟨d4, h⟩ := gdR_some h
    obtain ⟨d5, h⟩ := gdR_some h
    obtain ⟨d6, h⟩ := gdR_some h
    obtain ⟨d7, h⟩ := gdR_some h
    obtain ⟨d8, h⟩ := gdR_some h
    obtain ⟨d9, h⟩ := gdR_some h
    rw [strictR_eq] at h
    obtain ⟨hltb, h⟩ := heapPut_some h
    rw [strictR_eq] at h
    obtain ⟨hltn, h⟩ := heapPut_some h
    rw [strictR_eq] at h
    have d1' : wr ≤ b := Nat.le_of_ble_eq_true d1
    have d2' : ie.size = sz := Nat.eq_of_beq_eq_true d2
    have d3' : z' = sz := Nat.eq_of_beq_eq_true d3
    have d4' : off = 0 := Nat.eq_of_beq_eq_true d4
    have d5' : l = 0 := Nat.eq_of_beq_eq_true d5
    have d6' : r ≤ k := Nat.le_of_ble_eq_true d6
    have d7' : k ≤ len := Nat.le_of_ble_eq_true d7
    have d8' : 1 ≤ sz := Nat.le_of_ble_eq_true d8
    have d9' : len * sz ≤ n' := Nat.le_of_ble_eq_true d9
    have hlast := h
    clear h d1 d2 d3 d4 d5 d6 d7 d8 d9
    subst d2' d4' d5'
    obtain ⟨g, cB, hF, hbase, _, cs, hh, hcs, hnc, hmod, hmax, hcap, hknown⟩ := hI.row b _ hk hkz
    have hnc' : n' ≤ cB.1 := hnc
    obtain ⟨g', cB', hF', hxv⟩ := hA.sl hx (.inr rfl)
    rw [hF] at hF'
    obtain ⟨rfl, rfl⟩ := Prod.mk.inj (Option.some.inj hF')
    have hks : k * ie.size ≤ len * ie.size := Nat.mul_le_mul_right _ d7'
    have hext : Ext F (addEnv F nx (g, k * ie.size, cB.2)) := addEnv_ext (hI.fresh nx (Nat.le_refl _))
    have hcapL : len ≤ (cB.1 - 0) / ie.size := (Nat.le_div_iff_mul_le d8').2 (by omega)
    have hold : ∀ b' k', b' ≠ nx → (⟨(H.put b none).put nx (some ⟨e', z', Nat.mul k ie.size, c'⟩), nx + 1, wr⟩ : Mem).at b' = some k' → b' ≠ b ∧ (⟨H, nx, wr⟩ : Mem).at b' = some k' := by
      intro b' k' hb' hk'
      rw [at_other (nx' := nx) (wr' := wr) hltn hb'] at hk'
      by_cases eb : b' = b
      · subst eb
        rw [at_same hltb] at hk'
        cases hk'
      · rw [at_other (nx' := nx) (wr' := wr) hltb eb] at hk'
        exact ⟨eb, hk'⟩
    refine .value _ _ (addEnv F nx (g, k * ie.size, cB.2)) (.slice (some ⟨g, cB.2, none⟩) r k) w hlast hext ?_ ?_ ?_ (Fares.put (Below.refl _ _) (fun b' k' hb' hk' => ⟨k', (hold b' k' hb' hk').2⟩) (.inr ⟨b, _, (g, cB), hk, hF, rfl⟩) (fun _ _ _ => rfl))
    · simp only [den, addEnv_same, Option.map_some, Nat.sub_zero, slOff_zero, Nat.mul_div_cancel _ d8', Nat.add_zero]
    · unfold execOp
      simp only [ho, hxv]
      refine valued ?_
      have hlo' : lo.map a.eval = none ∨ ∃ q', lo.map a.eval = some (.int q' (.ofNat 0)) := by
        rcases hlo with ⟨rfl, _⟩ | ⟨y', q', rfl, hy'⟩
        · exact .inl rfl
        · exact .inr ⟨q', by simp [hA.is hy']⟩
      have hhi' : (some hi).map a.eval = some (.int q2 (.ofNat r)) := by simp [hA.is hr]
      have hmx : (some q).map a.eval = some (.int kq (.ofNat k)) := by simp [hA.is hq]
      rw [hmx]
      have hb : (Instr.sliceBounds true len ((cB.1 - 0) / ie.size) (lo.map a.eval) ((some hi).map a.eval) (some (.int kq (.ofNat k)))).run P w = .ok (0, r, k) w := by
        have hkc : k ≤ (cB.1 - 0) / ie.size := Nat.le_trans d7' hcapL
        have r1 := run_sliceBound (P := P) kq k ((cB.1 - 0) / ie.size) .slice3Acap hkc w
        have r2 := run_sliceBound (P := P) q2 r k .slice3B d6' w
        have r3 := fun q => run_sliceBound (P := P) q 0 r .slice3C (Nat.zero_le _) w
        simp only [Int.ofNat_eq_natCast] at r1 r2 r3 ⊢
        rcases hlo' with e1 | ⟨q1, e1⟩ <;> rw [e1, hhi']
        · simp [Instr.sliceBounds, Sem.run_bind] at r1 r2 ⊢
          simp only [r1, r2, Result.andThen_ok]
        · simp [Instr.sliceBounds, Sem.run_bind] at r1 r2 r3 ⊢
          simp only [r1, r2, r3, Result.andThen_ok]
      simp only [Instr.sliceAt, Sem.run_bind, run_underlying hu, Result.andThen_ok, Instr.slice, hb, run_size hie, Sem.run_pure]
      congr 2
      simp [add_eq]
    · refine hI.put (at_same hltn) (fun b' k' hb' hk' => (hold b' k' hb' hk').2) ?_ (hbase d1') ?_ (Nat.le_refl _)
      · obtain ⟨olds, ov, o1, o2, o3, o4, o5⟩ := known_list (c := c') (q := n') hknown (k * ie.size) (by omega)
        exact BlkOk.row (c := (k * ie.size, cB.2)) (dens_ext hext _ _ o3) o2 o4 hh o5 (by show cB.2 + k * ie.size ≤ _; omega) (by show _ ≤ k * ie.size; omega) ⟨fun h0 => by omega, fun _ => by rw [d3']; exact Nat.mul_mod_left _ _⟩ hkz (by rw [d3', Nat.mul_div_cancel _ d8']; have h7 : cB.1 / (Blk.mk e' z' n' c').z ≤ maxLen := hmax; rw [show (Blk.mk e' z' n' c').z = ie.size from d3'] at h7; exact Nat.le_trans (Nat.le_trans d7' (by simpa using hcapL)) h7) (by have : n' ≤ c'.cap := hcap; omega) _ o1.symm
      · intro b' k' g3 c3 hb' hk' hF3
        obtain ⟨eb, hk0⟩ := hold b' k' hb' hk'
        refine ⟨fun e2 => ?_, rfl⟩
        obtain ⟨g4, c4, h1, _, h3, _⟩ := hI.live b' k' hk0
        rw [hF3] at h1
        obtain ⟨rfl, rfl⟩ := Prod.mk.inj (Option.some.inj h1)
        by_cases hw : wr ≤ b'
        · exact eb (hI.apart b' b k' _ (g3, c3) (g, cB) hk0 hk hw d1' hF3 hF e2)
        · have := h3 (show b' < wr by omega)
          have := hbase d1'
          omega
  · obtain ⟨x', hf, ht⟩ := slow_goes (ρ := ρ) o h
    obtain ⟨val, hv, hrun⟩ := ht base F w a hoc hI hA
    exact .value x' m F val w hf (Ext.refl F) hv hrun hI (Fares.refl _ _ _ _)

/-! ### Maps -/
theorem mapR_some {x : AV} {k : Nat → R} (h : mapR x k = some y) : ∃ f b, x = .fn f [.ptr b 0] ∧ Nat.ble mapId f = true ∧ k b = some y := by
  obtain ⟨f, l, rfl, h⟩ := fnR_some h
  obtain ⟨h1, h⟩ := gdR_some h
  split at h
  · obtain ⟨b, off, rfl, h⟩ := ptrR_some h
    obtain ⟨h2, h⟩ := gdR_some h
    obtain rfl : off = 0 := Nat.eq_of_beq_eq_true h2
    exact ⟨f, b, rfl, h1, h⟩
  · exact no h
theorem mapBlk_some {o : Option Blk} {k : Cells → R} (h : mapBlk o k = some y) : ∃ e z n c, o = some ⟨e, z, n, c⟩ ∧ z = mapZ ∧ k c = some y := by
  cases o with
  | none => exact no h
  | some b =>
    cases b with | mk e z n c =>
    obtain ⟨h1, h⟩ := gdR_some (show gdR (Nat.beq z mapZ) (k c) = some y from h)
    exact ⟨e, z, n, c, rfl, Nat.eq_of_beq_eq_true h1, h⟩
theorem toV1_is {x : AV} {v : Value} (h : toV1 x = some v) : Is x v := by
  obtain ⟨u, hu, h⟩ := asRaw_some h
  obtain rfl := Option.some.inj h
  exact hu
noncomputable def toV1s (l : List AV) : Option (List Value) := List.rec (motive := fun _ => Option (List Value)) (some []) (fun y _ ih => ob (toV1 y) fun v => ob ih fun vs => some (v :: vs)) l
theorem toV1s_den : ∀ {l : List AV} {vs : List Value}, toV1s l = some vs → ∀ (ρ : Syms) (F : Env), dens ρ F l = some vs
  | [], vs, h, ρ, F => by
    obtain rfl := Option.some.inj (show some [] = some vs from h)
    exact dens_nil F
  | x :: l, vs, h, ρ, F => by
    obtain ⟨v, hv, h⟩ := ob_some (show ob (toV1 x) (fun v => ob (toV1s l) fun vs => some (v :: vs)) = some vs from h)
    obtain ⟨us, hus, h⟩ := ob_some h
    obtain rfl := Option.some.inj h
    exact dens_cons_mk ((toV1_is hv).2 ρ F) (toV1s_den hus ρ F)
theorem toV_is {x : AV} {v : Value} (h : toV x = some v) : Is x v := by
  cases x with
  | agg l =>
    obtain ⟨vs, hvs, h⟩ := ob_some (show ob (toV1s l) (fun vs => some (Value.agg vs.toArray)) = some v from h)
    obtain rfl := Option.some.inj h
    exact ⟨by simp, fun ρ F => by simp [den, toV1s_den hvs ρ F]⟩
  | _ => exact toV1_is h
theorem toVs_cons (x : AV) (l : List AV) : toVs (x :: l) = ob (toV x) fun v => ob (toVs l) fun vs => some (v :: vs) := rfl
theorem toVs_append : ∀ {l r : List AV} {vs us : List Value}, toVs l = some vs → toVs r = some us → toVs (l ++ r) = some (vs ++ us)
  | [], r, vs, us, h, h2 => by
    obtain rfl := Option.some.inj (show some [] = some vs from h)
    simpa using h2
  | x :: l, r, vs, us, h, h2 => by
    rw [toVs_cons] at h
    obtain ⟨v, hv, h⟩ := ob_some h
    obtain ⟨ws, hws, h⟩ := ob_some h
    obtain rfl := Option.some.inj h
    show toVs (x :: (l ++ r)) = _
    rw [toVs_cons, hv, toVs_append hws h2]
    rfl
theorem toVs_take : ∀ {l : List AV} {vs : List Value} (n : Nat), toVs l = some vs → toVs (takeAV l n) = some (vs.take n)
  | l, vs, 0, h => by
    have e : takeAV l 0 = [] := by cases l <;> rfl
    rw [e]; simp [toVs]
  | [], vs, n + 1, h => by
    obtain rfl := Option.some.inj (show some [] = some vs from h)
    rfl
  | x :: l, vs, n + 1, h => by
    rw [toVs_cons] at h
    obtain ⟨v, hv, h⟩ := ob_some h
    obtain ⟨ws, hws, h⟩ := ob_some h
    obtain rfl := Option.some.inj h
    show toVs (x :: takeAV l n) = _
    rw [toVs_cons, hv, toVs_take n hws]
    rfl
theorem toVs_drop : ∀ {l : List AV} {vs : List Value} (n : Nat), toVs l = some vs → toVs (dropAV l n) = some (vs.drop n)
  | l, vs, 0, h => by
    have e : dropAV l 0 = l := by cases l <;> rfl
    rw [e]; simpa using h
  | [], vs, n + 1, h => by
    obtain rfl := Option.some.inj (show some [] = some vs from h)
    rfl
  | x :: l, vs, n + 1, h => by
    rw [toVs_cons] at h
    obtain ⟨v, hv, h⟩ := ob_some h
    obtain ⟨ws, hws, h⟩ := ob_some h
    obtain rfl := Option.some.inj h
    show toVs (dropAV l n) = _
    rw [toVs_drop n hws]
    rfl

theorem decE_length : ∀ (n : Nat) (vs : List Value) (i : Nat), vs.length = 2 * n → (decE vs i).length = n
  | 0, vs, i, h => by
    obtain rfl : vs = [] := List.length_eq_zero_iff.1 h
    rfl
  | n + 1, [], i, h => by simp at h
  | n + 1, [x], i, h => by simp at h; omega
  | n + 1, x :: z :: vs, i, h => by
    simp only [decE, List.length_cons]
    rw [decE_length n vs (i + 1) (by simp at h; omega)]
theorem decE_append : ∀ (n : Nat) (vs : List Value) (i : Nat) (k v : Value), vs.length = 2 * n → decE (vs ++ [k, v]) i = decE vs i ++ [{ key := k, val := v, born := i + n }]
  | 0, vs, i, k, v, h => by
    obtain rfl : vs = [] := List.length_eq_zero_iff.1 h
    simp [decE]
  | n + 1, [], i, k, v, h => by simp at h
  | n + 1, [x], i, k, v, h => by simp at h; omega
  | n + 1, x :: z :: vs, i, k, v, h => by
    simp only [List.cons_append, decE]
    rw [decE_append n vs (i + 1) k v (by simp at h; omega)]
    simp only [List.cons.injEq, true_and, List.append_cancel_left_eq, MapEntry.mk.injEq, and_true]
    omega
theorem decE_set : ∀ (j n : Nat) (vs : List Value) (i : Nat) (k v : Value), vs.length = 2 * n → j < n →
    decE (vs.take (2 * j) ++ (k :: v :: vs.drop (2 * j + 2))) i = (decE vs i).modify j fun e => { e with key := k, val := v }
  | j, 0, vs, i, k, v, h, hj => by omega
  | j, n + 1, [], i, k, v, h, hj => by simp at h
  | j, n + 1, [x], i, k, v, h, hj => by simp at h; omega
  | 0, n + 1, x :: z :: vs, i, k, v, h, hj => by simp [decE]
  | j + 1, n + 1, x :: z :: vs, i, k, v, h, hj => by
    have e1 : 2 * (j + 1) = 2 * j + 1 + 1 := by omega
    rw [e1]
    simp only [List.take_succ_cons, List.drop_succ_cons, List.cons_append, decE, List.modify_succ_cons]
    rw [decE_set j n vs (i + 1) k v (by simp at h; omega) (by omega)]

/-- a block is told anew, where it lies -/
theorem Inv.upd {H : B5} {nx wr : Nat} (hI : Inv ρ base F ⟨H, nx, wr⟩ w) {b : Nat} {k k' : Blk} {g : Nat} {c : Nat × Nat} {w' : World} (hlt : b < 32768) (hk : (⟨H, nx, wr⟩ : Mem).at b = some k) (hwr : wr ≤ b) (hF : F b = some (g, c)) (hblk : BlkOk ρ F k' g c w')
    (hheap : ∀ g', g' ≠ g → w'.heap[g']? = w.heap[g']?) (hsz : w.heap.size ≤ w'.heap.size) : Inv ρ base F ⟨H.put b (some k'), nx, wr⟩ w' := by
  obtain ⟨g0, c0, hF0, hbase, _, _⟩ := hI.live b k hk
  rw [hF] at hF0
  obtain ⟨rfl, rfl⟩ := Prod.mk.inj (Option.some.inj hF0)
  have hbg := hbase hwr
  have hget : ∀ b', b' ≠ b → (⟨H.put b (some k'), nx, wr⟩ : Mem).at b' = (⟨H, nx, wr⟩ : Mem).at b' := fun b' hb => at_other hlt hb
  have hsame : (⟨H.put b (some k'), nx, wr⟩ : Mem).at b = some k' := at_same hlt
  have hlive : ∀ b' k1, (⟨H.put b (some k'), nx, wr⟩ : Mem).at b' = some k1 → ∃ k0, (⟨H, nx, wr⟩ : Mem).at b' = some k0 := by
    intro b' k1 hk1
    by_cases e : b' = b
    · exact ⟨_, by rw [e]; exact hk⟩
    · exact ⟨k1, by rw [← hget b' e]; exact hk1⟩
  constructor
  · intro b' k1 hk1
    by_cases e1 : b' = b
    · subst e1
      rw [hsame] at hk1
      obtain rfl := Option.some.inj hk1
      exact ⟨g, c, hF, fun _ => hbg, fun hlt => by have hlt' : b' < wr := hlt; omega, hblk⟩
    · rw [hget b' e1] at hk1
      obtain ⟨g', c', h1, h2, h3, h4⟩ := hI.live b' k1 hk1
      have hne : g' ≠ g := by
        intro e2
        by_cases hw : wr ≤ b'
        · exact e1 (hI.apart b' b k1 _ (g', c') (g, c) hk1 hk hw hwr h1 hF e2)
        · have := h3 (show b' < wr by omega)
          omega
      exact ⟨g', c', h1, h2, h3, h4.ext (Ext.refl F) (hheap g' hne)⟩
  · intro b1 b2 k1 k2 x1 x2 hk1 hk2
    obtain ⟨k1', h1⟩ := hlive b1 k1 hk1
    obtain ⟨k2', h2⟩ := hlive b2 k2 hk2
    exact hI.apart b1 b2 k1' k2' x1 x2 h1 h2
  · exact hI.fresh
  · exact Nat.le_trans hI.size hsz
  · exact hI.wrnx

theorem keyT_some {t k e : TypeId} (h : keyT P t = some (k, e)) : P.underlying t = some (.map k e) := by
  unfold keyT at h
  split at h
  · rename_i k' e' hu
    obtain ⟨rfl, rfl⟩ := Prod.mk.inj (Option.some.inj h)
    exact hu
  · cases h
theorem find_some {kt : TypeId} {emp : Bool} {key : Value} {es : List MapEntry} {r : Option (Nat × Value)} (h : find? P kt emp key es = some r) :
    (∀ w, (Instr.checkKey emp 10000 kt key).run P w = .ok () w) ∧ ∀ w, (Instr.findKey kt key es).run P w = .ok r w := by
  obtain ⟨u, hu, h⟩ := ob_some h
  exact ⟨fun w => purely_run _ _ w hu, fun w => purely_run _ _ w h⟩

theorem makeMap_does (hI : Inv ρ base F m w) (o : Oper) {t : TypeId} (ho : o.op = .makeMap t none) (h : opMakeMap d kc ih fr es m = some y) : Does ρ P base F a w o d kc ih fr es m y := by
  cases m with | mk H nx wr =>
  have h' : strictR nx (fun b => heapPut H b (some ⟨0, mapZ, 0, .c1 (A1.put a1u 0 (.agg []))⟩) fun H => strictR (Nat.succ b) fun nx => fin d kc ih fr es ⟨H, nx, wr⟩ (.fn mapId [.ptr b 0])) = some y := h
  rw [strictR_eq] at h'
  obtain ⟨hlt, h'⟩ := heapPut_some h'
  rw [strictR_eq] at h'
  have hext : Ext F (addEnv F nx (w.heap.size, 0, 0)) := addEnv_ext (hI.fresh nx (Nat.le_refl _))
  refine .value _ _ (addEnv F nx (w.heap.size, 0, 0)) (.map (some w.heap.size)) (w.alloc (.map #[] 0)) h' hext ?_ ?_ ?_ ?_
  · simp only [den, mapName, addEnv_same, Option.map_some]
    rfl
  · unfold execOp
    simp only [ho]
    refine valued ?_
    simp [Instr.makeMap]
  · refine hI.put (at_same hlt) (fun b k' hb hk => by rw [← hk]; exact (at_other hlt hb).symm) ⟨fun h0 => absurd rfl h0, fun _ => ⟨[], [], 0, ?_, rfl, rfl, heap_alloc_new w _⟩⟩ hI.size ?_ (by simp)
    · exact A1.get_same _ _ _
    · intro b k' g' c' hb hk hF'
      obtain ⟨g3, c3', h1, _, _, h4⟩ := hI.live b k' (by rw [← hk]; exact (at_other hlt hb).symm)
      rw [hF'] at h1
      obtain ⟨rfl, rfl⟩ := Prod.mk.inj (Option.some.inj h1)
      have hlt := h4.lt
      exact ⟨by omega, heap_alloc_old w _ hlt⟩
  · exact Fares.put ((Below.refl base w).alloc hI.size _) (fun b k' hb hk => ⟨k', by rw [← hk]; exact (at_other hlt hb).symm⟩) (.inl (Nat.le_refl _)) (fun g hg _ => heap_alloc_old w _ hg)

/-- where a map lies -/
theorem map_at (hI : Inv ρ base F m w) (hA : Held ρ F (getG S sg fr es) a) {q : Operand} {f b : Nat} (hx : evO (getG S sg fr es) q = .fn f [.ptr b 0]) (hf : Nat.ble mapId f = true) {e n : Nat} {et : TypeId} {c : Cells} (hk : m.at b = some ⟨et, mapZ, n, c⟩) {l : List AV} (hl : c.get 0 = .agg l) {vs : List Value} (hvs : toVs l = some vs) :
    ∃ g cc k, a.eval q = .map (some g) ∧ F b = some (g, cc) ∧ vs.length = 2 * k ∧ (m.wr ≤ b → base ≤ g) ∧ w.heap[g]? = some (.map (decE vs 0).toArray (decE vs 0).length) := by
  have hv := hA.eval (x := q) (by rw [hx]; simp)
  rw [hx] at hv
  obtain ⟨b', off, x, hb, hF, hq⟩ := den_map hf hv
  simp only [List.cons.injEq, AV.ptr.injEq, and_true] at hb
  obtain ⟨rfl, rfl⟩ := hb
  obtain ⟨g, cc, hF', hbase, _, hblk⟩ := hI.live b _ hk
  rw [hF] at hF'
  obtain rfl := Option.some.inj hF'
  obtain ⟨l', vs', k, h1, h2, h3, h4⟩ := hblk.2 rfl
  rw [show (⟨et, mapZ, n, c⟩ : Blk).c.get 0 = c.get 0 from rfl, hl] at h1
  obtain rfl := AV.agg.inj h1
  rw [hvs] at h2
  obtain rfl := Option.some.inj h2
  exact ⟨g, cc, k, hq, hF, h3, hbase, h4⟩

theorem lookup_does (hI : Inv ρ base F m w) (hA : Held ρ F (getG S sg fr es) a) (o : Oper) {t kt et : TypeId} {x ix : Operand} {ok : Bool} (ho : o.op = .lookup t x ix ok) (hu : P.underlying t = some (.map kt et)) {i : TypeInfo} {z : Value} (hi : P.info? et = some i) (hiz : i.zero = some z)
    (h : opLookup P kt z ok (getB S sg x) (getB S sg ix) d kc ih fr es m = some y) : Does ρ P base F a w o d kc ih fr es m y := by
  obtain ⟨f, b, hx, hf, h⟩ := mapR_some h
  rw [getB_at] at hx
  obtain ⟨e, z', n, c, hk, rfl, h⟩ := mapBlk_some h
  obtain ⟨l, hl, h⟩ := aggR_some h
  obtain ⟨vs, hvs, h⟩ := obR_some h
  obtain ⟨key, hkey, h⟩ := obR_some h
  rw [getB_at] at hkey
  obtain ⟨r, hr, h⟩ := obR_some h
  obtain ⟨hck, hfk⟩ := find_some hr
  obtain ⟨g, cc, k, hq, hF, _, _, hh⟩ := map_at (e := 0) hI hA hx hf hk hl hvs
  have hix := hA.is (toV_is hkey)
  have hz := run_zero hi hiz w
  have goOn : ∀ v b, (execOp a.eval o).run P w = .ok (.value (if ok then .tuple #[v, .bool b] else v)) w →
      te ok (fin d kc ih fr es m (.tup [avOf v, .bool b])) (force (avOf v) fun v => fin d kc ih fr es m v) = some y → Does ρ P base F a w o d kc ih fr es m y := by
    intro v b hrun' hgo
    cases ok with
    | true => exact .value _ m F _ w hgo (Ext.refl F) (by simp [den, dens, (avOf_is v).2 ρ F]) hrun' hI (Fares.refl _ _ _ _)
    | false =>
      obtain ⟨_, hgo⟩ := force_some (show force (avOf v) (fun v => fin d kc ih fr es m v) = some y from hgo)
      exact .value _ m F _ w hgo (Ext.refl F) ((avOf_is v).2 ρ F) hrun' hI (Fares.refl _ _ _ _)
  have start : ∀ v, (Instr.lookup t (.map (some g)) key ok).run P w = .ok v w → (execOp a.eval o).run P w = .ok (.value v) w := by
    intro v hv
    unfold execOp
    simp only [ho, hq, hix]
    exact valued hv
  cases r with
  | some p =>
    refine goOn p.2 true (start _ ?_) h
    simp only [Instr.lookup, Sem.run_bind, run_underlying hu, Result.andThen_ok, MapKept.run_getObj_map hh, Sem.run_pure, List.isEmpty_toArray, hck, List.toList_toArray, hfk]
  | none =>
    refine goOn z false (start _ ?_) h
    simp only [Instr.lookup, Sem.run_bind, run_underlying hu, Result.andThen_ok, MapKept.run_getObj_map hh, Sem.run_pure, List.isEmpty_toArray, hck, List.toList_toArray, hfk, hz]

theorem mapUpd_does (hI : Inv ρ base F m w) (hA : Held ρ F (getG S sg fr es) a) (o : Oper) {t kt et : TypeId} {x ix q : Operand} (ho : o.op = .mapUpdate t x ix q ∨ o.op = .insert t x ix q) (hu : P.underlying t = some (.map kt et))
    (h : opMapUpd P kt (getB S sg x) (getB S sg ix) (getB S sg q) d kc ih fr es m = some y) : Does ρ P base F a w o d kc ih fr es m y := by
  obtain ⟨f, b, hx, hf, h⟩ := mapR_some h
  rw [getB_at] at hx
  cases m with | mk H nx wr =>
  rw [memR_eq] at h
  obtain ⟨hwr, h⟩ := gdR_some h
  obtain ⟨e, z', n, c, hk, rfl, h⟩ := mapBlk_some h
  obtain ⟨l, hl, h⟩ := aggR_some h
  obtain ⟨vs, hvs, h⟩ := obR_some h
  obtain ⟨key, hkey, h⟩ := obR_some h
  obtain ⟨val, hval, h⟩ := obR_some h
  rw [getB_at] at hkey hval
  rw [getB_at, getB_at] at h
  obtain ⟨r, hr, h⟩ := obR_some h
  obtain ⟨hck, hfk⟩ := find_some hr
  have hwr' : wr ≤ b := Nat.le_of_ble_eq_true hwr
  obtain ⟨g, cc, k, hq, hF, hlen, hbase, hh⟩ := map_at (e := 0) hI hA hx hf hk hl hvs
  have hbg := hbase hwr'
  have hix := hA.is (toV_is hkey)
  have hqv := hA.is (toV_is hval)
  have hglt := (Array.getElem?_eq_some_iff.1 hh).1
  -- whatever is put in its place
  have goOn : ∀ (l' : List AV) (vs' : List Value) (k' : Nat), toVs l' = some vs' → vs'.length = 2 * k' →
      heapPut H b (some ⟨0, mapZ, 0, c.put 0 (.agg l')⟩) (fun H => fin d kc ih fr es ⟨H, nx, wr⟩ undefAV) = some y →
      (Instr.mapUpdate t (.map (some g)) key val).run P w = .ok () { w with heap := w.heap.setIfInBounds g (.map (decE vs' 0).toArray (decE vs' 0).length) } → Does ρ P base F a w o d kc ih fr es ⟨H, nx, wr⟩ y := by
    intro l' vs' k' hl' hk' hgo hrun
    obtain ⟨hlt, hgo⟩ := heapPut_some hgo
    have hother : ∀ g', g' ≠ g → ({ w with heap := w.heap.setIfInBounds g (.map (decE vs' 0).toArray (decE vs' 0).length) } : World).heap[g']? = w.heap[g']? := fun g' hne => by
      simp [Array.getElem?_setIfInBounds_ne (fun e => hne e.symm)]
    refine .skip _ { w with heap := w.heap.setIfInBounds g (.map (decE vs' 0).toArray (decE vs' 0).length) } hgo ?_ ?_ ?_
    · unfold execOp
      rcases ho with ho | ho <;> simp only [ho, hq, hix, hqv, Sem.run_bind, hrun, Result.andThen_ok, Sem.run_pure]
    · refine hI.upd hlt hk hwr' hF ⟨fun h0 => absurd rfl h0, fun _ => ⟨l', vs', k', Cells.get_same _ _ _, hl', hk', ?_⟩⟩ hother (by simp)
      simp [hglt]
    · refine Fares.write ⟨rfl, rfl, rfl, by simp, fun k1 hk1 => hother k1 (by omega)⟩ (fun b' k1 hk1 => ?_) hk hF hother
      by_cases e1 : b' = b
      · exact ⟨_, by rw [e1]; exact hk⟩
      · exact ⟨k1, by rw [← hk1]; exact (at_other hlt e1).symm⟩
  have hel := decE_length k vs 0 hlen
  cases r with
  | some p =>
    obtain ⟨hkey', h⟩ := gdR_some (show gdR (keyAt (decE vs 0) p.1 key) (heapPut H b (some ⟨0, mapZ, 0, c.put 0 (.agg (setVal l p.1 (evO (getG S sg fr es) ix) (evO (getG S sg fr es) q)))⟩) fun H => fin d kc ih fr es ⟨H, nx, wr⟩ undefAV) = some y from h)
    unfold keyAt at hkey'
    split at hkey'
    · rename_i ent hent
      have hlt : p.1 < k := by
        have := (List.getElem?_eq_some_iff.1 hent).1
        omega
      have hset : toVs (setVal l p.1 (evO (getG S sg fr es) ix) (evO (getG S sg fr es) q)) = some (vs.take (2 * p.1) ++ (key :: val :: vs.drop (2 * p.1 + 2))) := by
        refine toVs_append (toVs_take _ hvs) ?_
        rw [toVs_cons, hkey]
        show ob (toVs (evO (getG S sg fr es) q :: dropAV l (Nat.add (Nat.mul 2 p.1) 2))) _ = _
        rw [toVs_cons, hval, toVs_drop _ hvs]
        rfl
      refine goOn _ _ k hset (by simp; omega) h ?_
      rw [decE_set p.1 k vs 0 key val hlen hlt]
      have hent' : (decE vs 0).toArray[p.1]? = some ent := by simpa using hent
      simp only [Instr.mapUpdate, Sem.run_bind, run_underlying hu, Result.andThen_ok, MapKept.run_getObj_map hh, hck, List.toList_toArray, hfk, hent', Option.map_some, Option.getD_some, Instr.keyThatStays, hkey', if_true, Sem.run_pure, MapKept.run_setObj_map _ hh]
      simp
    · cases hkey'
  | none =>
    have happ : toVs (l ++ [evO (getG S sg fr es) ix, evO (getG S sg fr es) q]) = some (vs ++ [key, val]) := by
      refine toVs_append hvs ?_
      rw [toVs_cons, hkey]
      show ob (toVs [evO (getG S sg fr es) q]) _ = _
      rw [toVs_cons, hval]
      rfl
    refine goOn _ _ (k + 1) happ (by simp; omega) h ?_
    rw [decE_append k vs 0 key val hlen]
    simp only [Instr.mapUpdate, Sem.run_bind, run_underlying hu, Result.andThen_ok, MapKept.run_getObj_map hh, hck, List.toList_toArray, hfk, MapKept.run_setObj_map _ hh]
    simp [hel]

theorem cEff_does (hoc : OrcOk ρ P oc) (hI : Inv ρ base F m w) (hA : Held ρ F (getG S sg fr es) a) (o : Oper) {ko : KO} (hc : cEff P oc S sg o.op d kc = some ko) (h : ko.run ih fr es m = some y) : Does ρ P base F a w o d kc ih fr es m y := by
  generalize ho : o.op = op at hc
  cases op <;> simp only [cEff] at hc <;> try cases hc
  case alloc e =>
    obtain ⟨z, hz, hc⟩ := ob_some hc
    obtain ⟨i, hi, hiz⟩ := zeroT_some hz
    rw [te_eq] at hc
    split at hc
    · rename_i hok
      rw [strictN_eq] at hc
      obtain rfl := Option.some.inj hc
      exact alloc_does hI o ho hi hiz ((allocC_eq hok d kc ih fr es m).symm.trans h)
    · obtain rfl := Option.some.inj hc
      exact alloc_does hI o ho hi hiz h
  case box e x => exact box_does hI hA o ho h
  case buildSlice t len ps =>
    obtain ⟨e, he, hc⟩ := ob_some hc
    obtain ⟨s, hs, hc⟩ := ob_some hc
    obtain ⟨i, hi, rfl⟩ := sizeT_some hs
    rw [te_eq] at hc
    by_cases hz0 : te (Nat.beq len 0) (Nat.beq ps.size 0) false = true
    · rw [if_pos hz0] at hc
      obtain ⟨z1, z2⟩ := both hz0
      obtain rfl := Option.some.inj hc
      exact empty_does hI o ho (elemT_some he) hi (Nat.eq_of_beq_eq_true z1) (Nat.eq_of_beq_eq_true z2) h
    rw [if_neg hz0] at hc
    obtain ⟨z, hz, hc⟩ := ob_some hc
    obtain ⟨c1, hc⟩ := gd_some hc
    obtain ⟨c2, hc⟩ := gd_some hc
    obtain ⟨c3, hc⟩ := gd_some hc
    obtain ⟨i', hi', hiz⟩ := zeroT_some hz
    rw [hi] at hi'
    obtain rfl := Option.some.inj hi'
    rw [lenAV_eq] at c3
    cases hone : oneP len ps.toList with
    | none =>
      rw [hone] at hc
      obtain rfl := Option.some.inj (show some _ = some ko from hc)
      exact buildSlice_does hI hA o ho (elemT_some he) hi hiz (Nat.le_of_ble_eq_true c1) (Nat.le_of_ble_eq_true c2) (Nat.eq_of_beq_eq_true c3) h
    | some q =>
      rw [hone] at hc
      obtain rfl := Option.some.inj (show some _ = some ko from hc)
      obtain ⟨rfl, hp⟩ := oneP_some hone
      exact buildSlice_does hI hA o ho (elemT_some he) hi hiz (Nat.le_of_ble_eq_true c1) (Nat.le_of_ble_eq_true c2) (Nat.eq_of_beq_eq_true c3) (build1_eq (Nat.eq_of_beq_eq_true c3) hp h)
  case makeSlice t l c =>
    obtain ⟨e, he, hc⟩ := ob_some hc
    obtain ⟨i, hi, hc⟩ := ob_some hc
    obtain ⟨z, hz, hc⟩ := ob_some hc
    obtain ⟨c1, hc⟩ := gd_some hc
    obtain ⟨c2, hc⟩ := gd_some hc
    obtain ⟨c3, hc⟩ := gd_some hc
    obtain rfl := Option.some.inj hc
    rw [lenAV_eq] at c3
    exact makeSlice_does hI hA o ho (elemT_some he) hi hz (Nat.le_of_ble_eq_true c1) (Nat.le_of_ble_eq_true c2) (Nat.eq_of_beq_eq_true c3) h
  case store t p q =>
    obtain ⟨s, hs, hc⟩ := ob_some hc
    obtain ⟨i, hi, rfl⟩ := sizeT_some hs
    rw [te_eq] at hc
    by_cases h1 : te (Nat.beq i.size 1) (flatT P t) false = true
    · rw [if_pos h1] at hc
      rw [te_eq] at h1
      by_cases h2 : Nat.beq i.size 1 = true
      · obtain rfl := Option.some.inj hc
        exact store1_does hI hA o ho hi (Nat.eq_of_beq_eq_true h2) h
      · rw [if_neg h2] at h1
        cases h1
    · rw [if_neg h1] at hc
      obtain rfl := Option.some.inj hc
      exact storeN_does hI hA o ho hi h
  case slice t x lo hi mx =>
    cases mx with
    | none => cases hc
    | some q =>
     cases hi with
     | none => cases hc
     | some hi =>
      cases he : elemT P t with
      | none =>
        simp only [cClip, he] at hc
        obtain rfl := Option.some.inj hc
        obtain ⟨x', hf, ht⟩ := slow_goes (ρ := ρ) o (by rw [ho]; exact h)
        obtain ⟨val, hv, hrun⟩ := ht base F w a hoc hI hA
        exact .value x' m F val w hf (Ext.refl F) hv hrun hI (Fares.refl _ _ _ _)
      | some e =>
        simp only [cClip, he] at hc
        obtain ⟨s, hs, hc⟩ := ob_some hc
        obtain rfl := Option.some.inj hc
        obtain ⟨ie, hie, rfl⟩ := sizeT_some hs
        exact clip_does hoc hI hA o ho (elemT_some he) hie (by rw [ho]; exact h)
  case makeMap t r =>
    obtain ⟨p, hp, hc⟩ := ob_some hc
    cases r with
    | some _ => cases hc
    | none =>
      obtain rfl := Option.some.inj hc
      exact makeMap_does hI o ho h
  case lookup t x ix ok =>
    obtain ⟨p, hp, hc⟩ := ob_some hc
    obtain ⟨z, hz, hc⟩ := ob_some hc
    obtain ⟨i, hi, hiz⟩ := zeroT_some hz
    obtain rfl := Option.some.inj hc
    exact lookup_does hI hA o ho (keyT_some (k := p.1) (e := p.2) hp) hi hiz h
  case mapUpdate t x ix q =>
    obtain ⟨p, hp, hc⟩ := ob_some hc
    obtain rfl := Option.some.inj hc
    exact mapUpd_does hI hA o (.inl ho) (keyT_some (k := p.1) (e := p.2) hp) h
  case insert t x ix q =>
    obtain ⟨p, hp, hc⟩ := ob_some hc
    obtain rfl := Option.some.inj hc
    exact mapUpd_does hI hA o (.inr ho) (keyT_some (k := p.1) (e := p.2) hp) h
  case call c =>
    unfold cCallE at hc
    split at hc
    · rename_i f hcf
      obtain rfl := Option.some.inj hc
      exact call_does hA o ho hcf h
    · rename_i b hcb
      split at hc
      · obtain ⟨x, q, hxq, hc⟩ := two_some hc
        obtain ⟨t, ty, htt, hc⟩ := two_some hc
        obtain ⟨c1, hc⟩ := gd_some hc
        obtain ⟨e, he, hc⟩ := ob_some hc
        obtain ⟨ie, hie, hc⟩ := ob_some hc
        obtain ⟨z, hz, hc⟩ := ob_some hc
        obtain ⟨c2, hc⟩ := gd_some hc
        obtain rfl := Option.some.inj hc
        rw [lenAV_eq] at c2
        have e1 : t = ty := Nat.eq_of_beq_eq_true c1
        rw [← e1] at htt
        have hyq : ∀ {q' : AV}, evO (getG S sg fr es) q = q' → q' ≠ .bad → den ρ F q' = some (a.eval q) := fun h1 h2 => by rw [← h1]; exact hA.eval (by rw [h1]; exact h2)
        rcases appendCase (show AV.rec (motive_1 := fun _ => (Value → R) → (Nat → Nat → Nat → Nat → R) → R) (motive_2 := fun _ => Unit)
          (fun v k _ => k v) (fun _ _ _ => none) (fun _ _ _ => none) (fun _ _ _ _ => none) (fun b off len sz _ k => k b off len sz) (fun _ _ _ _ => none) (fun _ _ _ _ => none) (fun _ _ _ _ _ => none) (fun _ _ => none) (fun _ _ _ => none) (fun _ _ _ _ => none) (fun _ _ _ => none) (fun _ _ _ _ => none) () (fun _ _ _ _ => ()) ((getB S sg q).at fr es)
          (fun v => gdR (nilSl v) (opSame ie.size (getB S sg x) d kc ih fr es m)) (fun _ _ n _ => teR (Nat.beq n 0) (opSame ie.size (getB S sg x) d kc ih fr es m) (opAppend e ie.size ie.bytes (getB S sg x) (getB S sg q) d kc ih fr es m)) = some y from h) with ⟨v, hv, h⟩ | ⟨b, off, len, sz, hv, h⟩
        · rw [getB_at] at hv
          obtain ⟨h1, h⟩ := gdR_some h
          obtain ⟨cc, rfl⟩ := nilSl_eq' h1
          have h2 := hyq hv (by simp)
          simp only [den, Option.some.injEq] at h2
          exact same_does hI hA o ho hcb hxq htt (elemT_some he) hie ⟨none, cc, h2.symm, .inl rfl⟩ h
        · rw [getB_at] at hv
          rw [teR_eq] at h
          split at h
          · rename_i h1
            have h2 := hyq hv (by simp)
            obtain ⟨g', cB', hF', hxv⟩ := den_sl h2
            rw [Nat.eq_of_beq_eq_true h1] at hxv
            exact same_does hI hA o ho hcb hxq htt (elemT_some he) hie ⟨_, _, hxv, .inr ⟨_, rfl⟩⟩ h
          · exact append_does hI hA o ho hcb hxq htt (elemT_some he) hie hz (Nat.eq_of_beq_eq_true c2) h
      · obtain ⟨x, q, hxq, hc⟩ := two_some hc
        obtain ⟨t, ty, htt, hc⟩ := two_some hc
        obtain ⟨e, he, hc⟩ := ob_some hc
        obtain ⟨s, hs, hc⟩ := ob_some hc
        obtain rfl := Option.some.inj hc
        obtain ⟨ie, hie, rfl⟩ := sizeT_some hs
        exact copy_does hI hA o ho hcb hxq htt (elemT_some he) hie h
      · cases hc
    · cases hc

end Go.Proofs.YtplnnlnkcfappaaGreat.E3
