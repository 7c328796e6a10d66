/- The second evaluator tells the truth, part 12: regions that draw their order, gone through by a plan: new blocks that may come up at any time beside other effects; loads that come late. -/
import Derived.Test.YtplnnlnkcfappaaGreatQp
namespace Go.Proofs.YtplnnlnkcfappaaGreat.E3
open Go Go.RowKit
set_option linter.unusedSimpArgs false
set_option linter.unusedVariables false

variable {ρ : Syms} {P : Program} {oc : Orc} {S n : Nat} {ops : Array Oper} {Q : Exit → Act → World → Prop}

/-! ### What a new block is made of -/
theorem okAll_mem : ∀ {l : List AV}, okAll l = true → ∀ x ∈ l, x ≠ .bad
  | [], _, x, hx => by cases hx
  | z :: l, h, x, hx => by
    obtain ⟨h1, h2⟩ := both (show te (okAV z) (okAll l) false = true from h)
    rcases List.mem_cons.1 hx with rfl | hx
    · rintro rfl; exact absurd h1 (by decide)
    · exact okAll_mem h2 x hx

theorem made_some {sg : List Nat} {fr : Fr} {es : Es} {y : Out} {o : Oper} {e : TypeId} {z : Nat} (hT : mkT P o.op = some (e, z)) {f : MkF} (hF : mkF P S sg o.op = some f) {k : List AV → R} (h : f.run fr es k = some y) :
    ∃ x l, k (x :: l) = some y ∧ ∀ (F : Env) (a : Act), Held ρ F (getG S sg fr es) a → ∃ vs, ∃ V : Nat → Value, dens ρ F l = some vs ∧
      (∀ w : World, (execOp a.eval o).run P w = .ok (.value (V w.heap.size)) (w.alloc (.cells vs.toArray e))) ∧ ∀ (F' : Env) (b g : Nat), F' b = some (g, l.length, 0) → ∃ x', nameOf x b = some x' ∧ den ρ F' x' = some (V g) := by
  generalize ho : o.op = op at hT hF
  cases op <;> simp only [mkT, mkF] at hT hF <;> try cases hF
  case alloc e0 =>
    obtain ⟨rfl, rfl⟩ := Prod.mk.inj (Option.some.inj hT)
    obtain ⟨z', hz, hF⟩ := ob_some hF
    obtain ⟨i, hi, hiz⟩ := zeroT_some hz
    obtain rfl := Option.some.inj hF
    refine ⟨_, _, h, fun F a hA => ⟨_, fun g => .pointer (some ⟨g, 0, none⟩), dens_cellsV F z', fun w => ?_, fun F' b g hb => ⟨.ptr b 0, rfl, by simp [den, hb]⟩⟩⟩
    unfold execOp
    simp only [ho]
    refine valued ?_
    simp [Instr.alloc, run_zero hi hiz, newVar, newRow]
  case box e0 q =>
    obtain ⟨rfl, rfl⟩ := Prod.mk.inj (Option.some.inj hT)
    obtain ⟨hok, h⟩ := gdR_some (show gdR (okAll (cellsAV ((getB S sg q).at fr es))) (k (.ptr 0 0 :: cellsAV ((getB S sg q).at fr es))) = some y from h)
    rw [getB_at] at hok h
    refine ⟨_, _, h, fun F a hA => ⟨_, fun g => .pointer (some ⟨g, 0, none⟩), dens_cellsAV (hA.eval (cells_ok (okAll_mem hok))), fun w => ?_, fun F' b g hb => ⟨.ptr b 0, rfl, by simp [den, hb]⟩⟩⟩
    unfold execOp
    simp only [ho]
    refine valued ?_
    simp [Instr.box, newVar, newRow]
  case buildSlice t len ps =>
    obtain ⟨e', he, hT⟩ := ob_some hT
    obtain ⟨s, hs, hT⟩ := ob_some hT
    obtain ⟨rfl, rfl⟩ := Prod.mk.inj (Option.some.inj hT)
    obtain ⟨e2, he2, hF⟩ := ob_some hF
    rw [he] at he2
    obtain rfl := Option.some.inj he2
    obtain ⟨s2, hs2, hF⟩ := ob_some hF
    rw [hs] at hs2
    obtain rfl := Option.some.inj hs2
    obtain ⟨i, hi, rfl⟩ := sizeT_some hs
    rw [te_eq] at hF
    by_cases hz0 : te (Nat.beq len 0) (Nat.beq ps.size 0) false = true
    · rw [if_pos hz0] at hF
      obtain ⟨z1, z2⟩ := both hz0
      have hlast := Option.some.inj hF
      clear hF hz0
      subst hlast
      have z1' : len = 0 := Nat.eq_of_beq_eq_true z1
      have z2' := Array.eq_empty_of_size_eq_zero (Nat.eq_of_beq_eq_true z2)
      clear z1 z2
      subst z1' z2'
      refine ⟨_, _, h, fun F a hA => ⟨_, fun g => .slice (some ⟨g, 0, none⟩) 0 0, dens_nil F, fun w => ?_, fun F' b g hb => ⟨.sl b 0 0 i.size, rfl, by simp [den, hb]⟩⟩⟩
      unfold execOp
      simp only [ho]
      refine valued ?_
      have e0 : ∀ f : Nat → Value, Array.map f (Array.range 0) = #[] := fun f => by simp
      simp [Instr.buildSlice, run_underlying (elemT_some he), sizeOf, typeInfo, hi, newRow, Instr.fill, e0]
    · rw [if_neg hz0] at hF
      obtain ⟨z', hz, hF⟩ := ob_some hF
      obtain ⟨c1, hF⟩ := gd_some hF
      obtain ⟨c2, hF⟩ := gd_some hF
      obtain ⟨c3, hF⟩ := gd_some hF
      obtain rfl := Option.some.inj hF
      obtain ⟨i', hi', hiz⟩ := zeroT_some hz
      rw [hi] at hi'
      obtain rfl := Option.some.inj hi'
      rw [lenAV_eq] at c3
      have c1' : len * i.size ≤ 4096 := Nat.le_of_ble_eq_true c1
      have c2' : 1 ≤ len * i.size := Nat.le_of_ble_eq_true c2
      have c3' : z'.cells.size = i.size := by
        have := dens_length (dens_cellsV (ρ := ρ) (fun _ => none) z')
        rw [Nat.eq_of_beq_eq_true c3] at this
        simpa using this
      have hpos : 0 < i.size := by
        rcases Nat.eq_zero_or_pos i.size with h0 | h0
        · rw [h0] at c2'; simp at c2'
        · exact h0
      obtain ⟨l, hl, h⟩ := obR_some (show obR (fillAV (fun j => some (Nat.mul j i.size, i.size)) (evParts (getG S sg fr es) ps) (repeatAV (cellsV z') len)) (fun l => k (.sl 0 0 len i.size :: l)) = some y from h)
      refine ⟨_, _, h, fun F a hA => ?_⟩
      obtain ⟨vs, h1, h2, h3⟩ := fillAV_spec (F := F) _ _ _ _ _ _ hl (dens_repeat (dens_cellsV F z') len) (evParts_PV hA ps)
      have hll : l.length = len * i.size := by
        have := dens_length h1
        rw [h3, repeatV_length] at this
        simp only [Array.length_toList, c3'] at this
        exact this.symm
      refine ⟨vs, fun g => .slice (some ⟨g, 0, none⟩) len len, h1, fun w => ?_, fun F' b g hb => ⟨.sl b 0 len i.size, rfl, ?_⟩⟩
      · unfold execOp
        simp only [ho]
        refine valued (run_buildSlice w t e' len _ _ i z' (elemT_some he) hi hiz (by omega) (by omega) ?_)
        rw [repeat_array z'.cells i.size len c3' hpos]
        exact h2
      · simp only [den, hb, Option.map_some, Nat.sub_zero, slOff_zero]
        rw [hll, Nat.mul_div_cancel _ hpos]
  case makeSlice t q r =>
    obtain ⟨e', he, hT⟩ := ob_some hT
    obtain ⟨s, hs, hT⟩ := ob_some hT
    obtain ⟨rfl, rfl⟩ := Prod.mk.inj (Option.some.inj hT)
    obtain ⟨e2, he2, hF⟩ := ob_some hF
    rw [he] at he2
    obtain rfl := Option.some.inj he2
    obtain ⟨i, hi, hF⟩ := ob_some hF
    obtain ⟨i', hi', rfl⟩ := sizeT_some hs
    rw [hi] at hi'
    obtain rfl := Option.some.inj hi'
    obtain ⟨z', hz, hF⟩ := ob_some hF
    obtain ⟨c1, hF⟩ := gd_some hF
    obtain ⟨c2, hF⟩ := gd_some hF
    obtain ⟨c3, hF⟩ := gd_some hF
    obtain rfl := Option.some.inj hF
    rw [lenAV_eq] at c3
    have c4' : i.bytes ≤ 4096 := Nat.le_of_ble_eq_true c1
    have hpos : 0 < i.size := Nat.le_of_ble_eq_true c2
    have c6' : z'.cells.size = i.size := by
      have := dens_length (dens_cellsV (ρ := ρ) (fun _ => none) z')
      rw [Nat.eq_of_beq_eq_true c3] at this
      simpa using this
    obtain ⟨kl, nn, hq, h⟩ := natR_some (show natR ((getB S sg q).at fr es) (fun n => natR ((getB S sg r).at fr es) fun q => gdR (Nat.beq n q) (gdR (Nat.ble n 4096) (k (.sl 0 0 n i.size :: repeatAV (cellsV z') n)))) = some y from h)
    obtain ⟨kc', kk, hr, h⟩ := natR_some h
    rw [getB_at] at hq hr
    obtain ⟨d1, h⟩ := gdR_some h
    obtain ⟨d2, hlast⟩ := gdR_some h
    have d1' : nn = kk := Nat.eq_of_beq_eq_true d1
    clear d1
    subst d1'
    have d2' : nn ≤ 4096 := Nat.le_of_ble_eq_true d2
    refine ⟨_, _, hlast, fun F a hA => ?_⟩
    have hd := dens_repeat (dens_cellsV (ρ := ρ) F z') nn
    have hll : (repeatAV (cellsV z') nn).length = nn * i.size := by
      have := dens_length hd
      rw [repeatV_length] at this
      simp only [Array.length_toList, c6'] at this
      exact this.symm
    have hb : i.bytes * nn ≤ 16777216 := Nat.le_trans (Nat.mul_le_mul c4' d2') (by decide)
    have hbI : (i.bytes : Int) * (nn : Int) ≤ 281474976710656 := by
      have h1 : ((i.bytes * nn : Nat) : Int) ≤ ((16777216 : Nat) : Int) := Int.ofNat_le.2 hb
      rw [Int.natCast_mul] at h1
      exact Int.le_trans h1 (by decide)
    refine ⟨_, fun g => .slice (some ⟨g, 0, none⟩) nn nn, hd, fun w => ?_, fun F' b g hb => ⟨.sl b 0 nn i.size, rfl, ?_⟩⟩
    · unfold execOp
      simp only [ho, hA.is hq, hA.is hr]
      refine valued ?_
      have hrun := run_make (P := P) w t e' i z' (elemT_some he) hi hz kl kc' (nn : Int) (nn : Int) (Int.natCast_nonneg nn) (Int.le_refl _) hbI (by omega)
      rw [show (Value.int kl (Int.ofNat nn)) = Value.int kl (nn : Int) from rfl, show (Value.int kc' (Int.ofNat nn)) = Value.int kc' (nn : Int) from rfl, hrun]
      simp only [Int.toNat_natCast]
      congr 3
      rw [← repeat_array z'.cells i.size nn c6' hpos]
      rfl
    · simp only [den, hb, Option.map_some, Nat.sub_zero, slOff_zero]
      rw [hll, Nat.mul_div_cancel _ hpos]

/-- a block that stands already is named -/
theorem land_some {base : Nat} {F : Env} {m : Mem} {w : World} (h : Inv ρ base F m w) {e : TypeId} {z : Nat} {l : List AV} {vs : List Value} {k : Nat → Mem → R} {y : Out}
    (hd : dens ρ F l = some vs) (hr : m.new e z l k = some y) {g : Nat} (hg : w.heap[g]? = some (.cells vs.toArray e)) (hbg : base ≤ g) (ha : Away F m g) :
    ∃ b m' F', k b m' = some y ∧ Ext F F' ∧ F' b = some (g, l.length, 0) ∧ Inv ρ base F' m' w ∧ ∀ g', g' ≠ g → Away F m g' → Away F' m' g' := by
  cases m with | mk H nx wr =>
  unfold Mem.new at hr
  rw [strictR_eq, lenAV_eq] at hr
  obtain ⟨hlen, hr⟩ := gdR_some hr
  obtain ⟨hz, hr⟩ := gdR_some hr
  obtain ⟨c0, hcap, _, _, hr⟩ := fit_some hr
  obtain ⟨c, hr, p1, p2, _, p4, _⟩ := putAll_some _ _ _ _ _ hr (by omega)
  rw [memR_eq, strictR_eq] at hr
  obtain ⟨hlt, hr⟩ := heapPut_some hr
  rw [strictR_eq] at hr
  have hlen' : l.length ≤ 4096 := Nat.le_of_ble_eq_true hlen
  obtain ⟨hz', hzm⟩ := zOk_some hz
  have hvl := dens_length hd
  have hone : ∀ v ∈ vs, v.oneCell' = true := by
    intro v hv
    obtain ⟨i, hi, rfl⟩ := List.mem_iff_getElem.1 hv
    obtain ⟨u, h1, h2⟩ := dens_get hd i (by omega)
    rw [List.getElem?_eq_getElem hi] at h2
    obtain rfl := Option.some.inj h2
    exact one_den h1 (p2 _ (List.getElem_mem _))
  have hext : Ext F (addEnv F nx (g, l.length, 0)) := addEnv_ext (h.fresh nx (Nat.le_refl _))
  have hsz : vs.toArray.size = l.length := by simpa using hvl
  refine ⟨nx, _, addEnv F nx (g, l.length, 0), hr, hext, addEnv_same _ _ _, ?_, ?_⟩
  · refine h.put (at_same hlt) (fun b k' hb hk' => by rw [← hk']; exact (at_other hlt hb).symm) ?_ hbg ?_ (Nat.le_refl _)
    · exact BlkOk.row (z := z) (t := c) (dens_ext hext _ _ hd) (fun j hj => by have := p4 j hj; rwa [Nat.zero_add] at this) hone hg (fun j v hv => by simpa using hv) (by omega) (Nat.le_refl _)
        hz' hzm (Nat.le_trans (Nat.div_le_self _ _) (by simp only [maxLen]; omega)) (by omega) l.length rfl
    · intro b k' g' c' hb hk' hF
      exact ⟨ha b k' (g', c') (by rw [← hk']; exact (at_other hlt hb).symm) hF, rfl⟩
  · intro g' hne ha' b k' x hk' hx
    by_cases hb : b = nx
    · rw [hb, addEnv_same] at hx
      rw [← Option.some.inj hx]
      exact hne.symm
    · simp only [addEnv, if_neg hb] at hx
      exact ha' b k' x (by rw [← hk']; exact (at_other hlt hb).symm) hx

/-! ### Marks -/
theorem set_comm (la : Array Bool) (i j : Nat) : (la.setIfInBounds i true).setIfInBounds j true = (la.setIfInBounds j true).setIfInBounds i true := by
  by_cases h : i = j
  · rw [h]
  · exact Array.setIfInBounds_comm _ _ h
theorem set_twice (la : Array Bool) (i : Nat) : (la.setIfInBounds i true).setIfInBounds i true = la.setIfInBounds i true := by simp
theorem markL_cons (la : Array Bool) (p : Nat × Bool) (fl : List (Nat × Bool)) : markL la (p :: fl) = if p.2 then (markL la fl).setIfInBounds p.1 true else markL la fl := by
  show te p.2 ((markL la fl).setIfInBounds p.1 true) (markL la fl) = _
  rw [te_eq]
theorem markL_set (la : Array Bool) (i : Nat) : ∀ fl, markL (la.setIfInBounds i true) fl = (markL la fl).setIfInBounds i true
  | [] => rfl
  | p :: fl => by
    rw [markL_cons, markL_cons, markL_set la i fl]
    split
    · exact set_comm _ _ _
    · rfl

def flagN (i : Nat) (fl : List (Nat × Bool)) : List (Nat × Bool) := fl.map fun p => if p.1 = i then (p.1, true) else p
theorem markL_flag (la : Array Bool) (i : Nat) : ∀ fl : List (Nat × Bool), i ∈ fl.map (·.1) → markL la (flagN i fl) = (markL la fl).setIfInBounds i true
  | [], h => by cases h
  | p :: fl, h => by
    show markL la ((if p.1 = i then (p.1, true) else p) :: flagN i fl) = _
    rw [markL_cons, markL_cons]
    by_cases hin : i ∈ fl.map (·.1)
    · rw [markL_flag la i fl hin]
      by_cases hp : p.1 = i
      · rw [if_pos hp]
        simp only [if_true, hp]
        rw [set_twice]
        split
        · rw [set_twice]
        · rfl
      · rw [if_neg hp]
        split
        · exact set_comm _ _ _
        · rfl
    · have hp : p.1 = i := by
        rcases List.mem_cons.1 h with h | h
        · exact h.symm
        · exact absurd h hin
      have hfl : flagN i fl = fl := by
        unfold flagN
        refine (List.map_congr_left (fun q hq => ?_)).trans (List.map_id fl)
        rw [if_neg (fun e => hin (List.mem_map.2 ⟨q, hq, e⟩))]
        rfl
      rw [hfl, if_pos hp]
      simp only [if_true, hp]
      split
      · rw [set_twice]
      · rfl

theorem hasN_iff {i : Nat} : ∀ {l : List Nat}, hasN i l = true ↔ i ∈ l
  | [] => by show false = true ↔ _; simp
  | x :: l => by
    show te (Nat.beq x i) true (hasN i l) = true ↔ _
    rw [te_eq]
    by_cases hx : Nat.beq x i = true
    · rw [if_pos hx]; simp [(Nat.eq_of_beq_eq_true hx).symm]
    · rw [if_neg hx, hasN_iff, List.mem_cons]
      exact ⟨.inr, fun h => h.resolve_left (fun e => hx (by rw [e]; exact Nat.beq_refl x))⟩

theorem isUn_mem {k : Nat} : ∀ {fl : List (Nat × Bool)}, isUn k fl = true → (k, false) ∈ fl
  | [], h => by cases h
  | p :: fl, h => by
    have h' : te (te (Nat.beq p.1 k) (te p.2 false true) false) true (isUn k fl) = true := h
    rw [te_eq] at h'
    split at h'
    · rename_i hp
      obtain ⟨h1, h2⟩ := both hp
      have e1 : p.1 = k := Nat.eq_of_beq_eq_true h1
      have e2 : p.2 = false := by
        cases hq : p.2 with
        | false => rfl
        | true => rw [hq] at h2; cases h2
      refine List.mem_cons.2 (.inl ?_)
      rw [← e1, ← e2]
    · exact List.mem_cons_of_mem _ (isUn_mem h')
theorem isUn_of {k : Nat} : ∀ {fl : List (Nat × Bool)}, (k, false) ∈ fl → isUn k fl = true
  | [], h => by cases h
  | p :: fl, h => by
    show te (te (Nat.beq p.1 k) (te p.2 false true) false) true (isUn k fl) = true
    rw [te_eq]
    split
    · rfl
    · rename_i hp
      rcases List.mem_cons.1 h with h | h
      · exfalso
        apply hp
        rw [← h]
        show te (Nat.beq k k) true false = true
        rw [te_eq, if_pos (Nat.beq_refl k)]
      · exact isUn_of h

theorem allFl_at : ∀ (A : List Nat) (c : List (Nat × Bool) → Bool), allFl A c = true → ∀ fl : List (Nat × Bool), fl.map (·.1) = A → c fl = true
  | [], c, h, fl, hf => by
    obtain rfl : fl = [] := by simpa using hf
    exact h
  | i :: A, c, h, fl, hf => by
    cases fl with
    | nil => cases hf
    | cons p fl =>
      simp only [List.map_cons, List.cons.injEq] at hf
      obtain ⟨h1, h2⟩ := both (show te (allFl A fun fl => c ((i, false) :: fl)) (allFl A fun fl => c ((i, true) :: fl)) false = true from h)
      cases hq : p.2 with
      | false =>
        have h3 := allFl_at A _ h1 fl hf.2
        have e : (i, false) = p := by rw [← hf.1, ← hq]
        simp only [e] at h3
        exact h3
      | true =>
        have h3 := allFl_at A _ h2 fl hf.2
        have e : (i, true) = p := by rw [← hf.1, ← hq]
        simp only [e] at h3
        exact h3
theorem orUn_mem {i : Nat} {fl : List (Nat × Bool)} : ∀ {r : List Nat}, orUn i r fl = true → ∀ k ∈ r, k = i ∨ (k, false) ∈ fl
  | [], _, k, hk => by cases hk
  | x :: r, h, k, hk => by
    obtain ⟨h1, h2⟩ := both (show te (te (Nat.beq x i) true (isUn x fl)) (orUn i r fl) false = true from h)
    rcases List.mem_cons.1 hk with rfl | hk
    · rw [te_eq] at h1
      split at h1
      · rename_i he; exact .inl (Nat.eq_of_beq_eq_true he)
      · exact .inr (isUn_mem h1)
    · exact orUn_mem h2 k hk
theorem unAll_mem {fl : List (Nat × Bool)} : ∀ {r : List Nat}, unAll r fl = true → ∀ k ∈ r, (k, false) ∈ fl
  | [], _, k, hk => by cases hk
  | x :: r, h, k, hk => by
    obtain ⟨h1, h2⟩ := both (show te (isUn x fl) (unAll r fl) false = true from h)
    rcases List.mem_cons.1 hk with rfl | hk
    · exact isUn_mem h1
    · exact unAll_mem h2 k hk
theorem apartA_mem {i : Nat} {o : Oper} (ho : ops[i]? = some o) : ∀ {A : List Nat}, apartA ops i A = true → ∀ k ∈ A, ∀ x, ops[k]? = some x → x.apart ops o = true
  | [], _, k, hk, _, _ => by cases hk
  | z :: A, h, k, hk, x, hx => by
    obtain ⟨h1, h2⟩ := both (show te (match ops[z]?, ops[i]? with | some x, some y => x.apart ops y | _, _ => false) (apartA ops i A) false = true from h)
    rcases List.mem_cons.1 hk with rfl | hk
    · rw [hx, ho] at h1
      exact h1
    · exact apartA_mem ho h2 k hk x hx

end Go.Proofs.YtplnnlnkcfappaaGreat.E3
