/- The evaluator tells the truth, part 3: operands, filling. -/
import Derived.Test.YteaaahcgkodcdaaVd
import Derived.Great.FillDense
namespace Go.Proofs.Yteaaahcgkodcdaa.Ev
open Go Go.RowKit
set_option linter.unusedSimpArgs false
set_option linter.unusedVariables false

variable {β : Type}

theorem takeAV_eq : ∀ (l : List AV) (n : Nat), takeAV l n = l.take n
  | _, 0 => by simp [takeAV]
  | [], n + 1 => by simp [takeAV]
  | x :: l, n + 1 => by simp [takeAV, takeAV_eq l n]
theorem dropAV_eq : ∀ (l : List AV) (n : Nat), dropAV l n = l.drop n
  | _, 0 => by simp [dropAV]
  | [], n + 1 => by simp [dropAV]
  | x :: l, n + 1 => by simp [dropAV, dropAV_eq l n]

theorem dens_take {F : Env} : ∀ {l : List AV} {vs : List Value} (n : Nat), dens F l = some vs → dens F (l.take n) = some (vs.take n)
  | _, _, 0, _ => by simp [dens]
  | [], vs, n + 1, h => by rw [dens_nil] at h; obtain rfl := Option.some.inj h; simp [dens]
  | x :: l, vs, n + 1, h => by
    obtain ⟨v, us, hx, hl, rfl⟩ := dens_cons h
    simp only [List.take_succ_cons]
    exact dens_cons_mk hx (dens_take n hl)
theorem dens_drop {F : Env} : ∀ {l : List AV} {vs : List Value} (n : Nat), dens F l = some vs → dens F (l.drop n) = some (vs.drop n)
  | _, _, 0, h => by simpa using h
  | [], vs, n + 1, h => by rw [dens_nil] at h; obtain rfl := Option.some.inj h; simp [dens]
  | x :: l, vs, n + 1, h => by
    obtain ⟨v, us, hx, hl, rfl⟩ := dens_cons h
    simpa using dens_drop n hl

/-! ### The frame -/
structure AR (F : Env) (n : Nat) (tm : Tr AV) (a : Act) : Prop where
  size : a.tmps.size = n
  defers : a.defers = []
  held : ∀ t, t < n → den F (orUndef (tm.get t)) = some (a.tmps.getD t undef)
  out : ∀ t, n ≤ t → tm.get t = none

theorem AR.tmp {F : Env} {n : Nat} {tm : Tr AV} {a : Act} (h : AR F n tm a) (t : Nat) : den F (orUndef (tm.get t)) = some (a.tmps.getD t undef) := by
  by_cases ht : t < n
  · exact h.held t ht
  · rw [h.out t (by omega)]
    simp only [orUndef, den]
    rw [Array.getD_eq_getD_getElem?, Array.getElem?_eq_none (by rw [h.size]; omega)]
    rfl

theorem AR.eval {F : Env} {n : Nat} {tm : Tr AV} {a : Act} (h : AR F n tm a) (x : Operand) : den F (evO tm x) = some (a.eval x) := by
  cases x with
  | tmp t => exact h.tmp t
  | const v => simp [evO, den, Act.eval]
  | global g => simp [evO, den, Act.eval]
  | func f => simp [evO, den, dens, Act.eval]

theorem AR.raw {F : Env} {n : Nat} {tm : Tr AV} {a : Act} (h : AR F n tm a) {x : Operand} {v : Value} (hx : evO tm x = .raw v) : a.eval x = v := by
  have := h.eval x
  rw [hx, den_raw] at this
  exact (Option.some.inj this).symm

theorem AR.ext {F F' : Env} {n : Nat} {tm : Tr AV} {a : Act} (h : AR F n tm a) (he : Ext F F') : AR F' n tm a :=
  ⟨h.size, h.defers, fun t ht => den_ext he _ _ (h.held t ht), h.out⟩

theorem AR.put {F : Env} {n : Nat} {tm tm' : Tr AV} {a : Act} (h : AR F n tm a) {d : Option Tmp} {x : AV} {v : Value} (hv : den F x = some v) (hp : putDst tm n d x = some tm') :
    AR F n tm' (a.put d v) := by
  cases d with
  | none =>
    simp only [putDst, Option.some.injEq] at hp
    subst hp
    exact h
  | some t =>
    obtain ⟨hlt, hp⟩ := gd_some hp
    have hlt' : t < n := Nat.le_of_ble_eq_true hlt
    refine ⟨by simp [Act.put, h.size], h.defers, fun s hs => ?_, fun s hs => ?_⟩
    · by_cases e : s = t
      · subst e
        rw [Tr.get_set_same _ _ _ _ _ hp]
        simp only [orUndef, Act.put]
        rw [hv, Array.getD_eq_getD_getElem?, Array.getElem?_setIfInBounds_self, if_pos (by rw [h.size]; exact hs)]
        rfl
      · rw [Tr.get_set_other _ _ _ _ _ s hp e, h.held s hs]
        simp only [Act.put]
        rw [Array.getD_eq_getD_getElem?, Array.getD_eq_getD_getElem?, Array.getElem?_setIfInBounds_ne (fun e' => e e'.symm)]
    · have hst : s ≠ t := fun e => Nat.lt_irrefl t (Nat.lt_of_lt_of_le hlt' (e ▸ hs))
      rw [Tr.get_set_other _ _ _ _ _ s hp hst]
      exact h.out s hs

/-! ### Filling -/
theorem fill_one (off : Nat) (vs : List Value) (v : Value) (h : off + v.cells.size ≤ vs.length) :
    v.cells.zipIdx.foldl (fun cs (c, j) => cs.setIfInBounds (off + j) c) vs.toArray = (vs.take off ++ (v.cells.toList ++ vs.drop (off + v.cells.size))).toArray := by
  obtain ⟨g1, g2⟩ := Great.foldl_set off v.cells.toList 0 vs.toArray
  have e : v.cells.zipIdx.foldl (fun cs (c, j) => cs.setIfInBounds (off + j) c) vs.toArray = (v.cells.toList.zipIdx 0).foldl (fun cs (x : Value × Nat) => cs.setIfInBounds (off + x.2) x.1) vs.toArray := by
    rw [← Array.foldl_toList, Array.toList_zipIdx]
  rw [e]
  apply Array.ext_getElem?
  intro k
  rw [g2 k]
  simp only [Array.length_toList, List.size_toArray, Nat.add_zero, List.getElem?_toArray]
  by_cases h1 : k < off
  · rw [if_neg (by omega), List.getElem?_append_left (by simp; omega), List.getElem?_take_of_lt h1]
  · by_cases h2 : k < off + v.cells.size
    · rw [if_pos ⟨by omega, h2, by omega⟩, List.getElem?_append_right (by simp; omega), List.getElem?_append_left (by simp; omega)]
      congr 1
      simp; omega
    · rw [if_neg (by omega), List.getElem?_append_right (by simp; omega), List.getElem?_append_right (by simp; omega), List.getElem?_drop]
      congr 1
      simp; omega

theorem fillAV_cons (place : Nat → Option (Nat × Nat)) (p : Nat × AV) (ps : List (Nat × AV)) (l : List AV) :
    fillAV place (p :: ps) l = ob (place p.1) fun q => gd (Nat.beq (cellsAV p.2).length q.2) (gd (Nat.ble (Nat.add q.1 (cellsAV p.2).length) l.length)
        (fillAV place ps (takeAV l q.1 ++ (cellsAV p.2 ++ dropAV l (Nat.add q.1 (cellsAV p.2).length))))) := rfl

theorem fillAV_spec {F : Env} (place : Nat → Option (Nat × Nat)) : ∀ (ps : List (Nat × AV)) (pv : List (Nat × Value)) (l l' : List AV) (vs : List Value), fillAV place ps l = some l' → dens F l = some vs →
    pv.map (·.1) = ps.map (·.1) → dens F (ps.map (·.2)) = some (pv.map (·.2)) → ∃ vs', dens F l' = some vs' ∧ Instr.fill place vs.toArray pv = some vs'.toArray ∧ vs'.length = vs.length
  | [], pv, l, l', vs, h, hd, h1, h2 => by
    have : fillAV place [] l = some l := rfl
    rw [this] at h
    obtain rfl := Option.some.inj h
    obtain rfl : pv = [] := by simpa using h1
    exact ⟨vs, hd, rfl, rfl⟩
  | p :: ps, [], l, l', vs, h, hd, h1, h2 => by simp at h1
  | p :: ps, q :: pv, l, l', vs, h, hd, h1, h2 => by
    rw [fillAV_cons] at h
    obtain ⟨r, hr, h⟩ := ob_some h
    obtain ⟨c1, h⟩ := gd_some h
    obtain ⟨c2, h⟩ := gd_some h
    have c1' := Nat.eq_of_beq_eq_true c1
    have c2' : r.1 + (cellsAV p.2).length ≤ l.length := Nat.le_of_ble_eq_true c2
    simp only [List.map_cons, List.cons.injEq] at h1 h2
    obtain ⟨v, us, hv, hus, heq⟩ := dens_cons h2
    simp only [List.cons.injEq] at heq
    obtain ⟨rfl, rfl⟩ := heq
    have hcell := dens_cellsAV hv
    have hlen := dens_length hcell
    simp only [Array.length_toList] at hlen
    have hl := dens_length hd
    rw [takeAV_eq, dropAV_eq] at h
    have hd' : dens F (l.take r.1 ++ (cellsAV p.2 ++ l.drop (r.1 + (cellsAV p.2).length))) = some (vs.take r.1 ++ (q.2.cells.toList ++ vs.drop (r.1 + (cellsAV p.2).length))) :=
      dens_append (dens_take _ hd) (dens_append hcell (dens_drop _ hd))
    obtain ⟨vs', a1, a2, a3⟩ := fillAV_spec place ps pv _ l' _ h hd' h1.2 hus
    refine ⟨vs', a1, ?_, ?_⟩
    · obtain ⟨q1, q2⟩ := q
      obtain ⟨r1, r2⟩ := r
      simp only at h1 hlen hcell hd' a2 c1' c2' hr ⊢
      unfold Instr.fill
      rw [h1.1, hr]
      simp only
      rw [if_neg (by simp only [List.size_toArray]; simp; omega), fill_one r1 vs q2 (by omega), ← a2]
      rw [hlen]
    · rw [a3]
      simp only [List.length_append, List.length_take, List.length_drop, Array.length_toList]
      omega

theorem evParts_fst (tm : Tr AV) (a : Act) (ps : Array (Nat × Operand)) : ((ps.map fun (i, x) => (i, a.eval x)).toList).map (·.1) = (evParts tm ps).map (·.1) := by
  simp [evParts, Function.comp_def]
theorem dens_map {F : Env} {n : Nat} {tm : Tr AV} {a : Act} (h : AR F n tm a) : ∀ (l : List Operand), dens F (l.map (evO tm)) = some (l.map a.eval)
  | [] => by simp [dens]
  | x :: l => dens_cons_mk (h.eval x) (dens_map h l)
theorem evParts_snd {F : Env} {n : Nat} {tm : Tr AV} {a : Act} (h : AR F n tm a) (ps : Array (Nat × Operand)) :
    dens F ((evParts tm ps).map (·.2)) = some (((ps.map fun (i, x) => (i, a.eval x)).toList).map (·.2)) := by
  have := dens_map h (ps.toList.map (·.2))
  simpa [evParts, Function.comp_def] using this

end Go.Proofs.Yteaaahcgkodcdaa.Ev
