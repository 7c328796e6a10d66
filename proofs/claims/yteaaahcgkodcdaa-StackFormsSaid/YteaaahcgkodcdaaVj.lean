/- The evaluator tells the truth, part 8: operations joined; guards; frames; results. -/
import Derived.Test.YteaaahcgkodcdaaVi
namespace Go.Proofs.Yteaaahcgkodcdaa.Ev
open Go Go.RowKit
set_option linter.unusedSimpArgs false
set_option linter.unusedVariables false

variable {β : Type} {P : Program} {base wr : Nat} {F : Env} {m : Mem} {w : World} {n : Nat} {tm : Tr AV} {a : Act}

theorem evEff_spec (hI : Inv base wr F m w) (hA : AR F n tm a) (o : Oper) {r : Rs} (h : evEff P wr tm m o.op = some r) : Makes P base wr F a w o r := by
  generalize ho : o.op = op at h
  cases op <;> simp only [evEff] at h <;> try cases h
  case alloc => exact evAlloc_spec hI o ho h
  case box => exact evBox_spec hI hA o ho h
  case buildSlice => exact evBuildSlice_spec hI hA o ho h
  case store => exact evStore_spec hI hA o ho h
  case makeSlice => exact evMakeSlice_spec hI hA o ho h
  case call c =>
    unfold evCallE at h
    split at h
    · rename_i f hc
      obtain ⟨g, cap, hf, h⟩ := asFn_some h
      obtain rfl := Option.some.inj h
      exact evCallV_spec hA o ho hc hf
    · rename_i b hc
      split at h
      · exact evAppend_spec hI hA o ho hc h
      · cases h
    · cases h

/-! ### Guards -/
theorem isBool_den {v : AV} {val : Value} (hv : den F v = some val) (b : Bool) : isBoolAV b v = ((match some val with | some (.bool x) => some x | _ => none) == some b) := by
  cases v with
  | raw u =>
    simp only [den, Option.some.injEq] at hv
    subst hv
    cases u <;> simp [isBoolAV]
    rename_i x
    cases x <;> cases b <;> rfl
  | ptr b off => obtain ⟨_, _, _, rfl⟩ := den_ptr hv; rfl
  | sl b off len sz => obtain ⟨_, _, _, rfl⟩ := den_sl hv; rfl
  | agg l => obtain ⟨_, _, rfl⟩ := den_agg hv; rfl
  | tup l => obtain ⟨_, _, rfl⟩ := den_tup hv; rfl
  | fn f l => obtain ⟨_, _, rfl⟩ := den_fn hv; rfl

theorem wanted_eq (hA : AR F n tm a) (o : Oper) (ops : Array Oper) : wantedAV o ops tm = Region.wanted o (yielded ops a.tmps) := by
  unfold wantedAV Region.wanted
  cases hg : o.guard with
  | none => rfl
  | some p =>
    obtain ⟨j, b⟩ := p
    simp only [wantedG, yielded]
    cases hd : (ops[j]?).bind (·.dst) with
    | none => simp [wanted1]
    | some t =>
      simp only [wanted1, Option.bind_some]
      by_cases ht : t < n
      · have hsz : t < a.tmps.size := by rw [hA.size]; exact ht
        have hh := hA.held t ht
        have hget : a.tmps[t]? = some (a.tmps.getD t undef) := by
          rw [Array.getD_eq_getD_getElem?, Array.getElem?_eq_getElem hsz]
          rfl
        rw [hget]
        cases hv : tm.get t with
        | none =>
          rw [hv] at hh
          simp only [orUndef, den, Option.some.injEq] at hh
          rw [← hh]
          rfl
        | some v =>
          rw [hv] at hh
          exact isBool_den hh b
      · have hnone := hA.out t (Nat.le_of_not_lt ht)
        rw [hnone, Array.getElem?_eq_none (by rw [hA.size]; exact Nat.le_of_not_lt ht)]
        rfl

/-! ### Frames -/
theorem frame_cons (x : AV) (l : List AV) (i : Nat) (t : Tr AV) : frame (x :: l) i t = ob (t.set (some x) deep i) fun t' => frame l (i + 1) t' := rfl

theorem frame_spec : ∀ (l : List AV) (i : Nat) (t t' : Tr AV), frame l i t = some t' →
    (∀ j, j < i → t'.get j = t.get j) ∧ (∀ j (h : j < l.length), t'.get (i + j) = some l[j]) ∧ (∀ j, i + l.length ≤ j → t'.get j = t.get j)
  | [], i, t, t', h => by
    obtain rfl := Option.some.inj (show some t = some t' from h)
    exact ⟨fun _ _ => rfl, fun j h => by simp at h, fun _ _ => rfl⟩
  | x :: l, i, t, t', h => by
    rw [frame_cons] at h
    obtain ⟨t1, ht, h⟩ := ob_some h
    obtain ⟨b, c, d⟩ := frame_spec l (i + 1) t1 t' h
    have same := Tr.get_set_same _ _ _ _ _ ht
    have other := fun j hj => Tr.get_set_other _ _ _ _ _ j ht hj
    refine ⟨?_, ?_, ?_⟩
    · intro j hj
      rw [b j (by omega), other j (by omega)]
    · intro j hj
      cases j with
      | zero => rw [Nat.add_zero, b i (by omega), same]; rfl
      | succ j =>
        have := c j (by simpa using hj)
        rw [show i + (j + 1) = i + 1 + j by omega, this]
        rfl
    · intro j hj
      simp only [List.length_cons] at hj
      rw [d j (by omega), other j (by omega)]

theorem frame_AR {args : List AV} {vs : List Value} (hd : dens F args = some vs) {N : Nat} (hle : args.length ≤ N) (h : frame args 0 .leaf = some tm) :
    AR F N tm { tmps := vs.toArray ++ Array.replicate (N - vs.toArray.size) undef, defers := [] } := by
  obtain ⟨_, h2, h3⟩ := frame_spec _ _ _ _ h
  have hl := dens_length hd
  refine ⟨by simp; omega, rfl, fun t ht => ?_, fun t ht => ?_⟩
  · by_cases hta : t < args.length
    · have := h2 t hta
      rw [Nat.zero_add] at this
      rw [this]
      obtain ⟨v, h4, h5⟩ := dens_get hd t hta
      simp only [orUndef, h4]
      rw [Array.getD_eq_getD_getElem?, Array.getElem?_append_left (by simp; omega)]
      simp [h5]
    · rw [h3 t (by omega)]
      show den F (orUndef ((Tr.leaf : Tr AV).get t)) = _
      rw [Tr.get_leaf]
      simp only [orUndef, den]
      rw [Array.getD_eq_getD_getElem?, Array.getElem?_append_right (by simp; omega)]
      simp
      rw [Array.getElem?_replicate]
      split <;> rfl
  · rw [h3 t (by omega)]
    rfl

/-! ### Results -/
def resOf (tmps : Array Value) (r : ResultVar) : Sem Value :=
  match r with
  | .tmp t => Pure.pure (tmps.getD t undef)
  | .cell q t => do loadVar t (← Go.asAddr (tmps.getD q undef))

theorem evResult_spec (hI : Inv base wr F m w) (hA : AR F n tm a) {r : ResultVar} {x : AV} (h : evResult P tm m r = some x) :
    ∃ v, den F x = some v ∧ (resOf a.tmps r).run P w = .ok v w := by
  cases r with
  | tmp t =>
    obtain rfl := Option.some.inj (show some (orUndef (tm.get t)) = some x from h)
    exact ⟨_, hA.tmp t, rfl⟩
  | cell q t =>
    obtain ⟨b, off, hb, h⟩ := asPtr_some (show asPtr (orUndef (tm.get q)) (fun b off => evRead P m t b off) = some x from h)
    obtain ⟨g, c, val, h1, h2, h3⟩ := evRead_spec hI h
    have hq := hA.tmp q
    rw [hb] at hq
    obtain ⟨g', c', h4, h5⟩ := den_ptr hq
    rw [h4] at h1
    obtain ⟨rfl, rfl⟩ := Prod.mk.inj (Option.some.inj h1)
    refine ⟨val, h2, ?_⟩
    simp only [resOf, h5, Sem.run_bind, Go.asAddr, Sem.run_pure, Result.andThen_ok, h3]

theorem evResults_cons (r : ResultVar) (l : List ResultVar) : evResults P tm m (r :: l) = ob (evResult P tm m r) fun x => ob (evResults P tm m l) fun xs => some (x :: xs) := rfl

theorem mapM_run (hI : Inv base wr F m w) (hA : AR F n tm a) : ∀ (l : List ResultVar) (xs : List AV), evResults P tm m l = some xs →
    ∃ vs, dens F xs = some vs ∧ (l.mapM (resOf a.tmps)).run P w = .ok vs w
  | [], xs, h => by
    obtain rfl := Option.some.inj (show some [] = some xs from h)
    exact ⟨[], dens_nil F, by simp⟩
  | r :: l, xs, h => by
    rw [evResults_cons] at h
    obtain ⟨x, hx, h⟩ := ob_some h
    obtain ⟨ys, hys, h⟩ := ob_some h
    obtain rfl := Option.some.inj h
    obtain ⟨v, h1, h2⟩ := evResult_spec hI hA hx
    obtain ⟨vs, h3, h4⟩ := mapM_run hI hA l ys hys
    refine ⟨v :: vs, dens_cons_mk h1 h3, ?_⟩
    simp only [List.mapM_cons, Sem.run_bind, h2, Result.andThen_ok, h4, Sem.run_pure]

theorem results_eq (fn : Func) (tmps : Array Value) : results fn tmps = (do let vs ← fn.results.mapM (resOf tmps); pure (if h : vs.size = 1 then vs[0] else .tuple vs)) := by
  have e : (fun | .tmp t => pure (tmps.getD t undef) | .cell q t => do loadVar t (← Go.asAddr (tmps.getD q undef)) : ResultVar → Sem Value) = resOf tmps := by
    funext r
    cases r <;> rfl
  rw [← e]
  rfl

theorem single_den {xs : List AV} {vs : List Value} (hd : dens F xs = some vs) : den F (single xs) = some (if h : vs.toArray.size = 1 then vs.toArray[0] else .tuple vs.toArray) := by
  have hl := dens_length hd
  match xs, vs, hd, hl with
  | [], [], hd, hl => simp [single, den, dens]
  | [x], [v], hd, hl =>
    obtain ⟨v', us, h1, h2, h3⟩ := dens_cons hd
    simp only [List.cons.injEq] at h3
    simp [single, h1, h3.1]
  | x :: y :: xs, v :: u :: vs, hd, hl => simp [single, den, hd]

theorem results_run (hI : Inv base wr F m w) (hA : AR F n tm a) (fn : Func) {xs : List AV} (h : evResults P tm m fn.results.toList = some xs) :
    ∃ v, den F (single xs) = some v ∧ (results fn a.tmps).run P w = .ok v w := by
  obtain ⟨vs, h1, h2⟩ := mapM_run hI hA _ _ h
  refine ⟨_, single_den h1, ?_⟩
  rw [results_eq]
  have e : fn.results.mapM (resOf a.tmps) = List.toArray <$> fn.results.toList.mapM (resOf a.tmps) := by
    rw [Array.mapM_eq_mapM_toList]
  simp only [e, Sem.run_bind, Sem.run_map, h2, Result.andThen_ok, Sem.run_pure]

end Go.Proofs.Yteaaahcgkodcdaa.Ev
