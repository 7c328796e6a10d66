/- The second evaluator: a function run on a memory of which some rows are known at the start. -/
import Derived.Test.YtplnnlnkcfappaaGreatQv
namespace Go.Proofs.YtplnnlnkcfappaaGreat.E3
open Go Go.RowKit
set_option linter.unusedSimpArgs false
set_option linter.unusedVariables false

variable {ρ : Syms} {P : Program}

/-- one more row that is there at the start: the next block, read-only -/
noncomputable def layOne (m : Mem) (e : TypeId) (z : Nat) (l : List AV) (k : Mem → R) : R :=
  strictR (lenAV l) fun q => Cells.fit (.c1 a1u) q fun c => putAll l 0 c fun c => memR m fun H nx wr => strictR nx fun b => heapPut H b (some ⟨e, z, q, c⟩) fun H => strictR (Nat.succ b) fun nx => k ⟨H, nx, nx⟩

def setF (F : Env) (b : Nat) (x : Nat × Nat × Nat) : Env := fun j => if j = b then some x else F j
theorem setF_ext {F : Env} {b : Nat} {x : Nat × Nat × Nat} (h : F b = none) : Ext F (setF F b x) := by
  intro j y hj
  unfold setF
  split
  · rename_i e; subst e; rw [h] at hj; cases hj
  · exact hj

theorem lay_some {m : Mem} {e : TypeId} {z : Nat} {l : List AV} {k : Mem → R} {y : Out} (h : layOne m e z l k = some y) {F : Env} {w : World} (hI : Inv ρ w.heap.size F m w) (hro : m.wr = m.nx) (hz : z ≠ mapZ)
    {g c o : Nat} {cs : Array Value} (hg : w.heap[g]? = some (.cells cs e)) (hc : o + c ≤ cs.size) (hlc : l.length ≤ c) (hzk : ZOk z l.length (c, o)) (hmax : c / z ≤ maxLen)
    (hcell : ∀ i (hi : i < l.length), ∃ v, den ρ (setF F m.nx (g, c, o)) l[i] = some v ∧ v.oneCell' = true ∧ cs[o + i]? = some v) :
    ∃ m', k m' = some y ∧ Inv ρ w.heap.size (setF F m.nx (g, c, o)) m' w ∧ m'.wr = m'.nx ∧ m'.nx = m.nx + 1 := by
  unfold layOne at h
  rw [strictR_eq] at h
  obtain ⟨c1, h1, _, _, h⟩ := fit_some h
  have hlen : lenAV l = l.length := by
    have : ∀ l : List AV, lenAV l = l.length := by
      intro l
      induction l with
      | nil => rfl
      | cons x l ih => show Nat.succ (lenAV l) = _; rw [ih]; simp
    exact this l
  rw [hlen] at h1
  obtain ⟨c2, hh, hcap, hone, _, hget, _⟩ := putAll_some l 0 c1 _ y h (by omega)
  clear h
  cases m with
  | mk H nx wr =>
  rw [memR_eq, strictR_eq] at hh
  obtain ⟨hb, hh⟩ := heapPut_some hh
  rw [strictR_eq, hlen] at hh
  have hro' : nx = wr := Eq.symm hro
  subst hro'
  have hglt : g < w.heap.size := (Array.getElem?_eq_some_iff.1 hg).1
  have hFn : F nx = none := hI.fresh nx (Nat.le_refl _)
  refine ⟨_, hh, ⟨?_, ?_, ?_, Nat.le_refl _, Nat.le_refl _⟩, rfl, rfl⟩
  · intro b' k' hk
    by_cases hb' : b' = nx
    · subst hb'
      rw [at_same hb] at hk
      obtain rfl := Option.some.inj hk
      refine ⟨g, (c, o), by simp [setF], fun hle => absurd hle (Nat.not_succ_le_self _), fun _ => hglt, fun _ => ⟨cs, hg, hc, hlc, hzk, hmax, by rw [hcap]; exact h1, fun i hi => ?_⟩, fun e => absurd e hz⟩
      have := hget i hi
      rw [Nat.zero_add] at this
      rw [this]
      exact hcell i hi
    · rw [at_other hb hb'] at hk
      obtain ⟨g', c', hF, h3, h4, h5⟩ := hI.live b' k' hk
      have hlt : b' < nx := by
        rcases Nat.lt_or_ge b' nx with hq | hq
        · exact hq
        · rw [hI.fresh b' hq] at hF; cases hF
      refine ⟨g', c', by simp [setF, hb', hF], fun hle => absurd (Nat.lt_of_lt_of_le hlt (Nat.le_succ nx)) (Nat.not_lt.2 hle), fun _ => h4 hlt, h5.ext (setF_ext hFn) rfl⟩
  · intro b b' k k' x x' hk _ hb1 _ hx _ _
    have hlt : nx < b := hb1
    by_cases hbn : b = nx
    · omega
    · rw [at_other hb hbn] at hk
      obtain ⟨g', c', hF, _⟩ := hI.live b k hk
      rw [hI.fresh b (Nat.le_of_lt hlt)] at hF
      cases hF
  · intro b hb1
    have hlt : nx < b := hb1
    unfold setF
    rw [if_neg (fun e' => Nat.ne_of_gt hlt e')]
    exact hI.fresh b (Nat.le_of_lt hlt)

/-- a function on one row: it tells true -/
theorem runs_one {oc : Orc} {kn : Known} (hmix : P.follows .mixedOrders = true) (hpl : Plainly P) (hoc : OrcOk ρ P oc) {sk : Nat → Modes} (hlex : LexOk P sk) (hkn : KnownOk ρ P kn) (N : Nat) (f : FuncId) (args : List AV) (vs : List Value)
    {e : TypeId} {z : Nat} {l : List AV} (h : isTrue (layOne mem0 e z l fun M => rec P oc sk kn N f args M) = true) (hbody : (match P.funcs[f]? with | some fn => fn.body.isSome | none => false) = true) (w : World) (hz : z ≠ mapZ)
    {g c o : Nat} {cs : Array Value} (hg : w.heap[g]? = some (.cells cs e)) (hc : o + c ≤ cs.size) (hlc : l.length ≤ c) (hzk : ZOk z l.length (c, o)) (hmax : c / z ≤ maxLen)
    (hcell : ∀ i (hi : i < l.length), ∃ v, den ρ (setF (fun _ => none) 0 (g, c, o)) l[i] = some v ∧ v.oneCell' = true ∧ cs[o + i]? = some v)
    (hd : dens ρ (setF (fun _ => none) 0 (g, c, o)) args = some vs) : Calls P f vs.toArray w fun e w' => e = .returned (.bool true) ∧ Below w.heap.size w w' := by
  obtain ⟨m', h⟩ := isTrue_some h
  obtain ⟨m1, h, hI, _, _⟩ := lay_some h (empty_inv w) rfl hz hg hc hlc hzk hmax hcell
  have hfn : ∃ fn, P.funcs[f]? = some fn ∧ fn.body.isSome = true := by
    cases hf : P.funcs[f]? with
    | none => rw [hf] at hbody; cases hbody
    | some fn => rw [hf] at hbody; exact ⟨fn, rfl, hbody⟩
  rcases rec_ok hmix hpl hoc hlex hkn N f args m1 _ _ h w.heap.size _ w vs hI hd with ⟨_, hc⟩ | ⟨u, hr, _⟩
  case inr =>
    rw [callFunc_run hpl hfn] at hr
    cases hr
  refine hc.mono fun e w' hh => ?_
  obtain ⟨v, rfl, F', _, hv, _, hb⟩ := hh
  simp only [den, Option.some.injEq] at hv
  subst hv
  exact ⟨rfl, hb.below⟩

end Go.Proofs.YtplnnlnkcfappaaGreat.E3
