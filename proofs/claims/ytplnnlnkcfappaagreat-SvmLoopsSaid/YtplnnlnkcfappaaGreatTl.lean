/- The machine with a stack: where its one call stands in memory; each instruction's step. -/
import Derived.Test.YtplnnlnkcfappaaGreatTj
import Derived.Test.YtplnnlnkcfappaaGreatTk
namespace Go.Proofs.YtplnnlnkcfappaaGreat.Sv
open Go.RowKit E3
set_option linter.unusedSimpArgs false
set_option linter.unusedVariables false

/-- a local's cells -/
def ov (x : Option Nat) : List Value := match x with | none => nilv | some n => iv n
def nv (n : Nat) : List Value := iv n
theorem ov_len (x : Option Nat) : (ov x).length = 5 := by cases x <;> rfl
theorem nv_len (n : Nat) : (nv n).length = 5 := rfl
theorem ov_ones (x : Option Nat) : Ones (ov x) := by
  cases x with
  | none =>
    intro u hu
    simp only [ov, nilv, List.mem_cons, List.not_mem_nil, or_false] at hu
    rcases hu with rfl | rfl | rfl | rfl | rfl <;> rfl
  | some n => exact iv_ones n
theorem nv_ones (n : Nat) : Ones (nv n) := iv_ones n
theorem flat_ones {α : Type} {f : α → List Value} (hf : ∀ x, Ones (f x)) : ∀ l : List α, Ones (flat f l)
  | [], u, hu => by cases hu
  | x :: l, u, hu => (List.mem_append.1 hu).elim (hf x u) (flat_ones hf l u)
theorem flat_len5 {α : Type} {f : α → List Value} (hf : ∀ x, (f x).length = 5) (l : List α) : (flat f l).length = 5 * l.length := by
  rw [flat_length f 5 hf, Nat.mul_comm]
theorem flat_at {α : Type} {f : α → List Value} (hf : ∀ x, (f x).length = 5) : ∀ (l : List α) (i : Nat) (x : α), l[i]? = some x → ((flat f l).drop (5 * i)).take 5 = f x
  | [], i, x, h => by simp at h
  | y :: l, 0, x, h => by
    simp only [List.getElem?_cons_zero, Option.some.injEq] at h
    subst h
    simp only [flat, Nat.mul_zero, List.drop_zero]
    rw [List.take_append_of_le_length (by rw [hf]; exact Nat.le_refl _), List.take_of_length_le (by rw [hf]; exact Nat.le_refl _)]
  | y :: l, i + 1, x, h => by
    simp only [List.getElem?_cons_succ] at h
    rw [show 5 * (i + 1) = 5 + 5 * i by omega, ← List.drop_drop]
    simp only [flat]
    rw [List.drop_left' (hf y)]
    exact flat_at hf l i x h

/-- the call in memory: its blocks lie from C on -/
structure One (w : World) (B C L tb base : Nat) (consts : List (Nat × Int)) (nm pr nl sc sk : Value) (gc cb gl : Nat) (lsl : Value) (st : St) (fuel : Int) (evs : List Int) : Prop where
  BC : B ≤ C
  size : C ≤ w.heap.size
  call : ∃ s, VarW w cb 129 ([nm, pr, nl, sc, sk, .int .i64 (.ofNat st.pc), lsl] ++ [s]) ∧
    (if st.row then ∃ g, RowW w s 54 5 st.xs.length (flat nv st.xs) g ∧ C ≤ g ∧ gl ≠ g else s = .slice none 0 0 ∧ st.xs = [])
  ones : Ones [nm, pr, nl, sc, sk, lsl]
  cb : C ≤ cb
  loc : RowW w lsl 54 5 L (flat ov st.ls) gl
  gl : C ≤ gl
  two : st.ls.length = L
  le2 : L ≤ 2
  con : RowW w sc 54 5 consts.length (flatL constV consts) gc
  gc : gc < B
  few : consts.length ≤ 5
  tank : Tk w tb base fuel evs
  ty : ∃ cs, w.heap[tb]? = some (.cells cs 194)
  tbB : B ≤ tb
  tbb : tb < base
  base : base ≤ w.heap.size
/-- the blocks that a step may change -/
def Sx (C tb base : Nat) (w : World) (b : Nat) : Prop := (C ≤ b ∧ ∃ cs e, w.heap[b]? = some (.cells cs e) ∧ (e = 129 ∨ e = 54)) ∨ b = tb ∨ (base ≤ b ∧ ∃ cs, w.heap[b]? = some (.cells cs 69))

theorem flatL_flat (l : List (Nat × Int)) : flatL constV l = flat constV l := by
  induction l with
  | nil => rfl
  | cons x l ih => show constV x ++ flatL constV l = constV x ++ flat constV l; rw [ih]
theorem constV_len (x : Nat × Int) : (constV x).length = 5 := rfl
theorem constV_ones (x : Nat × Int) : Ones (constV x) := by
  intro u hu
  simp only [constV, List.mem_cons, List.not_mem_nil, or_false] at hu
  rcases hu with rfl | rfl | rfl | rfl | rfl <;> rfl

theorem ty_ne {w : World} {g b : Nat} {e e' : TypeId} {cs : Array Value} (h : ∃ cs, w.heap[b]? = some (.cells cs e)) (hg : w.heap[g]? = some (.cells cs e')) (he : e ≠ e') : g ≠ b := by
  rintro rfl
  obtain ⟨cs', h⟩ := h
  rw [hg] at h
  exact he (by have := Option.some.inj h; injection this with _ h; exact h.symm)

/-- what keeps all but the call's block and its rows keeps the tank -/
theorem tank_keep {w w' : World} {tb base B : Nat} {fuel : Int} {evs : List Int} {S : Nat → Prop} (hT : Tk w tb base fuel evs) (hb : Below B w w') (hk : ∀ b, b < w.heap.size → ¬ S b → w'.heap[b]? = w.heap[b]?) (ht : ¬ S tb) (hS : ∀ g, (∃ cs, w.heap[g]? = some (.cells cs 69)) → ¬ S g) : Tk w' tb base fuel evs :=
  Tk.fx' hT (Fx.ofKeep hb hk) ht hS

section
variable {w : World} {B C L tb base gc cb gl : Nat} {consts : List (Nat × Int)} {nm pr nl sc sk lsl : Value} {fuel : Int} {evs : List Int} {pc : Nat} {ls : List (Option Nat)} {xs : List Nat} {b : Bool}

theorem One.ones7 {st : St} (h : One w B C L tb base consts nm pr nl sc sk gc cb gl lsl st fuel evs) : Ones [nm, pr, nl, sc, sk, .int .i64 (.ofNat st.pc), lsl] := by
  intro u hu
  have ho := h.ones
  simp only [List.mem_cons, List.not_mem_nil, or_false] at hu
  rcases hu with rfl | rfl | rfl | rfl | rfl | rfl | rfl
  · exact ho _ (by simp)
  · exact ho _ (by simp)
  · exact ho _ (by simp)
  · exact ho _ (by simp)
  · exact ho _ (by simp)
  · rfl
  · exact ho _ (by simp)

/-- a step that changes the call's block and the stack's row alone -/
theorem One.next {w w' : World} {st st' : St} (h : One w B C L tb base consts nm pr nl sc sk gc cb gl lsl st fuel evs) {s s' : Value} {g' : Nat} {og : Option Nat} (hc : VarW w cb 129 ([nm, pr, nl, sc, sk, .int .i64 (.ofNat st.pc), lsl] ++ [s]))
    (hog : ∀ g, og = some g → (∃ cs, w.heap[g]? = some (.cells cs 54)) ∧ gl ≠ g ∧ C ≤ g) (e1 : VarW w' cb 129 ([nm, pr, nl, sc, sk, .int .i64 (.ofNat st.pc), lsl] ++ [s'])) (e2 : RowW w' s' 54 5 st'.xs.length (flat nv st'.xs) g') (e3 : C ≤ g') (e4 : og = some g' ∨ w.heap.size ≤ g') (hb : Below C w w')
    (hk : ∀ b, b < w.heap.size → b ≠ cb → (∀ g, og = some g → b ≠ g) → b ≠ gl → w'.heap[b]? = w.heap[b]?) (hpc : st'.pc = st.pc) (hloc : RowW w' lsl 54 5 L (flat ov st'.ls) gl) (htwo : st'.ls.length = L) (hrow : st'.row = true) : One w' B C L tb base consts nm pr nl sc sk gc cb gl lsl st' fuel evs ∧ Fx (Sx C tb base w) w w' := by
  have hgl := E3.RowW.lt h.loc
  have hglc : gl ≠ cb := RowW.ne h.loc hc (by decide)
  have htl := h.tank.lt
  obtain ⟨cs0, hc0, _⟩ := hc
  have htc : tb ≠ cb := by
    obtain ⟨cs, hcs⟩ := h.ty
    exact (ty_ne (e := 129) ⟨cs0, hc0⟩ hcs (by decide))
  have hgt : ∀ g, og = some g → tb ≠ g := fun g hg => by
    obtain ⟨cs, hcs⟩ := h.ty
    exact ty_ne (hog g hg).1 hcs (by decide)
  have htgl : tb ≠ gl := by
    obtain ⟨cs, hcs⟩ := h.ty
    obtain ⟨_, _, cs2, _, h2, _⟩ := h.loc
    exact ty_ne ⟨cs2, h2⟩ hcs (by decide)
  have hkt : w'.heap[tb]? = w.heap[tb]? := hk tb htl htc hgt htgl
  have hne : gl ≠ g' := by
    rcases e4 with h4 | h4
    · exact (hog g' h4).2.1
    · have := h.size; omega
  have hBC := h.BC
  have hgc := h.gc
  refine ⟨⟨h.BC, Nat.le_trans h.size hb.size, ⟨s', by rw [hpc]; exact e1, by rw [hrow, if_pos rfl]; exact ⟨g', e2, e3, hne⟩⟩, h.ones, h.cb, hloc, h.gl, htwo, h.le2, E3.RowW.keep h.con (hb.block gc (by omega)), h.gc, h.few, ?_, ?_, h.tbB, h.tbb, Nat.le_trans h.base hb.size⟩, Fx.ofKeep hb fun b h0 h1 => hk b h0 ?_ ?_ ?_⟩
  · refine tank_keep (S := fun b => b = cb ∨ b = gl ∨ og = some b) h.tank hb (fun b h0 h1 => hk b h0 (fun e => h1 (.inl e)) (fun g hg e => h1 (.inr (.inr (by rw [e]; exact hg)))) (fun e => h1 (.inr (.inl e)))) (fun h => h.elim htc fun h => h.elim htgl fun e => hgt tb e rfl) fun g ⟨cs, hcs⟩ h2 => ?_
    rcases h2 with rfl | rfl | h
    · exact absurd rfl (ty_ne (e := 129) ⟨cs0, hc0⟩ hcs (by decide))
    · obtain ⟨_, _, cs2, _, h2, _⟩ := h.loc
      exact absurd rfl (ty_ne ⟨cs2, h2⟩ hcs (by decide))
    · exact absurd rfl (ty_ne (hog g h).1 hcs (by decide))
  · obtain ⟨cs, hcs⟩ := h.ty
    exact ⟨cs, hkt.trans hcs⟩
  · rintro rfl
    exact h1 (.inl ⟨h.cb, cs0, _, hc0, .inl rfl⟩)
  · rintro g hg rfl
    obtain ⟨⟨cs, hcs⟩, _, hC⟩ := hog b hg
    exact h1 (.inl ⟨hC, cs, _, hcs, .inr rfl⟩)
  · rintro rfl
    obtain ⟨_, _, cs2, _, h2, _⟩ := h.loc
    exact h1 (.inl ⟨h.gl, cs2, _, h2, .inr rfl⟩)

theorem one_const {t : Value} {i z : Nat} (ht1 : t.oneCell' = true) (h : One w B C L tb base consts nm pr nl sc sk gc cb gl lsl ⟨pc, ls, xs, b⟩ fuel evs) (hi : consts[i]? = some (1, (z : Int))) (hx : xs.length ≤ 2) :
    Calls Tryz.prog 46 #[.pointer (some ⟨cb, 0, none⟩), t, .agg #[.int .i64 1, .int .i64 (.ofNat i), .int .i64 0]] w fun e w' => e = .returned (.bool true) ∧ One w' B C L tb base consts nm pr nl sc sk gc cb gl lsl ⟨pc, ls, xs ++ [z], true⟩ fuel evs ∧ Fx (Sx C tb base w) w w' := by
  obtain ⟨s, hc, hs⟩ := h.call
  have hil : i < consts.length := (List.getElem?_eq_some_iff.1 hi).1
  have hcl : (flatL constV consts).length = 5 * consts.length := by rw [flatL_flat]; exact flat_len5 constV_len consts
  have hc1 : Ones (flatL constV consts) := by rw [flatL_flat]; exact flat_ones constV_ones consts
  have hcm : (flatL constV consts).length ≤ 32 := by have := h.few; omega
  have hval : ((flatL constV consts).drop (5 * i)).take (5 * 1) = nv z := by rw [flatL_flat]; exact flat_at constV_len consts i (1, (z : Int)) hi
  have h7 := h.ones7
  have ht : Ones [t] := fun u hu => by rw [List.mem_singleton.1 hu]; exact ht1
  have hfew := h.few
  cases b with
  | true =>
    rw [if_pos rfl] at hs
    obtain ⟨g, hr, hg, hgg⟩ := hs
    have hl : (flat nv xs).length = 5 * xs.length := flat_len5 nv_len xs
    refine (constRow (x := [t]) h.size h.cb rfl h7 hc (by simp) ht hr hg (by show (flat nv xs).length ≤ 16; omega) (flat_ones nv_ones xs) hl rfl h.con (Nat.lt_of_lt_of_le h.gc h.BC) hcl hcm hc1 hil rfl (constRow_true consts.length (by omega) i hil xs.length (by omega))).mono fun e w' hh => ?_
    obtain ⟨he, s', g', e1, e2, e3, e4, hb, hk⟩ := hh
    refine ⟨he, One.next (og := some g) h hc (fun g0 hg0 => by
      obtain rfl := Option.some.inj hg0
      obtain ⟨_, _, cs, _, hh, _⟩ := hr
      exact ⟨⟨cs, hh⟩, hgg, hg⟩) e1 ?_ e3 (e4.imp (fun h => by rw [h]) id) hb (fun b0 h0 n1 n2 _ => hk b0 h0 n1 (n2 g rfl)) rfl (E3.RowW.keep h.loc (hk gl (E3.RowW.lt h.loc) (RowW.ne h.loc hc (by decide)) hgg)) h.two rfl⟩
    show RowW w' s' 54 5 (xs ++ [z]).length (flat nv (xs ++ [z])) g'
    rw [flat_snoc, List.length_append, ← hval]
    exact e2
  | false =>
    rw [if_neg (by simp)] at hs
    obtain ⟨hs, hxs⟩ := hs
    have hxs' : xs = [] := hxs
    subst hxs'
    refine (constNil (x := [t]) h.size h.cb rfl h7 hc (by simp) ht hs rfl h.con (Nat.lt_of_lt_of_le h.gc h.BC) hcl hcm hc1 hil rfl (constNil_true consts.length (by omega) i hil)).mono fun e w' hh => ?_
    obtain ⟨he, s', g', e1, e2, e3, e4, hb, hk⟩ := hh
    refine ⟨he, One.next (og := none) h hc (fun g0 hg0 => by cases hg0) e1 ?_ e3 (.inr e4) hb (fun b0 h0 n1 n2 _ => hk b0 h0 n1) rfl (E3.RowW.keep h.loc (hk gl (E3.RowW.lt h.loc) (RowW.ne h.loc hc (by decide)))) h.two rfl⟩
    show RowW w' s' 54 5 1 (flat nv [z]) g'
    rw [show flat nv [z] = nv z ++ [] from rfl, List.append_nil, ← hval]
    exact e2
theorem one_load {t : Value} {i z : Nat} (ht1 : t.oneCell' = true) (h : One w B C L tb base consts nm pr nl sc sk gc cb gl lsl ⟨pc, ls, xs, b⟩ fuel evs) (hi : ls[i]? = some (some z)) (hx : xs.length ≤ 2) :
    Calls Tryz.prog 46 #[.pointer (some ⟨cb, 0, none⟩), t, .agg #[.int .i64 2, .int .i64 (.ofNat i), .int .i64 0]] w fun e w' => e = .returned (.bool true) ∧ One w' B C L tb base consts nm pr nl sc sk gc cb gl lsl ⟨pc, ls, xs ++ [z], true⟩ fuel evs ∧ Fx (Sx C tb base w) w w' := by
  obtain ⟨s, hc, hs⟩ := h.call
  have hil : i < L := by have := (List.getElem?_eq_some_iff.1 hi).1; have h2' : ls.length = L := h.two; omega
  have hL := h.le2
  have hll : (flat ov ls).length = 5 * L := by rw [flat_len5 ov_len, show ls.length = L from h.two]
  have hl1 : Ones (flat ov ls) := flat_ones ov_ones ls
  have hval : ((flat ov ls).drop (5 * i)).take (5 * 1) = nv z := flat_at ov_len ls i (some z) hi
  have h7 := h.ones7
  have ht : Ones [t] := fun u hu => by rw [List.mem_singleton.1 hu]; exact ht1
  cases b with
  | true =>
    rw [if_pos rfl] at hs
    obtain ⟨g, hr, hg, hgg⟩ := hs
    have hl : (flat nv xs).length = 5 * xs.length := flat_len5 nv_len xs
    refine (loadRow (x := [t]) h.size h.cb rfl h7 hc (by simp) ht hr hg (by show (flat nv xs).length ≤ 16; omega) (flat_ones nv_ones xs) hl rfl h.loc h.gl hll hl1 hgg hil rfl (loadRow_true L (by omega) i hil xs.length (by omega))).mono fun e w' hh => ?_
    obtain ⟨he, s', g', e1, e2, e3, e4, el, _, hb, hk⟩ := hh
    refine ⟨he, One.next (og := some g) h hc (fun g0 hg0 => by
      obtain rfl := Option.some.inj hg0
      obtain ⟨_, _, cs, _, hh, _⟩ := hr
      exact ⟨⟨cs, hh⟩, hgg, hg⟩) e1 ?_ e3 (e4.imp (fun h => by rw [h]) id) hb (fun b0 h0 n1 n2 n3 => hk b0 h0 n1 (n2 g rfl) n3) rfl el h.two rfl⟩
    show RowW w' s' 54 5 (xs ++ [z]).length (flat nv (xs ++ [z])) g'
    rw [flat_snoc, List.length_append, ← hval]
    exact e2
  | false =>
    rw [if_neg (by simp)] at hs
    obtain ⟨hs, hxs⟩ := hs
    have hxs' : xs = [] := hxs
    subst hxs'
    refine (loadNil (x := [t]) h.size h.cb rfl h7 hc (by simp) ht hs rfl h.loc h.gl hll hl1 hil rfl (loadNil_true L (by omega) i hil)).mono fun e w' hh => ?_
    obtain ⟨he, s', g', e1, e2, e3, e4, el, _, hb, hk⟩ := hh
    refine ⟨he, One.next (og := none) h hc (fun g0 hg0 => by cases hg0) e1 ?_ e3 (.inr e4) hb (fun b0 h0 n1 n2 n3 => hk b0 h0 n1 n3) rfl el h.two rfl⟩
    show RowW w' s' 54 5 1 (flat nv [z]) g'
    rw [show flat nv [z] = nv z ++ [] from rfl, List.append_nil, ← hval]
    exact e2
end

end Go.Proofs.YtplnnlnkcfappaaGreat.Sv
