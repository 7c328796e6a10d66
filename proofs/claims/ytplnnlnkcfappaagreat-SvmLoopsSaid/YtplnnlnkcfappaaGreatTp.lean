/- The machine with a stack: the calls that wait below the top one. -/
import Derived.Test.YtplnnlnkcfappaaGreatTo
namespace Go.Proofs.YtplnnlnkcfappaaGreat.Sv
open Go.RowKit E3
set_option linter.unusedVariables false

/-- code in memory, below B -/
def CodeAt (w : World) (B : Nat) (sk : Value) (code : List (Nat × Nat × Nat)) : Prop := ∃ g o cap, sk = .slice (some ⟨g, o, none⟩) code.length cap ∧ g < B ∧ ∀ (j : Nat) (u : Value), (flatL insV code)[j]? = some u → w.cell? ⟨g, o + j, none⟩ = some u
theorem CodeAt.below {w w' : World} {B : Nat} {sk : Value} {code : List (Nat × Nat × Nat)} (h : CodeAt w B sk code) (hb : Below B w w') : CodeAt w' B sk code := by
  obtain ⟨g, o, cap, rfl, hg, hc⟩ := h
  exact ⟨g, o, cap, rfl, hg, fun j u hj => (hb.cell hg).trans (hc j u hj)⟩
/-- a function as a call holds it -/
structure FnD (w : World) (B : Nat) (f : FV) (nm pr nl sc sk : Value) (gc : Nat) : Prop where
  ones : Ones [nm, pr, nl, sc, sk]
  nl : nl = .int .i64 (.ofNat f.locals)
  con : RowW w sc 54 5 f.consts.length (flatL constV f.consts) gc
  gc : gc < B
  few : f.consts.length ≤ 5
  le2 : f.locals ≤ 2
  code : CodeAt w B sk f.code
  short : f.code.length ≤ 1000
theorem FnD.below {w w' : World} {B : Nat} {f : FV} {nm pr nl sc sk : Value} {gc : Nat} (h : FnD w B f nm pr nl sc sk gc) (hb : Below B w w') : FnD w' B f nm pr nl sc sk gc :=
  ⟨h.ones, h.nl, E3.RowW.keep h.con (hb.block _ h.gc), h.gc, h.few, h.le2, h.code.below hb, h.short⟩

/-- a call that waits: its blocks lie from C on, below D -/
def Lw (w : World) (B C D : Nat) (f : FV) (cb : Nat) (st : St) : Prop :=
  ∃ nm pr nl sc sk gc gl lsl s g, FnD w B f nm pr nl sc sk gc ∧ (B ≤ C ∧ C ≤ D) ∧ lsl.oneCell' = true ∧ VarW w cb 129 ([nm, pr, nl, sc, sk, .int .i64 (.ofNat st.pc), lsl] ++ [s]) ∧ RowW w s 54 5 st.xs.length (flat nv st.xs) g ∧ (C ≤ g ∧ g < D) ∧ gl ≠ g ∧ (C ≤ cb ∧ cb < D) ∧
    RowW w lsl 54 5 f.locals (flat ov st.ls) gl ∧ (C ≤ gl ∧ gl < D) ∧ st.ls.length = f.locals ∧ st.row = true
/-- a block of a call -/
def Own (w : World) (b : Nat) : Prop := ∃ cs e, w.heap[b]? = some (.cells cs e) ∧ (e = 129 ∨ e = 54)
theorem VarW.own {w : World} {b : Nat} {vs : List Value} (h : VarW w b 129 vs) : Own w b := by
  obtain ⟨cs, h, _⟩ := h
  exact ⟨cs, _, h, .inl rfl⟩
theorem RowW.own {w : World} {v : Value} {n : Nat} {vs : List Value} {g : Nat} (h : RowW w v 54 5 n vs g) : Own w g := by
  obtain ⟨_, _, cs, _, h, _⟩ := h
  exact ⟨cs, _, h, .inr rfl⟩
theorem Lw.keep {w w' : World} {B C D cb : Nat} {f : FV} {st : St} (h : Lw w B C D f cb st) (hb : Below B w w') (hk : ∀ b, b < D → Own w b → w'.heap[b]? = w.heap[b]?) : Lw w' B C D f cb st := by
  obtain ⟨nm, pr, nl, sc, sk, gc, gl, lsl, s, g, hF, hC, ho, hc, hs, hg, hgg, hcb, hl, hgl, h2⟩ := h
  exact ⟨nm, pr, nl, sc, sk, gc, gl, lsl, s, g, hF.below hb, hC, ho, E3.VarW.keep hc (hk _ hcb.2 (VarW.own hc)), E3.RowW.keep hs (hk _ hg.2 (RowW.own hs)), hg, hgg, hcb, E3.RowW.keep hl (hk _ hgl.2 (RowW.own hl)), hgl, h2⟩
/-- the calls that wait, the last one first -/
def Frs (w : World) (B : Nat) : Nat → List (Nat × FV × St) → Prop
  | _, [] => True
  | D, (cb, f, st) :: r => ∃ C, Lw w B C D f cb st ∧ Frs w B C r
theorem Frs.keep {w w' : World} {B : Nat} (hb : Below B w w') : ∀ {l : List (Nat × FV × St)} {D : Nat}, Frs w B D l → (∀ b, b < D → Own w b → w'.heap[b]? = w.heap[b]?) → Frs w' B D l
  | [], _, _, _ => trivial
  | (cb, f, st) :: r, D, ⟨C, h1, h2⟩, hk => ⟨C, h1.keep hb hk, Frs.keep hb h2 fun b h0 ho => hk b (by obtain ⟨_, _, _, _, _, _, _, _, _, _, _, hC, _⟩ := h1; omega) ho⟩

/-- what a step keeps -/
theorem sx_keep {C tb base : Nat} {w w' : World} (hx : Fx (Sx C tb base w) w w') (hC : C ≤ w.heap.size) (hty : ∃ cs, w.heap[tb]? = some (.cells cs 194)) {b : Nat} (hb : b < C) (ho : Own w b) : w'.heap[b]? = w.heap[b]? := by
  refine hx.block b (by omega) fun h => ?_
  obtain ⟨cs, e, h1, h2⟩ := ho
  rcases h with ⟨h, _⟩ | rfl | ⟨_, cs', h⟩
  · omega
  · obtain ⟨cs', h⟩ := hty
    rw [h1] at h
    injection Option.some.inj h with _ h
    subst h
    rcases h2 with h2 | h2 <;> cases h2
  · rw [h1] at h
    injection Option.some.inj h with _ h
    subst h
    rcases h2 with h2 | h2 <;> cases h2
theorem sx_below {B C tb base : Nat} {w w' : World} (hx : Fx (Sx C tb base w) w w') (hB : B ≤ w.heap.size) (hC : B ≤ C) (ht : B ≤ tb) (hb : B ≤ base) : Below B w w' :=
  hx.below hB fun g hg h => by
    rcases h with ⟨h, _⟩ | rfl | ⟨h, _⟩ <;> omega

section
variable {w : World} {B C L tb base gc cb gl : Nat} {consts : List (Nat × Int)} {nm pr nl sc sk lsl : Value} {fuel : Int} {evs : List Int} {f : FV} {st : St}
/-- the top call waits -/
theorem One.low (h : One w B C f.locals tb base f.consts nm pr nl sc sk gc cb gl lsl st fuel evs) (hF : FnD w B f nm pr nl sc sk gc) (hr : st.row = true) : Lw w B C w.heap.size f cb st := by
  obtain ⟨s, hc, hs⟩ := h.call
  rw [hr, if_pos rfl] at hs
  obtain ⟨g, hs, hg, hgg⟩ := hs
  exact ⟨nm, pr, nl, sc, sk, gc, gl, lsl, s, g, hF, ⟨h.BC, h.size⟩, h.ones lsl (by simp), hc, hs, ⟨hg, E3.RowW.lt hs⟩, hgg, ⟨h.cb, E3.VarW.lt hc⟩, h.loc, ⟨h.gl, E3.RowW.lt h.loc⟩, h.two, hr⟩
/-- the waiting call goes on -/
theorem Lw.top {D : Nat} (h : Lw w B C D f cb st) (hD : D ≤ w.heap.size) (hT : Tk w tb base fuel evs) (hty : ∃ cs, w.heap[tb]? = some (.cells cs 194)) (h1 : B ≤ tb) (h2 : tb < base) (h3 : base ≤ w.heap.size) :
    ∃ nm pr nl sc sk gc gl lsl, FnD w B f nm pr nl sc sk gc ∧ One w B C f.locals tb base f.consts nm pr nl sc sk gc cb gl lsl st fuel evs := by
  obtain ⟨nm, pr, nl, sc, sk, gc, gl, lsl, s, g, hF, hC, ho, hc, hs, hg, hgg, hcb, hl, hgl, h5, h6⟩ := h
  refine ⟨nm, pr, nl, sc, sk, gc, gl, lsl, hF, hC.1, by omega, ⟨s, hc, by rw [h6, if_pos rfl]; exact ⟨g, hs, hg.1, hgg⟩⟩, fun u hu => ?_, hcb.1, hl, hgl.1, h5, hF.le2, hF.con, hF.gc, hF.few, hT, hty, h1, h2, h3⟩
  have h7 := hF.ones
  simp only [List.mem_cons, List.not_mem_nil, or_false] at hu
  rcases hu with rfl | rfl | rfl | rfl | rfl | rfl
  · exact h7 _ (by simp)
  · exact h7 _ (by simp)
  · exact h7 _ (by simp)
  · exact h7 _ (by simp)
  · exact h7 _ (by simp)
  · exact ho
/-- a call that was opened now -/
theorem One.new {w1 : World} {D : Nat} {ls : List (Option Nat)} (hF : FnD w B f nm pr nl sc sk gc) (hT : Tk w tb base fuel evs) (hty : ∃ cs, w.heap[tb]? = some (.cells cs 194)) (h1 : B ≤ tb) (h2 : tb < base) (h3 : base ≤ w.heap.size) (hB : B ≤ w.heap.size) (hD : D = w.heap.size)
    (hc : VarW w1 cb 129 [nm, pr, nl, sc, sk, .int .i64 0, lsl, .slice none 0 0]) (hl : RowW w1 lsl 54 5 f.locals (flat ov ls) gl) (hls : ls.length = f.locals) (hcb : w.heap.size ≤ cb) (hgl : w.heap.size ≤ gl) (hb : Below w.heap.size w w1) :
    FnD w1 B f nm pr nl sc sk gc ∧ One w1 B D f.locals tb base f.consts nm pr nl sc sk gc cb gl lsl ⟨0, ls, [], false⟩ fuel evs := by
  subst hD
  have hbB : Below B w w1 := hb.mono hB
  have hF1 := hF.below hbB
  have ho : lsl.oneCell' = true := by
    obtain ⟨_, _, _, rfl, _⟩ := hl
    rfl
  refine ⟨hF1, hB, hb.size, ⟨_, hc, by rw [if_neg (by simp)]; exact ⟨rfl, rfl⟩⟩, fun u hu => ?_, hcb, hl, hgl, hls, hF.le2, hF1.con, hF.gc, hF.few, hT.fx (S := fun _ => False) (Fx.ofB hb) (fun h => h) (fun _ _ _ h => h), ?_, h1, h2, Nat.le_trans h3 hb.size⟩
  · have h7 := hF.ones
    simp only [List.mem_cons, List.not_mem_nil, or_false] at hu
    rcases hu with rfl | rfl | rfl | rfl | rfl | rfl
    · exact h7 _ (by simp)
    · exact h7 _ (by simp)
    · exact h7 _ (by simp)
    · exact h7 _ (by simp)
    · exact h7 _ (by simp)
    · exact ho
  · obtain ⟨cs, hcs⟩ := hty
    exact ⟨cs, (hb.block tb hT.lt).trans hcs⟩
end

end Go.Proofs.YtplnnlnkcfappaaGreat.Sv
