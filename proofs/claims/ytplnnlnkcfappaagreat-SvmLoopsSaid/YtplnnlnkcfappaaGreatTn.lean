/- The machine with a stack: the place in the code is set. -/
import Derived.Test.YtplnnlnkcfappaaGreatTm
namespace Go.Proofs.YtplnnlnkcfappaaGreat.Sv
open Go.RowKit E3
set_option linter.unusedVariables false

variable {w : World} {B C L tb base gc cb gl : Nat} {consts : List (Nat × Int)} {nm pr nl sc sk lsl : Value} {fuel : Int} {evs : List Int} {pc : Nat} {ls : List (Option Nat)} {xs : List Nat} {b : Bool}

theorem one_pc {w' : World} {pc' : Nat} (h : One w B C L tb base consts nm pr nl sc sk gc cb gl lsl ⟨pc, ls, xs, b⟩ fuel evs) (hb : Below B w w')
    (e1 : ∀ s, VarW w cb 129 ([nm, pr, nl, sc, sk, .int .i64 (.ofNat pc), lsl] ++ [s]) → VarW w' cb 129 ([nm, pr, nl, sc, sk, .int .i64 (.ofNat pc'), lsl] ++ [s]))
    (hk : ∀ b, b < w.heap.size → b ≠ cb → w'.heap[b]? = w.heap[b]?) : One w' B C L tb base consts nm pr nl sc sk gc cb gl lsl ⟨pc', ls, xs, b⟩ fuel evs ∧ Fx (Sx C tb base w) w w' := by
  obtain ⟨s, hc, hs⟩ := h.call
  have hgl := E3.RowW.lt h.loc
  have hglc : gl ≠ cb := RowW.ne h.loc hc (by decide)
  have htl := h.tank.lt
  have htc : tb ≠ cb := by
    obtain ⟨cs0, hc0, _⟩ := hc
    obtain ⟨cs, hcs⟩ := h.ty
    exact (ty_ne (e := 129) ⟨cs0, hc0⟩ hcs (by decide))
  have hT : Tk w' tb base fuel evs := tank_keep (S := fun b => b = cb) h.tank hb (fun b h0 h1 => hk b h0 h1) htc fun g ⟨cs, hcs⟩ h2 => by
    obtain ⟨cs0, hc0, _⟩ := hc
    subst h2
    exact absurd rfl (ty_ne (e := 129) ⟨cs0, hc0⟩ hcs (by decide))
  refine ⟨⟨h.BC, Nat.le_trans h.size hb.size, ⟨s, e1 s hc, ?_⟩, h.ones, h.cb, E3.RowW.keep h.loc (hk gl hgl hglc), h.gl, h.two, h.le2, E3.RowW.keep h.con (hb.block gc h.gc), h.gc, h.few, hT, ?_, h.tbB, h.tbb, Nat.le_trans h.base hb.size⟩, Fx.ofKeep hb fun b0 h0 h1 => hk b0 h0 ?_⟩
  · cases b with
    | true =>
      rw [if_pos rfl] at hs
      rw [if_pos rfl]
      obtain ⟨g, hr, hg, hgg⟩ := hs
      exact ⟨g, E3.RowW.keep hr (hk g (E3.RowW.lt hr) (RowW.ne hr hc (by decide))), hg, hgg⟩
    | false =>
      rw [if_neg (by simp)] at hs
      rw [if_neg (by simp)]
      exact hs
  · obtain ⟨cs, hcs⟩ := h.ty
    exact ⟨cs, (hk tb htl htc).trans hcs⟩
  · rintro rfl
    obtain ⟨cs, hcs, _⟩ := hc
    exact h1 (.inl ⟨h.cb, cs, _, hcs, .inl rfl⟩)

end Go.Proofs.YtplnnlnkcfappaaGreat.Sv
