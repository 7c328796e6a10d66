/- The machine with a stack: one value is popped. -/
import Derived.Test.YtplnnlnkcfappaaGreatTn
namespace Go.Proofs.YtplnnlnkcfappaaGreat.Sv
open Go.RowKit E3
set_option linter.unusedVariables false

variable {w : World} {B C L tb base gc cb gl : Nat} {consts : List (Nat × Int)} {nm pr nl sc sk lsl : Value} {fuel : Int} {evs : List Int} {pc : Nat} {ls : List (Option Nat)} {xs : List Nat} {b : Bool}

theorem one_pop {z : Nat} (h : One w B C L tb base consts nm pr nl sc sk gc cb gl lsl ⟨pc, ls, [z], true⟩ fuel evs) :
    Calls Tryz.prog 43 #[.pointer (some ⟨cb, 0, none⟩), .int .i64 1] w fun e w' => (∃ v, e = .returned v ∧ RowAt w' v 1 (nv z)) ∧ One w' B C L tb base consts nm pr nl sc sk gc cb gl lsl ⟨pc, ls, [], true⟩ fuel evs ∧ Fx (Sx C tb base w) w w' := by
  obtain ⟨s, hc, hs⟩ := h.call
  have h7 := h.ones7
  rw [if_pos rfl] at hs
  obtain ⟨g, hr, hg, hgg⟩ := hs
  refine (popRow (n := 1) (x := []) h.size h.cb rfl h7 hc (by simp) ones_nil hr hg (by show (flat nv [z]).length ≤ 16; simp [flat, nv_len]) (flat_ones nv_ones [z]) rfl (by decide) (by simp) (by kernel_rfl)).mono fun e w' hh => ?_
  obtain ⟨he, s', g', e1, e2, e3, e4, hb, hk⟩ := hh
  refine ⟨he, One.next (og := some g) h hc (fun g0 hg0 => by
    obtain rfl := Option.some.inj hg0
    obtain ⟨_, _, cs, _, hh, _⟩ := hr
    exact ⟨⟨cs, hh⟩, hgg, hg⟩) e1 e2 e3 (e4.imp (fun h => by rw [h]) id) hb (fun b0 h0 n1 n2 _ => hk b0 h0 n1 (n2 g rfl)) rfl (E3.RowW.keep h.loc (hk gl (E3.RowW.lt h.loc) (RowW.ne h.loc hc (by decide)) hgg)) h.two rfl⟩

end Go.Proofs.YtplnnlnkcfappaaGreat.Sv
