/- OpsSizes: Binary. -/
import Derived.Test.YtplnnlnkcfappaaOj
import Derived.Deep.RegionHeld3
namespace Go.Proofs.Ytplnnlnkcfappaa.Oa
open Go.RowKit
set_option linter.unusedSimpArgs false
set_option linter.unusedVariables false

/-- what adding answers: the sum of n, or nil, and how it went -/
def BinPost (k : Int) (n : Nat) (c : Int) (w : World) (e : Ending) (w' : World) : Prop := ∃ r, e = .returned (.tuple #[r, .int .i64 c]) ∧ (if c = 0 then Vl k w' r n else r = cv 0 ⟨#[]⟩ nilL) ∧ Fr w.heap.size r ∧ Below w.heap.size w w'
/-- how adding what has n1 and what has n2 goes -/
def code (n1 n2 : Nat) : Int := if n1 ≤ 999 ∧ n2 ≤ 999 then (if n1 + n2 ≤ 999 then 0 else 4) else 1
def gd (n : Nat) (v : Value) : Value := if n ≤ 999 then v else cv 0 ⟨#[]⟩ nilL

theorem bin_of_made {k : Int} {n1 n2 : Nat} (h1 : n1 ≤ 999) (h2 : n2 ≤ 999) {w : World} {e : Ending} {w' : World} (h : MadePost k (n1 + n2) w e w') : BinPost k (n1 + n2) (code n1 n2) w e w' := by
  obtain ⟨r, rfl, hv, hf, hb⟩ := h
  unfold code
  rw [if_pos ⟨h1, h2⟩]
  refine ⟨r, rfl, ?_, hf, hb⟩
  by_cases h9 : n1 + n2 ≤ 999
  · rw [if_pos h9] at hv
    rw [if_pos h9, if_pos rfl]
    exact hv
  · rw [if_neg h9] at hv
    rw [if_neg h9, if_neg (by decide)]
    exact hv

/-- a value that adding takes: a list lies somewhere -/
def Vs (k : Int) (w : World) (v : Value) (n : Nat) : Prop :=
  (k = 4 ∧ ∃ (p : Addr) (cap : Nat) (l : List Unit), v = cv 4 ⟨#[]⟩ (.slice (some p) l.length cap) ∧ Sl nc 5 w (.slice (some p) l.length cap) l ∧ l.length = n) ∨ (k = 3 ∧ ∃ s : ByteArray, v = cv 3 s nilL ∧ s.size = n)
theorem Vs.vl {k : Int} {w : World} {v : Value} {n : Nat} (h : Vs k w v n) : Vl k w v n := by
  rcases h with ⟨hk, p, cap, l, hv, hs, hn⟩ | h
  · exact .inl ⟨hk, _, l, hv, hs, hn⟩
  · exact .inr h
theorem Vs.below {k : Int} {w w' : World} {v : Value} {n : Nat} (h : Vs k w v n) (hb : Below w.heap.size w w') : Vs k w' v n := by
  rcases h with ⟨hk, p, cap, l, hv, hs, hn⟩ | h
  · exact .inl ⟨hk, p, cap, l, hv, hs.below hb, hn⟩
  · exact .inr h

theorem add_calls {k : Int} {w : World} {v1 v2 : Value} {n1 n2 : Nat} (h1 : Vs k w v1 n1) (h2 : Vs k w v2 n2) : Calls Try.prog 23 #[gd n1 v1, gd n2 v2] w (BinPost k (n1 + n2) (code n1 n2) w) := by
  by_cases g1 : n1 ≤ 999
  · by_cases g2 : n2 ≤ 999
    · unfold gd
      rw [if_pos g1, if_pos g2]
      rcases h1 with ⟨rfl, p1, c1, l1, rfl, hs1, rfl⟩ | ⟨rfl, s1, rfl, rfl⟩
      · rcases h2 with ⟨_, p2, c2, l2, rfl, hs2, rfl⟩ | ⟨h, _⟩
        · exact (addList_calls w p1 p2 c1 c2 l1 l2 hs1 hs2 (by omega) (by omega)).mono fun e w' h => bin_of_made g1 g2 h
        · omega
      · rcases h2 with ⟨h, _⟩ | ⟨_, s2, rfl, rfl⟩
        · omega
        · exact (addText_calls w s1 s2 (by omega) (by omega)).mono fun e w' h => bin_of_made g1 g2 h
    · obtain ⟨s, a, m, cap, rfl⟩ := h1.vl.form
      have hk : k = 3 ∨ k = 4 := by rcases h1 with ⟨h, _⟩ | ⟨h, _⟩ <;> simp [h]
      unfold gd
      rw [if_pos g1, if_neg g2]
      have hc : code n1 n2 = 1 := by unfold code; rw [if_neg (by omega)]
      rw [hc]
      exact (addNo_calls w k 0 (.inr ⟨rfl, hk⟩) _ _ a none m 0 cap 0).mono fun e w' ⟨he, hb⟩ => ⟨_, he, by rw [if_neg (by decide)], fr_nil _, hb⟩
  · unfold gd
    rw [if_neg g1]
    have hk : k = 3 ∨ k = 4 := by rcases h1 with ⟨h, _⟩ | ⟨h, _⟩ <;> simp [h]
    have hc : code n1 n2 = 1 := by unfold code; rw [if_neg (by omega)]
    rw [hc]
    by_cases g2 : n2 ≤ 999
    · rw [if_pos g2]
      obtain ⟨s, a, m, cap, rfl⟩ := h2.vl.form
      exact (addNo_calls w 0 k (.inl ⟨rfl, by omega⟩) _ _ none a 0 m 0 cap).mono fun e w' ⟨he, hb⟩ => ⟨_, he, by rw [if_neg (by decide)], fr_nil _, hb⟩
    · rw [if_neg g2]
      exact (addNo_calls w 0 0 (.inl ⟨rfl, .inl rfl⟩) _ _ none none 0 0 0 0).mono fun e w' ⟨he, hb⟩ => ⟨_, he, by rw [if_neg (by decide)], fr_nil _, hb⟩

theorem info40 : (Try.prog.info? 40).map (fun i => (i.zero, i.size, i.bytes)) = some (some .nilFunc, 1, 8) := by kernel_rfl
@[go_sem] theorem run_index_tab (w : World) (p8 p9 p10 p11 : Option Addr) : (Instr.index 41 (.agg #[.nilFunc, fv 23, fv 24, fv 25, fv 26, fv 27, fv 28, fv 29, .func (.func 58) #[] #[.pointer p8], .func (.func 58) #[] #[.pointer p9], .func (.func 58) #[] #[.pointer p10], .func (.func 58) #[] #[.pointer p11], fv 35, fv 36, fv 37]) (.int .i64 1)).run Try.prog w = .ok (.func (.func 23) #[] #[]) w := by
  obtain ⟨i0, hi, hz0, hz1, hz2⟩ := info_parts info40
  have hu : Try.prog.underlying 41 = some (.array 15 40) := by kernel_rfl
  have hs : (Go.sizeOf 40).run Try.prog w = .ok 1 w := by simp [Go.sizeOf, typeInfo, hi, hz1]
  have ha : (isAgg 40).run Try.prog w = .ok false w := by kernel_rfl
  simp [Instr.index, asIntOf, run_underlying hu, hs, part, ha, fv]

theorem bin_form {k : Int} {n : Nat} {c : Int} {w : World} {r : Value} (h : if c = 0 then Vl k w r n else r = cv 0 ⟨#[]⟩ nilL) : ∃ k' s a m cap, r = cv k' s (.slice a m cap) := by
  split at h
  · obtain ⟨s, a, m, cap, rfl⟩ := h.form
    exact ⟨_, _, _, _, _, rfl⟩
  · exact ⟨_, _, _, _, _, h⟩
theorem bin_set5 {k : Int} {n : Nat} {c : Int} {w : World} {r : Value} {B : Nat} (h : if c = 0 then Vl k w r n else r = cv 0 ⟨#[]⟩ nilL) (hf : Fr B r) {g : Nat} (hg : g < B) (u0 u1 u2 u3 u4 : Value) :
    if c = 0 then Vl k (((((w.setCell ⟨g, 0, none⟩ u0).setCell ⟨g, 1, none⟩ u1).setCell ⟨g, 2, none⟩ u2).setCell ⟨g, 3, none⟩ u3).setCell ⟨g, 4, none⟩ u4) r n else r = cv 0 ⟨#[]⟩ nilL := by
  split
  · rename_i h9
    rw [if_pos h9] at h
    exact h.set5 hf hg _ _ _ _ _
  · rename_i h9
    rw [if_neg h9] at h
    exact h

end Go.Proofs.Ytplnnlnkcfappaa.Oa
