/- SameCode: the contract. -/
import Derived.Test.YteaaahcgkodcdaaSc
namespace Go.Proofs.Yteaaahcgkodcdaa.Sa
open Go.RowKit Go.Proofs.Yteaaahcgkodcdaa.Ea
set_option linter.unusedSimpArgs false
set_option linter.unusedVariables false

def SamePost (a b : List MI) (w : World) (e : Ending) (w' : World) : Prop := e = .returned (.bool (decide (a = b))) ∧ Below w.heap.size w w'

theorem below_drewN' {B : Nat} {a w : World} (h : Below B a w) (n : Nat) : Below B a (w.drewN n) := ⟨h.os, h.tape, h.output, h.size, h.block⟩

set_option maxHeartbeats 2000000 in
set_option maxRecDepth 100000 in
theorem same_calls (w : World) (va vb : Value) (a b : List MI) (ha : Sl MI.cells 5 w va a) (hb : Sl MI.cells 5 w vb b) (hla : a.length ≤ 1000) (hlb : b.length ≤ 1000) : Calls Try.prog 19 #[va, vb] w (SamePost a b w) := by
  obtain ⟨aa, capa, rfl⟩ := ha.form
  obtain ⟨ab, capb, rfl⟩ := hb.form
  have HA := Lib.hid ha
  have HB := Lib.hid hb
  clear ha hb
  by_cases hl : a.length = b.length
  · have hl0 : ((a.length : Int) != (b.length : Int)) = false := by rw [bne_eq_false_iff_eq]; omega
    have HL := Lib.hid hl
    clear hl
    go_enter Try.func19, Try.ntmps19
    go_wp2
    go_loopw [5] (fun i wr => ∃ k : Nat, k ≤ a.length ∧ i = .int .i64 k ∧ Hid (∀ j, j < k → a[j]? = b[j]?) ∧ Below w.heap.size w wr) (fun i _ => a.length - (intOf i).toNat)
    case atStart => exact ⟨0, by omega, rfl, fun j hj => by omega, Below.refl _ _⟩
    case round =>
      obtain ⟨k, hk, rfl, hgood, hbl⟩ := hrel
      have HBL := Lib.hid hbl
      clear hbl
      by_cases hlt : k < a.length
      · have hltb : k < b.length := by rw [← HL.out]; exact hlt
        obtain ⟨p, offa, cpa, hva, hcapa, hblta, hcella⟩ := (HA.out.below HBL.out).at (by intro e; rw [e] at hlt; simp at hlt)
        obtain ⟨rfl, rfl⟩ : aa = some ⟨p, offa, none⟩ ∧ cpa = capa := by injection hva with h1 _ h2; exact ⟨h1, h2.symm⟩
        obtain ⟨q, offb, cpb, hvb, hcapb, hbltb, hcellb⟩ := (HB.out.below HBL.out).at (by intro e; rw [e] at hltb; simp at hltb)
        obtain ⟨rfl, rfl⟩ : ab = some ⟨q, offb, none⟩ ∧ cpb = capb := by injection hvb with h1 _ h2; exact ⟨h1, h2.symm⟩
        clear hva hvb
        obtain ⟨m, hm⟩ : ∃ m, a[k] = m := ⟨_, rfl⟩
        obtain ⟨n, hn⟩ : ∃ n, b[k] = n := ⟨_, rfl⟩
        have ca := hcella k hlt
        have cb := hcellb k hltb
        rw [hm] at ca
        rw [hn] at cb
        have HM := Lib.hid hm
        have HN := Lib.hid hn
        clear hcella hcellb hm hn
        have HK : Hid (a[k]? = some m ∧ b[k]? = some n) := ⟨by rw [List.getElem?_eq_getElem hlt, HM.out], by rw [List.getElem?_eq_getElem hltb, HN.out]⟩
        obtain ⟨m0, m1, m2, m3, m4⟩ := m
        obtain ⟨n0, n1, n2, n3, n4⟩ := n
        have a0 : wr.cell? ⟨p, offa + k * 5, none⟩ = some (.int .i64 m0) := ca 0 _ rfl
        have a1 : wr.cell? ⟨p, offa + k * 5 + 1, none⟩ = some (.int .i64 m1) := ca 1 _ rfl
        have a2 : wr.cell? ⟨p, offa + k * 5 + 2, none⟩ = some (.int .i64 m2) := ca 2 _ rfl
        have a3 : wr.cell? ⟨p, offa + k * 5 + 3, none⟩ = some (.int .i64 m3) := ca 3 _ rfl
        have a4 : wr.cell? ⟨p, offa + k * 5 + 4, none⟩ = some (.int .i64 m4) := ca 4 _ rfl
        have b0 : wr.cell? ⟨q, offb + k * 5, none⟩ = some (.int .i64 n0) := cb 0 _ rfl
        have b1 : wr.cell? ⟨q, offb + k * 5 + 1, none⟩ = some (.int .i64 n1) := cb 1 _ rfl
        have b2 : wr.cell? ⟨q, offb + k * 5 + 2, none⟩ = some (.int .i64 n2) := cb 2 _ rfl
        have b3 : wr.cell? ⟨q, offb + k * 5 + 3, none⟩ = some (.int .i64 n3) := cb 3 _ rfl
        have b4 : wr.cell? ⟨q, offb + k * 5 + 4, none⟩ = some (.int .i64 n4) := cb 4 _ rfl
        clear ca cb
        have i0 : (0 : Int) ≤ (k : Int) := by omega
        have i1 : (k : Int) < (a.length : Int) := by omega
        have i2 : (k : Int) < (b.length : Int) := by omega
        by_cases heq : (⟨m0, m1, m2, m3, m4⟩ : MI) = ⟨n0, n1, n2, n3, n4⟩
        · obtain ⟨rfl, rfl, rfl, rfl, rfl⟩ : m0 = n0 ∧ m1 = n1 ∧ m2 = n2 ∧ m3 = n3 ∧ m4 = n4 := by injection heq with h0 h1 h2 h3 h4; exact ⟨h0, h1, h2, h3, h4⟩
          clear heq
          go_wp2_with fail
          go_quiet (fail)
          go_wp2
          go_roundw
          case rel =>
            refine ⟨k + 1, by omega, by go_num, ?_, below_drewN' HBL.out _⟩
            intro j hj
            rcases Nat.lt_or_ge j k with h | h
            · exact hgood.out j h
            · obtain rfl : j = k := by omega
              rw [HK.out.1, HK.out.2]
          case measure => simp [intOf]; omega
        · have HNE : Hid (decide (a = b) = false) := decide_eq_false (fun e => by
            apply heq
            have h1 := HK.out.1
            rw [e, HK.out.2] at h1
            exact (Option.some.inj h1).symm)
          have hd : ¬ (m0 = n0) ∨ (m0 = n0 ∧ ¬ (m1 = n1)) ∨ (m0 = n0 ∧ m1 = n1 ∧ ¬ (m2 = n2)) ∨ (m0 = n0 ∧ m1 = n1 ∧ m2 = n2 ∧ ¬ (m3 = n3)) ∨ (m0 = n0 ∧ m1 = n1 ∧ m2 = n2 ∧ m3 = n3 ∧ ¬ (m4 = n4)) := by
            by_cases h0 : m0 = n0
            · by_cases h1 : m1 = n1
              · by_cases h2 : m2 = n2
                · by_cases h3 : m3 = n3
                  · by_cases h4 : m4 = n4
                    · exact (heq (by rw [h0, h1, h2, h3, h4])).elim
                    · exact .inr (.inr (.inr (.inr ⟨h0, h1, h2, h3, h4⟩)))
                  · exact .inr (.inr (.inr (.inl ⟨h0, h1, h2, h3⟩)))
                · exact .inr (.inr (.inl ⟨h0, h1, h2⟩))
              · exact .inr (.inl ⟨h0, h1⟩)
            · exact .inl h0
          clear heq HK
          rcases hd with h | ⟨rfl, h⟩ | ⟨rfl, rfl, h⟩ | ⟨rfl, rfl, rfl, h⟩ | ⟨rfl, rfl, rfl, rfl, h⟩
          all_goals
            go_wp2_with fail
            go_quiet (fail)
            go_wp2
            go_ret
            exact ⟨congrArg Ending.returned (congrArg Value.bool HNE.out.symm), below_drewN' HBL.out _⟩
      · obtain rfl : k = a.length := by omega
        have HE : Hid (decide (a = b) = true) := decide_eq_true (by
          apply List.ext_getElem?
          intro j
          rcases Nat.lt_or_ge j a.length with h | h
          · exact hgood.out j h
          · rw [List.getElem?_eq_none h, List.getElem?_eq_none (by rw [← HL.out]; exact h)])
        go_wp2
        go_ret
        exact ⟨congrArg Ending.returned (congrArg Value.bool HE.out.symm), HBL.out⟩
  · have hl0 : ((a.length : Int) != (b.length : Int)) = true := by rw [bne_iff_ne]; omega
    have HL := Lib.hid hl
    clear hl
    go_enter Try.func19, Try.ntmps19
    go_wp2
    go_ret
    exact ⟨congrArg Ending.returned (congrArg Value.bool (decide_eq_false (fun e => HL.out (congrArg List.length e)))).symm, Below.refl _ _⟩

end Go.Proofs.Yteaaahcgkodcdaa.Sa
