/- SvmCalls: the law walked. -/
import Derived.Test.YtplnnlnkcfappaaGreatUd
import Derived.Test.YtplnnlnkcfappaaGreatTs
namespace Go.Proofs.YtplnnlnkcfappaaGreat.Sv
open Go.RowKit E3
set_option linter.unusedSimpArgs false
set_option linter.unusedVariables false

theorem Prg.grow {w w' : World} {B B' g o : Nat} {fs : List FV} (h : Prg w B g o fs) (hb : Below B w w') (hB : B ≤ B') : Prg w' B' g o fs :=
  ⟨Nat.lt_of_lt_of_le h.lt hB, fun i f hi => by
    obtain ⟨sc, sk, gc, h1, h2⟩ := h.fns i f hi
    have h3 := h2.below hb
    refine ⟨sc, sk, gc, fun j u hj => (hb.cell h.lt).trans (h1 j u hj), h3.ones, h3.nl, h3.con, Nat.lt_of_lt_of_le h3.gc hB, h3.few, h3.le2, ?_, h3.short⟩
    obtain ⟨gk, ok, ck, e1, e2, e3⟩ := h3.code
    exact ⟨gk, ok, ck, e1, Nat.lt_of_lt_of_le e2 hB, e3⟩⟩
theorem red_nat (a : Int) (m : Nat) (h0 : 0 < m) (h1 : (m : Int) < 65536) : ∃ n : Nat, n < m ∧ (bits BinOp.and IntKind.i64 a 65535).tmod m = (n : Int) := by
  have hlt := E3.maskd_lt a 16 (by omega)
  have key : bits BinOp.and IntKind.i64 a 65535 = ((E3.maskd a 16 : Nat) : Int) := by
    show IntKind.i64.wrap ((E3.maskd a 16 : Nat) : Int) = _
    rw [E3.i64_wrap_small (by omega) (by omega)]
  refine ⟨E3.maskd a 16 % m, Nat.mod_lt _ h0, ?_⟩
  rw [key, Int.tmod_eq_emod_of_nonneg (by omega)]
  exact (Int.natCast_emod _ _).symm

set_option maxRecDepth 100000 in
set_option maxHeartbeats 8000000 in
theorem calls_calls (w : World) (a b : Int) : Calls Tryz.prog 8 #[.int .i64 a, .int .i64 b] w fun e w' => e = .returned (.bool true) ∧ Below w.heap.size w w' := by
  obtain ⟨n, hn, en⟩ := red_nat a 2000 (by decide) (by decide)
  obtain ⟨fu, hf, ef⟩ := red_nat b 3000 (by decide) (by decide)
  have en' : (bits BinOp.and IntKind.i64 a 65535).tmod 2000 = (n : Int) := en
  have ef' : (bits BinOp.and IntKind.i64 b 65535).tmod 3000 = (fu : Int) := ef
  clear en ef
  go_enter Tryz.func8, Tryz.ntmps8
  go_wp2_with fail
  refine (digits_calls _ hn).mono ?_
  rintro e w1 ⟨rfl, hb1⟩
  have hdl : (digL n).length ≤ 4 := by
    unfold digL
    split
    · simp
    · split
      · simp
      · split <;> simp
  have q1 : ¬ 9223372036854775807 < 78 + (digL n).length := by omega
  have q2 : ¬ 9223372036854775807 < 78 + (digL n).length + 4 := by omega
  have HB1 := Lib.hid hb1
  clear hdl hb1
  go_wp2_with fail
  refine (calls_made hn (by
    rw [ba_append, ba_append]
    simp only [List.append_assoc]
    rfl)).mono ?_
  rintro e w2 ⟨g, o, cap, nf, nm, rfl, hb2, hP, hc⟩
  clear q1 q2
  have HM := Lib.hid (And.intro hb2 (And.intro hP hc))
  clear hb2 hP hc
  go_wp2_with fail
  obtain ⟨t, R, N, hr, hres⟩ := m_runs (fs := [fV nf, mV nm n]) (f := fV nf) (m := mV nm n) (fuel := fu) rfl rfl rfl rfl rfl rfl hn
  have hsz : (w2.alloc (.cells #[.slice (some ⟨g, o, none⟩) 2 cap, .int .i64 1] 24)).heap.size = w2.heap.size + 1 := by simp
  have hbA : Below w2.heap.size w2 (w2.alloc (.cells #[.slice (some ⟨g, o, none⟩) 2 cap, .int .i64 1] 24)) := (Below.refl _ _).alloc (Nat.le_refl _) _
  refine (run_calls (g := g) (o := o) (cap := cap) (main := 1) (fuel := fu) (fs := [fV nf, mV nm n]) (f0 := mV nm n) (t := t) (R := R) (N := N) (HM.out.2.1.grow hbA (by omega)) rfl (.inl rfl) (by omega) (fun w3 hb3 => HM.out.2.2 w3 (hbA.trans (hb3.mono (by omega)))) hr).mono ?_
  rintro e w3 ⟨a1, cap1, base, rfl, ho, hbb, hb3⟩
  clear hsz hbA
  by_cases hlt : fu < n + 1
  · rw [if_pos hlt] at hres
    obtain ⟨rfl, htl⟩ := hres
    rw [htl]
    simp only [resOf]
    have hd : (fu : Int) < (n : Int) + 1 := by omega
    have hw : IntKind.i64.wrap ((n : Int) + 1) = (n : Int) + 1 := by
      rw [IntKind.wrap_i64]
      omega
    have hnn : ((n + 1 : Nat) : Int) = (n : Int) + 1 := rfl
    have hle2 := hb3.size
    have HB3 := Lib.hid (And.intro hb3 hle2)
    clear hb3 hle2 ho hbb htl hr hlt
    go_wp2_with fail
    refine (awakeK_calls _).mono ?_
    rintro e w4 ⟨rfl, hb4⟩
    have HB4 := Lib.hid hb4
    clear hb4
    go_wp2
    go_ret
    refine ⟨rfl, ?_⟩
    obtain ⟨h3, h4⟩ := HB3.out
    have hb1 := HB1.out
    have hb2 := HM.out.1
    have s2 : (w2.alloc (.cells #[.slice (some ⟨g, o, none⟩) 2 cap, .int .i64 1] 24)).heap.size = w2.heap.size + 1 := by simp
    have b1 := hb1.trans (hb2.mono hb1.size)
    have l2 := b1.size
    have b2 := (b1.alloc l2 (.cells #[.slice (some ⟨g, o, none⟩) 2 cap, .int .i64 1] 24)).trans (h3.mono (by omega))
    have l3 := b2.size
    have b3 := (b2.alloc l3 _).trans (HB4.out.mono (by simp; omega))
    exact b3
  · rw [if_neg hlt] at hres
    obtain ⟨rfl, htl⟩ := hres
    rw [htl]
    simp only [resOf]
    have hd : ¬ (fu : Int) < (n : Int) + 1 := by omega
    have hw : IntKind.i64.wrap ((n : Int) + 1) = (n : Int) + 1 := by
      rw [IntKind.wrap_i64]
      omega
    have hnn : ((n + 1 : Nat) : Int) = (n : Int) + 1 := rfl
    have hle2 := hb3.size
    have HB3 := Lib.hid (And.intro hb3 hle2)
    clear hb3 hle2 ho hbb htl hr hlt
    go_wp2_with fail
    refine (awakeK_calls _).mono ?_
    rintro e w4 ⟨rfl, hb4⟩
    have HB4 := Lib.hid hb4
    clear hb4
    go_wp2
    go_ret
    refine ⟨rfl, ?_⟩
    obtain ⟨h3, h4⟩ := HB3.out
    have hb1 := HB1.out
    have hb2 := HM.out.1
    have s2 : (w2.alloc (.cells #[.slice (some ⟨g, o, none⟩) 2 cap, .int .i64 1] 24)).heap.size = w2.heap.size + 1 := by simp
    have b1 := hb1.trans (hb2.mono hb1.size)
    have l2 := b1.size
    have b2 := (b1.alloc l2 (.cells #[.slice (some ⟨g, o, none⟩) 2 cap, .int .i64 1] 24)).trans (h3.mono (by omega))
    have l3 := b2.size
    have b3 := (b2.alloc l3 _).trans (HB4.out.mono (by simp; omega))
    exact b3

end Go.Proofs.YtplnnlnkcfappaaGreat.Sv
