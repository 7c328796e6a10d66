/- RvmSlots: a function's form may be. -/
import Derived.Test.YtplnnlnkcfappaaGreatRl
namespace Go.Proofs.YtplnnlnkcfappaaGreat.Rs
open Go.RowKit
set_option linter.unusedSimpArgs false
set_option linter.unusedVariables false

set_option maxHeartbeats 1000000 in
theorem notOk_calls (w : World) (n : Int) : Calls Tryz.prog 168 #[vv n] w fun e w' => e = .returned (.bool false) ∧ Below w.heap.size w w' := by
  unfold vv
  go_enter Tryz.func168, Tryz.ntmps168
  go_wp2_with fail
  refine (ok_calls _ n).mono ?_
  rintro e w1 ⟨rfl, hb⟩
  have HB := Lib.hid (show Below w.heap.size w w1 from ((Below.refl _ w).alloc (Nat.le_refl _) _).trans (hb.mono (by simp)))
  clear hb
  go_wp2
  go_ret
  exact ⟨rfl, HB.out⟩

set_option maxHeartbeats 2000000 in
theorem indexV_calls {w : World} {K : Value} {L : List Int} (h : Rw vc 5 54 w K L) (hL : L.length ≤ 1000) : Calls Tryz.prog 243 #[K, .func (.func 168) #[] #[]] w fun e w' => e = .returned (.int .i64 (-1)) ∧ Below w.heap.size w w' := by
  obtain ⟨g, cap, rfl, hcap, hlt, hc⟩ := h.cell vc_len
  have HC := Lib.hid (And.intro hlt hc)
  clear h hc hlt
  go_enter Tryz.func243, Tryz.ntmps243
  go_wp2
  go_loopw [5, 8] (fun i k wr => ∃ n : Nat, n ≤ L.length ∧ k = .int .i64 n ∧ Below w.heap.size w wr) (fun _ k _ => L.length - (match k with | .int _ n => n.toNat | _ => 0))
  case atStart => exact ⟨0, by omega, rfl, Below.refl _ _⟩
  case round =>
    obtain ⟨n, hn, rfl, hb⟩ := hrel
    have HB := Lib.hid hb
    clear hb
    by_cases hlt : n < L.length
    · have hx := fun j u hu => (HB.out.cell (p := ⟨g, n * 5 + j, none⟩) HC.out.1).trans (HC.out.2 n hlt j u hu)
      have c0 := hx 0 _ rfl
      have c1 := hx 1 _ rfl
      have c2 := hx 2 _ rfl
      have c3 := hx 3 _ rfl
      have c4 := hx 4 _ rfl
      simp only [Nat.add_zero] at c0
      clear hx
      go_wp2_with fail
      refine (notOk_calls _ L[n]).mono ?_
      rintro e w1 ⟨rfl, hb1⟩
      have HB1 := Lib.hid (HB.out.trans (hb1.mono HB.out.size))
      clear hb1
      go_wp2
      go_roundw
      case rel => exact ⟨n + 1, by omega, by go_num, HB1.out⟩
      case measure => simp; omega
    · obtain rfl : n = L.length := by omega
      go_wp2
      go_ret
      exact ⟨rfl, HB.out⟩

set_option maxHeartbeats 1000000 in
theorem containsV_calls {w : World} {K : Value} {L : List Int} (h : Rw vc 5 54 w K L) (hL : L.length ≤ 1000) : Calls Tryz.prog 167 #[K, .func (.func 168) #[] #[]] w fun e w' => e = .returned (.bool false) ∧ Below w.heap.size w w' := by
  have H := Lib.hid h
  clear h
  go_enter Tryz.func167, Tryz.ntmps167
  go_wp2_with fail
  refine (indexV_calls H.out hL).mono ?_
  rintro e w1 ⟨rfl, hb⟩
  have HB := Lib.hid hb
  clear hb
  go_wp2
  go_ret
  exact ⟨rfl, HB.out⟩

/-- an instruction that may be, in a function of so many constants -/
def insOk (kn : Nat) (x : Ins) : Prop :=
  (x.1 = 1 ∧ 0 ≤ x.2.1 ∧ x.2.1 < 9 ∧ 0 ≤ x.2.2 ∧ x.2.2 < kn) ∨ (x.1 = 13 ∧ 0 ≤ x.2.1 ∧ x.2.1 < 9 ∧ 0 ≤ x.2.2 ∧ x.2.2 < 5) ∨ (x.1 = 14 ∧ 0 ≤ x.2.1 ∧ x.2.1 < 9 ∧ 0 ≤ x.2.2 ∧ x.2.2 < 5) ∨ (x.1 = 8 ∧ 0 ≤ x.2.1 ∧ x.2.1 < 9 ∧ x.2.2 = 0) ∨ (x = last ∧ 0 < kn)
def iv (x : Ins) : Value := .agg #[.int .i64 x.1, .int .i64 x.2.1, .int .i64 x.2.2, .int .i64 0, .int .i64 0]
theorem form_calls (w : World) (Q V : Value) (ka : Option Addr) (kn kc : Nat) (x : Ins) (hx : insOk kn x) : Calls Tryz.prog 171 #[.agg #[Q, .int .i64 0, .int .i64 8], .agg #[.string ⟨#[]⟩, .int .i64 0, .int .i64 5, .slice ka kn kc, V], iv x] w fun e w' => e = .returned (.bool true) ∧ Below w.heap.size w w' := by
  obtain ⟨o, a, b⟩ := x
  unfold iv
  rcases hx with ⟨h1, h2, h3, h4, h5⟩ | ⟨h1, h2, h3, h4, h5⟩ | ⟨h1, h2, h3, h4, h5⟩ | ⟨h1, h2, h3, h4⟩ | ⟨h1, h2⟩
  · simp only at h1 h2 h3 h4 h5
    subst h1
    exact form1 w Q V ka kn kc a b h2 h3 h4 h5
  · simp only at h1 h2 h3 h4 h5
    subst h1
    exact form13 w Q _ V a b h2 h3 h4 h5
  · simp only at h1 h2 h3 h4 h5
    subst h1
    exact form14 w Q _ V a b h2 h3 h4 h5
  · simp only at h1 h2 h3 h4
    subst h1 h4
    exact form8 w Q _ V a h2 h3
  · simp only [last, Prod.mk.injEq] at h1
    obtain ⟨rfl, rfl, rfl⟩ := h1
    exact form16 w Q V ka kn kc h2

/-- the two boxes that the second closure has caught -/
structure Boxes (w : World) (pb fb : Nat) (Q V : Value) (ka : Option Addr) (kn kc : Nat) : Prop where
  p0 : w.cell? ⟨pb, 0, none⟩ = some Q
  p1 : w.cell? ⟨pb, 1, none⟩ = some (.int .i64 0)
  p2 : w.cell? ⟨pb, 2, none⟩ = some (.int .i64 8)
  f0 : w.cell? ⟨fb, 0, none⟩ = some (.string ⟨#[]⟩)
  f1 : w.cell? ⟨fb, 1, none⟩ = some (.int .i64 0)
  f2 : w.cell? ⟨fb, 2, none⟩ = some (.int .i64 5)
  f3 : w.cell? ⟨fb, 3, none⟩ = some (.slice ka kn kc)
  f4 : w.cell? ⟨fb, 4, none⟩ = some V
theorem Boxes.below {w w' : World} {pb fb : Nat} {Q V : Value} {ka : Option Addr} {kn kc : Nat} (h : Boxes w pb fb Q V ka kn kc) (hb : Below w.heap.size w w') : Boxes w' pb fb Q V ka kn kc := by
  have hp : pb < w.heap.size := World.block_lt_of_cell? w _ h.p0
  have hf : fb < w.heap.size := World.block_lt_of_cell? w _ h.f0
  exact ⟨(hb.cell (p := ⟨pb, 0, none⟩) hp).trans h.p0, (hb.cell (p := ⟨pb, 1, none⟩) hp).trans h.p1, (hb.cell (p := ⟨pb, 2, none⟩) hp).trans h.p2,
    (hb.cell (p := ⟨fb, 0, none⟩) hf).trans h.f0, (hb.cell (p := ⟨fb, 1, none⟩) hf).trans h.f1, (hb.cell (p := ⟨fb, 2, none⟩) hf).trans h.f2, (hb.cell (p := ⟨fb, 3, none⟩) hf).trans h.f3, (hb.cell (p := ⟨fb, 4, none⟩) hf).trans h.f4⟩

set_option maxHeartbeats 2000000 in
theorem notForm_calls {w : World} {pb fb : Nat} {Q V : Value} {ka : Option Addr} {kn kc : Nat} (hB : Boxes w pb fb Q V ka kn kc) (hV : ∃ a n c, V = .slice a n c) (hQ : ∃ a n c, Q = .slice a n c) (x : Ins) (hx : insOk kn x) :
    Calls Tryz.prog 170 #[iv x, .pointer (some ⟨pb, 0, none⟩), .pointer (some ⟨fb, 0, none⟩)] w fun e w' => e = .returned (.bool false) ∧ Below w.heap.size w w' := by
  obtain ⟨_, _, _, rfl⟩ := hV
  obtain ⟨_, _, _, rfl⟩ := hQ
  have hba : Below w.heap.size w (w.alloc (.cells #[.int .i64 x.1, .int .i64 x.2.1, .int .i64 x.2.2, .int .i64 0, .int .i64 0] 84)) := (Below.refl _ w).alloc (Nat.le_refl _) _
  obtain ⟨p0, p1, p2, f0, f1, f2, f3, f4⟩ := hB.below hba
  have HA := Lib.hid hba
  clear hba hB
  unfold iv
  go_enter Tryz.func170, Tryz.ntmps170
  go_wp2_with fail
  refine (form_calls _ _ _ _ _ _ x hx).mono ?_
  rintro e w1 ⟨rfl, hb⟩
  have HB := Lib.hid (HA.out.trans (hb.mono HA.out.size))
  clear hb
  go_wp2
  go_ret
  exact ⟨rfl, HB.out⟩

set_option maxHeartbeats 2000000 in
theorem indexI_calls {w : World} {pb fb : Nat} {Q V v : Value} {ka : Option Addr} {kn kc : Nat} {L : List Ins} (hB : Boxes w pb fb Q V ka kn kc) (hV : ∃ a n c, V = .slice a n c) (hQ : ∃ a n c, Q = .slice a n c) (h : Rw ic 5 84 w v L) (hL : L.length ≤ 1000) (hok : ∀ x ∈ L, insOk kn x) :
    Calls Tryz.prog 244 #[v, .func (.func 170) #[] #[.pointer (some ⟨pb, 0, none⟩), .pointer (some ⟨fb, 0, none⟩)]] w fun e w' => e = .returned (.int .i64 (-1)) ∧ Below w.heap.size w w' := by
  obtain ⟨g, cap, rfl, hcap, hlt, hc⟩ := h.cell ic_len
  have HC := Lib.hid (And.intro hlt (And.intro hc (And.intro hB (And.intro hV (And.intro hQ hok)))))
  clear h hc hlt hB hV hQ hok
  go_enter Tryz.func244, Tryz.ntmps244
  go_wp2
  go_loopw [5, 8] (fun i k wr => ∃ n : Nat, n ≤ L.length ∧ k = .int .i64 n ∧ Below w.heap.size w wr) (fun _ k _ => L.length - (match k with | .int _ n => n.toNat | _ => 0))
  case atStart => exact ⟨0, by omega, rfl, Below.refl _ _⟩
  case round =>
    obtain ⟨n, hn, rfl, hb⟩ := hrel
    have HB := Lib.hid hb
    clear hb
    by_cases hlt : n < L.length
    · have hx := fun j u hu => (HB.out.cell (p := ⟨g, n * 5 + j, none⟩) HC.out.1).trans (HC.out.2.1 n hlt j u hu)
      have c0 := hx 0 _ rfl
      have c1 := hx 1 _ rfl
      have c2 := hx 2 _ rfl
      have c3 := hx 3 _ rfl
      have c4 := hx 4 _ rfl
      simp only [Nat.add_zero] at c0
      clear hx
      go_wp2_with fail
      refine (notForm_calls (HC.out.2.2.1.below HB.out) HC.out.2.2.2.1 HC.out.2.2.2.2.1 L[n] (HC.out.2.2.2.2.2 _ (List.getElem_mem _))).mono ?_
      rintro e w1 ⟨rfl, hb1⟩
      have HB1 := Lib.hid (HB.out.trans (hb1.mono HB.out.size))
      clear hb1
      go_wp2
      go_roundw
      case rel => exact ⟨n + 1, by omega, by go_num, HB1.out⟩
      case measure => simp; omega
    · obtain rfl : n = L.length := by omega
      go_wp2
      go_ret
      exact ⟨rfl, HB.out⟩

set_option maxHeartbeats 1000000 in
theorem containsI_calls {w : World} {pb fb : Nat} {Q V v : Value} {ka : Option Addr} {kn kc : Nat} {L : List Ins} (hB : Boxes w pb fb Q V ka kn kc) (hV : ∃ a n c, V = .slice a n c) (hQ : ∃ a n c, Q = .slice a n c) (h : Rw ic 5 84 w v L) (hL : L.length ≤ 1000) (hok : ∀ x ∈ L, insOk kn x) :
    Calls Tryz.prog 169 #[v, .func (.func 170) #[] #[.pointer (some ⟨pb, 0, none⟩), .pointer (some ⟨fb, 0, none⟩)]] w fun e w' => e = .returned (.bool false) ∧ Below w.heap.size w w' := by
  have H := Lib.hid (And.intro hB (And.intro hV (And.intro hQ (And.intro h hok))))
  clear h hB hV hQ hok
  go_enter Tryz.func169, Tryz.ntmps169
  go_wp2_with fail
  refine (indexI_calls H.out.1 H.out.2.1 H.out.2.2.1 H.out.2.2.2.1 hL H.out.2.2.2.2).mono ?_
  rintro e w1 ⟨rfl, hb⟩
  have HB := Lib.hid hb
  clear hb
  go_wp2
  go_ret
  exact ⟨rfl, HB.out⟩

end Go.Proofs.YtplnnlnkcfappaaGreat.Rs
