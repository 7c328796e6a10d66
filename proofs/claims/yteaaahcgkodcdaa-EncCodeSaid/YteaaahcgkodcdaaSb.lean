/- Code, Decode, SameCode: contracts over slices. -/
import Derived.Test.YteaaahcgkodcdaaSa
import Derived.Test.YteaaahcgkodcdaaEf
namespace Go.Proofs.Yteaaahcgkodcdaa.Sa
open Go.RowKit Go.Proofs.Yteaaahcgkodcdaa.Ea
set_option linter.unusedSimpArgs false
set_option linter.unusedVariables false

/-- a word's cell -/
def u32c (x : Int) : List Value := [.int .u32 x]
theorem u32c_len (x : Int) : (u32c x).length = 1 := rfl

/-- an instruction of five numbers, and its cells -/
structure MI where
  op : Int
  a : Int
  b : Int
  c : Int
  d : Int
deriving DecidableEq

def MI.cells (m : MI) : List Value := [.int .i64 m.op, .int .i64 m.a, .int .i64 m.b, .int .i64 m.c, .int .i64 m.d]
theorem MI.cells_len (m : MI) : m.cells.length = 5 := rfl
def In64 (x : Int) : Prop := -9223372036854775808 ≤ x ∧ x ≤ 9223372036854775807
def MI.wf (m : MI) : Prop := In64 m.op ∧ In64 m.a ∧ In64 m.b ∧ In64 m.c ∧ In64 m.d
def MI.val (m : MI) : Value := .agg #[.int .i64 m.op, .int .i64 m.a, .int .i64 m.b, .int .i64 m.c, .int .i64 m.d]

set_option maxHeartbeats 400000 in
theorem clip_u32 (w : World) (v : Value) (l : List Int) (h : Sl u32c 1 w v l) : Calls Try.prog 37 #[v] w fun e w' => ∃ r, e = .returned r ∧ Sl u32c 1 w r l ∧ w = w' := by
  rcases h with ⟨a, cap, rfl, rfl⟩ | ⟨b, off, cap, rfl, hcap, hlt, hc⟩
  · have h0 : (0 : Int) ≤ (cap : Int) := by omega
    cases a with
    | none =>
      go_enter Try.func37, Try.ntmps37
      go_wp2
      go_ret
      exact ⟨_, rfl, .inl ⟨_, _, rfl, rfl⟩, rfl⟩
    | some a =>
      obtain ⟨b, off, spot⟩ := a
      go_enter Try.func37, Try.ntmps37
      go_wp2
      go_ret
      exact ⟨_, rfl, .inl ⟨_, _, rfl, rfl⟩, rfl⟩
  · have H := Lib.hid hc
    clear hc
    have h1 : (l.length : Int) ≤ cap := by omega
    go_enter Try.func37, Try.ntmps37
    go_wp2
    go_ret
    exact ⟨_, rfl, .inr ⟨b, off, l.length, rfl, Nat.le_refl _, hlt, H.out⟩, rfl⟩

set_option maxHeartbeats 400000 in
theorem clip_mi (w : World) (v : Value) (l : List MI) (h : Sl MI.cells 5 w v l) : Calls Try.prog 38 #[v] w fun e w' => ∃ r, e = .returned r ∧ Sl MI.cells 5 w r l ∧ w = w' := by
  rcases h with ⟨a, cap, rfl, rfl⟩ | ⟨b, off, cap, rfl, hcap, hlt, hc⟩
  · have h0 : (0 : Int) ≤ (cap : Int) := by omega
    cases a with
    | none =>
      go_enter Try.func38, Try.ntmps38
      go_wp2
      go_ret
      exact ⟨_, rfl, .inl ⟨_, _, rfl, rfl⟩, rfl⟩
    | some a =>
      obtain ⟨b, off, spot⟩ := a
      go_enter Try.func38, Try.ntmps38
      go_wp2
      go_ret
      exact ⟨_, rfl, .inl ⟨_, _, rfl, rfl⟩, rfl⟩
  · have H := Lib.hid hc
    clear hc
    have h1 : (l.length : Int) ≤ cap := by omega
    go_enter Try.func38, Try.ntmps38
    go_wp2
    go_ret
    exact ⟨_, rfl, .inr ⟨b, off, l.length, rfl, Nat.le_refl _, hlt, H.out⟩, rfl⟩

theorem owns_below {base : Nat} {e : TypeId} {sz : Nat} {w w' : World} {v : Value} {n : Nat} {xs : List Value} (h : w.ownsRow base e sz v n xs) (hb : Below w.heap.size w w') : w'.ownsRow base e sz v n xs := by
  obtain ⟨hl, h | ⟨g, cap, cur, hv, hg, hh, r⟩⟩ := h
  · exact ⟨hl, .inl h⟩
  · refine ⟨hl, .inr ⟨g, cap, cur, hv, hg, ?_, r⟩⟩
    have hlt : g < w.heap.size := by
      rcases Nat.lt_or_ge g w.heap.size with hq | hq
      · exact hq
      · rw [Array.getElem?_eq_none hq] at hh; cases hh
    rw [hb.block g hlt]; exact hh

def oneOf (m : MI) : Int × Bool := oneF m.op m.a m.b m.c m.d
def wordsOf (l : List MI) : List Int := l.map fun m => (oneOf m).1
def allOk (l : List MI) : Bool := l.all fun m => (oneOf m).2

def CodePost (l : List MI) (w : World) (e : Ending) (w' : World) : Prop :=
  ∃ r, e = .returned (.tuple #[r, .bool (allOk l)]) ∧ (allOk l = true → Sl u32c 1 w' r (wordsOf l)) ∧ (allOk l = false → r = .slice none 0 0) ∧ Below w.heap.size w w'

theorem codePost_yes {l : List MI} {w w' : World} {r : Value} (h : allOk l = true) (hs : Sl u32c 1 w' r (wordsOf l)) (hb : Below w.heap.size w w') : CodePost l w (.returned (.tuple #[r, .bool true])) w' :=
  ⟨r, by rw [h], fun _ => hs, (fun h2 => by rw [h] at h2; cases h2), hb⟩
theorem codePost_no {l : List MI} {w w' : World} (h : allOk l = false) (hb : Below w.heap.size w w') : CodePost l w (.returned (.tuple #[.slice none 0 0, .bool false])) w' :=
  ⟨_, by rw [h], (fun h2 => by rw [h] at h2; cases h2), fun _ => rfl, hb⟩

theorem info25 : (Try.prog.info? 25).map (fun i => (i.zero, i.size, i.bytes)) = some (some (.int .u32 0), 1, 4) := by kernel_rfl
theorem info23 : (Try.prog.info? 23).map (fun i => (i.zero, i.size, i.bytes)) = some (some (.agg #[.int .i64 0, .int .i64 0, .int .i64 0, .int .i64 0, .int .i64 0]), 5, 40) := by kernel_rfl

theorem words_length (l : List MI) : (wordsOf l).length = l.length := by simp [wordsOf]
theorem words_snoc (l : List MI) (k : Nat) (h : k < l.length) : wordsOf (l.take (k + 1)) = wordsOf (l.take k) ++ [(oneOf l[k]).1] := by
  unfold wordsOf
  rw [List.take_succ_eq_append_getElem h, List.map_append]; rfl

set_option maxHeartbeats 2000000 in
set_option maxRecDepth 100000 in
theorem code_calls (w : World) (v : Value) (l : List MI) (h : Sl MI.cells 5 w v l) (hwf : ∀ m ∈ l, m.wf) (hn : l.length ≤ 1000) : Calls Try.prog 17 #[v] w (CodePost l w) := by
  obtain ⟨a, cap, rfl⟩ := h.form
  have HS := Lib.hid h
  have HW := Lib.hid hwf
  clear h hwf
  obtain ⟨i0, hi, hz0, hz1, hz2⟩ := info_parts info25
  go_enter Try.func17, Try.ntmps17
  go_wp2
  go_loopw [4, 11] (fun s i wr => ∃ k : Nat, k ≤ l.length ∧ i = .int .i64 k ∧ wr.ownsRow w.heap.size 25 1 s k (flat u32c (wordsOf (l.take k))) ∧ Hid (∀ j (hj : j < l.length), j < k → (oneOf l[j]).2 = true) ∧ Below w.heap.size w wr) (fun _ i _ => l.length - (intOf i).toNat)
  case atStart => exact ⟨0, by omega, rfl, World.ownsRow_nil _ _ _ _, fun j hj h0 => by omega, Below.refl _ _⟩
  case round =>
    obtain ⟨k, hk, rfl, hown, hgood, hb⟩ := hrel
    have HO := Lib.hid hown
    have HB := Lib.hid hb
    clear hown hb
    by_cases hlt : k < l.length
    · obtain ⟨b, off, cp, hv, hcap, hblt, hcell⟩ := (HS.out.below HB.out).at (by intro e; rw [e] at hlt; simp at hlt)
      obtain ⟨rfl, rfl⟩ : a = some ⟨b, off, none⟩ ∧ cp = cap := by injection hv with h1 _ h2; exact ⟨h1, h2.symm⟩
      clear hv
      have hwfk := HW.out _ (List.getElem_mem hlt)
      obtain ⟨m, hm⟩ : ∃ m, l[k] = m := ⟨_, rfl⟩
      rw [hm] at hwfk
      have hcell2 := hcell k hlt
      rw [hm] at hcell2
      have HM := Lib.hid hm
      clear hcell hm
      obtain ⟨op, x1, x2, x3, x4⟩ := m
      obtain ⟨wo, wa, wb, wc, wd⟩ := hwfk
      have WO := Lib.hid wo
      have WA := Lib.hid wa
      have WB := Lib.hid wb
      have WC := Lib.hid wc
      have WD := Lib.hid wd
      clear wo wa wb wc wd
      have c0 : wr.cell? ⟨b, off + k * 5, none⟩ = some (.int .i64 op) := hcell2 0 _ rfl
      have c1 : wr.cell? ⟨b, off + k * 5 + 1, none⟩ = some (.int .i64 x1) := hcell2 1 _ rfl
      have c2 : wr.cell? ⟨b, off + k * 5 + 2, none⟩ = some (.int .i64 x2) := hcell2 2 _ rfl
      have c3 : wr.cell? ⟨b, off + k * 5 + 3, none⟩ = some (.int .i64 x3) := hcell2 3 _ rfl
      have c4 : wr.cell? ⟨b, off + k * 5 + 4, none⟩ = some (.int .i64 x4) := hcell2 4 _ rfl
      clear hcell2
      go_wp2_with fail
      refine (one_calls op x1 x2 x3 x4 _ WO.out.1 WO.out.2 WA.out WB.out WC.out WD.out).mono ?_
      rintro e w1 ⟨rfl, hb1⟩
      have hX : ∃ xt, oneF op x1 x2 x3 x4 = xt := ⟨_, rfl⟩
      obtain ⟨⟨x, t⟩, hx⟩ := hX
      rw [hx]
      have HX := Lib.hid hx
      clear hx
      have HO1 := Lib.hid (owns_below (HO.out.alloc _) hb1)
      have HB1 := Lib.hid (below_join (below_more HB.out (Nat.le_refl _) _) (Nat.le_refl _) hb1)
      have HT : Hid ((oneOf l[k]) = (x, t)) := by show oneOf l[k] = (x, t); rw [HM.out]; exact HX.out
      clear hb1
      cases t with
      | true =>
        go_wp2_with (at_builtin; refine wpList_append_own _ rfl _ _ 40 rfl w.heap.size 25 i0 (.int .u32 0) 1 4 Try.underlying40 hi hz0 hz1 hz2 rfl (by decide) _ k _ rfl (HO1.out.alloc _) ⟨w1.heap.size, 0, none⟩ 1 1 [.int .u32 x] rfl rfl ?c1 ?c2 ?c3 ?c4 ?c5 ?_)
        case c1 =>
          intro j u hu
          obtain rfl : j = 0 := by
            have := (List.getElem?_eq_some_iff.1 hu).1
            simp at this; exact this
          simp at hu; subst hu
          simp [go_sem, Addr.add]
        case c2 => intro u hu; simp at hu; subst hu; rfl
        case c3 => unfold maxLen; omega
        case c4 => omega
        case c5 => have := HB1.out.size; simp; omega
        intro v2 w2 hown2 hgrow _
        go_wp2
        go_roundw
        case rel =>
          refine ⟨k + 1, by omega, by go_num, ?_, ?_, ?_⟩
          · rw [words_snoc l k hlt, flat_append, HT.out]
            exact hown2
          · intro j hj hjk
            rcases Nat.lt_or_ge j k with h | h
            · exact hgood.out j hj h
            · obtain rfl : j = k := by omega
              rw [HT.out]
          · exact (below_more HB1.out (Nat.le_refl _) _).grown hgrow (by have := HB1.out.size; simp; omega) (fun g hg => ((HO1.out.alloc (.cells #[.int .u32 x] 25)).lt g hg).1)
        case measure => simp [intOf]; omega
      | false =>
        go_wp2
        go_ret2
        have hno : allOk l = false := by
          unfold allOk
          rw [List.all_eq_false]
          exact ⟨l[k], List.getElem_mem hlt, by rw [HT.out]; simp⟩
        exact codePost_no hno HB1.out
    · obtain rfl : k = l.length := by omega
      have hyes : allOk l = true := by
        unfold allOk
        rw [List.all_eq_true]
        intro m hm
        obtain ⟨j, hj, rfl⟩ := List.getElem_of_mem hm
        exact hgood.out j hj hj
      have HY := Lib.hid hyes
      clear hyes
      have hsl : Sl u32c 1 wr u4 (wordsOf l) := by
        have := HO.out
        rw [List.take_length] at this
        exact Sl.ofOwns (l := wordsOf l) u32c_len (by rw [words_length]; exact this)
      have HSL := Lib.hid hsl
      clear hsl
      go_wp2_with fail
      refine (clip_u32 _ _ _ HSL.out).mono ?_
      rintro e w3 ⟨r, rfl, hr, rfl⟩
      have HR := Lib.hid hr
      clear hr
      go_wp2
      go_ret2
      exact codePost_yes HY.out HR.out HB.out

end Go.Proofs.Yteaaahcgkodcdaa.Sa
