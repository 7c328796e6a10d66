/- OpsSizes: the regions that make the two values. -/
import Derived.Test.YtplnnlnkcfappaaOl
import Derived.Test.YtplnnlnkcfappaaOm
import Derived.Test.YtplnnlnkcfappaaOn
import Derived.Test.YtplnnlnkcfappaaYa
import Derived.Test.YtplnnlnkcfappaaXl
import Derived.Laws.BytesString
namespace Go.Proofs.Ytplnnlnkcfappaa.Oa
open Go.RowKit
set_option linter.unusedSimpArgs false
set_option linter.unusedVariables false

/-- a length as the law reckons it -/
theorem red_nat (a : Int) : ∃ n : Nat, n < 1100 ∧ (bits BinOp.and IntKind.i64 a 65535).tmod 1100 = (n : Int) := by
  have hlt := Ew.maskd_lt a 16 (by omega)
  have key : bits BinOp.and IntKind.i64 a 65535 = ((Ew.maskd a 16 : Nat) : Int) := by
    show IntKind.i64.wrap ((Ew.maskd a 16 : Nat) : Int) = _
    rw [Ew.i64_wrap_small (by omega) (by omega)]
  refine ⟨Ew.maskd a 16 % 1100, Nat.mod_lt _ (by decide), ?_⟩
  rw [key, Int.tmod_eq_emod_of_nonneg (by omega)]
  exact (Int.natCast_emod _ _).symm

theorem bytes_size (n : Nat) : ∀ s : ByteArray, ((List.replicate n (0 : Int)).foldl (fun r n => r.push (UInt8.ofNat n.toNat)) s).size = s.size + n := by
  induction n with
  | zero => intro s; simp
  | succ n ih => intro s; rw [List.replicate_succ, List.foldl_cons, ih, ByteArray.size_push]; omega

/-- n bytes, all 0 -/
def Bz (n : Nat) (v : Value) (w : World) : Prop := ∃ b, v = .slice (some ⟨b, 0, none⟩) n n ∧ b < w.heap.size ∧ ∀ j, j < n → w.cell? ⟨b, j, none⟩ = some (.int .u8 0)
def zero5 : Array Value := #[.int .i64 0, .int .i64 0, .complex .f64 0 0, .string ⟨#[]⟩, .slice none 0 0]
/-- a new variable -/
def Nv (N : Nat) (v : Value) (w : World) : Prop := ∃ g, v = .pointer (some ⟨g, 0, none⟩) ∧ N ≤ g ∧ g < w.heap.size ∧ w.heap[g]? = some (.cells zero5 25)
/-- what is known of the values of the first region that draws -/
def F2 (A B N : Nat) (j : Nat) (v : Value) (w : World) : Prop :=
  match j with
  | 0 => v = .int .i64 A
  | 1 => Bz A v w
  | 2 => ∃ s : ByteArray, v = .string s ∧ s.size = A
  | 3 => ∃ s : ByteArray, v = cv 3 s nilL ∧ s.size = A
  | 4 => v = .int .i64 B
  | 5 => Bz B v w
  | 6 => ∃ s : ByteArray, v = .string s ∧ s.size = B
  | 7 => ∃ s : ByteArray, v = cv 3 s nilL ∧ s.size = B
  | _ => Nv N v w
theorem Bz.below {n : Nat} {v : Value} {w w' : World} (h : Bz n v w) (hb : Below w.heap.size w w') : Bz n v w' := by
  obtain ⟨b, hv, hlt, hc⟩ := h
  exact ⟨b, hv, Nat.lt_of_lt_of_le hlt hb.size, fun j hj => (hb.cell (p := ⟨b, j, none⟩) hlt).trans (hc j hj)⟩
theorem Nv.below {N : Nat} {v : Value} {w w' : World} (h : Nv N v w) (hb : Below w.heap.size w w') : Nv N v w' := by
  obtain ⟨g, hv, hn, hlt, hc⟩ := h
  exact ⟨g, hv, hn, Nat.lt_of_lt_of_le hlt hb.size, (hb.block g hlt).trans hc⟩
theorem F2.below {A B N j : Nat} {v : Value} {w w' : World} (h : F2 A B N j v w) (hb : Below w.heap.size w w') : F2 A B N j v w' := by
  unfold F2 at *
  split at h
  all_goals first | exact h | exact Bz.below h hb | exact Nv.below h hb
theorem F2.low {A B N j : Nat} {v : Value} {w : World} {g : Nat} (h : F2 A B N j v w) (hv : v = .pointer (some ⟨g, 0, none⟩)) : g < w.heap.size := by
  subst hv
  unfold F2 at h
  split at h
  all_goals first
    | (cases h; done)
    | (obtain ⟨b, h1, _⟩ := h; cases h1; done)
    | (obtain ⟨g', h1, _, h3, _⟩ := h; injection h1 with h1; injection h1 with h1; injection h1 with h1; subst h1; exact h3)

theorem make_bytes (w : World) (n : Nat) (hn : n < 1100) : ∃ w', (Instr.makeSlice 35 (.int .i64 n) (.int .i64 n)).run Try.prog w = .ok (.slice (some ⟨w.heap.size, 0, none⟩) n n) w' ∧ Below w.heap.size w w' ∧ Bz n (.slice (some ⟨w.heap.size, 0, none⟩) n n) w' := by
  have hinfo : (Try.prog.info? 5).map (fun i => (i.zero, i.size, i.bytes)) = some (some (.int .u8 0), 1, 1) := by kernel_rfl
  obtain ⟨i0, hi, hz0, hz1, hz2⟩ := info_parts hinfo
  have hr := run_make (P := Try.prog) w 35 5 i0 _ Try.underlying35 hi hz0 .i64 .i64 n n (by omega) (Int.le_refl _) (by rw [hz2]; omega) (by omega)
  refine ⟨_, hr, (Below.refl _ _).alloc (Nat.le_refl _) _, w.heap.size, rfl, by simp, fun j hj => ?_⟩
  rw [hz1]
  simp only [World.cell?]
  rw [heap_alloc_new]
  simp [madeCells, Value.cells, hj, Nat.mod_one]

theorem conv_bytes (w : World) (v : Value) (n : Nat) (h : Bz n v w) : ∃ s : ByteArray, (convert 35 9 v).run Try.prog w = .ok (.string s) w ∧ s.size = n := by
  obtain ⟨b, rfl, hlt, hc⟩ := h
  refine ⟨_, (run_convert_bytes_string w 35 9 5 _ n n Try.underlying35 (by kernel_rfl) Try.underlying9).trans (run_bytesToString w ⟨b, 0, none⟩ n n (List.replicate n 0) ?_), ?_⟩
  · have := run_loadCells_list (P := Try.prog) w ⟨b, 0, none⟩ (List.replicate n (.int .u8 0)) (fun j v hj => by
      have hjn := (List.getElem?_eq_some_iff.1 hj).1
      simp only [List.length_replicate] at hjn
      rw [List.getElem?_replicate, if_pos hjn] at hj
      obtain rfl := Option.some.inj hj
      have h1 := hc j hjn
      by_cases h0 : j = 0
      · subst h0; simpa [Addr.add] using h1
      · simpa [Addr.add, h0] using h1)
    rw [List.length_replicate] at this
    rw [this, List.map_replicate]
  · rw [bytes_size]; show 0 + n = n; omega


theorem ev_tmp {a : Act} {t : Tmp} {v : Value} (h : a.tmps.getD t undef = v) : a.eval (.tmp t) = v := h
theorem gen_act {P : Program} {c : Code} {Q : Exit → Act → World → Prop} {a : Act} {w : World} (h : ∀ A0, A0 = a → c.wp P Q A0 w) : c.wp P Q a w := h a rfl
abbrev ds2 : List (Nat × Tmp) := [(0, 19), (1, 20), (2, 21), (3, 22), (4, 23), (5, 24), (6, 25), (7, 26), (8, 7), (9, 8)]
theorem block_facts {w : World} {g : Nat} (h : w.heap[g]? = some (.cells zero5 25)) :
    (w.cell? ⟨g, 0, none⟩ = some (.int .i64 0) ∧ w.cell? ⟨g, 1, none⟩ = some (.int .i64 0) ∧ w.cell? ⟨g, 2, none⟩ = some (.complex .f64 0 0) ∧ w.cell? ⟨g, 3, none⟩ = some (.string ⟨#[]⟩) ∧ w.cell? ⟨g, 4, none⟩ = some (.slice none 0 0)) ∧
    w.frozen? ⟨g, 0, none⟩ = false ∧ w.frozen? ⟨g, 1, none⟩ = false ∧ w.frozen? ⟨g, 2, none⟩ = false ∧ w.frozen? ⟨g, 3, none⟩ = false ∧ w.frozen? ⟨g, 4, none⟩ = false := by
  refine ⟨⟨?_, ?_, ?_, ?_, ?_⟩, ?_, ?_, ?_, ?_, ?_⟩
  all_goals simp [World.cell?, World.frozen?, h, zero5]
/-- a block of five zeros that has been made -/
theorem alloc25 (w : World) : (Instr.alloc 25 true (.tuple #[])).run Try.prog w = .ok (.pointer (some ⟨w.heap.size, 0, none⟩)) (w.alloc (.cells zero5 25)) := by
  obtain ⟨i0, hi, hz0, hz1, hz2⟩ := info_parts info25
  simp [Instr.alloc, typeInfo, hi, zeroValue, hz0, hz1, go_sem, cv, nilL, zero5]

/-- five stores into a block -/
def sets5 (w : World) (g : Nat) (x0 x1 x2 x3 x4 : Value) : World := ((((w.setCell ⟨g, 0, none⟩ x0).setCell ⟨g, 1, none⟩ x1).setCell ⟨g, 2, none⟩ x2).setCell ⟨g, 3, none⟩ x3).setCell ⟨g, 4, none⟩ x4
/-- what two blocks hold -/
def Fp (g h : Nat) (w : World) (x0 x1 x2 x3 x4 y0 y1 y2 y3 y4 : Value) : Prop :=
  (w.cell? ⟨g, 0, none⟩ = some x0 ∧ w.cell? ⟨g, 1, none⟩ = some x1 ∧ w.cell? ⟨g, 2, none⟩ = some x2 ∧ w.cell? ⟨g, 3, none⟩ = some x3 ∧ w.cell? ⟨g, 4, none⟩ = some x4) ∧
  w.cell? ⟨h, 0, none⟩ = some y0 ∧ w.cell? ⟨h, 1, none⟩ = some y1 ∧ w.cell? ⟨h, 2, none⟩ = some y2 ∧ w.cell? ⟨h, 3, none⟩ = some y3 ∧ w.cell? ⟨h, 4, none⟩ = some y4

theorem sets_fp {w : World} {g h : Nat} (hg : w.heap[g]? = some (.cells zero5 25)) (hh : w.heap[h]? = some (.cells zero5 25)) (hne : g ≠ h) (x0 x1 x2 x3 x4 y0 y1 y2 y3 y4 : Value) :
    Fp g h (sets5 (sets5 w g x0 x1 x2 x3 x4) h y0 y1 y2 y3 y4) x0 x1 x2 x3 x4 y0 y1 y2 y3 y4 := by
  obtain ⟨⟨p0, p1, p2, p3, p4⟩, f0, f1, f2, f3, f4⟩ := block_facts hg
  obtain ⟨⟨q0, q1, q2, q3, q4⟩, k0, k1, k2, k3, k4⟩ := block_facts hh
  have hne' : h ≠ g := fun e => hne e.symm
  unfold Fp sets5
  refine ⟨⟨?_, ?_, ?_, ?_, ?_⟩, ?_, ?_, ?_, ?_, ?_⟩
  all_goals simp [go_sem, p0, p1, p2, p3, p4, q0, q1, q2, q3, q4, hne, hne']


/-- n nils, behind block N -/
def Lz (n N : Nat) (v : Value) (w : World) : Prop := ∃ b l, v = .slice (some ⟨b, 0, none⟩) n n ∧ N ≤ b ∧ Sl nc 5 w v l ∧ l.length = n
def F4 (A B N : Nat) (j : Nat) (v : Value) (w : World) : Prop :=
  match j with
  | 0 => v = .int .i64 A
  | 1 => Lz A N v w
  | 2 => ∃ x, v = cv 4 ⟨#[]⟩ x ∧ Lz A N x w
  | 3 => v = .int .i64 B
  | 4 => Lz B N v w
  | _ => ∃ x, v = cv 4 ⟨#[]⟩ x ∧ Lz B N x w
theorem Lz.below {n N : Nat} {v : Value} {w w' : World} (h : Lz n N v w) (hb : Below w.heap.size w w') : Lz n N v w' := by
  obtain ⟨b, l, hv, hn, hs, hl⟩ := h
  exact ⟨b, l, hv, hn, hs.below hb, hl⟩
theorem F4.below {A B N j : Nat} {v : Value} {w w' : World} (h : F4 A B N j v w) (hb : Below w.heap.size w w') : F4 A B N j v w' := by
  unfold F4 at *
  split at h
  all_goals first | exact h | exact Lz.below h hb | (obtain ⟨x, hv, hx⟩ := h; exact ⟨x, hv, hx.below hb⟩)
theorem F4.low {A B N j : Nat} {v : Value} {w : World} {g : Nat} (h : F4 A B N j v w) (hv : v = .pointer (some ⟨g, 0, none⟩)) : g < w.heap.size := by
  subst hv
  unfold F4 at h
  split at h
  all_goals first
    | (cases h; done)
    | (obtain ⟨b, l, h1, _⟩ := h; cases h1; done)
    | (obtain ⟨x, h1, _⟩ := h; cases h1; done)

theorem flat_made (n : Nat) : madeCells (cv 0 ⟨#[]⟩ nilL).cells (n * 5) = (flat nc (List.replicate n ())).toArray := by
  apply Array.ext'
  apply List.ext_getElem?
  intro j
  by_cases hj : j < n * 5
  · have h5 : j / 5 < n := by omega
    have h6 := flat_get nc 5 nc_len (List.replicate n ()) (j / 5) (by simpa using h5) (j % 5) (by omega)
    rw [show j / 5 * 5 + j % 5 = j by omega] at h6
    rw [h6]
    have hm : j % 5 < 5 := by omega
    simp only [madeCells, Array.toList_map, Array.toList_range, List.getElem?_map, List.getElem?_range hj, Option.map_some]
    have hs : (cv 0 ⟨#[]⟩ nilL).cells.size = 5 := rfl
    rw [hs]
    obtain h | h | h | h | h : j % 5 = 0 ∨ j % 5 = 1 ∨ j % 5 = 2 ∨ j % 5 = 3 ∨ j % 5 = 4 := by omega
    all_goals (rw [h]; rfl)
  · rw [List.getElem?_eq_none (by simp [madeCells]; omega), List.getElem?_eq_none (by rw [flat_length nc 5 nc_len]; simp; omega)]

theorem make_list (w : World) (n : Nat) (hn : n < 1100) : ∃ w', (Instr.makeSlice 23 (.int .i64 n) (.int .i64 n)).run Try.prog w = .ok (.slice (some ⟨w.heap.size, 0, none⟩) n n) w' ∧ Below w.heap.size w w' ∧ Lz n w.heap.size (.slice (some ⟨w.heap.size, 0, none⟩) n n) w' := by
  obtain ⟨i0, hi, hz0, hz1, hz2⟩ := info_parts info25
  have hr := run_make (P := Try.prog) w 23 25 i0 _ Try.underlying23 hi hz0 .i64 .i64 n n (by omega) (Int.le_refl _) (by rw [hz2]; omega) (by omega)
  refine ⟨_, hr, (Below.refl _ _).alloc (Nat.le_refl _) _, w.heap.size, List.replicate n (), rfl, Nat.le_refl _, ?_, by simp⟩
  rw [hz1, Int.toNat_natCast, flat_made]
  by_cases h0 : n = 0
  · subst h0
    exact .inl ⟨_, _, rfl, rfl⟩
  refine .inr ⟨w.heap.size, 0, n, by simp, by simp, by simp, fun i hi j u hu => ?_⟩
  have hj : j < 5 := (List.getElem?_eq_some_iff.1 hu).1
  have h6 := flat_get nc 5 nc_len (List.replicate n ()) i hi j hj
  rw [hu] at h6
  simp only [World.cell?, Nat.zero_add]
  rw [heap_alloc_new]
  simpa using h6


theorem Lz.set {n N : Nat} {v : Value} {w : World} (h : Lz n N v w) {p : Addr} (hp : p.block < N) (u : Value) : Lz n N v (w.setCell p u) := by
  obtain ⟨b, l, rfl, hn, hs, hl⟩ := h
  exact ⟨b, l, rfl, hn, hs.set (fun b' off e => by injection e with e; injection e with e; omega) u, hl⟩
theorem Lz.sets5 {n N g : Nat} {v : Value} {w : World} (h : Lz n N v w) (hg : g < N) (x0 x1 x2 x3 x4 : Value) : Lz n N v (sets5 w g x0 x1 x2 x3 x4) :=
  ((((h.set hg _).set hg _).set hg _).set hg _).set hg _
theorem Lz.vs {n N : Nat} {v : Value} {w : World} (h : Lz n N v w) : Vs 4 w (cv 4 ⟨#[]⟩ v) n := by
  obtain ⟨b, l, rfl, hn, hs, rfl⟩ := h
  exact .inl ⟨rfl, _, _, l, rfl, hs, rfl⟩
theorem Lz.form {n N : Nat} {v : Value} {w : World} (h : Lz n N v w) : ∃ b, v = .slice (some ⟨b, 0, none⟩) n n := by
  obtain ⟨b, l, rfl, _⟩ := h
  exact ⟨b, rfl⟩
def Fz (g : Nat) (w : World) : Prop := w.frozen? ⟨g, 0, none⟩ = false ∧ w.frozen? ⟨g, 1, none⟩ = false ∧ w.frozen? ⟨g, 2, none⟩ = false ∧ w.frozen? ⟨g, 3, none⟩ = false ∧ w.frozen? ⟨g, 4, none⟩ = false
theorem sets_fz {w : World} {g h : Nat} (hg : w.heap[g]? = some (.cells zero5 25)) (hh : w.heap[h]? = some (.cells zero5 25)) (x0 x1 x2 x3 x4 y0 y1 y2 y3 y4 : Value) :
    Fz g (sets5 (sets5 w g x0 x1 x2 x3 x4) h y0 y1 y2 y3 y4) ∧ Fz h (sets5 (sets5 w g x0 x1 x2 x3 x4) h y0 y1 y2 y3 y4) := by
  obtain ⟨⟨p0, p1, p2, p3, p4⟩, f0, f1, f2, f3, f4⟩ := block_facts hg
  obtain ⟨⟨q0, q1, q2, q3, q4⟩, k0, k1, k2, k3, k4⟩ := block_facts hh
  unfold Fz sets5
  refine ⟨⟨?_, ?_, ?_, ?_, ?_⟩, ?_, ?_, ?_, ?_, ?_⟩
  all_goals simp [go_sem, f0, f1, f2, f3, f4, k0, k1, k2, k3, k4]
theorem Fp.below {g h : Nat} {w w' : World} {x0 x1 x2 x3 x4 y0 y1 y2 y3 y4 : Value} (hf : Fp g h w x0 x1 x2 x3 x4 y0 y1 y2 y3 y4) (hb : Below w.heap.size w w') (hg : g < w.heap.size) (hh : h < w.heap.size) : Fp g h w' x0 x1 x2 x3 x4 y0 y1 y2 y3 y4 := by
  obtain ⟨⟨p0, p1, p2, p3, p4⟩, q0, q1, q2, q3, q4⟩ := hf
  exact ⟨⟨(hb.cell (p := ⟨g, 0, none⟩) hg).trans p0, (hb.cell (p := ⟨g, 1, none⟩) hg).trans p1, (hb.cell (p := ⟨g, 2, none⟩) hg).trans p2, (hb.cell (p := ⟨g, 3, none⟩) hg).trans p3, (hb.cell (p := ⟨g, 4, none⟩) hg).trans p4⟩,
    (hb.cell (p := ⟨h, 0, none⟩) hh).trans q0, (hb.cell (p := ⟨h, 1, none⟩) hh).trans q1, (hb.cell (p := ⟨h, 2, none⟩) hh).trans q2, (hb.cell (p := ⟨h, 3, none⟩) hh).trans q3, (hb.cell (p := ⟨h, 4, none⟩) hh).trans q4⟩
theorem Fz.below {g : Nat} {w w' : World} (hf : Fz g w) (hb : Below w.heap.size w w') (hg : g < w.heap.size) : Fz g w' := by
  obtain ⟨p0, p1, p2, p3, p4⟩ := hf
  exact ⟨(hb.frozen (p := ⟨g, 0, none⟩) hg).trans p0, (hb.frozen (p := ⟨g, 1, none⟩) hg).trans p1, (hb.frozen (p := ⟨g, 2, none⟩) hg).trans p2, (hb.frozen (p := ⟨g, 3, none⟩) hg).trans p3, (hb.frozen (p := ⟨g, 4, none⟩) hg).trans p4⟩

abbrev ds4 : List (Nat × Tmp) := [(0, 28), (1, 29), (2, 30), (3, 31), (4, 32), (5, 33)]

theorem bp_fin {k : Int} {n N : Nat} {c : Int} {w W w2 : World} {e : Ending} (hp : BinPost k n c W e w2) (hW : Below N w W) (hN : N ≤ w.heap.size) :
    ∃ r, e = .returned (.tuple #[r, .int .i64 c]) ∧ (if c = 0 then Vl k w2 r n else r = cv 0 ⟨#[]⟩ nilL) ∧ Below N w w2 := by
  obtain ⟨r, he, hv, _, hb⟩ := hp
  exact ⟨r, he, hv, hW.trans (hb.mono (Nat.le_trans hN hW.size))⟩

end Go.Proofs.Ytplnnlnkcfappaa.Oa
