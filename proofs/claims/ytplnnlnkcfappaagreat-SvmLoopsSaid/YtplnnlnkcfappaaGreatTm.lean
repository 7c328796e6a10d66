/- The machine with a stack: store, an op of two numbers, a tick: the call in memory goes on. -/
import Derived.Test.YtplnnlnkcfappaaGreatTl
namespace Go.Proofs.YtplnnlnkcfappaaGreat.Sv
open Go.RowKit E3
set_option linter.unusedSimpArgs false
set_option linter.unusedVariables false

variable {w : World} {B C L tb base gc cb gl : Nat} {consts : List (Nat × Int)} {nm pr nl sc sk lsl : Value} {fuel : Int} {evs : List Int} {pc : Nat} {ls : List (Option Nat)} {xs : List Nat} {b : Bool}

theorem One.core {w' : World} {st st' : St} {fuel' : Int} {evs' : List Int} (h : One w B C L tb base consts nm pr nl sc sk gc cb gl lsl st fuel evs) {s' : Value} {g' : Nat}
    (e1 : VarW w' cb 129 ([nm, pr, nl, sc, sk, .int .i64 (.ofNat st'.pc), lsl] ++ [s'])) (e2 : RowW w' s' 54 5 st'.xs.length (flat nv st'.xs) g') (e3 : C ≤ g') (hne : gl ≠ g') (hsz : w.heap.size ≤ w'.heap.size) (hcon : w'.heap[gc]? = w.heap[gc]?)
    (hloc : RowW w' lsl 54 5 L (flat ov st'.ls) gl) (htwo : st'.ls.length = L) (hrow : st'.row = true) (hT : Tk w' tb base fuel' evs') (hty : ∃ cs, w'.heap[tb]? = some (.cells cs 194)) : One w' B C L tb base consts nm pr nl sc sk gc cb gl lsl st' fuel' evs' :=
  ⟨h.BC, Nat.le_trans h.size hsz, ⟨s', e1, by rw [hrow, if_pos rfl]; exact ⟨g', e2, e3, hne⟩⟩, h.ones, h.cb, hloc, h.gl, htwo, h.le2, E3.RowW.keep h.con hcon, h.gc, h.few, hT, hty, h.tbB, h.tbb, Nat.le_trans h.base hsz⟩

theorem one_store {t : Value} {i z : Nat} (ht1 : t.oneCell' = true) (h : One w B C 2 tb base consts nm pr nl sc sk gc cb gl lsl ⟨pc, ls, [z], b⟩ fuel evs) (hi : i < ls.length) :
    Calls Tryz.prog 46 #[.pointer (some ⟨cb, 0, none⟩), t, .agg #[.int .i64 3, .int .i64 (.ofNat i), .int .i64 0]] w fun e w' => e = .returned (.bool true) ∧ One w' B C 2 tb base consts nm pr nl sc sk gc cb gl lsl ⟨pc, ls.set i (some z), [], true⟩ fuel evs ∧ Fx (Sx C tb base w) w w' := by
  obtain ⟨s, hc, hs⟩ := h.call
  have h2 : ls.length = 2 := h.two
  have hil : i < 2 := by omega
  have hll : (flat ov ls).length = 5 * 2 := by rw [flat_len5 ov_len, h2]
  have hl1 : Ones (flat ov ls) := flat_ones ov_ones ls
  have h7 := h.ones7
  have ht : Ones [t] := fun u hu => by rw [List.mem_singleton.1 hu]; exact ht1
  cases b with
  | false =>
    rw [if_neg (by simp)] at hs
    exact absurd hs.2 (by simp)
  | true =>
    rw [if_pos rfl] at hs
    obtain ⟨g, hr, hg, hgg⟩ := hs
    refine (storeRow (x := [t]) h.size h.cb rfl h7 hc (by simp) ht hr hg (by show (flat nv [z]).length ≤ 16; simp [flat, nv_len]) (flat_ones nv_ones [z]) rfl rfl h.loc h.gl hll hl1 hgg hil (by simp) rfl (storeRow_true i hil)).mono fun e w' hh => ?_
    obtain ⟨he, s', g', e1, e2, e3, e4, el, _, hb, hk⟩ := hh
    refine ⟨he, One.next (og := some g) h hc (fun g0 hg0 => by
      obtain rfl := Option.some.inj hg0
      obtain ⟨_, _, cs, _, hh, _⟩ := hr
      exact ⟨⟨cs, hh⟩, hgg, hg⟩) e1 ?_ e3 (e4.imp (fun h => by rw [h]) id) hb (fun b0 h0 n1 n2 n3 => hk b0 h0 n1 (n2 g rfl) n3) rfl ?_ ?_ rfl⟩
    · show RowW w' s' 54 5 0 (flat nv []) g'
      exact e2
    · show RowW w' lsl 54 5 2 (flat ov (ls.set i (some z))) gl
      have : flat ov (ls.set i (some z)) = (flat ov ls).take (5 * i) ++ (((flat nv [z]).drop (5 * (1 - 1))).take (5 * 1) ++ ((flat ov ls).drop (5 * (i + 1))).take (5 * (2 - (i + 1)))) := by
        match ls, h2 with
        | [l0, l1], _ =>
          obtain rfl | rfl : i = 0 ∨ i = 1 := by omega
          · cases l0 <;> cases l1 <;> rfl
          · cases l0 <;> cases l1 <;> rfl
      rw [this]
      exact el
    · show (ls.set i (some z)).length = 2
      rw [List.length_set, h2]

theorem froz {w : World} {g : Nat} {e : TypeId} {cs : Array Value} (h : w.heap[g]? = some (.cells cs e)) (j : Nat) : w.frozen? ⟨g, j, none⟩ = false := by
  simp [World.frozen?, h]

/-- the tank as a variable -/
theorem tank_var (hT : Tk w tb base fuel evs) (hty : ∃ cs, w.heap[tb]? = some (.cells cs 194)) : ∃ v, VarW w tb 194 ([.int .i64 fuel, v, .int .i64 0, .int .i64 0, .complex .f64 0 0, .string ⟨#[]⟩, .slice none 0 0] ++ [.int .i64 0]) ∧ w.ownsRow base 69 7 v evs.length (flat ec evs) ∧ v.oneCell' = true := by
  obtain ⟨cs, hcs⟩ := hty
  obtain ⟨v, hv, ho⟩ := hT.ev
  have hq : ∀ j u, w.cell? ⟨tb, j, none⟩ = some u → cs[j]? = some u := fun j u hu => by
    simp only [World.cell?, hcs] at hu
    simpa using hu
  refine ⟨v, ⟨cs, hcs, fun j u hj => hq j u ?_⟩, ho, by obtain ⟨a, m, c, rfl⟩ := owns_form ho; rfl⟩
  have hj8 : j < 8 := by have := (List.getElem?_eq_some_iff.1 hj).1; simpa using this
  obtain rfl | rfl | rfl | rfl | rfl | rfl | rfl | rfl : j = 0 ∨ j = 1 ∨ j = 2 ∨ j = 3 ∨ j = 4 ∨ j = 5 ∨ j = 6 ∨ j = 7 := by omega
  all_goals
    simp only [List.cons_append, List.nil_append, List.getElem?_cons_zero, List.getElem?_cons_succ, Option.some.injEq] at hj
    subst hj
  · exact hT.c0
  · exact hv
  · exact hT.c2
  · exact hT.c3
  · exact hT.c4
  · exact hT.c5
  · exact hT.c6
  · exact hT.c7
theorem tank_of {w' : World} {v : Value} (h : VarW w' tb 194 ([.int .i64 fuel, v, .int .i64 0, .int .i64 0, .complex .f64 0 0, .string ⟨#[]⟩, .slice none 0 0] ++ [.int .i64 0])) (ho : w'.ownsRow base 69 7 v evs.length (flat ec evs)) : Tk w' tb base fuel evs := by
  have hc := fun j u => E3.VarW.cell h j (u := u)
  obtain ⟨cs, hcs, _⟩ := h
  exact ⟨hc 0 _ rfl, ⟨v, hc 1 _ rfl, ho⟩, hc 2 _ rfl, hc 3 _ rfl, hc 4 _ rfl, hc 5 _ rfl, hc 6 _ rfl, hc 7 _ rfl, fun j _ => froz hcs j⟩

/-- what an op of two numbers leaves -/
theorem One.op {w' : World} {ys : List Nat} {s s' ev : Value} {g g' k : Nat} {vs : List Value} (h : One w B C L tb base consts nm pr nl sc sk gc cb gl lsl ⟨pc, ls, xs, true⟩ fuel evs) (hc : VarW w cb 129 ([nm, pr, nl, sc, sk, .int .i64 (.ofNat pc), lsl] ++ [s]))
    (hr : RowW w s 54 5 k vs g) (hg : C ≤ g) (hgg : gl ≠ g) (htk : VarW w tb 194 ([.int .i64 fuel, ev, .int .i64 0, .int .i64 0, .complex .f64 0 0, .string ⟨#[]⟩, .slice none 0 0] ++ [.int .i64 0])) (hown : w.ownsRow base 69 7 ev evs.length (flat ec evs))
    (e1 : VarW w' cb 129 ([nm, pr, nl, sc, sk, .int .i64 (.ofNat pc), lsl] ++ [s'])) (e2 : RowW w' s' 54 5 ys.length (flat nv ys) g') (e4 : g' = g ∨ w.heap.size ≤ g') (et : VarW w' tb 194 ([.int .i64 fuel, ev, .int .i64 0, .int .i64 0, .complex .f64 0 0, .string ⟨#[]⟩, .slice none 0 0] ++ [.int .i64 0]))
    (hb : Below B w w') (hk : ∀ b, b < w.heap.size → b ≠ cb → b ≠ g → b ≠ tb → w'.heap[b]? = w.heap[b]?) : One w' B C L tb base consts nm pr nl sc sk gc cb gl lsl ⟨pc, ls, ys, true⟩ fuel evs ∧ Fx (Sx C tb base w) w w' := by
  have hgc : g ≠ cb := RowW.ne hr hc (by decide)
  have hgtb : g ≠ tb := RowW.ne hr htk (by decide)
  have hglc : gl ≠ cb := RowW.ne h.loc hc (by decide)
  have hgltb : gl ≠ tb := RowW.ne h.loc htk (by decide)
  have hgl := E3.RowW.lt h.loc
  have hsz := h.size
  have hlk : w'.heap[gl]? = w.heap[gl]? := hk gl hgl hglc hgg hgltb
  have hown' : w'.ownsRow base 69 7 ev evs.length (flat ec evs) := owns_fx' hown (Fx.ofKeep (S := fun b => b = cb ∨ b = g ∨ b = tb) hb fun b0 h0 h1 => hk b0 h0 (fun e => h1 (.inl e)) (fun e => h1 (.inr (.inl e))) (fun e => h1 (.inr (.inr e)))) fun q hq hS => by
    obtain ⟨cs, hcs⟩ := owns_ty hown hq
    rcases hS with rfl | rfl | rfl
    · exact VarW.not69 hc cs hcs
    · exact RowW.not69 hr cs hcs
    · obtain ⟨c2, h2⟩ := h.ty
      exact absurd rfl (ty_ne (e' := 69) ⟨c2, h2⟩ hcs (by decide))
  refine ⟨One.core h e1 e2 ?_ ?_ hb.size (hb.block gc h.gc) (E3.RowW.keep h.loc hlk) h.two rfl (tank_of et hown') ?_, Fx.ofKeep hb fun b h0 h1 => hk b h0 ?_ ?_ ?_⟩
  · rcases e4 with h4 | h4
    · rw [h4]; exact hg
    · omega
  · rcases e4 with h4 | h4
    · rw [h4]; exact hgg
    · omega
  · obtain ⟨cs, hcs, _⟩ := et
    exact ⟨cs, hcs⟩
  · rintro rfl
    obtain ⟨cs, hcs, _⟩ := hc
    exact h1 (.inl ⟨h.cb, cs, _, hcs, .inl rfl⟩)
  · rintro rfl
    obtain ⟨_, _, cs, _, hcs, _⟩ := hr
    exact h1 (.inl ⟨hg, cs, _, hcs, .inr rfl⟩)
  · exact fun e => h1 (.inr (.inl e))

theorem one_bin {op u v : Nat} (ho : op = 1 ∨ op = 6 ∨ op = 8) (hu : u < 1000000) (hv : v < 1000000) (h : One w B C L tb base consts nm pr nl sc sk gc cb gl lsl ⟨pc, ls, [u, v], b⟩ fuel evs) :
    Calls Tryz.prog 46 #[.pointer (some ⟨cb, 0, none⟩), .pointer (some ⟨tb, 0, none⟩), .agg #[.int .i64 5, .int .i64 (.ofNat op), .int .i64 0]] w fun e w' => e = .returned (.bool true) ∧ One w' B C L tb base consts nm pr nl sc sk gc cb gl lsl ⟨pc, ls, [bop op u v], true⟩ fuel evs ∧ Fx (Sx C tb base w) w w' := by
  obtain ⟨s, hc, hs⟩ := h.call
  have h7 := h.ones7
  have hBC := h.BC
  have hcb := h.cb
  have hsz := h.size
  cases b with
  | false =>
    rw [if_neg (by simp)] at hs
    exact absurd hs.2 (by simp)
  | true =>
    rw [if_pos rfl] at hs
    obtain ⟨g, hr, hg, hgg⟩ := hs
    obtain ⟨ev, htk, hown, hev⟩ := tank_var h.tank h.ty
    have hr' : RowW w s 54 5 2 (iv u ++ iv v) g := hr
    refine (bin_calls (B := B) (vs := []) ho hu hv (by omega) (by omega) rfl h7 hc hr' (by omega) htk h.tbB rfl (fun q hq => ?_)).mono fun e w' hh => ?_
    · simp only [List.mem_cons, List.not_mem_nil, or_false] at hq
      rcases hq with rfl | rfl | rfl | rfl | rfl | rfl | rfl <;> first | rfl | exact hev
    · obtain ⟨he, s', g', e1, e2, e3, e4, et, hb, hk⟩ := hh
      exact ⟨he, One.op h hc hr' hg hgg htk hown e1 e2 e4 et hb hk⟩

/-- a difference, a value lying below the two -/
theorem one_sub {x u v : Nat} (hvu : v ≤ u) (hu : u < 1000000) (h : One w B C L tb base consts nm pr nl sc sk gc cb gl lsl ⟨pc, ls, [x, u, v], b⟩ fuel evs) :
    Calls Tryz.prog 46 #[.pointer (some ⟨cb, 0, none⟩), .pointer (some ⟨tb, 0, none⟩), .agg #[.int .i64 5, .int .i64 2, .int .i64 0]] w fun e w' => e = .returned (.bool true) ∧ One w' B C L tb base consts nm pr nl sc sk gc cb gl lsl ⟨pc, ls, [x, u - v], true⟩ fuel evs ∧ Fx (Sx C tb base w) w w' := by
  obtain ⟨s, hc, hs⟩ := h.call
  have h7 := h.ones7
  have hBC := h.BC
  have hcb := h.cb
  have hsz := h.size
  cases b with
  | false =>
    rw [if_neg (by simp)] at hs
    exact absurd hs.2 (by simp)
  | true =>
    rw [if_pos rfl] at hs
    obtain ⟨g, hr, hg, hgg⟩ := hs
    obtain ⟨ev, htk, hown, hev⟩ := tank_var h.tank h.ty
    have hr' : RowW w s 54 5 3 (iv x ++ (iv u ++ iv v)) g := hr
    have hdif : ∀ (w : World) (t : TypeId), (binOp .sub t (.int .i64 u) (.int .i64 v)).run Tryz.prog w = .ok (.int .i64 ((u : Int) - v)) w := fun w t => by rw [bin_sub, wrap_in (by omega) (by omega)]
    have hx1 : Ones [.int .i64 (u : Int), .int .i64 (v : Int), .int .i64 ((u : Int) - v)] := by
      intro q hq
      simp only [List.mem_cons, List.not_mem_nil, or_false] at hq
      rcases hq with rfl | rfl | rfl <;> rfl
    have hd0 : decide (((u : Int) - v) = 0) = decide (u = v) := by rw [Bool.eq_iff_iff]; simp; omega
    have hoc : ∀ ρ : Syms, ρ.val 8 = .int .i64 (u : Int) → ρ.val 9 = .int .i64 (v : Int) → ρ.val 10 = .int .i64 ((u : Int) - v) → OrcOk ρ Tryz.prog (ocL (knB .sub (decide (u = 0)) (decide (v = 0)) (decide (u = v)) (decide (u < v)) (decide (v < u)))) := fun ρ h8 h9 h10 => by
      rw [← hd0]
      exact knB_ok h8 h9 h10 hdif
    have htrue : isTrue (ebinRow 3 2 (ocL (knB .sub (decide (u = 0)) (decide (v = 0)) (decide (u = v)) (decide (u < v)) (decide (v < u)))) (.sym 10)) = true := by
      obtain ⟨q1, q⟩ := both sub_true
      obtain ⟨q2, q⟩ := both q
      obtain ⟨q3, q4⟩ := both q
      by_cases e1 : v = 0
      · by_cases e2 : u = 0
        · subst e1 e2; exact q1
        · subst e1
          simp only [e2, Nat.pos_of_ne_zero e2, Nat.not_lt_zero, decide_true, decide_false]
          exact q2
      · have e2 : u ≠ 0 := by omega
        have e3 : ¬ u < v := by omega
        by_cases e4 : u = v
        · subst e4
          simp only [e1, Nat.lt_irrefl, decide_true, decide_false]
          exact q4
        · have e5 : v < u := by omega
          simp only [e1, e2, e3, e4, e5, decide_true, decide_false]
          exact q3
    refine (binRow (B := B) (x := [.int .i64 (u : Int), .int .i64 (v : Int), .int .i64 ((u : Int) - v)]) (vs := iv x) (by omega) (by omega) rfl h7 hc (by simp) hx1 hr' (by omega) (by simp [iv]) (iv_ones x) (by simp [iv]) htk h.tbB rfl (fun q hq => ?_) (by decide) (by simp [iv]) rfl hoc (z := ((u - v : Nat) : Int)) (fun ρ F h => by
      rw [show ((u - v : Nat) : Int) = (u : Int) - v by omega]
      exact sym_den h) htrue).mono fun e w' hh => ?_
    · simp only [List.mem_cons, List.not_mem_nil, or_false] at hq
      rcases hq with rfl | rfl | rfl | rfl | rfl | rfl | rfl <;> first | rfl | exact hev
    · obtain ⟨he, s', g', e1, e2, e3, e4, et, hb, hk⟩ := hh
      exact ⟨he, One.op h hc hr' hg hgg htk hown e1 e2 e4 et hb hk⟩

theorem one_tick {n : Nat} (h : One w B C L tb base consts nm pr nl sc sk gc cb gl lsl ⟨pc, ls, xs, true⟩ fuel evs) (hx : xs.length ≤ 2) (hf1 : 1 ≤ fuel) (hf2 : fuel ≤ 5000) (hl : evs.length ≤ 5000) :
    Calls Tryz.prog 46 #[.pointer (some ⟨cb, 0, none⟩), .pointer (some ⟨tb, 0, none⟩), .agg #[.int .i64 12, .int .i64 (.ofNat n), .int .i64 0]] w fun e w' => e = .returned (.bool true) ∧ One w' B C L tb base consts nm pr nl sc sk gc cb gl lsl ⟨pc, ls, xs, true⟩ (fuel - 1) (evs ++ [(n : Int)]) ∧ Fx (Sx C tb base w) w w' := by
  obtain ⟨s, hc, hs⟩ := h.call
  have h7 := h.ones7
  have hsz := h.size
  rw [if_pos rfl] at hs
  obtain ⟨g, hr, hg, hgg⟩ := hs
  obtain ⟨ev, htk, _, _⟩ := tank_var h.tank h.ty
  have hctb : cb ≠ tb := VarW.ne hc htk (by decide)
  have hgtb : g ≠ tb := RowW.ne hr htk (by decide)
  have hglc : gl ≠ cb := RowW.ne h.loc hc (by decide)
  have hgltb : gl ≠ tb := RowW.ne h.loc htk (by decide)
  refine (stepTick (n := (n : Int)) h.size h.cb rfl h7 hc hr hg (by show xs.length < 3; omega) (flat_len5 nv_len xs) (flat_ones nv_ones xs) h.tank hctb hgtb hf1 hf2 h.tbb h.base hl h.ty).mono fun e w' hh => ?_
  obtain ⟨he, hT, hty, ⟨ho1, ho2, ho3, hsz2⟩, s', g', e1, e2, e3, e4, hk⟩ := hh
  have hgl := E3.RowW.lt h.loc
  have hgcl := E3.RowW.lt h.con
  have hB := h.gc
  have hBC := h.BC
  have hcB := h.cb
  have htB := h.tbB
  refine ⟨he, One.core h e1 e2 e3 ?_ hsz2 (hk gc hgcl (by omega) (by omega) (by omega) (fun h1 => RowW.not69 h.con _ h1.2.choose_spec)) (E3.RowW.keep h.loc (hk gl hgl hglc hgg hgltb (fun h1 => RowW.not69 h.loc _ h1.2.choose_spec))) h.two rfl hT hty, ⟨ho1, ho2, ho3, hsz2, fun b h0 h1 => hk b h0 ?_ ?_ (fun e => h1 (.inr (.inl e))) (fun e => h1 (.inr (.inr e)))⟩⟩
  · rcases e4 with h4 | h4
    · rw [h4]; exact hgg
    · omega
  · rintro rfl
    obtain ⟨cs, hcs, _⟩ := hc
    exact h1 (.inl ⟨h.cb, cs, _, hcs, .inl rfl⟩)
  · rintro rfl
    obtain ⟨_, _, cs, _, hcs, _⟩ := hr
    exact h1 (.inl ⟨hg, cs, _, hcs, .inr rfl⟩)

end Go.Proofs.YtplnnlnkcfappaaGreat.Sv
