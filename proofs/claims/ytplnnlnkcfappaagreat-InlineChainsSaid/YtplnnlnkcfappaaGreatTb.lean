/- The machine with a stack: what its own calls do (printed by gen_sv.py from what the evaluator reckons). -/
import Derived.Test.YtplnnlnkcfappaaGreatTa
namespace Go.Proofs.YtplnnlnkcfappaaGreat.Sv
open Go.RowKit E3
set_option linter.unusedSimpArgs false
set_option linter.unusedVariables false

theorem symsV_val {vs : List Value} {k : Nat} {v : Value} (h : vs[k]? = some v) (h1 : v.oneCell' = true) : (symsV vs).val k = v := by simp [symsV, h, h1]
/-- where a row of the end lies -/
theorem finish {ρ : Syms} {xs : List (Nat × Nat × Nat)} {w w' : World} {m' : Mem} {F' : Env} (hkeep : ∀ g, g < w.heap.size → (∀ x ∈ xs, x.1 ≠ g) → w'.heap[g]? = w.heap[g]? ∧ Away F' m' g) {b' : Nat} {k' : Blk} {g' : Nat} {c' : Nat × Nat} (hat : m'.at b' = some k') (hF : F' b' = some (g', c')) :
    (∃ x ∈ xs, x.1 = g') ∨ w.heap.size ≤ g' := by
  by_cases hlt : w.heap.size ≤ g'
  · exact .inr hlt
  · left
    by_cases hne : ∀ x ∈ xs, x.1 ≠ g'
    · exact absurd rfl ((hkeep g' (by omega) hne).2 b' k' (g', c') hat hF)
    · obtain ⟨x, hx⟩ := Classical.not_forall.1 hne
      have := Classical.not_imp.1 hx
      exact ⟨x, this.1, Classical.not_not.1 this.2⟩
theorem ones_nil : Ones [] := fun u h => by cases h
/-- unknown values as they lie -/
structure Vs (a x vs cs ls : List Value) (ρ : Syms) : Prop where
  a : ∀ (j : Nat) (u : Value), a[j]? = some u → ρ.val j = u
  xv : ∀ (j : Nat) (u : Value), x[j]? = some u → ρ.val (8 + j) = u
  x : ∀ F, dens ρ F (symRow 8 x.length) = some x
  s : ∀ F i n, 5 * (i + n) ≤ vs.length → dens ρ F (symRow (16 + 5 * i) (5 * n)) = some ((vs.drop (5 * i)).take (5 * n))
  c : ∀ F i n, 5 * (i + n) ≤ cs.length → dens ρ F (symRow (32 + 5 * i) (5 * n)) = some ((cs.drop (5 * i)).take (5 * n))
  ct : ∀ F, dens ρ F (symRow 32 cs.length) = some cs
  l : ∀ F i n, 5 * (i + n) ≤ ls.length → dens ρ F (symRow (64 + 5 * i) (5 * n)) = some ((ls.drop (5 * i)).take (5 * n))
theorem row_dens {vs us : List Value} {s i n : Nat} (h : ∀ (j : Nat) (u : Value), us[j]? = some u → vs[s + j]? = some u) (h1 : Ones us) (hn : 5 * (i + n) ≤ us.length) (F : Env) : dens (symsV vs) F (symRow (s + 5 * i) (5 * n)) = some ((us.drop (5 * i)).take (5 * n)) := by
  have hl : ((us.drop (5 * i)).take (5 * n)).length = 5 * n := by simp; omega
  have := symRow_dens (vs := vs) F ((us.drop (5 * i)).take (5 * n)) (s + 5 * i) (fun j u hj => by
    have hj2 : j < 5 * n := by have := (List.getElem?_eq_some_iff.1 hj).1; omega
    rw [List.getElem?_take_of_lt hj2, List.getElem?_drop] at hj
    rw [show s + 5 * i + j = s + (5 * i + j) by omega]
    exact h _ u hj) (fun u hu => h1 u (List.mem_of_mem_drop (List.mem_of_mem_take hu)))
  rwa [hl] at this
theorem vs_mk {a x vs cs ls : List Value} (ha : a.length ≤ 8) (hx : x.length ≤ 8) (hs : vs.length ≤ 16) (hc : cs.length ≤ 32) (a1 : Ones a) (x1 : Ones x) (s1 : Ones vs) (c1 : Ones cs) (l1 : Ones ls) : Vs a x vs cs ls (symsV (V a x vs cs ls)) where
  a j u hj := symsV_val (by have := V_a (x := x) (vs := vs) (cs := cs) (ls := ls) hj; rwa [Nat.zero_add] at this) (a1 u (List.mem_of_getElem? hj))
  x F := symRow_dens F x 8 (fun j u hj => V_x ha hj) x1
  xv j u hj := symsV_val (V_x ha hj) (x1 u (List.mem_of_getElem? hj))
  s F i n hn := row_dens (fun j u hj => V_s ha hx hj) s1 hn F
  c F i n hn := row_dens (fun j u hj => V_c ha hx hs hj) c1 hn F
  ct F := symRow_dens F cs 32 (fun j u hj => V_c ha hx hs hj) c1
  l F i n hn := row_dens (fun j u hj => V_l ha hx hs hc hj) l1 hn F
theorem Vs.stk {a x vs cs ls : List Value} {ρ : Syms} (h : Vs a x vs cs ls ρ) {n : Nat} (hl : vs.length = 5 * n) (F : Env) : dens ρ F (symRow 16 (5 * n)) = some vs := by
  have := h.s F 0 n (by omega)
  rw [Nat.mul_zero, Nat.add_zero, List.drop_zero, List.take_of_length_le (by omega)] at this
  exact this
theorem Vs.row {a x vs cs ls : List Value} {ρ : Syms} (h : Vs a x vs cs ls ρ) {n : Nat} (hl : cs.length = 5 * n) (F : Env) : dens ρ F (symRow 32 (5 * n)) = some cs := by
  have := h.c F 0 n (by omega)
  rw [Nat.mul_zero, Nat.add_zero, List.drop_zero, List.take_of_length_le (by omega)] at this
  exact this
theorem Vs.loc {a x vs cs ls : List Value} {ρ : Syms} (h : Vs a x vs cs ls ρ) {n : Nat} (hl : ls.length = 5 * n) (F : Env) : dens ρ F (symRow 64 (5 * n)) = some ls := by
  have := h.l F 0 n (by omega)
  rw [Nat.mul_zero, Nat.add_zero, List.drop_zero, List.take_of_length_le (by omega)] at this
  exact this
/-- the call's first cells -/
theorem call_dens {ρ : Syms} {F : Env} {a : List Value} {c l : AV} {a3 a6 : Value} (h : a.length = 7) (hd : ∀ (j : Nat) (u : Value), a[j]? = some u → ρ.val j = u) (h3 : a[3]? = some a3) (h6 : a[6]? = some a6) (hc : den ρ F c = some a3) (hl : den ρ F l = some a6) :
    dens ρ F [.sym 0, .sym 1, .sym 2, c, .sym 4, .sym 5, l] = some a := by
  match a, h with
  | [a0, a1, a2, a3', a4, a5, a6'], _ =>
    have e0 := hd 0 a0 rfl
    have e1 := hd 1 a1 rfl
    have e2 := hd 2 a2 rfl
    have e4 := hd 4 a4 rfl
    have e5 := hd 5 a5 rfl
    simp only [List.getElem?_cons_succ, List.getElem?_cons_zero, Option.some.injEq] at h3 h6
    subst h3 h6
    simp [dens, den, e0, e1, e2, e4, e5, hc, hl]
theorem sym_den {ρ : Syms} {F : Env} {k : Nat} {v : Value} (h : ρ.val k = v) : den ρ F (.sym k) = some v := by simp [den, h]

theorem Vs.c7 {a x vs cs ls : List Value} {ρ : Syms} (h : Vs a x vs cs ls ρ) (hl : cs.length = 7) (F : Env) : dens ρ F (symRow 32 7) = some cs := by
  have := h.ct F
  rwa [hl] at this
theorem VarW.ne {w : World} {g b : Nat} {e e' : TypeId} {vs us : List Value} (h : VarW w g e vs) (hb : VarW w b e' us) (he : e ≠ e') : g ≠ b := by
  obtain ⟨cs, h1, _⟩ := h
  exact ne_type h1 hb he
theorem unitR_some {ρ : Syms} {v : AV} {k : R} {y : Out} (h : unitR v k = some y) : (∀ (F : Env) (u : Value), den ρ F v = some u → u = .tuple #[]) ∧ k = some y := by
  obtain ⟨l, rfl, h⟩ := tupR_some h
  obtain ⟨hl0, h⟩ := gdR_some h
  refine ⟨fun F u hu => ?_, h⟩
  obtain ⟨us, hus, rfl⟩ := den_tup hu
  have hl0' : lenAV l = 0 := Nat.eq_of_beq_eq_true hl0
  rw [lenAV_eq] at hl0'
  have hl1 := dens_length hus
  rw [hl0'] at hl1
  obtain rfl := List.eq_nil_of_length_eq_zero hl1
  rfl

noncomputable def epushRow (h : Nat) : R := layRO [] mem0 fun m => layAll [(54, 5, symRow 16 (5 * h)), (129, 0, callRow (.sym 3) (.sym 6) (.sl 0 0 h 5))] m fun m => callR (rec Tryz.prog noOrc sk kn 200 45 [.ptr 1 0, .agg (symRow 8 5)] m) fun v m => unitR v (atEnd m 1 (.sym 3) (.sym 6) [] (Nat.succ h) (symRow 16 (5 * h) ++ symRow 8 5) (yes m))
theorem pushRow {B cb h g : Nat} {w : World} {a x vs : List Value} {s : Value}  (hB : B ≤ w.heap.size) (hcb : B ≤ cb) (ha : a.length = 7) (ha1 : Ones a) (hc : VarW w cb 129 (a ++ [s])) (hx : x.length ≤ 8) (hx1 : Ones x) (hs : RowW w s 54 5 h (vs) g) (hg : B ≤ g) (hvl : vs.length ≤ 16) (h1 : Ones vs) (hin : (vs).length = 5 * h) (hx5 : x.length = 5) (he : isTrue (epushRow h) = true) :
    Calls Tryz.prog 45 #[.pointer (some ⟨cb, 0, none⟩), .agg x.toArray] w fun e w' => e = .returned (.tuple #[]) ∧ ∃ s' g', VarW w' cb 129 (a ++ [s']) ∧ RowW w' s' 54 5 ((Nat.succ h)) (vs ++ x) g' ∧ B ≤ g' ∧ (g' = g ∨ w.heap.size ≤ g') ∧ Below B w w' ∧ ∀ b, b < w.heap.size → b ≠ cb → b ≠ g → w'.heap[b]? = w.heap[b]? := by
  have hV := vs_mk (a := a) (x := x) (vs := vs) (cs := []) (ls := []) (by omega) (by omega) (by first | omega | simp) (by first | omega | simp) ha1 hx1 h1 ones_nil ones_nil
  generalize symsV (V a x vs [] []) = ρ at hV
  obtain ⟨v3, k3⟩ : ∃ v3, a[3]? = some v3 := ⟨_, List.getElem?_eq_getElem (by omega)⟩
  obtain ⟨v6, k6⟩ : ∃ v6, a[6]? = some v6 := ⟨_, List.getElem?_eq_getElem (by omega)⟩
  have hgcb : g ≠ cb := RowW.ne hs hc (by decide)
  obtain ⟨o, cap, rfl, hlay⟩ := E3.RowW.lay hs (ρ := ρ)
  have henv : ∀ F : Env, Ext (envAll (envAll (fun _ => none) 0 []) 0 [(g, cap * 5, o), (cb, 8, 0)]) F → dens ρ F [.sym 0, .sym 1, .sym 2, (.sym 3), .sym 4, .sym 5, (.sym 6)] = some a := fun F hF => call_dens ha hV.a k3 k6 (sym_den (hV.a 3 _ k3)) (sym_den (hV.a 6 _ k6))
  have hlast : ∀ u ∈ a ++ [.slice (some ⟨g, o, none⟩) h cap], u.oneCell' = true := fun u hu => (List.mem_append.1 hu).elim (ha1 u) fun h => by rw [List.mem_singleton.1 h]; rfl
  have he2 : isTrue (layRO [] mem0 fun m => layAll [(54, 5, symRow 16 (5 * h)), (129, 0, callRow (.sym 3) (.sym 6) (.sl 0 0 h 5))] m fun m => callR (rec Tryz.prog noOrc sk kn 200 45 [.ptr 1 0, .agg (symRow 8 5)] m) fun v m => unitR v (atEnd m 1 (.sym 3) (.sym 6) [] (Nat.succ h) (symRow 16 (5 * h) ++ symRow 8 5) (yes m))) = true := he
  refine (run_rows (ρ := ρ) mix (plainly_of plain_names) (noOrc_ok _) lex (kn_ok _) (kit Tryz.func45 (by kernel_rfl)) (xr := []) (xs := [(g, cap * 5, o), (cb, 8, 0)]) (vs := [.pointer (some ⟨cb, 0, none⟩), .agg x.toArray]) hB he2 trivial ?_ ?_).mono fun e w' hh => ?_
  · exact (hlay _ _ _ (none_ne g) (hV.stk hin _) (h1) (by have := dens_length (show dens ρ (fun _ => none) _ = _ from hV.stk hin _); omega) (by decide) (by decide) _ _ _ hg (RowsOk.var hc (noDup (none_ne cb) hgcb) (dens_append (l := [.sym 0, .sym 1, .sym 2, (.sym 3), .sym 4, .sym 5, (.sym 6)]) (call_dens ha hV.a k3 k6 (sym_den (hV.a 3 _ k3)) (sym_den (hV.a 6 _ k6))) (dens_one (by simp [den, nilS, envAll, setF]))) hlast (by rfl) hcb trivial))
  · refine dens_cons_mk (by simp [den, envAll, setF]) ?_
    exact dens_one (by simp [den, show dens ρ _ (symRow 8 5) = some x from hx5 ▸ hV.x _])
  · obtain ⟨v, y, m', F', rfl, ⟨m2, hck⟩, hv, hext, hI, hb, hkeep⟩ := hh
    obtain ⟨hvu, hck⟩ := unitR_some (ρ := ρ) hck
    obtain rfl := hvu _ _ hv
    obtain ⟨hck, hend⟩ := atEnd_some (ρ := ρ) hck
    obtain ⟨s', g', e1, e2, eB, eF, b', k', c', e3, e4⟩ := hend B F' w' cb 8 a (vs ++ x) hI (hext 1 _ (by simp [envAll, setF])) (henv F' hext) (dens_append (hV.stk hin _) (hx5 ▸ hV.x _))
    have hks : ∀ b, b < w.heap.size → b ≠ cb → b ≠ g → w'.heap[b]? = w.heap[b]? := by
      intro b hb0 n0 n1
      by_cases hbB : b < B
      · exact hb.block b hbB
      · refine (hkeep b hb0 fun x hx e => ?_).1
        subst e
        simp only [List.nil_append, List.cons_append, List.mem_cons, List.not_mem_nil, or_false] at hx
        rcases hx with rfl | rfl
        · exact n1 rfl
        · exact n0 rfl
    refine ⟨rfl, s', g', e1, e2, eB, ?_, hb, hks⟩
    rcases finish (ρ := ρ) hkeep e3 e4 with ⟨x, hx, rfl⟩ | h
    · simp only [List.nil_append, List.cons_append, List.mem_cons, List.not_mem_nil, or_false] at hx
      rcases hx with rfl | rfl
      · exact .inl rfl
      · exact absurd rfl (RowW.ne e2 e1 (by decide))
    · exact .inr h
noncomputable def epushNil : R := layRO [] mem0 fun m => layAll [(129, 0, callRow (.sym 3) (.sym 6) nilS)] m fun m => callR (rec Tryz.prog noOrc sk kn 200 45 [.ptr 0 0, .agg (symRow 8 5)] m) fun v m => unitR v (atEnd m 0 (.sym 3) (.sym 6) [] 1 (symRow 8 5) (yes m))
theorem pushNil {B cb : Nat} {w : World} {a x : List Value} {s : Value}  (hB : B ≤ w.heap.size) (hcb : B ≤ cb) (ha : a.length = 7) (ha1 : Ones a) (hc : VarW w cb 129 (a ++ [s])) (hx : x.length ≤ 8) (hx1 : Ones x) (hs : s = .slice none 0 0) (hx5 : x.length = 5) (he : isTrue (epushNil ) = true) :
    Calls Tryz.prog 45 #[.pointer (some ⟨cb, 0, none⟩), .agg x.toArray] w fun e w' => e = .returned (.tuple #[]) ∧ ∃ s' g', VarW w' cb 129 (a ++ [s']) ∧ RowW w' s' 54 5 (1) (x) g' ∧ B ≤ g' ∧ (w.heap.size ≤ g') ∧ Below B w w' ∧ ∀ b, b < w.heap.size → b ≠ cb → w'.heap[b]? = w.heap[b]? := by
  have hV := vs_mk (a := a) (x := x) (vs := []) (cs := []) (ls := []) (by omega) (by omega) (by first | omega | simp) (by first | omega | simp) ha1 hx1 ones_nil ones_nil ones_nil
  generalize symsV (V a x [] [] []) = ρ at hV
  obtain ⟨v3, k3⟩ : ∃ v3, a[3]? = some v3 := ⟨_, List.getElem?_eq_getElem (by omega)⟩
  obtain ⟨v6, k6⟩ : ∃ v6, a[6]? = some v6 := ⟨_, List.getElem?_eq_getElem (by omega)⟩
  subst hs
  have henv : ∀ F : Env, Ext (envAll (envAll (fun _ => none) 0 []) 0 [(cb, 8, 0)]) F → dens ρ F [.sym 0, .sym 1, .sym 2, (.sym 3), .sym 4, .sym 5, (.sym 6)] = some a := fun F hF => call_dens ha hV.a k3 k6 (sym_den (hV.a 3 _ k3)) (sym_den (hV.a 6 _ k6))
  have hlast : ∀ u ∈ a ++ [.slice none 0 0], u.oneCell' = true := fun u hu => (List.mem_append.1 hu).elim (ha1 u) fun h => by rw [List.mem_singleton.1 h]; rfl
  have he2 : isTrue (layRO [] mem0 fun m => layAll [(129, 0, callRow (.sym 3) (.sym 6) nilS)] m fun m => callR (rec Tryz.prog noOrc sk kn 200 45 [.ptr 0 0, .agg (symRow 8 5)] m) fun v m => unitR v (atEnd m 0 (.sym 3) (.sym 6) [] 1 (symRow 8 5) (yes m))) = true := he
  refine (run_rows (ρ := ρ) mix (plainly_of plain_names) (noOrc_ok _) lex (kn_ok _) (kit Tryz.func45 (by kernel_rfl)) (xr := []) (xs := [(cb, 8, 0)]) (vs := [.pointer (some ⟨cb, 0, none⟩), .agg x.toArray]) hB he2 trivial ?_ ?_).mono fun e w' hh => ?_
  · exact (RowsOk.var hc (none_ne cb) (dens_append (l := [.sym 0, .sym 1, .sym 2, (.sym 3), .sym 4, .sym 5, (.sym 6)]) (call_dens ha hV.a k3 k6 (sym_den (hV.a 3 _ k3)) (sym_den (hV.a 6 _ k6))) (dens_one (by simp [den, nilS, envAll, setF]))) hlast (by rfl) hcb trivial)
  · refine dens_cons_mk (by simp [den, envAll, setF]) ?_
    exact dens_one (by simp [den, show dens ρ _ (symRow 8 5) = some x from hx5 ▸ hV.x _])
  · obtain ⟨v, y, m', F', rfl, ⟨m2, hck⟩, hv, hext, hI, hb, hkeep⟩ := hh
    obtain ⟨hvu, hck⟩ := unitR_some (ρ := ρ) hck
    obtain rfl := hvu _ _ hv
    obtain ⟨hck, hend⟩ := atEnd_some (ρ := ρ) hck
    obtain ⟨s', g', e1, e2, eB, eF, b', k', c', e3, e4⟩ := hend B F' w' cb 8 a (x) hI (hext 0 _ (by simp [envAll, setF])) (henv F' hext) (hx5 ▸ hV.x _)
    have hks : ∀ b, b < w.heap.size → b ≠ cb → w'.heap[b]? = w.heap[b]? := by
      intro b hb0 n0
      by_cases hbB : b < B
      · exact hb.block b hbB
      · refine (hkeep b hb0 fun x hx e => ?_).1
        subst e
        simp only [List.nil_append, List.cons_append, List.mem_cons, List.not_mem_nil, or_false] at hx
        rcases hx with rfl
        · exact n0 rfl
    refine ⟨rfl, s', g', e1, e2, eB, ?_, hb, hks⟩
    rcases finish (ρ := ρ) hkeep e3 e4 with ⟨x, hx, rfl⟩ | h
    · simp only [List.nil_append, List.cons_append, List.mem_cons, List.not_mem_nil, or_false] at hx
      rcases hx with rfl
      · exact absurd rfl (RowW.ne e2 e1 (by decide))
    · exact h
noncomputable def epopRow (h : Nat) (n : Nat) : R := layRO [] mem0 fun m => layAll [(54, 5, symRow 16 (5 * h)), (129, 0, callRow (.sym 3) (.sym 6) (.sl 0 0 h 5))] m fun m => callR (rec Tryz.prog noOrc sk kn 200 43 [.ptr 1 0, .nat n] m) fun v m => chkRow m v n 5 (symRow (16 + 5 * (h - n)) (5 * n)) (atEnd m 1 (.sym 3) (.sym 6) [] (h - n) (symRow 16 (5 * (h - n))) (yes m))
theorem popRow {B cb h g n : Nat} {w : World} {a x vs : List Value} {s : Value}  (hB : B ≤ w.heap.size) (hcb : B ≤ cb) (ha : a.length = 7) (ha1 : Ones a) (hc : VarW w cb 129 (a ++ [s])) (hx : x.length ≤ 8) (hx1 : Ones x) (hs : RowW w s 54 5 h (vs) g) (hg : B ≤ g) (hvl : vs.length ≤ 16) (h1 : Ones vs) (hin : (vs).length = 5 * h) (hn1 : 1 ≤ n) (hnh : n ≤ h) (he : isTrue (epopRow h n) = true) :
    Calls Tryz.prog 43 #[.pointer (some ⟨cb, 0, none⟩), .int .i64 (.ofNat n)] w fun e w' => (∃ v, e = .returned v ∧ RowAt w' v n (vs.drop (5 * (h - n)))) ∧ ∃ s' g', VarW w' cb 129 (a ++ [s']) ∧ RowW w' s' 54 5 ((h - n)) (vs.take (5 * (h - n))) g' ∧ B ≤ g' ∧ (g' = g ∨ w.heap.size ≤ g') ∧ Below B w w' ∧ ∀ b, b < w.heap.size → b ≠ cb → b ≠ g → w'.heap[b]? = w.heap[b]? := by
  have hV := vs_mk (a := a) (x := x) (vs := vs) (cs := []) (ls := []) (by omega) (by omega) (by first | omega | simp) (by first | omega | simp) ha1 hx1 h1 ones_nil ones_nil
  generalize symsV (V a x vs [] []) = ρ at hV
  obtain ⟨v3, k3⟩ : ∃ v3, a[3]? = some v3 := ⟨_, List.getElem?_eq_getElem (by omega)⟩
  obtain ⟨v6, k6⟩ : ∃ v6, a[6]? = some v6 := ⟨_, List.getElem?_eq_getElem (by omega)⟩
  have hgcb : g ≠ cb := RowW.ne hs hc (by decide)
  obtain ⟨o, cap, rfl, hlay⟩ := E3.RowW.lay hs (ρ := ρ)
  have henv : ∀ F : Env, Ext (envAll (envAll (fun _ => none) 0 []) 0 [(g, cap * 5, o), (cb, 8, 0)]) F → dens ρ F [.sym 0, .sym 1, .sym 2, (.sym 3), .sym 4, .sym 5, (.sym 6)] = some a := fun F hF => call_dens ha hV.a k3 k6 (sym_den (hV.a 3 _ k3)) (sym_den (hV.a 6 _ k6))
  have hlast : ∀ u ∈ a ++ [.slice (some ⟨g, o, none⟩) h cap], u.oneCell' = true := fun u hu => (List.mem_append.1 hu).elim (ha1 u) fun h => by rw [List.mem_singleton.1 h]; rfl
  have he2 : isTrue (layRO [] mem0 fun m => layAll [(54, 5, symRow 16 (5 * h)), (129, 0, callRow (.sym 3) (.sym 6) (.sl 0 0 h 5))] m fun m => callR (rec Tryz.prog noOrc sk kn 200 43 [.ptr 1 0, .nat n] m) fun v m => chkRow m v n 5 (symRow (16 + 5 * (h - n)) (5 * n)) (atEnd m 1 (.sym 3) (.sym 6) [] (h - n) (symRow 16 (5 * (h - n))) (yes m))) = true := he
  refine (run_rows (ρ := ρ) mix (plainly_of plain_names) (noOrc_ok _) lex (kn_ok _) (kit Tryz.func43 (by kernel_rfl)) (xr := []) (xs := [(g, cap * 5, o), (cb, 8, 0)]) (vs := [.pointer (some ⟨cb, 0, none⟩), .int .i64 (.ofNat n)]) hB he2 trivial ?_ ?_).mono fun e w' hh => ?_
  · exact (hlay _ _ _ (none_ne g) (hV.stk hin _) (h1) (by have := dens_length (show dens ρ (fun _ => none) _ = _ from hV.stk hin _); omega) (by decide) (by decide) _ _ _ hg (RowsOk.var hc (noDup (none_ne cb) hgcb) (dens_append (l := [.sym 0, .sym 1, .sym 2, (.sym 3), .sym 4, .sym 5, (.sym 6)]) (call_dens ha hV.a k3 k6 (sym_den (hV.a 3 _ k3)) (sym_den (hV.a 6 _ k6))) (dens_one (by simp [den, nilS, envAll, setF]))) hlast (by rfl) hcb trivial))
  · refine dens_cons_mk (by simp [den, envAll, setF]) ?_
    exact dens_one (by simp [den])
  · obtain ⟨v, y, m', F', rfl, ⟨m2, hck⟩, hv, hext, hI, hb, hkeep⟩ := hh
    obtain ⟨hck, hrow⟩ := chkRow_some (ρ := ρ) hck
    obtain ⟨hck, hend⟩ := atEnd_some (ρ := ρ) hck
    obtain ⟨s', g', e1, e2, eB, eF, b', k', c', e3, e4⟩ := hend B F' w' cb 8 a (vs.take (5 * (h - n))) hI (hext 1 _ (by simp [envAll, setF])) (henv F' hext) (by have := hV.s F' 0 (h - n) (by omega); simpa using this)
    have hks : ∀ b, b < w.heap.size → b ≠ cb → b ≠ g → w'.heap[b]? = w.heap[b]? := by
      intro b hb0 n0 n1
      by_cases hbB : b < B
      · exact hb.block b hbB
      · refine (hkeep b hb0 fun x hx e => ?_).1
        subst e
        simp only [List.nil_append, List.cons_append, List.mem_cons, List.not_mem_nil, or_false] at hx
        rcases hx with rfl | rfl
        · exact n1 rfl
        · exact n0 rfl
    have hr := hrow B F' w' _ v hI (hV.s F' (h - n) n (by omega)) hv
    rw [List.take_of_length_le (by simp; omega)] at hr
    refine ⟨⟨v, rfl, hr⟩, s', g', e1, e2, eB, ?_, hb, hks⟩
    rcases finish (ρ := ρ) hkeep e3 e4 with ⟨x, hx, rfl⟩ | h
    · simp only [List.nil_append, List.cons_append, List.mem_cons, List.not_mem_nil, or_false] at hx
      rcases hx with rfl | rfl
      · exact .inl rfl
      · exact absurd rfl (RowW.ne e2 e1 (by decide))
    · exact .inr h
noncomputable def econstRow (h nc : Nat) (i : Nat) : R := layRO [(54, 5, symRow 32 (5 * nc))] mem0 fun m => layAll [(54, 5, symRow 16 (5 * h)), (129, 0, callRow (.sl 0 0 nc 5) (.sym 6) (.sl 1 0 h 5))] m fun m => callR (rec Tryz.prog noOrc sk kn 200 46 [.ptr 2 0, .sym 8, .agg [.nat 1, .nat i, .nat 0]] m) fun v m => gdR (eqAV v (.bool true)) (atEnd m 2 (.sl 0 0 nc 5) (.sym 6) [] (Nat.succ h) (symRow 16 (5 * h) ++ symRow (32 + 5 * i) (5 * 1)) (yes m))
theorem constRow {B cb h g nc gc : Nat} {w : World} {a x vs cs : List Value} {s v3 : Value} {i : Nat} (hB : B ≤ w.heap.size) (hcb : B ≤ cb) (ha : a.length = 7) (ha1 : Ones a) (hc : VarW w cb 129 (a ++ [s])) (hx : x.length ≤ 8) (hx1 : Ones x) (hs : RowW w s 54 5 h (vs) g) (hg : B ≤ g) (hvl : vs.length ≤ 16) (h1 : Ones vs) (hin : (vs).length = 5 * h) (k3 : a[3]? = some v3) (hcs : RowW w v3 54 5 nc cs gc) (hgc : gc < B) (hcl : cs.length = 5 * nc) (hcm : cs.length ≤ 32) (hc1 : Ones cs) (hi : i < nc) {t : Value} (ht : x[0]? = some t) (he : isTrue (econstRow h nc i) = true) :
    Calls Tryz.prog 46 #[.pointer (some ⟨cb, 0, none⟩), t, .agg #[.int .i64 1, .int .i64 (.ofNat i), .int .i64 0]] w fun e w' => e = .returned (.bool true) ∧ ∃ s' g', VarW w' cb 129 (a ++ [s']) ∧ RowW w' s' 54 5 ((Nat.succ h)) (vs ++ (cs.drop (5 * i)).take (5 * 1)) g' ∧ B ≤ g' ∧ (g' = g ∨ w.heap.size ≤ g') ∧ Below B w w' ∧ ∀ b, b < w.heap.size → b ≠ cb → b ≠ g → w'.heap[b]? = w.heap[b]? := by
  have hV := vs_mk (a := a) (x := x) (vs := vs) (cs := cs) (ls := []) (by omega) (by omega) (by first | omega | simp) (by first | omega | simp) ha1 hx1 h1 hc1 ones_nil
  generalize symsV (V a x vs cs []) = ρ at hV
  obtain ⟨v6, k6⟩ : ∃ v6, a[6]? = some v6 := ⟨_, List.getElem?_eq_getElem (by omega)⟩
  obtain ⟨oc, capc, rfl, hro⟩ := RowW.ro hcs (ρ := ρ)
  have hgcb : g ≠ cb := RowW.ne hs hc (by decide)
  obtain ⟨o, cap, rfl, hlay⟩ := E3.RowW.lay hs (ρ := ρ)
  have henv : ∀ F : Env, Ext (envAll (envAll (fun _ => none) 0 [(gc, capc * 5, oc)]) 1 [(g, cap * 5, o), (cb, 8, 0)]) F → dens ρ F [.sym 0, .sym 1, .sym 2, (.sl 0 0 nc 5), .sym 4, .sym 5, (.sym 6)] = some a := fun F hF => call_dens ha hV.a k3 k6 (den_ext hF _ _ (by simp [den, envAll, setF])) (sym_den (hV.a 6 _ k6))
  have hlast : ∀ u ∈ a ++ [.slice (some ⟨g, o, none⟩) h cap], u.oneCell' = true := fun u hu => (List.mem_append.1 hu).elim (ha1 u) fun h => by rw [List.mem_singleton.1 h]; rfl
  have he2 : isTrue (layRO [(54, 5, symRow 32 (5 * nc))] mem0 fun m => layAll [(54, 5, symRow 16 (5 * h)), (129, 0, callRow (.sl 0 0 nc 5) (.sym 6) (.sl 1 0 h 5))] m fun m => callR (rec Tryz.prog noOrc sk kn 200 46 [.ptr 2 0, .sym 8, .agg [.nat 1, .nat i, .nat 0]] m) fun v m => gdR (eqAV v (.bool true)) (atEnd m 2 (.sl 0 0 nc 5) (.sym 6) [] (Nat.succ h) (symRow 16 (5 * h) ++ symRow (32 + 5 * i) (5 * 1)) (yes m))) = true := he
  refine (run_rows (ρ := ρ) mix (plainly_of plain_names) (noOrc_ok _) lex (kn_ok _) (kit Tryz.func46 (by kernel_rfl)) (xr := [(gc, capc * 5, oc)]) (xs := [(g, cap * 5, o), (cb, 8, 0)]) (vs := [.pointer (some ⟨cb, 0, none⟩), t, .agg #[.int .i64 1, .int .i64 (.ofNat i), .int .i64 0]]) hB he2 (hro _ _ _ _ hgc (hV.row hcl _) hc1 (by have := dens_length (hV.row hcl (fun _ => none)); omega) (by decide) (by decide) _ _ trivial) ?_ ?_).mono fun e w' hh => ?_
  · exact (hlay _ _ _ (noDup (none_ne g) (show gc ≠ g by omega)) (hV.stk hin _) (h1) (by have := dens_length (show dens ρ (fun _ => none) _ = _ from hV.stk hin _); omega) (by decide) (by decide) _ _ _ hg (RowsOk.var hc (noDup (noDup (none_ne cb) (show gc ≠ cb by omega)) hgcb) (dens_append (l := [.sym 0, .sym 1, .sym 2, (.sl 0 0 nc 5), .sym 4, .sym 5, (.sym 6)]) (call_dens ha hV.a k3 k6 (by simp [den, envAll, setF]) (sym_den (hV.a 6 _ k6))) (dens_one (by simp [den, nilS, envAll, setF]))) hlast (by rfl) hcb trivial))
  · refine dens_cons_mk (by simp [den, envAll, setF]) ?_
    exact dens_cons_mk (sym_den (hV.xv 0 _ ht)) (dens_one (by simp [den, dens]))
  · obtain ⟨v, y, m', F', rfl, ⟨m2, hck⟩, hv, hext, hI, hb, hkeep⟩ := hh
    obtain ⟨hvt, hck⟩ := gdR_some hck
    obtain rfl := eqAV_eq hvt
    simp only [den, Option.some.injEq] at hv
    subst hv
    obtain ⟨hck, hend⟩ := atEnd_some (ρ := ρ) hck
    obtain ⟨s', g', e1, e2, eB, eF, b', k', c', e3, e4⟩ := hend B F' w' cb 8 a (vs ++ (cs.drop (5 * i)).take (5 * 1)) hI (hext 2 _ (by simp [envAll, setF])) (henv F' hext) (dens_append (hV.stk hin _) (hV.c F' i 1 (by omega)))
    have hks : ∀ b, b < w.heap.size → b ≠ cb → b ≠ g → w'.heap[b]? = w.heap[b]? := by
      intro b hb0 n0 n1
      by_cases hbB : b < B
      · exact hb.block b hbB
      · refine (hkeep b hb0 fun x hx e => ?_).1
        subst e
        simp only [List.nil_append, List.cons_append, List.mem_cons, List.not_mem_nil, or_false] at hx
        rcases hx with rfl | rfl | rfl
        · exact hbB hgc
        · exact n1 rfl
        · exact n0 rfl
    refine ⟨rfl, s', g', e1, e2, eB, ?_, hb, hks⟩
    rcases finish (ρ := ρ) hkeep e3 e4 with ⟨x, hx, rfl⟩ | h
    · simp only [List.nil_append, List.cons_append, List.mem_cons, List.not_mem_nil, or_false] at hx
      rcases hx with rfl | rfl | rfl
      · exact absurd eB (by simp; omega)
      · exact .inl rfl
      · exact absurd rfl (RowW.ne e2 e1 (by decide))
    · exact .inr h
noncomputable def econstNil (nc : Nat) (i : Nat) : R := layRO [(54, 5, symRow 32 (5 * nc))] mem0 fun m => layAll [(129, 0, callRow (.sl 0 0 nc 5) (.sym 6) nilS)] m fun m => callR (rec Tryz.prog noOrc sk kn 200 46 [.ptr 1 0, .sym 8, .agg [.nat 1, .nat i, .nat 0]] m) fun v m => gdR (eqAV v (.bool true)) (atEnd m 1 (.sl 0 0 nc 5) (.sym 6) [] 1 (symRow (32 + 5 * i) (5 * 1)) (yes m))
theorem constNil {B cb nc gc : Nat} {w : World} {a x cs : List Value} {s v3 : Value} {i : Nat} (hB : B ≤ w.heap.size) (hcb : B ≤ cb) (ha : a.length = 7) (ha1 : Ones a) (hc : VarW w cb 129 (a ++ [s])) (hx : x.length ≤ 8) (hx1 : Ones x) (hs : s = .slice none 0 0) (k3 : a[3]? = some v3) (hcs : RowW w v3 54 5 nc cs gc) (hgc : gc < B) (hcl : cs.length = 5 * nc) (hcm : cs.length ≤ 32) (hc1 : Ones cs) (hi : i < nc) {t : Value} (ht : x[0]? = some t) (he : isTrue (econstNil nc i) = true) :
    Calls Tryz.prog 46 #[.pointer (some ⟨cb, 0, none⟩), t, .agg #[.int .i64 1, .int .i64 (.ofNat i), .int .i64 0]] w fun e w' => e = .returned (.bool true) ∧ ∃ s' g', VarW w' cb 129 (a ++ [s']) ∧ RowW w' s' 54 5 (1) ((cs.drop (5 * i)).take (5 * 1)) g' ∧ B ≤ g' ∧ (w.heap.size ≤ g') ∧ Below B w w' ∧ ∀ b, b < w.heap.size → b ≠ cb → w'.heap[b]? = w.heap[b]? := by
  have hV := vs_mk (a := a) (x := x) (vs := []) (cs := cs) (ls := []) (by omega) (by omega) (by first | omega | simp) (by first | omega | simp) ha1 hx1 ones_nil hc1 ones_nil
  generalize symsV (V a x [] cs []) = ρ at hV
  obtain ⟨v6, k6⟩ : ∃ v6, a[6]? = some v6 := ⟨_, List.getElem?_eq_getElem (by omega)⟩
  obtain ⟨oc, capc, rfl, hro⟩ := RowW.ro hcs (ρ := ρ)
  subst hs
  have henv : ∀ F : Env, Ext (envAll (envAll (fun _ => none) 0 [(gc, capc * 5, oc)]) 1 [(cb, 8, 0)]) F → dens ρ F [.sym 0, .sym 1, .sym 2, (.sl 0 0 nc 5), .sym 4, .sym 5, (.sym 6)] = some a := fun F hF => call_dens ha hV.a k3 k6 (den_ext hF _ _ (by simp [den, envAll, setF])) (sym_den (hV.a 6 _ k6))
  have hlast : ∀ u ∈ a ++ [.slice none 0 0], u.oneCell' = true := fun u hu => (List.mem_append.1 hu).elim (ha1 u) fun h => by rw [List.mem_singleton.1 h]; rfl
  have he2 : isTrue (layRO [(54, 5, symRow 32 (5 * nc))] mem0 fun m => layAll [(129, 0, callRow (.sl 0 0 nc 5) (.sym 6) nilS)] m fun m => callR (rec Tryz.prog noOrc sk kn 200 46 [.ptr 1 0, .sym 8, .agg [.nat 1, .nat i, .nat 0]] m) fun v m => gdR (eqAV v (.bool true)) (atEnd m 1 (.sl 0 0 nc 5) (.sym 6) [] 1 (symRow (32 + 5 * i) (5 * 1)) (yes m))) = true := he
  refine (run_rows (ρ := ρ) mix (plainly_of plain_names) (noOrc_ok _) lex (kn_ok _) (kit Tryz.func46 (by kernel_rfl)) (xr := [(gc, capc * 5, oc)]) (xs := [(cb, 8, 0)]) (vs := [.pointer (some ⟨cb, 0, none⟩), t, .agg #[.int .i64 1, .int .i64 (.ofNat i), .int .i64 0]]) hB he2 (hro _ _ _ _ hgc (hV.row hcl _) hc1 (by have := dens_length (hV.row hcl (fun _ => none)); omega) (by decide) (by decide) _ _ trivial) ?_ ?_).mono fun e w' hh => ?_
  · exact (RowsOk.var hc (noDup (none_ne cb) (show gc ≠ cb by omega)) (dens_append (l := [.sym 0, .sym 1, .sym 2, (.sl 0 0 nc 5), .sym 4, .sym 5, (.sym 6)]) (call_dens ha hV.a k3 k6 (by simp [den, envAll, setF]) (sym_den (hV.a 6 _ k6))) (dens_one (by simp [den, nilS, envAll, setF]))) hlast (by rfl) hcb trivial)
  · refine dens_cons_mk (by simp [den, envAll, setF]) ?_
    exact dens_cons_mk (sym_den (hV.xv 0 _ ht)) (dens_one (by simp [den, dens]))
  · obtain ⟨v, y, m', F', rfl, ⟨m2, hck⟩, hv, hext, hI, hb, hkeep⟩ := hh
    obtain ⟨hvt, hck⟩ := gdR_some hck
    obtain rfl := eqAV_eq hvt
    simp only [den, Option.some.injEq] at hv
    subst hv
    obtain ⟨hck, hend⟩ := atEnd_some (ρ := ρ) hck
    obtain ⟨s', g', e1, e2, eB, eF, b', k', c', e3, e4⟩ := hend B F' w' cb 8 a ((cs.drop (5 * i)).take (5 * 1)) hI (hext 1 _ (by simp [envAll, setF])) (henv F' hext) (hV.c F' i 1 (by omega))
    have hks : ∀ b, b < w.heap.size → b ≠ cb → w'.heap[b]? = w.heap[b]? := by
      intro b hb0 n0
      by_cases hbB : b < B
      · exact hb.block b hbB
      · refine (hkeep b hb0 fun x hx e => ?_).1
        subst e
        simp only [List.nil_append, List.cons_append, List.mem_cons, List.not_mem_nil, or_false] at hx
        rcases hx with rfl | rfl
        · exact hbB hgc
        · exact n0 rfl
    refine ⟨rfl, s', g', e1, e2, eB, ?_, hb, hks⟩
    rcases finish (ρ := ρ) hkeep e3 e4 with ⟨x, hx, rfl⟩ | h
    · simp only [List.nil_append, List.cons_append, List.mem_cons, List.not_mem_nil, or_false] at hx
      rcases hx with rfl | rfl
      · exact absurd eB (by simp; omega)
      · exact absurd rfl (RowW.ne e2 e1 (by decide))
    · exact h
noncomputable def eloadRow (h nl : Nat) (i : Nat) : R := layRO [] mem0 fun m => layAll [(54, 5, symRow 64 (5 * nl)), (54, 5, symRow 16 (5 * h)), (129, 0, callRow (.sym 3) (.sl 0 0 nl 5) (.sl 1 0 h 5))] m fun m => callR (rec Tryz.prog noOrc sk kn 200 46 [.ptr 2 0, .sym 8, .agg [.nat 2, .nat i, .nat 0]] m) fun v m => gdR (eqAV v (.bool true)) (atEnd m 2 (.sym 3) (.sl 0 0 nl 5) [0] (Nat.succ h) (symRow 16 (5 * h) ++ symRow (64 + 5 * i) (5 * 1)) (chkT m (.sl 0 0 nl 5) 54 nl 5 (symRow 64 (5 * nl)) (yes m)))
theorem loadRow {B cb h g nl gl : Nat} {w : World} {a x vs ls : List Value} {s v6 : Value} {i : Nat} (hB : B ≤ w.heap.size) (hcb : B ≤ cb) (ha : a.length = 7) (ha1 : Ones a) (hc : VarW w cb 129 (a ++ [s])) (hx : x.length ≤ 8) (hx1 : Ones x) (hs : RowW w s 54 5 h (vs) g) (hg : B ≤ g) (hvl : vs.length ≤ 16) (h1 : Ones vs) (hin : (vs).length = 5 * h) (k6 : a[6]? = some v6) (hls : RowW w v6 54 5 nl ls gl) (hgl : B ≤ gl) (hll : ls.length = 5 * nl) (hl1 : Ones ls) (hgg : gl ≠ g) (hi : i < nl) {t : Value} (ht : x[0]? = some t) (he : isTrue (eloadRow h nl i) = true) :
    Calls Tryz.prog 46 #[.pointer (some ⟨cb, 0, none⟩), t, .agg #[.int .i64 2, .int .i64 (.ofNat i), .int .i64 0]] w fun e w' => e = .returned (.bool true) ∧ ∃ s' g', VarW w' cb 129 (a ++ [s']) ∧ RowW w' s' 54 5 ((Nat.succ h)) (vs ++ (ls.drop (5 * i)).take (5 * 1)) g' ∧ B ≤ g' ∧ (g' = g ∨ w.heap.size ≤ g') ∧ RowW w' v6 54 5 nl (ls) gl ∧ gl ≠ g' ∧ Below B w w' ∧ ∀ b, b < w.heap.size → b ≠ cb → b ≠ g → b ≠ gl → w'.heap[b]? = w.heap[b]? := by
  have hV := vs_mk (a := a) (x := x) (vs := vs) (cs := []) (ls := ls) (by omega) (by omega) (by first | omega | simp) (by first | omega | simp) ha1 hx1 h1 ones_nil hl1
  generalize symsV (V a x vs [] ls) = ρ at hV
  obtain ⟨v3, k3⟩ : ∃ v3, a[3]? = some v3 := ⟨_, List.getElem?_eq_getElem (by omega)⟩
  obtain ⟨ol, capl, rfl, hlayl⟩ := E3.RowW.lay hls (ρ := ρ)
  have hgcb : g ≠ cb := RowW.ne hs hc (by decide)
  obtain ⟨o, cap, rfl, hlay⟩ := E3.RowW.lay hs (ρ := ρ)
  have hlcb : gl ≠ cb := RowW.ne hls hc (by decide)
  have henv : ∀ F : Env, Ext (envAll (envAll (fun _ => none) 0 []) 0 [(gl, capl * 5, ol), (g, cap * 5, o), (cb, 8, 0)]) F → dens ρ F [.sym 0, .sym 1, .sym 2, (.sym 3), .sym 4, .sym 5, (.sl 0 0 nl 5)] = some a := fun F hF => call_dens ha hV.a k3 k6 (sym_den (hV.a 3 _ k3)) (den_ext hF _ _ (by simp [den, envAll, setF]))
  have hlast : ∀ u ∈ a ++ [.slice (some ⟨g, o, none⟩) h cap], u.oneCell' = true := fun u hu => (List.mem_append.1 hu).elim (ha1 u) fun h => by rw [List.mem_singleton.1 h]; rfl
  have he2 : isTrue (layRO [] mem0 fun m => layAll [(54, 5, symRow 64 (5 * nl)), (54, 5, symRow 16 (5 * h)), (129, 0, callRow (.sym 3) (.sl 0 0 nl 5) (.sl 1 0 h 5))] m fun m => callR (rec Tryz.prog noOrc sk kn 200 46 [.ptr 2 0, .sym 8, .agg [.nat 2, .nat i, .nat 0]] m) fun v m => gdR (eqAV v (.bool true)) (atEnd m 2 (.sym 3) (.sl 0 0 nl 5) [0] (Nat.succ h) (symRow 16 (5 * h) ++ symRow (64 + 5 * i) (5 * 1)) (chkT m (.sl 0 0 nl 5) 54 nl 5 (symRow 64 (5 * nl)) (yes m)))) = true := he
  refine (run_rows (ρ := ρ) mix (plainly_of plain_names) (noOrc_ok _) lex (kn_ok _) (kit Tryz.func46 (by kernel_rfl)) (xr := []) (xs := [(gl, capl * 5, ol), (g, cap * 5, o), (cb, 8, 0)]) (vs := [.pointer (some ⟨cb, 0, none⟩), t, .agg #[.int .i64 2, .int .i64 (.ofNat i), .int .i64 0]]) hB he2 trivial ?_ ?_).mono fun e w' hh => ?_
  · exact (hlayl _ _ _ (none_ne gl) (hV.loc hll _) hl1 (by have := dens_length (hV.loc hll (fun _ => none)); omega) (by decide) (by decide) _ _ _ hgl (hlay _ _ _ (noDup (none_ne g) hgg) (hV.stk hin _) (h1) (by have := dens_length (show dens ρ (fun _ => none) _ = _ from hV.stk hin _); omega) (by decide) (by decide) _ _ _ hg (RowsOk.var hc (noDup (noDup (none_ne cb) hlcb) hgcb) (dens_append (l := [.sym 0, .sym 1, .sym 2, (.sym 3), .sym 4, .sym 5, (.sl 0 0 nl 5)]) (call_dens ha hV.a k3 k6 (sym_den (hV.a 3 _ k3)) (by simp [den, envAll, setF])) (dens_one (by simp [den, nilS, envAll, setF]))) hlast (by rfl) hcb trivial)))
  · refine dens_cons_mk (by simp [den, envAll, setF]) ?_
    exact dens_cons_mk (sym_den (hV.xv 0 _ ht)) (dens_one (by simp [den, dens]))
  · obtain ⟨v, y, m', F', rfl, ⟨m2, hck⟩, hv, hext, hI, hb, hkeep⟩ := hh
    obtain ⟨hvt, hck⟩ := gdR_some hck
    obtain rfl := eqAV_eq hvt
    simp only [den, Option.some.injEq] at hv
    subst hv
    obtain ⟨hck, hend⟩ := atEnd_some (ρ := ρ) hck
    obtain ⟨hck, bl, hbl, hloc⟩ := chkT_some (ρ := ρ) hck
    obtain rfl : bl = 0 := by injection hbl with e1; exact e1.symm
    obtain ⟨s', g', e1, e2, eB, eF, b', k', c', e3, e4⟩ := hend B F' w' cb 8 a (vs ++ (ls.drop (5 * i)).take (5 * 1)) hI (hext 2 _ (by simp [envAll, setF])) (henv F' hext) (dens_append (hV.stk hin _) (hV.l F' i 1 (by omega)))
    have hFl := hext 0 (gl, capl * 5, ol) (by simp [envAll, setF])
    have hks : ∀ b, b < w.heap.size → b ≠ cb → b ≠ g → b ≠ gl → w'.heap[b]? = w.heap[b]? := by
      intro b hb0 n0 n1 n2
      by_cases hbB : b < B
      · exact hb.block b hbB
      · refine (hkeep b hb0 fun x hx e => ?_).1
        subst e
        simp only [List.nil_append, List.cons_append, List.mem_cons, List.not_mem_nil, or_false] at hx
        rcases hx with rfl | rfl | rfl
        · exact n2 rfl
        · exact n1 rfl
        · exact n0 rfl
    obtain ⟨gl2, cl2, hF2, hrl⟩ := hloc B F' w' (ls) _ hI (hV.loc hll _) (den_ext hext _ _ (show den ρ _ (.sl 0 0 nl 5) = some (.slice (some ⟨gl, ol, none⟩) nl capl) by simp [den, envAll, setF]))
    rw [hFl] at hF2
    obtain ⟨rfl, rfl⟩ := Prod.mk.inj (Option.some.inj hF2)
    have hgl2 : gl ≠ g' := eF 0 (by simp) _ hFl
    refine ⟨rfl, s', g', e1, e2, eB, ?_, hrl, hgl2, hb, hks⟩
    rcases finish (ρ := ρ) hkeep e3 e4 with ⟨x, hx, rfl⟩ | h
    · simp only [List.nil_append, List.cons_append, List.mem_cons, List.not_mem_nil, or_false] at hx
      rcases hx with rfl | rfl | rfl
      · exact absurd rfl hgl2
      · exact .inl rfl
      · exact absurd rfl (RowW.ne e2 e1 (by decide))
    · exact .inr h
noncomputable def eloadNil (nl : Nat) (i : Nat) : R := layRO [] mem0 fun m => layAll [(54, 5, symRow 64 (5 * nl)), (129, 0, callRow (.sym 3) (.sl 0 0 nl 5) nilS)] m fun m => callR (rec Tryz.prog noOrc sk kn 200 46 [.ptr 1 0, .sym 8, .agg [.nat 2, .nat i, .nat 0]] m) fun v m => gdR (eqAV v (.bool true)) (atEnd m 1 (.sym 3) (.sl 0 0 nl 5) [0] 1 (symRow (64 + 5 * i) (5 * 1)) (chkT m (.sl 0 0 nl 5) 54 nl 5 (symRow 64 (5 * nl)) (yes m)))
theorem loadNil {B cb nl gl : Nat} {w : World} {a x ls : List Value} {s v6 : Value} {i : Nat} (hB : B ≤ w.heap.size) (hcb : B ≤ cb) (ha : a.length = 7) (ha1 : Ones a) (hc : VarW w cb 129 (a ++ [s])) (hx : x.length ≤ 8) (hx1 : Ones x) (hs : s = .slice none 0 0) (k6 : a[6]? = some v6) (hls : RowW w v6 54 5 nl ls gl) (hgl : B ≤ gl) (hll : ls.length = 5 * nl) (hl1 : Ones ls) (hi : i < nl) {t : Value} (ht : x[0]? = some t) (he : isTrue (eloadNil nl i) = true) :
    Calls Tryz.prog 46 #[.pointer (some ⟨cb, 0, none⟩), t, .agg #[.int .i64 2, .int .i64 (.ofNat i), .int .i64 0]] w fun e w' => e = .returned (.bool true) ∧ ∃ s' g', VarW w' cb 129 (a ++ [s']) ∧ RowW w' s' 54 5 (1) ((ls.drop (5 * i)).take (5 * 1)) g' ∧ B ≤ g' ∧ (w.heap.size ≤ g') ∧ RowW w' v6 54 5 nl (ls) gl ∧ gl ≠ g' ∧ Below B w w' ∧ ∀ b, b < w.heap.size → b ≠ cb → b ≠ gl → w'.heap[b]? = w.heap[b]? := by
  have hV := vs_mk (a := a) (x := x) (vs := []) (cs := []) (ls := ls) (by omega) (by omega) (by first | omega | simp) (by first | omega | simp) ha1 hx1 ones_nil ones_nil hl1
  generalize symsV (V a x [] [] ls) = ρ at hV
  obtain ⟨v3, k3⟩ : ∃ v3, a[3]? = some v3 := ⟨_, List.getElem?_eq_getElem (by omega)⟩
  obtain ⟨ol, capl, rfl, hlayl⟩ := E3.RowW.lay hls (ρ := ρ)
  subst hs
  have hlcb : gl ≠ cb := RowW.ne hls hc (by decide)
  have henv : ∀ F : Env, Ext (envAll (envAll (fun _ => none) 0 []) 0 [(gl, capl * 5, ol), (cb, 8, 0)]) F → dens ρ F [.sym 0, .sym 1, .sym 2, (.sym 3), .sym 4, .sym 5, (.sl 0 0 nl 5)] = some a := fun F hF => call_dens ha hV.a k3 k6 (sym_den (hV.a 3 _ k3)) (den_ext hF _ _ (by simp [den, envAll, setF]))
  have hlast : ∀ u ∈ a ++ [.slice none 0 0], u.oneCell' = true := fun u hu => (List.mem_append.1 hu).elim (ha1 u) fun h => by rw [List.mem_singleton.1 h]; rfl
  have he2 : isTrue (layRO [] mem0 fun m => layAll [(54, 5, symRow 64 (5 * nl)), (129, 0, callRow (.sym 3) (.sl 0 0 nl 5) nilS)] m fun m => callR (rec Tryz.prog noOrc sk kn 200 46 [.ptr 1 0, .sym 8, .agg [.nat 2, .nat i, .nat 0]] m) fun v m => gdR (eqAV v (.bool true)) (atEnd m 1 (.sym 3) (.sl 0 0 nl 5) [0] 1 (symRow (64 + 5 * i) (5 * 1)) (chkT m (.sl 0 0 nl 5) 54 nl 5 (symRow 64 (5 * nl)) (yes m)))) = true := he
  refine (run_rows (ρ := ρ) mix (plainly_of plain_names) (noOrc_ok _) lex (kn_ok _) (kit Tryz.func46 (by kernel_rfl)) (xr := []) (xs := [(gl, capl * 5, ol), (cb, 8, 0)]) (vs := [.pointer (some ⟨cb, 0, none⟩), t, .agg #[.int .i64 2, .int .i64 (.ofNat i), .int .i64 0]]) hB he2 trivial ?_ ?_).mono fun e w' hh => ?_
  · exact (hlayl _ _ _ (none_ne gl) (hV.loc hll _) hl1 (by have := dens_length (hV.loc hll (fun _ => none)); omega) (by decide) (by decide) _ _ _ hgl (RowsOk.var hc (noDup (none_ne cb) hlcb) (dens_append (l := [.sym 0, .sym 1, .sym 2, (.sym 3), .sym 4, .sym 5, (.sl 0 0 nl 5)]) (call_dens ha hV.a k3 k6 (sym_den (hV.a 3 _ k3)) (by simp [den, envAll, setF])) (dens_one (by simp [den, nilS, envAll, setF]))) hlast (by rfl) hcb trivial))
  · refine dens_cons_mk (by simp [den, envAll, setF]) ?_
    exact dens_cons_mk (sym_den (hV.xv 0 _ ht)) (dens_one (by simp [den, dens]))
  · obtain ⟨v, y, m', F', rfl, ⟨m2, hck⟩, hv, hext, hI, hb, hkeep⟩ := hh
    obtain ⟨hvt, hck⟩ := gdR_some hck
    obtain rfl := eqAV_eq hvt
    simp only [den, Option.some.injEq] at hv
    subst hv
    obtain ⟨hck, hend⟩ := atEnd_some (ρ := ρ) hck
    obtain ⟨hck, bl, hbl, hloc⟩ := chkT_some (ρ := ρ) hck
    obtain rfl : bl = 0 := by injection hbl with e1; exact e1.symm
    obtain ⟨s', g', e1, e2, eB, eF, b', k', c', e3, e4⟩ := hend B F' w' cb 8 a ((ls.drop (5 * i)).take (5 * 1)) hI (hext 1 _ (by simp [envAll, setF])) (henv F' hext) (hV.l F' i 1 (by omega))
    have hFl := hext 0 (gl, capl * 5, ol) (by simp [envAll, setF])
    have hks : ∀ b, b < w.heap.size → b ≠ cb → b ≠ gl → w'.heap[b]? = w.heap[b]? := by
      intro b hb0 n0 n1
      by_cases hbB : b < B
      · exact hb.block b hbB
      · refine (hkeep b hb0 fun x hx e => ?_).1
        subst e
        simp only [List.nil_append, List.cons_append, List.mem_cons, List.not_mem_nil, or_false] at hx
        rcases hx with rfl | rfl
        · exact n1 rfl
        · exact n0 rfl
    obtain ⟨gl2, cl2, hF2, hrl⟩ := hloc B F' w' (ls) _ hI (hV.loc hll _) (den_ext hext _ _ (show den ρ _ (.sl 0 0 nl 5) = some (.slice (some ⟨gl, ol, none⟩) nl capl) by simp [den, envAll, setF]))
    rw [hFl] at hF2
    obtain ⟨rfl, rfl⟩ := Prod.mk.inj (Option.some.inj hF2)
    have hgl2 : gl ≠ g' := eF 0 (by simp) _ hFl
    refine ⟨rfl, s', g', e1, e2, eB, ?_, hrl, hgl2, hb, hks⟩
    rcases finish (ρ := ρ) hkeep e3 e4 with ⟨x, hx, rfl⟩ | h
    · simp only [List.nil_append, List.cons_append, List.mem_cons, List.not_mem_nil, or_false] at hx
      rcases hx with rfl | rfl
      · exact absurd rfl hgl2
      · exact absurd rfl (RowW.ne e2 e1 (by decide))
    · exact h

end Go.Proofs.YtplnnlnkcfappaaGreat.Sv
