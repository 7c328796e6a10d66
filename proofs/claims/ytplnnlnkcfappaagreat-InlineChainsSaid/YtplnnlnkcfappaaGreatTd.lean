/- The machine with a stack: store; an op of two numbers (printed by gen_sv.py). -/
import Derived.Test.YtplnnlnkcfappaaGreatTb
namespace Go.Proofs.YtplnnlnkcfappaaGreat.Sv
open Go.RowKit E3
set_option linter.unusedSimpArgs false
set_option linter.unusedVariables false

noncomputable def cx0 : AV := .raw (.complex .f64 0 0)
/-- a number as a value: its cells -/
noncomputable def intRow (v : AV) : List AV := [.nat 1, v, cx0, .str 0 0, .raw (.slice none 0 0)]
def iv (z : Int) : List Value := [.int .i64 1, .int .i64 z, .complex .f64 0 0, .string ⟨#[]⟩, .slice none 0 0]
theorem iv_ones (z : Int) : Ones (iv z) := by
  intro u hu
  simp only [iv, List.mem_cons, List.not_mem_nil, or_false] at hu
  rcases hu with rfl | rfl | rfl | rfl | rfl <;> rfl
theorem intRow_dens {ρ : Syms} {F : Env} {v : AV} {z : Int} (h : den ρ F v = some (.int .i64 z)) : dens ρ F (intRow v) = some (iv z) :=
  dens_cons_mk (by simp [den]) (dens_cons_mk h (dens_cons_mk (by simp [den, cx0]) (dens_cons_mk (by simp [den, strOf, bytesOf]) (dens_one (by simp [den])))))

noncomputable def estoreRow (h nl : Nat) (i : Nat) : R := layRO [] mem0 fun m => layAll [(54, 5, symRow 64 (5 * nl)), (54, 5, symRow 16 (5 * h)), (129, 0, callRow (.sym 3) (.sl 0 0 nl 5) (.sl 1 0 h 5))] m fun m => callR (rec Tryz.prog noOrc sk kn 200 46 [.ptr 2 0, .sym 8, .agg [.nat 3, .nat i, .nat 0]] m) fun v m => gdR (eqAV v (.bool true)) (atEnd m 2 (.sym 3) (.sl 0 0 nl 5) [0] (h - 1) (symRow 16 (5 * (h - 1))) (chkT m (.sl 0 0 nl 5) 54 nl 5 (symRow 64 (5 * i) ++ (symRow (16 + 5 * (h - 1)) (5 * 1) ++ symRow (64 + 5 * (i + 1)) (5 * (nl - (i + 1))))) (yes m)))
theorem storeRow {B cb h g nl gl : Nat} {w : World} {a x vs ls : List Value} {s v6 : Value} {i : Nat} (hB : B ≤ w.heap.size) (hcb : B ≤ cb) (ha : a.length = 7) (ha1 : Ones a) (hc : VarW w cb 129 (a ++ [s])) (hx : x.length ≤ 8) (hx1 : Ones x) (hs : RowW w s 54 5 h (vs) g) (hg : B ≤ g) (hvl : vs.length ≤ 16) (h1 : Ones vs) (hin : (vs).length = 5 * h) (k6 : a[6]? = some v6) (hls : RowW w v6 54 5 nl ls gl) (hgl : B ≤ gl) (hll : ls.length = 5 * nl) (hl1 : Ones ls) (hgg : gl ≠ g) (hi : i < nl) (hh1 : 1 ≤ h) {t : Value} (ht : x[0]? = some t) (he : isTrue (estoreRow h nl i) = true) :
    Calls Tryz.prog 46 #[.pointer (some ⟨cb, 0, none⟩), t, .agg #[.int .i64 3, .int .i64 (.ofNat i), .int .i64 0]] w fun e w' => e = .returned (.bool true) ∧ ∃ s' g', VarW w' cb 129 (a ++ [s']) ∧ RowW w' s' 54 5 ((h - 1)) (vs.take (5 * (h - 1))) g' ∧ B ≤ g' ∧ (g' = g ∨ w.heap.size ≤ g') ∧ RowW w' v6 54 5 nl (ls.take (5 * i) ++ ((vs.drop (5 * (h - 1))).take (5 * 1) ++ (ls.drop (5 * (i + 1))).take (5 * (nl - (i + 1))))) gl ∧ gl ≠ g' ∧ Below B w w' ∧ ∀ b, b < w.heap.size → b ≠ cb → b ≠ g → b ≠ gl → w'.heap[b]? = w.heap[b]? := by
  have hV := vs_mk (a := a) (x := x) (vs := vs) (cs := []) (ls := ls) (by omega) (by omega) (by first | omega | simp) (by first | omega | simp) ha1 hx1 h1 ones_nil hl1
  generalize symsV (V a x vs [] ls) = ρ at hV
  obtain ⟨v3, k3⟩ : ∃ v3, a[3]? = some v3 := ⟨_, List.getElem?_eq_getElem (by omega)⟩
  obtain ⟨ol, capl, rfl, hlayl⟩ := E3.RowW.lay hls (ρ := ρ)
  have hgcb : g ≠ cb := RowW.ne hs hc (by decide)
  obtain ⟨o, cap, rfl, hlay⟩ := E3.RowW.lay hs (ρ := ρ)
  have hlcb : gl ≠ cb := RowW.ne hls hc (by decide)
  have henv : ∀ F : Env, Ext (envAll (envAll (fun _ => none) 0 []) 0 [(gl, capl * 5, ol), (g, cap * 5, o), (cb, 8, 0)]) F → dens ρ F [.sym 0, .sym 1, .sym 2, (.sym 3), .sym 4, .sym 5, (.sl 0 0 nl 5)] = some a := fun F hF => call_dens ha hV.a k3 k6 (sym_den (hV.a 3 _ k3)) (den_ext hF _ _ (by simp [den, envAll, setF]))
  have hlast : ∀ u ∈ a ++ [.slice (some ⟨g, o, none⟩) h cap], u.oneCell' = true := fun u hu => (List.mem_append.1 hu).elim (ha1 u) fun h => by rw [List.mem_singleton.1 h]; rfl
  have he2 : isTrue (layRO [] mem0 fun m => layAll [(54, 5, symRow 64 (5 * nl)), (54, 5, symRow 16 (5 * h)), (129, 0, callRow (.sym 3) (.sl 0 0 nl 5) (.sl 1 0 h 5))] m fun m => callR (rec Tryz.prog noOrc sk kn 200 46 [.ptr 2 0, .sym 8, .agg [.nat 3, .nat i, .nat 0]] m) fun v m => gdR (eqAV v (.bool true)) (atEnd m 2 (.sym 3) (.sl 0 0 nl 5) [0] (h - 1) (symRow 16 (5 * (h - 1))) (chkT m (.sl 0 0 nl 5) 54 nl 5 (symRow 64 (5 * i) ++ (symRow (16 + 5 * (h - 1)) (5 * 1) ++ symRow (64 + 5 * (i + 1)) (5 * (nl - (i + 1))))) (yes m)))) = true := he
  refine (run_rows (ρ := ρ) mix (plainly_of plain_names) (noOrc_ok _) lex (kn_ok _) (kit Tryz.func46 (by kernel_rfl)) (xr := []) (xs := [(gl, capl * 5, ol), (g, cap * 5, o), (cb, 8, 0)]) (vs := [.pointer (some ⟨cb, 0, none⟩), t, .agg #[.int .i64 3, .int .i64 (.ofNat i), .int .i64 0]]) hB he2 trivial ?_ ?_).mono fun e w' hh => ?_
  · exact (hlayl _ _ _ (none_ne gl) (hV.loc hll _) hl1 (by have := dens_length (hV.loc hll (fun _ => none)); omega) (by decide) (by decide) _ _ _ hgl (hlay _ _ _ (noDup (none_ne g) hgg) (hV.stk hin _) (h1) (by have := dens_length (show dens ρ (fun _ => none) _ = _ from hV.stk hin _); omega) (by decide) (by decide) _ _ _ hg (RowsOk.var hc (noDup (noDup (none_ne cb) hlcb) hgcb) (dens_append (l := [.sym 0, .sym 1, .sym 2, (.sym 3), .sym 4, .sym 5, (.sl 0 0 nl 5)]) (call_dens ha hV.a k3 k6 (sym_den (hV.a 3 _ k3)) (by simp [den, envAll, setF])) (dens_one (by simp [den, nilS, envAll, setF]))) hlast (by rfl) hcb trivial)))
  · refine dens_cons_mk (by simp [den, envAll, setF]) ?_
    exact dens_cons_mk (sym_den (hV.xv 0 _ ht)) (dens_one (by simp [den, dens]))
  · obtain ⟨v, y, m', F', rfl, ⟨m2, hck⟩, hv, hext, hI, hb, hkeep⟩ := hh
    obtain ⟨hvt, hck⟩ := gdR_some hck
    obtain rfl := eqAV_eq hvt
    simp only [den, Option.some.injEq] at hv
    subst hv
    obtain ⟨hck, hend⟩ := atEnd_some (ρ := ρ) hck
    obtain ⟨hck, bl, hbl, hloc⟩ := chkT_some (ρ := ρ) hck
    obtain rfl : bl = 0 := by injection hbl with e1; exact e1.symm
    obtain ⟨s', g', e1, e2, eB, eF, b', k', c', e3, e4⟩ := hend B F' w' cb 8 a (vs.take (5 * (h - 1))) hI (hext 2 _ (by simp [envAll, setF])) (henv F' hext) (by have := hV.s F' 0 (h - 1) (by omega); simpa using this)
    have hFl := hext 0 (gl, capl * 5, ol) (by simp [envAll, setF])
    have hks : ∀ b, b < w.heap.size → b ≠ cb → b ≠ g → b ≠ gl → w'.heap[b]? = w.heap[b]? := by
      intro b hb0 n0 n1 n2
      by_cases hbB : b < B
      · exact hb.block b hbB
      · refine (hkeep b hb0 fun x hx e => ?_).1
        subst e
        simp only [List.nil_append, List.cons_append, List.mem_cons, List.not_mem_nil, or_false] at hx
        rcases hx with rfl | rfl | rfl
        · exact n2 rfl
        · exact n1 rfl
        · exact n0 rfl
    obtain ⟨gl2, cl2, hF2, hrl⟩ := hloc B F' w' (ls.take (5 * i) ++ ((vs.drop (5 * (h - 1))).take (5 * 1) ++ (ls.drop (5 * (i + 1))).take (5 * (nl - (i + 1))))) _ hI (dens_append (by have := hV.l F' 0 i (by omega); simpa using this) (dens_append (hV.s F' (h - 1) 1 (by omega)) (hV.l F' (i + 1) (nl - (i + 1)) (by omega)))) (den_ext hext _ _ (show den ρ _ (.sl 0 0 nl 5) = some (.slice (some ⟨gl, ol, none⟩) nl capl) by simp [den, envAll, setF]))
    rw [hFl] at hF2
    obtain ⟨rfl, rfl⟩ := Prod.mk.inj (Option.some.inj hF2)
    have hgl2 : gl ≠ g' := eF 0 (by simp) _ hFl
    refine ⟨rfl, s', g', e1, e2, eB, ?_, hrl, hgl2, hb, hks⟩
    rcases finish (ρ := ρ) hkeep e3 e4 with ⟨x, hx, rfl⟩ | h
    · simp only [List.nil_append, List.cons_append, List.mem_cons, List.not_mem_nil, or_false] at hx
      rcases hx with rfl | rfl | rfl
      · exact absurd rfl hgl2
      · exact .inl rfl
      · exact absurd rfl (RowW.ne e2 e1 (by decide))
    · exact .inr h
noncomputable def ebinRow (h : Nat) (op : Nat) (oc : Orc) (rv : AV) : R := layRO [] mem0 fun m => layAll [(54, 5, symRow 16 (5 * (h - 2)) ++ (intRow (.sym 8) ++ intRow (.sym 9))), (129, 0, callRow (.sym 3) (.sym 6) (.sl 0 0 h 5)), (194, 0, symRow 32 7 ++ [.nat 0])] m fun m => callR (rec Tryz.prog oc sk kn 200 46 [.ptr 1 0, .ptr 2 0, .agg [.nat 5, .nat op, .nat 0]] m) fun v m => gdR (eqAV v (.bool true)) (atEnd m 1 (.sym 3) (.sym 6) [] (h - 1) (symRow 16 (5 * (h - 2)) ++ intRow rv) (chkV m 2 194 8 fun l => gdR (eqAVs l (symRow 32 7 ++ [.nat 0])) (yes m)))
theorem binRow {B cb h g tb : Nat} {w : World} {a x vs tk : List Value} {s : Value} {op : Nat} {oc : Orc} {rv : AV} {u v r z : Int} (hB : B ≤ w.heap.size) (hcb : B ≤ cb) (ha : a.length = 7) (ha1 : Ones a) (hc : VarW w cb 129 (a ++ [s])) (hx : x.length ≤ 8) (hx1 : Ones x) (hs : RowW w s 54 5 h (vs ++ (iv u ++ iv v)) g) (hg : B ≤ g) (hvl : vs.length ≤ 16) (h1 : Ones vs) (hin : (vs ++ (iv u ++ iv v)).length = 5 * h) (htk : VarW w tb 194 (tk ++ [.int .i64 0])) (htb : B ≤ tb) (htl : tk.length = 7) (ht1 : Ones tk) (hh2 : 2 ≤ h) (hvn : vs.length = 5 * (h - 2)) (hxe : x = [.int .i64 u, .int .i64 v, .int .i64 r]) (hoc : ∀ ρ : Syms, ρ.val 8 = .int .i64 u → ρ.val 9 = .int .i64 v → ρ.val 10 = .int .i64 r → OrcOk ρ Tryz.prog oc) (hrv : ∀ (ρ : Syms) (F : Env), ρ.val 10 = .int .i64 r → den ρ F rv = some (.int .i64 z)) (he : isTrue (ebinRow h op oc rv) = true) :
    Calls Tryz.prog 46 #[.pointer (some ⟨cb, 0, none⟩), .pointer (some ⟨tb, 0, none⟩), .agg #[.int .i64 5, .int .i64 (.ofNat op), .int .i64 0]] w fun e w' => e = .returned (.bool true) ∧ ∃ s' g', VarW w' cb 129 (a ++ [s']) ∧ RowW w' s' 54 5 ((h - 1)) (vs ++ iv z) g' ∧ B ≤ g' ∧ (g' = g ∨ w.heap.size ≤ g') ∧ VarW w' tb 194 (tk ++ [.int .i64 0]) ∧ Below B w w' ∧ ∀ b, b < w.heap.size → b ≠ cb → b ≠ g → b ≠ tb → w'.heap[b]? = w.heap[b]? := by
  have hV := vs_mk (a := a) (x := x) (vs := vs) (cs := tk) (ls := []) (by omega) (by omega) (by first | omega | simp) (by first | omega | simp) ha1 hx1 h1 ht1 ones_nil
  generalize symsV (V a x vs tk []) = ρ at hV
  obtain ⟨v3, k3⟩ : ∃ v3, a[3]? = some v3 := ⟨_, List.getElem?_eq_getElem (by omega)⟩
  obtain ⟨v6, k6⟩ : ∃ v6, a[6]? = some v6 := ⟨_, List.getElem?_eq_getElem (by omega)⟩
  have hgcb : g ≠ cb := RowW.ne hs hc (by decide)
  obtain ⟨o, cap, rfl, hlay⟩ := E3.RowW.lay hs (ρ := ρ)
  have hctb : cb ≠ tb := VarW.ne hc htk (by decide)
  have hgtb : g ≠ tb := RowW.ne hs htk (by decide)
  have henv : ∀ F : Env, Ext (envAll (envAll (fun _ => none) 0 []) 0 [(g, cap * 5, o), (cb, 8, 0), (tb, 8, 0)]) F → dens ρ F [.sym 0, .sym 1, .sym 2, (.sym 3), .sym 4, .sym 5, (.sym 6)] = some a := fun F hF => call_dens ha hV.a k3 k6 (sym_den (hV.a 3 _ k3)) (sym_den (hV.a 6 _ k6))
  have hlast : ∀ u ∈ a ++ [.slice (some ⟨g, o, none⟩) h cap], u.oneCell' = true := fun u hu => (List.mem_append.1 hu).elim (ha1 u) fun h => by rw [List.mem_singleton.1 h]; rfl
  have he2 : isTrue (layRO [] mem0 fun m => layAll [(54, 5, symRow 16 (5 * (h - 2)) ++ (intRow (.sym 8) ++ intRow (.sym 9))), (129, 0, callRow (.sym 3) (.sym 6) (.sl 0 0 h 5)), (194, 0, symRow 32 7 ++ [.nat 0])] m fun m => callR (rec Tryz.prog oc sk kn 200 46 [.ptr 1 0, .ptr 2 0, .agg [.nat 5, .nat op, .nat 0]] m) fun v m => gdR (eqAV v (.bool true)) (atEnd m 1 (.sym 3) (.sym 6) [] (h - 1) (symRow 16 (5 * (h - 2)) ++ intRow rv) (chkV m 2 194 8 fun l => gdR (eqAVs l (symRow 32 7 ++ [.nat 0])) (yes m)))) = true := he
  refine (run_rows (ρ := ρ) mix (plainly_of plain_names) (hoc ρ (hV.xv 0 _ (by rw [hxe]; rfl)) (hV.xv 1 _ (by rw [hxe]; rfl)) (hV.xv 2 _ (by rw [hxe]; rfl))) lex (kn_ok _) (kit Tryz.func46 (by kernel_rfl)) (xr := []) (xs := [(g, cap * 5, o), (cb, 8, 0), (tb, 8, 0)]) (vs := [.pointer (some ⟨cb, 0, none⟩), .pointer (some ⟨tb, 0, none⟩), .agg #[.int .i64 5, .int .i64 (.ofNat op), .int .i64 0]]) hB he2 trivial ?_ ?_).mono fun e w' hh => ?_
  · exact (hlay _ _ _ (none_ne g) (dens_append (hV.stk hvn _) (dens_append (intRow_dens (sym_den (hV.xv 0 _ (by rw [hxe]; rfl)))) (intRow_dens (sym_den (hV.xv 1 _ (by rw [hxe]; rfl)))))) ((fun q hq => (List.mem_append.1 hq).elim (h1 q) fun hq => (List.mem_append.1 hq).elim (iv_ones u q) (iv_ones v q))) (by have := dens_length (show dens ρ (fun _ => none) _ = _ from dens_append (hV.stk hvn _) (dens_append (intRow_dens (sym_den (hV.xv 0 _ (by rw [hxe]; rfl)))) (intRow_dens (sym_den (hV.xv 1 _ (by rw [hxe]; rfl)))))); omega) (by decide) (by decide) _ _ _ hg (RowsOk.var hc (noDup (none_ne cb) hgcb) (dens_append (l := [.sym 0, .sym 1, .sym 2, (.sym 3), .sym 4, .sym 5, (.sym 6)]) (call_dens ha hV.a k3 k6 (sym_den (hV.a 3 _ k3)) (sym_den (hV.a 6 _ k6))) (dens_one (by simp [den, nilS, envAll, setF]))) hlast (by rfl) hcb (RowsOk.var htk (noDup (noDup (none_ne tb) hgtb) hctb) (dens_append (hV.c7 htl _) (dens_one (by simp [den]))) (fun u hu => (List.mem_append.1 hu).elim (ht1 u) fun h => by rw [List.mem_singleton.1 h]; rfl) (by rfl) htb trivial)))
  · refine dens_cons_mk (by simp [den, envAll, setF]) ?_
    exact dens_cons_mk (by simp [den, envAll, setF]) (dens_one (by simp [den, dens]))
  · obtain ⟨v, y, m', F', rfl, ⟨m2, hck⟩, hv, hext, hI, hb, hkeep⟩ := hh
    obtain ⟨hvt, hck⟩ := gdR_some hck
    obtain rfl := eqAV_eq hvt
    simp only [den, Option.some.injEq] at hv
    subst hv
    obtain ⟨hck, hend⟩ := atEnd_some (ρ := ρ) hck
    obtain ⟨tl, htq, _, htank⟩ := chkV_some (ρ := ρ) hck
    obtain ⟨htq, _⟩ := gdR_some htq
    have htq := eqAVs_eq htq
    subst htq
    obtain ⟨s', g', e1, e2, eB, eF, b', k', c', e3, e4⟩ := hend B F' w' cb 8 a (vs ++ iv z) hI (hext 1 _ (by simp [envAll, setF])) (henv F' hext) (dens_append (hV.stk hvn _) (intRow_dens (hrv ρ F' (hV.xv 2 _ (by rw [hxe]; rfl)))))
    have hks : ∀ b, b < w.heap.size → b ≠ cb → b ≠ g → b ≠ tb → w'.heap[b]? = w.heap[b]? := by
      intro b hb0 n0 n1 n2
      by_cases hbB : b < B
      · exact hb.block b hbB
      · refine (hkeep b hb0 fun x hx e => ?_).1
        subst e
        simp only [List.nil_append, List.cons_append, List.mem_cons, List.not_mem_nil, or_false] at hx
        rcases hx with rfl | rfl | rfl
        · exact n1 rfl
        · exact n0 rfl
        · exact n2 rfl
    obtain ⟨tb2, ct2, tvs, hFt, hdt, hvt2⟩ := htank B F' w' hI
    rw [hext 2 (tb, 8, 0) (by simp [envAll, setF])] at hFt
    obtain ⟨rfl, rfl⟩ := Prod.mk.inj (Option.some.inj hFt)
    rw [dens_append (hV.c7 htl _) (dens_one (show den ρ F' (.nat 0) = some (.int .i64 0) by simp [den]))] at hdt
    obtain rfl := Option.some.inj hdt
    refine ⟨rfl, s', g', e1, e2, eB, ?_, hvt2 rfl, hb, hks⟩
    rcases finish (ρ := ρ) hkeep e3 e4 with ⟨x, hx, rfl⟩ | h
    · simp only [List.nil_append, List.cons_append, List.mem_cons, List.not_mem_nil, or_false] at hx
      rcases hx with rfl | rfl | rfl
      · exact .inl rfl
      · exact absurd rfl (RowW.ne e2 e1 (by decide))
      · exact absurd rfl (RowW.ne e2 (hvt2 rfl) (by decide))
    · exact .inr h

end Go.Proofs.YtplnnlnkcfappaaGreat.Sv
