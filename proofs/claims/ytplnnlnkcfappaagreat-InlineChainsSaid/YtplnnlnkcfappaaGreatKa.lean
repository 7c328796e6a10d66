/- InlineChains: plain values and plain instructions are copied as they are: known calls. -/
import Derived.Test.YtplnnlnkcfappaaGreatTj
namespace Go.Proofs.YtplnnlnkcfappaaGreat.Sv
open Go.RowKit E3
set_option linter.unusedSimpArgs false
set_option linter.unusedVariables false

noncomputable section
def isNatAV (x : AV) : Bool := match x with | .nat _ => true | _ => false
/-- a number, or nil -/
def plainK (k x z s l : AV) : Bool := te (isNatAV x) (te (eqAVs [k, z, s, l] [.nat 1, cx0, .str 0 0, nilS]) true (eqAVs [k, x, z, s, l] [.nat 0, .nat 0, cx0, .str 0 0, nilS])) false
def isPlain (args : List AV) : Bool := match args with | [.agg [k, x, z, s, l]] => plainK k x z s l | _ => false
/-- an instruction without a list -/
def isIns (args : List AV) : Bool := match args with
  | [.agg [a0, a1, a2, a3, a4, a5, k, x, z, s, l, r]] => te (plainK k x z s l) (te (isNatAV a0) (te (isNatAV a1) (te (isNatAV a2) (te (isNatAV a3) (te (isNatAV a4) (te (isNatAV a5) (eqAV r nilS) false) false) false) false) false) false) false
  | _ => false
def firstAV (args : List AV) : Option AV := match args with | [v] => some v | _ => none
def kn2 : Known := fun f args => te (Nat.beq f 83) (te (isPlain args) (firstAV args) none) (te (Nat.beq f 130) (te (isPlain args) (some (.bool true)) none) (te (Nat.beq f 68) (te (isIns args) (firstAV args) none) (kn f args)))
end

/-! ### What they do -/
theorem okInt_true : te (isVal (.bool true) (rec Tryz.prog (ocL (knZ true)) sk kn 200 130 [ivA] mem0)) (isVal (.bool true) (rec Tryz.prog (ocL (knZ false)) sk kn 200 130 [ivA] mem0)) false = true := by kernel_rfl
theorem okNil_true : isVal (.bool true) (rec Tryz.prog noOrc sk kn 200 130 [vvA] mem0) = true := by kernel_rfl
theorem ok_int (w : World) (z : Int) : Calls Tryz.prog 130 #[ivv z] w fun e w' => e = .returned (.bool true) ∧ Below w.heap.size w w' := by
  obtain ⟨h1, h2⟩ := both okInt_true
  have hk := knZ_ok z
  by_cases h : z = 0
  · rw [decide_eq_true h] at hk
    exact runs_val (ρ := symOne z) mix (plainly_of plain_names) hk lex (kn_ok _) 200 130 [ivA] [ivv z] (dens_one (ivA_den z _)) (.bool true) (.bool true) (by simp [den]) h1 Tryz.func130 (by kernel_rfl) w
  · rw [decide_eq_false h] at hk
    exact runs_val (ρ := symOne z) mix (plainly_of plain_names) hk lex (kn_ok _) 200 130 [ivA] [ivv z] (dens_one (ivA_den z _)) (.bool true) (.bool true) (by simp [den]) h2 Tryz.func130 (by kernel_rfl) w
theorem ok_nil (w : World) : Calls Tryz.prog 130 #[vv] w fun e w' => e = .returned (.bool true) ∧ Below w.heap.size w w' :=
  runs_val (ρ := noSyms) mix (plainly_of plain_names) (noOrc_ok _) lex (kn_ok _) 200 130 [vvA] [vv] (dens_one (vvA_den _)) (.bool true) (.bool true) (by simp [den]) okNil_true Tryz.func130 (by kernel_rfl) w

/-- an instruction's cells: six numbers, a constant, no list -/
noncomputable def insA (c : List AV) : AV := .agg ([.sym 0, .sym 1, .sym 2, .sym 3, .sym 4, .sym 5] ++ (c ++ [nilS]))
def insV6 (a0 a1 a2 a3 a4 a5 : Int) (c : List Value) : Value := .agg (([.int .i64 a0, .int .i64 a1, .int .i64 a2, .int .i64 a3, .int .i64 a4, .int .i64 a5] : List Value) ++ (c ++ ([.slice none 0 0] : List Value))).toArray
def symI (a0 a1 a2 a3 a4 a5 z : Int) : Syms := { val := fun k => .int .i64 (match k with | 0 => a0 | 1 => a1 | 2 => a2 | 3 => a3 | 4 => a4 | 5 => a5 | _ => z), one := fun _ => rfl }
theorem insInt_true : te (isVal (insA (intRow (.sym 8))) (rec Tryz.prog (ocL (knZ true)) sk kn 200 68 [insA (intRow (.sym 8))] mem0)) (isVal (insA (intRow (.sym 8))) (rec Tryz.prog (ocL (knZ false)) sk kn 200 68 [insA (intRow (.sym 8))] mem0)) false = true := by kernel_rfl
theorem insNil_true : isVal (insA [.nat 0, .nat 0, cx0, .str 0 0, nilS]) (rec Tryz.prog noOrc sk kn 200 68 [insA [.nat 0, .nat 0, cx0, .str 0 0, nilS]] mem0) = true := by kernel_rfl

theorem knZ_symI (a0 a1 a2 a3 a4 a5 z : Int) : OrcOk (symI a0 a1 a2 a3 a4 a5 z) Tryz.prog (ocL (knZ (decide (z = 0)))) := by
  refine ocL_ok fun e he => ?_
  simp only [knZ, List.mem_cons, List.not_mem_nil, or_false] at he
  rcases he with rfl | rfl
  · exact Entry.int (fun F => sym_den rfl) (natD_den _ 0) (c := .bool _) (fun F => by simp [den]; rfl) fun w t => by rw [bin_eql]; congr 2
  · exact Entry.int (fun F => sym_den rfl) (natD_den _ 0) (c := .bool _) (fun F => by simp [den]; rfl) fun w t => by
      rw [bin_neq]
      congr 2
      by_cases h : z = 0
      · subst h; rfl
      · simp [h, te, bne]
theorem insA_den {a0 a1 a2 a3 a4 a5 z : Int} {c : List AV} {vs : List Value} (F : Env) (hc : dens (symI a0 a1 a2 a3 a4 a5 z) F c = some vs) : den (symI a0 a1 a2 a3 a4 a5 z) F (insA c) = some (insV6 a0 a1 a2 a3 a4 a5 vs) := by
  have h6 : dens (symI a0 a1 a2 a3 a4 a5 z) F [.sym 0, .sym 1, .sym 2, .sym 3, .sym 4, .sym 5] = some [.int .i64 a0, .int .i64 a1, .int .i64 a2, .int .i64 a3, .int .i64 a4, .int .i64 a5] :=
    dens_cons_mk (sym_den rfl) (dens_cons_mk (sym_den rfl) (dens_cons_mk (sym_den rfl) (dens_cons_mk (sym_den rfl) (dens_cons_mk (sym_den rfl) (dens_one (sym_den rfl))))))
  have := dens_append h6 (dens_append hc (dens_one (show den (symI a0 a1 a2 a3 a4 a5 z) F nilS = some (.slice none 0 0) by simp [den, nilS])))
  simp only [insA, den, this]
  rfl
theorem ins_int (w : World) (a0 a1 a2 a3 a4 a5 z : Int) : Calls Tryz.prog 68 #[insV6 a0 a1 a2 a3 a4 a5 (iv z)] w fun e w' => e = .returned (insV6 a0 a1 a2 a3 a4 a5 (iv z)) ∧ Below w.heap.size w w' := by
  obtain ⟨h1, h2⟩ := both insInt_true
  have hk := knZ_symI a0 a1 a2 a3 a4 a5 z
  have hd := insA_den (a0 := a0) (a1 := a1) (a2 := a2) (a3 := a3) (a4 := a4) (a5 := a5) (z := z) (fun _ => none) (intRow_dens (v := .sym 8) (z := z) (sym_den rfl))
  by_cases h : z = 0
  · rw [decide_eq_true h] at hk
    exact runs_val (ρ := symI a0 a1 a2 a3 a4 a5 z) mix (plainly_of plain_names) hk lex (kn_ok _) 200 68 _ _ (dens_one hd) _ _ hd h1 Tryz.func68 (by kernel_rfl) w
  · rw [decide_eq_false h] at hk
    exact runs_val (ρ := symI a0 a1 a2 a3 a4 a5 z) mix (plainly_of plain_names) hk lex (kn_ok _) 200 68 _ _ (dens_one hd) _ _ hd h2 Tryz.func68 (by kernel_rfl) w
theorem ins_nil (w : World) (a0 a1 a2 a3 a4 a5 : Int) : Calls Tryz.prog 68 #[insV6 a0 a1 a2 a3 a4 a5 nilv] w fun e w' => e = .returned (insV6 a0 a1 a2 a3 a4 a5 nilv) ∧ Below w.heap.size w w' := by
  have hd := insA_den (a0 := a0) (a1 := a1) (a2 := a2) (a3 := a3) (a4 := a4) (a5 := a5) (z := 0) (c := [.nat 0, .nat 0, cx0, .str 0 0, nilS]) (vs := nilv) (fun _ => none) (dens_cons_mk (by simp [den]) (dens_cons_mk (by simp [den]) (dens_cons_mk (by simp [den, cx0]) (dens_cons_mk (by simp [den, strOf, bytesOf]) (dens_one (by simp [den, nilS]))))))
  exact runs_val (ρ := symI a0 a1 a2 a3 a4 a5 0) mix (plainly_of plain_names) (noOrc_ok _) lex (kn_ok _) 200 68 _ _ (dens_one hd) _ _ hd insNil_true Tryz.func68 (by kernel_rfl) w

/-! ### They are known -/
theorem isNat_some {x : AV} (h : isNatAV x = true) : ∃ n, x = .nat n := by
  unfold isNatAV at h
  split at h
  · exact ⟨_, rfl⟩
  · cases h
theorem plainK_some {k x z s l : AV} (h : plainK k x z s l = true) : (∃ n : Nat, ∀ (ρ : Syms) (F : Env), dens ρ F [k, x, z, s, l] = some (iv n)) ∨ (∀ (ρ : Syms) (F : Env), dens ρ F [k, x, z, s, l] = some nilv) := by
  unfold plainK at h
  obtain ⟨h1, h2⟩ := both h
  obtain ⟨n, rfl⟩ := isNat_some h1
  rw [te_eq] at h2
  split at h2
  · rename_i h3
    have h4 := eqAVs_eq h3
    simp only [List.cons.injEq, and_true] at h4
    obtain ⟨rfl, rfl, rfl, rfl⟩ := h4
    exact .inl ⟨n, fun ρ F => intRow_dens (v := .nat n) (natD_den _ n F)⟩
  · have h4 := eqAVs_eq h2
    simp only [List.cons.injEq, and_true] at h4
    obtain ⟨rfl, h5, rfl, rfl, rfl⟩ := h4
    rw [h5]
    exact .inr fun ρ F => nilRow_dens
theorem isPlain_some {args : List AV} (h : isPlain args = true) : ∃ c, args = [.agg c] ∧ ((∃ n : Nat, ∀ (ρ : Syms) (F : Env), dens ρ F c = some (iv n)) ∨ (∀ (ρ : Syms) (F : Env), dens ρ F c = some nilv)) := by
  unfold isPlain at h
  split at h
  · exact ⟨_, rfl, plainK_some h⟩
  · cases h
theorem isIns_some {args : List AV} (h : isIns args = true) : ∃ (a0 a1 a2 a3 a4 a5 : Nat) (c : List AV), args = [.agg (([.nat a0, .nat a1, .nat a2, .nat a3, .nat a4, .nat a5] : List AV) ++ (c ++ [nilS]))] ∧ ((∃ n : Nat, ∀ (ρ : Syms) (F : Env), dens ρ F c = some (iv n)) ∨ (∀ (ρ : Syms) (F : Env), dens ρ F c = some nilv)) := by
  unfold isIns at h
  split at h
  · rename_i a0 a1 a2 a3 a4 a5 k x z s l r
    obtain ⟨hp, h⟩ := both h
    obtain ⟨h0, h⟩ := both h
    obtain ⟨h1, h⟩ := both h
    obtain ⟨h2, h⟩ := both h
    obtain ⟨h3, h⟩ := both h
    obtain ⟨h4, h⟩ := both h
    obtain ⟨h5, hr⟩ := both h
    obtain ⟨n0, rfl⟩ := isNat_some h0
    obtain ⟨n1, rfl⟩ := isNat_some h1
    obtain ⟨n2, rfl⟩ := isNat_some h2
    obtain ⟨n3, rfl⟩ := isNat_some h3
    obtain ⟨n4, rfl⟩ := isNat_some h4
    obtain ⟨n5, rfl⟩ := isNat_some h5
    obtain rfl := eqAV_eq hr
    exact ⟨n0, n1, n2, n3, n4, n5, [k, x, z, s, l], rfl, plainK_some hp⟩
  · cases h
theorem ins_dens {ρ : Syms} {F : Env} {a0 a1 a2 a3 a4 a5 : Nat} {c : List AV} {vs : List Value} (hc : dens ρ F c = some vs) : den ρ F (.agg (([.nat a0, .nat a1, .nat a2, .nat a3, .nat a4, .nat a5] : List AV) ++ (c ++ [nilS]))) = some (insV6 a0 a1 a2 a3 a4 a5 vs) := by
  have h6 : dens ρ F [.nat a0, .nat a1, .nat a2, .nat a3, .nat a4, .nat a5] = some [.int .i64 a0, .int .i64 a1, .int .i64 a2, .int .i64 a3, .int .i64 a4, .int .i64 a5] :=
    dens_cons_mk (natD_den _ _ F) (dens_cons_mk (natD_den _ _ F) (dens_cons_mk (natD_den _ _ F) (dens_cons_mk (natD_den _ _ F) (dens_cons_mk (natD_den _ _ F) (dens_one (natD_den _ _ F))))))
  have := dens_append h6 (dens_append hc (dens_one (show den ρ F nilS = some (.slice none 0 0) by simp [den, nilS])))
  simp only [den, this]
  rfl

theorem known_of {ρ : Syms} {f : FuncId} {fn : Func} (hf : Tryz.prog.funcs[f]? = some fn) (hb : fn.body.isSome = true) {x : AV} {u r : Value} {y : AV} {F : Env} {w : World} {vs : List Value} (hx : den ρ F x = some u) (hy : den ρ F y = some r) (hd : dens ρ F [x] = some vs)
    (hc : Calls Tryz.prog f #[u] w fun e w' => e = .returned r ∧ Below w.heap.size w w') : CallRuns Tryz.prog f vs.toArray w fun u w' => den ρ F y = some u ∧ Below w.heap.size w w' := by
  rw [dens_one hx] at hd
  obtain rfl := Option.some.inj hd
  exact .of_calls (plainly_of plain_names) ⟨fn, hf, hb⟩ (hc.mono fun e w' ⟨h1, h2⟩ => ⟨r, h1, hy, h2⟩)

theorem kn2_ok (ρ : Syms) : KnownOk ρ Tryz.prog kn2 := by
  intro f args v h F w vs hd
  have h' : te (Nat.beq f 83) (te (isPlain args) (firstAV args) none) (te (Nat.beq f 130) (te (isPlain args) (some (.bool true)) none) (te (Nat.beq f 68) (te (isIns args) (firstAV args) none) (kn f args))) = some v := h
  rw [te_eq] at h'
  split at h'
  · rename_i hf
    obtain rfl : f = 83 := Nat.eq_of_beq_eq_true hf
    rw [te_eq] at h'
    split at h'
    · rename_i hp
      obtain ⟨c, rfl, h1⟩ := isPlain_some hp
      obtain rfl : AV.agg c = v := Option.some.inj h'
      rcases h1 with ⟨n, h1⟩ | h1
      · have hx : den ρ F (.agg c) = some (ivv n) := by simp only [den, h1]; rfl
        exact known_of Tryz.func83 (by kernel_rfl) hx hx hd (copy_int w n)
      · have hx : den ρ F (.agg c) = some vv := by simp only [den, h1]; rfl
        exact known_of Tryz.func83 (by kernel_rfl) hx hx hd (copy_calls w)
    · cases h'
  · rw [te_eq] at h'
    split at h'
    · rename_i hf
      obtain rfl : f = 130 := Nat.eq_of_beq_eq_true hf
      rw [te_eq] at h'
      split at h'
      · rename_i hp
        obtain ⟨c, rfl, h1⟩ := isPlain_some hp
        obtain rfl : AV.bool true = v := Option.some.inj h'
        rcases h1 with ⟨n, h1⟩ | h1
        · exact known_of Tryz.func130 (by kernel_rfl) (show den ρ F (.agg c) = some (ivv n) by simp only [den, h1]; rfl) (by simp [den]) hd (ok_int w n)
        · exact known_of Tryz.func130 (by kernel_rfl) (show den ρ F (.agg c) = some vv by simp only [den, h1]; rfl) (by simp [den]) hd (ok_nil w)
      · cases h'
    · rw [te_eq] at h'
      split at h'
      · rename_i hf
        obtain rfl : f = 68 := Nat.eq_of_beq_eq_true hf
        rw [te_eq] at h'
        split at h'
        · rename_i hp
          obtain ⟨a0, a1, a2, a3, a4, a5, c, rfl, h1⟩ := isIns_some hp
          obtain rfl := Option.some.inj h'
          rcases h1 with ⟨n, h1⟩ | h1
          · exact known_of Tryz.func68 (by kernel_rfl) (ins_dens (h1 ρ F)) (ins_dens (h1 ρ F)) hd (ins_int w _ _ _ _ _ _ _)
          · exact known_of Tryz.func68 (by kernel_rfl) (ins_dens (h1 ρ F)) (ins_dens (h1 ρ F)) hd (ins_nil w _ _ _ _ _ _)
        · cases h'
      · exact kn_ok ρ f args v h' F w vs hd

end Go.Proofs.YtplnnlnkcfappaaGreat.Sv
