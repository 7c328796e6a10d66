/- The machine with a stack: a call is opened without operands. -/
import Derived.Test.YtplnnlnkcfappaaGreatTi
namespace Go.Proofs.YtplnnlnkcfappaaGreat.Sv
open Go.RowKit E3
set_option linter.unusedSimpArgs false
set_option linter.unusedVariables false

def nilv : List Value := [.int .i64 0, .int .i64 0, .complex .f64 0 0, .string ⟨#[]⟩, .slice none 0 0]
noncomputable def nilRow : List AV := [.nat 0, .nat 0, cx0, .str 0 0, .raw (.slice none 0 0)]
theorem nilRow_dens {ρ : Syms} {F : Env} : dens ρ F nilRow = some nilv := by
  simp [nilRow, nilv, dens, den, cx0, strOf, bytesOf]
noncomputable def eOpen (L : Nat) (cells : List AV) (ros : List (TypeId × Nat × List AV)) (arg : AV) : R := layRO ros mem0 fun m => layAll [] m fun m => callR (rec Tryz.prog noOrc sk kn 200 41 [.agg [.sym 0, .sym 1, .nat L, .sym 3, .sym 4], arg] m) fun v m =>
  ptrR v fun b off => gdR (Nat.beq off 0) (chkN m b 129 8 fun row => match row with
    | [a0, a1, a2, a3, a4, a5, l, s] => gdR (eqAVs [a0, a1, a2, a3, a4, a5, s] [.sym 0, .sym 1, .nat L, .sym 3, .sym 4, .nat 0, nilS]) (slR l fun b' _ _ _ => gdR (Nat.ble m.wr b') (chkT m l 54 L 5 cells (yes m)))
    | _ => none)
theorem open0_true : isTrue (eOpen 0 [] [] nilS) = true := by kernel_rfl
theorem open2_true : isTrue (eOpen 2 (nilRow ++ nilRow) [] nilS) = true := by kernel_rfl
theorem open1_true : isTrue (eOpen 1 (symRow 32 5) [(54, 5, symRow 32 5)] (.sl 0 0 1 5)) = true := by kernel_rfl

/-- what an opened call is -/
def Opened (w w' : World) (nm pr nl sc sk' : Value) (L : Nat) (vals : List Value) (e : Ending) : Prop :=
  ∃ cb gl lsl, e = .returned (.pointer (some ⟨cb, 0, none⟩)) ∧ VarW w' cb 129 [nm, pr, nl, sc, sk', .int .i64 0, lsl, .slice none 0 0] ∧ RowW w' lsl 54 5 L vals gl ∧ w.heap.size ≤ cb ∧ w.heap.size ≤ gl ∧ Below w.heap.size w w'

theorem open_of {ρ : Syms} {L : Nat} {cells : List AV} {ros : List (TypeId × Nat × List AV)} {arg : AV} {xr : List (Nat × Nat × Nat)} {w : World} {nm pr sc sk' av : Value} {vals : List Value}
    (he : isTrue (eOpen L cells ros arg) = true) (hro : RosOk ρ w w.heap.size (fun _ => none) 0 ros xr) (hV : ∀ F, dens ρ F [.sym 0, .sym 1, .nat L, .sym 3, .sym 4] = some [nm, pr, .int .i64 (.ofNat L), sc, sk']) (hcells : ∀ F, dens ρ F cells = some vals)
    (harg : den ρ (envAll (fun _ => none) 0 xr) arg = some av) :
    Calls Tryz.prog 41 #[.agg #[nm, pr, .int .i64 (.ofNat L), sc, sk'], av] w fun e w' => Opened w w' nm pr (.int .i64 (.ofNat L)) sc sk' L vals e := by
  have he2 : isTrue (layRO ros mem0 fun m => layAll [] m fun m => callR (rec Tryz.prog noOrc sk kn 200 41 [.agg [.sym 0, .sym 1, .nat L, .sym 3, .sym 4], arg] m) fun v m =>
    ptrR v fun b off => gdR (Nat.beq off 0) (chkN m b 129 8 fun row => match row with
      | [a0, a1, a2, a3, a4, a5, l, s] => gdR (eqAVs [a0, a1, a2, a3, a4, a5, s] [.sym 0, .sym 1, .nat L, .sym 3, .sym 4, .nat 0, nilS]) (slR l fun b' _ _ _ => gdR (Nat.ble m.wr b') (chkT m l 54 L 5 cells (yes m)))
      | _ => none)) = true := he
  refine (run_rows (ρ := ρ) mix (plainly_of plain_names) (noOrc_ok _) lex (kn_ok _) (kit Tryz.func41 (by kernel_rfl)) (xr := xr) (xs := []) (vs := [.agg #[nm, pr, .int .i64 (.ofNat L), sc, sk'], av]) (Nat.le_refl _) he2 hro trivial ?_).mono fun e w' hh => ?_
  · exact dens_cons_mk (by simp [den, hV]) (dens_one harg)
  · obtain ⟨v, y, m', F', rfl, ⟨m2, hck⟩, hv, hext, hI, hb, hkeep⟩ := hh
    obtain ⟨b, off, rfl, hck⟩ := ptrR_some hck
    obtain ⟨ho, hck⟩ := gdR_some hck
    obtain rfl : off = 0 := Nat.eq_of_beq_eq_true ho
    obtain ⟨row, hck, _, hvar⟩ := chkN_some (ρ := ρ) hck
    split at hck
    · rename_i a0 a1 a2 a3 a4 a5 l s
      obtain ⟨h5, q1⟩ := gdR_some hck
      clear hck
      obtain ⟨b1, o1, n1, z1, rfl, q2⟩ := slR_some q1
      clear q1
      obtain ⟨h6, q3⟩ := gdR_some q2
      clear q2
      obtain ⟨_, b', hb', ht⟩ := chkT_some (ρ := ρ) q3
      obtain ⟨rfl, rfl, rfl, rfl⟩ : b1 = b' ∧ o1 = 0 ∧ n1 = L ∧ z1 = 5 := by injection hb' with e1 e2 e3 e4; exact ⟨e1, e2, e3, e4⟩
      have h5' := eqAVs_eq h5
      simp only [List.cons.injEq, and_true] at h5'
      obtain ⟨rfl, rfl, rfl, rfl, rfl, rfl, rfl⟩ := h5'
      obtain ⟨cb, q, us, hF, hB, hus, hVar⟩ := hvar w.heap.size F' w' hI
      have hpv : v = .pointer (some ⟨cb, 0, none⟩) := by
        simp [den, hF] at hv
        exact hv.symm
      have hat : ∃ k', m'.at b1 = some k' := by
        obtain ⟨b2, off, len, z, hb1, k1⟩ := slR_some q3
        obtain ⟨_, k2⟩ := gdR_some k1
        obtain ⟨_, k3⟩ := gdR_some k2
        obtain ⟨_, k4⟩ := gdR_some k3
        obtain ⟨_, k5⟩ := gdR_some k4
        obtain ⟨e', z', q', cc, hk, _⟩ := blkR_some k5
        injection hb1 with hb1
        subst hb1
        exact ⟨_, hk⟩
      obtain ⟨k', hk'⟩ := hat
      obtain ⟨g0, c0, hF0, hbase, _⟩ := hI.live b1 k' hk'
      have hsl : den ρ F' (.sl b1 0 n1 5) = some (.slice (some ⟨g0, c0.2 + slOff 0 n1 c0.1, none⟩) n1 ((c0.1 - 0) / 5)) := by simp [den, hF0]
      obtain ⟨g, c2, hF2, hrow⟩ := ht w.heap.size F' w' _ _ hI (hcells F') hsl
      rw [hF0] at hF2
      obtain ⟨rfl, rfl⟩ := Prod.mk.inj (Option.some.inj hF2)
      have hd5 : dens ρ F' ([.sym 0, .sym 1, .nat n1, .sym 3, .sym 4] ++ [.nat 0, .sl b1 0 n1 5, nilS]) = some ([nm, pr, .int .i64 (.ofNat n1), sc, sk'] ++ [.int .i64 0, .slice (some ⟨g0, c0.2 + slOff 0 n1 c0.1, none⟩) n1 ((c0.1 - 0) / 5), .slice none 0 0]) :=
        dens_append (hV F') (dens_cons_mk (by simp [den]) (dens_cons_mk hsl (dens_one (by simp [den, nilS]))))
      rw [show ([.sym 0, .sym 1, .nat n1, .sym 3, .sym 4, .nat 0, .sl b1 0 n1 5, nilS] : List AV) = [.sym 0, .sym 1, .nat n1, .sym 3, .sym 4] ++ [.nat 0, .sl b1 0 n1 5, nilS] from rfl, hd5] at hus
      obtain rfl := Option.some.inj hus
      exact ⟨cb, g0, _, by rw [hpv], hVar, hrow, hB, hbase (Nat.le_of_ble_eq_true h6), hb⟩
    · cases hck

/-- no operands: no local or two -/
theorem open_nil {w : World} {nm pr sc sk' : Value} {L : Nat} (hL : L = 0 ∨ L = 2) (h0 : nm.oneCell' = true) (h1 : pr.oneCell' = true) (h3 : sc.oneCell' = true) (h4 : sk'.oneCell' = true) :
    Calls Tryz.prog 41 #[.agg #[nm, pr, .int .i64 (.ofNat L), sc, sk'], .slice none 0 0] w fun e w' => Opened w w' nm pr (.int .i64 (.ofNat L)) sc sk' L (if L = 0 then [] else nilv ++ nilv) e := by
  have hV : ∀ F, dens (symsV [nm, pr, .int .i64 0, sc, sk']) F [.sym 0, .sym 1, .nat L, .sym 3, .sym 4] = some [nm, pr, .int .i64 (.ofNat L), sc, sk'] := fun F =>
    dens_cons_mk (symsV_den rfl h0 F) (dens_cons_mk (symsV_den rfl h1 F) (dens_cons_mk (by simp [den]) (dens_cons_mk (symsV_den rfl h3 F) (dens_one (symsV_den rfl h4 F)))))
  rcases hL with rfl | rfl
  · exact open_of (xr := []) open0_true trivial hV (fun F => dens_nil F) (by simp [den, nilS])
  · exact open_of (xr := []) open2_true trivial hV (fun F => dens_append nilRow_dens nilRow_dens) (by simp [den, nilS])
/-- one operand -/
theorem open_row {w : World} {nm pr sc sk' av : Value} {xs : List Value} {g : Nat} (h0 : nm.oneCell' = true) (h1 : pr.oneCell' = true) (h3 : sc.oneCell' = true) (h4 : sk'.oneCell' = true) (hr : RowW w av 54 5 1 xs g) (hx : xs.length = 5) (hx1 : Ones xs) :
    Calls Tryz.prog 41 #[.agg #[nm, pr, .int .i64 (.ofNat 1), sc, sk'], av] w fun e w' => Opened w w' nm pr (.int .i64 (.ofNat 1)) sc sk' 1 xs e := by
  have ha1 : Ones [nm, pr, .int .i64 0, sc, sk'] := by
    intro u hu
    simp only [List.mem_cons, List.not_mem_nil, or_false] at hu
    rcases hu with rfl | rfl | rfl | rfl | rfl
    · exact h0
    · exact h1
    · rfl
    · exact h3
    · exact h4
  have hv := vs_mk (a := [nm, pr, .int .i64 0, sc, sk']) (x := []) (vs := []) (cs := xs) (ls := []) (by simp) (by simp) (by simp) (by omega) ha1 ones_nil ones_nil hx1 ones_nil
  generalize symsV (V [nm, pr, .int .i64 0, sc, sk'] [] [] xs []) = ρ at hv
  have hV : ∀ F, dens ρ F [.sym 0, .sym 1, .nat 1, .sym 3, .sym 4] = some [nm, pr, .int .i64 (.ofNat 1), sc, sk'] := fun F =>
    dens_cons_mk (sym_den (hv.a 0 _ rfl)) (dens_cons_mk (sym_den (hv.a 1 _ rfl)) (dens_cons_mk (by simp [den]) (dens_cons_mk (sym_den (hv.a 3 _ rfl)) (dens_one (sym_den (hv.a 4 _ rfl))))))
  have hcells : ∀ F, dens ρ F (symRow 32 5) = some xs := fun F => hv.row (n := 1) hx F
  have hlt := E3.RowW.lt hr
  obtain ⟨o, cap, rfl, hro⟩ := RowW.ro hr (ρ := ρ)
  exact open_of (xr := [(g, cap * 5, o)]) open1_true (hro _ _ _ _ hlt (hcells _) hx1 (by have := dens_length (hcells (fun _ => none)); omega) (by decide) (by decide) _ _ trivial) hV hcells (by simp [den, envAll, setF])

end Go.Proofs.YtplnnlnkcfappaaGreat.Sv
