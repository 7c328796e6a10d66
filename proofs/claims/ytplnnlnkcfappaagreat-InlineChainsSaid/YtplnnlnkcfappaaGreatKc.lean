/- InlineChains: its two stages, and what they say of the world. -/
import Derived.Test.YtplnnlnkcfappaaGreatKb
namespace Go.Proofs.YtplnnlnkcfappaaGreat.Sv
open Go.RowKit E3
set_option linter.unusedSimpArgs false
set_option linter.unusedVariables false
set_option maxRecDepth 100000

variable {ρ : Syms}

noncomputable section
/-- a text's lifted code lies in these rows -/
def stA (s : AV) (nx : Nat) (rs : List SR) (root : AV) : R :=
  callR (rec Tryz.prog noOrc sk kn2 200 14 [s] mem0) fun v m => tupR v fun l => match l with
  | [p, ok] => isB true ok (gdR (eqN 4 p root) (gdR (Nat.ble m.nx nx) (chkSs m rs (some (.call (.bool true) m))))) none
  | _ => none
/-- what a run tells: so many events, this number, no error -/
def chkRun (n : Nat) (v : AV) (m : Mem) : R := tupR v fun l => match l with
  | [t, e] => gdR (eqAV e (.nat 0)) (aggR t fun l => match l with
    | [ev, k, x, z, s, l, er] => gdR (eqAVs [k, x, z, s, l, er] [.nat 1, .nat (Nat.add 4 n), cx0, .str 0 0, nilS, .nat 0]) (slR ev fun _ _ len _ => gdR (Nat.beq len n) (some (.call (.bool true) m)))
    | _ => none)
  | _ => none
/-- those rows' program, laid open so deep: so many calls are left in the first function; it runs -/
def stB (oc : Orc) (nx : Nat) (rs : List SR) (root D : AV) (n want : Nat) : R :=
  layN nx rs fun m => callR (rec Tryz.prog oc sk kn2 200 15 [root, .nat 60, D] m) fun q m => aggR q fun l => match l with
  | [fns, main] => gdR (eqAV main (.nat 0)) (slR fns fun b off len _ => gdR (Nat.beq len (Nat.succ n)) (m.read b off 4 fun f0 => lockM m fun m' =>
      callR (rec Tryz.prog oc sk kn2 200 17 [.agg f0] m') fun c _ => gdR (eqAV c (.nat want)) (callR (rec Tryz.prog oc sk kn2 200 16 [.agg [fns, .nat 0], .nat 99] m') (chkRun n))))
  | _ => none
end

theorem stA_sound {s : AV} {sv : Value} {nx : Nat} {rs : List SR} {root : AV} (h : isTrue (stA s nx rs root) = true) (hs : ∀ F, den ρ F s = some sv) (w : World) :
    Calls Tryz.prog 14 #[sv] w fun e w1 => ∃ p, e = .returned (.tuple #[p, .bool true]) ∧ Below w.heap.size w w1 ∧ Snap ρ w1 nx rs root p := by
  obtain ⟨mf, h⟩ := isTrue_some h
  obtain ⟨v, m, h1, h5⟩ := callR_some h
  clear h
  obtain ⟨l, rfl, h⟩ := tupR_some h5
  clear h5
  split at h
  · rename_i p ok
    rcases isB_some h with ⟨rfl, k1⟩ | ⟨h, _⟩
    · clear h
      obtain ⟨h2, k2⟩ := gdR_some k1
      obtain ⟨h3, hk⟩ := gdR_some k2
      clear k1 k2
      obtain rfl := eqN_eq _ _ _ h2
      rcases rec_ok mix (plainly_of plain_names) (noOrc_ok _) lex (kn2_ok ρ) 200 14 _ mem0 _ _ h1 w.heap.size (fun _ => none) w [sv] (empty_inv w) (dens_cons_mk (hs _) (dens_nil _)) with ⟨_, hc⟩ | ⟨u, hr, _⟩
      case inr =>
        rw [callFunc_run (plainly_of plain_names) (kit Tryz.func14 (by kernel_rfl))] at hr
        cases hr
      refine hc.mono fun e w1 hh => ?_
      obtain ⟨v, rfl, F1, _, hv, hI, hfa⟩ := hh
      obtain ⟨us, hus, rfl⟩ := den_tup hv
      obtain ⟨x0, r0, e0, hu0, rfl⟩ := dens_cons hus
      obtain ⟨x1, r1, e1, hu1, rfl⟩ := dens_cons hu0
      rw [dens_nil] at hu1
      obtain rfl := Option.some.inj hu1
      simp only [den, Option.some.injEq] at e1
      subst e1
      have hS : Snap ρ w1 nx rs p x0 := Snap.of hk (Nat.le_of_ble_eq_true h3) hI e0
      exact ⟨x0, rfl, hfa.below, hS⟩
    · cases h
  · exact no h

theorem chkRun_some {n : Nat} {v : AV} {m : Mem} {y : Out} (h : chkRun n v m = some y) {F : Env} {u : Value} (hu : den ρ F v = some u) :
    ∃ a c, u = .tuple #[.agg #[.slice (some a) n c, .int .i64 1, .int .i64 (.ofNat (4 + n)), .complex .f64 0 0, .string ⟨#[]⟩, .slice none 0 0, .int .i64 0], .int .i64 0] := by
  unfold chkRun at h
  obtain ⟨l, rfl, k1⟩ := tupR_some h
  clear h
  split at k1
  · rename_i t e
    obtain ⟨h1, k2⟩ := gdR_some k1
    clear k1
    obtain rfl := eqAV_eq h1
    obtain ⟨l, rfl, k3⟩ := aggR_some k2
    clear k2
    split at k3
    · rename_i ev k x z s l er
      obtain ⟨h2, k4⟩ := gdR_some k3
      clear k3
      have h2' := eqAVs_eq h2
      simp only [List.cons.injEq, and_true] at h2'
      obtain ⟨rfl, rfl, rfl, rfl, rfl, rfl⟩ := h2'
      obtain ⟨b, off, len, sz, rfl, k5⟩ := slR_some k4
      clear k4
      obtain ⟨h3, _⟩ := gdR_some k5
      obtain rfl : len = n := Nat.eq_of_beq_eq_true h3
      obtain ⟨us, hus, rfl⟩ := den_tup hu
      obtain ⟨x0, r0, e0, hu0, rfl⟩ := dens_cons hus
      obtain ⟨x1, r1, e1, hu1, rfl⟩ := dens_cons hu0
      rw [dens_nil] at hu1
      obtain rfl := Option.some.inj hu1
      simp only [den, Option.some.injEq] at e1
      subst e1
      obtain ⟨ts, hts, rfl⟩ := den_agg e0
      obtain ⟨y0, s0, f0, hy0, rfl⟩ := dens_cons hts
      have hrest : dens ρ F [.nat 1, .nat (Nat.add 4 len), cx0, .str 0 0, nilS, .nat 0] = some [.int .i64 1, .int .i64 (.ofNat (4 + len)), .complex .f64 0 0, .string ⟨#[]⟩, .slice none 0 0, .int .i64 0] :=
        dens_cons_mk (by simp [den]) (dens_cons_mk (by simp [den]) (dens_cons_mk (by simp [den, cx0]) (dens_cons_mk (by simp [den, strOf, bytesOf]) (dens_cons_mk (by simp [den, nilS]) (dens_one (by simp [den]))))))
      rw [hrest] at hy0
      obtain rfl := Option.some.inj hy0
      obtain ⟨g, c, hF, rfl⟩ := den_sl f0
      exact ⟨_, _, rfl⟩
    · exact no k3
  · exact no k1

/-- what comes of laying open: a program of n + 1 functions, so many calls in the first; it runs -/
def LaidOpen (n want : Nat) (w : World) (e : Ending) (w1 : World) : Prop := ∃ (g o cap : Nat) (f0 : List Value), e = .returned (.agg #[.slice (some ⟨g, o, none⟩) (n + 1) cap, .int .i64 0]) ∧ Below w.heap.size w w1 ∧ f0.length = 4 ∧ (∀ j u, f0[j]? = some u → w1.cell? ⟨g, o + j, none⟩ = some u) ∧
  (∀ w2, Below w1.heap.size w1 w2 → Calls Tryz.prog 17 #[.agg f0.toArray] w2 fun e w3 => e = .returned (.int .i64 want) ∧ Below w2.heap.size w2 w3) ∧
  (∀ w2, Below w1.heap.size w1 w2 → Calls Tryz.prog 16 #[.agg #[.slice (some ⟨g, o, none⟩) (n + 1) cap, .int .i64 0], .int .i64 99] w2 fun e w3 =>
    (∃ a c, e = .returned (.tuple #[.agg #[.slice (some a) n c, .int .i64 1, .int .i64 (.ofNat (4 + n)), .complex .f64 0 0, .string ⟨#[]⟩, .slice none 0 0, .int .i64 0], .int .i64 0])) ∧ Below w2.heap.size w2 w3)

theorem stB_sound {oc : Orc} (hoc : OrcOk ρ Tryz.prog oc) {nx : Nat} {rs : List SR} {root D : AV} {n want : Nat} (h : isTrue (stB oc nx rs root D n want) = true) {dv : Value} (hD : ∀ F, den ρ F D = some dv) {w : World} {p : Value} (hs : Snap ρ w nx rs root p) :
    Calls Tryz.prog 15 #[p, .int .i64 60, dv] w (LaidOpen n want w) := by
  obtain ⟨mf, h⟩ := isTrue_some h
  obtain ⟨F, m0, h, hI, hp⟩ := hs.lay h
  obtain ⟨q, m, h1, h5⟩ := callR_some h
  clear h
  obtain ⟨l, rfl, h⟩ := aggR_some h5
  clear h5
  split at h
  · rename_i fns main
    obtain ⟨hm0, k0⟩ := gdR_some h
    clear h
    obtain rfl := eqAV_eq hm0
    obtain ⟨b, off, len, sz, rfl, k1⟩ := slR_some k0
    clear k0
    obtain ⟨h2, k2⟩ := gdR_some k1
    obtain rfl : len = n + 1 := Nat.eq_of_beq_eq_true h2
    obtain ⟨f0, k3, hf0, hread⟩ := read_some (ρ := ρ) k2
    clear k1 k2
    cases m with | mk H nx' wr =>
    obtain ⟨c, m2, h3, k4⟩ := callR_some (show callR (rec Tryz.prog oc sk kn2 200 17 [.agg f0] ⟨H, nx', nx'⟩) (fun c _ => gdR (eqAV c (.nat want)) (callR (rec Tryz.prog oc sk kn2 200 16 [.agg [.sl b off (n + 1) sz, .nat 0], .nat 99] ⟨H, nx', nx'⟩) (chkRun n))) = some _ from k3)
    clear k3
    obtain ⟨h4, k5⟩ := gdR_some k4
    obtain rfl := eqAV_eq h4
    obtain ⟨v, m3, h5, h6⟩ := callR_some k5
    clear k4 k5
    have h60 : dens ρ F [root, .nat 60, D] = some [p, .int .i64 60, dv] := dens_cons_mk hp (dens_cons_mk (by simp [den]) (dens_cons_mk (hD F) (dens_nil _)))
    rcases rec_ok mix (plainly_of plain_names) hoc lex (kn2_ok ρ) 200 15 _ m0 _ _ h1 w.heap.size F w _ hI h60 with ⟨_, hc⟩ | ⟨u, hr, _⟩
    case inr =>
      rw [callFunc_run (plainly_of plain_names) (kit Tryz.func15 (by kernel_rfl))] at hr
      cases hr
    refine hc.mono fun e w1 hh => ?_
    obtain ⟨v1, rfl, F1, _, hv, hI1, hfa⟩ := hh
    obtain ⟨us, hus, rfl⟩ := den_agg hv
    obtain ⟨x0, r0, e0, hu0, rfl⟩ := dens_cons hus
    obtain ⟨x1, r1, e1, hu1, rfl⟩ := dens_cons hu0
    rw [dens_nil] at hu1
    obtain rfl := Option.some.inj hu1
    simp only [den, Option.some.injEq] at e1
    subst e1
    obtain ⟨g, c, vs, hF, hvs, _, hcell⟩ := hread _ F1 w1 hI1
    obtain ⟨g', c', hF', hx0⟩ := den_sl e0
    rw [hF] at hF'
    obtain ⟨rfl, rfl⟩ := Prod.mk.inj (Option.some.inj hF')
    rw [slOff_pos (by omega)] at hx0
    subst hx0
    refine ⟨g, c.2 + off, _, vs, rfl, hfa.below, (dens_length hvs).trans hf0, fun j u hj => ?_, fun w2 hb => ?_, fun w2 hb => ?_⟩
    · have := hcell j u hj
      rwa [add_eq] at this
    · rcases rec_ok mix (plainly_of plain_names) hoc lex (kn2_ok ρ) 200 17 _ _ _ _ h3 w2.heap.size F1 w2 [.agg vs.toArray] (hI1.below hb).inner (dens_one (by simp only [den, hvs]; rfl)) with ⟨_, hc⟩ | ⟨u, hr, _⟩
      case inr =>
        rw [callFunc_run (plainly_of plain_names) (kit Tryz.func17 (by kernel_rfl))] at hr
        cases hr
      refine hc.mono fun e w3 hh => ?_
      obtain ⟨v, rfl, F2, _, hv, _, hfa2⟩ := hh
      simp only [den, Option.some.injEq] at hv
      subst hv
      exact ⟨rfl, hfa2.below⟩
    · have hd : dens ρ F1 [.agg [.sl b off (n + 1) sz, .nat 0], .nat 99] = some [.agg #[.slice (some ⟨g, c.2 + off, none⟩) (n + 1) ((c.1 - off) / sz), .int .i64 (.ofNat 0)], .int .i64 99] := by
        refine dens_cons_mk ?_ (dens_one (by simp [den]))
        simp only [den, hus]
        rfl
      rcases rec_ok mix (plainly_of plain_names) hoc lex (kn2_ok ρ) 200 16 _ _ _ _ h5 w2.heap.size F1 w2 _ (hI1.below hb).inner hd with ⟨_, hc⟩ | ⟨u, hr, _⟩
      case inr =>
        rw [callFunc_run (plainly_of plain_names) (kit Tryz.func16 (by kernel_rfl))] at hr
        cases hr
      refine hc.mono fun e w3 hh => ?_
      obtain ⟨v, rfl, F2, _, hv, _, hfa2⟩ := hh
      obtain ⟨a, c1, rfl⟩ := chkRun_some h6 hv
      exact ⟨⟨a, c1, rfl⟩, hfa2.below⟩
  · exact no h

end Go.Proofs.YtplnnlnkcfappaaGreat.Sv
