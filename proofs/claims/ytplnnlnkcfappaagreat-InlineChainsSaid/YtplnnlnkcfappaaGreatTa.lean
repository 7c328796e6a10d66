/- The machine with a stack: a value is pushed, values are popped. -/
import Derived.Test.YtplnnlnkcfappaaGreatZa
import Derived.Test.YtplnnlnkcfappaaGreatQy
import Derived.Test.YtplnnlnkcfappaaGreatQt
namespace Go.Proofs.YtplnnlnkcfappaaGreat.Sv
open Go.RowKit E3
set_option linter.unusedSimpArgs false
set_option linter.unusedVariables false

/-! ### Unknown values, by number: the call's cells from 0 on, a value's from 8 on, the stack's from 16 on, the constants' from 32 on, the locals' from 64 on -/
def pad (n : Nat) (l : List Value) : List Value := l ++ List.replicate (n - l.length) (.int .i64 0)
theorem pad_len {n : Nat} {l : List Value} (h : l.length ≤ n) : (pad n l).length = n := by simp [pad]; omega
theorem pad_get {n : Nat} {l : List Value} {j : Nat} {u : Value} (h : l[j]? = some u) : (pad n l)[j]? = some u := by
  unfold pad
  rw [List.getElem?_append_left (List.getElem?_eq_some_iff.1 h).1]
  exact h
theorem app_at {l r : List Value} {n j : Nat} {u : Value} (h : l.length = n) (hr : r[j]? = some u) : (l ++ r)[n + j]? = some u := by
  rw [List.getElem?_append_right (by omega), show n + j - l.length = j by omega]
  exact hr
theorem app_l {l r : List Value} {j : Nat} {u : Value} (h : l[j]? = some u) : (l ++ r)[j]? = some u := by
  rw [List.getElem?_append_left (List.getElem?_eq_some_iff.1 h).1]
  exact h
def V (a x vs cs ls : List Value) : List Value := pad 8 a ++ (pad 8 x ++ (pad 16 vs ++ (pad 32 cs ++ ls)))
section
variable {a x vs cs ls : List Value} {j : Nat} {u : Value}
theorem V_a (h : a[j]? = some u) : (V a x vs cs ls)[0 + j]? = some u := by
  rw [Nat.zero_add]
  exact app_l (pad_get h)
theorem V_x (ha : a.length ≤ 8) (h : x[j]? = some u) : (V a x vs cs ls)[8 + j]? = some u := app_at (pad_len ha) (app_l (pad_get h))
theorem V_s (ha : a.length ≤ 8) (hx : x.length ≤ 8) (h : vs[j]? = some u) : (V a x vs cs ls)[16 + j]? = some u := by
  rw [show 16 + j = 8 + (8 + j) by omega]
  exact app_at (pad_len ha) (app_at (pad_len hx) (app_l (pad_get h)))
theorem V_c (ha : a.length ≤ 8) (hx : x.length ≤ 8) (hs : vs.length ≤ 16) (h : cs[j]? = some u) : (V a x vs cs ls)[32 + j]? = some u := by
  rw [show 32 + j = 8 + (8 + (16 + j)) by omega]
  exact app_at (pad_len ha) (app_at (pad_len hx) (app_at (pad_len hs) (app_l (pad_get h))))
theorem V_l (ha : a.length ≤ 8) (hx : x.length ≤ 8) (hs : vs.length ≤ 16) (hc : cs.length ≤ 32) (h : ls[j]? = some u) : (V a x vs cs ls)[64 + j]? = some u := by
  rw [show 64 + j = 8 + (8 + (16 + (32 + j))) by omega]
  exact app_at (pad_len ha) (app_at (pad_len hx) (app_at (pad_len hs) (app_at (pad_len hc) h)))
end
/-- all stand in one cell each -/
abbrev Ones (l : List Value) : Prop := ∀ u ∈ l, u.oneCell' = true

/-! ### What is reckoned -/
noncomputable def yes (m : Mem) : R := some (.call (.bool true) m)
noncomputable def nilS : AV := .raw (.slice none 0 0)
/-- the call's cells: the stack, the locals, the constants as they are told -/
noncomputable def callRow (c l s : AV) : List AV := [.sym 0, .sym 1, .sym 2, c, .sym 4, .sym 5, l, s]
/-- none of these blocks, and all of them there -/
noncomputable def apartR (m : Mem) (b : Nat) (forb : List Nat) : Bool := List.rec (motive := fun _ => Bool) true (fun j _ ih => te (Nat.beq b j) false (te (te (Nat.ble m.wr j) (match m.at j with | some _ => true | none => false) false) ih false)) forb
/-- the call at the end: all but the stack is as told, the stack's row has these cells, and is none of those -/
noncomputable def atEnd (m : Mem) (b : Nat) (c l : AV) (forb : List Nat) (n : Nat) (cells : List AV) (k : R) : R :=
  chkV m b 129 8 fun row => match row with
    | [a0, a1, a2, a3, a4, a5, a6, s] => gdR (eqAVs [a0, a1, a2, a3, a4, a5, a6] [.sym 0, .sym 1, .sym 2, c, .sym 4, .sym 5, l]) (slR s fun b' _ _ _ => gdR (Nat.ble m.wr b') (gdR (apartR m b' forb) (chkT m s 54 n 5 cells k)))
    | _ => none
noncomputable def unitR (v : AV) (k : R) : R := tupR v fun l => gdR (Nat.beq (lenAV l) 0) k

/-! ### In the world -/
theorem noDup {F : Env} {k : Nat} {x : Nat × Nat × Nat} {g : Nat} (h : ∀ b y, F b = some y → y.1 ≠ g) (hx : x.1 ≠ g) : ∀ b y, setF F k x b = some y → y.1 ≠ g := by
  intro b y hy
  unfold setF at hy
  split at hy
  · rw [← Option.some.inj hy]; exact hx
  · exact h b y hy
theorem none_ne (g : Nat) : ∀ (b : Nat) (y : Nat × Nat × Nat), (fun _ => none : Env) b = some y → y.1 ≠ g := fun _ _ h => by cases h
theorem ne_type {w : World} {g b : Nat} {e e' : TypeId} {vs : List Value} {cs : Array Value} (h : w.heap[g]? = some (.cells cs e)) (hb : VarW w b e' vs) (he : e ≠ e') : g ≠ b := by
  rintro rfl
  obtain ⟨cs', h1, _⟩ := hb
  rw [h] at h1
  exact he (by have := Option.some.inj h1; injection this)
theorem RowW.ne {w : World} {v : Value} {e e' : TypeId} {sz n : Nat} {vs us : List Value} {g b : Nat} (h : RowW w v e sz n vs g) (hb : VarW w b e' us) (he : e ≠ e') : g ≠ b := by
  obtain ⟨o, cap, cs, _, h1, _⟩ := h
  exact ne_type h1 hb he

theorem kit {f : FuncId} {fn : Func} (h : Tryz.prog.funcs[f]? = some fn) (hb : fn.body.isSome = true) : ∃ fn, Tryz.prog.funcs[f]? = some fn ∧ fn.body.isSome = true := ⟨fn, h, hb⟩

theorem apartR_some {m : Mem} {b : Nat} : ∀ (forb : List Nat), apartR m b forb = true → ∀ j ∈ forb, b ≠ j ∧ m.wr ≤ j ∧ ∃ k, m.at j = some k
  | [], _, j, h => by cases h
  | i :: forb, h, j, hj => by
    have h' : te (Nat.beq b i) false (te (te (Nat.ble m.wr i) (match m.at i with | some _ => true | none => false) false) (apartR m b forb) false) = true := h
    rw [te_eq] at h'
    split at h'
    · cases h'
    · rename_i hne
      obtain ⟨h1, h2⟩ := both h'
      obtain ⟨h0, h1⟩ := both h1
      rcases List.mem_cons.1 hj with rfl | hj
      · refine ⟨fun e => hne (by rw [e]; exact Nat.beq_refl _), Nat.le_of_ble_eq_true h0, ?_⟩
        cases hm : m.at j with
        | some k => exact ⟨k, rfl⟩
        | none => rw [hm] at h1; cases h1
      · exact apartR_some forb h2 j hj

/-- the call's cells at the end -/
theorem atEnd_some {ρ : Syms} {m : Mem} {b n : Nat} {c l : AV} {forb : List Nat} {cells : List AV} {k : R} {y : Out} (h : atEnd m b c l forb n cells k = some y) : k = some y ∧ ∀ (B : Nat) (F : Env) (w : World) (cb q : Nat) (a vs : List Value), Inv ρ B F m w → F b = some (cb, q, 0) →
    dens ρ F [.sym 0, .sym 1, .sym 2, c, .sym 4, .sym 5, l] = some a → dens ρ F cells = some vs → ∃ s g, VarW w cb 129 (a ++ [s]) ∧ RowW w s 54 5 n vs g ∧ B ≤ g ∧ (∀ j ∈ forb, ∀ x, F j = some x → x.1 ≠ g) ∧ ∃ b' k' c', m.at b' = some k' ∧ F b' = some (g, c') := by
  obtain ⟨row, h1, h2, hv⟩ := chkV_some (ρ := ρ) h
  clear h
  split at h1
  · rename_i a0 a1 a2 a3 a4 a5 a6 s
    obtain ⟨h3, h4⟩ := gdR_some h1
    clear h1
    obtain ⟨b1, o1, n1, z1, rfl, h6⟩ := slR_some h4
    clear h4
    obtain ⟨h7, h8⟩ := gdR_some h6
    obtain ⟨h9, h4⟩ := gdR_some h8
    clear h6 h8
    obtain ⟨h5, b', hb', ht⟩ := chkT_some (ρ := ρ) h4
    obtain ⟨rfl, rfl, rfl, rfl⟩ : b1 = b' ∧ o1 = 0 ∧ n1 = n ∧ z1 = 5 := by injection hb' with e1 e2 e3 e4; exact ⟨e1, e2, e3, e4⟩
    have h3' := eqAVs_eq h3
    have hat : ∃ k', m.at b1 = some k' := by
      obtain ⟨b2, off, len, z, hb1, k1⟩ := slR_some h4
      obtain ⟨_, k2⟩ := gdR_some k1
      obtain ⟨_, k3⟩ := gdR_some k2
      obtain ⟨_, k4⟩ := gdR_some k3
      obtain ⟨_, k5⟩ := gdR_some k4
      obtain ⟨e', z', q', cc, hk, _⟩ := blkR_some k5
      injection hb1 with hb1
      subst hb1
      exact ⟨_, hk⟩
    obtain ⟨k', hk'⟩ := hat
    refine ⟨h5, fun B F w cb q a vs hI hF ha hd => ?_⟩
    obtain ⟨g, c', us, hF', hus, hvar⟩ := hv B F w hI
    rw [hF] at hF'
    obtain ⟨rfl, rfl⟩ := Prod.mk.inj (Option.some.inj hF')
    rw [show [a0, a1, a2, a3, a4, a5, a6, AV.sl b1 0 n1 5] = [a0, a1, a2, a3, a4, a5, a6] ++ [AV.sl b1 0 n1 5] from rfl, h3'] at hus
    obtain ⟨g0, c0, hF0, hbase, _⟩ := hI.live b1 k' hk'
    have hsl : den ρ F (.sl b1 0 n1 5) = some (.slice (some ⟨g0, c0.2 + slOff 0 n1 c0.1, none⟩) n1 ((c0.1 - 0) / 5)) := by simp [den, hF0]
    rw [dens_append ha (dens_one hsl)] at hus
    obtain rfl := Option.some.inj hus
    obtain ⟨g, c2, hF2, hrow⟩ := ht B F w vs _ hI hd hsl
    rw [hF0] at hF2
    obtain ⟨rfl, rfl⟩ := Prod.mk.inj (Option.some.inj hF2)
    have hwr : m.wr ≤ b1 := Nat.le_of_ble_eq_true h7
    refine ⟨_, g0, hvar rfl, hrow, hbase hwr, fun j hj x hx e => ?_, b1, k', c0, hk', hF0⟩
    obtain ⟨hne, hjw, kj, hkj⟩ := apartR_some forb h9 j hj
    exact hne (hI.apart b1 j k' kj (g0, c0) x hk' hkj hwr hjw hF0 hx e.symm)
  · cases h1

end Go.Proofs.YtplnnlnkcfappaaGreat.Sv
