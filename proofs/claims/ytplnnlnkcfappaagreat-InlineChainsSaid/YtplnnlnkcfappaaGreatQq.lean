/- The second evaluator tells the truth, part 9: two stores, either of which may come first. -/
import Derived.Test.YtplnnlnkcfappaaGreatQj
namespace Go.Proofs.YtplnnlnkcfappaaGreat.E3
open Go Go.RowKit
set_option linter.unusedSimpArgs false
set_option linter.unusedVariables false

variable {ρ : Syms} {P : Program} {oc : Orc} {S n : Nat} {ops : Array Oper} {Q : Exit → Act → World → Prop}

theorem force_eq {v : AV} (h : v ≠ .bad) (k : AV → R) : force v k = k v := by
  cases v <;> first | rfl | exact absurd rfl h
theorem gdR_eq {b : Bool} (h : b = true) (k : R) : gdR b k = k := by subst h; rfl

/-- what is put does not depend on what follows -/
theorem putAll_shape (l : List AV) (i : Nat) (c : Cells) (k : Cells → R) (y : Out) (h : putAll l i c k = some y) : ∃ c' : Cells, k c' = some y ∧ ∀ k' : Cells → R, putAll l i c k' = k' c' :=
  ⟨_, (putAll_puts h).2⟩

theorem write_shape {H : B5} {nx wr b off : Nat} {l : List AV} {k : Mem → R} {y : Out} (h : Mem.write ⟨H, nx, wr⟩ b off l k = some y) :
    ∃ B B', (⟨H, nx, wr⟩ : Mem).at b = some B ∧ b < 32768 ∧ k ⟨H.put b (some B'), nx, wr⟩ = some y ∧
      ∀ (H0 : B5) (k' : Mem → R), (⟨H0, nx, wr⟩ : Mem).at b = some B → Mem.write ⟨H0, nx, wr⟩ b off l k' = k' ⟨H0.put b (some B'), nx, wr⟩ := by
  unfold Mem.write at h
  rw [memR_eq] at h
  obtain ⟨h1, h⟩ := gdR_some h
  obtain ⟨e, z, q, c, hk, hz, h⟩ := blkR_some h
  obtain ⟨h2, h⟩ := gdR_some h
  obtain ⟨c', h, hp⟩ := putAll_shape _ _ _ _ _ h
  obtain ⟨hb, h⟩ := heapPut_some h
  refine ⟨_, ⟨e, z, q, c'⟩, hk, hb, h, fun H0 k' h0 => ?_⟩
  unfold Mem.write
  rw [memR_eq, gdR_eq h1, h0]
  show teR (Nat.beq z mapZ) none (gdR _ (putAll l off c _)) = _
  rw [teR_eq, if_neg (fun hb => hz (Nat.eq_of_beq_eq_true hb))]
  rw [gdR_eq h2, hp]
  unfold heapPut
  have hbl : Nat.blt b 32768 = true := Nat.ble_eq_true_of_le hb
  rw [gdR_eq hbl, B5.putK_spec]

theorem write1_shape {H : B5} {nx wr b off : Nat} {x : AV} {k : Mem → R} {y : Out} (h : Mem.write1 ⟨H, nx, wr⟩ b off x k = some y) :
    ∃ B B', (⟨H, nx, wr⟩ : Mem).at b = some B ∧ b < 32768 ∧ k ⟨H.put b (some B'), nx, wr⟩ = some y ∧
      ∀ (H0 : B5) (k' : Mem → R), (⟨H0, nx, wr⟩ : Mem).at b = some B → Mem.write1 ⟨H0, nx, wr⟩ b off x k' = k' ⟨H0.put b (some B'), nx, wr⟩ := by
  unfold Mem.write1 at h
  rw [memR_eq] at h
  obtain ⟨h1, h⟩ := gdR_some h
  obtain ⟨e, z, q, c, hk, hz, h⟩ := blkR_some h
  obtain ⟨h2, h⟩ := gdR_some h
  obtain ⟨h3, h⟩ := gdR_some h
  rw [Cells.putK_spec] at h
  obtain ⟨hb, h⟩ := heapPut_some h
  refine ⟨_, ⟨e, z, q, c.put off x⟩, hk, hb, h, fun H0 k' h0 => ?_⟩
  unfold Mem.write1
  rw [memR_eq, gdR_eq h1, h0]
  show teR (Nat.beq z mapZ) none (gdR _ (gdR _ (c.putK off x _))) = _
  rw [teR_eq, if_neg (fun hb => hz (Nat.eq_of_beq_eq_true hb))]
  rw [gdR_eq h2, gdR_eq h3, Cells.putK_spec]
  unfold heapPut
  have hbl : Nat.blt b 32768 = true := Nat.ble_eq_true_of_le hb
  rw [gdR_eq hbl, B5.putK_spec]

theorem isStore0_eq {o : Oper} (h : isStore0 o = true) : (∃ t p q, o.op = .store t p q) ∧ o.guard = none ∧ o.dst = none := by
  unfold isStore0 at h
  split at h
  · rename_i t p q ho
    split at h
    · rename_i hg
      split at h
      · rename_i hd
        exact ⟨⟨t, p, q, ho⟩, hg, hd⟩
      · cases h
    · cases h
  · cases h

/-- what a store does to the memory, wherever that block stands so -/
theorem store_shape {o : Oper} (ho : isStore0 o = true) {kc : KO} {ih : Rec} {sg : List Nat} {fr : Fr} {es : Es} {H : B5} {nx wr : Nat} {y : Out} (h : (cOp P oc S sg n ops o kc).run ih fr es ⟨H, nx, wr⟩ = some y) :
    ∃ b off B B', (addrB S sg o.op).at fr es = .ptr b off ∧ (⟨H, nx, wr⟩ : Mem).at b = some B ∧ b < 32768 ∧ kc.run ih fr es ⟨H.put b (some B'), nx, wr⟩ = some y ∧
      ∀ (H0 : B5) (k' : KO), (⟨H0, nx, wr⟩ : Mem).at b = some B → (cOp P oc S sg n ops o k').run ih fr es ⟨H0, nx, wr⟩ = k'.run ih fr es ⟨H0.put b (some B'), nx, wr⟩ := by
  obtain ⟨⟨t, p, q, hop⟩, hg, hd⟩ := isStore0_eq ho
  have hshape : ∀ (k' : KO) (m' : Mem), (cOp P oc S sg n ops o k').run ih fr es m' =
      (orFail (ob (sizeT P t) fun s => te (te (Nat.beq s 1) (flatT P t) false) (some (.k (opStore1 (getB S sg p) (getB S sg q) (.p fun fr es _ k => k fr es) k')))
        (some (.k (opStoreN s (getB S sg p) (getB S sg q) (.p fun fr es _ k => k fr es) k'))))).run ih fr es m' := by
    intro k' m'
    unfold cOp
    rw [hd, hg]
    show (cOp1 P oc S sg o.op _ k').run ih fr es m' = _
    unfold cOp1
    rw [hop]
    rfl
  rw [hshape] at h
  cases hs : sizeT P t with
  | none => rw [hs] at h; exact no h
  | some s =>
    simp only [hs] at hshape h
    have haddr : addrB S sg o.op = getB S sg p := by rw [hop]; rfl
    rw [haddr]
    cases hf : te (Nat.beq s 1) (flatT P t) false with
    | true =>
      have hsh : ∀ (k' : KO) (m' : Mem), (cOp P oc S sg n ops o k').run ih fr es m' = opStore1 (getB S sg p) (getB S sg q) (.p fun fr es _ k => k fr es) k' ih fr es m' := by
        intro k' m'
        rw [hshape]
        show (orFail (te (te (Nat.beq s 1) (flatT P t) false) _ _)).run ih fr es m' = _
        rw [hf]
        rfl
      have h : opStore1 (getB S sg p) (getB S sg q) (.p fun fr es _ k => k fr es) kc ih fr es ⟨H, nx, wr⟩ = some y := by rw [← hsh, hshape]; exact h
      obtain ⟨b, off, hb, h⟩ := ptrR_some h
      obtain ⟨hq, h⟩ := force_some h
      obtain ⟨B, B', h1, h2, h3, h4⟩ := write1_shape h
      refine ⟨b, off, B, B', hb, h1, h2, h3, fun H0 k' h0 => ?_⟩
      rw [hsh]
      unfold opStore1
      rw [hb]
      show force _ _ = _
      rw [force_eq hq, h4 H0 _ h0]
      rfl
    | false =>
      have hsh : ∀ (k' : KO) (m' : Mem), (cOp P oc S sg n ops o k').run ih fr es m' = opStoreN s (getB S sg p) (getB S sg q) (.p fun fr es _ k => k fr es) k' ih fr es m' := by
        intro k' m'
        rw [hshape]
        show (orFail (te (te (Nat.beq s 1) (flatT P t) false) _ _)).run ih fr es m' = _
        rw [hf]
        rfl
      have h : opStoreN s (getB S sg p) (getB S sg q) (.p fun fr es _ k => k fr es) kc ih fr es ⟨H, nx, wr⟩ = some y := by rw [← hsh, hshape]; exact h
      obtain ⟨b, off, hb, h⟩ := ptrR_some h
      obtain ⟨hq, h⟩ := gdR_some h
      obtain ⟨B, B', h1, h2, h3, h4⟩ := write_shape h
      refine ⟨b, off, B, B', hb, h1, h2, h3, fun H0 k' h0 => ?_⟩
      rw [hsh]
      unfold opStoreN
      rw [hb]
      show gdR _ _ = _
      rw [gdR_eq hq, h4 H0 _ h0]
      rfl

theorem Fares.same {base : Nat} {F F' : Env} {m m' m2 : Mem} {w w' : World} (h : Fares base F m w F' m' w') (hat : ∀ b, m2.at b = m'.at b) : Fares base F m w F' m2 w' :=
  ⟨h.below, fun g hg ha => ⟨fun b k x hk hx => (h.kept g hg ha).1 b k x (by rw [← hat]; exact hk) hx, (h.kept g hg ha).2⟩⟩

theorem Inv.same {base : Nat} {F : Env} {m m' : Mem} {w : World} (h : Inv ρ base F m w) (hat : ∀ b, m'.at b = m.at b) (hn : m'.nx = m.nx) (hw : m'.wr = m.wr) : Inv ρ base F m' w where
  live b k hk := by rw [hw]; exact h.live b k (by rw [← hat]; exact hk)
  apart b b' k k' x x' h1 h2 h3 h4 := h.apart b b' k k' x x' (by rw [← hat]; exact h1) (by rw [← hat]; exact h2) (by rw [← hw]; exact h3) (by rw [← hw]; exact h4)
  fresh b hb := h.fresh b (by rw [← hn]; exact hb)
  size := h.size
  wrnx := by rw [hw, hn]; exact h.wrnx

end Go.Proofs.YtplnnlnkcfappaaGreat.E3
