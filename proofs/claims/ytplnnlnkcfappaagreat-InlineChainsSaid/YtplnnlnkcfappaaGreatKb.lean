/- Rows kept between two stages: what stands in them is told of the world; a memory is made of them again. -/
import Derived.Test.YtplnnlnkcfappaaGreatKa
namespace Go.Proofs.YtplnnlnkcfappaaGreat.Sv
open Go.RowKit E3
set_option linter.unusedSimpArgs false
set_option linter.unusedVariables false

variable {ρ : Syms} {P : Program}

/-- a row: its block, its type, its grain, its cells -/
structure SR where
  b : Nat
  e : TypeId
  z : Nat
  l : List AV

noncomputable section
def chkS (m : Mem) (r : SR) (k : R) : R := blkR (m.at r.b) fun e z _ _ => gdR (Nat.beq e r.e) (gdR (Nat.beq z r.z) (gdR (Nat.ble 1 z) (m.read r.b 0 (lenAV r.l) fun l => gdR (eqAVs l r.l) k)))
def chkSs (m : Mem) (rs : List SR) (k : R) : R := List.rec (motive := fun _ => R) k (fun r _ ih => chkS m r ih) rs
def layS (m : Mem) (r : SR) (k : Mem → R) : R := strictR (lenAV r.l) fun q => Cells.fit (.c1 a1u) q fun c => putAll r.l 0 c fun c => memR m fun H nx wr => heapPut H r.b (some ⟨r.e, r.z, q, c⟩) fun H => k ⟨H, nx, wr⟩
def laySs (rs : List SR) : Mem → (Mem → R) → R := List.rec (motive := fun _ => Mem → (Mem → R) → R) (fun m k => k m) (fun r _ ih m k => layS m r fun m => ih m k) rs
def layN (nx : Nat) (rs : List SR) (k : Mem → R) : R := laySs rs ⟨b5u, nx, nx⟩ k
end

/-- a row lies in the world -/
def SRok (ρ : Syms) (F : Env) (w : World) (r : SR) : Prop :=
  r.z ≠ 0 ∧ r.z ≠ mapZ ∧ ∃ g c cs, F r.b = some (g, c) ∧ w.heap[g]? = some (.cells cs r.e) ∧ c.2 + c.1 ≤ cs.size ∧ r.l.length ≤ c.1 ∧ c.1 % r.z = 0 ∧ c.1 / r.z ≤ maxLen ∧
    ∀ i (hi : i < r.l.length), ∃ v, den ρ F r.l[i] = some v ∧ v.oneCell' = true ∧ cs[c.2 + i]? = some v
def Snap (ρ : Syms) (w : World) (nx : Nat) (rs : List SR) (root : AV) (p : Value) : Prop := ∃ F : Env, (∀ b, nx ≤ b → F b = none) ∧ (∀ r ∈ rs, SRok ρ F w r) ∧ den ρ F root = some p

theorem SRok.below {F : Env} {w w' : World} {r : SR} (h : SRok ρ F w r) (hb : Below w.heap.size w w') : SRok ρ F w' r := by
  obtain ⟨h1, h2, g, c, cs, h3, h4, h5⟩ := h
  exact ⟨h1, h2, g, c, cs, h3, (hb.block g (Array.getElem?_eq_some_iff.1 h4).1).trans h4, h5⟩
theorem Snap.below {w w' : World} {nx : Nat} {rs : List SR} {root : AV} {p : Value} (h : Snap ρ w nx rs root p) (hb : Below w.heap.size w w') : Snap ρ w' nx rs root p := by
  obtain ⟨F, h1, h2, h3⟩ := h
  exact ⟨F, h1, fun r hr => (h2 r hr).below hb, h3⟩

theorem chkS_some {m : Mem} {r : SR} {k : R} {y : Out} (h : chkS m r k = some y) : k = some y ∧ ∀ (B : Nat) (F : Env) (w : World), Inv ρ B F m w → SRok ρ F w r := by
  obtain ⟨e', z', q', cc, hk, hkz, k6⟩ := blkR_some h
  obtain ⟨h5, k7⟩ := gdR_some k6
  obtain ⟨h6, k8⟩ := gdR_some k7
  obtain ⟨h7, k9⟩ := gdR_some k8
  obtain rfl : e' = r.e := Nat.eq_of_beq_eq_true h5
  obtain rfl : z' = r.z := Nat.eq_of_beq_eq_true h6
  have hz : 1 ≤ r.z := Nat.le_of_ble_eq_true h7
  obtain ⟨l, h1, h2, hread⟩ := read_some (ρ := ρ) k9
  obtain ⟨h8, h9⟩ := gdR_some h1
  obtain rfl := eqAVs_eq h8
  refine ⟨h9, fun B F w hI => ?_⟩
  obtain ⟨g, c, vs, hF, hvs, hone, hcell⟩ := hread B F w hI
  obtain ⟨g2, c2, hF2, _, _, cs, hh, hcs, hnc, hmod, hmax, _⟩ := hI.row r.b _ hk hkz
  rw [hF] at hF2
  obtain ⟨rfl, rfl⟩ := Prod.mk.inj (Option.some.inj hF2)
  have hlen := dens_length hvs
  obtain ⟨e2, z2, q2, c2, hk2, hkz2, k10⟩ := blkR_some k9
  rw [hk] at hk2
  obtain ⟨rfl, rfl, rfl, rfl⟩ := Blk.mk.inj (Option.some.inj hk2)
  obtain ⟨hle, _⟩ := gdR_some k10
  have hle' : 0 + lenAV r.l ≤ q' := Nat.le_of_ble_eq_true hle
  have hnc' : q' ≤ c.1 := hnc
  rw [lenAV_eq] at hle'
  refine ⟨by omega, hkz, g, c, cs, hF, hh, hcs, by omega, hmod.2 (show r.z ≠ 0 by omega), hmax, fun i hi => ?_⟩
  obtain ⟨v, a1, a2⟩ := dens_get hvs i hi
  refine ⟨v, a1, hone v (List.mem_of_getElem? a2), ?_⟩
  have := hcell i v a2
  rw [add_eq, Nat.add_zero] at this
  simp only [World.cell?, hh] at this
  simpa using this
theorem chkSs_some {m : Mem} {k : R} {y : Out} : ∀ {rs : List SR}, chkSs m rs k = some y → k = some y ∧ ∀ (B : Nat) (F : Env) (w : World), Inv ρ B F m w → ∀ r ∈ rs, SRok ρ F w r
  | [], h => ⟨h, fun _ _ _ _ _ hr => by cases hr⟩
  | r :: rs, h => by
    obtain ⟨h, h1⟩ := chkS_some (ρ := ρ) (show chkS m r (chkSs m rs k) = some y from h)
    obtain ⟨h, h2⟩ := chkSs_some (rs := rs) h
    refine ⟨h, fun B F w hI x hx => ?_⟩
    rcases List.mem_cons.1 hx with rfl | hx
    · exact h1 B F w hI
    · exact h2 B F w hI x hx
/-- what is left of a memory: its rows -/
theorem Snap.of {m : Mem} {k : R} {y : Out} {rs : List SR} (h : chkSs m rs k = some y) {nx : Nat} (hn : m.nx ≤ nx) {B : Nat} {F : Env} {w : World} (hI : Inv ρ B F m w) {root : AV} {p : Value} (hp : den ρ F root = some p) : Snap ρ w nx rs root p :=
  ⟨F, fun b hb => hI.fresh b (Nat.le_trans hn hb), (chkSs_some h).2 B F w hI, hp⟩

theorem layS_some {m : Mem} {r : SR} {k : Mem → R} {y : Out} (h : layS m r k = some y) {F : Env} {w : World} (hI : Inv ρ w.heap.size F m w) (hro : m.wr = m.nx) (hr : SRok ρ F w r) :
    ∃ m', k m' = some y ∧ Inv ρ w.heap.size F m' w ∧ m'.wr = m'.nx := by
  unfold layS at h
  rw [strictR_eq] at h
  obtain ⟨c1, h1, _, _, h⟩ := fit_some h
  rw [lenAV_eq] at h1
  obtain ⟨c2, hh, hcap, hone, _, hget, _⟩ := putAll_some _ 0 c1 _ y h (by omega)
  clear h
  cases m with
  | mk H nx wr =>
  rw [memR_eq] at hh
  obtain ⟨hb, hh⟩ := heapPut_some hh
  have hro' : nx = wr := Eq.symm hro
  subst hro'
  obtain ⟨hz0, hz, g, c, cs, hF, hg, hc, hlc, hmod, hmax, hcell⟩ := hr
  have hglt : g < w.heap.size := (Array.getElem?_eq_some_iff.1 hg).1
  have hlt : r.b < nx := by
    rcases Nat.lt_or_ge r.b nx with hq | hq
    · exact hq
    · rw [hI.fresh r.b hq] at hF; cases hF
  refine ⟨_, hh, ⟨?_, ?_, hI.fresh, hI.size, Nat.le_refl _⟩, rfl⟩
  · intro b' k' hk
    by_cases hb' : b' = r.b
    · subst hb'
      rw [at_same hb] at hk
      obtain rfl := Option.some.inj hk
      refine ⟨g, c, hF, fun hle => absurd (show nx ≤ r.b from hle) (Nat.not_le.2 hlt), fun _ => hglt, fun _ => ⟨cs, hg, hc, by rw [lenAV_eq]; exact hlc, ⟨fun h0 => absurd h0 hz0, fun _ => hmod⟩, hmax, by rw [lenAV_eq, hcap]; exact h1, fun i hi => ?_⟩, fun e => absurd e hz⟩
      rw [lenAV_eq] at hi
      have := hget i hi
      rw [Nat.zero_add] at this
      rw [this]
      exact hcell i hi
    · rw [at_other hb hb'] at hk
      exact hI.live b' k' hk
  · intro b b' k1 k2 x x' _ _ hb1 _ hx
    rw [hI.fresh b hb1] at hx
    cases hx
theorem laySs_some {w : World} {F : Env} {y : Out} {k : Mem → R} : ∀ {rs : List SR} {m : Mem}, laySs rs m k = some y → Inv ρ w.heap.size F m w → m.wr = m.nx → (∀ r ∈ rs, SRok ρ F w r) → ∃ m', k m' = some y ∧ Inv ρ w.heap.size F m' w
  | [], m, h, hI, _, _ => ⟨m, h, hI⟩
  | r :: rs, m, h, hI, hro, hr => by
    obtain ⟨m', h, hI, hro⟩ := layS_some (show layS m r (fun m => laySs rs m k) = some y from h) hI hro (hr r (List.mem_cons_self ..))
    exact laySs_some h hI hro (fun x hx => hr x (List.mem_cons_of_mem _ hx))
/-- a memory made of rows that lie in the world -/
theorem Snap.lay {w : World} {nx : Nat} {rs : List SR} {root : AV} {p : Value} (h : Snap ρ w nx rs root p) {k : Mem → R} {y : Out} (hl : layN nx rs k = some y) : ∃ F m, k m = some y ∧ Inv ρ w.heap.size F m w ∧ den ρ F root = some p := by
  obtain ⟨F, h1, h2, h3⟩ := h
  have hat : ∀ b, (⟨b5u, nx, nx⟩ : Mem).at b = none := fun b => at_u b
  have hI : Inv ρ w.heap.size F (⟨b5u, nx, nx⟩ : Mem) w := {
    live := fun b k h => by
      rw [hat b] at h
      cases h
    apart := fun b b' k k' x x' h => by
      rw [hat b] at h
      cases h
    fresh := h1
    size := Nat.le_refl _
    wrnx := Nat.le_refl _ }
  obtain ⟨m, h, hI⟩ := laySs_some (show laySs rs ⟨b5u, nx, nx⟩ k = some y from hl) hI rfl h2
  exact ⟨F, m, h, hI, h3⟩

end Go.Proofs.YtplnnlnkcfappaaGreat.Sv
