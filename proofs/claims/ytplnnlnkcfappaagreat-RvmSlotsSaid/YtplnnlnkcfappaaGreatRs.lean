/- RvmSlots: how the law builds its program, in plain words. -/
import Derived.Test.YtplnnlnkcfappaaGreatRq
namespace Go.Proofs.YtplnnlnkcfappaaGreat.Rs
open Go Go.RowKit
set_option linter.unusedSimpArgs false
set_option linter.unusedVariables false

/-- constants, code, and what it comes to -/
structure Good (cs : List Int) (code : List Ins) (σ : St) : Prop where
  run : ∀ more, exec (cs ++ more) code st0 = σ
  ok : ∀ x ∈ code, insOk cs.length x
  nl : ∀ x ∈ code, x.1 ≠ 16
  pos : 0 < cs.length
  head : cs.getD 0 1 = 0
theorem insOk_mono {k n : Nat} (h : k ≤ n) {x : Ins} (hx : insOk k x) : insOk n x := by
  unfold insOk at *
  rcases hx with h1 | h1 | h1 | h1 | h1
  · exact .inl ⟨h1.1, h1.2.1, h1.2.2.1, h1.2.2.2.1, by have := h1.2.2.2.2; omega⟩
  · exact .inr (.inl h1)
  · exact .inr (.inr (.inl h1))
  · exact .inr (.inr (.inr (.inl h1)))
  · exact .inr (.inr (.inr (.inr ⟨h1.1, by have := h1.2; omega⟩)))
theorem exec_snoc (L : List Int) (l : List Ins) (x : Ins) (σ : St) : exec L (l ++ [x]) σ = step1 L x (exec L l σ) := by
  unfold exec
  rw [List.foldl_append]
  rfl
theorem Good.start : Good [0] [] st0 := ⟨fun _ => rfl, fun x h => (by cases h), fun x h => (by cases h), by simp, rfl⟩
theorem Good.const {cs : List Int} {code : List Ins} {σ : St} (h : Good cs code σ) (r : Nat) (hr : r < 8) (n : Int) : Good (cs ++ [n]) (code ++ [(1, (r : Int), (cs.length : Int))]) { σ with r := upd σ.r r n } := by
  refine ⟨fun more => ?_, fun x hx => ?_, fun x hx => ?_, by simp, ?_⟩
  · rw [List.append_assoc, exec_snoc, h.run]
    simp [step1]
  · rcases List.mem_append.1 hx with hx | hx
    · exact insOk_mono (by simp) (h.ok x hx)
    · rw [List.mem_singleton.1 hx]
      exact .inl ⟨rfl, by show (0 : Int) ≤ (r : Int); omega, by show (r : Int) < 9; omega, by show (0 : Int) ≤ (cs.length : Int); omega, by show ((cs.length : Nat) : Int) < (((cs ++ [n]).length : Nat) : Int); rw [List.length_append, List.length_singleton]; omega⟩
  · rcases List.mem_append.1 hx with hx | hx
    · exact h.nl x hx
    · rw [List.mem_singleton.1 hx]
      show (1 : Int) ≠ 16
      decide
  · have := h.head
    have hp := h.pos
    rw [List.getD_eq_getElem?_getD, List.getElem?_append_left hp, ← List.getD_eq_getElem?_getD]
    exact this
theorem Good.snoc {cs : List Int} {code : List Ins} {σ σ' : St} (h : Good cs code σ) (x : Ins) (hx : insOk cs.length x) (hn : x.1 ≠ 16) (hs : ∀ L, step1 L x σ = σ') : Good cs (code ++ [x]) σ' := by
  refine ⟨fun more => ?_, fun y hy => ?_, fun y hy => ?_, h.pos, h.head⟩
  · rw [exec_snoc, h.run, hs]
  · rcases List.mem_append.1 hy with hy | hy
    · exact h.ok y hy
    · rw [List.mem_singleton.1 hy]; exact hx
  · rcases List.mem_append.1 hy with hy | hy
    · exact h.nl y hy
    · rw [List.mem_singleton.1 hy]; exact hn
theorem Good.store {cs : List Int} {code : List Ins} {σ : St} (h : Good cs code σ) (r s : Nat) (hr : r < 8) (hs : s < 5) : Good cs (code ++ [(14, (r : Int), (s : Int))]) { σ with s := upd σ.s s (σ.r r) } :=
  h.snoc _ (.inr (.inr (.inl ⟨rfl, by show (0 : Int) ≤ (r : Int); omega, by show (r : Int) < 9; omega, by show (0 : Int) ≤ (s : Int); omega, by show (s : Int) < 5; omega⟩))) (by simp) (fun L => by simp [step1])
theorem Good.load {cs : List Int} {code : List Ins} {σ : St} (h : Good cs code σ) (r s : Nat) (hr : r < 8) (hs : s < 5) : Good cs (code ++ [(13, (r : Int), (s : Int))]) { σ with r := upd σ.r r (σ.s s) } :=
  h.snoc _ (.inr (.inl ⟨rfl, by show (0 : Int) ≤ (r : Int); omega, by show (r : Int) < 9; omega, by show (0 : Int) ≤ (s : Int); omega, by show (s : Int) < 5; omega⟩)) (by simp) (fun L => by simp [step1])
theorem Good.out {cs : List Int} {code : List Ins} {σ : St} (h : Good cs code σ) (r : Nat) (hr : r < 8) : Good cs (code ++ [(8, (r : Int), 0)]) { σ with e := σ.e ++ [σ.r r] } :=
  h.snoc _ (.inr (.inr (.inr (.inl ⟨rfl, by show (0 : Int) ≤ (r : Int); omega, by show (r : Int) < 9; omega, rfl⟩)))) (by simp) (fun L => by simp [step1])

/-- a row of words, and of 64-bit numbers -/
def oc (n : Int) : List Value := [.int .i64 n]
theorem oc_len (n : Int) : (oc n).length = 1 := rfl
/-- numbers in an array -/
structure Arr (w : World) (b k : Nat) (σ : Nat → Int) : Prop where
  c : ∀ j, j < k → w.cell? ⟨b, j, none⟩ = some (.int .i64 (σ j))
  f : ∀ j, j < k → w.frozen? ⟨b, j, none⟩ = false
theorem Arr.fx {S : Nat → Prop} {w w' : World} {b k : Nat} {σ : Nat → Int} (h : Arr w b k σ) (hx : Fx S w w') (hb : b < w.heap.size) (hn : ¬ S b) : Arr w' b k σ :=
  ⟨fun j hj => (hx.cell hb hn _).trans (h.c j hj), fun j hj => (hx.frozen hb hn _).trans (h.f j hj)⟩
theorem Arr.set {w : World} {b k : Nat} {σ : Nat → Int} (h : Arr w b k σ) (r : Nat) (hr : r < k) (n : Int) : Arr (w.setCell ⟨b, r, none⟩ (.int .i64 n)) b k (upd σ r n) := by
  refine ⟨fun j hj => ?_, fun j hj => ?_⟩
  · have hc := h.c r hr
    by_cases hjr : j = r
    · subst hjr
      simp [go_sem, hc, upd]
    · have hne : ¬ r = j := fun e => hjr e.symm
      have hc2 := h.c j hj
      simp [go_sem, hc2, upd, hjr, hne]
  · have := h.f j hj
    simp [go_sem, this]

/-- the builder's memory -/
structure Bm (n0 fb ab sk : Nat) (K V W : Value) (cs : List Int) (code : List Ins) (σ : St) (w : World) : Prop where
  ord : n0 < fb ∧ fb < ab ∧ ab < sk ∧ sk < w.heap.size
  c0 : w.cell? ⟨fb, 0, none⟩ = some (.string ⟨#[]⟩)
  c1 : w.cell? ⟨fb, 1, none⟩ = some (.int .i64 0)
  c2 : w.cell? ⟨fb, 2, none⟩ = some (.int .i64 5)
  c3 : w.cell? ⟨fb, 3, none⟩ = some K
  c4 : w.cell? ⟨fb, 4, none⟩ = some V
  f3 : w.frozen? ⟨fb, 3, none⟩ = false
  f4 : w.frozen? ⟨fb, 4, none⟩ = false
  regs : Arr w ab 8 σ.r
  slots : Arr w sk 5 σ.s
  kr : w.ownsRow n0 54 5 K cs.length (flat vc cs)
  vr : w.ownsRow n0 84 5 V code.length (flat ic code)
  wr : w.ownsRow n0 2 1 W σ.e.length (flat oc σ.e)
  ko : ∀ g, K.ownBlock = some g → V.ownBlock ≠ some g ∧ W.ownBlock ≠ some g ∧ g ≠ fb ∧ g ≠ ab ∧ g ≠ sk
  vo : ∀ g, V.ownBlock = some g → W.ownBlock ≠ some g ∧ g ≠ fb ∧ g ≠ ab ∧ g ≠ sk
  wo : ∀ g, W.ownBlock = some g → g ≠ fb ∧ g ≠ ab ∧ g ≠ sk

variable {n0 fb ab sk : Nat} {K V W : Value} {cs : List Int} {code : List Ins} {σ : St} {w w1 : World}

theorem Bm.appK {K' : Value} {n : Int} (h : Bm n0 fb ab sk K V W cs code σ w) (hx : Fx (fun g => K.ownBlock = some g) w w1) (ho : w1.ownsRow n0 54 5 K' (cs.length + 1) (flat vc cs ++ vc n)) (hat : K'.ownBlock = K.ownBlock ∨ ∃ g, K'.ownBlock = some g ∧ w.heap.size ≤ g) :
    Bm n0 fb ab sk K' V W (cs ++ [n]) code σ (w1.setCell ⟨fb, 3, none⟩ K') := by
  obtain ⟨⟨o1, o2, o3, o4⟩, c0, c1, c2, c3, c4, f3, f4, hr, hs, kr, vr, wr, ko, vo, wo⟩ := h
  have hf : ¬ K.ownBlock = some fb := fun e => (ko fb e).2.2.1 rfl
  have hxs : Fx (fun g => g = fb) w1 (w1.setCell ⟨fb, 3, none⟩ K') := Fx.setCell (S := fun g => g = fb) (Fx.refl _ _) rfl _
  have hsz := hx.size
  have cc := fun o => hx.cell (b := fb) (by omega) hf o
  have ff := fun o => hx.frozen (b := fb) (by omega) hf o
  have vl := fun g e => owns_lt vr (g := g) e
  have wl := fun g e => owns_lt wr (g := g) e
  refine ⟨⟨o1, o2, o3, by have := hxs.size; omega⟩, ?_, ?_, ?_, ?_, ?_, ?_, ?_, ?_, ?_, ?_, ?_, ?_, ?_, vo, wo⟩
  · simp [go_sem, (cc 0).trans c0]
  · simp [go_sem, (cc 1).trans c1]
  · simp [go_sem, (cc 2).trans c2]
  · simp [go_sem, (cc 3).trans c3]
  · simp [go_sem, (cc 4).trans c4]
  · simp [go_sem, (ff 3).trans f3]
  · simp [go_sem, (ff 4).trans f4]
  · exact (hr.fx hx (by omega) (fun e => (ko ab e).2.2.2.1 rfl)).fx hxs (by omega) (by omega)
  · exact (hs.fx hx (by omega) (fun e => (ko sk e).2.2.2.2 rfl)).fx hxs (by omega) (by omega)
  · rw [List.length_append, List.length_singleton, flat_snoc]
    refine owns_fx' ho hxs fun g hg e => ?_
    rcases hat with hat | ⟨g', hat, hle⟩
    · exact (ko g (hat ▸ hg)).2.2.1 e
    · rw [hat] at hg; obtain rfl := Option.some.inj hg; omega
  · exact owns_fx' (owns_fx' vr hx fun g hg e => (ko g e).1 hg) hxs fun g hg e => (vo g hg).2.1 e
  · exact owns_fx' (owns_fx' wr hx fun g hg e => (ko g e).2.1 hg) hxs fun g hg e => (wo g hg).1 e
  · intro g hg
    rcases hat with hat | ⟨g', hat, hle⟩
    · exact ko g (hat ▸ hg)
    · rw [hat] at hg
      obtain rfl := Option.some.inj hg
      exact ⟨fun e => by have := (vl _ e).2; omega, fun e => by have := (wl _ e).2; omega, by omega, by omega, by omega⟩

theorem Bm.appV {V' : Value} {x : Ins} (h : Bm n0 fb ab sk K V W cs code σ w) (hx : Fx (fun g => V.ownBlock = some g) w w1) (ho : w1.ownsRow n0 84 5 V' (code.length + 1) (flat ic code ++ ic x)) (hat : V'.ownBlock = V.ownBlock ∨ ∃ g, V'.ownBlock = some g ∧ w.heap.size ≤ g) :
    Bm n0 fb ab sk K V' W cs (code ++ [x]) σ (w1.setCell ⟨fb, 4, none⟩ V') := by
  obtain ⟨⟨o1, o2, o3, o4⟩, c0, c1, c2, c3, c4, f3, f4, hr, hs, kr, vr, wr, ko, vo, wo⟩ := h
  have hf : ¬ V.ownBlock = some fb := fun e => (vo fb e).2.1 rfl
  have hxs : Fx (fun g => g = fb) w1 (w1.setCell ⟨fb, 4, none⟩ V') := Fx.setCell (S := fun g => g = fb) (Fx.refl _ _) rfl _
  have hsz := hx.size
  have cc := fun o => hx.cell (b := fb) (by omega) hf o
  have ff := fun o => hx.frozen (b := fb) (by omega) hf o
  have kl := fun g e => owns_lt kr (g := g) e
  have wl := fun g e => owns_lt wr (g := g) e
  refine ⟨⟨o1, o2, o3, by have := hxs.size; omega⟩, ?_, ?_, ?_, ?_, ?_, ?_, ?_, ?_, ?_, ?_, ?_, ?_, ?_, ?_, wo⟩
  · simp [go_sem, (cc 0).trans c0]
  · simp [go_sem, (cc 1).trans c1]
  · simp [go_sem, (cc 2).trans c2]
  · simp [go_sem, (cc 3).trans c3]
  · simp [go_sem, (cc 4).trans c4]
  · simp [go_sem, (ff 3).trans f3]
  · simp [go_sem, (ff 4).trans f4]
  · exact (hr.fx hx (by omega) (fun e => (vo ab e).2.2.1 rfl)).fx hxs (by omega) (by omega)
  · exact (hs.fx hx (by omega) (fun e => (vo sk e).2.2.2 rfl)).fx hxs (by omega) (by omega)
  · exact owns_fx' (owns_fx' kr hx fun g hg e => (ko g hg).1 e) hxs fun g hg e => (ko g hg).2.2.1 e
  · rw [List.length_append, List.length_singleton, flat_snoc]
    refine owns_fx' ho hxs fun g hg e => ?_
    rcases hat with hat | ⟨g', hat, hle⟩
    · exact (vo g (hat ▸ hg)).2.1 e
    · rw [hat] at hg; obtain rfl := Option.some.inj hg; omega
  · exact owns_fx' (owns_fx' wr hx fun g hg e => (vo g e).1 hg) hxs fun g hg e => (wo g hg).1 e
  · intro g hg
    refine ⟨fun e => ?_, (ko g hg).2⟩
    rcases hat with hat | ⟨g', hat, hle⟩
    · exact (ko g hg).1 (hat ▸ e)
    · rw [hat] at e; obtain rfl := Option.some.inj e; have := (kl _ hg).2; omega
  · intro g hg
    rcases hat with hat | ⟨g', hat, hle⟩
    · exact vo g (hat ▸ hg)
    · rw [hat] at hg
      obtain rfl := Option.some.inj hg
      exact ⟨fun e => by have := (wl _ e).2; omega, by omega, by omega, by omega⟩

theorem Bm.appW {W' : Value} {n : Int} (h : Bm n0 fb ab sk K V W cs code σ w) (hx : Fx (fun g => W.ownBlock = some g) w w1) (ho : w1.ownsRow n0 2 1 W' (σ.e.length + 1) (flat oc σ.e ++ oc n)) (hat : W'.ownBlock = W.ownBlock ∨ ∃ g, W'.ownBlock = some g ∧ w.heap.size ≤ g) :
    Bm n0 fb ab sk K V W' cs code { σ with e := σ.e ++ [n] } w1 := by
  obtain ⟨⟨o1, o2, o3, o4⟩, c0, c1, c2, c3, c4, f3, f4, hr, hs, kr, vr, wr, ko, vo, wo⟩ := h
  have hf : ¬ W.ownBlock = some fb := fun e => (wo fb e).1 rfl
  have hsz := hx.size
  have cc := fun o => hx.cell (b := fb) (by omega) hf o
  have ff := fun o => hx.frozen (b := fb) (by omega) hf o
  have kl := fun g e => owns_lt kr (g := g) e
  have vl := fun g e => owns_lt vr (g := g) e
  refine ⟨⟨o1, o2, o3, by omega⟩, (cc 0).trans c0, (cc 1).trans c1, (cc 2).trans c2, (cc 3).trans c3, (cc 4).trans c4, (ff 3).trans f3, (ff 4).trans f4, ?_, ?_, ?_, ?_, ?_, ?_, ?_, ?_⟩
  · exact hr.fx hx (by omega) (fun e => (wo ab e).2.1 rfl)
  · exact hs.fx hx (by omega) (fun e => (wo sk e).2.2 rfl)
  · exact owns_fx' kr hx fun g hg e => (ko g hg).2.1 e
  · exact owns_fx' vr hx fun g hg e => (vo g hg).1 e
  · show w1.ownsRow n0 2 1 W' (σ.e ++ [n]).length (flat oc (σ.e ++ [n]))
    rw [List.length_append, List.length_singleton, flat_snoc]
    exact ho
  · intro g hg
    refine ⟨(ko g hg).1, fun e => ?_, (ko g hg).2.2⟩
    rcases hat with hat | ⟨g', hat, hle⟩
    · exact (ko g hg).2.1 (hat ▸ e)
    · rw [hat] at e; obtain rfl := Option.some.inj e; have := (kl _ hg).2; omega
  · intro g hg
    refine ⟨fun e => ?_, (vo g hg).2⟩
    rcases hat with hat | ⟨g', hat, hle⟩
    · exact (vo g hg).1 (hat ▸ e)
    · rw [hat] at e; obtain rfl := Option.some.inj e; have := (vl _ hg).2; omega
  · intro g hg
    rcases hat with hat | ⟨g', hat, hle⟩
    · exact wo g (hat ▸ hg)
    · rw [hat] at hg
      obtain rfl := Option.some.inj hg
      exact ⟨by omega, by omega, by omega⟩

theorem Bm.setR (h : Bm n0 fb ab sk K V W cs code σ w) (r : Nat) (hr8 : r < 8) (n : Int) : Bm n0 fb ab sk K V W cs code { σ with r := upd σ.r r n } (w.setCell ⟨ab, r, none⟩ (.int .i64 n)) := by
  obtain ⟨⟨o1, o2, o3, o4⟩, c0, c1, c2, c3, c4, f3, f4, hr, hs, kr, vr, wr, ko, vo, wo⟩ := h
  have hx : Fx (fun g => g = ab) w (w.setCell ⟨ab, r, none⟩ (.int .i64 n)) := Fx.setCell (S := fun g => g = ab) (Fx.refl _ _) rfl _
  have cc := fun o => hx.cell (b := fb) (by omega) (by omega) o
  have ff := fun o => hx.frozen (b := fb) (by omega) (by omega) o
  exact ⟨⟨o1, o2, o3, by have := hx.size; omega⟩, (cc 0).trans c0, (cc 1).trans c1, (cc 2).trans c2, (cc 3).trans c3, (cc 4).trans c4, (ff 3).trans f3, (ff 4).trans f4, hr.set r hr8 n, hs.fx hx (by omega) (by omega),
    owns_fx' kr hx fun g hg e => (ko g hg).2.2.2.1 e, owns_fx' vr hx fun g hg e => (vo g hg).2.2.1 e, owns_fx' wr hx fun g hg e => (wo g hg).2.1 e, ko, vo, wo⟩
theorem Bm.setS (h : Bm n0 fb ab sk K V W cs code σ w) (s : Nat) (hs5 : s < 5) (n : Int) : Bm n0 fb ab sk K V W cs code { σ with s := upd σ.s s n } (w.setCell ⟨sk, s, none⟩ (.int .i64 n)) := by
  obtain ⟨⟨o1, o2, o3, o4⟩, c0, c1, c2, c3, c4, f3, f4, hr, hs, kr, vr, wr, ko, vo, wo⟩ := h
  have hx : Fx (fun g => g = sk) w (w.setCell ⟨sk, s, none⟩ (.int .i64 n)) := Fx.setCell (S := fun g => g = sk) (Fx.refl _ _) rfl _
  have cc := fun o => hx.cell (b := fb) (by omega) (by omega) o
  have ff := fun o => hx.frozen (b := fb) (by omega) (by omega) o
  exact ⟨⟨o1, o2, o3, by have := hx.size; omega⟩, (cc 0).trans c0, (cc 1).trans c1, (cc 2).trans c2, (cc 3).trans c3, (cc 4).trans c4, (ff 3).trans f3, (ff 4).trans f4, hr.fx hx (by omega) (by omega), hs.set s hs5 n,
    owns_fx' kr hx fun g hg e => (ko g hg).2.2.2.2 e, owns_fx' vr hx fun g hg e => (vo g hg).2.2.2 e, owns_fx' wr hx fun g hg e => (wo g hg).2.2 e, ko, vo, wo⟩
/-- what touches none of it -/
theorem Bm.fx {w' : World} (h : Bm n0 fb ab sk K V W cs code σ w) (hx : Fx (fun _ => False) w w') : Bm n0 fb ab sk K V W cs code σ w' := by
  obtain ⟨⟨o1, o2, o3, o4⟩, c0, c1, c2, c3, c4, f3, f4, hr, hs, kr, vr, wr, ko, vo, wo⟩ := h
  have h0 : ¬ False := fun h => h
  have cc := fun o => hx.cell (b := fb) (by omega) h0 o
  have ff := fun o => hx.frozen (b := fb) (by omega) h0 o
  exact ⟨⟨o1, o2, o3, by have := hx.size; omega⟩, (cc 0).trans c0, (cc 1).trans c1, (cc 2).trans c2, (cc 3).trans c3, (cc 4).trans c4, (ff 3).trans f3, (ff 4).trans f4, hr.fx hx (by omega) h0, hs.fx hx (by omega) h0,
    owns_fx' kr hx fun _ _ h => h, owns_fx' vr hx fun _ _ h => h, owns_fx' wr hx fun _ _ h => h, ko, vo, wo⟩

end Go.Proofs.YtplnnlnkcfappaaGreat.Rs
