/- The second evaluator tells the truth, part 13: the plan. -/
import Derived.Test.YtplnnlnkcfappaaGreatQr
namespace Go.Proofs.YtplnnlnkcfappaaGreat.E3
open Go Go.RowKit
set_option linter.unusedSimpArgs false
set_option linter.unusedVariables false

variable {ρ : Syms} {P : Program} {oc : Orc} {S n : Nat} {ops : Array Oper} {Q : Exit → Act → World → Prop}

/-- what an operation must leave: all that was read, if one of these reads does not come ahead of it -/
def Pres (ρ : Syms) (ops : Array Oper) (LL : List (Nat × Env × AV)) (j : Nat) (w w' : World) : Prop :=
  (∃ q ∈ LL, ¬ Dep ops q.1 j) → ∀ q ∈ LL, LdOk ρ q.2.1 w q.2.2 → LdOk ρ q.2.1 w' q.2.2
theorem Pres.same (LL : List (Nat × Env × AV)) (j : Nat) (w : World) : Pres ρ ops LL j w w := fun _ _ _ h => h
theorem Pres.tail {q : Nat × Env × AV} {LL : List (Nat × Env × AV)} {j : Nat} {w w' : World} (h : Pres ρ ops (q :: LL) j w w') : Pres ρ ops LL j w w' :=
  fun ⟨r, hr, hd⟩ r' hr' => h ⟨r, List.mem_cons_of_mem _ hr, hd⟩ r' (List.mem_cons_of_mem _ hr')

theorem wpAnyS_mono {S1 S2 : Nat → World → World → Prop} (h : ∀ j w w', S1 j w w' → S2 j w w') : ∀ (fuel : Nat) (listed : Array Bool) (a : Act) (w : World), wpAnyS P ops Q S1 fuel listed a w → wpAnyS P ops Q S2 fuel listed a w
  | 0, _, _, _, hh => hh
  | fuel + 1, _, _, _, hh => ⟨hh.1, fun i hi => wpOp_mono (fun a' w' h' => ⟨h i _ _ h'.1, wpAnyS_mono h fuel _ a' w' h'.2⟩) (hh.2 i hi)⟩

/-- a new block's operation -/
structure FD where
  i : Nat
  o : Oper
  e : TypeId
  z : Nat
  x : AV
  l : List AV
  vs : List Value
  V : Nat → Value
  t : Nat

structure FdOk (ρ : Syms) (P : Program) (ops : Array Oper) (n : Nat) (d : FD) (F : Env) : Prop where
  op : ops[d.i]? = some d.o
  guard : d.o.guard = none
  dst : d.o.dst = some d.t
  lt : d.t < n
  type : mkT P d.o.op = some (d.e, d.z)
  den : dens ρ F d.l = some d.vs
  name : ∀ (F' : Env) (b g : Nat), F' b = some (g, d.l.length, 0) → ∃ x', nameOf d.x b = some x' ∧ E3.den ρ F' x' = some (d.V g)

/-- it has not come up yet -/
def Waits (P : Program) (d : FD) (a : Act) : Prop := ∀ w : World, (execOp a.eval d.o).run P w = .ok (.value (d.V w.heap.size)) (w.alloc (.cells d.vs.toArray d.e))
/-- it has come up, its block lies at g -/
structure Done (w0 : World) (d : FD) (g : Nat) (F : Env) (m : Mem) (a : Act) (w : World) : Prop where
  up : w0.heap.size ≤ g
  cells : w.heap[g]? = some (.cells d.vs.toArray d.e)
  away : Away F m g
  slot : a.tmps.getD d.t undef = d.V g

abbrev Fls := List (FD × Option Nat)
def flOf (A : Fls) : List (Nat × Bool) := A.map fun p => (p.1.i, p.2.isSome)
def idsOf (A : Fls) : List Nat := A.map fun p => p.1.i
def unl (A : Fls) : Nat := (A.filter fun p => p.2.isNone).length
theorem flOf_ids (A : Fls) : (flOf A).map (·.1) = idsOf A := by simp [flOf, idsOf]

structure Reg where
  base : Nat
  F0 : Env
  m0 : Mem
  w0 : World
  ops : Array Oper
  P : Program
  n : Nat
  S : Nat

/-- how things stand between two operations -/
structure St (ρ : Syms) (G : Reg) (LL : List (Nat × Env × AV)) (la : Array Bool) (sg : List Nat) (fr : Fr) (es : Es) (F : Env) (m : Mem) (A : Fls) (a : Act) (w : World) : Prop where
  base : G.base ≤ G.w0.heap.size
  ext : Ext G.F0 F
  ar : AR ρ F G.n G.S sg fr es a
  inv : Inv ρ G.base F m w
  fares : Fares G.base G.F0 G.m0 G.w0 F m w
  ok : ∀ p ∈ A, FdOk ρ G.P G.ops G.n p.1 F
  wait : ∀ p ∈ A, p.2 = none → Waits G.P p.1 a
  bad : ∀ p ∈ A, getG G.S sg fr es p.1.t = .bad
  done : ∀ p ∈ A, ∀ g, p.2 = some g → Done G.w0 p.1 g F m a w
  apart : A.Pairwise fun p q => ∀ g, p.2 = some g → q.2 ≠ some g
  each : (idsOf A).Nodup
  free : ∀ p ∈ A, ∀ q ∈ A, p.1.i ≠ q.1.i → p.1.o.apart G.ops q.1.o = true
  ghost : ∀ p ∈ A, findE (big p.1.i) sg es = .agg (p.1.x :: p.1.l)
  loads : ∀ q ∈ LL, Ext q.2.1 F ∧ findE (big q.1) sg es = q.2.2
  shut : Shut G.ops (markL la (flOf A))

/-! ### A new block comes up -/
def mkDone (i g : Nat) (A : Fls) : Fls := A.map fun p => if p.1.i = i then (p.1, some g) else p
theorem mkDone_fl (i g : Nat) (A : Fls) : flOf (mkDone i g A) = flagN i (flOf A) := by
  simp only [flOf, mkDone, flagN, List.map_map]
  refine List.map_congr_left fun p _ => ?_
  simp only [Function.comp]
  by_cases h : p.1.i = i
  · simp [h]
  · simp [h]
theorem mkDone_ids (i g : Nat) (A : Fls) : idsOf (mkDone i g A) = idsOf A := by
  simp only [idsOf, mkDone, List.map_map]
  refine List.map_congr_left fun p _ => ?_
  simp only [Function.comp]
  split <;> rfl
theorem mkDone_mem {i g : Nat} {A : Fls} {q : FD × Option Nat} (h : q ∈ mkDone i g A) : (∃ p ∈ A, p.1.i = i ∧ q = (p.1, some g)) ∨ (q ∈ A ∧ q.1.i ≠ i) := by
  obtain ⟨p, hp, rfl⟩ := List.mem_map.1 h
  split
  · rename_i hi; exact .inl ⟨p, hp, hi, rfl⟩
  · rename_i hi; exact .inr ⟨hp, hi⟩
theorem mkDone_unl {i g : Nat} : ∀ {A : Fls} {p : FD × Option Nat}, p ∈ A → p.1.i = i → p.2 = none → (idsOf A).Nodup → unl A = unl (mkDone i g A) + 1
  | [], p, h, _, _, _ => by cases h
  | q :: A, p, h, hi, hn, hnd => by
    simp only [idsOf, List.map_cons, List.nodup_cons] at hnd
    have hrest : ∀ (B : Fls), (∀ r ∈ B, r.1.i ≠ i) → mkDone i g B = B := fun B hB => (List.map_congr_left (fun r hr => by rw [if_neg (hB r hr)]; rfl)).trans (List.map_id B)
    rcases List.mem_cons.1 h with rfl | h
    · have hB : ∀ r ∈ A, r.1.i ≠ i := fun r hr e => hnd.1 (List.mem_map.2 ⟨r, hr, by rw [e, hi]⟩)
      show unl (p :: A) = unl ((if p.1.i = i then (p.1, some g) else p) :: mkDone i g A) + 1
      rw [hrest A hB, if_pos hi]
      simp [unl, List.filter_cons, hn]
    · have hq : q.1.i ≠ i := fun e => hnd.1 (List.mem_map.2 ⟨p, h, by rw [e, hi]⟩)
      have ih := mkDone_unl (g := g) h hi hn hnd.2
      show unl (q :: A) = unl ((if q.1.i = i then (q.1, some g) else q) :: mkDone i g A) + 1
      rw [if_neg hq]
      simp only [unl, List.filter_cons] at ih ⊢
      split
      · simp only [List.length_cons]; omega
      · exact ih

theorem apart_of {x y : Oper} (h : x.apart ops y = true) {t : Nat} (hx : x.dst = some t) : t ∉ y.looksAt ops ∧ y.dst ≠ some t ∧ ∀ d, y.dst = some d → d ∉ x.looksAt ops := by
  obtain ⟨h1, h2, h3⟩ := Oper.apart_spec h
  exact ⟨h1 t hx, h2 t hx, h3⟩

theorem nosel {ops : Array Oper} (hsel : Region.noSelect ops = true) {i : Nat} {o : Oper} (h : ops[i]? = some o) : ∀ cs b, o.op ≠ .select cs b := fun cs b => Region.noSelect_spec hsel i o cs b h

/-- a new block's operation looks at nothing that another operation puts -/
theorem FdOk.ext {d : FD} {F F' : Env} (h : FdOk ρ P ops n d F) (he : Ext F F') : FdOk ρ P ops n d F' := ⟨h.op, h.guard, h.dst, h.lt, h.type, dens_ext he _ _ h.den, h.name⟩
theorem Waits.put {d : FD} {a : Act} (hsel : Region.noSelect ops = true) (hop : ops[d.i]? = some d.o) (h : Waits P d a) {o : Oper} (hap : d.o.apart ops o = true) (v : Value) : Waits P d (a.put o.dst v) := by
  obtain ⟨_, _, h3⟩ := Oper.apart_spec hap
  intro w
  rw [execOp_put (ops := ops) d.o (nosel hsel hop) a o.dst v h3]
  exact h w

theorem slot_put {a : Act} {o : Oper} {t : Nat} {v : Value} (h : o.dst ≠ some t) : (a.put o.dst v).tmps.getD t undef = a.tmps.getD t undef := by
  cases hd : o.dst with
  | none => rfl
  | some s =>
    rw [hd] at h
    exact put_other (fun e => h (by rw [e]))

theorem AR.poison {F : Env} {sg : List Nat} {fr : Fr} {es : Es} {a : Act} {t : Nat} (h : AR ρ F n S sg fr es a) (hb : getG S sg fr es t = .bad) (v : Value) : AR ρ F n S sg fr es (a.put (some t) v) := by
  refine ⟨by simp [Act.put, h.size], h.slots.defers, fun s => ?_⟩
  by_cases hst : s = t
  · rw [hst]; exact .inl hb
  · rw [put_other hst]; exact h.slots.held s

theorem cell_alloc {w : World} {o : Obj} {p : Addr} {v : Value} (h : w.cell? p = some v) : (w.alloc o).cell? p = some v := by
  have hs : ∃ x, w.heap[p.block]? = some x := by
    cases hx : w.heap[p.block]? with
    | none => rw [World.cell?, hx] at h; cases h
    | some x => exact ⟨x, rfl⟩
  obtain ⟨x, hx⟩ := hs
  have hlt := (Array.getElem?_eq_some_iff.1 hx).1
  rw [← h]
  unfold World.cell?
  rw [heap_alloc_old w o hlt]

theorem LdOk.alloc {F : Env} {w : World} {e : AV} (h : LdOk ρ F w e) (o : Obj) : LdOk ρ F (w.alloc o) e := by
  rcases h with h | ⟨b, off, l, g, c, vs, h1, h2, h3, h4⟩
  · exact .inl h
  · exact .inr ⟨b, off, l, g, c, vs, h1, h2, h3, fun j v hj => cell_alloc (h4 j v hj)⟩

theorem nodup_inj {α β : Type} {f : α → β} : ∀ {A : List α}, (A.map f).Nodup → ∀ {r p : α}, r ∈ A → p ∈ A → f r = f p → r = p
  | [], _, r, p, hr, _, _ => by cases hr
  | x :: A, h, r, p, hr, hp, e => by
    simp only [List.map_cons, List.nodup_cons] at h
    rcases List.mem_cons.1 hr with h1 | h1 <;> rcases List.mem_cons.1 hp with h2 | h2
    · rw [h1, h2]
    · exact absurd (List.mem_map.2 ⟨p, h2, by rw [← e, h1]⟩) h.1
    · exact absurd (List.mem_map.2 ⟨r, h1, by rw [e, h2]⟩) h.1
    · exact nodup_inj h.2 h1 h2 e

theorem float_up {G : Reg} (hsel : Region.noSelect G.ops = true) {LL : List (Nat × Env × AV)} {la : Array Bool} {sg : List Nat} {fr : Fr} {es : Es} {F : Env} {m : Mem} {A : Fls} {a : Act} {w : World} (h : St ρ G LL la sg fr es F m A a w)
    {k : Nat} (hk : (k, false) ∈ flOf A) (hr : k ∈ Region.ready .any G.ops (markL la (flOf A))) {K : Act → World → Prop}
    (hK : ∀ A' a' w', idsOf A' = idsOf A → unl A = unl A' + 1 → (markL la (flOf A)).setIfInBounds k true = markL la (flOf A') → Pres ρ G.ops LL k w w' → St ρ G LL la sg fr es F m A' a' w' → K a' w') : wpOp G.P G.ops Q k K a w := by
  obtain ⟨p, hp, hpe⟩ := List.mem_map.1 hk
  obtain ⟨rfl, hpn⟩ := Prod.mk.inj hpe
  have hpn : p.2 = none := by simpa using hpn
  have hd := h.ok p hp
  have hmark : (markL la (flOf A)).setIfInBounds p.1.i true = markL la (flOf (mkDone p.1.i w.heap.size A)) := by
    rw [mkDone_fl, markL_flag]
    rw [flOf_ids]
    exact List.mem_map.2 ⟨p, hp, rfl⟩
  have hKK : K (a.put p.1.o.dst (p.1.V w.heap.size)) (w.alloc (.cells p.1.vs.toArray p.1.e)) := by
    have hbelow : Below w.heap.size w (w.alloc (.cells p.1.vs.toArray p.1.e)) := (Below.refl _ _).alloc (Nat.le_refl _) _
    refine hK (mkDone p.1.i w.heap.size A) _ _ (mkDone_ids _ _ _) (mkDone_unl hp rfl hpn h.each) hmark (fun _ q _ hq => hq.alloc _) ?_
    have hother : ∀ q ∈ A, q.1.i ≠ p.1.i → p.1.o.dst ≠ some q.1.t := fun q hq hne => (apart_of (h.free q hq p hp hne) (h.ok q hq).dst).2.1
    have hsame : ∀ r ∈ A, r.1.i = p.1.i → r = p := by
      intro r hr' hri
      exact nodup_inj h.each hr' hp hri
    have hcase : ∀ q ∈ mkDone p.1.i w.heap.size A, q = (p.1, some w.heap.size) ∨ (q ∈ A ∧ q.1.i ≠ p.1.i) := by
      intro q hq
      rcases mkDone_mem hq with ⟨r, hr', hri, rfl⟩ | hq'
      · obtain rfl := hsame r hr' hri
        exact .inl rfl
      · exact .inr hq'
    refine { base := h.base, ext := h.ext, ar := ?_, inv := h.inv.below hbelow, fares := h.fares.trans (Fares.above h.inv.size hbelow), ok := ?_, wait := ?_, bad := ?_, done := ?_, apart := ?_, each := by rw [mkDone_ids]; exact h.each, free := ?_, ghost := ?_, loads := h.loads, shut := by rw [← hmark]; exact h.shut.set hr }
    · rw [hd.dst]; exact h.ar.poison (h.bad p hp) _
    · intro q hq
      rcases hcase q hq with rfl | ⟨hq', _⟩
      · exact hd
      · exact h.ok q hq'
    · intro q hq hn
      rcases hcase q hq with rfl | ⟨hq', hne⟩
      · cases hn
      · exact (h.wait q hq' hn).put hsel (h.ok q hq').op (h.free q hq' p hp hne) _
    · intro q hq
      rcases hcase q hq with rfl | ⟨hq', _⟩
      · exact h.bad p hp
      · exact h.bad q hq'
    · intro q hq g hg
      rcases hcase q hq with rfl | ⟨hq', hne⟩
      · obtain rfl := Option.some.inj hg
        refine ⟨h.fares.below.size, heap_alloc_new w _, fun b k' x hk' hx => ?_, ?_⟩
        · obtain ⟨g', c', h1, _, _, h4⟩ := h.inv.live b k' hk'
          rw [hx] at h1
          obtain rfl := Option.some.inj h1
          have := h4.lt
          simp only
          omega
        · rw [hd.dst]; exact put_same h.ar.size hd.lt
      · have hdn := h.done q hq' g hg
        have hlt := (Array.getElem?_eq_some_iff.1 hdn.cells).1
        exact ⟨hdn.up, by rw [heap_alloc_old w _ hlt]; exact hdn.cells, hdn.away, by rw [slot_put (hother q hq' hne)]; exact hdn.slot⟩
    · -- the blocks lie apart
      refine List.pairwise_map.2 ((h.apart.and (List.pairwise_map.1 h.each)).imp_of_mem (fun {q r} hq hr' hqr' => ?_))
      obtain ⟨hqr, hir⟩ := hqr'
      have hold : ∀ q ∈ A, ∀ g, q.2 = some g → g < w.heap.size := fun q hq g hg => (Array.getElem?_eq_some_iff.1 (h.done q hq g hg).cells).1
      intro g hg hg2
      by_cases e1 : q.1.i = p.1.i
      · by_cases e2 : r.1.i = p.1.i
        · exact hir (by rw [e1, e2])
        · rw [if_pos e1] at hg
          rw [if_neg e2] at hg2
          obtain rfl := Option.some.inj hg
          exact Nat.lt_irrefl _ (hold r hr' _ hg2)
      · rw [if_neg e1] at hg
        by_cases e2 : r.1.i = p.1.i
        · rw [if_pos e2] at hg2
          obtain rfl := Option.some.inj hg2
          exact Nat.lt_irrefl _ (hold q hq _ hg)
        · rw [if_neg e2] at hg2
          exact hqr g hg hg2
    · intro q hq r hr' hne
      rcases hcase q hq with rfl | ⟨hq', _⟩ <;> rcases hcase r hr' with rfl | ⟨hr'', _⟩
      · exact absurd rfl hne
      · exact h.free p hp r hr'' hne
      · exact h.free q hq' p hp hne
      · exact h.free q hq' r hr'' hne
    · intro q hq
      rcases hcase q hq with rfl | ⟨hq', _⟩
      · exact h.ghost p hp
      · exact h.ghost q hq'
  unfold wpOp
  simp only [hd.op]
  rw [if_pos (by unfold Region.wanted; rw [hd.guard])]
  left
  unfold Oper.wp
  rw [h.wait p hp hpn w, Oper.upon_value]
  exact hKK

/-! ### An operation that is taken -/
theorem St.next {G : Reg} (hsel : Region.noSelect G.ops = true) {LL : List (Nat × Env × AV)} {la : Array Bool} {sg sg' : List Nat} {fr fr' : Fr} {es es' : Es} {F F' : Env} {m m' : Mem} {A : Fls} {a a' : Act} {w w' : World} (h : St ρ G LL la sg fr es F m A a w)
    {i : Nat} {o : Oper} (hap : ∀ p ∈ A, p.1.o.apart G.ops o = true) (hr : i ∈ Region.ready .any G.ops (markL la (flOf A))) (k1 : Ext F F') (k2 : AR ρ F' G.n G.S sg' fr' es' a') (k3 : Inv ρ G.base F' m' w') (k4 : Fares G.base F m w F' m' w')
    (k5 : ∀ q ∈ LL, findE (big q.1) sg' es' = findE (big q.1) sg es) (k6 : ∀ p ∈ A, findE (big p.1.i) sg' es' = findE (big p.1.i) sg es) (k7 : ∀ s, o.dst ≠ some s → getG G.S sg' fr' es' s = getG G.S sg fr es s) (k8 : ∃ v, a' = a.put o.dst v) :
    St ρ G LL (la.setIfInBounds i true) sg' fr' es' F' m' A a' w' := by
  obtain ⟨v, rfl⟩ := k8
  have hne : ∀ p ∈ A, o.dst ≠ some p.1.t := fun p hp => (apart_of (hap p hp) (h.ok p hp).dst).2.1
  refine { base := h.base, ext := h.ext.trans k1, ar := k2, inv := k3, fares := h.fares.trans k4, ok := fun p hp => (h.ok p hp).ext k1, wait := fun p hp hn => (h.wait p hp hn).put hsel (h.ok p hp).op (hap p hp) v, bad := (fun p hp => (k7 _ (hne p hp)).trans (h.bad p hp)), done := ?_, apart := h.apart, each := h.each, free := h.free, ghost := (fun p hp => (k6 p hp).trans (h.ghost p hp)), loads := (fun q hq => ⟨(h.loads q hq).1.trans k1, (k5 q hq).trans (h.loads q hq).2⟩), shut := ((markL_set la i (flOf A)).symm ▸ h.shut.set hr) }
  intro p hp g hg
  have hdn := h.done p hp g hg
  have hlt := (Array.getElem?_eq_some_iff.1 hdn.cells).1
  obtain ⟨j1, j2⟩ := k4.kept g hlt hdn.away
  exact ⟨hdn.up, by rw [j2]; exact hdn.cells, j1, by rw [slot_put (hne p hp)]; exact hdn.slot⟩

theorem St.more {G : Reg} {LL : List (Nat × Env × AV)} {la : Array Bool} {sg : List Nat} {fr : Fr} {es : Es} {F : Env} {m : Mem} {A : Fls} {a : Act} {w : World} (h : St ρ G LL la sg fr es F m A a w) {i : Nat} {e : AV} (he : findE (big i) sg es = e) :
    St ρ G ((i, F, e) :: LL) la sg fr es F m A a w :=
  { h with loads := (fun q hq => by
      rcases List.mem_cons.1 hq with rfl | hq
      · exact ⟨Ext.refl F, he⟩
      · exact h.loads q hq) }

theorem unl_pos {k : Nat} {A : Fls} (h : (k, false) ∈ flOf A) : 0 < unl A := by
  obtain ⟨p, hp, hpe⟩ := List.mem_map.1 h
  obtain ⟨_, hpn⟩ := Prod.mk.inj hpe
  exact List.length_pos_of_mem (List.mem_filter.2 ⟨hp, by simpa using hpn⟩)

theorem drift0 {G : Reg} (hsel : Region.noSelect G.ops = true) {LL : List (Nat × Env × AV)} {la : Array Bool} {sg : List Nat} {fr : Fr} {es : Es} {F : Env} {m : Mem} {ids : List Nat} {i cnt : Nat}
    (hall : ∀ fl : List (Nat × Bool), fl.map (·.1) = ids → i ∈ Region.ready .any G.ops (markL la fl) ∧ ∀ k ∈ Region.ready .any G.ops (markL la fl), k = i ∨ (k, false) ∈ fl)
    (hstep : ∀ A a w, idsOf A = ids → St ρ G LL la sg fr es F m A a w → wpOp G.P G.ops Q i (fun a' w' => Pres ρ G.ops LL i w w' ∧ wpAnyS G.P G.ops Q (Pres ρ G.ops LL) (cnt + unl A) ((markL la (flOf A)).setIfInBounds i true) a' w') a w) :
    ∀ (N : Nat) (A : Fls) (a : Act) (w : World), unl A = N → idsOf A = ids → St ρ G LL la sg fr es F m A a w → wpAnyS G.P G.ops Q (Pres ρ G.ops LL) (cnt + 1 + N) (markL la (flOf A)) a w := by
  intro N
  induction N with
  | zero =>
    intro A a w hN hids hst
    obtain ⟨h1, h2⟩ := hall (flOf A) (by rw [flOf_ids, hids])
    refine ⟨fun h0 => (by rw [h0] at h1; cases h1), fun k hk => ?_⟩
    rcases h2 k hk with rfl | hu
    · have := hstep A a w hids hst
      rw [hN] at this
      exact this
    · exact absurd (unl_pos hu) (by omega)
  | succ N ihN =>
    intro A a w hN hids hst
    obtain ⟨h1, h2⟩ := hall (flOf A) (by rw [flOf_ids, hids])
    refine ⟨fun h0 => (by rw [h0] at h1; cases h1), fun k hk => ?_⟩
    by_cases hki : k = i
    · subst hki
      have := hstep A a w hids hst
      rw [hN] at this
      rw [show cnt + (N + 1) = (cnt + 1).add N from (by show _ = cnt + 1 + N; omega)] at this
      exact this
    · refine float_up hsel hst ((h2 k hk).resolve_left hki) hk (fun A' a' w' j1 j2 j3 j4 j5 => ⟨j4, ?_⟩)
      rw [j3]
      exact ihN A' a' w' (by omega) (j1.trans hids) j5

theorem drift4 {G : Reg} (hsel : Region.noSelect G.ops = true) {LL : List (Nat × Env × AV)} {la : Array Bool} {sg : List Nat} {fr : Fr} {es : Es} {F : Env} {m : Mem} {ids : List Nat} {i cnt : Nat}
    (hall : ∀ fl : List (Nat × Bool), fl.map (·.1) = ids → (i, false) ∈ fl → Region.ready .any G.ops (markL la fl) ≠ [] ∧ ∀ k ∈ Region.ready .any G.ops (markL la fl), (k, false) ∈ fl)
    (hland : ∀ A a w, idsOf A = ids → (i, false) ∉ flOf A → St ρ G LL la sg fr es F m A a w → wpAnyS G.P G.ops Q (Pres ρ G.ops LL) (cnt + unl A) (markL la (flOf A)) a w) :
    ∀ (N : Nat) (A : Fls) (a : Act) (w : World), unl A = N → idsOf A = ids → St ρ G LL la sg fr es F m A a w → wpAnyS G.P G.ops Q (Pres ρ G.ops LL) (cnt + N) (markL la (flOf A)) a w := by
  intro N
  induction N with
  | zero =>
    intro A a w hN hids hst
    have := hland A a w hids (fun hu => absurd (unl_pos hu) (by omega)) hst
    rw [hN] at this
    exact this
  | succ N ihN =>
    intro A a w hN hids hst
    by_cases hu : (i, false) ∈ flOf A
    · obtain ⟨h1, h2⟩ := hall (flOf A) (by rw [flOf_ids, hids]) hu
      refine ⟨fun h0 => absurd h0 h1, fun k hk => ?_⟩
      refine float_up hsel hst (h2 k hk) hk (fun A' a' w' j1 j2 j3 j4 j5 => ⟨j4, ?_⟩)
      rw [j3]
      exact ihN A' a' w' (by omega) (j1.trans hids) j5
    · have := hland A a w hids hu hst
      rw [hN] at this
      exact this

/-! ### A new block is named -/
def dropA (i : Nat) (A : Fls) : Fls := A.filter fun q => !(Nat.beq q.1.i i)
theorem dropA_mem {i : Nat} {A : Fls} {q : FD × Option Nat} : q ∈ dropA i A ↔ q ∈ A ∧ q.1.i ≠ i := by
  unfold dropA
  rw [List.mem_filter]
  refine and_congr_right fun _ => ?_
  cases hb : Nat.beq q.1.i i with
  | true => simp [Nat.eq_of_beq_eq_true hb]
  | false =>
    simp only [Bool.not_false, true_iff]
    intro e
    rw [e, Nat.beq_refl] at hb
    cases hb
theorem dropA_ids (i : Nat) : ∀ A : Fls, idsOf (dropA i A) = dropN i (idsOf A)
  | [] => rfl
  | p :: A => by
    show idsOf (dropA i (p :: A)) = te (Nat.beq p.1.i i) (dropN i (idsOf A)) (p.1.i :: dropN i (idsOf A))
    rw [te_eq, ← dropA_ids i A]
    unfold dropA
    rw [List.filter_cons]
    cases Nat.beq p.1.i i <;> rfl
theorem markL_keep (la : Array Bool) (i : Nat) : ∀ A : Fls, (∀ p ∈ A, p.1.i = i → p.2.isSome = true) → (markL la (flOf (dropA i A))).setIfInBounds i true = (markL la (flOf A)).setIfInBounds i true
  | [], _ => rfl
  | p :: A, h => by
    have ih := markL_keep la i A (fun q hq => h q (List.mem_cons_of_mem _ hq))
    have e1 : flOf (p :: A) = (p.1.i, p.2.isSome) :: flOf A := rfl
    rw [e1, markL_cons]
    by_cases hp : p.1.i = i
    · have e2 : dropA i (p :: A) = dropA i A := by
        unfold dropA
        rw [List.filter_cons, hp, Nat.beq_refl]
        rfl
      rw [e2, ih, h p (by simp) hp]
      simp only [if_true, hp]
      rw [set_twice]
    · have e2 : dropA i (p :: A) = p :: dropA i A := by
        unfold dropA
        rw [List.filter_cons]
        cases hb : Nat.beq p.1.i i with
        | true => exact absurd (Nat.eq_of_beq_eq_true hb) hp
        | false => rfl
      have e3 : flOf (p :: dropA i A) = (p.1.i, p.2.isSome) :: flOf (dropA i A) := rfl
      rw [e2, e3, markL_cons]
      split
      · rw [set_comm, ih, set_comm]
      · exact ih
theorem markL_has (la : Array Bool) (i : Nat) : ∀ fl : List (Nat × Bool), (i, true) ∈ fl → (markL la fl).setIfInBounds i true = markL la fl
  | [], h => by cases h
  | p :: fl, h => by
    rw [markL_cons]
    rcases List.mem_cons.1 h with h | h
    · rw [← h]
      simp only [if_true]
      rw [set_twice]
    · have ih := markL_has la i fl h
      split
      · rw [set_comm, ih]
      · exact ih
theorem markL_drop (la : Array Bool) (i : Nat) (A : Fls) (h : ∀ p ∈ A, p.1.i = i → p.2.isSome = true) (hi : i ∈ idsOf A) : markL la (flOf A) = markL (la.setIfInBounds i true) (flOf (dropA i A)) := by
  obtain ⟨p, hp, hpi⟩ := List.mem_map.1 hi
  rw [markL_set, markL_keep la i A h, markL_has]
  exact List.mem_map.2 ⟨p, hp, by rw [hpi, h p hp hpi]⟩
theorem unl_drop (i : Nat) (A : Fls) (h : ∀ p ∈ A, p.1.i = i → p.2.isSome = true) : unl (dropA i A) = unl A := by
  unfold unl dropA
  rw [List.filter_filter]
  congr 1
  refine List.filter_congr fun p hp => ?_
  cases hb : Nat.beq p.1.i i with
  | true =>
    have := h p hp (Nat.eq_of_beq_eq_true hb)
    cases hq : p.2 <;> simp_all
  | false => simp

theorem apart_any : ∀ {A : Fls}, (A.Pairwise fun p q => ∀ g, p.2 = some g → q.2 ≠ some g) → ∀ {q r : FD × Option Nat}, q ∈ A → r ∈ A → q ≠ r → ∀ g, q.2 = some g → r.2 ≠ some g
  | [], _, q, r, hq, _, _ => by cases hq
  | x :: A, h, q, r, hq, hr, hne => by
    obtain ⟨h1, h2⟩ := List.pairwise_cons.1 h
    intro g hg hrg
    rcases List.mem_cons.1 hq with hq' | hq' <;> rcases List.mem_cons.1 hr with hr' | hr'
    · exact hne (hq'.trans hr'.symm)
    · exact h1 r hr' g (by rw [← hq']; exact hg) hrg
    · exact h1 q hq' g (by rw [← hr']; exact hrg) hg
    · exact apart_any h2 hq' hr' hne g hg hrg

theorem land_st {G : Reg} (hn : G.n ≤ 512) {LL : List (Nat × Env × AV)} {la : Array Bool} {sg : List Nat} {fr : Fr} {es : Es} {F : Env} {m : Mem} {A : Fls} {a : Act} {w : World} (h : St ρ G LL la sg fr es F m A a w) {p : FD × Option Nat} (hp : p ∈ A) {g : Nat} (hg : p.2 = some g)
    (hdone : ∀ q ∈ A, q.1.i = p.1.i → q.2.isSome = true) {ih : Rec} {kc : KO} {y : Out} (hrun : (cLand G.P G.S G.n p.1.i sg p.1.o kc).run ih fr es m = some y) :
    ∃ fr' es' m' F', kc.run ih fr' es' m' = some y ∧ St ρ G LL (la.setIfInBounds p.1.i true) (sgOf G.S sg p.1.o.dst) fr' es' F' m' (dropA p.1.i A) a w := by
  have hd := h.ok p hp
  have hdn := h.done p hp g hg
  obtain ⟨ko, hko, hrun⟩ := orFail_some hrun
  obtain ⟨d, hdst, hko⟩ := ob_some hko
  obtain ⟨ez, hez, hko⟩ := ob_some hko
  obtain rfl := Option.some.inj hko
  rw [hd.type] at hez
  obtain rfl := Option.some.inj hez
  obtain ⟨l, hl, hrun⟩ := aggR_some (show aggR ((locB (big p.1.i) sg).at fr es) _ = some y from hrun)
  rw [locB_at, h.ghost p hp] at hl
  obtain rfl := AV.agg.inj hl
  obtain ⟨b, m', F', hrun, hext, hF', hI', haway⟩ := land_some h.inv hd.den (show m.new p.1.e p.1.z p.1.l (fun b m => obR (nameOf p.1.x b) fun v => fin d kc ih fr es m v) = some y from hrun) hdn.cells (Nat.le_trans h.base hdn.up) hdn.away
  obtain ⟨x', hname, hden⟩ := hd.name F' b g hF'
  obtain ⟨x2, hx2, hrun⟩ := obR_some hrun
  rw [hname] at hx2
  obtain rfl := Option.some.inj hx2
  obtain ⟨fr', es', k1, k2, k3, k4⟩ := put_get (fr := fr) (es := es) hdst x'
  refine ⟨fr', es', m', F', ?_, ?_⟩
  · rw [← hrun]
    unfold fin
    rw [k1]
  · have hne : ∀ q ∈ A, q.1.i ≠ p.1.i → p.1.o.dst ≠ some q.1.t := fun q hq hne => (apart_of (h.free q hq p hp hne) (h.ok q hq).dst).2.1
    refine { base := h.base, ext := h.ext.trans hext, ar := ?_, inv := hI', fares := ⟨h.fares.below, fun g' hg' ha => ?_⟩, ok := fun q hq => (h.ok q (dropA_mem.1 hq).1).ext hext, wait := fun q hq => h.wait q (dropA_mem.1 hq).1, bad := ?_, done := ?_, apart := h.apart.filter _, each := ?_, free := fun q hq r hr => h.free q (dropA_mem.1 hq).1 r (dropA_mem.1 hr).1, ghost := ?_, loads := ?_, shut := ?_ }
    · refine ⟨h.ar.size, h.ar.slots.defers, fun s => ?_⟩
      by_cases hs : p.1.o.dst = some s
      · right
        rw [(k3 sg s hs).2, hden]
        rw [hd.dst] at hs
        rw [← Option.some.inj hs, hdn.slot]
      · rw [k2 sg s hs]
        exact (h.ar.ext hext).slots.held s
    · obtain ⟨j1, j2⟩ := h.fares.kept g' hg' ha
      exact ⟨haway g' (by have := hdn.up; omega) j1, j2⟩
    · intro q hq
      obtain ⟨hq1, hq2⟩ := dropA_mem.1 hq
      rw [k2 sg _ (hne q hq1 hq2)]
      exact h.bad q hq1
    · intro q hq g2 hg2
      obtain ⟨hq1, hq2⟩ := dropA_mem.1 hq
      have hdq := h.done q hq1 g2 hg2
      refine ⟨hdq.up, hdq.cells, haway g2 (fun e => ?_) hdq.away, hdq.slot⟩
      have key : ∀ q ∈ A, ∀ r ∈ A, q.1.i ≠ r.1.i → ∀ g, q.2 = some g → r.2 ≠ some g := by
        intro q hq r hr hqr g hg hrg
        exact apart_any h.apart hq hr (fun e => hqr (by rw [e])) g hg hrg
      exact key q hq1 p hp hq2 g (by rw [hg2, e]) hg
    · rw [dropA_ids]
      rw [← dropA_ids]
      exact (List.Sublist.map _ List.filter_sublist).nodup h.each
    · intro q hq
      rw [k4 _ sg (by show G.n ≤ 1000000 + _; omega)]
      exact h.ghost q (dropA_mem.1 hq).1
    · intro q hq
      rw [k4 _ sg (by show G.n ≤ 1000000 + _; omega)]
      exact ⟨(h.loads q hq).1.trans hext, (h.loads q hq).2⟩
    · rw [← markL_drop la p.1.i A hdone (List.mem_map.2 ⟨p, hp, rfl⟩)]
      exact h.shut

/-! ### A load that is taken -/
theorem getG_push {b : Nat} (hb : ¬ inS S b = true) (sg : List Nat) (fr : Fr) (es : Es) (e : AV) (s : Nat) : getG S (b :: sg) fr (e :: es) s = getG S sg fr es s := by
  by_cases hs : inS S s = true
  · rw [getG_in hs, getG_in hs]
    show te (Nat.beq b s) e (findE s sg es) = _
    rw [te_eq, if_neg (fun hh => hb (by rw [Nat.eq_of_beq_eq_true hh]; exact hs))]
  · by_cases h5 : s < 512
    · rw [getG_out hs h5, getG_out hs h5]
    · rw [getG_far hs h5, getG_far hs h5]
theorem findE_push (b t : Nat) (sg : List Nat) (es : Es) (e : AV) (h : b ≠ t) : findE t (b :: sg) (e :: es) = findE t sg es := by
  show te (Nat.beq b t) e (findE t sg es) = _
  rw [te_eq, if_neg (fun hh => h (Nat.eq_of_beq_eq_true hh))]
theorem findE_top (b : Nat) (sg : List Nat) (es : Es) (e : AV) : findE b (b :: sg) (e :: es) = e := by
  show te (Nat.beq b b) e _ = _
  rw [te_eq, if_pos (Nat.beq_refl b)]
theorem AR.push {b : Nat} (hb : ¬ inS S b = true) {F : Env} {sg : List Nat} {fr : Fr} {es : Es} {a : Act} (h : AR ρ F n S sg fr es a) (e : AV) : AR ρ F n S (b :: sg) fr (e :: es) a :=
  ⟨h.size, h.slots.defers, fun s => by rw [getG_push hb]; exact h.slots.held s⟩

theorem ld_take {ih : Rec} {sg : List Nat} {fr : Fr} {es : Es} {m : Mem} {o : Oper} {kc : KO} {y : Out} (hn : n ≤ 512) (h : (cLd P S sg n ops o kc).run ih fr es m = some y) :
    ∃ fr' es' e, kc.run ih fr' (e :: es') m = some y ∧ (∀ s, o.dst ≠ some s → getG S (sgOf S sg o.dst) fr' es' s = getG S sg fr es s) ∧ (∀ j, findE (big j) (sgOf S sg o.dst) es' = findE (big j) sg es) ∧
      ∀ base F w a, Inv ρ base F m w → AR ρ F n S sg fr es a → LdOk ρ F w e ∧ ∃ v, AR ρ F n S (sgOf S sg o.dst) fr' es' (a.put o.dst v) ∧ YieldsIf P ops (fun w' => LdOk ρ F w' e) o v a := by
  obtain ⟨ko, hko, h⟩ := orFail_some h
  obtain ⟨d, hd, hko⟩ := ob_some hko
  have goOn : ∀ v e, finL d kc ih fr es m v e = some y → ∃ fr' es', kc.run ih fr' (e :: es') m = some y ∧ (∀ s, o.dst ≠ some s → getG S (sgOf S sg o.dst) fr' es' s = getG S sg fr es s) ∧ (∀ j, findE (big j) (sgOf S sg o.dst) es' = findE (big j) sg es) ∧
      ∀ F a val, AR ρ F n S sg fr es a → den ρ F v = some val → AR ρ F n S (sgOf S sg o.dst) fr' es' (a.put o.dst val) := by
    intro v e hf
    obtain ⟨fr', es', h1, h2, h2', h3⟩ := put_get (fr := fr) (es := es) hd v
    refine ⟨fr', es', ?_, h2 sg, fun j => h3 (big j) sg (by show n ≤ 1000000 + j; omega), fun F a val hA hv => hA.put_got (h2 sg) (h2' sg) hv⟩
    rw [← hf]
    unfold finL
    rw [h1]
  have fire : ∀ v e, finL d kc ih fr es m v e = some y → (∀ (F : Env) (a : Act), AR ρ F n S sg fr es a → Region.wanted o (yielded ops a.tmps) = true) →
      (∀ (base : Nat) (F : Env) (w : World) (a : Act), Inv ρ base F m w → Held ρ F (getG S sg fr es) a → LdOk ρ F w e ∧ ∃ val, den ρ F v = some val ∧ ∀ w', LdOk ρ F w' e → (execOp a.eval o).run P w' = .ok (.value val) w') →
      ∃ fr' es' e, kc.run ih fr' (e :: es') m = some y ∧ (∀ s, o.dst ≠ some s → getG S (sgOf S sg o.dst) fr' es' s = getG S sg fr es s) ∧ (∀ j, findE (big j) (sgOf S sg o.dst) es' = findE (big j) sg es) ∧
        ∀ base F w a, Inv ρ base F m w → AR ρ F n S sg fr es a → LdOk ρ F w e ∧ ∃ v, AR ρ F n S (sgOf S sg o.dst) fr' es' (a.put o.dst v) ∧ YieldsIf P ops (fun w' => LdOk ρ F w' e) o v a := by
    intro v e hf hw hL
    obtain ⟨fr', es', h1, h2, h3, h4⟩ := goOn v e hf
    refine ⟨fr', es', e, h1, h2, h3, fun base F w a hI hA => ?_⟩
    obtain ⟨hok, val, hv, hrun⟩ := hL base F w a hI hA.slots
    exact ⟨hok, val, h4 F a val hA hv, .inl ⟨hw F a hA, hrun⟩⟩
  cases hg : o.guard with
  | none =>
    rw [hg] at hko
    obtain ⟨v, e, hf, hL⟩ := ld_some (ρ := ρ) hko h
    exact fire v e hf (fun F a hA => by unfold Region.wanted; rw [hg]) hL
  | some p =>
    obtain ⟨j, b⟩ := p
    rw [hg] at hko
    obtain rfl := Option.some.inj hko
    rcases isB_some (show isB b ((guardAt S sg ops j).at fr es) _ _ = some y from h) with ⟨hgv, h⟩ | ⟨h, hgv, hgn⟩
    · obtain ⟨ko2, hko2, h⟩ := orFail_some h
      obtain ⟨v, e, hf, hL⟩ := ld_some (ρ := ρ) hko2 h
      exact fire v e hf (fun F a hA => guard_yes hA.slots hg hgv) hL
    · obtain ⟨fr', es', h1, h2, h3, h4⟩ := goOn undefAV (.agg []) h
      exact ⟨fr', es', _, h1, h2, h3, fun base F w a hI hA => ⟨.inl rfl, undef, h4 F a undef hA (den_undef F), .inr ⟨guard_no hA.slots hg hgv hgn, rfl⟩⟩⟩

theorem apart_symm {x y : Oper} (h : x.apart ops y = true) : y.apart ops x = true := by
  unfold Oper.apart at *
  cases hx : x.dst <;> cases hy : y.dst <;> simp_all
  exact fun e => h.1.2 e.symm

theorem cntQ_cons (p : Nat × Nat) (l : List (Nat × Nat)) : cntQ (p :: l) = te (Nat.ble p.2 3) (Nat.succ (cntQ l)) (cntQ l) := rfl

/-- THE PLAN -/
theorem plan_sound {G : Reg} (hpl : Plainly G.P) (hoc : OrcOk ρ G.P oc) {ih : Rec} (hih : RecOk ρ G.P ih) (hn : G.n ≤ 512) (hcalm : Calm Q) (hsel : Region.noSelect G.ops = true) {kc : KO} {y : Out}
    (hQ : ∀ sg' fr' es' m' F' a' w', Ext G.F0 F' → AR ρ F' G.n G.S sg' fr' es' a' → Inv ρ G.base F' m' w' → Fares G.base G.F0 G.m0 G.w0 F' m' w' → kc.run ih fr' es' m' = some y → Q .normal a' w') :
    ∀ (l : List (Nat × Nat)) (LL : List (Nat × Env × AV)) (ms : List (Nat × Nat)) (sg : List Nat) (fr : Fr) (es : Es) (m : Mem), (cPlan G.P oc G.S G.n G.ops kc l (LL.map (·.1)) ms sg).run ih fr es m = some y → MasksOk G.ops ms →
    ∀ (F : Env) (A : Fls) (a : Act) (w : World) (la : Array Bool), goPlan G.ops l (LL.map (·.1)) (idsOf A) la = true → St ρ G LL la sg fr es F m A a w → wpAnyS G.P G.ops Q (Pres ρ G.ops LL) (cntQ l + unl A) (markL la (flOf A)) a w
  | [], LL, ms, sg, fr, es, m, h, hms, F, A, a, w, la, hgo, hst => by
    obtain ⟨h1, h2⟩ := both (show te (Nat.beq (idsOf A).length 0) (Region.ready .any G.ops la).isEmpty false = true from hgo)
    have hA : A = [] := by
      have := Nat.eq_of_beq_eq_true h1
      simpa [idsOf] using this
    subst hA
    exact wpAnyS_done (List.isEmpty_iff.1 h2) (hQ sg fr es m F a w hst.ext hst.ar hst.inv hst.fares h) _
  | (i, c) :: l, LL, ms, sg, fr, es, m, h, hms, F, A, a, w, la, hgo, hst => by
    have hgo' : te (Nat.beq c 0) (te (te (hasN i (idsOf A)) false true) (te (allFl (idsOf A) fun fl => te (hasN i (Region.ready .any G.ops (markL la fl))) (orUn i (Region.ready .any G.ops (markL la fl)) fl) false) (te (apartA G.ops i (idsOf A)) (goPlan G.ops l (LL.map (·.1)) (idsOf A) (la.setIfInBounds i true)) false) false) false)
      (te (Nat.beq c 1) (te (te (hasN i (idsOf A)) false true) (te (allFl (idsOf A) fun fl => te (hasN i (Region.ready .any G.ops (markL la fl))) (Region.free .any G.ops (markL la fl) i) false) (te (apartA G.ops i (idsOf A)) (goPlan G.ops l (LL.map (·.1)) (idsOf A) (la.setIfInBounds i true)) false) false) false)
      (te (Nat.beq c 2) (te (te (te (hasN i (idsOf A)) true (hasN i (LL.map (·.1)))) false true) (te (allFl (idsOf A) fun fl => te (hasN i (Region.ready .any G.ops (markL la fl))) (Region.free .any G.ops (markL la fl) i) false) (te (apartA G.ops i (idsOf A)) (goPlan G.ops l (i :: LL.map (·.1)) (idsOf A) (la.setIfInBounds i true)) false) false) false)
      (te (Nat.beq c 3) (te (te (te (hasN i (idsOf A)) true (hasN i (LL.map (·.1)))) false true) (te (apartA G.ops i (idsOf A)) (goPlan G.ops l (LL.map (·.1)) (i :: idsOf A) la) false) false)
        (te (hasN i (idsOf A)) (te (allFl (idsOf A) fun fl => te (isUn i fl) (te (Region.ready .any G.ops (markL la fl)).isEmpty false (unAll (Region.ready .any G.ops (markL la fl)) fl)) true) (goPlan G.ops l (LL.map (·.1)) (dropN i (idsOf A)) (la.setIfInBounds i true)) false) false)))) = true := hgo
    clear hgo
    obtain ⟨ko, hko, h⟩ := orFail_some h
    obtain ⟨o, ho, hko⟩ := ob_some hko
    have notN : ∀ {L : List Nat}, te (hasN i L) false true = true → i ∉ L := fun {L} h1 hm => by
      rw [hasN_iff.2 hm] at h1
      cases h1
    have notN2 : ∀ {L M : List Nat}, te (te (hasN i L) true (hasN i M)) false true = true → i ∉ L ∧ i ∉ M := fun {L M} h1 => by
      refine ⟨fun hm => ?_, fun hm => ?_⟩
      · rw [hasN_iff.2 hm] at h1
        cases h1
      · rw [hasN_iff.2 hm] at h1
        cases hb : hasN i L <;> rw [hb] at h1 <;> cases h1
    have hapart : ∀ {A' : Fls}, apartA G.ops i (idsOf A) = true → idsOf A' = idsOf A → (∀ p ∈ A', FdOk ρ G.P G.ops G.n p.1 F) → ∀ p ∈ A', p.1.o.apart G.ops o = true := fun {A'} h1 hids hok p hp =>
      apartA_mem ho h1 p.1.i (by rw [← hids]; exact List.mem_map.2 ⟨p, hp, rfl⟩) _ (hok p hp).op
    rw [te_eq] at hko hgo'
    by_cases hc0 : Nat.beq c 0 = true
    · rw [if_pos hc0] at hko hgo'
      have hc : c = 0 := Nat.eq_of_beq_eq_true hc0
      obtain rfl := Option.some.inj hko
      obtain ⟨g1, hgo'⟩ := both hgo'
      obtain ⟨g2, hgo'⟩ := both hgo'
      obtain ⟨g3, hgo'⟩ := both hgo'
      have hcnt : cntQ ((i, c) :: l) = cntQ l + 1 := by rw [cntQ_cons, hc]; rfl
      rw [hcnt]
      refine drift0 (i := i) (ids := idsOf A) (cnt := cntQ l) hsel (fun fl hfl => ?_) (fun A' a' w' hids hst' => ?_) (unl A) A a w rfl rfl hst
      · obtain ⟨j1, j2⟩ := both (allFl_at _ _ g2 fl hfl)
        exact ⟨hasN_iff.1 j1, orUn_mem j2⟩
      · have hap := hapart g3 hids hst'.ok
        have hmem : i ∈ Region.ready .any G.ops (markL la (flOf A')) := hasN_iff.1 (both (allFl_at _ _ g2 (flOf A') (by rw [flOf_ids, hids]))).1
        refine cOp_wpOp2 hpl hoc hih ho h hst'.inv hst'.ar (fun fr' es' m' F' a2 w2 k1 k2 k3 k4 k5 k6 k7 k8 => ?_)
        have hbig : ∀ j, findE (big j) (sgOf G.S sg o.dst) es' = findE (big j) sg es := fun j => k5 (big j) (by show G.n ≤ 1000000 + j; omega)
        have hst2 := hst'.next hsel hap hmem k1 k2 k3 k4 (fun q _ => hbig q.1) (fun p _ => hbig p.1.i) k7 k8
        have rest : (cPlan G.P oc G.S G.n G.ops kc l (LL.map (·.1)) ((i, edgeM ms o.after.toList) :: ms) (sgOf G.S sg o.dst)).run ih fr' es' m' = some y → wpAnyS G.P G.ops Q (Pres ρ G.ops LL) (cntQ l + unl A') ((markL la (flOf A')).setIfInBounds i true) a2 w2 := fun hr => by
          rw [← markL_set]
          exact plan_sound hpl hoc hih hn hcalm hsel hQ l LL _ _ fr' es' m' hr (masks_cons hms ho) F' A' a2 w2 _ (by rw [hids]; exact hgo') hst2
        rw [te_eq] at k6
        by_cases hbits : waits (LL.map (·.1)) (edgeM ms o.after.toList) = true
        · rw [if_pos hbits] at k6
          refine ⟨fun ⟨q, hq, hnd⟩ => absurd (waits_dep hms ho hbits (List.mem_map.2 ⟨q, hq, rfl⟩)) hnd, rest k6⟩
        · rw [if_neg hbits] at k6
          obtain ⟨k6, hck⟩ := opCheck_some (ρ := ρ) _ (show opCheck ((LL.map (·.1)).map fun j => locB (big j) (sgOf G.S sg o.dst)) _ ih fr' es' m' = some y from k6)
          refine ⟨fun _ q hq hL => ?_, rest k6⟩
          have h1 := hck (locB (big q.1) (sgOf G.S sg o.dst)) (List.mem_map.2 ⟨q.1, List.mem_map.2 ⟨q, hq, rfl⟩, rfl⟩) ((hst'.loads q hq).1.trans k1) k3 (w0 := w')
          rw [locB_at, hbig, (hst'.loads q hq).2] at h1
          exact h1 hL
    rw [if_neg hc0, te_eq] at hko hgo'
    by_cases hc1 : Nat.beq c 1 = true
    · rw [if_pos hc1] at hko hgo'
      have hc : c = 1 := Nat.eq_of_beq_eq_true hc1
      obtain ⟨hp0, hko⟩ := gd_some hko
      obtain rfl := Option.some.inj hko
      obtain ⟨g1, hgo'⟩ := both hgo'
      obtain ⟨g2, hgo'⟩ := both hgo'
      obtain ⟨g3, hgo'⟩ := both hgo'
      have hcnt : cntQ ((i, c) :: l) + unl A = (cntQ l + unl A) + 1 := by rw [cntQ_cons, hc]; show cntQ l + 1 + unl A = _; omega
      rw [hcnt]
      obtain ⟨j1, j2⟩ := both (allFl_at _ _ g2 (flOf A) (flOf_ids A))
      have hmem := hasN_iff.1 j1
      obtain ⟨fr', es', h1, h2, h3, h4⟩ := take_some2 (ρ := ρ) (ops := G.ops) hoc hn hp0 h
      obtain ⟨v, hA', hy⟩ := h4 F a hst.ar
      have hst2 := hst.next hsel (hapart g3 rfl hst.ok) hmem (Ext.refl F) hA' hst.inv (Fares.refl _ _ _ _) (fun q _ => h3 q.1) (fun p _ => h3 p.1.i) h2 ⟨v, rfl⟩
      have hrest := plan_sound hpl hoc hih hn hcalm hsel hQ l LL _ _ fr' es' m h1 (masks_cons hms ho) F A _ w _ hgo' hst2
      rw [markL_set] at hrest
      exact wpAnyS_first (T := fun _ => True) ho (Region.noSelect_spec hsel) (fun c a w => hcalm c _ _ w) (fun _ _ _ _ _ _ => trivial) (Pres.same LL i) _ _ a w hst.shut (Region.free_spec ho j2) hmem hy trivial hrest
    rw [if_neg hc1, te_eq] at hko hgo'
    by_cases hc2 : Nat.beq c 2 = true
    · rw [if_pos hc2] at hko hgo'
      have hc : c = 2 := Nat.eq_of_beq_eq_true hc2
      obtain ⟨hp0, hko⟩ := gd_some hko
      rw [te_eq] at hko
      by_cases hbigS : inS G.S (big i) = true
      · rw [if_pos hbigS] at hko
        cases hko
      rw [if_neg hbigS] at hko
      obtain rfl := Option.some.inj hko
      obtain ⟨g1, hgo'⟩ := both hgo'
      obtain ⟨g2, hgo'⟩ := both hgo'
      obtain ⟨g3, hgo'⟩ := both hgo'
      obtain ⟨n1, n2⟩ := notN2 g1
      have hcnt : cntQ ((i, c) :: l) + unl A = (cntQ l + unl A) + 1 := by rw [cntQ_cons, hc]; show cntQ l + 1 + unl A = _; omega
      rw [hcnt]
      obtain ⟨j1, j2⟩ := both (allFl_at _ _ g2 (flOf A) (flOf_ids A))
      have hmem := hasN_iff.1 j1
      obtain ⟨fr', es', e, h1, h2, h3, h4⟩ := ld_take (ρ := ρ) (P := G.P) (ops := G.ops) hn h
      obtain ⟨hL, v, hA', hy⟩ := h4 G.base F w a hst.inv hst.ar
      have hpushN : ∀ j, j ≠ i → findE (big j) (big i :: sgOf G.S sg o.dst) (e :: es') = findE (big j) sg es := fun j hj => by
        rw [findE_push _ _ _ _ _ (fun hh => hj (by have : 1000000 + i = 1000000 + j := hh; omega)), h3]
      have hst2 := hst.next hsel (hapart g3 rfl hst.ok) hmem (Ext.refl F) (hA'.push hbigS e) hst.inv (Fares.refl _ _ _ _)
        (fun q hq => hpushN q.1 (fun hh => n2 (List.mem_map.2 ⟨q, hq, hh⟩))) (fun p hp => hpushN p.1.i (fun hh => n1 (List.mem_map.2 ⟨p, hp, hh⟩))) (fun s hs => by rw [getG_push hbigS]; exact h2 s hs) ⟨v, rfl⟩
      have hst3 := hst2.more (i := i) (findE_top _ _ _ _)
      have hrest := plan_sound hpl hoc hih hn hcalm hsel hQ l ((i, F, e) :: LL) _ _ fr' (e :: es') m h1 (masks_cons hms ho) F A _ w _ hgo' hst3
      rw [markL_set] at hrest
      refine wpAnyS_mono (fun j w1 w2 hp => hp.tail) _ _ _ _ (wpAnyS_first (S := Pres ρ G.ops ((i, F, e) :: LL)) (T := fun w' => LdOk ρ F w' e) ho (Region.noSelect_spec hsel) (fun c a w => hcalm c _ _ w) (fun j w1 w2 hnd hT hS => ?_) (Pres.same _ i) _ _ a w hst.shut (Region.free_spec ho j2) hmem hy hL hrest)
      exact hS ⟨(i, F, e), by simp, hnd⟩ (i, F, e) (by simp) hT
    rw [if_neg hc2, te_eq] at hko hgo'
    by_cases hc3 : Nat.beq c 3 = true
    · rw [if_pos hc3] at hko hgo'
      have hc : c = 3 := Nat.eq_of_beq_eq_true hc3
      obtain rfl := Option.some.inj hko
      obtain ⟨g1, hgo'⟩ := both hgo'
      obtain ⟨g3, hgo'⟩ := both hgo'
      obtain ⟨n1, n2⟩ := notN2 g1
      obtain ⟨ko, hko, h⟩ := orFail_some h
      obtain ⟨u1, hko⟩ := gd_some hko
      obtain ⟨u2, hko⟩ := gd_some hko
      obtain ⟨d, hd, hko⟩ := ob_some hko
      obtain ⟨ez, hez, hko⟩ := ob_some hko
      obtain ⟨f, hf, hko⟩ := ob_some hko
      rw [te_eq] at hko
      by_cases hbigS : inS G.S (big i) = true
      · rw [if_pos hbigS] at hko
        cases hko
      rw [if_neg hbigS] at hko
      obtain rfl := Option.some.inj hko
      obtain ⟨t, ht⟩ : ∃ t, o.dst = some t := by
        unfold hasDst at u2
        cases hdd : o.dst with
        | none => rw [hdd] at u2; cases u2
        | some t => exact ⟨t, rfl⟩
      have hguard : o.guard = none := by
        unfold noGuard at u1
        cases hdd : o.guard with
        | none => rfl
        | some t => rw [hdd] at u1; cases u1
      obtain ⟨e, z⟩ := ez
      obtain ⟨x, ll, h, hmade⟩ := made_some (ρ := ρ) (P := G.P) hez hf (show f.run fr es (fun l' => d.put fr es .bad fun fr es => (cPlan G.P oc G.S G.n G.ops kc l (LL.map (·.1)) ((i, edgeM ms o.after.toList) :: ms) (big i :: sgOf G.S sg o.dst)).run ih fr (.agg l' :: es) m) = some y from h)
      obtain ⟨vs, V, hden, hrun, hname⟩ := hmade F a hst.ar.slots
      obtain ⟨fr', es', k1, k2, k3, k4⟩ := put_get (fr := fr) (es := es) hd .bad
      rw [k1] at h
      obtain ⟨hlt, hbad⟩ := k3 sg t ht
      have hbig : ∀ j, findE (big j) (sgOf G.S sg o.dst) es' = findE (big j) sg es := fun j => k4 (big j) sg (by show G.n ≤ 1000000 + j; omega)
      have hpushN : ∀ j, j ≠ i → findE (big j) (big i :: sgOf G.S sg o.dst) (.agg (x :: ll) :: es') = findE (big j) sg es := fun j hj => by
        rw [findE_push _ _ _ _ _ (fun hh => hj (by have : 1000000 + i = 1000000 + j := hh; omega)), hbig]
      have hap := hapart g3 rfl hst.ok
      have hne : ∀ p ∈ A, o.dst ≠ some p.1.t := fun p hp => (apart_of (hap p hp) (hst.ok p hp).dst).2.1
      have hA' : AR ρ F G.n G.S (sgOf G.S sg o.dst) fr' es' a := by
        refine ⟨hst.ar.size, hst.ar.slots.defers, fun s => ?_⟩
        by_cases hs : o.dst = some s
        · exact .inl (k3 sg s hs).2
        · rw [k2 sg s hs]; exact hst.ar.slots.held s
      have hfl : markL la (flOf ((⟨i, o, e, z, x, ll, vs, V, t⟩, none) :: A)) = markL la (flOf A) := by
        show markL la ((i, false) :: flOf A) = _
        rw [markL_cons]
        rfl
      have hst2 : St ρ G LL la (big i :: sgOf G.S sg o.dst) fr' (.agg (x :: ll) :: es') F m ((⟨i, o, e, z, x, ll, vs, V, t⟩, none) :: A) a w := by
        refine { base := hst.base, ext := hst.ext, ar := hA'.push hbigS _, inv := hst.inv, fares := hst.fares, ok := ?_, wait := ?_, bad := ?_, done := ?_, apart := List.pairwise_cons.2 ⟨fun q _ g hg => (by cases hg), hst.apart⟩, each := List.nodup_cons.2 ⟨n1, hst.each⟩, free := ?_, ghost := ?_, loads := ?_, shut := by rw [hfl]; exact hst.shut }
        · intro p hp
          rcases List.mem_cons.1 hp with rfl | hp
          · exact ⟨ho, hguard, ht, hlt, hez, hden, hname⟩
          · exact hst.ok p hp
        · intro p hp hpn
          rcases List.mem_cons.1 hp with rfl | hp
          · exact hrun
          · exact hst.wait p hp hpn
        · intro p hp
          rw [getG_push hbigS]
          rcases List.mem_cons.1 hp with rfl | hp
          · exact hbad
          · rw [k2 sg _ (hne p hp)]; exact hst.bad p hp
        · intro p hp g hg
          rcases List.mem_cons.1 hp with rfl | hp
          · cases hg
          · exact hst.done p hp g hg
        · intro p hp q hq hpq
          rcases List.mem_cons.1 hp with rfl | hp <;> rcases List.mem_cons.1 hq with rfl | hq
          · exact absurd rfl hpq
          · exact apart_symm (hap q hq)
          · exact hap p hp
          · exact hst.free p hp q hq hpq
        · intro p hp
          rcases List.mem_cons.1 hp with rfl | hp
          · exact findE_top _ _ _ _
          · rw [hpushN p.1.i (fun hh => n1 (List.mem_map.2 ⟨p, hp, hh⟩))]; exact hst.ghost p hp
        · intro q hq
          rw [hpushN q.1 (fun hh => n2 (List.mem_map.2 ⟨q, hq, hh⟩))]
          exact hst.loads q hq
      have hrest := plan_sound hpl hoc hih hn hcalm hsel hQ l LL _ _ fr' _ m h (masks_cons hms ho) F ((⟨i, o, e, z, x, ll, vs, V, t⟩, none) :: A) a w la hgo' hst2
      rw [hfl] at hrest
      have hcnt : cntQ ((i, c) :: l) + unl A = cntQ l + unl ((⟨i, o, e, z, x, ll, vs, V, t⟩, none) :: A) := by
        rw [cntQ_cons, hc]
        show cntQ l + 1 + unl A = cntQ l + (unl A + 1)
        omega
      rw [hcnt]
      exact hrest
    rw [if_neg hc3] at hko hgo'
    obtain rfl := Option.some.inj hko
    obtain ⟨g1, hgo'⟩ := both hgo'
    obtain ⟨g2, hgo'⟩ := both hgo'
    have hcge : ¬ Nat.ble c 3 = true := fun hle => by
      have := Nat.le_of_ble_eq_true hle
      rcases c with _ | _ | _ | _ | c
      · exact hc0 rfl
      · exact hc1 rfl
      · exact hc2 rfl
      · exact hc3 rfl
      · omega
    have hcnt : cntQ ((i, c) :: l) = cntQ l := by rw [cntQ_cons, te_eq, if_neg hcge]
    rw [hcnt]
    have hin : i ∈ idsOf A := hasN_iff.1 g1
    refine drift4 (i := i) (ids := idsOf A) (cnt := cntQ l) hsel (fun fl hfl hun => ?_) (fun A' a' w' hids hnot hst' => ?_) (unl A) A a w rfl rfl hst
    · have h1 := allFl_at _ _ g2 fl hfl
      rw [te_eq, if_pos (isUn_of hun), te_eq] at h1
      split at h1
      · cases h1
      · rename_i hne
        exact ⟨fun h0 => hne (List.isEmpty_iff.2 h0), unAll_mem h1⟩
    · have hdone : ∀ q ∈ A', q.1.i = i → q.2.isSome = true := fun q hq hqi => by
        cases hs : q.2 with
        | some g => rfl
        | none => exact absurd (List.mem_map.2 ⟨q, hq, by rw [hqi, hs]; rfl⟩) hnot
      obtain ⟨p, hp, hpi⟩ := List.mem_map.1 (show i ∈ idsOf A' by rw [hids]; exact hin)
      have hpi : p.1.i = i := hpi
      obtain ⟨g, hg⟩ := Option.isSome_iff_exists.1 (hdone p hp hpi)
      have hpo : p.1.o = o := by
        have h1 := (hst'.ok p hp).op
        rw [hpi, ho] at h1
        exact (Option.some.inj h1).symm
      obtain ⟨fr', es', m', F', h1, hst2⟩ := land_st hn hst' hp hg (fun q hq hqi => hdone q hq (hqi.trans hpi)) (ih := ih) (kc := cPlan G.P oc G.S G.n G.ops kc l (LL.map (·.1)) ms (sgOf G.S sg o.dst)) (y := y) (by rw [hpi, hpo]; exact h)
      rw [hpi, hpo] at hst2
      have hrest := plan_sound hpl hoc hih hn hcalm hsel hQ l LL _ _ fr' es' m' h1 hms F' _ a' w' _ (by rw [dropA_ids, hids]; exact hgo') hst2
      rw [unl_drop i A' hdone, ← markL_drop la i A' hdone (by rw [hids]; exact hin)] at hrest
      exact hrest

/-- THE REGION -/
theorem planned_sound (hmix : P.follows .mixedOrders = true) (hpl : Plainly P) (hoc : OrcOk ρ P oc) {ih : Rec} (hih : RecOk ρ P ih) (hn : n ≤ 512) (hcalm : Calm Q) {l : List (Nat × Nat)} (hs : planOk ops l = true) {id : Nat} {kc : KO} {y : Out} {fr : Fr} {m : Mem}
    (h : (cPlan P oc S n ops kc l [] [] []).run ih fr [] m = some y) {base : Nat} {F : Env} {w : World} {a : Act} (hI : Inv ρ base F m w) (hA : AR ρ F n S [] fr [] a)
    (hQ : ∀ sg' fr' es' m' F' a' w', Ext F F' → AR ρ F' n S sg' fr' es' a' → Inv ρ base F' m' w' → Fares base F m w F' m' w' → kc.run ih fr' es' m' = some y → Q .normal a' w') : (Code.region id ops true).wp P Q a w := by
  obtain ⟨hsel, hs2⟩ := both (show te (Region.noSelect ops) (te (Nat.beq (cntQ l) ops.size) (goPlan ops l [] [] (Array.replicate ops.size false)) false) false = true from hs)
  obtain ⟨hlen, hgo⟩ := both hs2
  have hlen' : cntQ l = ops.size := Nat.eq_of_beq_eq_true hlen
  have hdr : Below w.heap.size w { w with drawn := w.drawn + 1 } := (Below.refl _ w).drew
  have hdb : Fares base F m w F m { w with drawn := w.drawn + 1 } := Fares.above hI.size hdr
  refine wp_region_any hmix (wpAny_of_S (S := Pres ρ ops []) _ _ _ _ ?_)
  have key := plan_sound (G := ⟨base, F, m, { w with drawn := w.drawn + 1 }, ops, P, n, S⟩) hpl hoc hih hn hcalm hsel (kc := kc) (y := y)
    (fun sg' fr' es' m' F' a' w' k1 k2 k3 k4 k5 => hQ sg' fr' es' m' F' a' w' k1 k2 k3 (hdb.trans k4) k5) l [] [] [] fr [] m h masks_nil F [] a { w with drawn := w.drawn + 1 } (Array.replicate ops.size false) hgo
    { base := hI.size, ext := Ext.refl F, ar := hA, inv := hI.below hdr, fares := Fares.refl _ _ _ _, ok := (fun _ h => nomatch h), wait := (fun _ h => nomatch h), bad := (fun _ h => nomatch h), done := (fun _ h => nomatch h), apart := .nil, each := .nil, free := (fun _ h => nomatch h), ghost := (fun _ h => nomatch h), loads := (fun _ h => nomatch h), shut := Shut.none }
  have e1 : cntQ l + unl [] = ops.size := by rw [hlen']; rfl
  rw [e1] at key
  exact key

end Go.Proofs.YtplnnlnkcfappaaGreat.E3
