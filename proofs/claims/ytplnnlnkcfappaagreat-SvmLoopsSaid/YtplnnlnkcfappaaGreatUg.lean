/- SvmLoops: a law for a region that draws its order; the region that makes the text. -/
import Derived.Orders
import Derived.WalkKit
import Derived.Test.YtplnnlnkcfappaaGreatUb
import Derived.Great.BuildSlice
namespace Go.Proofs.YtplnnlnkcfappaaGreat.Sv
open Go.RowKit E3
set_option linter.unusedSimpArgs false
set_option linter.unusedVariables false

section

variable {P : Program} {ops : Array Oper} {Q : Exit → Act → World → Prop}

/-- the state with the values of those that have come up -/
def putAll (la : Array Bool) (V : Nat → Value) (A : Act) : List (Nat × Tmp) → Act
  | [] => A
  | p :: l => if la.getD p.1 false = true then (putAll la V A l).put (some p.2) (V p.1) else putAll la V A l
def updV (V : Nat → Value) (i : Nat) (v : Value) : Nat → Value := fun j => if j = i then v else V j

theorem getD_self {la : Array Bool} {i : Nat} (h : la.getD i true = false) : (la.setIfInBounds i true).getD i false = true := by
  rcases Nat.lt_or_ge i la.size with h' | h'
  · simp [Array.getD_eq_getD_getElem?, h']
  · simp [Array.getElem?_eq_none h'] at h

theorem putAll_skip (la : Array Bool) (V : Nat → Value) (A : Act) (i : Nat) (v : Value) : ∀ ds : List (Nat × Tmp), i ∉ ds.map (·.1) → putAll (la.setIfInBounds i true) (updV V i v) A ds = putAll la V A ds
  | [], _ => rfl
  | p :: l, h => by
    simp only [List.map_cons, List.mem_cons, not_or] at h
    unfold putAll
    rw [getD_set_ne false h.1, putAll_skip la V A i v l h.2]
    simp only [updV, if_neg (fun e : p.1 = i => h.1 e.symm)]

theorem putAll_set (la : Array Bool) (V : Nat → Value) (A : Act) (i : Nat) (t : Tmp) (v : Value) (hi : la.getD i true = false) :
    ∀ ds : List (Nat × Tmp), (ds.map (·.1)).Nodup → (ds.map (·.2)).Nodup → (i, t) ∈ ds → (putAll la V A ds).put (some t) v = putAll (la.setIfInBounds i true) (updV V i v) A ds
  | [], _, _, h => by cases h
  | p :: l, h1, h2, h => by
    simp only [List.map_cons, List.nodup_cons] at h1 h2
    have hif : la.getD i false = false := by
      rw [Array.getD_eq_getD_getElem?] at hi ⊢
      cases hg : la[i]? with
      | none => rfl
      | some b => rw [hg] at hi; simpa using hi
    rcases List.mem_cons.1 h with rfl | h
    · unfold putAll
      rw [getD_self hi, hif, if_neg (by decide), if_pos rfl, putAll_skip la V A i v l h1.1]
      simp [updV]
    · have hne : i ≠ p.1 := fun e => h1.1 (e ▸ List.mem_map.2 ⟨_, h, rfl⟩)
      have htn : t ≠ p.2 := fun e => h2.1 (e ▸ List.mem_map.2 ⟨_, h, rfl⟩)
      unfold putAll
      rw [getD_set_ne false hne, ← putAll_set la V A i t v hi l h1.2 h2.2 h]
      simp only [updV, if_neg (fun e : p.1 = i => hne e.symm)]
      split
      · rw [Act.put_comm]
        intro d hd
        injection hd with hd
        subst hd
        intro e
        injection e with e
        exact htn e
      · rfl

theorem put_size (a : Act) (t : Option Tmp) (v : Value) : (a.put t v).tmps.size = a.tmps.size := by
  cases t <;> simp [Act.put]
theorem putAll_size (la : Array Bool) (V : Nat → Value) (A : Act) : ∀ ds, (putAll la V A ds).tmps.size = A.tmps.size
  | [] => rfl
  | p :: l => by
    unfold putAll
    split
    · rw [put_size, putAll_size la V A l]
    · exact putAll_size la V A l
theorem put_getD (a : Act) (t s : Tmp) (v : Value) (hs : s < a.tmps.size) : (a.put (some t) v).tmps.getD s undef = if t = s then v else a.tmps.getD s undef := by
  simp only [Act.put, Array.getD_eq_getD_getElem?, Array.getElem?_setIfInBounds]
  split
  · rename_i h
    subst h
    simp [hs]
  · rfl
/-- what one of them has left -/
theorem putAll_get (la : Array Bool) (V : Nat → Value) (A : Act) (i : Nat) (t : Tmp) (hi : la.getD i false = true) (ht : t < A.tmps.size) :
    ∀ ds : List (Nat × Tmp), (ds.map (·.2)).Nodup → (i, t) ∈ ds → (putAll la V A ds).tmps.getD t undef = V i
  | [], _, h => by cases h
  | p :: l, h2, h => by
    simp only [List.map_cons, List.nodup_cons] at h2
    unfold putAll
    rcases List.mem_cons.1 h with rfl | h
    · rw [if_pos hi, put_getD _ _ _ _ (by rw [putAll_size]; exact ht), if_pos rfl]
    · have htn : p.2 ≠ t := fun e => h2.1 (e ▸ List.mem_map.2 ⟨_, h, rfl⟩)
      split
      · rw [put_getD _ _ _ _ (by rw [putAll_size]; exact ht), if_neg htn, putAll_get la V A i t hi ht l h2.2 h]
      · exact putAll_get la V A i t hi ht l h2.2 h
/-- what another slot has -/
theorem putAll_other (la : Array Bool) (V : Nat → Value) (A : Act) (t : Tmp) (ht : t < A.tmps.size) : ∀ ds : List (Nat × Tmp), t ∉ ds.map (·.2) → (putAll la V A ds).tmps.getD t undef = A.tmps.getD t undef
  | [], _ => rfl
  | p :: l, h => by
    simp only [List.map_cons, List.mem_cons, not_or] at h
    unfold putAll
    by_cases hc : la.getD p.1 false = true
    · rw [if_pos hc]
      refine (put_getD _ _ _ _ (by rw [putAll_size]; exact ht)).trans ?_
      rw [if_neg (fun e => h.1 e.symm)]
      exact putAll_other la V A t ht l h.2
    · rw [if_neg hc]
      exact putAll_other la V A t ht l h.2

/-- how many have not come up yet -/
def unlisted (la : Array Bool) : List (Nat × Tmp) → Nat
  | [] => 0
  | p :: l => (if la.getD p.1 false = true then 0 else 1) + unlisted la l
theorem unlisted_skip (la : Array Bool) (i : Nat) : ∀ ds : List (Nat × Tmp), i ∉ ds.map (·.1) → unlisted (la.setIfInBounds i true) ds = unlisted la ds
  | [], _ => rfl
  | p :: l, h => by
    simp only [List.map_cons, List.mem_cons, not_or] at h
    unfold unlisted
    rw [getD_set_ne false h.1, unlisted_skip la i l h.2]
theorem unlisted_set (la : Array Bool) (i : Nat) (t : Tmp) (hi : la.getD i true = false) : ∀ ds : List (Nat × Tmp), (ds.map (·.1)).Nodup → (i, t) ∈ ds → unlisted la ds = unlisted (la.setIfInBounds i true) ds + 1
  | [], _, h => by cases h
  | p :: l, h1, h => by
    simp only [List.map_cons, List.nodup_cons] at h1
    have hif : la.getD i false = false := by
      rw [Array.getD_eq_getD_getElem?] at hi ⊢
      cases hg : la[i]? with
      | none => rfl
      | some b => rw [hg] at hi; simpa using hi
    unfold unlisted
    rcases List.mem_cons.1 h with rfl | h
    · rw [getD_self hi, hif, unlisted_skip la i l h1.1]
      simp; omega
    · have hne : i ≠ p.1 := fun e => h1.1 (e ▸ List.mem_map.2 ⟨_, h, rfl⟩)
      rw [getD_set_ne false hne, unlisted_set la i t hi l h1.2 h]
      omega
theorem unlisted_all {la : Array Bool} : ∀ {ds : List (Nat × Tmp)}, unlisted la ds = 0 → ∀ p ∈ ds, la.getD p.1 false = true
  | [], _, p, h => by cases h
  | q :: l, h0, p, h => by
    unfold unlisted at h0
    rcases List.mem_cons.1 h with rfl | h
    · by_cases hc : la.getD p.1 false = true
      · exact hc
      · rw [if_neg hc] at h0; omega
    · exact unlisted_all (by omega) p h
theorem unlisted_none {la : Array Bool} : ∀ {ds : List (Nat × Tmp)}, (∀ p ∈ ds, la.getD p.1 false = true) → unlisted la ds = 0
  | [], _ => rfl
  | q :: l, h => by
    unfold unlisted
    rw [if_pos (h q (by simp)), unlisted_none (fun p hp => h p (by simp [hp]))]

/-- what is known while the operations of ds come up -/
structure Facts (ds : List (Nat × Tmp)) (F : Nat → Value → World → Prop) (A0 : Act) (w0 : World) (la : Array Bool) (V : Nat → Value) (w : World) : Prop where
  below : Below w0.heap.size w0 w
  size : la.size = ops.size
  others : ∀ k, k ∉ ds.map (·.1) → la.getD k false = false
  fact : ∀ p ∈ ds, la.getD p.1 false = true → F p.1 (V p.1) w

theorem wpAny_grow {ds : List (Nat × Tmp)} {F : Nat → Value → World → Prop} {A0 : Act} {w0 : World} {m : Nat} (hd1 : (ds.map (·.1)).Nodup) (hd2 : (ds.map (·.2)).Nodup)
    (hstab : ∀ j v w w', F j v w → Below w.heap.size w w' → F j v w')
    (hphase : ∀ (la : Array Bool) i o, ops[i]? = some o → la.size = ops.size → (∀ k, k ∉ ds.map (·.1) → la.getD k false = false) → (∀ (k : Nat) (o : Oper), k ∈ ds.map (·.1) → ops[k]? = some o → la.getD k false = true → ∀ e ∈ o.after, Region.binds .any e = true → la.getD e.on false = true) →
      (∀ e ∈ o.after, Region.binds .any e = true → la.getD e.on false = true) → i ∉ ds.map (·.1) → ∀ p ∈ ds, la.getD p.1 false = true)
    (hstep : ∀ la V w q o, q ∈ ds → ops[q.1]? = some o → Facts (ops := ops) ds F A0 w0 la V w → (∀ e ∈ o.after, Region.binds .any e = true → la.getD e.on false = true) →
      wpOp P ops Q q.1 (fun a' w' => ∃ v, a' = (putAll la V A0 ds).put (some q.2) v ∧ Below w.heap.size w w' ∧ F q.1 v w') (putAll la V A0 ds) w)
    (hlast : ∀ la V w, Facts (ops := ops) ds F A0 w0 la V w → (∀ p ∈ ds, la.getD p.1 false = true) → wpAny P .any ops Q m la (putAll la V A0 ds) w) :
    ∀ (k : Nat) (la : Array Bool) (V : Nat → Value) (w : World), unlisted la ds = k → Facts (ops := ops) ds F A0 w0 la V w →
      (∀ (k : Nat) (o : Oper), k ∈ ds.map (·.1) → ops[k]? = some o → la.getD k false = true → ∀ e ∈ o.after, Region.binds .any e = true → la.getD e.on false = true) →
      (k ≠ 0 → ∃ i, i ∈ Region.ready .any ops la) ∨ True → (∀ la, (∃ p ∈ ds, la.getD p.1 false = false) → la.size = ops.size → (∀ k, k ∉ ds.map (·.1) → la.getD k false = false) → Region.ready .any ops la ≠ []) →
      wpAny P .any ops Q (k + m) la (putAll la V A0 ds) w := by
  intro k
  induction k with
  | zero =>
    intro la V w hu hf hsh _ _
    rw [Nat.zero_add]
    exact hlast la V w hf (unlisted_all hu)
  | succ k ih =>
    intro la V w hu hf hsh _ hne
    have hex : ∃ p ∈ ds, la.getD p.1 false = false := by
      refine Classical.byContradiction fun hcon => ?_
      have h0 : ∀ p ∈ ds, la.getD p.1 false = true := fun p hp => by
        cases hc : la.getD p.1 false
        · exact (hcon ⟨p, hp, hc⟩).elim
        · rfl
      rw [unlisted_none h0] at hu
      cases hu
    rw [show k + 1 + m = (k + m) + 1 by omega]
    refine ⟨fun h => (hne la hex hf.size hf.others h).elim, fun i hi => ?_⟩
    obtain ⟨hun, o, ho, hall⟩ := mem_ready.1 hi
    have hin : i ∈ ds.map (·.1) := by
      refine Classical.byContradiction fun hcon => ?_
      obtain ⟨p, hp, h0⟩ := hex
      have := hphase la i o ho hf.size hf.others hsh hall hcon p hp
      rw [this] at h0
      cases h0
    obtain ⟨q, hq, rfl⟩ := List.mem_map.1 hin
    refine wpOp_mono ?_ (hstep la V w q o hq ho hf hall)
    rintro a' w' ⟨v, rfl, hb, hF⟩
    rw [putAll_set la V A0 q.1 q.2 v hun ds hd1 hd2 hq]
    refine ih _ _ _ (by have := unlisted_set la q.1 q.2 hun ds hd1 hq; omega) ⟨hf.below.trans (hb.mono hf.below.size), by simpa using hf.size, ?_, ?_⟩ ?_ (.inr trivial) hne
    · intro k hk
      have hqk : q.1 ≠ k := by intro e; rw [← e] at hk; exact hk hin
      rw [getD_set_ne false hqk]
      exact hf.others k hk
    · intro p hp hl
      by_cases hpq : q.1 = p.1
      · rw [← hpq]
        simpa [updV] using hF
      · rw [getD_set_ne false hpq] at hl
        simp only [updV, if_neg (fun e : p.1 = q.1 => hpq e.symm)]
        exact hstab _ _ _ _ (hf.fact p hp hl) hb
    · intro j oj hj hoj hl e he hb'
      by_cases hjq : q.1 = j
      · subst hjq
        rw [ho] at hoj
        obtain rfl := Option.some.inj hoj
        exact getD_set_true (hall e he hb')
      · rw [getD_set_ne false hjq] at hl
        exact getD_set_true (hsh j oj hj hoj hl e he hb')

/-- what an operation waits for -/
def depsOf (ops : Array Oper) (i : Nat) : List Nat := match ops[i]? with | none => [] | some o => (o.after.toList.filter (Region.binds .any)).map (·.on)
def close (ops : Array Oper) : Nat → List Nat → List Nat
  | 0, S => S
  | n + 1, S => close ops n (S ++ (S.map (depsOf ops)).flatten)
def inD (ds : List (Nat × Tmp)) (i : Nat) : Bool := (ds.map (·.1)).contains i
/-- all others wait for all of ds -/
def phaseOk (ops : Array Oper) (ds : List (Nat × Tmp)) (r : Nat) : Bool :=
  (List.range ops.size).all fun i => inD ds i || (depsOf ops i).any (fun d => !inD ds d) || ds.all (fun p => (close ops r (depsOf ops i)).contains p.1)
def backOk (ops : Array Oper) : Bool := (List.range ops.size).all fun i => (depsOf ops i).all fun d => Nat.blt d i

theorem mem_depsOf {i : Nat} {o : Oper} (ho : ops[i]? = some o) {d : Nat} : d ∈ depsOf ops i ↔ ∃ e ∈ o.after, Region.binds .any e = true ∧ e.on = d := by
  unfold depsOf
  simp only [ho, List.mem_map, List.mem_filter, Array.mem_toList_iff]
  constructor
  · rintro ⟨e, ⟨h1, h2⟩, h3⟩; exact ⟨e, h1, h2, h3⟩
  · rintro ⟨e, h1, h2, h3⟩; exact ⟨e, ⟨h1, h2⟩, h3⟩
theorem close_listed {ds : List (Nat × Tmp)} {la : Array Bool} (hoth : ∀ k, k ∉ ds.map (·.1) → la.getD k false = false)
    (hsh : ∀ (k : Nat) (o : Oper), k ∈ ds.map (·.1) → ops[k]? = some o → la.getD k false = true → ∀ e ∈ o.after, Region.binds .any e = true → la.getD e.on false = true) :
    ∀ (n : Nat) (S : List Nat), (∀ k ∈ S, la.getD k false = true) → ∀ k ∈ close ops n S, la.getD k false = true
  | 0, S, h => h
  | n + 1, S, h => by
    refine close_listed hoth hsh n _ fun k hk => ?_
    rcases List.mem_append.1 hk with hk | hk
    · exact h k hk
    · obtain ⟨l, hl, hkl⟩ := List.mem_flatten.1 hk
      obtain ⟨j, hj, rfl⟩ := List.mem_map.1 hl
      cases ho : ops[j]? with
      | none => unfold depsOf at hkl; rw [ho] at hkl; cases hkl
      | some o =>
        obtain ⟨e, he, hb, rfl⟩ := (mem_depsOf ho).1 hkl
        have hjl := h j hj
        have hin : j ∈ ds.map (·.1) := Classical.byContradiction fun hc => by rw [hoth j hc] at hjl; cases hjl
        exact hsh j o hin ho hjl e he hb
theorem phase_of {ds : List (Nat × Tmp)} {r : Nat} (h : phaseOk ops ds r = true) (la : Array Bool) (i : Nat) (o : Oper) (ho : ops[i]? = some o) (hoth : ∀ k, k ∉ ds.map (·.1) → la.getD k false = false)
    (hsh : ∀ (k : Nat) (o : Oper), k ∈ ds.map (·.1) → ops[k]? = some o → la.getD k false = true → ∀ e ∈ o.after, Region.binds .any e = true → la.getD e.on false = true)
    (hall : ∀ e ∈ o.after, Region.binds .any e = true → la.getD e.on false = true) (hi : i ∉ ds.map (·.1)) : ∀ p ∈ ds, la.getD p.1 false = true := by
  have hd : ∀ k ∈ depsOf ops i, la.getD k false = true := fun k hk => by
    obtain ⟨e, he, hb, rfl⟩ := (mem_depsOf ho).1 hk
    exact hall e he hb
  have h1 := List.all_eq_true.1 h i (List.mem_range.2 (Array.getElem?_eq_some_iff.1 ho).1)
  simp only [Bool.or_eq_true] at h1
  rcases h1 with (h1 | h1) | h1
  · unfold inD at h1
    exact (hi (List.contains_iff_mem.1 h1)).elim
  · obtain ⟨d, hd1, hd2⟩ := List.any_eq_true.1 h1
    have hl := hd d hd1
    have hnd : d ∉ ds.map (·.1) := fun hc => by
      have : inD ds d = true := List.contains_iff_mem.2 hc
      rw [this] at hd2; cases hd2
    rw [hoth d hnd] at hl; cases hl
  · intro p hp
    have h2 := List.all_eq_true.1 h1 p hp
    exact close_listed hoth hsh r _ hd p.1 (List.contains_iff_mem.1 h2)
theorem some_ready (h : backOk ops = true) {la : Array Bool} (hs : la.size = ops.size) : ∀ (i : Nat), i < ops.size → la.getD i false = false → Region.ready .any ops la ≠ [] := by
  intro i
  induction i using Nat.strongRecOn with
  | _ i ih =>
    intro hi hl
    by_cases hc : ∀ d ∈ depsOf ops i, la.getD d false = true
    · have hm : i ∈ Region.ready .any ops la := by
        refine mem_ready.2 ⟨?_, ops[i], Array.getElem?_eq_getElem hi, fun e he hb => hc _ ((mem_depsOf (Array.getElem?_eq_getElem hi)).2 ⟨e, he, hb, rfl⟩)⟩
        rw [Array.getD_eq_getD_getElem?] at hl ⊢
        rw [Array.getElem?_eq_getElem (hs ▸ hi)] at hl ⊢
        exact hl
      intro h0; rw [h0] at hm; cases hm
    · have ⟨d, hd⟩ := Classical.not_forall.1 hc
      have ⟨hd1, hd2⟩ := Classical.not_imp.1 hd
      have hlt : d < i := by
        have h1 := List.all_eq_true.1 h i (List.mem_range.2 hi)
        have h2 := List.all_eq_true.1 h1 d hd1
        exact Nat.blt_eq.mp h2
      exact ih d hlt (by omega) (by simpa using hd2)

/-- a region whose first operations (those of ds) make memory at most, in whatever order: each value's fact stays true -/
theorem wp_region_grow {ds : List (Nat × Tmp)} {F : Nat → Value → World → Prop} {A0 : Act} {w : World} {m r id : Nat} (hm : P.follows .mixedOrders = true)
    (hd1 : (ds.map (·.1)).Nodup) (hd2 : (ds.map (·.2)).Nodup) (hlt : ∀ p ∈ ds, p.1 < ops.size) (hlen : ops.size = ds.length + m)
    (hphase : phaseOk ops ds r = true) (hback : backOk ops = true)
    (hstab : ∀ j v w w', F j v w → Below w.heap.size w w' → F j v w')
    (hstep : ∀ la V w', ∀ q ∈ ds, Facts (ops := ops) ds F A0 w.drew la V w' → (∀ o, ops[q.1]? = some o → ∀ e ∈ o.after, Region.binds .any e = true → la.getD e.on false = true) →
      wpOp P ops Q q.1 (fun a2 w2 => ∃ v, a2 = (putAll la V A0 ds).put (some q.2) v ∧ Below w'.heap.size w' w2 ∧ F q.1 v w2) (putAll la V A0 ds) w')
    (hlast : ∀ la V w', Facts (ops := ops) ds F A0 w.drew la V w' → (∀ p ∈ ds, la.getD p.1 false = true) → wpAny P .any ops Q m la (putAll la V A0 ds) w') :
    (Code.region id ops true).wp P Q A0 w := by
  refine wp_region_any hm ?_
  show wpAny P .any ops Q ops.size (Array.replicate ops.size false) A0 w.drew
  have hfalse : ∀ k, (Array.replicate ops.size false).getD k false = false := fun k => by
    rw [Array.getD_eq_getD_getElem?]
    rcases Nat.lt_or_ge k ops.size with hk | hk
    · simp [hk]
    · rw [Array.getElem?_eq_none (by simpa using hk)]; rfl
  have hput : ∀ (l : List (Nat × Tmp)), putAll (Array.replicate ops.size false) (fun _ => undef) A0 l = A0 := by
    intro l
    induction l with
    | nil => rfl
    | cons p l ih => unfold putAll; rw [hfalse, if_neg (by decide)]; exact ih
  have hun : ∀ (l : List (Nat × Tmp)), unlisted (Array.replicate ops.size false) l = l.length := by
    intro l
    induction l with
    | nil => rfl
    | cons p l ih => unfold unlisted; rw [hfalse, if_neg (by decide), ih, List.length_cons]; omega
  have := wpAny_grow (P := P) (Q := Q) (ops := ops) (ds := ds) (F := F) (A0 := A0) (w0 := w.drew) (m := m) hd1 hd2 hstab
    (fun la i o ho hs hoth hsh hall hi => phase_of hphase la i o ho hoth hsh hall hi)
    (fun la V w q o hq ho hf hall => hstep la V w q hq hf fun o' ho' => by rw [ho] at ho'; obtain rfl := Option.some.inj ho'; exact hall)
    hlast ds.length (Array.replicate ops.size false) (fun _ => undef) w.drew (hun ds)
    ⟨Below.refl _ _, by simp, fun k _ => hfalse k, fun p _ h => (by rw [hfalse] at h; cases h)⟩
    (fun k o _ _ h => (by rw [hfalse] at h; cases h)) (.inr trivial)
    (fun la ⟨p, hp, hl⟩ hs _ => some_ready hback hs p.1 (hlt p hp) hl)
  rw [hput, ← hlen] at this
  exact this

theorem la_eq {la : Array Bool} {l : List Bool} (hs : la.size = l.length) (h : ∀ i, i < l.length → la.getD i false = l.getD i false) : la = l.toArray := by
  refine Array.ext (by simpa using hs) fun i h1 h2 => ?_
  have h3 := h i (by simpa using h2)
  simp only [List.size_toArray] at h2
  rw [Array.getD_eq_getD_getElem?, List.getD_eq_getElem?_getD, Array.getElem?_eq_getElem h1, List.getElem?_eq_getElem h2] at h3
  simpa using h3

theorem wpOp_value {i : Nat} {o : Oper} {v : Value} {a : Act} {w w' : World} {K : Act → World → Prop} (ho : ops[i]? = some o) (hw : Region.wanted o (yielded ops a.tmps) = true)
    (hr : (execOp a.eval o).run P w = .ok (.value v) w') (hK : K (a.put o.dst v) w') : wpOp P ops Q i K a w := by
  unfold wpOp
  simp only [ho, hw, if_true, Oper.wp, hr, Oper.upon]
  exact .inl hK
theorem wpOp_enter {i : Nat} {o : Oper} {f : FuncId} {args : Array Value} {a : Act} {w w' : World} {K : Act → World → Prop} (ho : ops[i]? = some o) (hw : Region.wanted o (yielded ops a.tmps) = true)
    (hr : (execOp a.eval o).run P w = .ok (.enter f args) w') (hK : Calls P f args w' fun e w2 => ∃ v, e = .returned v ∧ K (a.put o.dst v) w2) : wpOp P ops Q i K a w := by
  unfold wpOp
  simp only [ho, hw, if_true, Oper.wp, hr, Oper.upon]
  refine .inl (hK.mono ?_)
  rintro e w2 ⟨v, rfl, hk⟩
  exact hk

end
def Dg (n : Nat) : ByteArray := ⟨(digL n).toArray⟩
def PA : ByteArray := ⟨#[102, 110, 32, 109, 97, 105, 110, 32, 40, 32, 41, 32, 123, 32, 108, 101, 116, 32, 105, 32, 61, 32, 48, 32, 59, 32, 108, 101, 116, 32, 107, 32, 61, 32, 48, 32, 59, 32, 119, 104, 105, 108, 101, 32, 105, 32, 60, 32]⟩
def PB : ByteArray := ⟨#[32, 123, 32, 105, 32, 61, 32, 105, 32, 43, 32, 49, 32, 59, 32, 105, 102, 32, 105, 32, 61, 61, 32]⟩
def PC : ByteArray := ⟨#[32, 123, 32]⟩
def PD : ByteArray := ⟨#[125, 32, 107, 32, 61, 32, 107, 32, 43, 32, 49, 32, 59, 32, 125, 32, 114, 101, 116, 117, 114, 110, 32, 107, 32, 59, 32, 125]⟩
def Hw (h : Nat) : ByteArray := match h with
  | 0 => ⟨#[98, 114, 101, 97, 107, 32, 59, 32]⟩
  | 1 => ⟨#[99, 111, 110, 116, 105, 110, 117, 101, 32, 59, 32]⟩
  | 2 => ⟨#[114, 101, 116, 117, 114, 110, 32, 107, 32, 59, 32]⟩
  | _ => ⟨#[]⟩
def S6 (n a : Nat) : ByteArray := PA ++ Dg n ++ PB ++ Dg a
def S13 (n a h : Nat) : ByteArray := S6 n a ++ PC ++ Hw h

theorem digL_len (n : Nat) : (digL n).length ≤ 4 := by
  unfold digL
  split
  · simp
  · split
    · simp
    · split <;> simp
theorem Dg_size (n : Nat) : (Dg n).size ≤ 4 := digL_len n
theorem PA_size : PA.size = 48 := rfl
theorem PB_size : PB.size = 23 := rfl
theorem PC_size : PC.size = 3 := rfl
theorem PD_size : PD.size = 28 := rfl
theorem Hw_size (h : Nat) : (Hw h).size ≤ 11 := by
  unfold Hw
  split <;> decide

theorem run_cat {P : Program} {x y : ByteArray} (h : x.size + y.size ≤ 1000) (w : World) (t : TypeId) (p q : Operand) : (do eqGuard .add t p q (.string x) (.string y); binOp .add t (.string x) (.string y) : Sem Value).run P w = .ok (.string (x ++ y)) w := by
  have h2 : ¬ ((x.size + y.size : Nat) : Int) > IntKind.i64.max := by
    have e : IntKind.i64.max = 9223372036854775807 := by decide
    rw [e]
    omega
  simp only [eqGuard, binOp, Op.stringOp]
  rw [if_neg h2]
  simp

theorem info9 : (Tryz.prog.info? 9).map (fun i => (i.zero, i.size, i.bytes)) = some (some (.string ⟨#[]⟩), 1, 16) := by kernel_rfl
theorem row4 (w : World) (s0 s1 s2 s3 : ByteArray) : (Instr.buildSlice 63 4 #[(0, .string s0), (1, .string s1), (2, .string s2), (3, .string s3)]).run Tryz.prog w = .ok (.slice (some ⟨w.heap.size, 0, none⟩) 4 4) (w.alloc (.cells #[.string s0, .string s1, .string s2, .string s3] 9)) := by
  obtain ⟨i0, hi, hz0, hz1, hz2⟩ := info_parts info9
  refine run_buildSlice w 63 9 4 _ _ i0 _ Tryz.underlying63 hi hz0 (by rw [hz1]; decide) (by rw [hz1]; decide) ?_
  rw [hz1]
  kernel_rfl

/-- what is known of each operation's value -/
def Fl (n a h : Nat) (z : Int) (j : Nat) (v : Value) (w : World) : Prop :=
  match j with
  | 0 => v = .int .i64 n
  | 1 => v = .string (Dg n)
  | 2 => v = .string (PA ++ Dg n)
  | 3 => v = .string (PA ++ Dg n ++ PB)
  | 4 => v = .int .i64 a
  | 5 => v = .string (Dg a)
  | 6 => v = .string (S6 n a)
  | 7 => v = .string (S6 n a ++ PC)
  | 8 => ∃ g, v = .slice (some ⟨g, 0, none⟩) 4 4 ∧ ∀ k, k < 4 → w.cell? ⟨g, k, none⟩ = some (.string (Hw k))
  | 9 => v = .int .i64 z
  | 10 => v = .int .i64 h
  | 11 => ∃ g, v = .pointer (some ⟨g, h, none⟩) ∧ w.cell? ⟨g, h, none⟩ = some (.string (Hw h))
  | 12 => v = .string (Hw h)
  | 13 => v = .string (S13 n a h)
  | _ => v = .string (S13 n a h ++ PD)
theorem Fl.below {n a h j : Nat} {z : Int} {v : Value} {w w' : World} (hF : Fl n a h z j v w) (hb : Below w.heap.size w w') : Fl n a h z j v w' := by
  unfold Fl at *
  split at hF
  all_goals first
    | exact hF
    | (obtain ⟨g, hv, hc⟩ := hF
       exact ⟨g, hv, fun k hk => (hb.cell (World.block_lt_of_cell? w _ (hc k hk))).trans (hc k hk)⟩)
    | (obtain ⟨g, hv, hc⟩ := hF
       exact ⟨g, hv, (hb.cell (World.block_lt_of_cell? w _ hc)).trans hc⟩)

abbrev dsl : List (Nat × Tmp) := [(0, 21), (1, 22), (2, 23), (3, 24), (4, 25), (5, 26), (6, 27), (7, 28), (8, 29), (9, 30), (10, 31), (11, 32), (12, 33), (13, 34), (14, 35)]
theorem gen_act {P : Program} {c : Code} {Q : Exit → Act → World → Prop} {a : Act} {w : World} (h : ∀ A0, A0 = a → c.wp P Q A0 w) : c.wp P Q a w := h a rfl
theorem and_nat (z : Int) (m : Nat) (hm : m ≤ 62) (c : Int) (hc : c = ((2 ^ m - 1 : Nat) : Int)) : ∃ n : Nat, n < 2 ^ m ∧ bits BinOp.and IntKind.i64 z c = (n : Int) := by
  have hlt := E3.maskd_lt z m hm
  have hp := E3.pow_bd hm
  refine ⟨E3.maskd z m, hlt, ?_⟩
  subst hc
  show IntKind.i64.wrap ((E3.maskd z m : Nat) : Int) = _
  rw [E3.i64_wrap_small (by omega) (by omega)]

end Go.Proofs.YtplnnlnkcfappaaGreat.Sv
