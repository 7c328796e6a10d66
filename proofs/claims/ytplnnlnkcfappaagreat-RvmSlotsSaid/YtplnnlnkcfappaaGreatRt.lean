/- RvmSlots: the law's walk: the program is built. -/
import Derived.Test.YtplnnlnkcfappaaGreatRs
import Derived.Test.YtplnnlnkcfappaaGreatRu
namespace Go.Proofs.YtplnnlnkcfappaaGreat.Rs
open Go Go.RowKit
set_option linter.unusedSimpArgs false
set_option linter.unusedVariables false

/-- what is known of the argument -/
def Arg (w : World) (a : Option Addr) (len : Nat) : Prop := len = 0 ∨ ∃ b off, a = some ⟨b, off, none⟩ ∧ b < w.heap.size ∧ ∀ i, i < len → ∃ z : Int, w.cell? ⟨b, off + i, none⟩ = some (.int .i64 z)

/-- the builder's round: what holds at the loop's head -/
def Rnd (w0 : World) (fb ab sk len : Nat) (x6 x7 : Value) (w : World) : Prop :=
  ∃ (i : Nat) (K V : Value) (cs : List Int) (code : List Ins) (σ : St), x7 = .int .i64 i ∧ i ≤ len ∧ i ≤ 60 ∧ code.length ≤ i ∧ cs.length ≤ i + 1 ∧ σ.e.length ≤ i ∧ Below w0.heap.size w0 w ∧ Bm w0.heap.size fb ab sk K V x6 cs code σ w ∧ Good cs code σ

theorem and_nat (z : Int) (m : Nat) (hm : m ≤ 62) (c : Int) (hc : c = ((2 ^ m - 1 : Nat) : Int)) : ∃ n : Nat, n < 2 ^ m ∧ bits BinOp.and IntKind.i64 z c = (n : Int) := by
  have hlt := Ew.maskd_lt z m hm
  have hp := Ew.pow_bd hm
  refine ⟨Ew.maskd z m, hlt, ?_⟩
  subst hc
  show IntKind.i64.wrap ((Ew.maskd z m : Nat) : Int) = _
  rw [Ew.i64_wrap_small (by omega) (by omega)]
theorem parts (z : Int) : (∃ r : Nat, r < 8 ∧ bits BinOp.and IntKind.i64 (z / 4) 7 = (r : Int)) ∧ (∃ s : Nat, s < 5 ∧ (bits BinOp.and IntKind.i64 (z / 32) 255).tmod 5 = (s : Int)) ∧
    (bits BinOp.and IntKind.i64 z 3 = 0 ∨ bits BinOp.and IntKind.i64 z 3 = 1 ∨ bits BinOp.and IntKind.i64 z 3 = 2 ∨ bits BinOp.and IntKind.i64 z 3 = 3) := by
  refine ⟨?_, ?_, ?_⟩
  · exact and_nat (z / 4) 3 (by omega) 7 rfl
  · obtain ⟨n, hn, e⟩ := and_nat (z / 32) 8 (by omega) 255 rfl
    refine ⟨n % 5, Nat.mod_lt _ (by decide), ?_⟩
    rw [e, Int.tmod_eq_emod_of_nonneg (by omega)]
    exact (Int.natCast_emod n 5).symm
  · obtain ⟨n, hn, e⟩ := and_nat z 2 (by omega) 3 rfl
    rw [e]
    have : n < 4 := hn
    omega
theorem info84 : (Tryz.prog.info? 84).map (fun i => (i.zero, i.size, i.bytes)) = some (some (.agg #[.int .i64 0, .int .i64 0, .int .i64 0, .int .i64 0, .int .i64 0]), 5, 40) := by kernel_rfl
theorem info2 : (Tryz.prog.info? 2).map (fun i => (i.zero, i.size, i.bytes)) = some (some (.int .i64 0), 1, 8) := by kernel_rfl
theorem new_ic (w : World) (x : Ins) : ∀ j u, (ic x)[j]? = some u → (w.alloc (.cells #[.int .i64 x.1, .int .i64 x.2.1, .int .i64 x.2.2, .int .i64 0, .int .i64 0] 84)).drew.cell? ((⟨w.heap.size, 0, none⟩ : Addr).add j) = some u := by
  intro j u hu
  have hj : j < 5 := (List.getElem?_eq_some_iff.1 hu).1
  obtain rfl | rfl | rfl | rfl | rfl : j = 0 ∨ j = 1 ∨ j = 2 ∨ j = 3 ∨ j = 4 := by omega
  all_goals
    simp only [ic, List.getElem?_cons_zero, List.getElem?_cons_succ, Option.some.injEq] at hu
    subst hu
    simp [go_sem, Addr.add]
theorem new_ic0 (w : World) (x : Ins) : ∀ j u, (ic x)[j]? = some u → (w.alloc (.cells #[.int .i64 x.1, .int .i64 x.2.1, .int .i64 x.2.2, .int .i64 0, .int .i64 0] 84)).cell? ((⟨w.heap.size, 0, none⟩ : Addr).add j) = some u := new_ic w x
theorem ic_one (x : Ins) : ∀ u ∈ ic x, u.oneCell' = true := by
  intro u hu
  simp only [ic, List.mem_cons, List.not_mem_nil, or_false] at hu
  rcases hu with rfl | rfl | rfl | rfl | rfl <;> rfl

theorem new_vc (w : World) (n : Int) (hn : n ≠ 0) : ∀ j u, (vc n)[j]? = some u → (w.alloc (.cells #[.int .i64 (kd n), .int .i64 n, .complex .f64 0 0, .string ⟨#[]⟩, .slice none 0 0] 54)).cell? ((⟨w.heap.size, 0, none⟩ : Addr).add j) = some u := by
  intro j u hu
  have hj : j < 5 := (List.getElem?_eq_some_iff.1 hu).1
  obtain rfl | rfl | rfl | rfl | rfl : j = 0 ∨ j = 1 ∨ j = 2 ∨ j = 3 ∨ j = 4 := by omega
  all_goals
    simp only [vc, List.getElem?_cons_zero, List.getElem?_cons_succ, Option.some.injEq] at hu
    subst hu
    simp [go_sem, Addr.add]
theorem vc_one (n : Int) : ∀ u ∈ vc n, u.oneCell' = true := by
  intro u hu
  simp only [vc, List.mem_cons, List.not_mem_nil, or_false] at hu
  rcases hu with rfl | rfl | rfl | rfl | rfl <;> rfl

/-- the append at one operation, with where the new row lies -/
theorem wp_append_at {P : Program} (w : World) {o : Oper} {a : Act} {K : Act → World → Prop} {Q : Exit → Act → World → Prop} (s x : Operand) (t : TypeId)
    (ho : o.op = .call { callee := .builtin .append, args := #[s, x], argTypes := #[t, t] })
    (base : Nat) (e : TypeId) (i : TypeInfo) (z : Value) (size bytes : Nat) (ht : P.underlying t = some (.slice e)) (hi : P.info? e = some i) (hz : i.zero = some z)
    (hsize : i.size = size) (hby : i.bytes = bytes) (hzs : z.cells.size = size) (hsz : 0 < size)
    (v : Value) (n : Nat) (xs : List Value) (hs : a.eval s = v) (hown : w.ownsRow base e size v n xs)
    (ad : Addr) (m c : Nat) (news : List Value) (hx : a.eval x = .slice (some ad) m c) (hl : news.length = m * size) (hnews : ∀ j u, news[j]? = some u → w.cell? (ad.add j) = some u) (h1 : ∀ u ∈ news, u.oneCell' = true)
    (h63 : n + m ≤ maxLen) (hbytes : (n + m) * bytes ≤ 140737488355328) (hbase : base ≤ w.heap.size)
    (h : ∀ v' w', w'.ownsRow base e size v' (n + m) (xs ++ news) → w.grownBy w' v.ownBlock → (v' = .slice none 0 0 ↔ v = .slice none 0 0 ∧ m = 0) → (v'.ownBlock = v.ownBlock ∨ v'.ownBlock = some w.heap.size) → K (a.put o.dst v') w') : o.wp P a w K Q := by
  obtain ⟨v', w', hr, h2, h3, h4, h5⟩ := run_append_own_at (P := P) w base t o.type e i z size bytes ht hi hz hsize hby hzs hsz v n xs hown ad m c news hl hnews h1 h63 hbytes hbase
  unfold Oper.wp execOp
  simp only [ho, resolve, invoke, builtin, Sem.run_bind, Sem.run_pure, Result.andThen_ok, List.map_toArray, List.map_cons, List.map_nil, hs, hx, hr]
  exact h v' w' h2 h3 h4 h5

set_option maxRecDepth 10000 in
theorem start_rnd (w : World) (len : Nat) : Rnd w (w.heap.size + 1) (w.heap.size + 1 + 1) (w.heap.size + 1 + 1 + 1) len (.slice none 0 0) (.int .i64 0)
    ((((w.alloc (.cells #[.int .i64 0, .int .i64 0, .complex .f64 0 0, .string ⟨#[]⟩, .slice none 0 0] 54)).alloc
      (.cells #[.string ⟨#[]⟩, .int .i64 0, .int .i64 5, .slice (some ⟨w.heap.size, 0, none⟩) 1 1, .slice none 0 0] 77)).alloc
      (.cells #[.int .i64 0, .int .i64 0, .int .i64 0, .int .i64 0, .int .i64 0, .int .i64 0, .int .i64 0, .int .i64 0] 78)).alloc
      (.cells #[.int .i64 0, .int .i64 0, .int .i64 0, .int .i64 0, .int .i64 0] 79)) := by
  refine ⟨0, .slice (some ⟨w.heap.size, 0, none⟩) 1 1, .slice none 0 0, [0], [], st0, rfl, Nat.zero_le _, by omega, by simp, by simp, by simp [st0], ?_, ?_, Good.start⟩
  · exact (((((Fx.refl (fun _ => False) w).alloc _).alloc _).alloc _).alloc _).below (Nat.le_refl _) (fun _ _ h => h)
  · refine ⟨by simp, by simp [go_sem], by simp [go_sem], by simp [go_sem], by simp [go_sem], by simp [go_sem], by simp [go_sem], by simp [go_sem], ⟨fun j hj => ?_, fun j hj => by simp [go_sem]⟩, ⟨fun j hj => ?_, fun j hj => by simp [go_sem]⟩, ?_, World.ownsRow_nil _ _ _ _, World.ownsRow_nil _ _ _ _, ?_, ?_, ?_⟩
    · obtain rfl | rfl | rfl | rfl | rfl | rfl | rfl | rfl : j = 0 ∨ j = 1 ∨ j = 2 ∨ j = 3 ∨ j = 4 ∨ j = 5 ∨ j = 6 ∨ j = 7 := by omega
      all_goals simp [go_sem, st0]
    · obtain rfl | rfl | rfl | rfl | rfl : j = 0 ∨ j = 1 ∨ j = 2 ∨ j = 3 ∨ j = 4 := by omega
      all_goals simp [go_sem, st0]
    · refine ⟨rfl, .inr ⟨w.heap.size, 1, #[.int .i64 0, .int .i64 0, .complex .f64 0 0, .string ⟨#[]⟩, .slice none 0 0], rfl, Nat.le_refl _, ?_, Nat.le_refl _, by unfold maxLen; omega, ?_, ?_⟩⟩
      · exact ((((Fx.refl (fun _ => False) _).alloc _).alloc _).alloc _).block w.heap.size (by simp) (fun h => h) |>.trans (heap_alloc_new w _)
      · rfl
      · rfl
    · intro g hg
      simp only [Value.ownBlock, Option.some.injEq] at hg
      subst hg
      simp [Value.ownBlock]
      omega
    · intro g hg
      simp [Value.ownBlock] at hg
    · intro g hg
      simp [Value.ownBlock] at hg

/-- rvm.Run at the law's program -/
theorem run_at {n0 fb ab sk qb : Nat} {K V W : Value} {cs : List Int} {code : List Ins} {σ : St} {w : World} (hB : Bm n0 fb ab sk K V W cs (code ++ [last]) σ w) (hG : Good cs code σ) (hc : code.length ≤ 60) (hs : cs.length ≤ 1000) (hq : qb = w.heap.size) :
    Calls Tryz.prog 26 #[.agg #[.slice (some ⟨qb, 0, none⟩) 1 1, .int .i64 0, .int .i64 8], .int .i64 99] (w.alloc (.cells #[.string ⟨#[]⟩, .int .i64 0, .int .i64 5, K, V] 77)) fun e w' => ∃ a cap B, e = .returned (.tuple #[.agg #[.slice a σ.e.length σ.e.length, .int .i64 0, .int .i64 0, .complex .f64 0 0, .string ⟨#[]⟩, .slice none 0 0, .int .i64 0], .int .i64 0]) ∧
      w'.ownsRow B 69 7 (.slice a σ.e.length cap) σ.e.length (flat ec σ.e) ∧ qb + 1 ≤ B ∧ Below (qb + 1) (w.alloc (.cells #[.string ⟨#[]⟩, .int .i64 0, .int .i64 5, K, V] 77)) w' := by
  subst hq
  have hrun : exec cs code st0 = σ := by simpa using hG.run []
  have hx : Fx (fun _ => False) w (w.alloc (.cells #[.string ⟨#[]⟩, .int .i64 0, .int .i64 5, K, V] 77)) := (Fx.refl _ w).alloc _
  have hF : Fns (w.alloc (.cells #[.string ⟨#[]⟩, .int .i64 0, .int .i64 5, K, V] 77)) w.heap.size K V := by
    constructor <;> simp [go_sem]
  have hK := (Rw.ofOwns (l := cs) (by intro e; have := hG.pos; simp [e] at this) (owns_fx' hB.kr hx fun _ _ h => h)).1
  have hV := (Rw.ofOwns (l := code ++ [last]) (by simp) (owns_fx' hB.vr hx fun _ _ h => h)).1
  have R := run_calls (qc := 1) hF hK hV hG.pos hG.head hs hc hG.ok hG.nl
  rw [hrun] at R
  simpa using R

/-- what the comparison reads -/
structure Cmp (l : List Int) (tb : Nat) (ta wa : Option Addr) (w : World) : Prop where
  h : tb < w.heap.size
  t : w.cell? ⟨tb, 0, none⟩ = some (.slice ta l.length l.length)
  e : ∀ (j : Nat) (hj : j < l.length), ∃ g, ta = some ⟨g, 0, none⟩ ∧ g < w.heap.size ∧ ∀ k u, (ec l[j])[k]? = some u → w.cell? ⟨g, j * 7 + k, none⟩ = some u
  o : ∀ (j : Nat) (hj : j < l.length), ∃ b, wa = some ⟨b, 0, none⟩ ∧ b < w.heap.size ∧ w.cell? ⟨b, j, none⟩ = some (.int .i64 l[j])
theorem Cmp.fx {l : List Int} {tb : Nat} {ta wa : Option Addr} {w w' : World} (h : Cmp l tb ta wa w) (hx : Fx (fun _ => False) w w') : Cmp l tb ta wa w' := by
  have h0 : ¬ False := fun h => h
  have hs := hx.size
  refine ⟨by have := h.h; omega, (hx.cell h.h h0 _).trans h.t, fun j hj => ?_, fun j hj => ?_⟩
  · obtain ⟨g, e, hg, hk⟩ := h.e j hj
    exact ⟨g, e, by omega, fun k u hu => (hx.cell hg h0 _).trans (hk k u hu)⟩
  · obtain ⟨g, e, hg, hk⟩ := h.o j hj
    exact ⟨g, e, by omega, (hx.cell hg h0 _).trans hk⟩
theorem owns_at {α : Type} {cells : α → List Value} {sz base cap : Nat} {e : TypeId} {w : World} {a : Option Addr} {l : List α} (hc : ∀ x, (cells x).length = sz) (h : w.ownsRow base e sz (.slice a l.length cap) l.length (flat cells l)) (j : Nat) (hj : j < l.length) :
    ∃ g, a = some ⟨g, 0, none⟩ ∧ g < w.heap.size ∧ ∀ k u, (cells l[j])[k]? = some u → w.cell? ⟨g, j * sz + k, none⟩ = some u := by
  have hne : l ≠ [] := by intro e; simp [e] at hj
  obtain ⟨g, cap', hv, _, hg, hk⟩ := Rw.cell hc (Rw.ofOwns hne h).1
  injection hv with hv
  exact ⟨g, hv, hg, fun k u hu => hk j hj k u hu⟩

theorem still_yes {b : Bool} {A B : Prop} (h : b = true) (ha : A) : if b then A else B := by rw [if_pos h]; exact ha
theorem still_no {b : Bool} {A B : Prop} (h : b = false) (hb : B) : if b then A else B := by rw [if_neg (by simp [h])]; exact hb

attribute [local irreducible] wpStill
set_option maxRecDepth 100000 in
set_option maxHeartbeats 8000000 in
theorem slots_calls {w : World} {a : Option Addr} {len cap : Nat} (hA : Arg w a len) : Calls Tryz.prog 9 #[.slice a len cap] w fun e w' => e = .returned (.bool true) ∧ Below w.heap.size w w' := by
  have HA := Lib.hid hA
  clear hA
  go_enter Tryz.func9, Tryz.ntmps9
  go_wp2
  go_loopw [6, 7] (fun x6 x7 wr => Rnd w (w.heap.size + 1) (w.heap.size + 1 + 1) (w.heap.size + 1 + 1 + 1) len x6 x7 wr) (fun _ x _ => 60 - (match x with | .int _ n => n.toNat | _ => 0))
  case atStart => exact start_rnd w len
  case round =>
    obtain ⟨i, K, V, cs, code, σ, rfl, hi, hi60, hcl, hcs, hel, hbw, hM, hG⟩ := hrel
    by_cases hlt : i < len ∧ i < 60
    · obtain ⟨h1, h2⟩ := hlt
      obtain ⟨b, off, rfl, hbl, hcell⟩ := HA.out.resolve_left (by omega)
      obtain ⟨z, hz⟩ := hcell i h1
      have hz' := (hbw.cell (p := ⟨b, off + i, none⟩) hbl).trans hz
      have HM := Lib.hid (And.intro hbw (And.intro hM hG))
      clear hbw hM hG hcell hz
      have hi0 : (0 : Int) ≤ (i : Int) := by omega
      have hi1 : (i : Int) < (len : Int) := by omega
      have hi2 : (i : Int) < 60 := by omega
      obtain ⟨⟨r, hr8, er⟩, ⟨s, hs5, es⟩, ek⟩ := parts z
      obtain ⟨i0, hi84, hz0, hz1, hz2⟩ := info_parts info84
      have hr0 : (0 : Int) ≤ (r : Int) := by omega
      have hr1 : (r : Int) < 8 := by omega
      have hs0 : (0 : Int) ≤ (s : Int) := by omega
      have hs1 : (s : Int) < 5 := by omega
      have hwi : IntKind.i64.wrap ((i : Int) + 1) = (i : Int) + 1 := by rw [IntKind.wrap_i64]; omega
      have hM0 := HM.out.2.1
      have d3 := hM0.c3
      have d4 := hM0.c4
      have d5 := hM0.f3
      have d6 := hM0.f4
      clear hM0
      rcases ek with ek | ek | ek | ek
      · obtain ⟨i5, hi5, hv0, hv1, hv2⟩ := info_parts info54
        go_wp2_with fail
        refine wp_region_still_tail 14 (by kernel_rfl) (by kernel_rfl) ?_
        show wpStill Tryz.prog _ wr.drew (fun a' => wpList Tryz.prog _ _ _ a' wr.drew) _ _
        simp only [List.take_succ_cons, List.take_zero, List.drop_succ_cons, List.drop_zero]
        repeat still_step
        refine wpStill_nil ?_
        go_wp2_with fail
        go_region_law (first
          | (go_simp; go_at_call 25; refine (int_calls _ ((i : Int) + 1) (by omega)).mono ?_; rintro e w5 ⟨rfl, hb5⟩; have hx5 : Fx (fun _ => False) wr w5 := (((Fx.refl _ wr).drew).drew).trans (Fx.ofB hb5); have hc5 := (hx5.cell (b := w.heap.size + 1) (by have := HM.out.2.1.ord; omega) (fun h => h) 3).trans d3; have hc6 : ∀ ob, (w5.alloc ob).cell? ⟨w.heap.size + 1, 3, none⟩ = some K := fun ob => ((hx5.alloc ob).cell (b := w.heap.size + 1) (by have := HM.out.2.1.ord; omega) (fun h => h) 3).trans d3; unfold vv)
          | (rw [if_pos (by rfl)]; refine wp_append_at _ (.tmp 61) (.tmp 65) 42 rfl w.heap.size 54 i5 _ 5 72 Tryz.underlying42 hi5 hv0 hv1 hv2 rfl (by decide) K cs.length (flat vc cs) rfl (owns_fx' (S := fun _ => False) HM.out.2.1.kr (hx5.alloc _) (fun _ _ h => h)) ⟨w5.heap.size, 0, none⟩ 1 1 (vc ((i : Int) + 1)) rfl rfl (new_vc w5 _ (by omega)) (vc_one _) (by unfold maxLen; omega) (by omega) (by have := hx5.size; have := HM.out.1.size; first | (simp; done) | (simp; omega)) ?_; intro k6 w6 hown6 hgrow6 _ hat6; have hfx6 : Fx (fun g => K.ownBlock = some g) wr w6 := ((hx5.alloc _).mono (fun _ _ h => h.elim)).trans (Fx.ofGrown hgrow6); have hnf6 : ¬ K.ownBlock = some (w.heap.size + 1) := fun e => (HM.out.2.1.ko _ e).2.2.1 rfl; have e3 := (hfx6.cell (b := w.heap.size + 1) (by have := HM.out.2.1.ord; omega) hnf6 3).trans d3; have e5 := (hfx6.frozen (b := w.heap.size + 1) (by have := HM.out.2.1.ord; omega) hnf6 3).trans d5; obtain ⟨ka, kcp, rfl⟩ := owns_slice hown6))
        all_goals
          have hat6' : (Value.slice ka (cs.length + 1) kcp).ownBlock = K.ownBlock ∨ ∃ g, (Value.slice ka (cs.length + 1) kcp).ownBlock = some g ∧ wr.heap.size ≤ g := hat6.imp id fun e => ⟨_, e, by have := hx5.size; simp; omega⟩
          have hB6 := HM.out.2.1.appK (n := (i : Int) + 1) hfx6 hown6 hat6'
          have hb6 : Below w.heap.size w w6 := HM.out.1.trans (hfx6.below HM.out.1.size (fun g hg e => by have := (owns_lt HM.out.2.1.kr e).1; omega))
          have hb6' := hb6.setCell (p := ⟨w.heap.size + 1, 3, none⟩) (by first | (simp; done) | (simp; omega)) (.slice ka (cs.length + 1) kcp)
          have e4 := (hfx6.cell (b := w.heap.size + 1) (by have := HM.out.2.1.ord; omega) hnf6 4).trans d4
          have e6 := (hfx6.frozen (b := w.heap.size + 1) (by have := HM.out.2.1.ord; omega) hnf6 4).trans d6
          have hsz6 : wr.heap.size ≤ w6.heap.size := hfx6.size
          have hszw : w.heap.size ≤ wr.heap.size := HM.out.1.size
          have hordw := HM.out.2.1.ord
          have HB6 := Lib.hid (And.intro hB6 hb6')
          have hwk : IntKind.i64.wrap ((cs.length : Int) + 1 - 1) = (cs.length : Int) := by rw [IntKind.wrap_i64]; omega
          clear hB6 hb6 hb6' hown6 hgrow6 hat6 hat6' hfx6 hnf6 hx5 hc5 hc6 d3 d4 d5 d6
          go_wp2_with (at_builtin; refine wpList_append_own_at _ rfl _ _ 75 rfl w.heap.size 84 i0 _ 5 40 Tryz.underlying75 hi84 hz0 hz1 hz2 rfl (by decide) V code.length (flat ic code) rfl ?c0 ⟨w6.heap.size, 0, none⟩ 1 1 (ic (1, (r : Int), (cs.length : Int))) rfl rfl ?c1 ?c2 ?c3 ?c4 ?c5 ?_)
          case c0 => exact owns_fx' (S := fun _ => False) HB6.out.1.vr ((Fx.refl _ (w6.setCell ⟨w.heap.size + 1, 3, none⟩ (.slice ka (cs.length + 1) kcp))).alloc _) (fun _ _ h => h)
          case c1 =>
            intro j u hu
            have := new_ic0 (w6.setCell ⟨w.heap.size + 1, 3, none⟩ (.slice ka (cs.length + 1) kcp)) (1, (r : Int), (cs.length : Int)) j u hu
            simpa using this
          case c2 => exact ic_one _
          case c3 => unfold maxLen; omega
          case c4 => omega
          case c5 => (simp; omega)
          intro v2 w2 hown2 hgrow _ hat
          have hfx : Fx (fun g => V.ownBlock = some g) (w6.setCell ⟨w.heap.size + 1, 3, none⟩ (.slice ka (cs.length + 1) kcp)) w2 := ((Fx.refl _ (w6.setCell ⟨w.heap.size + 1, 3, none⟩ (.slice ka (cs.length + 1) kcp))).alloc _).trans (Fx.ofGrown hgrow)
          have hat' : v2.ownBlock = V.ownBlock ∨ ∃ g, v2.ownBlock = some g ∧ (w6.setCell ⟨w.heap.size + 1, 3, none⟩ (.slice ka (cs.length + 1) kcp)).heap.size ≤ g := hat.imp id fun e => ⟨_, e, by simp⟩
          have hB := HB6.out.1.appV (x := (1, (r : Int), (cs.length : Int))) hfx hown2 hat'
          have hnf : ¬ V.ownBlock = some (w.heap.size + 1) := fun e => (HB6.out.1.vo _ e).2.1 rfl
          have hlt6 : w.heap.size + 1 < (w6.setCell ⟨w.heap.size + 1, 3, none⟩ (.slice ka (cs.length + 1) kcp)).heap.size := by simp; omega
          have q3 := (hfx.cell (b := w.heap.size + 1) hlt6 hnf 4).trans HB6.out.1.c4
          have q4 := (hfx.frozen (b := w.heap.size + 1) hlt6 hnf 4).trans HB6.out.1.f4
          have hrr := HB6.out.1.regs.fx hfx (by simp; omega) (fun e => (HB6.out.1.vo _ e).2.2.1 rfl)
          have qr := hrr.c r hr8
          have fr := hrr.f r hr8
          have hb2 : Below w.heap.size w w2 := HB6.out.2.trans (hfx.below (by simp; omega) (fun g hg e => by have := (owns_lt HB6.out.1.vr e).1; omega))
          obtain ⟨va, vcp, rfl⟩ := owns_slice hown2
          have HB := Lib.hid (And.intro hB hb2)
          have hsz2 := hfx.size
          clear hB hb2 hown2 hgrow hat hat' hfx hrr
          go_wp2
          go_roundw
          case rel => exact ⟨i + 1, _, _, cs ++ [(i : Int) + 1], _, _, by go_num, by omega, by omega, by simp; omega, by simp; omega, (by show σ.e.length ≤ i + 1; omega), (HB.out.2.setCell (by first | (simp; done) | (simp; omega)) _).setCell (by first | (simp; done) | (simp; omega)) _, HB.out.1.setR r hr8 ((i : Int) + 1), HM.out.2.2.const r hr8 ((i : Int) + 1)⟩
          case measure => simp; omega
      · go_wp2_with fail
        refine wp_region_still_tail 14 (by kernel_rfl) (by kernel_rfl) ?_
        show wpStill Tryz.prog _ wr.drew (fun a' => wpList Tryz.prog _ _ _ a' wr.drew) _ _
        simp only [List.take_succ_cons, List.take_zero, List.drop_succ_cons, List.drop_zero]
        repeat still_step
        refine wpStill_nil ?_
        go_wp2_with (at_builtin; refine wpList_append_own_at _ rfl _ _ 75 rfl w.heap.size 84 i0 _ 5 40 Tryz.underlying75 hi84 hz0 hz1 hz2 rfl (by decide) V code.length (flat ic code) rfl ?c0 ⟨wr.heap.size, 0, none⟩ 1 1 (ic (14, (r : Int), (s : Int))) rfl rfl ?c1 ?c2 ?c3 ?c4 ?c5 ?_)
        case c0 => exact owns_fx' (S := fun _ => False) HM.out.2.1.vr (((Fx.refl _ wr).alloc _).drew) (fun _ _ h => h)
        case c1 => exact new_ic wr (14, (r : Int), (s : Int))
        case c2 => exact ic_one _
        case c3 => unfold maxLen; omega
        case c4 => omega
        case c5 => (have := HM.out.1.size; simp; omega)
        intro v2 w2 hown2 hgrow _ hat
        have hfx : Fx (fun g => V.ownBlock = some g) wr w2 := (((Fx.refl _ wr).alloc _).drew).trans (Fx.ofGrown hgrow)
        have hat' : v2.ownBlock = V.ownBlock ∨ ∃ g, v2.ownBlock = some g ∧ wr.heap.size ≤ g := hat.imp id fun e => ⟨_, e, by omega⟩
        have hB := HM.out.2.1.appV (x := (14, (r : Int), (s : Int))) hfx hown2 hat'
        have hor := HM.out.2.1.ord
        have q3 := (hfx.cell (b := w.heap.size + 1) (by omega) (fun e => (HM.out.2.1.vo _ e).2.1 rfl) 4).trans d4
        have q4 := (hfx.frozen (b := w.heap.size + 1) (by omega) (fun e => (HM.out.2.1.vo _ e).2.1 rfl) 4).trans d6
        have hrr := HM.out.2.1.regs.fx hfx (by omega) (fun e => (HM.out.2.1.vo _ e).2.2.1 rfl)
        have hss := HM.out.2.1.slots.fx hfx (by omega) (fun e => (HM.out.2.1.vo _ e).2.2.2 rfl)
        have qr := hrr.c r hr8
        have fr := hrr.f r hr8
        have qs := hss.c s hs5
        have fs := hss.f s hs5
        have hb2 : Below w.heap.size w w2 := HM.out.1.trans (hfx.below HM.out.1.size (fun g hg e => by have := (owns_lt HM.out.2.1.vr e).1; omega))
        obtain ⟨va, vcp, rfl⟩ := owns_slice hown2
        have HB := Lib.hid (And.intro hB hb2)
        have hsz2 := hfx.size
        clear hB hb2 hown2 hgrow hat hat' hfx hrr hss
        go_wp2
        go_roundw
        case rel => exact ⟨i + 1, K, _, cs, _, _, by go_num, by omega, by omega, by simp; omega, by omega, (by show σ.e.length ≤ i + 1; omega), (HB.out.2.setCell (by first | (simp; done) | (simp; omega)) _).setCell (by first | (simp; done) | (simp; omega)) _, HB.out.1.setS s hs5 (σ.r r), HM.out.2.2.store r s hr8 hs5⟩
        case measure => simp; omega
      · go_wp2_with fail
        refine wp_region_still_tail 14 (by kernel_rfl) (by kernel_rfl) ?_
        show wpStill Tryz.prog _ wr.drew (fun a' => wpList Tryz.prog _ _ _ a' wr.drew) _ _
        simp only [List.take_succ_cons, List.take_zero, List.drop_succ_cons, List.drop_zero]
        repeat still_step
        refine wpStill_nil ?_
        go_wp2_with (at_builtin; refine wpList_append_own_at _ rfl _ _ 75 rfl w.heap.size 84 i0 _ 5 40 Tryz.underlying75 hi84 hz0 hz1 hz2 rfl (by decide) V code.length (flat ic code) rfl ?c0 ⟨wr.heap.size, 0, none⟩ 1 1 (ic (13, (r : Int), (s : Int))) rfl rfl ?c1 ?c2 ?c3 ?c4 ?c5 ?_)
        case c0 => exact owns_fx' (S := fun _ => False) HM.out.2.1.vr (((Fx.refl _ wr).alloc _).drew) (fun _ _ h => h)
        case c1 => exact new_ic wr (13, (r : Int), (s : Int))
        case c2 => exact ic_one _
        case c3 => unfold maxLen; omega
        case c4 => omega
        case c5 => (have := HM.out.1.size; simp; omega)
        intro v2 w2 hown2 hgrow _ hat
        have hfx : Fx (fun g => V.ownBlock = some g) wr w2 := (((Fx.refl _ wr).alloc _).drew).trans (Fx.ofGrown hgrow)
        have hat' : v2.ownBlock = V.ownBlock ∨ ∃ g, v2.ownBlock = some g ∧ wr.heap.size ≤ g := hat.imp id fun e => ⟨_, e, by omega⟩
        have hB := HM.out.2.1.appV (x := (13, (r : Int), (s : Int))) hfx hown2 hat'
        have hor := HM.out.2.1.ord
        have q3 := (hfx.cell (b := w.heap.size + 1) (by omega) (fun e => (HM.out.2.1.vo _ e).2.1 rfl) 4).trans d4
        have q4 := (hfx.frozen (b := w.heap.size + 1) (by omega) (fun e => (HM.out.2.1.vo _ e).2.1 rfl) 4).trans d6
        have hrr := HM.out.2.1.regs.fx hfx (by omega) (fun e => (HM.out.2.1.vo _ e).2.2.1 rfl)
        have hss := HM.out.2.1.slots.fx hfx (by omega) (fun e => (HM.out.2.1.vo _ e).2.2.2 rfl)
        have qr := hrr.c r hr8
        have fr := hrr.f r hr8
        have qs := hss.c s hs5
        have fs := hss.f s hs5
        have hb2 : Below w.heap.size w w2 := HM.out.1.trans (hfx.below HM.out.1.size (fun g hg e => by have := (owns_lt HM.out.2.1.vr e).1; omega))
        obtain ⟨va, vcp, rfl⟩ := owns_slice hown2
        have HB := Lib.hid (And.intro hB hb2)
        have hsz2 := hfx.size
        clear hB hb2 hown2 hgrow hat hat' hfx hrr hss
        go_wp2
        go_roundw
        case rel => exact ⟨i + 1, K, _, cs, _, _, by go_num, by omega, by omega, by simp; omega, by omega, (by show σ.e.length ≤ i + 1; omega), (HB.out.2.setCell (by first | (simp; done) | (simp; omega)) _).setCell (by first | (simp; done) | (simp; omega)) _, HB.out.1.setR r hr8 (σ.s s), HM.out.2.2.load r s hr8 hs5⟩
        case measure => simp; omega
      · obtain ⟨wa, wcp, rfl⟩ := owns_slice HM.out.2.1.wr
        go_wp2_with fail
        refine wp_region_still_tail 14 (by kernel_rfl) (by kernel_rfl) ?_
        show wpStill Tryz.prog _ wr.drew (fun a' => wpList Tryz.prog _ _ _ a' wr.drew) _ _
        simp only [List.take_succ_cons, List.take_zero, List.drop_succ_cons, List.drop_zero]
        repeat still_step
        refine wpStill_nil ?_
        go_wp2_with (at_builtin; refine wpList_append_own_at _ rfl _ _ 75 rfl w.heap.size 84 i0 _ 5 40 Tryz.underlying75 hi84 hz0 hz1 hz2 rfl (by decide) V code.length (flat ic code) rfl ?c0 ⟨wr.heap.size, 0, none⟩ 1 1 (ic (8, (r : Int), 0)) rfl rfl ?c1 ?c2 ?c3 ?c4 ?c5 ?_)
        case c0 => exact owns_fx' (S := fun _ => False) HM.out.2.1.vr (((Fx.refl _ wr).alloc _).drew) (fun _ _ h => h)
        case c1 => exact new_ic wr (8, (r : Int), 0)
        case c2 => exact ic_one _
        case c3 => unfold maxLen; omega
        case c4 => omega
        case c5 => (have := HM.out.1.size; simp; omega)
        intro v2 w2 hown2 hgrow _ hat
        have hfx : Fx (fun g => V.ownBlock = some g) wr w2 := (((Fx.refl _ wr).alloc _).drew).trans (Fx.ofGrown hgrow)
        have hat' : v2.ownBlock = V.ownBlock ∨ ∃ g, v2.ownBlock = some g ∧ wr.heap.size ≤ g := hat.imp id fun e => ⟨_, e, by omega⟩
        have hB := HM.out.2.1.appV (x := (8, (r : Int), 0)) hfx hown2 hat'
        have hor := HM.out.2.1.ord
        have q3 := (hfx.cell (b := w.heap.size + 1) (by omega) (fun e => (HM.out.2.1.vo _ e).2.1 rfl) 4).trans d4
        have q4 := (hfx.frozen (b := w.heap.size + 1) (by omega) (fun e => (HM.out.2.1.vo _ e).2.1 rfl) 4).trans d6
        have hrr := HM.out.2.1.regs.fx hfx (by omega) (fun e => (HM.out.2.1.vo _ e).2.2.1 rfl)
        have hss := HM.out.2.1.slots.fx hfx (by omega) (fun e => (HM.out.2.1.vo _ e).2.2.2 rfl)
        have qr := hrr.c r hr8
        have fr := hrr.f r hr8
        have qs := hss.c s hs5
        have fs := hss.f s hs5
        have hb2 : Below w.heap.size w w2 := HM.out.1.trans (hfx.below HM.out.1.size (fun g hg e => by have := (owns_lt HM.out.2.1.vr e).1; omega))
        obtain ⟨va, vcp, rfl⟩ := owns_slice hown2
        have HB := Lib.hid (And.intro hB hb2)
        have hsz2 := hfx.size
        clear hB hb2 hown2 hgrow hat hat' hfx hrr hss
        obtain ⟨i2, hi2, hy0, hy1, hy2⟩ := info_parts info2
        go_wp2_with (at_builtin; refine wpList_append_own_at _ rfl _ _ 80 rfl w.heap.size 2 i2 _ 1 8 Tryz.underlying80 hi2 hy0 hy1 hy2 rfl (by decide) (.slice wa σ.e.length wcp) σ.e.length (flat oc σ.e) rfl ?c0 ⟨w2.heap.size, 0, none⟩ 1 1 (oc (σ.r r)) rfl rfl ?c1 ?c2 ?c3 ?c4 ?c5 ?_)
        case c0 => exact owns_fx' (S := fun _ => False) HB.out.1.wr ((Fx.refl _ _).alloc _) (fun _ _ h => h)
        case c1 =>
          intro j u hu
          have := cell_one_new (w2.setCell ⟨w.heap.size + 1, 4, none⟩ (.slice va (code.length + 1) vcp)) (.int .i64 (σ.r r)) 2 j u hu
          simpa using this
        case c2 =>
          intro u hu
          simp only [oc, List.mem_singleton] at hu
          subst hu
          rfl
        case c3 => unfold maxLen; omega
        case c4 => omega
        case c5 => (have := HB.out.2.size; simp; omega)
        intro v3 w3 hown3 hgrow3 _ hat3
        have hfx3 : Fx (fun g => (Value.slice wa σ.e.length wcp).ownBlock = some g) (w2.setCell ⟨w.heap.size + 1, 4, none⟩ (.slice va (code.length + 1) vcp)) w3 := ((Fx.refl _ _).alloc _).trans (Fx.ofGrown hgrow3)
        have hat3' : v3.ownBlock = (Value.slice wa σ.e.length wcp).ownBlock ∨ ∃ g, v3.ownBlock = some g ∧ (w2.setCell ⟨w.heap.size + 1, 4, none⟩ (.slice va (code.length + 1) vcp)).heap.size ≤ g := hat3.imp id fun e => ⟨_, e, by simp⟩
        have hB3 := HB.out.1.appW (n := σ.r r) hfx3 hown3 hat3'
        have hb3 : Below w.heap.size w w3 := (HB.out.2.setCell (p := ⟨w.heap.size + 1, 4, none⟩) (by first | (simp; done) | (simp; omega)) (.slice va (code.length + 1) vcp)).trans (hfx3.below (by have := HB.out.2.size; simp; omega) (fun g hg e => by have := (owns_lt HB.out.1.wr e).1; omega))
        have HB3 := Lib.hid (And.intro hB3 hb3)
        clear hB3 hb3 hown3 hgrow3 hat3 hat3' hfx3
        go_wp2
        go_roundw
        case rel => exact ⟨i + 1, K, _, cs, _, _, by go_num, by omega, by omega, by simp; omega, by omega, (by show (σ.e ++ [σ.r r]).length ≤ i + 1; simp; omega), HB3.out.2, HB3.out.1, HM.out.2.2.out r hr8⟩
        case measure => simp; omega
    · have hnot : (i : Int) < (len : Int) → ¬ (i : Int) < 60 := fun h1 h2 => hlt ⟨by omega, by omega⟩
      have HM := Lib.hid (And.intro hbw (And.intro hM hG))
      have hM0 := HM.out.2.1
      have d4 := hM0.c4
      have d6 := hM0.f4
      clear hM0 hbw hM hG
      obtain ⟨i0, hi84, hz0, hz1, hz2⟩ := info_parts info84
      obtain ⟨wa, wcp, rfl⟩ := owns_slice HM.out.2.1.wr
      have hcase : ((i : Int) < (len : Int) ∧ ¬ (i : Int) < 60) ∨ ¬ (i : Int) < (len : Int) := by omega
      rcases hcase with ⟨g1, g2⟩ | g1
      all_goals
        go_wp2_with (at_builtin; refine wpList_append_own_at _ rfl _ _ 75 rfl w.heap.size 84 i0 _ 5 40 Tryz.underlying75 hi84 hz0 hz1 hz2 rfl (by decide) V code.length (flat ic code) rfl ?c0 ⟨wr.heap.size, 0, none⟩ 1 1 (ic last) rfl rfl ?c1 ?c2 ?c3 ?c4 ?c5 ?_)
        case c0 => exact owns_fx' (S := fun _ => False) HM.out.2.1.vr ((Fx.refl _ wr).alloc _) (fun _ _ h => h)
        case c1 => first | exact fun j u hu => hu | exact new_ic0 wr (16, 0, 0)
        case c2 => exact ic_one _
        case c3 => unfold maxLen; omega
        case c4 => omega
        case c5 => (have := HM.out.1.size; simp; omega)
        intro v2 w2 hown2 hgrow _ hat
        have hfx : Fx (fun g => V.ownBlock = some g) wr w2 := ((Fx.refl _ wr).alloc _).trans (Fx.ofGrown hgrow)
        have hat' : v2.ownBlock = V.ownBlock ∨ ∃ g, v2.ownBlock = some g ∧ wr.heap.size ≤ g := hat.imp id fun e => ⟨_, e, by omega⟩
        have hB := HM.out.2.1.appV (x := last) hfx hown2 hat'
        have hord := HM.out.2.1.ord
        have hnf : ¬ V.ownBlock = some (w.heap.size + 1) := fun e => (HM.out.2.1.vo _ e).2.1 rfl
        have q0 := (hfx.cell (b := w.heap.size + 1) (by omega) hnf 0).trans HM.out.2.1.c0
        have q1 := (hfx.cell (b := w.heap.size + 1) (by omega) hnf 1).trans HM.out.2.1.c1
        have q2 := (hfx.cell (b := w.heap.size + 1) (by omega) hnf 2).trans HM.out.2.1.c2
        have q3 := (hfx.cell (b := w.heap.size + 1) (by omega) hnf 3).trans HM.out.2.1.c3
        have q4 := (hfx.cell (b := w.heap.size + 1) (by omega) hnf 4).trans HM.out.2.1.c4
        have q6 := (hfx.frozen (b := w.heap.size + 1) (by omega) hnf 4).trans HM.out.2.1.f4
        have hb2 : Below w.heap.size w w2 := HM.out.1.trans (hfx.below HM.out.1.size (fun g hg e => by have := (owns_lt HM.out.2.1.vr e).1; omega))
        have hb2' := hb2.setCell (p := ⟨w.heap.size + 1, 4, none⟩) (by first | (simp; done) | (simp; omega)) v2
        have hsz2 := hfx.size
        obtain ⟨va, vcp, rfl⟩ := owns_slice hown2
        have HB := Lib.hid (And.intro hB hb2')
        have HG := Lib.hid HM.out.2.2
        have hsw := HM.out.1.size
        clear hB hb2 hb2' hown2 hgrow hat hat' hfx hnf d4 d6 HM HA
        go_wp2_with fail
        refine (run_at HB.out.1 HG.out (by omega) (by omega) (by simp)).mono ?_
        rintro e w3 ⟨ta, tcap, B, rfl, ho3, hBs, hb3⟩
        have hx3 : Fx (fun _ => False) (w2.setCell ⟨w.heap.size + 1, 4, none⟩ (.slice va (code.length + 1) vcp)) w3 := ((Fx.refl _ _).alloc _).trans (Fx.ofBelow hb3 (by intro g hg _; simpa using hg))
        have hxa : Fx (fun _ => False) w3 (w3.alloc (.cells #[.slice ta σ.e.length σ.e.length, .int .i64 0, .int .i64 0, .complex .f64 0 0, .string ⟨#[]⟩, .slice none 0 0, .int .i64 0] 57)) := (Fx.refl _ _).alloc _
        have hcmp : Cmp σ.e w3.heap.size ta wa (w3.alloc (.cells #[.slice ta σ.e.length σ.e.length, .int .i64 0, .int .i64 0, .complex .f64 0 0, .string ⟨#[]⟩, .slice none 0 0, .int .i64 0] 57)) :=
          ⟨by simp, by simp [go_sem], fun j hj => owns_at ec_len (owns_fx' ho3 hxa fun _ _ h => h) j hj, fun j hj => by
            obtain ⟨b, e1, e2, e3⟩ := owns_at oc_len (owns_fx' HB.out.1.wr (hx3.trans hxa) fun _ _ h => h) j hj
            exact ⟨b, e1, e2, by simpa using e3 0 _ rfl⟩⟩
        have hb3w : Below w.heap.size w w3 := HB.out.2.trans (hx3.below HB.out.2.size (fun _ _ h => h))
        have HC := Lib.hid (And.intro hcmp (And.intro hxa hb3w))
        clear hcmp hxa hb3w hx3 ho3 hBs hb3 HB HG q0 q1 q2 q3 q4 q6
        go_wp2
        go_loopw [12] (fun x wz => ∃ j : Nat, x = .int .i64 j ∧ j ≤ σ.e.length ∧ Cmp σ.e w3.heap.size ta wa wz ∧ Fx (fun _ => False) w3 wz) (fun x _ => σ.e.length - (match x with | .int _ n => n.toNat | _ => 0))
        case atStart => exact ⟨0, rfl, Nat.zero_le _, HC.out.1, HC.out.2.1⟩
        case round =>
          obtain ⟨j, rfl, hj, hcm, hxw⟩ := hrel
          have HZ := Lib.hid (And.intro hcm hxw)
          have t0 := hcm.t
          have t1 := hcm.h
          clear hcm hxw
          by_cases hjl : j < σ.e.length
          · obtain ⟨g, rfl, hg, hk⟩ := HZ.out.1.e j hjl
            obtain ⟨b2, rfl, hbl2, hk2⟩ := HZ.out.1.o j hjl
            have z2 := hk 2 _ rfl
            have z3 := hk 3 _ rfl
            have z4 := hk 4 _ rfl
            have z5 := hk 5 _ rfl
            have z6 := hk 6 _ rfl
            clear hk
            have y0 : ∀ ob, (wr.alloc ob).cell? ⟨b2, j, none⟩ = some (.int .i64 σ.e[j]) := fun ob => (((Fx.refl (fun _ => False) wr).alloc ob).cell hbl2 (fun h => h) j).trans hk2
            generalize hnn : σ.e[j] = n at z2 z3 z4 z5 z6 y0 hk2
            have hj0 : (0 : Int) ≤ (j : Int) := by omega
            have hj1 : (j : Int) < (σ.e.length : Int) := by omega
            have hwj : IntKind.i64.wrap ((j : Int) + 1) = (j : Int) + 1 := by rw [IntKind.wrap_i64]; omega
            by_cases hn0 : n = 0
            · have hkd : kd n = 0 := by simp [kd, hn0]
              rw [hkd] at z2
              subst hn0
              go_wp2_with fail
              refine wp_region_still_tail 30 (by kernel_rfl) (by kernel_rfl) ?_
              show wpStill Tryz.prog _ (wr.alloc (.cells #[.int .i64 0, .int .i64 0, .complex .f64 0 0, .string ⟨#[]⟩, .slice none 0 0] 54)).drew (fun a' => wpList Tryz.prog _ _ _ a' (wr.alloc (.cells #[.int .i64 0, .int .i64 0, .complex .f64 0 0, .string ⟨#[]⟩, .slice none 0 0] 54)).drew) _ _
              simp only [List.take_succ_cons, List.take_zero, List.drop_succ_cons, List.drop_zero]
              iterate 30 (refine wpStill_step (fun K hK => ?_); (first | refine still_yes (by rfl) ?_ | refine still_no (by rfl) ?_); go_simp; refine hK _ ?_; clear hK K)
              refine wpStill_nil ?_
              go_wp2
              go_roundw
              case rel => exact ⟨j + 1, by go_num, by omega, HZ.out.1.fx (((Fx.refl _ wr).alloc _).drew), HZ.out.2.trans (((Fx.refl _ wr).alloc _).drew)⟩
              case measure => simp; omega
            · have hkd : kd n = 1 := by simp [kd, hn0]
              rw [hkd] at z2
              go_wp2_with fail
              refine wp_region_still_tail 30 (by kernel_rfl) (by kernel_rfl) ?_
              show wpStill Tryz.prog _ (wr.alloc (.cells #[.int .i64 1, .int .i64 n, .complex .f64 0 0, .string ⟨#[]⟩, .slice none 0 0] 54)).drew (fun a' => wpList Tryz.prog _ _ _ a' (wr.alloc (.cells #[.int .i64 1, .int .i64 n, .complex .f64 0 0, .string ⟨#[]⟩, .slice none 0 0] 54)).drew) _ _
              simp only [List.take_succ_cons, List.take_zero, List.drop_succ_cons, List.drop_zero]
              have hd1 : decide (n = 0) = false := by simp [hn0]
              have hd2 : (n == 0) = false := by simp [hn0]
              have hd3 : (n != 0) = true := by simp [hn0]
              iterate 6 (refine wpStill_step (fun K hK => ?_); (first | refine still_yes (by rfl) ?_ | refine still_no (by rfl) ?_); go_simp; refine hK _ ?_; clear hK K)
              try simp only [hd1, hd2, hn0, decide_false]
              iterate 10 (refine wpStill_step (fun K hK => ?_); (first | refine still_yes (by rfl) ?_ | refine still_no (by rfl) ?_); go_simp; refine hK _ ?_; clear hK K)
              try simp only [hd1, hd2, hd3, hn0, decide_false, not_false_eq_true, decide_true, Bool.not_false]
              iterate 14 (refine wpStill_step (fun K hK => ?_); (first | refine still_yes (by rfl) ?_ | refine still_no (by rfl) ?_); go_simp; refine hK _ ?_; clear hK K)
              refine wpStill_nil ?_
              go_wp2
              go_roundw
              case rel => exact ⟨j + 1, by go_num, by omega, HZ.out.1.fx (((Fx.refl _ wr).alloc _).drew), HZ.out.2.trans (((Fx.refl _ wr).alloc _).drew)⟩
              case measure => simp; omega
          · have hjn : ¬ (j : Int) < (σ.e.length : Int) := by omega
            go_wp2_with fail
            refine (awake27_calls _).mono ?_
            rintro e w4 ⟨rfl, hb4⟩
            go_wp2
            refine bodyPost_ret (v := .bool true) (by simp [results, Tryz.results9, go_sem]) rfl ⟨rfl, ?_⟩
            exact HC.out.2.2.trans ((HZ.out.2.below HC.out.2.2.size (fun _ _ h => h)).trans (hb4.mono (by have := HZ.out.2.size; have := HC.out.2.2.size; omega)))

end Go.Proofs.YtplnnlnkcfappaaGreat.Rs
