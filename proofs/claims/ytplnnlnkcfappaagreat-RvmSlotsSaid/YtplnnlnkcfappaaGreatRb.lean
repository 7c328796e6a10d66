/- RvmSlots: code of unknown instructions, as the evaluator has it. -/
import Derived.Test.YtplnnlnkcfappaaGreatRa
namespace Go.Proofs.YtplnnlnkcfappaaGreat.Rs
open Go.RowKit Ew
set_option linter.unusedSimpArgs false
set_option linter.unusedVariables false

noncomputable section
def asN64 (v : AV) : Option Nat := match v with | .nat n => some n | .raw (.int .i64 (.ofNat n)) => some n | _ => none
/-- what is known of unknown operations: they are none of those that go astray -/
def orcM : Orc := fun op u v => match op, u with
  | .eql, .sym k => gd (te (Nat.beq (Nat.mod k 3) 0) (Nat.blt k 300) false) (ob (asN64 v) fun c => te (te (Nat.beq c 1) true (te (Nat.beq c 8) true (te (Nat.beq c 13) true (Nat.beq c 14)))) none (some (.bool false)))
  | _, _ => none
def symCells (i : Nat) : List AV := [.sym (Nat.mul 3 i), .sym (Nat.add (Nat.mul 3 i) 1), .sym (Nat.add (Nat.mul 3 i) 2), .nat 0, .nat 0]
def codeCells (m : Nat) : List AV := List.rec (motive := fun _ => List AV) [.nat 16, .nat 0, .nat 0, .nat 0, .nat 0] (fun i _ ih => .sym (Nat.mul 3 i) :: .sym (Nat.add (Nat.mul 3 i) 1) :: .sym (Nat.add (Nat.mul 3 i) 2) :: .nat 0 :: .nat 0 :: ih) (List.range m)
def argF (m : Nat) : AV := .agg [.raw (.string ⟨#[]⟩), .nat 0, .nat 5, .sym 300, .sl 0 0 (Nat.succ m) 5]
def argP : AV := .agg [.sym 301, .nat 0, .nat 8]
/-- the two, of code of m instructions and the last -/
def goodC (m : Nat) : Bool := isTrue (layOne mem0 84 5 (codeCells m) fun M => rec Tryz.prog orcM sk kn0 200 93 [argP, argF m] M)
def goodT (m : Nat) : Bool := isTrue (layOne mem0 84 5 (codeCells m) fun M => rec Tryz.prog orcM sk kn0 200 94 [argF m] M)
end

/-- what the unknown words are -/
def word (l : List Ins) (K Q : Value) (k : Nat) : Value :=
  if k = 300 then K else if k = 301 then Q else
    let x := l.getD (k / 3) (1, 0, 0)
    .int .i64 (if k % 3 = 0 then x.1 else if k % 3 = 1 then x.2.1 else x.2.2)
theorem word_one (l : List Ins) {K Q : Value} (hK : K.oneCell' = true) (hQ : Q.oneCell' = true) (k : Nat) : (word l K Q k).oneCell' = true := by
  unfold word
  split
  · exact hK
  · split
    · exact hQ
    · rfl
def words (l : List Ins) {K Q : Value} (hK : K.oneCell' = true) (hQ : Q.oneCell' = true) : Syms := ⟨word l K Q, word_one l hK hQ⟩

theorem asN64_some {v : AV} {c : Nat} (h : asN64 v = some c) (F : Env) {ρ : Syms} : den ρ F v = some (.int .i64 (c : Int)) ∧ v ≠ .bad := by
  unfold asN64 at h
  split at h
  · obtain rfl := Option.some.inj h
    exact ⟨by simp [den], by simp⟩
  · obtain rfl := Option.some.inj h
    exact ⟨by simp [den], by simp⟩
  · cases h

theorem orcM_ok {l : List Ins} (hl : ∀ x ∈ l, opOk x) {K Q : Value} (hK : K.oneCell' = true) (hQ : Q.oneCell' = true) : OrcOk (words l hK hQ) Tryz.prog orcM := by
  intro op u v r h
  unfold orcM at h
  split at h
  · rename_i k
    obtain ⟨h1, h⟩ := gd_some h
    obtain ⟨hm, h3⟩ := both h1
    obtain ⟨c, hc, h⟩ := ob_some h
    rw [te_eq] at h
    split at h
    · cases h
    · rename_i hn
      obtain rfl := Option.some.inj h
      refine ⟨by simp, (asN64_some hc (fun _ => none) (ρ := words l hK hQ)).2, fun F a b ha hb => ⟨.bool false, by simp [den], fun w t p q => ?_⟩⟩
      have hb' := (asN64_some hc F (ρ := words l hK hQ)).1
      rw [hb] at hb'
      obtain rfl := Option.some.inj hb'
      simp only [den, Option.some.injEq] at ha
      subst ha
      have hk : k < 300 := by simpa [Nat.blt_eq] using h3
      have hm' : k % 3 = 0 := Nat.eq_of_beq_eq_true hm
      have hw : (words l hK hQ).val k = .int .i64 (l.getD (k / 3) (1, 0, 0)).1 := by
        show word l K Q k = _
        unfold word
        rw [if_neg (by omega), if_neg (by omega)]
        simp only [hm', if_true]
      have hx : opOk (l.getD (k / 3) (1, 0, 0)) := by
        rw [List.getD_eq_getElem?_getD]
        cases hg : l[k / 3]? with
        | none => left; rfl
        | some x => exact hl x (List.mem_of_getElem? hg)
      rw [hw, guard_int, bin_eql]
      generalize l.getD (k / 3) (1, 0, 0) = x at hx
      have hne : x.1 ≠ (c : Int) := by
        intro e
        apply hn
        simp only [te_eq]
        unfold opOk at hx
        rw [e] at hx
        by_cases e1 : c = 1
        · simp [e1]
        · by_cases e8 : c = 8
          · simp [e8]
          · by_cases e13 : c = 13
            · simp [e13]
            · have : c = 14 := by omega
              simp [this]
      simp [hne]
  · cases h

theorem codeCells_eq (m : Nat) : codeCells m = flat symCells (List.range m) ++ [.nat 16, .nat 0, .nat 0, .nat 0, .nat 0] := by
  have : ∀ r : List Nat, (List.rec (motive := fun _ => List AV) [.nat 16, .nat 0, .nat 0, .nat 0, .nat 0] (fun i _ ih => .sym (Nat.mul 3 i) :: .sym (Nat.add (Nat.mul 3 i) 1) :: .sym (Nat.add (Nat.mul 3 i) 2) :: .nat 0 :: .nat 0 :: ih) r : List AV) = flat symCells r ++ [.nat 16, .nat 0, .nat 0, .nat 0, .nat 0] := by
    intro r
    induction r with
    | nil => rfl
    | cons i r ih =>
      show AV.sym (Nat.mul 3 i) :: AV.sym (Nat.add (Nat.mul 3 i) 1) :: AV.sym (Nat.add (Nat.mul 3 i) 2) :: .nat 0 :: .nat 0 :: _ = _
      rw [ih]
      rfl
  exact this _
theorem symCells_len (i : Nat) : (symCells i).length = 5 := rfl
theorem codeCells_len (m : Nat) : (codeCells m).length = (m + 1) * 5 := by
  rw [codeCells_eq, List.length_append, flat_length symCells 5 symCells_len]
  simp
  omega

theorem code_cell {l : List Ins} {K Q : Value} (hK : K.oneCell' = true) (hQ : Q.oneCell' = true) (hlen : l.length ≤ 60) {cs : Array Value} (hcs : cs.toList.take ((l ++ [last]).length * 5) = flat ic (l ++ [last])) (F : Env) (i : Nat) (hi : i < (codeCells l.length).length) :
    ∃ v, den (words l hK hQ) F (codeCells l.length)[i] = some v ∧ v.oneCell' = true ∧ cs[i]? = some v := by
  have hi' := hi
  rw [codeCells_len] at hi'
  have hlen2 : (l ++ [last]).length = l.length + 1 := by simp
  have hcell : ∀ (q j : Nat) (hq : q < (l ++ [last]).length), j < 5 → cs[q * 5 + j]? = (ic (l ++ [last])[q])[j]? := by
    intro q j hq hj
    rw [← flat_get ic 5 ic_len _ q hq j hj, ← hcs, List.getElem?_take_of_lt (by omega)]
    simp
  have hcode : (codeCells l.length)[i]? = some (codeCells l.length)[i] := List.getElem?_eq_getElem hi
  obtain ⟨q, j, hj, rfl⟩ : ∃ q j, j < 5 ∧ i = q * 5 + j := ⟨i / 5, i % 5, by omega, by omega⟩
  have hq : q < l.length + 1 := by omega
  have hc := hcell q j (by omega) hj
  by_cases hql : q < l.length
  · have e1 : (codeCells l.length)[q * 5 + j]? = (symCells q)[j]? := by
      rw [codeCells_eq, List.getElem?_append_left (by rw [flat_length symCells 5 symCells_len]; simp; omega), flat_get symCells 5 symCells_len (List.range l.length) q (by simpa using hql) j hj]
      simp
    rw [hcode] at e1
    have e2 : (l ++ [last])[q] = l[q] := by rw [List.getElem_append_left hql]
    rw [e2] at hc
    have hw : ∀ t, t < 3 → (words l hK hQ).val (3 * q + t) = .int .i64 (if t = 0 then l[q].1 else if t = 1 then l[q].2.1 else l[q].2.2) := by
      intro t ht
      show word l K Q _ = _
      unfold word
      rw [if_neg (by omega), if_neg (by omega)]
      have h1 : (3 * q + t) / 3 = q := by omega
      have h2 : (3 * q + t) % 3 = t := by omega
      rw [h1, h2, List.getD_eq_getElem?_getD, List.getElem?_eq_getElem hql]
      rfl
    obtain rfl | rfl | rfl | rfl | rfl : j = 0 ∨ j = 1 ∨ j = 2 ∨ j = 3 ∨ j = 4 := by omega
    · have e3 := Option.some.inj (e1.trans (show (symCells q)[0]? = some (.sym (3 * q)) from rfl))
      rw [e3]
      exact ⟨(words l hK hQ).val (3 * q), by simp [den], Syms.one _ _, by rw [hc]; have := hw 0 (by omega); simp at this; rw [this]; rfl⟩
    · have e3 := Option.some.inj (e1.trans (show (symCells q)[1]? = some (.sym (3 * q + 1)) from rfl))
      rw [e3]
      exact ⟨(words l hK hQ).val (3 * q + 1), by simp [den], Syms.one _ _, by rw [hc]; have := hw 1 (by omega); simp at this; rw [this]; rfl⟩
    · have e3 := Option.some.inj (e1.trans (show (symCells q)[2]? = some (.sym (3 * q + 2)) from rfl))
      rw [e3]
      exact ⟨(words l hK hQ).val (3 * q + 2), by simp [den], Syms.one _ _, by rw [hc]; have := hw 2 (by omega); simp at this; rw [this]; rfl⟩
    · have e3 := Option.some.inj (e1.trans (show (symCells q)[3]? = some (.nat 0) from rfl))
      rw [e3]
      exact ⟨_, by simp [den]; rfl, rfl, by rw [hc]; rfl⟩
    · have e3 := Option.some.inj (e1.trans (show (symCells q)[4]? = some (.nat 0) from rfl))
      rw [e3]
      exact ⟨_, by simp [den]; rfl, rfl, by rw [hc]; rfl⟩
  · obtain rfl : q = l.length := by omega
    have e1 : (codeCells l.length)[l.length * 5 + j]? = ([.nat 16, .nat 0, .nat 0, .nat 0, .nat 0] : List AV)[j]? := by
      rw [codeCells_eq, List.getElem?_append_right (by rw [flat_length symCells 5 symCells_len]; simp), flat_length symCells 5 symCells_len]
      simp
    rw [hcode] at e1
    have e2 : (l ++ [last])[l.length] = last := by simp
    rw [e2] at hc
    obtain rfl | rfl | rfl | rfl | rfl : j = 0 ∨ j = 1 ∨ j = 2 ∨ j = 3 ∨ j = 4 := by omega
    all_goals
      rw [Option.some.inj e1]
      exact ⟨_, by simp [den]; rfl, rfl, by rw [hc]; rfl⟩

/-- a function that the evaluator finds true of code of so many instructions is so of any such code -/
theorem run_code {f : FuncId} {args : List AV} {vs : List Value} {l : List Ins} (h : isTrue (layOne mem0 84 5 (codeCells l.length) fun M => rec Tryz.prog orcM sk kn0 200 f args M) = true)
    {fn : Func} (hfn : Tryz.prog.funcs[f]? = some fn) (hbody : fn.body.isSome = true) (hl : ∀ x ∈ l, opOk x) (hlen : l.length ≤ 60) {w : World} {v K Q : Value} (hR : Rw ic 5 84 w v (l ++ [last])) (hK : K.oneCell' = true) (hQ : Q.oneCell' = true)
    (hd : ∀ F, den (words l hK hQ) F (.sl 0 0 (Nat.succ l.length) 5) = some v → dens (words l hK hQ) F args = some vs) : Calls Tryz.prog f vs.toArray w fun e w' => e = .returned (.bool true) ∧ Below w.heap.size w w' := by
  obtain ⟨g, cap, cs, hv, hg, hs, hcap, hm, ht⟩ := hR
  have hlen2 : (l ++ [last]).length = l.length + 1 := by simp
  refine runs_one (P := Tryz.prog) (ρ := words l hK hQ) (oc := orcM) (kn := kn0) (sk := sk) (e := 84) (z := 5) (l := codeCells l.length) mix (plainly_of plain_names) (orcM_ok hl hK hQ) lex (kn0_ok _) 200 f args vs h (by rw [hfn]; exact hbody) w (by unfold mapZ; omega) (g := g) (c := cap * 5) hg (by omega) (by rw [codeCells_len]; omega) ⟨fun e => absurd e (by decide), fun _ => Nat.mul_mod_left _ _⟩ (by rw [Nat.mul_div_cancel _ (by decide)]; exact hm)
    (code_cell hK hQ hlen ht _) (hd _ ?_)
  rw [hv]
  simp only [den, setF, if_true, Option.map_some, slOff_zero, Nat.sub_zero]
  rw [Nat.mul_div_cancel _ (by decide), hlen2]

theorem counts_calls {l : List Ins} (h : goodC l.length = true) (hl : ∀ x ∈ l, opOk x) (hlen : l.length ≤ 60) {w : World} {v K Q : Value} (hR : Rw ic 5 84 w v (l ++ [last])) (hK : K.oneCell' = true) (hQ : Q.oneCell' = true) :
    Calls Tryz.prog 93 #[.agg #[Q, .int .i64 0, .int .i64 8], .agg #[.string ⟨#[]⟩, .int .i64 0, .int .i64 5, K, v]] w fun e w' => e = .returned (.bool true) ∧ Below w.heap.size w w' :=
  run_code (vs := [.agg #[Q, .int .i64 0, .int .i64 8], .agg #[.string ⟨#[]⟩, .int .i64 0, .int .i64 5, K, v]]) h Tryz.func93 rfl hl hlen hR hK hQ (fun F hv => by
    have k0 : (words l hK hQ).val 300 = K := rfl
    have k1 : (words l hK hQ).val 301 = Q := rfl
    have h0 : den (words l hK hQ) F (.sym 300) = some K := by simp [den, k0]
    have h1 : den (words l hK hQ) F (.sym 301) = some Q := by simp [den, k1]
    have hn : ∀ n : Nat, den (words l hK hQ) F (.nat n) = some (.int .i64 n) := fun n => by simp [den]
    unfold argP argF
    simp only [dens, den.eq_6, h0, h1, hv, hn, Option.map_some, den.eq_1]
    rfl)
theorem ticked_calls {l : List Ins} (h : goodT l.length = true) (hl : ∀ x ∈ l, opOk x) (hlen : l.length ≤ 60) {w : World} {v K : Value} (hR : Rw ic 5 84 w v (l ++ [last])) (hK : K.oneCell' = true) :
    Calls Tryz.prog 94 #[.agg #[.string ⟨#[]⟩, .int .i64 0, .int .i64 5, K, v]] w fun e w' => e = .returned (.bool true) ∧ Below w.heap.size w w' :=
  run_code (vs := [.agg #[.string ⟨#[]⟩, .int .i64 0, .int .i64 5, K, v]]) (K := K) (Q := .int .i64 0) h Tryz.func94 rfl hl hlen hR hK rfl (fun F hv => by
    have k0 : (words l hK (Q := .int .i64 0) rfl).val 300 = K := rfl
    have h0 : den (words l hK (Q := .int .i64 0) rfl) F (.sym 300) = some K := by simp [den, k0]
    have hn : ∀ n : Nat, den (words l hK (Q := .int .i64 0) rfl) F (.nat n) = some (.int .i64 n) := fun n => by simp [den]
    unfold argF
    simp only [dens, den.eq_6, h0, hv, hn, Option.map_some, den.eq_1]
    rfl)

end Go.Proofs.YtplnnlnkcfappaaGreat.Rs
