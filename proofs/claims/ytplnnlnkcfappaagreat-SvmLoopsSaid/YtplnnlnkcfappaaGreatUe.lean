/- SvmLoops: the law's text is turned into its stack code (printed by gen_made.py). -/
import Derived.Test.YtplnnlnkcfappaaGreatUb
import Derived.Test.YtplnnlnkcfappaaGreatTq
import Derived.Test.YtplnnlnkcfappaaGreatUl0
import Derived.Test.YtplnnlnkcfappaaGreatUl1
import Derived.Test.YtplnnlnkcfappaaGreatUl2
import Derived.Test.YtplnnlnkcfappaaGreatUl3
import Derived.Test.YtplnnlnkcfappaaGreatUl4
import Derived.Test.YtplnnlnkcfappaaGreatUl5
namespace Go.Proofs.YtplnnlnkcfappaaGreat.Sv
open Go.RowKit E3
set_option linter.unusedSimpArgs false
set_option linter.unusedVariables false

theorem ba_append' (a b : ByteArray) : (a ++ b).data.toList = a.data.toList ++ b.data.toList := by simp
theorem str_of' {ρ : Syms} {L q : Nat} {s : ByteArray} {l : List UInt8} (h : bytesOf ρ L q = l) (hs : s.data.toList = l) : Value.string (strOf ρ L q) = .string s := by
  unfold strOf
  rw [h, ← hs]

def preL : List UInt8 := [102, 110, 32, 109, 97, 105, 110, 32, 40, 32, 41, 32, 123, 32, 108, 101, 116, 32, 105, 32, 61, 32, 48, 32, 59, 32, 108, 101, 116, 32, 107, 32, 61, 32, 48, 32, 59, 32, 119, 104, 105, 108, 101, 32, 105, 32, 60, 32]
def midL : List UInt8 := [32, 123, 32, 105, 32, 61, 32, 105, 32, 43, 32, 49, 32, 59, 32, 105, 102, 32, 105, 32, 61, 61, 32]
def openL : List UInt8 := [32, 123, 32]
def howL (h : Nat) : List UInt8 := match h with
  | 0 => [98, 114, 101, 97, 107, 32, 59, 32]
  | 1 => [99, 111, 110, 116, 105, 110, 117, 101, 32, 59, 32]
  | 2 => [114, 101, 116, 117, 114, 110, 32, 107, 32, 59, 32]
  | _ => []
def postL : List UInt8 := [125, 32, 107, 32, 61, 32, 107, 32, 43, 32, 49, 32, 59, 32, 125, 32, 114, 101, 116, 117, 114, 110, 32, 107, 32, 59, 32, 125]
def textL (n a h : Nat) : List UInt8 := preL ++ (digL n ++ (midL ++ (digL a ++ (openL ++ (howL h ++ postL)))))

def LoopsMade (w w1 : World) (n a h : Nat) (e : Ending) : Prop := ∃ g o cap f c0 cn c1 ca cz, e = .returned (.tuple #[.agg #[.slice (some ⟨g, o, none⟩) 1 cap, .int .i64 0], .bool true]) ∧ Below w.heap.size w w1 ∧ Prg w1 w1.heap.size g o [f] ∧
  (∀ w2, Below w1.heap.size w1 w2 → Calls Tryz.prog 31 #[.agg #[.slice (some ⟨g, o, none⟩) 1 cap, .int .i64 0]] w2 fun e w3 => e = .returned (.int .i64 0) ∧ Below w2.heap.size w2 w3) ∧
  f.locals = 2 ∧ f.code = loopCode h c0 cn c1 ca cz ∧ f.consts[c0]? = some (1, ((0 : Nat) : Int)) ∧ f.consts[cn]? = some (1, (n : Int)) ∧ f.consts[c1]? = some (1, ((1 : Nat) : Int)) ∧ f.consts[ca]? = some (1, (a : Int))

theorem lmade_of {ρ : Syms} {oc : Orc} {L q n a h c0 cn c1 ca cz : Nat} {cs : List (Nat × AV)} {vs : List (Nat × Int)} {s : ByteArray} {w : World} (hh : h < 4) (hoc : OrcOk ρ Tryz.prog oc) (hcs : All2 (fun (c : Nat × AV) (d : Nat × Int) => c.1 = d.1 ∧ ∀ F, den ρ F c.2 = some (.int .i64 d.2)) cs vs)
    (ht : bytesOf ρ L q = textL n a h) (hs : s.data.toList = textL n a h) (h5 : vs.length ≤ 5) (k0 : vs[c0]? = some (1, ((0 : Nat) : Int))) (kn' : vs[cn]? = some (1, (n : Int))) (k1 : vs[c1]? = some (1, ((1 : Nat) : Int))) (ka : vs[ca]? = some (1, (a : Int)))
    (hst : isTrue (stageR Tryz.prog oc sk kn 11 31 54 (.str L q) [⟨(.str 4 1852399981), 0, 2, cs, loopCode h c0 cn c1 ca cz⟩] 0) = true) :
    Calls Tryz.prog 11 #[.string s] w fun e w1 => LoopsMade w w1 n a h e := by
  rw [← str_of' ht hs]
  refine (stage_sound mix (plainly_of plain_names) hoc lex (kn_ok _) (kit Tryz.func11 (by kernel_rfl)) (kit Tryz.func31 (by kernel_rfl)) (s := .str L q) (sv := .string (strOf ρ L q)) (fun F => rfl) (vs := [⟨.string (strOf ρ 4 1852399981), 0, 2, vs, loopCode h c0 cn c1 ca cz⟩]) ?_ hst w).mono ?_
  · exact .cons ⟨fun F => rfl, rfl, rfl, hcs, rfl⟩ .nil
  · rintro e w1 ⟨p, rfl, hb, hp, hc⟩
    obtain ⟨g, o, cap, rfl, hP⟩ := prg_of hp (by simp) (fun f hf => by
      obtain rfl := List.mem_singleton.1 hf
      refine ⟨rfl, h5, Nat.le_refl _, by simp [loopCode], ?_⟩
      show (loopCode h c0 cn c1 ca cz).length ≤ 1000
      unfold loopCode tail
      split <;> simp)
    exact ⟨g, o, cap, _, c0, cn, c1, ca, cz, rfl, hb, hP, hc, rfl, rfl, k0, kn', k1, ka⟩

theorem xy_neq {d : Nat → Nat} {u v : AV} {x y : Nat} (hu : ∀ F, den (symsD d) F u = some (.int .i64 (x : Nat))) (hv : ∀ F, den (symsD d) F v = some (.int .i64 (y : Nat))) (h : x ≠ y) : Entry (symsD d) Tryz.prog (.neq, u, v, .bool true) := by
  have := e_neq (P := Tryz.prog) d hu hv
  rwa [show (!Nat.beq x y) = true by
    cases hb : Nat.beq x y with
    | true => exact absurd (Nat.eq_of_beq_eq_true hb) h
    | false => rfl] at this
theorem xx_neq {d : Nat → Nat} {u : AV} {x : Nat} (hu : ∀ F, den (symsD d) F u = some (.int .i64 (x : Nat))) : Entry (symsD d) Tryz.prog (.neq, u, u, .bool false) := by
  have := e_neq (P := Tryz.prog) d hu hu
  rwa [show (!Nat.beq x x) = false by rw [Nat.beq_refl]; rfl] at this
theorem x0_eql {d : Nat → Nat} {u : AV} {x : Nat} (hu : ∀ F, den (symsD d) F u = some (.int .i64 (x : Nat))) (h : x ≠ 0) : Entry (symsD d) Tryz.prog (.eql, u, .nat 0, .bool false) := by
  have := e_eql (P := Tryz.prog) d hu (natD_den (symsD d) 0)
  rwa [show Nat.beq x 0 = false by
    cases hb : Nat.beq x 0 with
    | true => exact absurd (Nat.eq_of_beq_eq_true hb) h
    | false => rfl] at this
/-- what is known of a number that is neither 0 nor 1 -/
noncomputable def symE (u : AV) : List Known2 := [(.neq, .nat 0, u, .bool true), (.neq, u, .nat 0, .bool true), (.neq, .nat 1, u, .bool true), (.neq, u, .nat 1, .bool true), (.neq, u, u, .bool false), (.eql, u, .nat 0, .bool false)]
theorem symE_ok {d : Nat → Nat} {u : AV} {x : Nat} (hu : ∀ F, den (symsD d) F u = some (.int .i64 (x : Nat))) (h : 2 ≤ x) : ∀ e ∈ symE u, Entry (symsD d) Tryz.prog e := by
  intro e he
  simp only [symE, List.mem_cons, List.not_mem_nil, or_false] at he
  rcases he with rfl | rfl | rfl | rfl | rfl | rfl
  · exact xy_neq (natD_den _ 0) hu (by omega)
  · exact xy_neq hu (natD_den _ 0) (by omega)
  · exact xy_neq (natD_den _ 1) hu (by omega)
  · exact xy_neq hu (natD_den _ 1) (by omega)
  · exact xx_neq hu
  · exact x0_eql hu (by omega)
theorem app_ok {d : Nat → Nat} {l r : List Known2} (h : ∀ e ∈ l, Entry (symsD d) Tryz.prog e) (k : ∀ e ∈ r, Entry (symsD d) Tryz.prog e) : ∀ e ∈ l ++ r, Entry (symsD d) Tryz.prog e := fun e he => (List.mem_append.1 he).elim (h e) (k e)
theorem two_ok {d : Nat → Nat} {u v : AV} {x y : Nat} (hu : ∀ F, den (symsD d) F u = some (.int .i64 (x : Nat))) (hv : ∀ F, den (symsD d) F v = some (.int .i64 (y : Nat))) (h : x ≠ y) : ∀ e ∈ ([(.neq, u, v, .bool true), (.neq, v, u, .bool true)] : List Known2), Entry (symsD d) Tryz.prog e := by
  intro e he
  simp only [List.mem_cons, List.not_mem_nil, or_false] at he
  rcases he with rfl | rfl
  · exact xy_neq hu hv h
  · exact xy_neq hv hu (fun e => h e.symm)

/-- the digits: the first number's from 0 on, the other's from 2 on -/
def dL (n a : Nat) : Nat → Nat := fun j => match j with
  | 0 => if n < 10 then n else n / 10
  | 1 => n % 10
  | 2 => if a < 10 then a else a / 10
  | _ => a % 10
theorem n1_den {n a : Nat} (h : n < 10) (F : Env) : den (symsD (dL n a)) F (.hol 2 0) = some (.int .i64 (n : Nat)) := by
  have := holD_den (dL n a) 0 F
  rwa [show dL n a 0 % 10 = n by simp only [dL, if_pos h]; omega] at this
theorem a1_den {n a : Nat} (h : a < 10) (F : Env) : den (symsD (dL n a)) F (.hol 2 2) = some (.int .i64 (a : Nat)) := by
  have := holD_den (dL n a) 2 F
  rwa [show dL n a 2 % 10 = a by simp only [dL, if_pos h]; omega] at this
theorem n2_den {n a : Nat} (h : 10 ≤ n) (h2 : n < 100) (F : Env) : den (symsD (dL n a)) F (.sym 3) = some (.int .i64 (n : Nat)) := by
  have := vD_den (dL n a) 0 2 (by decide) (by decide) F
  rwa [show numD (dL n a) 0 2 = n by simp only [numD, dL, Nat.zero_add, if_neg (show ¬ n < 10 by omega)]; omega] at this
theorem a2_den {n a : Nat} (h : 10 ≤ a) (h2 : a < 100) (F : Env) : den (symsD (dL n a)) F (.sym 67) = some (.int .i64 (a : Nat)) := by
  have := vD_den (dL n a) 2 2 (by decide) (by decide) F
  rwa [show numD (dL n a) 2 2 = a by simp only [numD, dL, Nat.zero_add, if_neg (show ¬ a < 10 by omega)]; omega] at this
theorem n1_dig {n a : Nat} (h : n < 10) : [UInt8.ofNat (48 + dL n a 0 % 10)] = digL n := by
  rw [show dL n a 0 % 10 = n by simp only [dL, if_pos h]; omega]
  unfold digL
  rw [if_pos h]
theorem a1_dig {n a : Nat} (h : a < 10) : [UInt8.ofNat (48 + dL n a 2 % 10)] = digL a := by
  rw [show dL n a 2 % 10 = a by simp only [dL, if_pos h]; omega]
  unfold digL
  rw [if_pos h]
theorem n2_dig {n a : Nat} (h : 10 ≤ n) (h2 : n < 100) : [UInt8.ofNat (48 + dL n a 0 % 10), UInt8.ofNat (48 + dL n a 1 % 10)] = digL n := by
  rw [show dL n a 0 % 10 = n / 10 by simp only [dL, if_neg (show ¬ n < 10 by omega)]; omega, show dL n a 1 % 10 = n % 10 by simp only [dL]; omega]
  unfold digL
  rw [if_neg (by omega), if_pos h2]
theorem a2_dig {n a : Nat} (h : 10 ≤ a) (h2 : a < 100) : [UInt8.ofNat (48 + dL n a 2 % 10), UInt8.ofNat (48 + dL n a 3 % 10)] = digL a := by
  rw [show dL n a 2 % 10 = a / 10 by simp only [dL, if_neg (show ¬ a < 10 by omega)]; omega, show dL n a 3 % 10 = a % 10 by simp only [dL]; omega]
  unfold digL
  rw [if_neg (by omega), if_pos h2]

theorem stl_0_0_0_t (d : Nat → Nat) : bytesOf (symsD d) 112 258216132172355003133995926336035983505713248878989541982878240848556988137160373784569493627605897521265904073520857850665749349830064030887131190714967388774561173966540962267375037395995182534505786779608879418268422668995719542261282301057653740138264803206817148518 = preL ++ ((digL 0) ++ (midL ++ ((digL 0) ++ (openL ++ (howL 0 ++ postL))))) := by kernel_rfl
theorem stl_0_0_0_m {s : ByteArray} {w : World}  (hs : s.data.toList = textL 0 0 0) : Calls Tryz.prog 11 #[.string s] w fun e w1 => LoopsMade w w1 0 0 0 e := by
  refine lmade_of (ρ := (symsD (dL 0 0))) (n := 0) (a := 0) (h := 0) (c0 := 0) (cn := 0) (c1 := 1) (ca := 0) (cz := 2) (vs := [(1, 0), (1, 1), (0, 0)]) (by decide) (ocL_ok (fun e he => by simp at he)) (.cons ⟨rfl, fun F => by simp [den]⟩ (.cons ⟨rfl, fun F => by simp [den]⟩ (.cons ⟨rfl, fun F => by simp [den]⟩ .nil))) ?_ hs (by simp) rfl rfl rfl rfl stl_0_0_0
  rw [stl_0_0_0_t]
  rfl

theorem stl_0_0_1_t (d : Nat → Nat) : bytesOf (symsD d) 115 4332147824140149116259726599259764279047788410504565407587816548416263878286123937867379506518762722843279920030744474646628188033721729158563545471758297460056464930101768213323108716611052757734973647169924763271012840132931707941311236166907157601509935186970532577403760230 = preL ++ ((digL 0) ++ (midL ++ ((digL 0) ++ (openL ++ (howL 1 ++ postL))))) := by kernel_rfl
theorem stl_0_0_1_m {s : ByteArray} {w : World}  (hs : s.data.toList = textL 0 0 1) : Calls Tryz.prog 11 #[.string s] w fun e w1 => LoopsMade w w1 0 0 1 e := by
  refine lmade_of (ρ := (symsD (dL 0 0))) (n := 0) (a := 0) (h := 1) (c0 := 0) (cn := 0) (c1 := 1) (ca := 0) (cz := 2) (vs := [(1, 0), (1, 1), (0, 0)]) (by decide) (ocL_ok (fun e he => by simp at he)) (.cons ⟨rfl, fun F => by simp [den]⟩ (.cons ⟨rfl, fun F => by simp [den]⟩ (.cons ⟨rfl, fun F => by simp [den]⟩ .nil))) ?_ hs (by simp) rfl rfl rfl rfl stl_0_0_1
  rw [stl_0_0_1_t]
  rfl

theorem stl_0_0_2_t (d : Nat → Nat) : bytesOf (symsD d) 115 4332147824140149116259726599259764279047788410504565407587816548416263878286557792869626933469113357159793259776941509459224785127619744776779810651773378403898915832114689150539605607012454052291046399909528524525654703947639945097389479434285058165750140524170725763223416422 = preL ++ ((digL 0) ++ (midL ++ ((digL 0) ++ (openL ++ (howL 2 ++ postL))))) := by kernel_rfl
theorem stl_0_0_2_m {s : ByteArray} {w : World}  (hs : s.data.toList = textL 0 0 2) : Calls Tryz.prog 11 #[.string s] w fun e w1 => LoopsMade w w1 0 0 2 e := by
  refine lmade_of (ρ := (symsD (dL 0 0))) (n := 0) (a := 0) (h := 2) (c0 := 0) (cn := 0) (c1 := 1) (ca := 0) (cz := 2) (vs := [(1, 0), (1, 1), (0, 0)]) (by decide) (ocL_ok (fun e he => by simp at he)) (.cons ⟨rfl, fun F => by simp [den]⟩ (.cons ⟨rfl, fun F => by simp [den]⟩ (.cons ⟨rfl, fun F => by simp [den]⟩ .nil))) ?_ hs (by simp) rfl rfl rfl rfl stl_0_0_2
  rw [stl_0_0_2_t]
  rfl

theorem stl_0_0_3_t (d : Nat → Nat) : bytesOf (symsD d) 104 13997924573603572492743901501540412243412730675572909466311795738594989236557777261992152323437699467273626369844422529215154971068782273907514276829438494535514405601030121876301014987111462672892277938159089668711216830580429373328401348500322807398 = preL ++ ((digL 0) ++ (midL ++ ((digL 0) ++ (openL ++ (howL 3 ++ postL))))) := by kernel_rfl
theorem stl_0_0_3_m {s : ByteArray} {w : World}  (hs : s.data.toList = textL 0 0 3) : Calls Tryz.prog 11 #[.string s] w fun e w1 => LoopsMade w w1 0 0 3 e := by
  refine lmade_of (ρ := (symsD (dL 0 0))) (n := 0) (a := 0) (h := 3) (c0 := 0) (cn := 0) (c1 := 1) (ca := 0) (cz := 2) (vs := [(1, 0), (1, 1), (0, 0)]) (by decide) (ocL_ok (fun e he => by simp at he)) (.cons ⟨rfl, fun F => by simp [den]⟩ (.cons ⟨rfl, fun F => by simp [den]⟩ (.cons ⟨rfl, fun F => by simp [den]⟩ .nil))) ?_ hs (by simp) rfl rfl rfl rfl stl_0_0_3
  rw [stl_0_0_3_t]
  rfl

theorem stl_0_1_0_t (d : Nat → Nat) : bytesOf (symsD d) 112 258216132172355003133995926336035983505713248878989541982878240848556988137160373784569493627606144851667377178054918353186768997020099162236232402554881451830654071191647494134545353797056425579495384451034895557607774034030026293471249847212755633306181409978965847654 = preL ++ ((digL 0) ++ (midL ++ ((digL 1) ++ (openL ++ (howL 0 ++ postL))))) := by kernel_rfl
theorem stl_0_1_0_m {s : ByteArray} {w : World}  (hs : s.data.toList = textL 0 1 0) : Calls Tryz.prog 11 #[.string s] w fun e w1 => LoopsMade w w1 0 1 0 e := by
  refine lmade_of (ρ := (symsD (dL 0 0))) (n := 0) (a := 1) (h := 0) (c0 := 0) (cn := 0) (c1 := 1) (ca := 1) (cz := 2) (vs := [(1, 0), (1, 1), (0, 0)]) (by decide) (ocL_ok (fun e he => by simp at he)) (.cons ⟨rfl, fun F => by simp [den]⟩ (.cons ⟨rfl, fun F => by simp [den]⟩ (.cons ⟨rfl, fun F => by simp [den]⟩ .nil))) ?_ hs (by simp) rfl rfl rfl rfl stl_0_1_0
  rw [stl_0_1_0_t]
  rfl

theorem stl_0_1_1_t (d : Nat → Nat) : bytesOf (symsD d) 115 4332147824140149116259726599259764279047788410504565407587816548416263878286123937867379506518762722843527250432217579180688690554741376348598676820859509299970527986194665438429640583781369158796216692159522434697028979472283072975617987376874703756611828354887139349552459366 = preL ++ ((digL 0) ++ (midL ++ ((digL 1) ++ (openL ++ (howL 1 ++ postL))))) := by kernel_rfl
theorem stl_0_1_1_m {s : ByteArray} {w : World}  (hs : s.data.toList = textL 0 1 1) : Calls Tryz.prog 11 #[.string s] w fun e w1 => LoopsMade w w1 0 1 1 e := by
  refine lmade_of (ρ := (symsD (dL 0 0))) (n := 0) (a := 1) (h := 1) (c0 := 0) (cn := 0) (c1 := 1) (ca := 1) (cz := 2) (vs := [(1, 0), (1, 1), (0, 0)]) (by decide) (ocL_ok (fun e he => by simp at he)) (.cons ⟨rfl, fun F => by simp [den]⟩ (.cons ⟨rfl, fun F => by simp [den]⟩ (.cons ⟨rfl, fun F => by simp [den]⟩ .nil))) ?_ hs (by simp) rfl rfl rfl rfl stl_0_1_1
  rw [stl_0_1_1_t]
  rfl

theorem stl_0_1_2_t (d : Nat → Nat) : bytesOf (symsD d) 115 4332147824140149116259726599259764279047788410504565407587816548416263878286557792869626933469113357160040590178414613993285287648639391966814942000874590243812978888207586375646137474182770453352289444899126195951670843286991310131696230644252604320852033692087332535372115558 = preL ++ ((digL 0) ++ (midL ++ ((digL 1) ++ (openL ++ (howL 2 ++ postL))))) := by kernel_rfl
theorem stl_0_1_2_m {s : ByteArray} {w : World}  (hs : s.data.toList = textL 0 1 2) : Calls Tryz.prog 11 #[.string s] w fun e w1 => LoopsMade w w1 0 1 2 e := by
  refine lmade_of (ρ := (symsD (dL 0 0))) (n := 0) (a := 1) (h := 2) (c0 := 0) (cn := 0) (c1 := 1) (ca := 1) (cz := 2) (vs := [(1, 0), (1, 1), (0, 0)]) (by decide) (ocL_ok (fun e he => by simp at he)) (.cons ⟨rfl, fun F => by simp [den]⟩ (.cons ⟨rfl, fun F => by simp [den]⟩ (.cons ⟨rfl, fun F => by simp [den]⟩ .nil))) ?_ hs (by simp) rfl rfl rfl rfl stl_0_1_2
  rw [stl_0_1_2_t]
  rfl

theorem stl_0_1_3_t (d : Nat → Nat) : bytesOf (symsD d) 104 13997924573603572492743901501540412243412730675572909466311795738594989236558024592393625427971759969794646017034457660564256182908696336963607174054545026402684722002091364921290612658537478812231629303193396419921184376735531266496317955272471506534 = preL ++ ((digL 0) ++ (midL ++ ((digL 1) ++ (openL ++ (howL 3 ++ postL))))) := by kernel_rfl
theorem stl_0_1_3_m {s : ByteArray} {w : World}  (hs : s.data.toList = textL 0 1 3) : Calls Tryz.prog 11 #[.string s] w fun e w1 => LoopsMade w w1 0 1 3 e := by
  refine lmade_of (ρ := (symsD (dL 0 0))) (n := 0) (a := 1) (h := 3) (c0 := 0) (cn := 0) (c1 := 1) (ca := 1) (cz := 2) (vs := [(1, 0), (1, 1), (0, 0)]) (by decide) (ocL_ok (fun e he => by simp at he)) (.cons ⟨rfl, fun F => by simp [den]⟩ (.cons ⟨rfl, fun F => by simp [den]⟩ (.cons ⟨rfl, fun F => by simp [den]⟩ .nil))) ?_ hs (by simp) rfl rfl rfl rfl stl_0_1_3
  rw [stl_0_1_3_t]
  rfl

theorem stl_0_d1_0_t (d : Nat → Nat) : bytesOf (symsD d) 112 258216132172355003133995926336035983505713248878989541982878240848556988137160373784569493627626178614186698645313819057389360419412944801513430561587920559374178746425276575375340982283017112223652795836542202844095234601808873141478621085776008979907426558523010477670 = preL ++ ((digL 0) ++ (midL ++ ([UInt8.ofNat (48 + d 2 % 10)] ++ (openL ++ (howL 0 ++ postL))))) := by kernel_rfl
theorem stl_0_d1_0_m {s : ByteArray} {w : World} {a : Nat} (ha : 2 ≤ a ∧ a < 10) (hs : s.data.toList = textL 0 a 0) : Calls Tryz.prog 11 #[.string s] w fun e w1 => LoopsMade w w1 0 a 0 e := by
  refine lmade_of (ρ := (symsD (dL 0 a))) (n := 0) (a := a) (h := 0) (c0 := 0) (cn := 0) (c1 := 1) (ca := 2) (cz := 3) (vs := [(1, 0), (1, 1), (1, (a : Int)), (0, 0)]) (by decide) (ocL_ok (show ∀ e ∈ _, Entry (symsD (dL 0 a)) Tryz.prog e from (app_ok (entD_ok _ 2 1 (by decide)) (symE_ok (a1_den (n := 0) (a := a) ha.2) (by omega))))) (.cons ⟨rfl, fun F => by simp [den]⟩ (.cons ⟨rfl, fun F => by simp [den]⟩ (.cons ⟨rfl, (a1_den (n := 0) (a := a) ha.2)⟩ (.cons ⟨rfl, fun F => by simp [den]⟩ .nil)))) ?_ hs (by simp) rfl rfl rfl rfl stl_0_d1_0
  rw [stl_0_d1_0_t]
  rw [a1_dig (n := 0) (a := a) ha.2]
  rfl

theorem stl_0_d1_1_t (d : Nat → Nat) : bytesOf (symsD d) 115 4332147824140149116259726599259764279047788410504565407587816548416263878286123937867379506518762722863561012951539046439589394757332798741444316098057668333009635529719340672058721824576997644756903336316933820204336265959743640754464835384245942319865174956132287893597089382 = preL ++ ((digL 0) ++ (midL ++ ([UInt8.ofNat (48 + d 2 % 10)] ++ (openL ++ (howL 1 ++ postL))))) := by kernel_rfl
theorem stl_0_d1_1_m {s : ByteArray} {w : World} {a : Nat} (ha : 2 ≤ a ∧ a < 10) (hs : s.data.toList = textL 0 a 1) : Calls Tryz.prog 11 #[.string s] w fun e w1 => LoopsMade w w1 0 a 1 e := by
  refine lmade_of (ρ := (symsD (dL 0 a))) (n := 0) (a := a) (h := 1) (c0 := 0) (cn := 0) (c1 := 1) (ca := 2) (cz := 3) (vs := [(1, 0), (1, 1), (1, (a : Int)), (0, 0)]) (by decide) (ocL_ok (show ∀ e ∈ _, Entry (symsD (dL 0 a)) Tryz.prog e from (app_ok (entD_ok _ 2 1 (by decide)) (symE_ok (a1_den (n := 0) (a := a) ha.2) (by omega))))) (.cons ⟨rfl, fun F => by simp [den]⟩ (.cons ⟨rfl, fun F => by simp [den]⟩ (.cons ⟨rfl, (a1_den (n := 0) (a := a) ha.2)⟩ (.cons ⟨rfl, fun F => by simp [den]⟩ .nil)))) ?_ hs (by simp) rfl rfl rfl rfl stl_0_d1_1
  rw [stl_0_d1_1_t]
  rw [a1_dig (n := 0) (a := a) ha.2]
  rfl

theorem stl_0_d1_2_t (d : Nat → Nat) : bytesOf (symsD d) 115 4332147824140149116259726599259764279047788410504565407587816548416263878286557792869626933469113357180074352697736081252185991851230814359660581278072749276852086431732261609275218714978398939312976089056537581458978129774451877910543078651623842884105380293332481079416745574 = preL ++ ((digL 0) ++ (midL ++ ([UInt8.ofNat (48 + d 2 % 10)] ++ (openL ++ (howL 2 ++ postL))))) := by kernel_rfl
theorem stl_0_d1_2_m {s : ByteArray} {w : World} {a : Nat} (ha : 2 ≤ a ∧ a < 10) (hs : s.data.toList = textL 0 a 2) : Calls Tryz.prog 11 #[.string s] w fun e w1 => LoopsMade w w1 0 a 2 e := by
  refine lmade_of (ρ := (symsD (dL 0 a))) (n := 0) (a := a) (h := 2) (c0 := 0) (cn := 0) (c1 := 1) (ca := 2) (cz := 3) (vs := [(1, 0), (1, 1), (1, (a : Int)), (0, 0)]) (by decide) (ocL_ok (show ∀ e ∈ _, Entry (symsD (dL 0 a)) Tryz.prog e from (app_ok (entD_ok _ 2 1 (by decide)) (symE_ok (a1_den (n := 0) (a := a) ha.2) (by omega))))) (.cons ⟨rfl, fun F => by simp [den]⟩ (.cons ⟨rfl, fun F => by simp [den]⟩ (.cons ⟨rfl, (a1_den (n := 0) (a := a) ha.2)⟩ (.cons ⟨rfl, fun F => by simp [den]⟩ .nil)))) ?_ hs (by simp) rfl rfl rfl rfl stl_0_d1_2
  rw [stl_0_d1_2_t]
  rw [a1_dig (n := 0) (a := a) ha.2]
  rfl

theorem stl_0_d1_3_t (d : Nat → Nat) : bytesOf (symsD d) 104 13997924573603572492743901501540412243412730675572909466311795738594989236578058354912946895230660673997237439427303299841454341941735444507131849288174107643480350488052051565448024044044786098719089870972243267928555615298784613097563103816516136550 = preL ++ ((digL 0) ++ (midL ++ ([UInt8.ofNat (48 + d 2 % 10)] ++ (openL ++ (howL 3 ++ postL))))) := by kernel_rfl
theorem stl_0_d1_3_m {s : ByteArray} {w : World} {a : Nat} (ha : 2 ≤ a ∧ a < 10) (hs : s.data.toList = textL 0 a 3) : Calls Tryz.prog 11 #[.string s] w fun e w1 => LoopsMade w w1 0 a 3 e := by
  refine lmade_of (ρ := (symsD (dL 0 a))) (n := 0) (a := a) (h := 3) (c0 := 0) (cn := 0) (c1 := 1) (ca := 2) (cz := 3) (vs := [(1, 0), (1, 1), (1, (a : Int)), (0, 0)]) (by decide) (ocL_ok (show ∀ e ∈ _, Entry (symsD (dL 0 a)) Tryz.prog e from (app_ok (entD_ok _ 2 1 (by decide)) (symE_ok (a1_den (n := 0) (a := a) ha.2) (by omega))))) (.cons ⟨rfl, fun F => by simp [den]⟩ (.cons ⟨rfl, fun F => by simp [den]⟩ (.cons ⟨rfl, (a1_den (n := 0) (a := a) ha.2)⟩ (.cons ⟨rfl, fun F => by simp [den]⟩ .nil)))) ?_ hs (by simp) rfl rfl rfl rfl stl_0_d1_3
  rw [stl_0_d1_3_t]
  rw [a1_dig (n := 0) (a := a) ha.2]
  rfl

theorem stl_0_d2_0_t (d : Nat → Nat) : bytesOf (symsD d) 113 66103329836122880802302957142025211777462591713021322747616829657230588963113055688849790368672389252176442622085676734824215323889116216674692217043633768798727750545017233433771105832540497087901670171139484028170053935221871785823122875422870258414486689456906980847206 = preL ++ ((digL 0) ++ (midL ++ ([UInt8.ofNat (48 + d 2 % 10), UInt8.ofNat (48 + d 3 % 10)] ++ (openL ++ (howL 0 ++ postL))))) := by kernel_rfl
theorem stl_0_d2_0_m {s : ByteArray} {w : World} {a : Nat} (ha : 10 ≤ a ∧ a < 100) (hs : s.data.toList = textL 0 a 0) : Calls Tryz.prog 11 #[.string s] w fun e w1 => LoopsMade w w1 0 a 0 e := by
  refine lmade_of (ρ := (symsD (dL 0 a))) (n := 0) (a := a) (h := 0) (c0 := 0) (cn := 0) (c1 := 1) (ca := 2) (cz := 3) (vs := [(1, 0), (1, 1), (1, (a : Int)), (0, 0)]) (by decide) (ocL_ok (show ∀ e ∈ _, Entry (symsD (dL 0 a)) Tryz.prog e from (app_ok (entD_ok _ 2 2 (by decide)) (symE_ok (a2_den (n := 0) (a := a) ha.1 ha.2) (by omega))))) (.cons ⟨rfl, fun F => by simp [den]⟩ (.cons ⟨rfl, fun F => by simp [den]⟩ (.cons ⟨rfl, (a2_den (n := 0) (a := a) ha.1 ha.2)⟩ (.cons ⟨rfl, fun F => by simp [den]⟩ .nil)))) ?_ hs (by simp) rfl rfl rfl rfl stl_0_d2_0
  rw [stl_0_d2_0_t]
  rw [a2_dig (n := 0) (a := a) ha.1 ha.2]
  rfl

theorem stl_0_d2_1_t (d : Nat → Nat) : bytesOf (symsD d) 116 1109029842979878173762490009410499655436233833089168744342481036394563552841247728094049153668803257053159146260241764773873941190416252997212092408356756370376572294546142672193462924775525765145883612743689494956990184167368249191943259462962838698097444346955356175777153445478 = preL ++ ((digL 0) ++ (midL ++ ([UInt8.ofNat (48 + d 2 % 10), UInt8.ofNat (48 + d 3 % 10)] ++ (openL ++ (howL 1 ++ postL))))) := by kernel_rfl
theorem stl_0_d2_1_m {s : ByteArray} {w : World} {a : Nat} (ha : 10 ≤ a ∧ a < 100) (hs : s.data.toList = textL 0 a 1) : Calls Tryz.prog 11 #[.string s] w fun e w1 => LoopsMade w w1 0 a 1 e := by
  refine lmade_of (ρ := (symsD (dL 0 a))) (n := 0) (a := a) (h := 1) (c0 := 0) (cn := 0) (c1 := 1) (ca := 2) (cz := 3) (vs := [(1, 0), (1, 1), (1, (a : Int)), (0, 0)]) (by decide) (ocL_ok (show ∀ e ∈ _, Entry (symsD (dL 0 a)) Tryz.prog e from (app_ok (entD_ok _ 2 2 (by decide)) (symE_ok (a2_den (n := 0) (a := a) ha.1 ha.2) (by omega))))) (.cons ⟨rfl, fun F => by simp [den]⟩ (.cons ⟨rfl, fun F => by simp [den]⟩ (.cons ⟨rfl, (a2_den (n := 0) (a := a) ha.1 ha.2)⟩ (.cons ⟨rfl, fun F => by simp [den]⟩ .nil)))) ?_ hs (by simp) rfl rfl rfl rfl stl_0_d2_1
  rw [stl_0_d2_1_t]
  rw [a2_dig (n := 0) (a := a) ha.1 ha.2]
  rfl

theorem stl_0_d2_2_t (d : Nat → Nat) : bytesOf (symsD d) 116 1109029842979878173762490009410499655436233833089168744342481036394563552841358794974624494968093019438186561235268205685898670046454144995475456294440617092000239725461450432120886128718284496552238237445028057838178501303933557903899289739411581242542936913278605631346985430630 = preL ++ ((digL 0) ++ (midL ++ ([UInt8.ofNat (48 + d 2 % 10), UInt8.ofNat (48 + d 3 % 10)] ++ (openL ++ (howL 2 ++ postL))))) := by kernel_rfl
theorem stl_0_d2_2_m {s : ByteArray} {w : World} {a : Nat} (ha : 10 ≤ a ∧ a < 100) (hs : s.data.toList = textL 0 a 2) : Calls Tryz.prog 11 #[.string s] w fun e w1 => LoopsMade w w1 0 a 2 e := by
  refine lmade_of (ρ := (symsD (dL 0 a))) (n := 0) (a := a) (h := 2) (c0 := 0) (cn := 0) (c1 := 1) (ca := 2) (cz := 3) (vs := [(1, 0), (1, 1), (1, (a : Int)), (0, 0)]) (by decide) (ocL_ok (show ∀ e ∈ _, Entry (symsD (dL 0 a)) Tryz.prog e from (app_ok (entD_ok _ 2 2 (by decide)) (symE_ok (a2_den (n := 0) (a := a) ha.1 ha.2) (by omega))))) (.cons ⟨rfl, fun F => by simp [den]⟩ (.cons ⟨rfl, fun F => by simp [den]⟩ (.cons ⟨rfl, (a2_den (n := 0) (a := a) ha.1 ha.2)⟩ (.cons ⟨rfl, fun F => by simp [den]⟩ .nil)))) ?_ hs (by simp) rfl rfl rfl rfl stl_0_d2_2
  rw [stl_0_d2_2_t]
  rw [a2_dig (n := 0) (a := a) ha.1 ha.2]
  rfl

theorem stl_0_d2_3_t (d : Nat → Nat) : bytesOf (symsD d) 105 3583468690842514558142438784394345534313659052946664823375819709080317244564070465802362174064388188675831841012791992246666304814210379392763744877919001694414784093029441559401248592260145341353760884127694538194306114980700820511161645052044429520486 = preL ++ ((digL 0) ++ (midL ++ ([UInt8.ofNat (48 + d 2 % 10), UInt8.ofNat (48 + d 3 % 10)] ++ (openL ++ (howL 3 ++ postL))))) := by kernel_rfl
theorem stl_0_d2_3_m {s : ByteArray} {w : World} {a : Nat} (ha : 10 ≤ a ∧ a < 100) (hs : s.data.toList = textL 0 a 3) : Calls Tryz.prog 11 #[.string s] w fun e w1 => LoopsMade w w1 0 a 3 e := by
  refine lmade_of (ρ := (symsD (dL 0 a))) (n := 0) (a := a) (h := 3) (c0 := 0) (cn := 0) (c1 := 1) (ca := 2) (cz := 3) (vs := [(1, 0), (1, 1), (1, (a : Int)), (0, 0)]) (by decide) (ocL_ok (show ∀ e ∈ _, Entry (symsD (dL 0 a)) Tryz.prog e from (app_ok (entD_ok _ 2 2 (by decide)) (symE_ok (a2_den (n := 0) (a := a) ha.1 ha.2) (by omega))))) (.cons ⟨rfl, fun F => by simp [den]⟩ (.cons ⟨rfl, fun F => by simp [den]⟩ (.cons ⟨rfl, (a2_den (n := 0) (a := a) ha.1 ha.2)⟩ (.cons ⟨rfl, fun F => by simp [den]⟩ .nil)))) ?_ hs (by simp) rfl rfl rfl rfl stl_0_d2_3
  rw [stl_0_d2_3_t]
  rw [a2_dig (n := 0) (a := a) ha.1 ha.2]
  rfl

theorem stl_1_0_0_t (d : Nat → Nat) : bytesOf (symsD d) 112 258216132172355003133995926336035983505713248878989541982878240848556988137160373784569493627605897521265904073520857850665749349830064030887131190714967428176567370361020174546415137539608987614245057245055547366561826914717491039471893715323908625053905609834807455334 = preL ++ ((digL 1) ++ (midL ++ ((digL 0) ++ (openL ++ (howL 0 ++ postL))))) := by kernel_rfl
theorem stl_1_0_0_m {s : ByteArray} {w : World}  (hs : s.data.toList = textL 1 0 0) : Calls Tryz.prog 11 #[.string s] w fun e w1 => LoopsMade w w1 1 0 0 e := by
  refine lmade_of (ρ := (symsD (dL 0 0))) (n := 1) (a := 0) (h := 0) (c0 := 0) (cn := 1) (c1 := 1) (ca := 0) (cz := 2) (vs := [(1, 0), (1, 1), (0, 0)]) (by decide) (ocL_ok (fun e he => by simp at he)) (.cons ⟨rfl, fun F => by simp [den]⟩ (.cons ⟨rfl, fun F => by simp [den]⟩ (.cons ⟨rfl, fun F => by simp [den]⟩ .nil))) ?_ hs (by simp) rfl rfl rfl rfl stl_1_0_0
  rw [stl_1_0_0_t]
  rfl

theorem stl_1_0_1_t (d : Nat → Nat) : bytesOf (symsD d) 115 4332147824140149116259726599259764279047788410504565407587816548416263878286123937867379506518762722843279920030744474646628188033721729158563545471758297460056504332107964607802320995651152901348778726909195228717680788426335953663082733377518571867764820102611339205394067046 = preL ++ ((digL 1) ++ (midL ++ ((digL 0) ++ (openL ++ (howL 1 ++ postL))))) := by kernel_rfl
theorem stl_1_0_1_m {s : ByteArray} {w : World}  (hs : s.data.toList = textL 1 0 1) : Calls Tryz.prog 11 #[.string s] w fun e w1 => LoopsMade w w1 1 0 1 e := by
  refine lmade_of (ρ := (symsD (dL 0 0))) (n := 1) (a := 0) (h := 1) (c0 := 0) (cn := 1) (c1 := 1) (ca := 0) (cz := 2) (vs := [(1, 0), (1, 1), (0, 0)]) (by decide) (ocL_ok (fun e he => by simp at he)) (.cons ⟨rfl, fun F => by simp [den]⟩ (.cons ⟨rfl, fun F => by simp [den]⟩ (.cons ⟨rfl, fun F => by simp [den]⟩ .nil))) ?_ hs (by simp) rfl rfl rfl rfl stl_1_0_1
  rw [stl_1_0_1_t]
  rfl

theorem stl_1_0_2_t (d : Nat → Nat) : bytesOf (symsD d) 115 4332147824140149116259726599259764279047788410504565407587816548416263878286557792869626933469113357159793259776941509459224785127619744776779810651773378403898955234120885545018817886052554195904851479648798989972322652241044190819160976644896472432005025439811532391213723238 = preL ++ ((digL 1) ++ (midL ++ ((digL 0) ++ (openL ++ (howL 2 ++ postL))))) := by kernel_rfl
theorem stl_1_0_2_m {s : ByteArray} {w : World}  (hs : s.data.toList = textL 1 0 2) : Calls Tryz.prog 11 #[.string s] w fun e w1 => LoopsMade w w1 1 0 2 e := by
  refine lmade_of (ρ := (symsD (dL 0 0))) (n := 1) (a := 0) (h := 2) (c0 := 0) (cn := 1) (c1 := 1) (ca := 0) (cz := 2) (vs := [(1, 0), (1, 1), (0, 0)]) (by decide) (ocL_ok (fun e he => by simp at he)) (.cons ⟨rfl, fun F => by simp [den]⟩ (.cons ⟨rfl, fun F => by simp [den]⟩ (.cons ⟨rfl, fun F => by simp [den]⟩ .nil))) ?_ hs (by simp) rfl rfl rfl rfl stl_1_0_2
  rw [stl_1_0_2_t]
  rfl

theorem stl_1_0_3_t (d : Nat → Nat) : bytesOf (symsD d) 104 13997924573603572492743901501540412243412730675572909466311795738594989236557777261992152323437699467273626369844422529215154971068782313309520473223917706814554505744643926956040285452558130621185682183880861165921828244846684258244042155128313114214 = preL ++ ((digL 1) ++ (midL ++ ((digL 0) ++ (openL ++ (howL 3 ++ postL))))) := by kernel_rfl
theorem stl_1_0_3_m {s : ByteArray} {w : World}  (hs : s.data.toList = textL 1 0 3) : Calls Tryz.prog 11 #[.string s] w fun e w1 => LoopsMade w w1 1 0 3 e := by
  refine lmade_of (ρ := (symsD (dL 0 0))) (n := 1) (a := 0) (h := 3) (c0 := 0) (cn := 1) (c1 := 1) (ca := 0) (cz := 2) (vs := [(1, 0), (1, 1), (0, 0)]) (by decide) (ocL_ok (fun e he => by simp at he)) (.cons ⟨rfl, fun F => by simp [den]⟩ (.cons ⟨rfl, fun F => by simp [den]⟩ (.cons ⟨rfl, fun F => by simp [den]⟩ .nil))) ?_ hs (by simp) rfl rfl rfl rfl stl_1_0_3
  rw [stl_1_0_3_t]
  rfl

theorem stl_1_1_0_t (d : Nat → Nat) : bytesOf (symsD d) 112 258216132172355003133995926336035983505713248878989541982878240848556988137160373784569493627606144851667377178054918353186768997020099162236232402554881491232660267586126706413585453940670230659234654916481563505901178279751797790681861261479010518221822216606956154470 = preL ++ ((digL 1) ++ (midL ++ ((digL 1) ++ (openL ++ (howL 0 ++ postL))))) := by kernel_rfl
theorem stl_1_1_0_m {s : ByteArray} {w : World}  (hs : s.data.toList = textL 1 1 0) : Calls Tryz.prog 11 #[.string s] w fun e w1 => LoopsMade w w1 1 1 0 e := by
  refine lmade_of (ρ := (symsD (dL 0 0))) (n := 1) (a := 1) (h := 0) (c0 := 0) (cn := 1) (c1 := 1) (ca := 1) (cz := 2) (vs := [(1, 0), (1, 1), (0, 0)]) (by decide) (ocL_ok (fun e he => by simp at he)) (.cons ⟨rfl, fun F => by simp [den]⟩ (.cons ⟨rfl, fun F => by simp [den]⟩ (.cons ⟨rfl, fun F => by simp [den]⟩ .nil))) ?_ hs (by simp) rfl rfl rfl rfl stl_1_1_0
  rw [stl_1_1_0_t]
  rfl

theorem stl_1_1_1_t (d : Nat → Nat) : bytesOf (symsD d) 115 4332147824140149116259726599259764279047788410504565407587816548416263878286123937867379506518762722843527250432217579180688690554741376348598676820859509299970567388200861832908852862821469302410021771898792900143696927765687318697389484587486118022866713270527945977542766182 = preL ++ ((digL 1) ++ (midL ++ ((digL 1) ++ (openL ++ (howL 1 ++ postL))))) := by kernel_rfl
theorem stl_1_1_1_m {s : ByteArray} {w : World}  (hs : s.data.toList = textL 1 1 1) : Calls Tryz.prog 11 #[.string s] w fun e w1 => LoopsMade w w1 1 1 1 e := by
  refine lmade_of (ρ := (symsD (dL 0 0))) (n := 1) (a := 1) (h := 1) (c0 := 0) (cn := 1) (c1 := 1) (ca := 1) (cz := 2) (vs := [(1, 0), (1, 1), (0, 0)]) (by decide) (ocL_ok (fun e he => by simp at he)) (.cons ⟨rfl, fun F => by simp [den]⟩ (.cons ⟨rfl, fun F => by simp [den]⟩ (.cons ⟨rfl, fun F => by simp [den]⟩ .nil))) ?_ hs (by simp) rfl rfl rfl rfl stl_1_1_1
  rw [stl_1_1_1_t]
  rfl

theorem stl_1_1_2_t (d : Nat → Nat) : bytesOf (symsD d) 115 4332147824140149116259726599259764279047788410504565407587816548416263878286557792869626933469113357160040590178414613993285287648639391966814942000874590243813018290213782770125349753222870596966094524638396661398338791580395555853467727854864018587106918607728139163362422374 = preL ++ ((digL 1) ++ (midL ++ ((digL 1) ++ (openL ++ (howL 2 ++ postL))))) := by kernel_rfl
theorem stl_1_1_2_m {s : ByteArray} {w : World}  (hs : s.data.toList = textL 1 1 2) : Calls Tryz.prog 11 #[.string s] w fun e w1 => LoopsMade w w1 1 1 2 e := by
  refine lmade_of (ρ := (symsD (dL 0 0))) (n := 1) (a := 1) (h := 2) (c0 := 0) (cn := 1) (c1 := 1) (ca := 1) (cz := 2) (vs := [(1, 0), (1, 1), (0, 0)]) (by decide) (ocL_ok (fun e he => by simp at he)) (.cons ⟨rfl, fun F => by simp [den]⟩ (.cons ⟨rfl, fun F => by simp [den]⟩ (.cons ⟨rfl, fun F => by simp [den]⟩ .nil))) ?_ hs (by simp) rfl rfl rfl rfl stl_1_1_2
  rw [stl_1_1_2_t]
  rfl

theorem stl_1_1_3_t (d : Nat → Nat) : bytesOf (symsD d) 104 13997924573603572492743901501540412243412730675572909466311795738594989236558024592393625427971759969794646017034457660564256182908696376365613370449024238681724822145705170001029883123984146760525033548915167917131795791001786151411958761900461813350 = preL ++ ((digL 1) ++ (midL ++ ((digL 1) ++ (openL ++ (howL 3 ++ postL))))) := by kernel_rfl
theorem stl_1_1_3_m {s : ByteArray} {w : World}  (hs : s.data.toList = textL 1 1 3) : Calls Tryz.prog 11 #[.string s] w fun e w1 => LoopsMade w w1 1 1 3 e := by
  refine lmade_of (ρ := (symsD (dL 0 0))) (n := 1) (a := 1) (h := 3) (c0 := 0) (cn := 1) (c1 := 1) (ca := 1) (cz := 2) (vs := [(1, 0), (1, 1), (0, 0)]) (by decide) (ocL_ok (fun e he => by simp at he)) (.cons ⟨rfl, fun F => by simp [den]⟩ (.cons ⟨rfl, fun F => by simp [den]⟩ (.cons ⟨rfl, fun F => by simp [den]⟩ .nil))) ?_ hs (by simp) rfl rfl rfl rfl stl_1_1_3
  rw [stl_1_1_3_t]
  rfl

theorem stl_1_d1_0_t (d : Nat → Nat) : bytesOf (symsD d) 112 258216132172355003133995926336035983505713248878989541982878240848556988137160373784569493627626178614186698645313819057389360419412944801513430561587920598776184942819755787654381082426630917303392066301988870792388638847530644638689232500042263864823067365151000784486 = preL ++ ((digL 1) ++ (midL ++ ([UInt8.ofNat (48 + d 2 % 10)] ++ (openL ++ (howL 0 ++ postL))))) := by kernel_rfl
theorem stl_1_d1_0_m {s : ByteArray} {w : World} {a : Nat} (ha : 2 ≤ a ∧ a < 10) (hs : s.data.toList = textL 1 a 0) : Calls Tryz.prog 11 #[.string s] w fun e w1 => LoopsMade w w1 1 a 0 e := by
  refine lmade_of (ρ := (symsD (dL 0 a))) (n := 1) (a := a) (h := 0) (c0 := 0) (cn := 1) (c1 := 1) (ca := 2) (cz := 3) (vs := [(1, 0), (1, 1), (1, (a : Int)), (0, 0)]) (by decide) (ocL_ok (show ∀ e ∈ _, Entry (symsD (dL 0 a)) Tryz.prog e from (app_ok (entD_ok _ 2 1 (by decide)) (symE_ok (a1_den (n := 0) (a := a) ha.2) (by omega))))) (.cons ⟨rfl, fun F => by simp [den]⟩ (.cons ⟨rfl, fun F => by simp [den]⟩ (.cons ⟨rfl, (a1_den (n := 0) (a := a) ha.2)⟩ (.cons ⟨rfl, fun F => by simp [den]⟩ .nil)))) ?_ hs (by simp) rfl rfl rfl rfl stl_1_d1_0
  rw [stl_1_d1_0_t]
  rw [a1_dig (n := 0) (a := a) ha.2]
  rfl

theorem stl_1_d1_1_t (d : Nat → Nat) : bytesOf (symsD d) 115 4332147824140149116259726599259764279047788410504565407587816548416263878286123937867379506518762722863561012951539046439589394757332798741444316098057668333009674931725537066537934103617097788370708416056204285651004214253147886476236332594857356586120059871773094521587396198 = preL ++ ((digL 1) ++ (midL ++ ([UInt8.ofNat (48 + d 2 % 10)] ++ (openL ++ (howL 1 ++ postL))))) := by kernel_rfl
theorem stl_1_d1_1_m {s : ByteArray} {w : World} {a : Nat} (ha : 2 ≤ a ∧ a < 10) (hs : s.data.toList = textL 1 a 1) : Calls Tryz.prog 11 #[.string s] w fun e w1 => LoopsMade w w1 1 a 1 e := by
  refine lmade_of (ρ := (symsD (dL 0 a))) (n := 1) (a := a) (h := 1) (c0 := 0) (cn := 1) (c1 := 1) (ca := 2) (cz := 3) (vs := [(1, 0), (1, 1), (1, (a : Int)), (0, 0)]) (by decide) (ocL_ok (show ∀ e ∈ _, Entry (symsD (dL 0 a)) Tryz.prog e from (app_ok (entD_ok _ 2 1 (by decide)) (symE_ok (a1_den (n := 0) (a := a) ha.2) (by omega))))) (.cons ⟨rfl, fun F => by simp [den]⟩ (.cons ⟨rfl, fun F => by simp [den]⟩ (.cons ⟨rfl, (a1_den (n := 0) (a := a) ha.2)⟩ (.cons ⟨rfl, fun F => by simp [den]⟩ .nil)))) ?_ hs (by simp) rfl rfl rfl rfl stl_1_d1_1
  rw [stl_1_d1_1_t]
  rw [a1_dig (n := 0) (a := a) ha.2]
  rfl

theorem stl_1_d1_2_t (d : Nat → Nat) : bytesOf (symsD d) 115 4332147824140149116259726599259764279047788410504565407587816548416263878286557792869626933469113357180074352697736081252185991851230814359660581278072749276852125833738458003754430994018499082926781168795808046905646078067856123632314575862235257150360265208973287707407052390 = preL ++ ((digL 1) ++ (midL ++ ([UInt8.ofNat (48 + d 2 % 10)] ++ (openL ++ (howL 2 ++ postL))))) := by kernel_rfl
theorem stl_1_d1_2_m {s : ByteArray} {w : World} {a : Nat} (ha : 2 ≤ a ∧ a < 10) (hs : s.data.toList = textL 1 a 2) : Calls Tryz.prog 11 #[.string s] w fun e w1 => LoopsMade w w1 1 a 2 e := by
  refine lmade_of (ρ := (symsD (dL 0 a))) (n := 1) (a := a) (h := 2) (c0 := 0) (cn := 1) (c1 := 1) (ca := 2) (cz := 3) (vs := [(1, 0), (1, 1), (1, (a : Int)), (0, 0)]) (by decide) (ocL_ok (show ∀ e ∈ _, Entry (symsD (dL 0 a)) Tryz.prog e from (app_ok (entD_ok _ 2 1 (by decide)) (symE_ok (a1_den (n := 0) (a := a) ha.2) (by omega))))) (.cons ⟨rfl, fun F => by simp [den]⟩ (.cons ⟨rfl, fun F => by simp [den]⟩ (.cons ⟨rfl, (a1_den (n := 0) (a := a) ha.2)⟩ (.cons ⟨rfl, fun F => by simp [den]⟩ .nil)))) ?_ hs (by simp) rfl rfl rfl rfl stl_1_d1_2
  rw [stl_1_d1_2_t]
  rw [a1_dig (n := 0) (a := a) ha.2]
  rfl

theorem stl_1_d1_3_t (d : Nat → Nat) : bytesOf (symsD d) 104 13997924573603572492743901501540412243412730675572909466311795738594989236578058354912946895230660673997237439427303299841454341941735483909138045682653319922520450631665856645187294509491454047012494116694014765139167029565039498013203910444506443366 = preL ++ ((digL 1) ++ (midL ++ ([UInt8.ofNat (48 + d 2 % 10)] ++ (openL ++ (howL 3 ++ postL))))) := by kernel_rfl
theorem stl_1_d1_3_m {s : ByteArray} {w : World} {a : Nat} (ha : 2 ≤ a ∧ a < 10) (hs : s.data.toList = textL 1 a 3) : Calls Tryz.prog 11 #[.string s] w fun e w1 => LoopsMade w w1 1 a 3 e := by
  refine lmade_of (ρ := (symsD (dL 0 a))) (n := 1) (a := a) (h := 3) (c0 := 0) (cn := 1) (c1 := 1) (ca := 2) (cz := 3) (vs := [(1, 0), (1, 1), (1, (a : Int)), (0, 0)]) (by decide) (ocL_ok (show ∀ e ∈ _, Entry (symsD (dL 0 a)) Tryz.prog e from (app_ok (entD_ok _ 2 1 (by decide)) (symE_ok (a1_den (n := 0) (a := a) ha.2) (by omega))))) (.cons ⟨rfl, fun F => by simp [den]⟩ (.cons ⟨rfl, fun F => by simp [den]⟩ (.cons ⟨rfl, (a1_den (n := 0) (a := a) ha.2)⟩ (.cons ⟨rfl, fun F => by simp [den]⟩ .nil)))) ?_ hs (by simp) rfl rfl rfl rfl stl_1_d1_3
  rw [stl_1_d1_3_t]
  rw [a1_dig (n := 0) (a := a) ha.2]
  rfl

theorem stl_1_d2_0_t (d : Nat → Nat) : bytesOf (symsD d) 113 66103329836122880802302957142025211777462591713021322747616829657230588963113055688849790368672389252176442622085676734824215323889116216674692217043633768838129756741411712646050145932684110892981409441604930696118347339467593557320333486837136513299402330263534971154022 = preL ++ ((digL 1) ++ (midL ++ ([UInt8.ofNat (48 + d 2 % 10), UInt8.ofNat (48 + d 3 % 10)] ++ (openL ++ (howL 0 ++ postL))))) := by kernel_rfl
theorem stl_1_d2_0_m {s : ByteArray} {w : World} {a : Nat} (ha : 10 ≤ a ∧ a < 100) (hs : s.data.toList = textL 1 a 0) : Calls Tryz.prog 11 #[.string s] w fun e w1 => LoopsMade w w1 1 a 0 e := by
  refine lmade_of (ρ := (symsD (dL 0 a))) (n := 1) (a := a) (h := 0) (c0 := 0) (cn := 1) (c1 := 1) (ca := 2) (cz := 3) (vs := [(1, 0), (1, 1), (1, (a : Int)), (0, 0)]) (by decide) (ocL_ok (show ∀ e ∈ _, Entry (symsD (dL 0 a)) Tryz.prog e from (app_ok (entD_ok _ 2 2 (by decide)) (symE_ok (a2_den (n := 0) (a := a) ha.1 ha.2) (by omega))))) (.cons ⟨rfl, fun F => by simp [den]⟩ (.cons ⟨rfl, fun F => by simp [den]⟩ (.cons ⟨rfl, (a2_den (n := 0) (a := a) ha.1 ha.2)⟩ (.cons ⟨rfl, fun F => by simp [den]⟩ .nil)))) ?_ hs (by simp) rfl rfl rfl rfl stl_1_d2_0
  rw [stl_1_d2_0_t]
  rw [a2_dig (n := 0) (a := a) ha.1 ha.2]
  rfl

theorem stl_1_d2_1_t (d : Nat → Nat) : bytesOf (symsD d) 116 1109029842979878173762490009410499655436233833089168744342481036394563552841247728094049153668803257053159146260241764773873941190416252997212092408356756370376572333948148868587942137054565865289497417823428765422436852115661653437665030960173450112363699231870996982405143752294 = preL ++ ((digL 1) ++ (midL ++ ([UInt8.ofNat (48 + d 2 % 10), UInt8.ofNat (48 + d 3 % 10)] ++ (openL ++ (howL 1 ++ postL))))) := by kernel_rfl
theorem stl_1_d2_1_m {s : ByteArray} {w : World} {a : Nat} (ha : 10 ≤ a ∧ a < 100) (hs : s.data.toList = textL 1 a 1) : Calls Tryz.prog 11 #[.string s] w fun e w1 => LoopsMade w w1 1 a 1 e := by
  refine lmade_of (ρ := (symsD (dL 0 a))) (n := 1) (a := a) (h := 1) (c0 := 0) (cn := 1) (c1 := 1) (ca := 2) (cz := 3) (vs := [(1, 0), (1, 1), (1, (a : Int)), (0, 0)]) (by decide) (ocL_ok (show ∀ e ∈ _, Entry (symsD (dL 0 a)) Tryz.prog e from (app_ok (entD_ok _ 2 2 (by decide)) (symE_ok (a2_den (n := 0) (a := a) ha.1 ha.2) (by omega))))) (.cons ⟨rfl, fun F => by simp [den]⟩ (.cons ⟨rfl, fun F => by simp [den]⟩ (.cons ⟨rfl, (a2_den (n := 0) (a := a) ha.1 ha.2)⟩ (.cons ⟨rfl, fun F => by simp [den]⟩ .nil)))) ?_ hs (by simp) rfl rfl rfl rfl stl_1_d2_1
  rw [stl_1_d2_1_t]
  rw [a2_dig (n := 0) (a := a) ha.1 ha.2]
  rfl

theorem stl_1_d2_2_t (d : Nat → Nat) : bytesOf (symsD d) 116 1109029842979878173762490009410499655436233833089168744342481036394563552841358794974624494968093019438186561235268205685898670046454144995475456294440617092000239764863456628515365340997324596695852042524767328303625169252226962149621061236622192656809191798194246437974975737446 = preL ++ ((digL 1) ++ (midL ++ ([UInt8.ofNat (48 + d 2 % 10), UInt8.ofNat (48 + d 3 % 10)] ++ (openL ++ (howL 2 ++ postL))))) := by kernel_rfl
theorem stl_1_d2_2_m {s : ByteArray} {w : World} {a : Nat} (ha : 10 ≤ a ∧ a < 100) (hs : s.data.toList = textL 1 a 2) : Calls Tryz.prog 11 #[.string s] w fun e w1 => LoopsMade w w1 1 a 2 e := by
  refine lmade_of (ρ := (symsD (dL 0 a))) (n := 1) (a := a) (h := 2) (c0 := 0) (cn := 1) (c1 := 1) (ca := 2) (cz := 3) (vs := [(1, 0), (1, 1), (1, (a : Int)), (0, 0)]) (by decide) (ocL_ok (show ∀ e ∈ _, Entry (symsD (dL 0 a)) Tryz.prog e from (app_ok (entD_ok _ 2 2 (by decide)) (symE_ok (a2_den (n := 0) (a := a) ha.1 ha.2) (by omega))))) (.cons ⟨rfl, fun F => by simp [den]⟩ (.cons ⟨rfl, fun F => by simp [den]⟩ (.cons ⟨rfl, (a2_den (n := 0) (a := a) ha.1 ha.2)⟩ (.cons ⟨rfl, fun F => by simp [den]⟩ .nil)))) ?_ hs (by simp) rfl rfl rfl rfl stl_1_d2_2
  rw [stl_1_d2_2_t]
  rw [a2_dig (n := 0) (a := a) ha.1 ha.2]
  rfl

theorem stl_1_d2_3_t (d : Nat → Nat) : bytesOf (symsD d) 105 3583468690842514558142438784394345534313659052946664823375819709080317244564070465802362174064388188675831841012791992246666304814210379432165751074313480906693824193173055364480987862725592009302054288373416309691516726394967075396077285858672419827302 = preL ++ ((digL 1) ++ (midL ++ ([UInt8.ofNat (48 + d 2 % 10), UInt8.ofNat (48 + d 3 % 10)] ++ (openL ++ (howL 3 ++ postL))))) := by kernel_rfl
theorem stl_1_d2_3_m {s : ByteArray} {w : World} {a : Nat} (ha : 10 ≤ a ∧ a < 100) (hs : s.data.toList = textL 1 a 3) : Calls Tryz.prog 11 #[.string s] w fun e w1 => LoopsMade w w1 1 a 3 e := by
  refine lmade_of (ρ := (symsD (dL 0 a))) (n := 1) (a := a) (h := 3) (c0 := 0) (cn := 1) (c1 := 1) (ca := 2) (cz := 3) (vs := [(1, 0), (1, 1), (1, (a : Int)), (0, 0)]) (by decide) (ocL_ok (show ∀ e ∈ _, Entry (symsD (dL 0 a)) Tryz.prog e from (app_ok (entD_ok _ 2 2 (by decide)) (symE_ok (a2_den (n := 0) (a := a) ha.1 ha.2) (by omega))))) (.cons ⟨rfl, fun F => by simp [den]⟩ (.cons ⟨rfl, fun F => by simp [den]⟩ (.cons ⟨rfl, (a2_den (n := 0) (a := a) ha.1 ha.2)⟩ (.cons ⟨rfl, fun F => by simp [den]⟩ .nil)))) ?_ hs (by simp) rfl rfl rfl rfl stl_1_d2_3
  rw [stl_1_d2_3_t]
  rw [a2_dig (n := 0) (a := a) ha.1 ha.2]
  rfl

theorem stl_d1_0_0_t (d : Nat → Nat) : bytesOf (symsD d) 112 258216132172355003133995926336035983505713248878989541982878240848556988137160373784569493627605897521265904073520857850665749349830064030887131190714970540935056885524877944590583048885099588913647424015342315281740762326737439319110195442358044533389529333446041693798 = preL ++ ([UInt8.ofNat (48 + d 0 % 10)] ++ (midL ++ ((digL 0) ++ (openL ++ (howL 0 ++ postL))))) := by kernel_rfl
theorem stl_d1_0_0_m {s : ByteArray} {w : World} {n : Nat} (hn : 2 ≤ n ∧ n < 10) (hs : s.data.toList = textL n 0 0) : Calls Tryz.prog 11 #[.string s] w fun e w1 => LoopsMade w w1 n 0 0 e := by
  refine lmade_of (ρ := (symsD (dL n 0))) (n := n) (a := 0) (h := 0) (c0 := 0) (cn := 1) (c1 := 2) (ca := 0) (cz := 3) (vs := [(1, 0), (1, (n : Int)), (1, 1), (0, 0)]) (by decide) (ocL_ok (show ∀ e ∈ _, Entry (symsD (dL n 0)) Tryz.prog e from (app_ok (entD_ok _ 0 1 (by decide)) (symE_ok (n1_den (n := n) (a := 0) hn.2) (by omega))))) (.cons ⟨rfl, fun F => by simp [den]⟩ (.cons ⟨rfl, (n1_den (n := n) (a := 0) hn.2)⟩ (.cons ⟨rfl, fun F => by simp [den]⟩ (.cons ⟨rfl, fun F => by simp [den]⟩ .nil)))) ?_ hs (by simp) rfl rfl rfl rfl stl_d1_0_0
  rw [stl_d1_0_0_t]
  rw [n1_dig (n := n) (a := 0) hn.2]
  rfl

theorem stl_d1_0_1_t (d : Nat → Nat) : bytesOf (symsD d) 115 4332147824140149116259726599259764279047788410504565407587816548416263878286123937867379506518762722843279920030744474646628188033721729158563545471758297460059617090597479771660091039819064246839380026311561999004448703605271365683031013015820298901900728438235062816628305510 = preL ++ ([UInt8.ofNat (48 + d 0 % 10)] ++ (midL ++ ((digL 0) ++ (openL ++ (howL 1 ++ postL))))) := by kernel_rfl
theorem stl_d1_0_1_m {s : ByteArray} {w : World} {n : Nat} (hn : 2 ≤ n ∧ n < 10) (hs : s.data.toList = textL n 0 1) : Calls Tryz.prog 11 #[.string s] w fun e w1 => LoopsMade w w1 n 0 1 e := by
  refine lmade_of (ρ := (symsD (dL n 0))) (n := n) (a := 0) (h := 1) (c0 := 0) (cn := 1) (c1 := 2) (ca := 0) (cz := 3) (vs := [(1, 0), (1, (n : Int)), (1, 1), (0, 0)]) (by decide) (ocL_ok (show ∀ e ∈ _, Entry (symsD (dL n 0)) Tryz.prog e from (app_ok (entD_ok _ 0 1 (by decide)) (symE_ok (n1_den (n := n) (a := 0) hn.2) (by omega))))) (.cons ⟨rfl, fun F => by simp [den]⟩ (.cons ⟨rfl, (n1_den (n := n) (a := 0) hn.2)⟩ (.cons ⟨rfl, fun F => by simp [den]⟩ (.cons ⟨rfl, fun F => by simp [den]⟩ .nil)))) ?_ hs (by simp) rfl rfl rfl rfl stl_d1_0_1
  rw [stl_d1_0_1_t]
  rw [n1_dig (n := n) (a := 0) hn.2]
  rfl

theorem stl_d1_0_2_t (d : Nat → Nat) : bytesOf (symsD d) 115 4332147824140149116259726599259764279047788410504565407587816548416263878286557792869626933469113357159793259776941509459224785127619744776779810651773378403902067992610400708876587930220465541395452779051165760259090567419979602839109256283198199466140933775435256002447961702 = preL ++ ([UInt8.ofNat (48 + d 0 % 10)] ++ (midL ++ ((digL 0) ++ (openL ++ (howL 2 ++ postL))))) := by kernel_rfl
theorem stl_d1_0_2_m {s : ByteArray} {w : World} {n : Nat} (hn : 2 ≤ n ∧ n < 10) (hs : s.data.toList = textL n 0 2) : Calls Tryz.prog 11 #[.string s] w fun e w1 => LoopsMade w w1 n 0 2 e := by
  refine lmade_of (ρ := (symsD (dL n 0))) (n := n) (a := 0) (h := 2) (c0 := 0) (cn := 1) (c1 := 2) (ca := 0) (cz := 3) (vs := [(1, 0), (1, (n : Int)), (1, 1), (0, 0)]) (by decide) (ocL_ok (show ∀ e ∈ _, Entry (symsD (dL n 0)) Tryz.prog e from (app_ok (entD_ok _ 0 1 (by decide)) (symE_ok (n1_den (n := n) (a := 0) hn.2) (by omega))))) (.cons ⟨rfl, fun F => by simp [den]⟩ (.cons ⟨rfl, (n1_den (n := n) (a := 0) hn.2)⟩ (.cons ⟨rfl, fun F => by simp [den]⟩ (.cons ⟨rfl, fun F => by simp [den]⟩ .nil)))) ?_ hs (by simp) rfl rfl rfl rfl stl_d1_0_2
  rw [stl_d1_0_2_t]
  rw [n1_dig (n := n) (a := 0) hn.2]
  rfl

theorem stl_d1_0_3_t (d : Nat → Nat) : bytesOf (symsD d) 104 13997924573603572492743901501540412243412730675572909466311795738594989236557777261992152323437699467273626369844422529215154971068785426068009988387775476858722417090134528255442652222844898536364617595900809445560129971880820166579665878739547352678 = preL ++ ([UInt8.ofNat (48 + d 0 % 10)] ++ (midL ++ ((digL 0) ++ (openL ++ (howL 3 ++ postL))))) := by kernel_rfl
theorem stl_d1_0_3_m {s : ByteArray} {w : World} {n : Nat} (hn : 2 ≤ n ∧ n < 10) (hs : s.data.toList = textL n 0 3) : Calls Tryz.prog 11 #[.string s] w fun e w1 => LoopsMade w w1 n 0 3 e := by
  refine lmade_of (ρ := (symsD (dL n 0))) (n := n) (a := 0) (h := 3) (c0 := 0) (cn := 1) (c1 := 2) (ca := 0) (cz := 3) (vs := [(1, 0), (1, (n : Int)), (1, 1), (0, 0)]) (by decide) (ocL_ok (show ∀ e ∈ _, Entry (symsD (dL n 0)) Tryz.prog e from (app_ok (entD_ok _ 0 1 (by decide)) (symE_ok (n1_den (n := n) (a := 0) hn.2) (by omega))))) (.cons ⟨rfl, fun F => by simp [den]⟩ (.cons ⟨rfl, (n1_den (n := n) (a := 0) hn.2)⟩ (.cons ⟨rfl, fun F => by simp [den]⟩ (.cons ⟨rfl, fun F => by simp [den]⟩ .nil)))) ?_ hs (by simp) rfl rfl rfl rfl stl_d1_0_3
  rw [stl_d1_0_3_t]
  rw [n1_dig (n := n) (a := 0) hn.2]
  rfl

theorem stl_d1_1_0_t (d : Nat → Nat) : bytesOf (symsD d) 112 258216132172355003133995926336035983505713248878989541982878240848556988137160373784569493627606144851667377178054918353186768997020099162236232402554884603991149782749984476457753365286160831958637021686768331421080113691771746070320162988513146426557445940218190392934 = preL ++ ([UInt8.ofNat (48 + d 0 % 10)] ++ (midL ++ ((digL 1) ++ (openL ++ (howL 0 ++ postL))))) := by kernel_rfl
theorem stl_d1_1_0_m {s : ByteArray} {w : World} {n : Nat} (hn : 2 ≤ n ∧ n < 10) (hs : s.data.toList = textL n 1 0) : Calls Tryz.prog 11 #[.string s] w fun e w1 => LoopsMade w w1 n 1 0 e := by
  refine lmade_of (ρ := (symsD (dL n 0))) (n := n) (a := 1) (h := 0) (c0 := 0) (cn := 1) (c1 := 2) (ca := 2) (cz := 3) (vs := [(1, 0), (1, (n : Int)), (1, 1), (0, 0)]) (by decide) (ocL_ok (show ∀ e ∈ _, Entry (symsD (dL n 0)) Tryz.prog e from (app_ok (entD_ok _ 0 1 (by decide)) (symE_ok (n1_den (n := n) (a := 0) hn.2) (by omega))))) (.cons ⟨rfl, fun F => by simp [den]⟩ (.cons ⟨rfl, (n1_den (n := n) (a := 0) hn.2)⟩ (.cons ⟨rfl, fun F => by simp [den]⟩ (.cons ⟨rfl, fun F => by simp [den]⟩ .nil)))) ?_ hs (by simp) rfl rfl rfl rfl stl_d1_1_0
  rw [stl_d1_1_0_t]
  rw [n1_dig (n := n) (a := 0) hn.2]
  rfl

theorem stl_d1_1_1_t (d : Nat → Nat) : bytesOf (symsD d) 115 4332147824140149116259726599259764279047788410504565407587816548416263878286123937867379506518762722843527250432217579180688690554741376348598676820859509299973680146690376996766622906989380647900623071301159670430464842944622730717337764225787845057002621606151669588777004646 = preL ++ ([UInt8.ofNat (48 + d 0 % 10)] ++ (midL ++ ((digL 1) ++ (openL ++ (howL 1 ++ postL))))) := by kernel_rfl
theorem stl_d1_1_1_m {s : ByteArray} {w : World} {n : Nat} (hn : 2 ≤ n ∧ n < 10) (hs : s.data.toList = textL n 1 1) : Calls Tryz.prog 11 #[.string s] w fun e w1 => LoopsMade w w1 n 1 1 e := by
  refine lmade_of (ρ := (symsD (dL n 0))) (n := n) (a := 1) (h := 1) (c0 := 0) (cn := 1) (c1 := 2) (ca := 2) (cz := 3) (vs := [(1, 0), (1, (n : Int)), (1, 1), (0, 0)]) (by decide) (ocL_ok (show ∀ e ∈ _, Entry (symsD (dL n 0)) Tryz.prog e from (app_ok (entD_ok _ 0 1 (by decide)) (symE_ok (n1_den (n := n) (a := 0) hn.2) (by omega))))) (.cons ⟨rfl, fun F => by simp [den]⟩ (.cons ⟨rfl, (n1_den (n := n) (a := 0) hn.2)⟩ (.cons ⟨rfl, fun F => by simp [den]⟩ (.cons ⟨rfl, fun F => by simp [den]⟩ .nil)))) ?_ hs (by simp) rfl rfl rfl rfl stl_d1_1_1
  rw [stl_d1_1_1_t]
  rw [n1_dig (n := n) (a := 0) hn.2]
  rfl

theorem stl_d1_1_2_t (d : Nat → Nat) : bytesOf (symsD d) 115 4332147824140149116259726599259764279047788410504565407587816548416263878286557792869626933469113357160040590178414613993285287648639391966814942000874590243816131048703297933983119797390781942456695824040763431685106706759330967873416007493165745621242826943351862774596660838 = preL ++ ([UInt8.ofNat (48 + d 0 % 10)] ++ (midL ++ ((digL 1) ++ (openL ++ (howL 2 ++ postL))))) := by kernel_rfl
theorem stl_d1_1_2_m {s : ByteArray} {w : World} {n : Nat} (hn : 2 ≤ n ∧ n < 10) (hs : s.data.toList = textL n 1 2) : Calls Tryz.prog 11 #[.string s] w fun e w1 => LoopsMade w w1 n 1 2 e := by
  refine lmade_of (ρ := (symsD (dL n 0))) (n := n) (a := 1) (h := 2) (c0 := 0) (cn := 1) (c1 := 2) (ca := 2) (cz := 3) (vs := [(1, 0), (1, (n : Int)), (1, 1), (0, 0)]) (by decide) (ocL_ok (show ∀ e ∈ _, Entry (symsD (dL n 0)) Tryz.prog e from (app_ok (entD_ok _ 0 1 (by decide)) (symE_ok (n1_den (n := n) (a := 0) hn.2) (by omega))))) (.cons ⟨rfl, fun F => by simp [den]⟩ (.cons ⟨rfl, (n1_den (n := n) (a := 0) hn.2)⟩ (.cons ⟨rfl, fun F => by simp [den]⟩ (.cons ⟨rfl, fun F => by simp [den]⟩ .nil)))) ?_ hs (by simp) rfl rfl rfl rfl stl_d1_1_2
  rw [stl_d1_1_2_t]
  rw [n1_dig (n := n) (a := 0) hn.2]
  rfl

theorem stl_d1_1_3_t (d : Nat → Nat) : bytesOf (symsD d) 104 13997924573603572492743901501540412243412730675572909466311795738594989236558024592393625427971759969794646017034457660564256182908699489124102885612882008725892733491195771300432249894270914675703968960935116196770097518035922059747582485511696051814 = preL ++ ([UInt8.ofNat (48 + d 0 % 10)] ++ (midL ++ ((digL 1) ++ (openL ++ (howL 3 ++ postL))))) := by kernel_rfl
theorem stl_d1_1_3_m {s : ByteArray} {w : World} {n : Nat} (hn : 2 ≤ n ∧ n < 10) (hs : s.data.toList = textL n 1 3) : Calls Tryz.prog 11 #[.string s] w fun e w1 => LoopsMade w w1 n 1 3 e := by
  refine lmade_of (ρ := (symsD (dL n 0))) (n := n) (a := 1) (h := 3) (c0 := 0) (cn := 1) (c1 := 2) (ca := 2) (cz := 3) (vs := [(1, 0), (1, (n : Int)), (1, 1), (0, 0)]) (by decide) (ocL_ok (show ∀ e ∈ _, Entry (symsD (dL n 0)) Tryz.prog e from (app_ok (entD_ok _ 0 1 (by decide)) (symE_ok (n1_den (n := n) (a := 0) hn.2) (by omega))))) (.cons ⟨rfl, fun F => by simp [den]⟩ (.cons ⟨rfl, (n1_den (n := n) (a := 0) hn.2)⟩ (.cons ⟨rfl, fun F => by simp [den]⟩ (.cons ⟨rfl, fun F => by simp [den]⟩ .nil)))) ?_ hs (by simp) rfl rfl rfl rfl stl_d1_1_3
  rw [stl_d1_1_3_t]
  rw [n1_dig (n := n) (a := 0) hn.2]
  rfl

theorem stl_d1_d1_0_t (d : Nat → Nat) : bytesOf (symsD d) 112 258216132172355003133995926336035983505713248878989541982878240848556988137160373784569493627626178614186698645313819057389360419412944801513430561587923711534674457983613557698548993772121518602794433072275638707567574259550592918327534227076399773158691088762235022950 = preL ++ ([UInt8.ofNat (48 + d 0 % 10)] ++ (midL ++ ([UInt8.ofNat (48 + d 2 % 10)] ++ (openL ++ (howL 0 ++ postL))))) := by kernel_rfl
theorem stl_d1_d1_0_m {s : ByteArray} {w : World} {n a : Nat} (hn : 2 ≤ n ∧ n < 10) (ha : 2 ≤ a ∧ a < 10) (hne : n ≠ a) (hs : s.data.toList = textL n a 0) : Calls Tryz.prog 11 #[.string s] w fun e w1 => LoopsMade w w1 n a 0 e := by
  refine lmade_of (ρ := (symsD (dL n a))) (n := n) (a := a) (h := 0) (c0 := 0) (cn := 1) (c1 := 2) (ca := 3) (cz := 4) (vs := [(1, 0), (1, (n : Int)), (1, 1), (1, (a : Int)), (0, 0)]) (by decide) (ocL_ok (show ∀ e ∈ _, Entry (symsD (dL n a)) Tryz.prog e from (app_ok (app_ok (entD_ok _ 0 1 (by decide)) (entD_ok _ 2 1 (by decide))) (app_ok (symE_ok (n1_den (n := n) (a := a) hn.2) (by omega)) (app_ok (symE_ok (a1_den (n := n) (a := a) ha.2) (by omega)) (two_ok (n1_den (n := n) (a := a) hn.2) (a1_den (n := n) (a := a) ha.2) hne)))))) (.cons ⟨rfl, fun F => by simp [den]⟩ (.cons ⟨rfl, (n1_den (n := n) (a := a) hn.2)⟩ (.cons ⟨rfl, fun F => by simp [den]⟩ (.cons ⟨rfl, (a1_den (n := n) (a := a) ha.2)⟩ (.cons ⟨rfl, fun F => by simp [den]⟩ .nil))))) ?_ hs (by simp) rfl rfl rfl rfl stl_d1_d1_0
  rw [stl_d1_d1_0_t]
  rw [n1_dig (n := n) (a := a) hn.2]
  rw [a1_dig (n := n) (a := a) ha.2]
  rfl

theorem stl_d1_d1_1_t (d : Nat → Nat) : bytesOf (symsD d) 115 4332147824140149116259726599259764279047788410504565407587816548416263878286123937867379506518762722863561012951539046439589394757332798741444316098057668333012787690215052230395704147785009133861309715458571055937772129432083298496184612233159083620255968207396818132821634662 = preL ++ ([UInt8.ofNat (48 + d 0 % 10)] ++ (midL ++ ([UInt8.ofNat (48 + d 2 % 10)] ++ (openL ++ (howL 1 ++ postL))))) := by kernel_rfl
theorem stl_d1_d1_1_m {s : ByteArray} {w : World} {n a : Nat} (hn : 2 ≤ n ∧ n < 10) (ha : 2 ≤ a ∧ a < 10) (hne : n ≠ a) (hs : s.data.toList = textL n a 1) : Calls Tryz.prog 11 #[.string s] w fun e w1 => LoopsMade w w1 n a 1 e := by
  refine lmade_of (ρ := (symsD (dL n a))) (n := n) (a := a) (h := 1) (c0 := 0) (cn := 1) (c1 := 2) (ca := 3) (cz := 4) (vs := [(1, 0), (1, (n : Int)), (1, 1), (1, (a : Int)), (0, 0)]) (by decide) (ocL_ok (show ∀ e ∈ _, Entry (symsD (dL n a)) Tryz.prog e from (app_ok (app_ok (entD_ok _ 0 1 (by decide)) (entD_ok _ 2 1 (by decide))) (app_ok (symE_ok (n1_den (n := n) (a := a) hn.2) (by omega)) (app_ok (symE_ok (a1_den (n := n) (a := a) ha.2) (by omega)) (two_ok (n1_den (n := n) (a := a) hn.2) (a1_den (n := n) (a := a) ha.2) hne)))))) (.cons ⟨rfl, fun F => by simp [den]⟩ (.cons ⟨rfl, (n1_den (n := n) (a := a) hn.2)⟩ (.cons ⟨rfl, fun F => by simp [den]⟩ (.cons ⟨rfl, (a1_den (n := n) (a := a) ha.2)⟩ (.cons ⟨rfl, fun F => by simp [den]⟩ .nil))))) ?_ hs (by simp) rfl rfl rfl rfl stl_d1_d1_1
  rw [stl_d1_d1_1_t]
  rw [n1_dig (n := n) (a := a) hn.2]
  rw [a1_dig (n := n) (a := a) ha.2]
  rfl

theorem stl_d1_d1_2_t (d : Nat → Nat) : bytesOf (symsD d) 115 4332147824140149116259726599259764279047788410504565407587816548416263878286557792869626933469113357180074352697736081252185991851230814359660581278072749276855238592227973167612201038186410428417382468198174817192413993246791535652262855500536984184496173544597011318641290854 = preL ++ ([UInt8.ofNat (48 + d 0 % 10)] ++ (midL ++ ([UInt8.ofNat (48 + d 2 % 10)] ++ (openL ++ (howL 2 ++ postL))))) := by kernel_rfl
theorem stl_d1_d1_2_m {s : ByteArray} {w : World} {n a : Nat} (hn : 2 ≤ n ∧ n < 10) (ha : 2 ≤ a ∧ a < 10) (hne : n ≠ a) (hs : s.data.toList = textL n a 2) : Calls Tryz.prog 11 #[.string s] w fun e w1 => LoopsMade w w1 n a 2 e := by
  refine lmade_of (ρ := (symsD (dL n a))) (n := n) (a := a) (h := 2) (c0 := 0) (cn := 1) (c1 := 2) (ca := 3) (cz := 4) (vs := [(1, 0), (1, (n : Int)), (1, 1), (1, (a : Int)), (0, 0)]) (by decide) (ocL_ok (show ∀ e ∈ _, Entry (symsD (dL n a)) Tryz.prog e from (app_ok (app_ok (entD_ok _ 0 1 (by decide)) (entD_ok _ 2 1 (by decide))) (app_ok (symE_ok (n1_den (n := n) (a := a) hn.2) (by omega)) (app_ok (symE_ok (a1_den (n := n) (a := a) ha.2) (by omega)) (two_ok (n1_den (n := n) (a := a) hn.2) (a1_den (n := n) (a := a) ha.2) hne)))))) (.cons ⟨rfl, fun F => by simp [den]⟩ (.cons ⟨rfl, (n1_den (n := n) (a := a) hn.2)⟩ (.cons ⟨rfl, fun F => by simp [den]⟩ (.cons ⟨rfl, (a1_den (n := n) (a := a) ha.2)⟩ (.cons ⟨rfl, fun F => by simp [den]⟩ .nil))))) ?_ hs (by simp) rfl rfl rfl rfl stl_d1_d1_2
  rw [stl_d1_d1_2_t]
  rw [n1_dig (n := n) (a := a) hn.2]
  rw [a1_dig (n := n) (a := a) ha.2]
  rfl

theorem stl_d1_d1_3_t (d : Nat → Nat) : bytesOf (symsD d) 104 13997924573603572492743901501540412243412730675572909466311795738594989236578058354912946895230660673997237439427303299841454341941738596667627560846511089966688361977156457944589661279778221962191429528713963044777468756599175406348827634055740681830 = preL ++ ([UInt8.ofNat (48 + d 0 % 10)] ++ (midL ++ ([UInt8.ofNat (48 + d 2 % 10)] ++ (openL ++ (howL 3 ++ postL))))) := by kernel_rfl
theorem stl_d1_d1_3_m {s : ByteArray} {w : World} {n a : Nat} (hn : 2 ≤ n ∧ n < 10) (ha : 2 ≤ a ∧ a < 10) (hne : n ≠ a) (hs : s.data.toList = textL n a 3) : Calls Tryz.prog 11 #[.string s] w fun e w1 => LoopsMade w w1 n a 3 e := by
  refine lmade_of (ρ := (symsD (dL n a))) (n := n) (a := a) (h := 3) (c0 := 0) (cn := 1) (c1 := 2) (ca := 3) (cz := 4) (vs := [(1, 0), (1, (n : Int)), (1, 1), (1, (a : Int)), (0, 0)]) (by decide) (ocL_ok (show ∀ e ∈ _, Entry (symsD (dL n a)) Tryz.prog e from (app_ok (app_ok (entD_ok _ 0 1 (by decide)) (entD_ok _ 2 1 (by decide))) (app_ok (symE_ok (n1_den (n := n) (a := a) hn.2) (by omega)) (app_ok (symE_ok (a1_den (n := n) (a := a) ha.2) (by omega)) (two_ok (n1_den (n := n) (a := a) hn.2) (a1_den (n := n) (a := a) ha.2) hne)))))) (.cons ⟨rfl, fun F => by simp [den]⟩ (.cons ⟨rfl, (n1_den (n := n) (a := a) hn.2)⟩ (.cons ⟨rfl, fun F => by simp [den]⟩ (.cons ⟨rfl, (a1_den (n := n) (a := a) ha.2)⟩ (.cons ⟨rfl, fun F => by simp [den]⟩ .nil))))) ?_ hs (by simp) rfl rfl rfl rfl stl_d1_d1_3
  rw [stl_d1_d1_3_t]
  rw [n1_dig (n := n) (a := a) hn.2]
  rw [a1_dig (n := n) (a := a) ha.2]
  rfl

theorem stl_d1_d2_0_t (d : Nat → Nat) : bytesOf (symsD d) 113 66103329836122880802302957142025211777462591713021322747616829657230588963113055688849790368672389252176442622085676734824215323889116216674692217043633771950888246256575570416094313844029601494280811808375217464033526274879613505599971788564170649207737953987146205392486 = preL ++ ([UInt8.ofNat (48 + d 0 % 10)] ++ (midL ++ ([UInt8.ofNat (48 + d 2 % 10), UInt8.ofNat (48 + d 3 % 10)] ++ (openL ++ (howL 0 ++ postL))))) := by kernel_rfl
theorem stl_d1_d2_0_m {s : ByteArray} {w : World} {n a : Nat} (hn : 2 ≤ n ∧ n < 10) (ha : 10 ≤ a ∧ a < 100) (hne : n ≠ a) (hs : s.data.toList = textL n a 0) : Calls Tryz.prog 11 #[.string s] w fun e w1 => LoopsMade w w1 n a 0 e := by
  refine lmade_of (ρ := (symsD (dL n a))) (n := n) (a := a) (h := 0) (c0 := 0) (cn := 1) (c1 := 2) (ca := 3) (cz := 4) (vs := [(1, 0), (1, (n : Int)), (1, 1), (1, (a : Int)), (0, 0)]) (by decide) (ocL_ok (show ∀ e ∈ _, Entry (symsD (dL n a)) Tryz.prog e from (app_ok (app_ok (entD_ok _ 0 1 (by decide)) (entD_ok _ 2 2 (by decide))) (app_ok (symE_ok (n1_den (n := n) (a := a) hn.2) (by omega)) (app_ok (symE_ok (a2_den (n := n) (a := a) ha.1 ha.2) (by omega)) (two_ok (n1_den (n := n) (a := a) hn.2) (a2_den (n := n) (a := a) ha.1 ha.2) hne)))))) (.cons ⟨rfl, fun F => by simp [den]⟩ (.cons ⟨rfl, (n1_den (n := n) (a := a) hn.2)⟩ (.cons ⟨rfl, fun F => by simp [den]⟩ (.cons ⟨rfl, (a2_den (n := n) (a := a) ha.1 ha.2)⟩ (.cons ⟨rfl, fun F => by simp [den]⟩ .nil))))) ?_ hs (by simp) rfl rfl rfl rfl stl_d1_d2_0
  rw [stl_d1_d2_0_t]
  rw [n1_dig (n := n) (a := a) hn.2]
  rw [a2_dig (n := n) (a := a) ha.1 ha.2]
  rfl

theorem stl_d1_d2_1_t (d : Nat → Nat) : bytesOf (symsD d) 116 1109029842979878173762490009410499655436233833089168744342481036394563552841247728094049153668803257053159146260241764773873941190416252997212092408356756370376575446706638383751799907098733776634988019122831132192723620030840588849684979239811751839397835140206620706016377990758 = preL ++ ([UInt8.ofNat (48 + d 0 % 10)] ++ (midL ++ ([UInt8.ofNat (48 + d 2 % 10), UInt8.ofNat (48 + d 3 % 10)] ++ (openL ++ (howL 1 ++ postL))))) := by kernel_rfl
theorem stl_d1_d2_1_m {s : ByteArray} {w : World} {n a : Nat} (hn : 2 ≤ n ∧ n < 10) (ha : 10 ≤ a ∧ a < 100) (hne : n ≠ a) (hs : s.data.toList = textL n a 1) : Calls Tryz.prog 11 #[.string s] w fun e w1 => LoopsMade w w1 n a 1 e := by
  refine lmade_of (ρ := (symsD (dL n a))) (n := n) (a := a) (h := 1) (c0 := 0) (cn := 1) (c1 := 2) (ca := 3) (cz := 4) (vs := [(1, 0), (1, (n : Int)), (1, 1), (1, (a : Int)), (0, 0)]) (by decide) (ocL_ok (show ∀ e ∈ _, Entry (symsD (dL n a)) Tryz.prog e from (app_ok (app_ok (entD_ok _ 0 1 (by decide)) (entD_ok _ 2 2 (by decide))) (app_ok (symE_ok (n1_den (n := n) (a := a) hn.2) (by omega)) (app_ok (symE_ok (a2_den (n := n) (a := a) ha.1 ha.2) (by omega)) (two_ok (n1_den (n := n) (a := a) hn.2) (a2_den (n := n) (a := a) ha.1 ha.2) hne)))))) (.cons ⟨rfl, fun F => by simp [den]⟩ (.cons ⟨rfl, (n1_den (n := n) (a := a) hn.2)⟩ (.cons ⟨rfl, fun F => by simp [den]⟩ (.cons ⟨rfl, (a2_den (n := n) (a := a) ha.1 ha.2)⟩ (.cons ⟨rfl, fun F => by simp [den]⟩ .nil))))) ?_ hs (by simp) rfl rfl rfl rfl stl_d1_d2_1
  rw [stl_d1_d2_1_t]
  rw [n1_dig (n := n) (a := a) hn.2]
  rw [a2_dig (n := n) (a := a) ha.1 ha.2]
  rfl

theorem stl_d1_d2_2_t (d : Nat → Nat) : bytesOf (symsD d) 116 1109029842979878173762490009410499655436233833089168744342481036394563552841358794974624494968093019438186561235268205685898670046454144995475456294440617092000242877621946143679223111041492508041342643824169695073911937167405897561641009516260494383843327706529870161586209975910 = preL ++ ([UInt8.ofNat (48 + d 0 % 10)] ++ (midL ++ ([UInt8.ofNat (48 + d 2 % 10), UInt8.ofNat (48 + d 3 % 10)] ++ (openL ++ (howL 2 ++ postL))))) := by kernel_rfl
theorem stl_d1_d2_2_m {s : ByteArray} {w : World} {n a : Nat} (hn : 2 ≤ n ∧ n < 10) (ha : 10 ≤ a ∧ a < 100) (hne : n ≠ a) (hs : s.data.toList = textL n a 2) : Calls Tryz.prog 11 #[.string s] w fun e w1 => LoopsMade w w1 n a 2 e := by
  refine lmade_of (ρ := (symsD (dL n a))) (n := n) (a := a) (h := 2) (c0 := 0) (cn := 1) (c1 := 2) (ca := 3) (cz := 4) (vs := [(1, 0), (1, (n : Int)), (1, 1), (1, (a : Int)), (0, 0)]) (by decide) (ocL_ok (show ∀ e ∈ _, Entry (symsD (dL n a)) Tryz.prog e from (app_ok (app_ok (entD_ok _ 0 1 (by decide)) (entD_ok _ 2 2 (by decide))) (app_ok (symE_ok (n1_den (n := n) (a := a) hn.2) (by omega)) (app_ok (symE_ok (a2_den (n := n) (a := a) ha.1 ha.2) (by omega)) (two_ok (n1_den (n := n) (a := a) hn.2) (a2_den (n := n) (a := a) ha.1 ha.2) hne)))))) (.cons ⟨rfl, fun F => by simp [den]⟩ (.cons ⟨rfl, (n1_den (n := n) (a := a) hn.2)⟩ (.cons ⟨rfl, fun F => by simp [den]⟩ (.cons ⟨rfl, (a2_den (n := n) (a := a) ha.1 ha.2)⟩ (.cons ⟨rfl, fun F => by simp [den]⟩ .nil))))) ?_ hs (by simp) rfl rfl rfl rfl stl_d1_d2_2
  rw [stl_d1_d2_2_t]
  rw [n1_dig (n := n) (a := a) hn.2]
  rw [a2_dig (n := n) (a := a) ha.1 ha.2]
  rfl

theorem stl_d1_d2_3_t (d : Nat → Nat) : bytesOf (symsD d) 105 3583468690842514558142438784394345534313659052946664823375819709080317244564070465802362174064388188675831841012791992246666304814210382544924240589477338676737992104518545965780390229495878777217233223785436257971155028122001211304412909582283654065766 = preL ++ ([UInt8.ofNat (48 + d 0 % 10)] ++ (midL ++ ([UInt8.ofNat (48 + d 2 % 10), UInt8.ofNat (48 + d 3 % 10)] ++ (openL ++ (howL 3 ++ postL))))) := by kernel_rfl
theorem stl_d1_d2_3_m {s : ByteArray} {w : World} {n a : Nat} (hn : 2 ≤ n ∧ n < 10) (ha : 10 ≤ a ∧ a < 100) (hne : n ≠ a) (hs : s.data.toList = textL n a 3) : Calls Tryz.prog 11 #[.string s] w fun e w1 => LoopsMade w w1 n a 3 e := by
  refine lmade_of (ρ := (symsD (dL n a))) (n := n) (a := a) (h := 3) (c0 := 0) (cn := 1) (c1 := 2) (ca := 3) (cz := 4) (vs := [(1, 0), (1, (n : Int)), (1, 1), (1, (a : Int)), (0, 0)]) (by decide) (ocL_ok (show ∀ e ∈ _, Entry (symsD (dL n a)) Tryz.prog e from (app_ok (app_ok (entD_ok _ 0 1 (by decide)) (entD_ok _ 2 2 (by decide))) (app_ok (symE_ok (n1_den (n := n) (a := a) hn.2) (by omega)) (app_ok (symE_ok (a2_den (n := n) (a := a) ha.1 ha.2) (by omega)) (two_ok (n1_den (n := n) (a := a) hn.2) (a2_den (n := n) (a := a) ha.1 ha.2) hne)))))) (.cons ⟨rfl, fun F => by simp [den]⟩ (.cons ⟨rfl, (n1_den (n := n) (a := a) hn.2)⟩ (.cons ⟨rfl, fun F => by simp [den]⟩ (.cons ⟨rfl, (a2_den (n := n) (a := a) ha.1 ha.2)⟩ (.cons ⟨rfl, fun F => by simp [den]⟩ .nil))))) ?_ hs (by simp) rfl rfl rfl rfl stl_d1_d2_3
  rw [stl_d1_d2_3_t]
  rw [n1_dig (n := n) (a := a) hn.2]
  rw [a2_dig (n := n) (a := a) ha.1 ha.2]
  rfl

theorem stl_d1_e_0_t (d : Nat → Nat) : bytesOf (symsD d) 112 258216132172355003133995926336035983505713248878989541982878240848556988137160373784569493627625683953383752436245698052347321125032874538815228137908095585422488663533400493964208360969999032512815237729423606428888871529481979415907599134766195986822857875217937624678 = preL ++ ([UInt8.ofNat (48 + d 0 % 10)] ++ (midL ++ ([UInt8.ofNat (48 + d 0 % 10)] ++ (openL ++ (howL 0 ++ postL))))) := by kernel_rfl
theorem stl_d1_e_0_m {s : ByteArray} {w : World} {n : Nat} (hn : 2 ≤ n ∧ n < 10) (hs : s.data.toList = textL n n 0) : Calls Tryz.prog 11 #[.string s] w fun e w1 => LoopsMade w w1 n n 0 e := by
  refine lmade_of (ρ := (symsD (dL n 0))) (n := n) (a := n) (h := 0) (c0 := 0) (cn := 1) (c1 := 2) (ca := 1) (cz := 3) (vs := [(1, 0), (1, (n : Int)), (1, 1), (0, 0)]) (by decide) (ocL_ok (show ∀ e ∈ _, Entry (symsD (dL n 0)) Tryz.prog e from (app_ok (entD_ok _ 0 1 (by decide)) (symE_ok (n1_den (n := n) (a := 0) hn.2) (by omega))))) (.cons ⟨rfl, fun F => by simp [den]⟩ (.cons ⟨rfl, (n1_den (n := n) (a := 0) hn.2)⟩ (.cons ⟨rfl, fun F => by simp [den]⟩ (.cons ⟨rfl, fun F => by simp [den]⟩ .nil)))) ?_ hs (by simp) rfl rfl rfl rfl stl_d1_e_0
  rw [stl_d1_e_0_t]
  rw [n1_dig (n := n) (a := 0) hn.2]
  rfl

theorem stl_d1_e_1_t (d : Nat → Nat) : bytesOf (symsD d) 115 4332147824140149116259726599259764279047788410504565407587816548416263878286123937867379506518762722863066352148592837371468389715293504361374053399855244653184661578029257780182640413444376331738823625479375713085739850753380568427571109813223991310052181871563604588524236390 = preL ++ ([UInt8.ofNat (48 + d 0 % 10)] ++ (midL ++ ([UInt8.ofNat (48 + d 0 % 10)] ++ (openL ++ (howL 1 ++ postL))))) := by kernel_rfl
theorem stl_d1_e_1_m {s : ByteArray} {w : World} {n : Nat} (hn : 2 ≤ n ∧ n < 10) (hs : s.data.toList = textL n n 1) : Calls Tryz.prog 11 #[.string s] w fun e w1 => LoopsMade w w1 n n 1 e := by
  refine lmade_of (ρ := (symsD (dL n 0))) (n := n) (a := n) (h := 1) (c0 := 0) (cn := 1) (c1 := 2) (ca := 1) (cz := 3) (vs := [(1, 0), (1, (n : Int)), (1, 1), (0, 0)]) (by decide) (ocL_ok (show ∀ e ∈ _, Entry (symsD (dL n 0)) Tryz.prog e from (app_ok (entD_ok _ 0 1 (by decide)) (symE_ok (n1_den (n := n) (a := 0) hn.2) (by omega))))) (.cons ⟨rfl, fun F => by simp [den]⟩ (.cons ⟨rfl, (n1_den (n := n) (a := 0) hn.2)⟩ (.cons ⟨rfl, fun F => by simp [den]⟩ (.cons ⟨rfl, fun F => by simp [den]⟩ .nil)))) ?_ hs (by simp) rfl rfl rfl rfl stl_d1_e_1
  rw [stl_d1_e_1_t]
  rw [n1_dig (n := n) (a := 0) hn.2]
  rfl

theorem stl_d1_e_2_t (d : Nat → Nat) : bytesOf (symsD d) 115 4332147824140149116259726599259764279047788410504565407587816548416263878286557792869626933469113357179579691894789872184064986809191519979590318579870325597027112480042178717399137303845777626294896378218979474340381714568088805583649353080601891874292387208763797774343892582 = preL ++ ([UInt8.ofNat (48 + d 0 % 10)] ++ (midL ++ ([UInt8.ofNat (48 + d 0 % 10)] ++ (openL ++ (howL 2 ++ postL))))) := by kernel_rfl
theorem stl_d1_e_2_m {s : ByteArray} {w : World} {n : Nat} (hn : 2 ≤ n ∧ n < 10) (hs : s.data.toList = textL n n 2) : Calls Tryz.prog 11 #[.string s] w fun e w1 => LoopsMade w w1 n n 2 e := by
  refine lmade_of (ρ := (symsD (dL n 0))) (n := n) (a := n) (h := 2) (c0 := 0) (cn := 1) (c1 := 2) (ca := 1) (cz := 3) (vs := [(1, 0), (1, (n : Int)), (1, 1), (0, 0)]) (by decide) (ocL_ok (show ∀ e ∈ _, Entry (symsD (dL n 0)) Tryz.prog e from (app_ok (entD_ok _ 0 1 (by decide)) (symE_ok (n1_den (n := n) (a := 0) hn.2) (by omega))))) (.cons ⟨rfl, fun F => by simp [den]⟩ (.cons ⟨rfl, (n1_den (n := n) (a := 0) hn.2)⟩ (.cons ⟨rfl, fun F => by simp [den]⟩ (.cons ⟨rfl, fun F => by simp [den]⟩ .nil)))) ?_ hs (by simp) rfl rfl rfl rfl stl_d1_e_2
  rw [stl_d1_e_2_t]
  rw [n1_dig (n := n) (a := 0) hn.2]
  rfl

theorem stl_d1_e_3_t (d : Nat → Nat) : bytesOf (symsD d) 104 13997924573603572492743901501540412243412730675572909466311795738594989236577563694110000686162539668955198145047233037143251918261910470555441766396298026232347729175033971854610465936926189683512726798645349542357533664288971620012994420511443283558 = preL ++ ([UInt8.ofNat (48 + d 0 % 10)] ++ (midL ++ ([UInt8.ofNat (48 + d 0 % 10)] ++ (openL ++ (howL 3 ++ postL))))) := by kernel_rfl
theorem stl_d1_e_3_m {s : ByteArray} {w : World} {n : Nat} (hn : 2 ≤ n ∧ n < 10) (hs : s.data.toList = textL n n 3) : Calls Tryz.prog 11 #[.string s] w fun e w1 => LoopsMade w w1 n n 3 e := by
  refine lmade_of (ρ := (symsD (dL n 0))) (n := n) (a := n) (h := 3) (c0 := 0) (cn := 1) (c1 := 2) (ca := 1) (cz := 3) (vs := [(1, 0), (1, (n : Int)), (1, 1), (0, 0)]) (by decide) (ocL_ok (show ∀ e ∈ _, Entry (symsD (dL n 0)) Tryz.prog e from (app_ok (entD_ok _ 0 1 (by decide)) (symE_ok (n1_den (n := n) (a := 0) hn.2) (by omega))))) (.cons ⟨rfl, fun F => by simp [den]⟩ (.cons ⟨rfl, (n1_den (n := n) (a := 0) hn.2)⟩ (.cons ⟨rfl, fun F => by simp [den]⟩ (.cons ⟨rfl, fun F => by simp [den]⟩ .nil)))) ?_ hs (by simp) rfl rfl rfl rfl stl_d1_e_3
  rw [stl_d1_e_3_t]
  rw [n1_dig (n := n) (a := 0) hn.2]
  rfl

theorem stl_d2_0_0_t (d : Nat → Nat) : bytesOf (symsD d) 113 66103329836122880802302957142025211777462591713021322747616829657230588963113055688849790368667109765444071442821339609770431833556496391907105584823032472344587812974347510148183821634352208323800947453324468840366066873866447793126753462207416036618604341116806711242342 = preL ++ ([UInt8.ofNat (48 + d 0 % 10), UInt8.ofNat (48 + d 1 % 10)] ++ (midL ++ ((digL 0) ++ (openL ++ (howL 0 ++ postL))))) := by kernel_rfl
theorem stl_d2_0_0_m {s : ByteArray} {w : World} {n : Nat} (hn : 10 ≤ n ∧ n < 100) (hs : s.data.toList = textL n 0 0) : Calls Tryz.prog 11 #[.string s] w fun e w1 => LoopsMade w w1 n 0 0 e := by
  refine lmade_of (ρ := (symsD (dL n 0))) (n := n) (a := 0) (h := 0) (c0 := 0) (cn := 1) (c1 := 2) (ca := 0) (cz := 3) (vs := [(1, 0), (1, (n : Int)), (1, 1), (0, 0)]) (by decide) (ocL_ok (show ∀ e ∈ _, Entry (symsD (dL n 0)) Tryz.prog e from (app_ok (entD_ok _ 0 2 (by decide)) (symE_ok (n2_den (n := n) (a := 0) hn.1 hn.2) (by omega))))) (.cons ⟨rfl, fun F => by simp [den]⟩ (.cons ⟨rfl, (n2_den (n := n) (a := 0) hn.1 hn.2)⟩ (.cons ⟨rfl, fun F => by simp [den]⟩ (.cons ⟨rfl, fun F => by simp [den]⟩ .nil)))) ?_ hs (by simp) rfl rfl rfl rfl stl_d2_0_0
  rw [stl_d2_0_0_t]
  rw [n2_dig (n := n) (a := 0) hn.1 hn.2]
  rfl

theorem stl_d2_0_1_t (d : Nat → Nat) : bytesOf (symsD d) 116 1109029842979878173762490009410499655436233833089168744342481036394563552841247728094049153668803257047879659527870585509536816136632762664592267640770124149775275840406205101523739639188241566957594848642966777141974996363381187836519266766593425482643222551073007835676883840614 = preL ++ ([UInt8.ofNat (48 + d 0 % 10), UInt8.ofNat (48 + d 1 % 10)] ++ (midL ++ ((digL 0) ++ (openL ++ (howL 1 ++ postL))))) := by kernel_rfl
theorem stl_d2_0_1_m {s : ByteArray} {w : World} {n : Nat} (hn : 10 ≤ n ∧ n < 100) (hs : s.data.toList = textL n 0 1) : Calls Tryz.prog 11 #[.string s] w fun e w1 => LoopsMade w w1 n 0 1 e := by
  refine lmade_of (ρ := (symsD (dL n 0))) (n := n) (a := 0) (h := 1) (c0 := 0) (cn := 1) (c1 := 2) (ca := 0) (cz := 3) (vs := [(1, 0), (1, (n : Int)), (1, 1), (0, 0)]) (by decide) (ocL_ok (show ∀ e ∈ _, Entry (symsD (dL n 0)) Tryz.prog e from (app_ok (entD_ok _ 0 2 (by decide)) (symE_ok (n2_den (n := n) (a := 0) hn.1 hn.2) (by omega))))) (.cons ⟨rfl, fun F => by simp [den]⟩ (.cons ⟨rfl, (n2_den (n := n) (a := 0) hn.1 hn.2)⟩ (.cons ⟨rfl, fun F => by simp [den]⟩ (.cons ⟨rfl, fun F => by simp [den]⟩ .nil)))) ?_ hs (by simp) rfl rfl rfl rfl stl_d2_0_1
  rw [stl_d2_0_1_t]
  rw [n2_dig (n := n) (a := 0) hn.1 hn.2]
  rfl

theorem stl_d2_0_2_t (d : Nat → Nat) : bytesOf (symsD d) 116 1109029842979878173762490009410499655436233833089168744342481036394563552841358794974624494968093019432907074502897026421561544992670654662855631526853984871398943271321512861451162843131000298363949473344305340023163313499946496548475297043042168027088715117396257291246715825766 = preL ++ ([UInt8.ofNat (48 + d 0 % 10), UInt8.ofNat (48 + d 1 % 10)] ++ (midL ++ ((digL 0) ++ (openL ++ (howL 2 ++ postL))))) := by kernel_rfl
theorem stl_d2_0_2_m {s : ByteArray} {w : World} {n : Nat} (hn : 10 ≤ n ∧ n < 100) (hs : s.data.toList = textL n 0 2) : Calls Tryz.prog 11 #[.string s] w fun e w1 => LoopsMade w w1 n 0 2 e := by
  refine lmade_of (ρ := (symsD (dL n 0))) (n := n) (a := 0) (h := 2) (c0 := 0) (cn := 1) (c1 := 2) (ca := 0) (cz := 3) (vs := [(1, 0), (1, (n : Int)), (1, 1), (0, 0)]) (by decide) (ocL_ok (show ∀ e ∈ _, Entry (symsD (dL n 0)) Tryz.prog e from (app_ok (entD_ok _ 0 2 (by decide)) (symE_ok (n2_den (n := n) (a := 0) hn.1 hn.2) (by omega))))) (.cons ⟨rfl, fun F => by simp [den]⟩ (.cons ⟨rfl, (n2_den (n := n) (a := 0) hn.1 hn.2)⟩ (.cons ⟨rfl, fun F => by simp [den]⟩ (.cons ⟨rfl, fun F => by simp [den]⟩ .nil)))) ?_ hs (by simp) rfl rfl rfl rfl stl_d2_0_2
  rw [stl_d2_0_2_t]
  rw [n2_dig (n := n) (a := 0) hn.1 hn.2]
  rfl

theorem stl_d2_0_3_t (d : Nat → Nat) : bytesOf (symsD d) 105 3583468690842514558142438784394345534313659052946664823375819709080317244558790979069990994800051063622048350680172167479079672593609082938623807307249278408827499894841152795300525874445130153549773822772270545497936701765246598715279296711944159915622 = preL ++ ([UInt8.ofNat (48 + d 0 % 10), UInt8.ofNat (48 + d 1 % 10)] ++ (midL ++ ((digL 0) ++ (openL ++ (howL 3 ++ postL))))) := by kernel_rfl
theorem stl_d2_0_3_m {s : ByteArray} {w : World} {n : Nat} (hn : 10 ≤ n ∧ n < 100) (hs : s.data.toList = textL n 0 3) : Calls Tryz.prog 11 #[.string s] w fun e w1 => LoopsMade w w1 n 0 3 e := by
  refine lmade_of (ρ := (symsD (dL n 0))) (n := n) (a := 0) (h := 3) (c0 := 0) (cn := 1) (c1 := 2) (ca := 0) (cz := 3) (vs := [(1, 0), (1, (n : Int)), (1, 1), (0, 0)]) (by decide) (ocL_ok (show ∀ e ∈ _, Entry (symsD (dL n 0)) Tryz.prog e from (app_ok (entD_ok _ 0 2 (by decide)) (symE_ok (n2_den (n := n) (a := 0) hn.1 hn.2) (by omega))))) (.cons ⟨rfl, fun F => by simp [den]⟩ (.cons ⟨rfl, (n2_den (n := n) (a := 0) hn.1 hn.2)⟩ (.cons ⟨rfl, fun F => by simp [den]⟩ (.cons ⟨rfl, fun F => by simp [den]⟩ .nil)))) ?_ hs (by simp) rfl rfl rfl rfl stl_d2_0_3
  rw [stl_d2_0_3_t]
  rw [n2_dig (n := n) (a := 0) hn.1 hn.2]
  rfl

theorem stl_d2_1_0_t (d : Nat → Nat) : bytesOf (symsD d) 113 66103329836122880802302957142025211777462591713021322747616829657230588963113055688849790368667173082026848557582059098415812863237145385532475495054050472486947594663974782306179422633023886543318284457209528972036940823315230321436505154023122121269590992450476778221158 = preL ++ ([UInt8.ofNat (48 + d 0 % 10), UInt8.ofNat (48 + d 1 % 10)] ++ (midL ++ ((digL 1) ++ (openL ++ (howL 0 ++ postL))))) := by kernel_rfl
theorem stl_d2_1_0_m {s : ByteArray} {w : World} {n : Nat} (hn : 10 ≤ n ∧ n < 100) (hs : s.data.toList = textL n 1 0) : Calls Tryz.prog 11 #[.string s] w fun e w1 => LoopsMade w w1 n 1 0 e := by
  refine lmade_of (ρ := (symsD (dL n 0))) (n := n) (a := 1) (h := 0) (c0 := 0) (cn := 1) (c1 := 2) (ca := 2) (cz := 3) (vs := [(1, 0), (1, (n : Int)), (1, 1), (0, 0)]) (by decide) (ocL_ok (show ∀ e ∈ _, Entry (symsD (dL n 0)) Tryz.prog e from (app_ok (entD_ok _ 0 2 (by decide)) (symE_ok (n2_den (n := n) (a := 0) hn.1 hn.2) (by omega))))) (.cons ⟨rfl, fun F => by simp [den]⟩ (.cons ⟨rfl, (n2_den (n := n) (a := 0) hn.1 hn.2)⟩ (.cons ⟨rfl, fun F => by simp [den]⟩ (.cons ⟨rfl, fun F => by simp [den]⟩ .nil)))) ?_ hs (by simp) rfl rfl rfl rfl stl_d2_1_0
  rw [stl_d2_1_0_t]
  rw [n2_dig (n := n) (a := 0) hn.1 hn.2]
  rfl

theorem stl_d2_1_1_t (d : Nat → Nat) : bytesOf (symsD d) 116 1109029842979878173762490009410499655436233833089168744342481036394563552841247728094049153668803257047942976110647700270256304782013792345241261266140034380793275982765986791151011797183842565629273068160303781027035128034255137285301795076345117298349307202059659169346950819430 = preL ++ ([UInt8.ofNat (48 + d 0 % 10), UInt8.ofNat (48 + d 1 % 10)] ++ (midL ++ ((digL 1) ++ (openL ++ (howL 1 ++ postL))))) := by kernel_rfl
theorem stl_d2_1_1_m {s : ByteArray} {w : World} {n : Nat} (hn : 10 ≤ n ∧ n < 100) (hs : s.data.toList = textL n 1 1) : Calls Tryz.prog 11 #[.string s] w fun e w1 => LoopsMade w w1 n 1 1 e := by
  refine lmade_of (ρ := (symsD (dL n 0))) (n := n) (a := 1) (h := 1) (c0 := 0) (cn := 1) (c1 := 2) (ca := 2) (cz := 3) (vs := [(1, 0), (1, (n : Int)), (1, 1), (0, 0)]) (by decide) (ocL_ok (show ∀ e ∈ _, Entry (symsD (dL n 0)) Tryz.prog e from (app_ok (entD_ok _ 0 2 (by decide)) (symE_ok (n2_den (n := n) (a := 0) hn.1 hn.2) (by omega))))) (.cons ⟨rfl, fun F => by simp [den]⟩ (.cons ⟨rfl, (n2_den (n := n) (a := 0) hn.1 hn.2)⟩ (.cons ⟨rfl, fun F => by simp [den]⟩ (.cons ⟨rfl, fun F => by simp [den]⟩ .nil)))) ?_ hs (by simp) rfl rfl rfl rfl stl_d2_1_1
  rw [stl_d2_1_1_t]
  rw [n2_dig (n := n) (a := 0) hn.1 hn.2]
  rfl

theorem stl_d2_1_2_t (d : Nat → Nat) : bytesOf (symsD d) 116 1109029842979878173762490009410499655436233833089168744342481036394563552841358794974624494968093019432970391085674141182281033638051684343504625152223895102416943413681294551078435001126601297035627692861642343908223445170820445997257825352793859842794799768382908624916782804582 = preL ++ ([UInt8.ofNat (48 + d 0 % 10), UInt8.ofNat (48 + d 1 % 10)] ++ (midL ++ ((digL 1) ++ (openL ++ (howL 2 ++ postL))))) := by kernel_rfl
theorem stl_d2_1_2_m {s : ByteArray} {w : World} {n : Nat} (hn : 10 ≤ n ∧ n < 100) (hs : s.data.toList = textL n 1 2) : Calls Tryz.prog 11 #[.string s] w fun e w1 => LoopsMade w w1 n 1 2 e := by
  refine lmade_of (ρ := (symsD (dL n 0))) (n := n) (a := 1) (h := 2) (c0 := 0) (cn := 1) (c1 := 2) (ca := 2) (cz := 3) (vs := [(1, 0), (1, (n : Int)), (1, 1), (0, 0)]) (by decide) (ocL_ok (show ∀ e ∈ _, Entry (symsD (dL n 0)) Tryz.prog e from (app_ok (entD_ok _ 0 2 (by decide)) (symE_ok (n2_den (n := n) (a := 0) hn.1 hn.2) (by omega))))) (.cons ⟨rfl, fun F => by simp [den]⟩ (.cons ⟨rfl, (n2_den (n := n) (a := 0) hn.1 hn.2)⟩ (.cons ⟨rfl, fun F => by simp [den]⟩ (.cons ⟨rfl, fun F => by simp [den]⟩ .nil)))) ?_ hs (by simp) rfl rfl rfl rfl stl_d2_1_2
  rw [stl_d2_1_2_t]
  rw [n2_dig (n := n) (a := 0) hn.1 hn.2]
  rfl

theorem stl_d2_1_3_t (d : Nat → Nat) : bytesOf (symsD d) 105 3583468690842514558142438784394345534313659052946664823375819709080317244558854295652768109560770552267429380360821161104449582824627083080983588996876550566823100893512831014817862878330190285220647772221053073807688393580952683366265948045614226894438 = preL ++ ([UInt8.ofNat (48 + d 0 % 10), UInt8.ofNat (48 + d 1 % 10)] ++ (midL ++ ((digL 1) ++ (openL ++ (howL 3 ++ postL))))) := by kernel_rfl
theorem stl_d2_1_3_m {s : ByteArray} {w : World} {n : Nat} (hn : 10 ≤ n ∧ n < 100) (hs : s.data.toList = textL n 1 3) : Calls Tryz.prog 11 #[.string s] w fun e w1 => LoopsMade w w1 n 1 3 e := by
  refine lmade_of (ρ := (symsD (dL n 0))) (n := n) (a := 1) (h := 3) (c0 := 0) (cn := 1) (c1 := 2) (ca := 2) (cz := 3) (vs := [(1, 0), (1, (n : Int)), (1, 1), (0, 0)]) (by decide) (ocL_ok (show ∀ e ∈ _, Entry (symsD (dL n 0)) Tryz.prog e from (app_ok (entD_ok _ 0 2 (by decide)) (symE_ok (n2_den (n := n) (a := 0) hn.1 hn.2) (by omega))))) (.cons ⟨rfl, fun F => by simp [den]⟩ (.cons ⟨rfl, (n2_den (n := n) (a := 0) hn.1 hn.2)⟩ (.cons ⟨rfl, fun F => by simp [den]⟩ (.cons ⟨rfl, fun F => by simp [den]⟩ .nil)))) ?_ hs (by simp) rfl rfl rfl rfl stl_d2_1_3
  rw [stl_d2_1_3_t]
  rw [n2_dig (n := n) (a := 0) hn.1 hn.2]
  rfl

theorem stl_d2_d1_0_t (d : Nat → Nat) : bytesOf (symsD d) 113 66103329836122880802302957142025211777462591713021322747616829657230588963113055688849790368672301725231794853200337678691676267369713869187438223766508484018089911523783827103823103525429822324222581771899399637377730728666615114526392191095314977999509750477752203505254 = preL ++ ([UInt8.ofNat (48 + d 0 % 10), UInt8.ofNat (48 + d 1 % 10)] ++ (midL ++ ([UInt8.ofNat (48 + d 2 % 10)] ++ (openL ++ (howL 0 ++ postL))))) := by kernel_rfl
theorem stl_d2_d1_0_m {s : ByteArray} {w : World} {n a : Nat} (hn : 10 ≤ n ∧ n < 100) (ha : 2 ≤ a ∧ a < 10) (hne : n ≠ a) (hs : s.data.toList = textL n a 0) : Calls Tryz.prog 11 #[.string s] w fun e w1 => LoopsMade w w1 n a 0 e := by
  refine lmade_of (ρ := (symsD (dL n a))) (n := n) (a := a) (h := 0) (c0 := 0) (cn := 1) (c1 := 2) (ca := 3) (cz := 4) (vs := [(1, 0), (1, (n : Int)), (1, 1), (1, (a : Int)), (0, 0)]) (by decide) (ocL_ok (show ∀ e ∈ _, Entry (symsD (dL n a)) Tryz.prog e from (app_ok (app_ok (entD_ok _ 0 2 (by decide)) (entD_ok _ 2 1 (by decide))) (app_ok (symE_ok (n2_den (n := n) (a := a) hn.1 hn.2) (by omega)) (app_ok (symE_ok (a1_den (n := n) (a := a) ha.2) (by omega)) (two_ok (n2_den (n := n) (a := a) hn.1 hn.2) (a1_den (n := n) (a := a) ha.2) hne)))))) (.cons ⟨rfl, fun F => by simp [den]⟩ (.cons ⟨rfl, (n2_den (n := n) (a := a) hn.1 hn.2)⟩ (.cons ⟨rfl, fun F => by simp [den]⟩ (.cons ⟨rfl, (a1_den (n := n) (a := a) ha.2)⟩ (.cons ⟨rfl, fun F => by simp [den]⟩ .nil))))) ?_ hs (by simp) rfl rfl rfl rfl stl_d2_d1_0
  rw [stl_d2_d1_0_t]
  rw [n2_dig (n := n) (a := a) hn.1 hn.2]
  rw [a1_dig (n := n) (a := a) ha.2]
  rfl

theorem stl_d2_d1_1_t (d : Nat → Nat) : bytesOf (symsD d) 116 1109029842979878173762490009410499655436233833089168744342481036394563552841247728094049153668803257053071619315593995888534885057877196477809744921102763093251287513908303650960056594827523458035208849064601095716905793375045042636686588166232154370542163931978417196622376103526 = preL ++ ([UInt8.ofNat (48 + d 0 % 10), UInt8.ofNat (48 + d 1 % 10)] ++ (midL ++ ([UInt8.ofNat (48 + d 2 % 10)] ++ (openL ++ (howL 1 ++ postL))))) := by kernel_rfl
theorem stl_d2_d1_1_m {s : ByteArray} {w : World} {n a : Nat} (hn : 10 ≤ n ∧ n < 100) (ha : 2 ≤ a ∧ a < 10) (hne : n ≠ a) (hs : s.data.toList = textL n a 1) : Calls Tryz.prog 11 #[.string s] w fun e w1 => LoopsMade w w1 n a 1 e := by
  refine lmade_of (ρ := (symsD (dL n a))) (n := n) (a := a) (h := 1) (c0 := 0) (cn := 1) (c1 := 2) (ca := 3) (cz := 4) (vs := [(1, 0), (1, (n : Int)), (1, 1), (1, (a : Int)), (0, 0)]) (by decide) (ocL_ok (show ∀ e ∈ _, Entry (symsD (dL n a)) Tryz.prog e from (app_ok (app_ok (entD_ok _ 0 2 (by decide)) (entD_ok _ 2 1 (by decide))) (app_ok (symE_ok (n2_den (n := n) (a := a) hn.1 hn.2) (by omega)) (app_ok (symE_ok (a1_den (n := n) (a := a) ha.2) (by omega)) (two_ok (n2_den (n := n) (a := a) hn.1 hn.2) (a1_den (n := n) (a := a) ha.2) hne)))))) (.cons ⟨rfl, fun F => by simp [den]⟩ (.cons ⟨rfl, (n2_den (n := n) (a := a) hn.1 hn.2)⟩ (.cons ⟨rfl, fun F => by simp [den]⟩ (.cons ⟨rfl, (a1_den (n := n) (a := a) ha.2)⟩ (.cons ⟨rfl, fun F => by simp [den]⟩ .nil))))) ?_ hs (by simp) rfl rfl rfl rfl stl_d2_d1_1
  rw [stl_d2_d1_1_t]
  rw [n2_dig (n := n) (a := a) hn.1 hn.2]
  rw [a1_dig (n := n) (a := a) ha.2]
  rfl

theorem stl_d2_d1_2_t (d : Nat → Nat) : bytesOf (symsD d) 116 1109029842979878173762490009410499655436233833089168744342481036394563552841358794974624494968093019438099034290620436800559613913915088476073108807186623814874954944823611410887479798770282189441563473765939658598094110511610351348642618442680896914987656498301666652192208088678 = preL ++ ([UInt8.ofNat (48 + d 0 % 10), UInt8.ofNat (48 + d 1 % 10)] ++ (midL ++ ([UInt8.ofNat (48 + d 2 % 10)] ++ (openL ++ (howL 2 ++ postL))))) := by kernel_rfl
theorem stl_d2_d1_2_m {s : ByteArray} {w : World} {n a : Nat} (hn : 10 ≤ n ∧ n < 100) (ha : 2 ≤ a ∧ a < 10) (hne : n ≠ a) (hs : s.data.toList = textL n a 2) : Calls Tryz.prog 11 #[.string s] w fun e w1 => LoopsMade w w1 n a 2 e := by
  refine lmade_of (ρ := (symsD (dL n a))) (n := n) (a := a) (h := 2) (c0 := 0) (cn := 1) (c1 := 2) (ca := 3) (cz := 4) (vs := [(1, 0), (1, (n : Int)), (1, 1), (1, (a : Int)), (0, 0)]) (by decide) (ocL_ok (show ∀ e ∈ _, Entry (symsD (dL n a)) Tryz.prog e from (app_ok (app_ok (entD_ok _ 0 2 (by decide)) (entD_ok _ 2 1 (by decide))) (app_ok (symE_ok (n2_den (n := n) (a := a) hn.1 hn.2) (by omega)) (app_ok (symE_ok (a1_den (n := n) (a := a) ha.2) (by omega)) (two_ok (n2_den (n := n) (a := a) hn.1 hn.2) (a1_den (n := n) (a := a) ha.2) hne)))))) (.cons ⟨rfl, fun F => by simp [den]⟩ (.cons ⟨rfl, (n2_den (n := n) (a := a) hn.1 hn.2)⟩ (.cons ⟨rfl, fun F => by simp [den]⟩ (.cons ⟨rfl, (a1_den (n := n) (a := a) ha.2)⟩ (.cons ⟨rfl, fun F => by simp [den]⟩ .nil))))) ?_ hs (by simp) rfl rfl rfl rfl stl_d2_d1_2
  rw [stl_d2_d1_2_t]
  rw [n2_dig (n := n) (a := a) hn.1 hn.2]
  rw [a1_dig (n := n) (a := a) ha.2]
  rfl

theorem stl_d2_d1_3_t (d : Nat → Nat) : bytesOf (symsD d) 105 3583468690842514558142438784394345534313659052946664823375819709080317244563982938857714405179049132543292784493389644759412311537085094612125905856685595364466781785918766795722160193020060950561437677572437866897575430653145540096184706072889652178534 = preL ++ ([UInt8.ofNat (48 + d 0 % 10), UInt8.ofNat (48 + d 1 % 10)] ++ (midL ++ ([UInt8.ofNat (48 + d 2 % 10)] ++ (openL ++ (howL 3 ++ postL))))) := by kernel_rfl
theorem stl_d2_d1_3_m {s : ByteArray} {w : World} {n a : Nat} (hn : 10 ≤ n ∧ n < 100) (ha : 2 ≤ a ∧ a < 10) (hne : n ≠ a) (hs : s.data.toList = textL n a 3) : Calls Tryz.prog 11 #[.string s] w fun e w1 => LoopsMade w w1 n a 3 e := by
  refine lmade_of (ρ := (symsD (dL n a))) (n := n) (a := a) (h := 3) (c0 := 0) (cn := 1) (c1 := 2) (ca := 3) (cz := 4) (vs := [(1, 0), (1, (n : Int)), (1, 1), (1, (a : Int)), (0, 0)]) (by decide) (ocL_ok (show ∀ e ∈ _, Entry (symsD (dL n a)) Tryz.prog e from (app_ok (app_ok (entD_ok _ 0 2 (by decide)) (entD_ok _ 2 1 (by decide))) (app_ok (symE_ok (n2_den (n := n) (a := a) hn.1 hn.2) (by omega)) (app_ok (symE_ok (a1_den (n := n) (a := a) ha.2) (by omega)) (two_ok (n2_den (n := n) (a := a) hn.1 hn.2) (a1_den (n := n) (a := a) ha.2) hne)))))) (.cons ⟨rfl, fun F => by simp [den]⟩ (.cons ⟨rfl, (n2_den (n := n) (a := a) hn.1 hn.2)⟩ (.cons ⟨rfl, fun F => by simp [den]⟩ (.cons ⟨rfl, (a1_den (n := n) (a := a) ha.2)⟩ (.cons ⟨rfl, fun F => by simp [den]⟩ .nil))))) ?_ hs (by simp) rfl rfl rfl rfl stl_d2_d1_3
  rw [stl_d2_d1_3_t]
  rw [n2_dig (n := n) (a := a) hn.1 hn.2]
  rw [a1_dig (n := n) (a := a) ha.2]
  rfl

theorem stl_d2_d2_0_t (d : Nat → Nat) : bytesOf (symsD d) 114 16922452438047457485389557028358454215030423478533458623389908392251030774556942256345546334380131648557169311253933244114999122915613751468721207563170245633292604291963324782853138905191344696097795029849452506920823158087402720761027321301391442833251801052464048618106470 = preL ++ ([UInt8.ofNat (48 + d 0 % 10), UInt8.ofNat (48 + d 1 % 10)] ++ (midL ++ ([UInt8.ofNat (48 + d 2 % 10), UInt8.ofNat (48 + d 3 % 10)] ++ (openL ++ (howL 0 ++ postL))))) := by kernel_rfl
theorem stl_d2_d2_0_m {s : ByteArray} {w : World} {n a : Nat} (hn : 10 ≤ n ∧ n < 100) (ha : 10 ≤ a ∧ a < 100) (hne : n ≠ a) (hs : s.data.toList = textL n a 0) : Calls Tryz.prog 11 #[.string s] w fun e w1 => LoopsMade w w1 n a 0 e := by
  refine lmade_of (ρ := (symsD (dL n a))) (n := n) (a := a) (h := 0) (c0 := 0) (cn := 1) (c1 := 2) (ca := 3) (cz := 4) (vs := [(1, 0), (1, (n : Int)), (1, 1), (1, (a : Int)), (0, 0)]) (by decide) (ocL_ok (show ∀ e ∈ _, Entry (symsD (dL n a)) Tryz.prog e from (app_ok (app_ok (entD_ok _ 0 2 (by decide)) (entD_ok _ 2 2 (by decide))) (app_ok (symE_ok (n2_den (n := n) (a := a) hn.1 hn.2) (by omega)) (app_ok (symE_ok (a2_den (n := n) (a := a) ha.1 ha.2) (by omega)) (two_ok (n2_den (n := n) (a := a) hn.1 hn.2) (a2_den (n := n) (a := a) ha.1 ha.2) hne)))))) (.cons ⟨rfl, fun F => by simp [den]⟩ (.cons ⟨rfl, (n2_den (n := n) (a := a) hn.1 hn.2)⟩ (.cons ⟨rfl, fun F => by simp [den]⟩ (.cons ⟨rfl, (a2_den (n := n) (a := a) ha.1 ha.2)⟩ (.cons ⟨rfl, fun F => by simp [den]⟩ .nil))))) ?_ hs (by simp) rfl rfl rfl rfl stl_d2_d2_0
  rw [stl_d2_d2_0_t]
  rw [n2_dig (n := n) (a := a) hn.1 hn.2]
  rw [a2_dig (n := n) (a := a) ha.1 ha.2]
  rfl

theorem stl_d2_d2_1_t (d : Nat → Nat) : bytesOf (symsD d) 117 283911639802848812483197442409087911791675861270827198551675145317008269527359418392076583339213633805608741442621891782111728944746560767286295656539329630816403328222112676520439532550270407938323646457351976746734082856135622463741018012826351899849602431963779732494812803264102 = preL ++ ([UInt8.ofNat (48 + d 0 % 10), UInt8.ofNat (48 + d 1 % 10)] ++ (midL ++ ([UInt8.ofNat (48 + d 2 % 10), UInt8.ofNat (48 + d 3 % 10)] ++ (openL ++ (howL 1 ++ postL))))) := by kernel_rfl
theorem stl_d2_d2_1_m {s : ByteArray} {w : World} {n a : Nat} (hn : 10 ≤ n ∧ n < 100) (ha : 10 ≤ a ∧ a < 100) (hne : n ≠ a) (hs : s.data.toList = textL n a 1) : Calls Tryz.prog 11 #[.string s] w fun e w1 => LoopsMade w w1 n a 1 e := by
  refine lmade_of (ρ := (symsD (dL n a))) (n := n) (a := a) (h := 1) (c0 := 0) (cn := 1) (c1 := 2) (ca := 3) (cz := 4) (vs := [(1, 0), (1, (n : Int)), (1, 1), (1, (a : Int)), (0, 0)]) (by decide) (ocL_ok (show ∀ e ∈ _, Entry (symsD (dL n a)) Tryz.prog e from (app_ok (app_ok (entD_ok _ 0 2 (by decide)) (entD_ok _ 2 2 (by decide))) (app_ok (symE_ok (n2_den (n := n) (a := a) hn.1 hn.2) (by omega)) (app_ok (symE_ok (a2_den (n := n) (a := a) ha.1 ha.2) (by omega)) (two_ok (n2_den (n := n) (a := a) hn.1 hn.2) (a2_den (n := n) (a := a) ha.1 ha.2) hne)))))) (.cons ⟨rfl, fun F => by simp [den]⟩ (.cons ⟨rfl, (n2_den (n := n) (a := a) hn.1 hn.2)⟩ (.cons ⟨rfl, fun F => by simp [den]⟩ (.cons ⟨rfl, (a2_den (n := n) (a := a) ha.1 ha.2)⟩ (.cons ⟨rfl, fun F => by simp [den]⟩ .nil))))) ?_ hs (by simp) rfl rfl rfl rfl stl_d2_d2_1
  rw [stl_d2_d2_1_t]
  rw [n2_dig (n := n) (a := a) hn.1 hn.2]
  rw [a2_dig (n := n) (a := a) ha.1 ha.2]
  rfl

theorem stl_d2_d2_2_t (d : Nat → Nat) : bytesOf (symsD d) 117 283911639802848812483197442409087911791675861270827198551675145317008269527387851513503870711831812976175759676228660655590059531892261118841716811376797975552062190536431463061859872759616643178350430380894648844318292043096341494001761763597229991227648528942531593120689791463014 = preL ++ ([UInt8.ofNat (48 + d 0 % 10), UInt8.ofNat (48 + d 1 % 10)] ++ (midL ++ ([UInt8.ofNat (48 + d 2 % 10), UInt8.ofNat (48 + d 3 % 10)] ++ (openL ++ (howL 2 ++ postL))))) := by kernel_rfl
theorem stl_d2_d2_2_m {s : ByteArray} {w : World} {n a : Nat} (hn : 10 ≤ n ∧ n < 100) (ha : 10 ≤ a ∧ a < 100) (hne : n ≠ a) (hs : s.data.toList = textL n a 2) : Calls Tryz.prog 11 #[.string s] w fun e w1 => LoopsMade w w1 n a 2 e := by
  refine lmade_of (ρ := (symsD (dL n a))) (n := n) (a := a) (h := 2) (c0 := 0) (cn := 1) (c1 := 2) (ca := 3) (cz := 4) (vs := [(1, 0), (1, (n : Int)), (1, 1), (1, (a : Int)), (0, 0)]) (by decide) (ocL_ok (show ∀ e ∈ _, Entry (symsD (dL n a)) Tryz.prog e from (app_ok (app_ok (entD_ok _ 0 2 (by decide)) (entD_ok _ 2 2 (by decide))) (app_ok (symE_ok (n2_den (n := n) (a := a) hn.1 hn.2) (by omega)) (app_ok (symE_ok (a2_den (n := n) (a := a) ha.1 ha.2) (by omega)) (two_ok (n2_den (n := n) (a := a) hn.1 hn.2) (a2_den (n := n) (a := a) ha.1 ha.2) hne)))))) (.cons ⟨rfl, fun F => by simp [den]⟩ (.cons ⟨rfl, (n2_den (n := n) (a := a) hn.1 hn.2)⟩ (.cons ⟨rfl, fun F => by simp [den]⟩ (.cons ⟨rfl, (a2_den (n := n) (a := a) ha.1 ha.2)⟩ (.cons ⟨rfl, fun F => by simp [den]⟩ .nil))))) ?_ hs (by simp) rfl rfl rfl rfl stl_d2_d2_2
  rw [stl_d2_d2_2_t]
  rw [n2_dig (n := n) (a := a) hn.1 hn.2]
  rw [a2_dig (n := n) (a := a) ha.1 ha.2]
  rfl

theorem stl_d2_d2_3_t (d : Nat → Nat) : bytesOf (symsD d) 106 917367984855683726884464328804952456784296717554346194784209845524561214608402039245404716560483376301012951299274750015146574032437857945365818841186177457577920539876514480801687105656341803095852137007293345368050230628196066730000589684819235478466150 = preL ++ ([UInt8.ofNat (48 + d 0 % 10), UInt8.ofNat (48 + d 1 % 10)] ++ (midL ++ ([UInt8.ofNat (48 + d 2 % 10), UInt8.ofNat (48 + d 3 % 10)] ++ (openL ++ (howL 3 ++ postL))))) := by kernel_rfl
theorem stl_d2_d2_3_m {s : ByteArray} {w : World} {n a : Nat} (hn : 10 ≤ n ∧ n < 100) (ha : 10 ≤ a ∧ a < 100) (hne : n ≠ a) (hs : s.data.toList = textL n a 3) : Calls Tryz.prog 11 #[.string s] w fun e w1 => LoopsMade w w1 n a 3 e := by
  refine lmade_of (ρ := (symsD (dL n a))) (n := n) (a := a) (h := 3) (c0 := 0) (cn := 1) (c1 := 2) (ca := 3) (cz := 4) (vs := [(1, 0), (1, (n : Int)), (1, 1), (1, (a : Int)), (0, 0)]) (by decide) (ocL_ok (show ∀ e ∈ _, Entry (symsD (dL n a)) Tryz.prog e from (app_ok (app_ok (entD_ok _ 0 2 (by decide)) (entD_ok _ 2 2 (by decide))) (app_ok (symE_ok (n2_den (n := n) (a := a) hn.1 hn.2) (by omega)) (app_ok (symE_ok (a2_den (n := n) (a := a) ha.1 ha.2) (by omega)) (two_ok (n2_den (n := n) (a := a) hn.1 hn.2) (a2_den (n := n) (a := a) ha.1 ha.2) hne)))))) (.cons ⟨rfl, fun F => by simp [den]⟩ (.cons ⟨rfl, (n2_den (n := n) (a := a) hn.1 hn.2)⟩ (.cons ⟨rfl, fun F => by simp [den]⟩ (.cons ⟨rfl, (a2_den (n := n) (a := a) ha.1 ha.2)⟩ (.cons ⟨rfl, fun F => by simp [den]⟩ .nil))))) ?_ hs (by simp) rfl rfl rfl rfl stl_d2_d2_3
  rw [stl_d2_d2_3_t]
  rw [n2_dig (n := n) (a := a) hn.1 hn.2]
  rw [a2_dig (n := n) (a := a) ha.1 ha.2]
  rfl

theorem stl_d2_e_0_t (d : Nat → Nat) : bytesOf (symsD d) 114 16922452438047457485389557028358454215030423478533458623389908392251030774556942256345546334380099103833621874266923426951273273659760168745281073704426993560119676503494906893643399991874102091265883809852531599241993948070728501209814951708118515322644662266957634190995046 = preL ++ ([UInt8.ofNat (48 + d 0 % 10), UInt8.ofNat (48 + d 1 % 10)] ++ (midL ++ ([UInt8.ofNat (48 + d 0 % 10), UInt8.ofNat (48 + d 1 % 10)] ++ (openL ++ (howL 0 ++ postL))))) := by kernel_rfl
theorem stl_d2_e_0_m {s : ByteArray} {w : World} {n : Nat} (hn : 10 ≤ n ∧ n < 100) (hs : s.data.toList = textL n n 0) : Calls Tryz.prog 11 #[.string s] w fun e w1 => LoopsMade w w1 n n 0 e := by
  refine lmade_of (ρ := (symsD (dL n 0))) (n := n) (a := n) (h := 0) (c0 := 0) (cn := 1) (c1 := 2) (ca := 1) (cz := 3) (vs := [(1, 0), (1, (n : Int)), (1, 1), (0, 0)]) (by decide) (ocL_ok (show ∀ e ∈ _, Entry (symsD (dL n 0)) Tryz.prog e from (app_ok (entD_ok _ 0 2 (by decide)) (symE_ok (n2_den (n := n) (a := 0) hn.1 hn.2) (by omega))))) (.cons ⟨rfl, fun F => by simp [den]⟩ (.cons ⟨rfl, (n2_den (n := n) (a := 0) hn.1 hn.2)⟩ (.cons ⟨rfl, fun F => by simp [den]⟩ (.cons ⟨rfl, fun F => by simp [den]⟩ .nil)))) ?_ hs (by simp) rfl rfl rfl rfl stl_d2_e_0
  rw [stl_d2_e_0_t]
  rw [n2_dig (n := n) (a := 0) hn.1 hn.2]
  rfl

theorem stl_d2_e_1_t (d : Nat → Nat) : bytesOf (symsD d) 117 283911639802848812483197442409087911791675861270827198551675145317008269527359418392076583339213633805576196719074454795101911781020711511432712933099195772073151255049184888052021643340531494621081041625440756749813175177306412447066798461613982306576674921356640946988398376152678 = preL ++ ([UInt8.ofNat (48 + d 0 % 10), UInt8.ofNat (48 + d 1 % 10)] ++ (midL ++ ([UInt8.ofNat (48 + d 0 % 10), UInt8.ofNat (48 + d 1 % 10)] ++ (openL ++ (howL 1 ++ postL))))) := by kernel_rfl
theorem stl_d2_e_1_m {s : ByteArray} {w : World} {n : Nat} (hn : 10 ≤ n ∧ n < 100) (hs : s.data.toList = textL n n 1) : Calls Tryz.prog 11 #[.string s] w fun e w1 => LoopsMade w w1 n n 1 e := by
  refine lmade_of (ρ := (symsD (dL n 0))) (n := n) (a := n) (h := 1) (c0 := 0) (cn := 1) (c1 := 2) (ca := 1) (cz := 3) (vs := [(1, 0), (1, (n : Int)), (1, 1), (0, 0)]) (by decide) (ocL_ok (show ∀ e ∈ _, Entry (symsD (dL n 0)) Tryz.prog e from (app_ok (entD_ok _ 0 2 (by decide)) (symE_ok (n2_den (n := n) (a := 0) hn.1 hn.2) (by omega))))) (.cons ⟨rfl, fun F => by simp [den]⟩ (.cons ⟨rfl, (n2_den (n := n) (a := 0) hn.1 hn.2)⟩ (.cons ⟨rfl, fun F => by simp [den]⟩ (.cons ⟨rfl, fun F => by simp [den]⟩ .nil)))) ?_ hs (by simp) rfl rfl rfl rfl stl_d2_e_1
  rw [stl_d2_e_1_t]
  rw [n2_dig (n := n) (a := 0) hn.1 hn.2]
  rfl

theorem stl_d2_e_2_t (d : Nat → Nat) : bytesOf (symsD d) 117 283911639802848812483197442409087911791675861270827198551675145317008269527387851513503870711831812976143214952681223668580242368166411862988134087936664116808810117363503674593441983549877729861107825548983428847397384364267131477327542212384860397954721018335392807614275364351590 = preL ++ ([UInt8.ofNat (48 + d 0 % 10), UInt8.ofNat (48 + d 1 % 10)] ++ (midL ++ ([UInt8.ofNat (48 + d 0 % 10), UInt8.ofNat (48 + d 1 % 10)] ++ (openL ++ (howL 2 ++ postL))))) := by kernel_rfl
theorem stl_d2_e_2_m {s : ByteArray} {w : World} {n : Nat} (hn : 10 ≤ n ∧ n < 100) (hs : s.data.toList = textL n n 2) : Calls Tryz.prog 11 #[.string s] w fun e w1 => LoopsMade w w1 n n 2 e := by
  refine lmade_of (ρ := (symsD (dL n 0))) (n := n) (a := n) (h := 2) (c0 := 0) (cn := 1) (c1 := 2) (ca := 1) (cz := 3) (vs := [(1, 0), (1, (n : Int)), (1, 1), (0, 0)]) (by decide) (ocL_ok (show ∀ e ∈ _, Entry (symsD (dL n 0)) Tryz.prog e from (app_ok (entD_ok _ 0 2 (by decide)) (symE_ok (n2_den (n := n) (a := 0) hn.1 hn.2) (by omega))))) (.cons ⟨rfl, fun F => by simp [den]⟩ (.cons ⟨rfl, (n2_den (n := n) (a := 0) hn.1 hn.2)⟩ (.cons ⟨rfl, fun F => by simp [den]⟩ (.cons ⟨rfl, fun F => by simp [den]⟩ .nil)))) ?_ hs (by simp) rfl rfl rfl rfl stl_d2_e_2
  rw [stl_d2_e_2_t]
  rw [n2_dig (n := n) (a := 0) hn.1 hn.2]
  rfl

theorem stl_d2_e_3_t (d : Nat → Nat) : bytesOf (symsD d) 106 917367984855683726884464328804952456784296717554346194784209845524561214608369494521857279573473559137287102043421167291706440173694605872192891052717759568368181626559271875969775885659420895417022926990619125816837861034923139219393450899312821051354726 = preL ++ ([UInt8.ofNat (48 + d 0 % 10), UInt8.ofNat (48 + d 1 % 10)] ++ (midL ++ ([UInt8.ofNat (48 + d 0 % 10), UInt8.ofNat (48 + d 1 % 10)] ++ (openL ++ (howL 3 ++ postL))))) := by kernel_rfl
theorem stl_d2_e_3_m {s : ByteArray} {w : World} {n : Nat} (hn : 10 ≤ n ∧ n < 100) (hs : s.data.toList = textL n n 3) : Calls Tryz.prog 11 #[.string s] w fun e w1 => LoopsMade w w1 n n 3 e := by
  refine lmade_of (ρ := (symsD (dL n 0))) (n := n) (a := n) (h := 3) (c0 := 0) (cn := 1) (c1 := 2) (ca := 1) (cz := 3) (vs := [(1, 0), (1, (n : Int)), (1, 1), (0, 0)]) (by decide) (ocL_ok (show ∀ e ∈ _, Entry (symsD (dL n 0)) Tryz.prog e from (app_ok (entD_ok _ 0 2 (by decide)) (symE_ok (n2_den (n := n) (a := 0) hn.1 hn.2) (by omega))))) (.cons ⟨rfl, fun F => by simp [den]⟩ (.cons ⟨rfl, (n2_den (n := n) (a := 0) hn.1 hn.2)⟩ (.cons ⟨rfl, fun F => by simp [den]⟩ (.cons ⟨rfl, fun F => by simp [den]⟩ .nil)))) ?_ hs (by simp) rfl rfl rfl rfl stl_d2_e_3
  rw [stl_d2_e_3_t]
  rw [n2_dig (n := n) (a := 0) hn.1 hn.2]
  rfl

theorem loops_made {s : ByteArray} {w : World} {n a h : Nat} (hn : n < 100) (ha : a < 100) (hh : h < 4) (hs : s.data.toList = textL n a h) : Calls Tryz.prog 11 #[.string s] w fun e w1 => LoopsMade w w1 n a h e := by
  have hk : ∀ x, x < 100 → x = 0 ∨ x = 1 ∨ (2 ≤ x ∧ x < 10) ∨ (10 ≤ x ∧ x < 100) := fun x hx => by omega
  rcases hk n hn with rfl | rfl | hn1 | hn1
  · rcases hk a ha with rfl | rfl | ha1 | ha1
    · obtain rfl | rfl | rfl | rfl : h = 0 ∨ h = 1 ∨ h = 2 ∨ h = 3 := by omega
      · exact stl_0_0_0_m  hs
      · exact stl_0_0_1_m  hs
      · exact stl_0_0_2_m  hs
      · exact stl_0_0_3_m  hs
    · obtain rfl | rfl | rfl | rfl : h = 0 ∨ h = 1 ∨ h = 2 ∨ h = 3 := by omega
      · exact stl_0_1_0_m  hs
      · exact stl_0_1_1_m  hs
      · exact stl_0_1_2_m  hs
      · exact stl_0_1_3_m  hs
    · obtain rfl | rfl | rfl | rfl : h = 0 ∨ h = 1 ∨ h = 2 ∨ h = 3 := by omega
      · exact stl_0_d1_0_m ha1 hs
      · exact stl_0_d1_1_m ha1 hs
      · exact stl_0_d1_2_m ha1 hs
      · exact stl_0_d1_3_m ha1 hs
    · obtain rfl | rfl | rfl | rfl : h = 0 ∨ h = 1 ∨ h = 2 ∨ h = 3 := by omega
      · exact stl_0_d2_0_m ha1 hs
      · exact stl_0_d2_1_m ha1 hs
      · exact stl_0_d2_2_m ha1 hs
      · exact stl_0_d2_3_m ha1 hs
  · rcases hk a ha with rfl | rfl | ha1 | ha1
    · obtain rfl | rfl | rfl | rfl : h = 0 ∨ h = 1 ∨ h = 2 ∨ h = 3 := by omega
      · exact stl_1_0_0_m  hs
      · exact stl_1_0_1_m  hs
      · exact stl_1_0_2_m  hs
      · exact stl_1_0_3_m  hs
    · obtain rfl | rfl | rfl | rfl : h = 0 ∨ h = 1 ∨ h = 2 ∨ h = 3 := by omega
      · exact stl_1_1_0_m  hs
      · exact stl_1_1_1_m  hs
      · exact stl_1_1_2_m  hs
      · exact stl_1_1_3_m  hs
    · obtain rfl | rfl | rfl | rfl : h = 0 ∨ h = 1 ∨ h = 2 ∨ h = 3 := by omega
      · exact stl_1_d1_0_m ha1 hs
      · exact stl_1_d1_1_m ha1 hs
      · exact stl_1_d1_2_m ha1 hs
      · exact stl_1_d1_3_m ha1 hs
    · obtain rfl | rfl | rfl | rfl : h = 0 ∨ h = 1 ∨ h = 2 ∨ h = 3 := by omega
      · exact stl_1_d2_0_m ha1 hs
      · exact stl_1_d2_1_m ha1 hs
      · exact stl_1_d2_2_m ha1 hs
      · exact stl_1_d2_3_m ha1 hs
  · by_cases hne : n = a
    · subst hne
      obtain rfl | rfl | rfl | rfl : h = 0 ∨ h = 1 ∨ h = 2 ∨ h = 3 := by omega
      · exact stl_d1_e_0_m hn1 hs
      · exact stl_d1_e_1_m hn1 hs
      · exact stl_d1_e_2_m hn1 hs
      · exact stl_d1_e_3_m hn1 hs
    rcases hk a ha with rfl | rfl | ha1 | ha1
    · obtain rfl | rfl | rfl | rfl : h = 0 ∨ h = 1 ∨ h = 2 ∨ h = 3 := by omega
      · exact stl_d1_0_0_m hn1 hs
      · exact stl_d1_0_1_m hn1 hs
      · exact stl_d1_0_2_m hn1 hs
      · exact stl_d1_0_3_m hn1 hs
    · obtain rfl | rfl | rfl | rfl : h = 0 ∨ h = 1 ∨ h = 2 ∨ h = 3 := by omega
      · exact stl_d1_1_0_m hn1 hs
      · exact stl_d1_1_1_m hn1 hs
      · exact stl_d1_1_2_m hn1 hs
      · exact stl_d1_1_3_m hn1 hs
    · obtain rfl | rfl | rfl | rfl : h = 0 ∨ h = 1 ∨ h = 2 ∨ h = 3 := by omega
      · exact stl_d1_d1_0_m hn1 ha1 hne hs
      · exact stl_d1_d1_1_m hn1 ha1 hne hs
      · exact stl_d1_d1_2_m hn1 ha1 hne hs
      · exact stl_d1_d1_3_m hn1 ha1 hne hs
    · obtain rfl | rfl | rfl | rfl : h = 0 ∨ h = 1 ∨ h = 2 ∨ h = 3 := by omega
      · exact stl_d1_d2_0_m hn1 ha1 hne hs
      · exact stl_d1_d2_1_m hn1 ha1 hne hs
      · exact stl_d1_d2_2_m hn1 ha1 hne hs
      · exact stl_d1_d2_3_m hn1 ha1 hne hs
  · by_cases hne : n = a
    · subst hne
      obtain rfl | rfl | rfl | rfl : h = 0 ∨ h = 1 ∨ h = 2 ∨ h = 3 := by omega
      · exact stl_d2_e_0_m hn1 hs
      · exact stl_d2_e_1_m hn1 hs
      · exact stl_d2_e_2_m hn1 hs
      · exact stl_d2_e_3_m hn1 hs
    rcases hk a ha with rfl | rfl | ha1 | ha1
    · obtain rfl | rfl | rfl | rfl : h = 0 ∨ h = 1 ∨ h = 2 ∨ h = 3 := by omega
      · exact stl_d2_0_0_m hn1 hs
      · exact stl_d2_0_1_m hn1 hs
      · exact stl_d2_0_2_m hn1 hs
      · exact stl_d2_0_3_m hn1 hs
    · obtain rfl | rfl | rfl | rfl : h = 0 ∨ h = 1 ∨ h = 2 ∨ h = 3 := by omega
      · exact stl_d2_1_0_m hn1 hs
      · exact stl_d2_1_1_m hn1 hs
      · exact stl_d2_1_2_m hn1 hs
      · exact stl_d2_1_3_m hn1 hs
    · obtain rfl | rfl | rfl | rfl : h = 0 ∨ h = 1 ∨ h = 2 ∨ h = 3 := by omega
      · exact stl_d2_d1_0_m hn1 ha1 hne hs
      · exact stl_d2_d1_1_m hn1 ha1 hne hs
      · exact stl_d2_d1_2_m hn1 ha1 hne hs
      · exact stl_d2_d1_3_m hn1 ha1 hne hs
    · obtain rfl | rfl | rfl | rfl : h = 0 ∨ h = 1 ∨ h = 2 ∨ h = 3 := by omega
      · exact stl_d2_d2_0_m hn1 ha1 hne hs
      · exact stl_d2_d2_1_m hn1 ha1 hne hs
      · exact stl_d2_d2_2_m hn1 ha1 hne hs
      · exact stl_d2_d2_3_m hn1 ha1 hne hs

end Go.Proofs.YtplnnlnkcfappaaGreat.Sv
