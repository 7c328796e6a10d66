/- SvmCalls: the law's text is turned into its stack code. -/
import Derived.Test.YtplnnlnkcfappaaGreatUb
import Derived.Test.YtplnnlnkcfappaaGreatUa
import Derived.Test.YtplnnlnkcfappaaGreatUc0
import Derived.Test.YtplnnlnkcfappaaGreatUc1
namespace Go.Proofs.YtplnnlnkcfappaaGreat.Sv
open Go.RowKit E3
set_option linter.unusedSimpArgs false
set_option linter.unusedVariables false

theorem ba_append (a b : ByteArray) : (a ++ b).data.toList = a.data.toList ++ b.data.toList := by simp
theorem str_of {ρ : Syms} {L q : Nat} {s : ByteArray} {l : List UInt8} (h : bytesOf ρ L q = l) (hs : s.data.toList = l) : Value.string (strOf ρ L q) = .string s := by
  unfold strOf
  rw [h, ← hs]
/-- the digits of a number of D digits, the first first -/
def dOf (D n : Nat) : Nat → Nat := match D with
  | 1 => fun _ => n
  | 2 => fun j => match j with | 0 => n / 10 | _ => n % 10
  | 3 => fun j => match j with | 0 => n / 100 | 1 => n / 10 % 10 | _ => n % 10
  | _ => fun j => match j with | 0 => n / 1000 | 1 => n / 100 % 10 | 2 => n / 10 % 10 | _ => n % 10

def preC : List UInt8 := [102, 110, 32, 102, 40, 110, 41, 32, 123, 32, 105, 102, 32, 110, 32, 61, 61, 32, 48, 32, 123, 32, 114, 101, 116, 117, 114, 110, 32, 48, 59, 32, 125, 32, 114, 101, 116, 117, 114, 110, 32, 49, 32, 43, 32, 102, 40, 110, 32, 45, 32, 49, 41, 59, 32, 125, 32, 102, 110, 32, 109, 97, 105, 110, 40, 41, 32, 123, 32, 114, 101, 116, 117, 114, 110, 32, 102, 40]
def postC : List UInt8 := [41, 59, 32, 125]
def fV (name : Value) : FV := ⟨name, 1, 1, [(1, 0), (1, 1), (0, 0)], fCode⟩
def mV (name : Value) (n : Nat) : FV := ⟨name, 0, 0, [(1, (n : Int)), (0, 0)], mCode⟩

def CallsMade (w w1 : World) (n : Nat) (e : Ending) : Prop := ∃ g o cap nf nm, e = .returned (.tuple #[.agg #[.slice (some ⟨g, o, none⟩) 2 cap, .int .i64 1], .bool true]) ∧ Below w.heap.size w w1 ∧ Prg w1 w1.heap.size g o [fV nf, mV nm n] ∧
  ∀ w2, Below w1.heap.size w1 w2 → Calls Tryz.prog 31 #[.agg #[.slice (some ⟨g, o, none⟩) 2 cap, .int .i64 1]] w2 fun e w3 => e = .returned (.int .i64 0) ∧ Below w2.heap.size w2 w3

theorem made_of {ρ : Syms} {oc : Orc} {L q n : Nat} {x : AV} {s : ByteArray} {w : World} (hoc : OrcOk ρ Tryz.prog oc) (hx : ∀ F, den ρ F x = some (.int .i64 (n : Int))) (ht : bytesOf ρ L q = preC ++ (digL n ++ postC)) (hs : s.data.toList = preC ++ (digL n ++ postC))
    (h : isTrue (stageR Tryz.prog oc sk kn 11 31 54 (.str L q) [⟨(.str 1 102), 1, 1, [(1, .nat 0), (1, .nat 1), (0, .nat 0)], fCode⟩, ⟨(.str 4 1852399981), 0, 0, [(1, x), (0, .nat 0)], mCode⟩] 1) = true) :
    Calls Tryz.prog 11 #[.string s] w fun e w1 => CallsMade w w1 n e := by
  rw [← str_of ht hs]
  refine (stage_sound mix (plainly_of plain_names) hoc lex (kn_ok _) (kit Tryz.func11 (by kernel_rfl)) (kit Tryz.func31 (by kernel_rfl)) (s := .str L q) (sv := .string (strOf ρ L q)) (fun F => rfl) (vs := [fV (.string (strOf ρ 1 102)), mV (.string (strOf ρ 4 1852399981)) n]) ?_ h w).mono ?_
  · refine .cons ⟨fun F => rfl, rfl, rfl, .cons ⟨rfl, fun F => by simp [den]⟩ (.cons ⟨rfl, fun F => by simp [den]⟩ (.cons ⟨rfl, fun F => by simp [den]⟩ .nil)), rfl⟩ (.cons ⟨fun F => rfl, rfl, rfl, .cons ⟨rfl, hx⟩ (.cons ⟨rfl, fun F => by simp [den]⟩ .nil), rfl⟩ .nil)
  · rintro e w1 ⟨p, rfl, hb, hp, hc⟩
    obtain ⟨g, o, cap, rfl, hP⟩ := prg_of hp (by simp) (fun f hf => by
      simp only [List.mem_cons, List.not_mem_nil, or_false] at hf
      rcases hf with rfl | rfl
      · exact ⟨rfl, by simp [fV], by simp [fV], by simp [fV, fCode], by simp [fV, fCode]⟩
      · exact ⟨rfl, by simp [mV], by simp [mV], by simp [mV, mCode], by simp [mV, mCode]⟩)
    exact ⟨g, o, cap, _, _, rfl, hb, hP, hc⟩

theorem beq_f {n : Nat} (h : n ≠ 0) : Nat.beq n 0 = false := by
  cases n with
  | zero => exact absurd rfl h
  | succ n => rfl
theorem n_neq {d : Nat → Nat} {u : AV} {n : Nat} (hu : ∀ F, den (symsD d) F u = some (.int .i64 (n : Nat))) (hn : n ≠ 0) : Entry (symsD d) Tryz.prog (.neq, u, .nat 0, .bool true) := by
  have := e_neq (P := Tryz.prog) d hu (natD_den (symsD d) 0)
  rwa [show (!Nat.beq n 0) = true by rw [beq_f hn]; rfl] at this
theorem n_eql {d : Nat → Nat} {u : AV} {n : Nat} (hu : ∀ F, den (symsD d) F u = some (.int .i64 (n : Nat))) (hn : n ≠ 0) : Entry (symsD d) Tryz.prog (.eql, u, .nat 0, .bool false) := by
  have := e_eql (P := Tryz.prog) d hu (natD_den (symsD d) 0)
  rwa [show Nat.beq n 0 = false from beq_f hn] at this
theorem hol_den {d : Nat → Nat} {n : Nat} (h : d 0 % 10 = n) (F : Env) : den (symsD d) F (.hol 2 0) = some (.int .i64 (n : Nat)) := by
  subst h
  exact holD_den d 0 F
theorem num_den {d : Nat → Nat} {n j D : Nat} (h : numD d j D = n) (h2 : 2 ≤ D) (h3 : D < 16) (F : Env) : den (symsD d) F (.sym (32 * j + 2 * D - 1)) = some (.int .i64 (n : Nat)) := by
  subst h
  have := vD_den d j D (by omega) h3 F
  unfold vD at this
  rwa [if_neg (by omega)] at this

theorem made0 {s : ByteArray} {w : World} (hs : s.data.toList = preC ++ (digL 0 ++ postC)) : Calls Tryz.prog 11 #[.string s] w fun e w1 => CallsMade w w1 0 e := by
  have ht : bytesOf noSyms 83 37413158971153021634465357676381387520504203038324096035984181900961704543983960935934726595833372361592350260585178083320166575340334764107187498062077990324927484742244558289786404121260847897013862 = preC ++ (digL 0 ++ postC) := by kernel_rfl
  exact made_of (ρ := noSyms) (x := .nat 0) (n := 0) (ocL_ok fun e he => by simp at he) (fun F => by simp [den]) ht hs stc0

theorem made1t (d : Nat → Nat) : bytesOf (symsD d) 83 37413158976722407154023701449136723953243816472031650366121584159969507910560224567781256608657972961345000895080591058873870685827015311862772749524788758537479015733763106476261336921654981432471142 = preC ++ ([UInt8.ofNat (48 + d 0 % 10)] ++ postC) := by kernel_rfl
theorem made1 {s : ByteArray} {w : World} {n : Nat} (h0 : 1 ≤ n) (h1 : n < 10) (hs : s.data.toList = preC ++ (digL n ++ postC)) : Calls Tryz.prog 11 #[.string s] w fun e w1 => CallsMade w w1 n e := by
  have hx := hol_den (d := dOf 1 n) (n := n) (by show n % 10 = n; omega)
  refine made_of (ρ := symsD (dOf 1 n)) (ocL_ok fun e he => ?_) hx ?_ hs stc1
  · rcases List.mem_append.1 he with he | he
    · exact entD_ok _ 0 1 (by decide) e he
    · simp only [List.mem_cons, List.not_mem_nil, or_false] at he
      rcases he with rfl | rfl
      · exact n_neq hx (by omega)
      · exact n_eql hx (by omega)
  · rw [made1t]
    have : [UInt8.ofNat (48 + dOf 1 n 0 % 10)] = digL n := by
      unfold digL
      rw [if_pos (by omega)]
      simp only [dOf, List.cons.injEq, and_true]
      all_goals (congr 1; omega)
    rw [this]

theorem made2t (d : Nat → Nat) : bytesOf (symsD d) 84 9577768698064867802755316227853007304622653879773793005843219490187952687549139525431523954376602731157502711812733741088857650140054883625483930470910173883756811794283614363939885357260808106618678886 = preC ++ ([UInt8.ofNat (48 + d 0 % 10), UInt8.ofNat (48 + d 1 % 10)] ++ postC) := by kernel_rfl
theorem made2 {s : ByteArray} {w : World} {n : Nat} (h0 : 10 ≤ n) (h1 : n < 100) (hs : s.data.toList = preC ++ (digL n ++ postC)) : Calls Tryz.prog 11 #[.string s] w fun e w1 => CallsMade w w1 n e := by
  have hx := num_den (d := dOf 2 n) (n := n) (j := 0) (D := 2) (by simp only [numD, dOf]; omega) (by decide) (by decide)
  refine made_of (ρ := symsD (dOf 2 n)) (ocL_ok fun e he => ?_) hx ?_ hs stc2
  · rcases List.mem_append.1 he with he | he
    · exact entD_ok _ 0 2 (by decide) e he
    · simp only [List.mem_cons, List.not_mem_nil, or_false] at he
      rcases he with rfl | rfl
      · exact n_neq hx (by omega)
      · exact n_eql hx (by omega)
  · rw [made2t]
    have : [UInt8.ofNat (48 + dOf 2 n 0 % 10), UInt8.ofNat (48 + dOf 2 n 1 % 10)] = digL n := by
      unfold digL
      rw [if_neg (by omega), if_pos (by omega)]
      simp only [dOf, List.cons.injEq, and_true]
      repeat' apply And.intro
      all_goals (congr 1; omega)
    rw [this]

theorem made3t (d : Nat → Nat) : bytesOf (symsD d) 85 2451908786709192529694308398205885047561691921409917928515228843363930839192924715713758331969476373640691248106510582458338299597733077876633875745143821427259628217291297530948987899514166882346534465126 = preC ++ ([UInt8.ofNat (48 + d 0 % 10), UInt8.ofNat (48 + d 1 % 10), UInt8.ofNat (48 + d 2 % 10)] ++ postC) := by kernel_rfl
theorem made3 {s : ByteArray} {w : World} {n : Nat} (h0 : 100 ≤ n) (h1 : n < 1000) (hs : s.data.toList = preC ++ (digL n ++ postC)) : Calls Tryz.prog 11 #[.string s] w fun e w1 => CallsMade w w1 n e := by
  have hx := num_den (d := dOf 3 n) (n := n) (j := 0) (D := 3) (by simp only [numD, dOf]; omega) (by decide) (by decide)
  refine made_of (ρ := symsD (dOf 3 n)) (ocL_ok fun e he => ?_) hx ?_ hs stc3
  · rcases List.mem_append.1 he with he | he
    · exact entD_ok _ 0 3 (by decide) e he
    · simp only [List.mem_cons, List.not_mem_nil, or_false] at he
      rcases he with rfl | rfl
      · exact n_neq hx (by omega)
      · exact n_eql hx (by omega)
  · rw [made3t]
    have : [UInt8.ofNat (48 + dOf 3 n 0 % 10), UInt8.ofNat (48 + dOf 3 n 1 % 10), UInt8.ofNat (48 + dOf 3 n 2 % 10)] = digL n := by
      unfold digL
      rw [if_neg (by omega), if_neg (by omega), if_pos (by omega)]
      simp only [dOf, List.cons.injEq, and_true]
      repeat' apply And.intro
      all_goals (congr 1; omega)
    rw [this]

theorem made4t (d : Nat → Nat) : bytesOf (symsD d) 86 627688649398725858772043179360554227284430698988299483116773579897270383069151286662730842594780531406178577147492492285325035606453083272495454292428961783589331594856719370813357507350903337680980106309222 = preC ++ ([UInt8.ofNat (48 + d 0 % 10), UInt8.ofNat (48 + d 1 % 10), UInt8.ofNat (48 + d 2 % 10), UInt8.ofNat (48 + d 3 % 10)] ++ postC) := by kernel_rfl
theorem made4 {s : ByteArray} {w : World} {n : Nat} (h0 : 1000 ≤ n) (h1 : n < 10000) (hs : s.data.toList = preC ++ (digL n ++ postC)) : Calls Tryz.prog 11 #[.string s] w fun e w1 => CallsMade w w1 n e := by
  have hx := num_den (d := dOf 4 n) (n := n) (j := 0) (D := 4) (by simp only [numD, dOf]; omega) (by decide) (by decide)
  refine made_of (ρ := symsD (dOf 4 n)) (ocL_ok fun e he => ?_) hx ?_ hs stc4
  · rcases List.mem_append.1 he with he | he
    · exact entD_ok _ 0 4 (by decide) e he
    · simp only [List.mem_cons, List.not_mem_nil, or_false] at he
      rcases he with rfl | rfl
      · exact n_neq hx (by omega)
      · exact n_eql hx (by omega)
  · rw [made4t]
    have : [UInt8.ofNat (48 + dOf 4 n 0 % 10), UInt8.ofNat (48 + dOf 4 n 1 % 10), UInt8.ofNat (48 + dOf 4 n 2 % 10), UInt8.ofNat (48 + dOf 4 n 3 % 10)] = digL n := by
      unfold digL
      rw [if_neg (by omega), if_neg (by omega), if_neg (by omega)]
      simp only [dOf, List.cons.injEq, and_true]
      repeat' apply And.intro
      all_goals (congr 1; omega)
    rw [this]

theorem calls_made {s : ByteArray} {w : World} {n : Nat} (h : n < 2000) (hs : s.data.toList = preC ++ (digL n ++ postC)) : Calls Tryz.prog 11 #[.string s] w fun e w1 => CallsMade w w1 n e := by
  by_cases h0 : n = 0
  · subst h0
    exact made0 hs
  by_cases h1 : n < 10
  · exact made1 (by omega) h1 hs
  by_cases h2 : n < 100
  · exact made2 (by omega) h2 hs
  by_cases h3 : n < 1000
  · exact made3 (by omega) h3 hs
  · exact made4 (by omega) (by omega) hs

end Go.Proofs.YtplnnlnkcfappaaGreat.Sv
