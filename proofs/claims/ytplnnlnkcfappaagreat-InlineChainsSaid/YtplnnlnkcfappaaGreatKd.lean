/- InlineChains: the rows of the lifted code of each text. (Printed by gen_ic.py.) -/
import Derived.Test.YtplnnlnkcfappaaGreatKc
namespace Go.Proofs.YtplnnlnkcfappaaGreat.Sv
open Go.RowKit E3
set_option maxRecDepth 10000000
set_option maxHeartbeats 0


theorem ocA_den {D : Nat} (F : Env) : den (symOne (D : Int)) F (.sym 0) = some (.int .i64 (D : Int)) := sym_den rfl
/-- what is known of a depth that is enough for n calls, but below 8 -/
noncomputable def ltsA (n : Nat) : List Known2 := Nat.rec (motive := fun _ => List Known2) [] (fun j l => (.lss, .nat j, .sym 0, .bool true) :: l) n
noncomputable def ocA (n : Nat) : List Known2 := (.mul, .nat 1, .sym 0, .sym 0) :: (.leq, .nat 0, .sym 0, .bool true) :: (.geq, .nat 8, .sym 0, .bool true) :: ltsA n
/-- what is known of a depth of 8 or more -/
noncomputable def ocB : List Known2 := [(.mul, .nat 1, .sym 0, .sym 0), (.leq, .nat 0, .sym 0, .bool true), (.leq, .nat 8, .sym 0, .bool true)]
theorem e_mul {D : Nat} (h : D < 16) : Entry (symOne (D : Int)) Tryz.prog (.mul, .nat 1, .sym 0, .sym 0) :=
  Entry.int (natD_den _ 1) ocA_den ocA_den fun w t => by
    rw [bin_mul]
    have : wrap64 (((1 : Nat) : Int) * (D : Int)) = (D : Int) := by
      rw [show ((1 : Nat) : Int) * (D : Int) = (D : Int) by simp]
      exact wrap_in (by omega) (by omega)
    rw [this]
theorem e_le0 {D : Nat} : Entry (symOne (D : Int)) Tryz.prog (.leq, .nat 0, .sym 0, .bool true) :=
  Entry.int (natD_den _ 0) ocA_den (c := .bool true) (fun F => by simp [den]) fun w t => by
    rw [bin_leq]
    simp
theorem e_ge8 {D : Nat} (h : D ≤ 8) : Entry (symOne (D : Int)) Tryz.prog (.geq, .nat 8, .sym 0, .bool true) :=
  Entry.int (natD_den _ 8) ocA_den (c := .bool true) (fun F => by simp [den]) fun w t => by
    rw [bin_geq]
    simp
    omega
theorem e_le8 {D : Nat} (h : 8 ≤ D) : Entry (symOne (D : Int)) Tryz.prog (.leq, .nat 8, .sym 0, .bool true) :=
  Entry.int (natD_den _ 8) ocA_den (c := .bool true) (fun F => by simp [den]) fun w t => by
    rw [bin_leq]
    simp
    omega
theorem e_lt {D j : Nat} (h : j < D) : Entry (symOne (D : Int)) Tryz.prog (.lss, .nat j, .sym 0, .bool true) :=
  Entry.int (natD_den _ j) ocA_den (c := .bool true) (fun F => by simp [den]) fun w t => by
    rw [bin_lss]
    simp
    omega
theorem ocA_ok {D n : Nat} (h : n ≤ D) (h8 : D ≤ 8) : OrcOk (symOne (D : Int)) Tryz.prog (ocL (ocA n)) := by
  refine ocL_ok fun e he => ?_
  have key : ∀ n, n ≤ D → ∀ e ∈ ltsA n, Entry (symOne (D : Int)) Tryz.prog e := by
    intro n
    induction n with
    | zero => intro _ e he; cases he
    | succ j ih =>
      intro hj e he
      rcases List.mem_cons.1 (show e ∈ (BinOp.lss, AV.nat j, AV.sym 0, AV.bool true) :: ltsA j from he) with rfl | he
      · exact e_lt hj
      · exact ih (by omega) e he
  rcases List.mem_cons.1 (show e ∈ (BinOp.mul, AV.nat 1, AV.sym 0, AV.sym 0) :: _ from he) with rfl | he
  · exact e_mul (by omega)
  rcases List.mem_cons.1 he with rfl | he
  · exact e_le0
  rcases List.mem_cons.1 he with rfl | he
  · exact e_ge8 h8
  · exact key n h e he
theorem ocB_ok {D : Nat} (h8 : 8 ≤ D) (h16 : D < 16) : OrcOk (symOne (D : Int)) Tryz.prog (ocL ocB) := by
  refine ocL_ok fun e he => ?_
  simp only [ocB, List.mem_cons, List.not_mem_nil, or_false] at he
  rcases he with rfl | rfl | rfl
  · exact e_mul h16
  · exact e_le0
  · exact e_le8 h8

noncomputable section
def nx1 : Nat := 914
def rt1 : AV := .agg [.sl 912 0 2 4, .nat 0]
def rs1 : List SR := [
  ⟨912, 36, 4, [.str 4 1852399981, .nat 0, .nat 1, .sl 752 0 1 5, .str 1 97, .nat 1, .nat 2, .sl 909 0 1 5]⟩,
  ⟨752, 41, 5, [.sl 747 0 3 12, .nat 3, .nat 0, .nat 0, .nat 0]⟩,
  ⟨909, 41, 5, [.sl 904 0 1 12, .nat 3, .nat 1, .nat 0, .nat 0]⟩,
  ⟨747, 102, 12, [.nat 1, .nat 0, .nat 0, .nat 0, .nat 0, .nat 0, .nat 1, .nat 5, cx0, .str 0 0, nilS, nilS, .nat 7, .nat 0, .nat 0, .nat 0, .nat 1, .nat 0, .nat 0, .nat 0, cx0, .str 0 0, nilS, nilS, .nat 5, .nat 0, .nat 0, .nat 0, .nat 1, .nat 0, .nat 0, .nat 0, cx0, .str 0 0, nilS, .sl 745 0 1 1]⟩,
  ⟨904, 102, 12, [.nat 2, .nat 1, .nat 0, .nat 0, .nat 0, .nat 0, .nat 0, .nat 0, cx0, .str 0 0, nilS, nilS]⟩,
  ⟨745, 3, 1, [.nat 0]⟩]
def tx1 : AV := .str 59 1547573550224335666556676986633459111873373593474586330940617637599054475471466572159904504828066571687292236449109166101280631340650756861542
def nx2 : Nat := 1695
def rt2 : AV := .agg [.sl 1693 0 3 4, .nat 0]
def rs2 : List SR := [
  ⟨1693, 36, 4, [.str 4 1852399981, .nat 0, .nat 1, .sl 1151 0 1 5, .str 1 97, .nat 1, .nat 3, .sl 1533 0 1 5, .str 1 98, .nat 1, .nat 2, .sl 1690 0 1 5]⟩,
  ⟨1151, 41, 5, [.sl 1146 0 3 12, .nat 3, .nat 0, .nat 0, .nat 0]⟩,
  ⟨1533, 41, 5, [.sl 1528 0 5 12, .nat 3, .nat 1, .nat 0, .nat 0]⟩,
  ⟨1690, 41, 5, [.sl 1685 0 1 12, .nat 3, .nat 1, .nat 0, .nat 0]⟩,
  ⟨1146, 102, 12, [.nat 1, .nat 0, .nat 0, .nat 0, .nat 0, .nat 0, .nat 1, .nat 5, cx0, .str 0 0, nilS, nilS, .nat 7, .nat 0, .nat 0, .nat 0, .nat 1, .nat 0, .nat 0, .nat 0, cx0, .str 0 0, nilS, nilS, .nat 5, .nat 0, .nat 0, .nat 0, .nat 1, .nat 0, .nat 0, .nat 0, cx0, .str 0 0, nilS, .sl 1144 0 1 1]⟩,
  ⟨1528, 102, 12, [.nat 2, .nat 1, .nat 0, .nat 0, .nat 0, .nat 0, .nat 0, .nat 0, cx0, .str 0 0, nilS, nilS, .nat 1, .nat 2, .nat 0, .nat 0, .nat 0, .nat 0, .nat 1, .nat 1, cx0, .str 0 0, nilS, nilS, .nat 3, .nat 1, .nat 1, .nat 2, .nat 1, .nat 0, .nat 0, .nat 0, cx0, .str 0 0, nilS, nilS, .nat 7, .nat 0, .nat 0, .nat 0, .nat 2, .nat 0, .nat 0, .nat 0, cx0, .str 0 0, nilS, nilS, .nat 5, .nat 1, .nat 0, .nat 0, .nat 2, .nat 0, .nat 0, .nat 0, cx0, .str 0 0, nilS, .sl 1526 0 1 1]⟩,
  ⟨1685, 102, 12, [.nat 2, .nat 1, .nat 0, .nat 0, .nat 0, .nat 0, .nat 0, .nat 0, cx0, .str 0 0, nilS, nilS]⟩,
  ⟨1144, 3, 1, [.nat 0]⟩,
  ⟨1526, 3, 1, [.nat 1]⟩]
def tx2 : AV := .str 95 769644286579750108277097893284787225359093594572728539011247461854535022377605695662121999078233920114628192697985978669786557517659858363102554342900636345530400399459649922442205960597437803153179551437575301349702450550959718
def nx3 : Nat := 2476
def rt3 : AV := .agg [.sl 2474 0 4 4, .nat 0]
def rs3 : List SR := [
  ⟨2474, 36, 4, [.str 4 1852399981, .nat 0, .nat 1, .sl 1550 0 1 5, .str 1 97, .nat 1, .nat 3, .sl 1932 0 1 5, .str 1 98, .nat 1, .nat 3, .sl 2314 0 1 5, .str 1 99, .nat 1, .nat 2, .sl 2471 0 1 5]⟩,
  ⟨1550, 41, 5, [.sl 1545 0 3 12, .nat 3, .nat 0, .nat 0, .nat 0]⟩,
  ⟨1932, 41, 5, [.sl 1927 0 5 12, .nat 3, .nat 1, .nat 0, .nat 0]⟩,
  ⟨2314, 41, 5, [.sl 2309 0 5 12, .nat 3, .nat 1, .nat 0, .nat 0]⟩,
  ⟨2471, 41, 5, [.sl 2466 0 1 12, .nat 3, .nat 1, .nat 0, .nat 0]⟩,
  ⟨1545, 102, 12, [.nat 1, .nat 0, .nat 0, .nat 0, .nat 0, .nat 0, .nat 1, .nat 5, cx0, .str 0 0, nilS, nilS, .nat 7, .nat 0, .nat 0, .nat 0, .nat 1, .nat 0, .nat 0, .nat 0, cx0, .str 0 0, nilS, nilS, .nat 5, .nat 0, .nat 0, .nat 0, .nat 1, .nat 0, .nat 0, .nat 0, cx0, .str 0 0, nilS, .sl 1543 0 1 1]⟩,
  ⟨1927, 102, 12, [.nat 2, .nat 1, .nat 0, .nat 0, .nat 0, .nat 0, .nat 0, .nat 0, cx0, .str 0 0, nilS, nilS, .nat 1, .nat 2, .nat 0, .nat 0, .nat 0, .nat 0, .nat 1, .nat 1, cx0, .str 0 0, nilS, nilS, .nat 3, .nat 1, .nat 1, .nat 2, .nat 1, .nat 0, .nat 0, .nat 0, cx0, .str 0 0, nilS, nilS, .nat 7, .nat 0, .nat 0, .nat 0, .nat 2, .nat 0, .nat 0, .nat 0, cx0, .str 0 0, nilS, nilS, .nat 5, .nat 1, .nat 0, .nat 0, .nat 2, .nat 0, .nat 0, .nat 0, cx0, .str 0 0, nilS, .sl 1925 0 1 1]⟩,
  ⟨2309, 102, 12, [.nat 2, .nat 1, .nat 0, .nat 0, .nat 0, .nat 0, .nat 0, .nat 0, cx0, .str 0 0, nilS, nilS, .nat 1, .nat 2, .nat 0, .nat 0, .nat 0, .nat 0, .nat 1, .nat 1, cx0, .str 0 0, nilS, nilS, .nat 3, .nat 1, .nat 1, .nat 2, .nat 1, .nat 0, .nat 0, .nat 0, cx0, .str 0 0, nilS, nilS, .nat 7, .nat 0, .nat 0, .nat 0, .nat 3, .nat 0, .nat 0, .nat 0, cx0, .str 0 0, nilS, nilS, .nat 5, .nat 1, .nat 0, .nat 0, .nat 3, .nat 0, .nat 0, .nat 0, cx0, .str 0 0, nilS, .sl 2307 0 1 1]⟩,
  ⟨2466, 102, 12, [.nat 2, .nat 1, .nat 0, .nat 0, .nat 0, .nat 0, .nat 0, .nat 0, cx0, .str 0 0, nilS, nilS]⟩,
  ⟨1543, 3, 1, [.nat 0]⟩,
  ⟨1925, 3, 1, [.nat 1]⟩,
  ⟨2307, 3, 1, [.nat 1]⟩]
def tx3 : AV := .str 131 382761987486142643771307230569299027517987013219142890494636684301770472358706879324070595986817379417649446713755650791943493673197092795517867863252497361967180442812899790209993711473355305320271623183063997494090554740974481273646478469837211123860936295849962256277634585705478742030714714491995207388075421286
def nx4 : Nat := 3257
def rt4 : AV := .agg [.sl 3255 0 5 4, .nat 0]
def rs4 : List SR := [
  ⟨3255, 36, 4, [.str 4 1852399981, .nat 0, .nat 1, .sl 1949 0 1 5, .str 1 97, .nat 1, .nat 3, .sl 2331 0 1 5, .str 1 98, .nat 1, .nat 3, .sl 2713 0 1 5, .str 1 99, .nat 1, .nat 3, .sl 3095 0 1 5, .str 1 100, .nat 1, .nat 2, .sl 3252 0 1 5]⟩,
  ⟨1949, 41, 5, [.sl 1944 0 3 12, .nat 3, .nat 0, .nat 0, .nat 0]⟩,
  ⟨2331, 41, 5, [.sl 2326 0 5 12, .nat 3, .nat 1, .nat 0, .nat 0]⟩,
  ⟨2713, 41, 5, [.sl 2708 0 5 12, .nat 3, .nat 1, .nat 0, .nat 0]⟩,
  ⟨3095, 41, 5, [.sl 3090 0 5 12, .nat 3, .nat 1, .nat 0, .nat 0]⟩,
  ⟨3252, 41, 5, [.sl 3247 0 1 12, .nat 3, .nat 1, .nat 0, .nat 0]⟩,
  ⟨1944, 102, 12, [.nat 1, .nat 0, .nat 0, .nat 0, .nat 0, .nat 0, .nat 1, .nat 5, cx0, .str 0 0, nilS, nilS, .nat 7, .nat 0, .nat 0, .nat 0, .nat 1, .nat 0, .nat 0, .nat 0, cx0, .str 0 0, nilS, nilS, .nat 5, .nat 0, .nat 0, .nat 0, .nat 1, .nat 0, .nat 0, .nat 0, cx0, .str 0 0, nilS, .sl 1942 0 1 1]⟩,
  ⟨2326, 102, 12, [.nat 2, .nat 1, .nat 0, .nat 0, .nat 0, .nat 0, .nat 0, .nat 0, cx0, .str 0 0, nilS, nilS, .nat 1, .nat 2, .nat 0, .nat 0, .nat 0, .nat 0, .nat 1, .nat 1, cx0, .str 0 0, nilS, nilS, .nat 3, .nat 1, .nat 1, .nat 2, .nat 1, .nat 0, .nat 0, .nat 0, cx0, .str 0 0, nilS, nilS, .nat 7, .nat 0, .nat 0, .nat 0, .nat 2, .nat 0, .nat 0, .nat 0, cx0, .str 0 0, nilS, nilS, .nat 5, .nat 1, .nat 0, .nat 0, .nat 2, .nat 0, .nat 0, .nat 0, cx0, .str 0 0, nilS, .sl 2324 0 1 1]⟩,
  ⟨2708, 102, 12, [.nat 2, .nat 1, .nat 0, .nat 0, .nat 0, .nat 0, .nat 0, .nat 0, cx0, .str 0 0, nilS, nilS, .nat 1, .nat 2, .nat 0, .nat 0, .nat 0, .nat 0, .nat 1, .nat 1, cx0, .str 0 0, nilS, nilS, .nat 3, .nat 1, .nat 1, .nat 2, .nat 1, .nat 0, .nat 0, .nat 0, cx0, .str 0 0, nilS, nilS, .nat 7, .nat 0, .nat 0, .nat 0, .nat 3, .nat 0, .nat 0, .nat 0, cx0, .str 0 0, nilS, nilS, .nat 5, .nat 1, .nat 0, .nat 0, .nat 3, .nat 0, .nat 0, .nat 0, cx0, .str 0 0, nilS, .sl 2706 0 1 1]⟩,
  ⟨3090, 102, 12, [.nat 2, .nat 1, .nat 0, .nat 0, .nat 0, .nat 0, .nat 0, .nat 0, cx0, .str 0 0, nilS, nilS, .nat 1, .nat 2, .nat 0, .nat 0, .nat 0, .nat 0, .nat 1, .nat 1, cx0, .str 0 0, nilS, nilS, .nat 3, .nat 1, .nat 1, .nat 2, .nat 1, .nat 0, .nat 0, .nat 0, cx0, .str 0 0, nilS, nilS, .nat 7, .nat 0, .nat 0, .nat 0, .nat 4, .nat 0, .nat 0, .nat 0, cx0, .str 0 0, nilS, nilS, .nat 5, .nat 1, .nat 0, .nat 0, .nat 4, .nat 0, .nat 0, .nat 0, cx0, .str 0 0, nilS, .sl 3088 0 1 1]⟩,
  ⟨3247, 102, 12, [.nat 2, .nat 1, .nat 0, .nat 0, .nat 0, .nat 0, .nat 0, .nat 0, cx0, .str 0 0, nilS, nilS]⟩,
  ⟨1942, 3, 1, [.nat 0]⟩,
  ⟨2324, 3, 1, [.nat 1]⟩,
  ⟨2706, 3, 1, [.nat 1]⟩,
  ⟨3088, 3, 1, [.nat 1]⟩]
def tx4 : AV := .str 167 190356430391250714354608589501710269981295809037816975814395981377481271433476427839125471542806833733816580850833564600396789404195822965063581043527588136439468839248785945284824854028260102785023793594915121965870579564008341328561450689390336876853565407601650589047974831605384039269840480608726653268792026361777612632109081906051533926226509017028248845920181517739245290757581724935882176228966
def nx5 : Nat := 4038
def rt5 : AV := .agg [.sl 4036 0 6 4, .nat 0]
def rs5 : List SR := [
  ⟨4036, 36, 4, [.str 4 1852399981, .nat 0, .nat 1, .sl 2348 0 1 5, .str 1 97, .nat 1, .nat 3, .sl 2730 0 1 5, .str 1 98, .nat 1, .nat 3, .sl 3112 0 1 5, .str 1 99, .nat 1, .nat 3, .sl 3494 0 1 5, .str 1 100, .nat 1, .nat 3, .sl 3876 0 1 5, .str 1 101, .nat 1, .nat 2, .sl 4033 0 1 5]⟩,
  ⟨2348, 41, 5, [.sl 2343 0 3 12, .nat 3, .nat 0, .nat 0, .nat 0]⟩,
  ⟨2730, 41, 5, [.sl 2725 0 5 12, .nat 3, .nat 1, .nat 0, .nat 0]⟩,
  ⟨3112, 41, 5, [.sl 3107 0 5 12, .nat 3, .nat 1, .nat 0, .nat 0]⟩,
  ⟨3494, 41, 5, [.sl 3489 0 5 12, .nat 3, .nat 1, .nat 0, .nat 0]⟩,
  ⟨3876, 41, 5, [.sl 3871 0 5 12, .nat 3, .nat 1, .nat 0, .nat 0]⟩,
  ⟨4033, 41, 5, [.sl 4028 0 1 12, .nat 3, .nat 1, .nat 0, .nat 0]⟩,
  ⟨2343, 102, 12, [.nat 1, .nat 0, .nat 0, .nat 0, .nat 0, .nat 0, .nat 1, .nat 5, cx0, .str 0 0, nilS, nilS, .nat 7, .nat 0, .nat 0, .nat 0, .nat 1, .nat 0, .nat 0, .nat 0, cx0, .str 0 0, nilS, nilS, .nat 5, .nat 0, .nat 0, .nat 0, .nat 1, .nat 0, .nat 0, .nat 0, cx0, .str 0 0, nilS, .sl 2341 0 1 1]⟩,
  ⟨2725, 102, 12, [.nat 2, .nat 1, .nat 0, .nat 0, .nat 0, .nat 0, .nat 0, .nat 0, cx0, .str 0 0, nilS, nilS, .nat 1, .nat 2, .nat 0, .nat 0, .nat 0, .nat 0, .nat 1, .nat 1, cx0, .str 0 0, nilS, nilS, .nat 3, .nat 1, .nat 1, .nat 2, .nat 1, .nat 0, .nat 0, .nat 0, cx0, .str 0 0, nilS, nilS, .nat 7, .nat 0, .nat 0, .nat 0, .nat 2, .nat 0, .nat 0, .nat 0, cx0, .str 0 0, nilS, nilS, .nat 5, .nat 1, .nat 0, .nat 0, .nat 2, .nat 0, .nat 0, .nat 0, cx0, .str 0 0, nilS, .sl 2723 0 1 1]⟩,
  ⟨3107, 102, 12, [.nat 2, .nat 1, .nat 0, .nat 0, .nat 0, .nat 0, .nat 0, .nat 0, cx0, .str 0 0, nilS, nilS, .nat 1, .nat 2, .nat 0, .nat 0, .nat 0, .nat 0, .nat 1, .nat 1, cx0, .str 0 0, nilS, nilS, .nat 3, .nat 1, .nat 1, .nat 2, .nat 1, .nat 0, .nat 0, .nat 0, cx0, .str 0 0, nilS, nilS, .nat 7, .nat 0, .nat 0, .nat 0, .nat 3, .nat 0, .nat 0, .nat 0, cx0, .str 0 0, nilS, nilS, .nat 5, .nat 1, .nat 0, .nat 0, .nat 3, .nat 0, .nat 0, .nat 0, cx0, .str 0 0, nilS, .sl 3105 0 1 1]⟩,
  ⟨3489, 102, 12, [.nat 2, .nat 1, .nat 0, .nat 0, .nat 0, .nat 0, .nat 0, .nat 0, cx0, .str 0 0, nilS, nilS, .nat 1, .nat 2, .nat 0, .nat 0, .nat 0, .nat 0, .nat 1, .nat 1, cx0, .str 0 0, nilS, nilS, .nat 3, .nat 1, .nat 1, .nat 2, .nat 1, .nat 0, .nat 0, .nat 0, cx0, .str 0 0, nilS, nilS, .nat 7, .nat 0, .nat 0, .nat 0, .nat 4, .nat 0, .nat 0, .nat 0, cx0, .str 0 0, nilS, nilS, .nat 5, .nat 1, .nat 0, .nat 0, .nat 4, .nat 0, .nat 0, .nat 0, cx0, .str 0 0, nilS, .sl 3487 0 1 1]⟩,
  ⟨3871, 102, 12, [.nat 2, .nat 1, .nat 0, .nat 0, .nat 0, .nat 0, .nat 0, .nat 0, cx0, .str 0 0, nilS, nilS, .nat 1, .nat 2, .nat 0, .nat 0, .nat 0, .nat 0, .nat 1, .nat 1, cx0, .str 0 0, nilS, nilS, .nat 3, .nat 1, .nat 1, .nat 2, .nat 1, .nat 0, .nat 0, .nat 0, cx0, .str 0 0, nilS, nilS, .nat 7, .nat 0, .nat 0, .nat 0, .nat 5, .nat 0, .nat 0, .nat 0, cx0, .str 0 0, nilS, nilS, .nat 5, .nat 1, .nat 0, .nat 0, .nat 5, .nat 0, .nat 0, .nat 0, cx0, .str 0 0, nilS, .sl 3869 0 1 1]⟩,
  ⟨4028, 102, 12, [.nat 2, .nat 1, .nat 0, .nat 0, .nat 0, .nat 0, .nat 0, .nat 0, cx0, .str 0 0, nilS, nilS]⟩,
  ⟨2341, 3, 1, [.nat 0]⟩,
  ⟨2723, 3, 1, [.nat 1]⟩,
  ⟨3105, 3, 1, [.nat 1]⟩,
  ⟨3487, 3, 1, [.nat 1]⟩,
  ⟨3869, 3, 1, [.nat 1]⟩]
def tx5 : AV := .str 203 94668676033591073772860981763258776674386380622130735510080816178493393995131317364043941172599667624692479606173505316039698420367868996552572798186816661828974277479629185400747388832650607413978877914815483167564827868085383807794155490089174915800215604519926091581467929972140120361146671487581765191423286104915279533046496154657520403137328750177639922710895883641608281812231095305416385297566267527029597924538167589184912157305079608505056633713875435054099985993991412426763878
def nx6 : Nat := 4819
def rt6 : AV := .agg [.sl 4817 0 7 4, .nat 0]
def rs6 : List SR := [
  ⟨4817, 36, 4, [.str 4 1852399981, .nat 0, .nat 1, .sl 2747 0 1 5, .str 1 97, .nat 1, .nat 3, .sl 3129 0 1 5, .str 1 98, .nat 1, .nat 3, .sl 3511 0 1 5, .str 1 99, .nat 1, .nat 3, .sl 3893 0 1 5, .str 1 100, .nat 1, .nat 3, .sl 4275 0 1 5, .str 1 101, .nat 1, .nat 3, .sl 4657 0 1 5, .str 1 102, .nat 1, .nat 2, .sl 4814 0 1 5]⟩,
  ⟨2747, 41, 5, [.sl 2742 0 3 12, .nat 3, .nat 0, .nat 0, .nat 0]⟩,
  ⟨3129, 41, 5, [.sl 3124 0 5 12, .nat 3, .nat 1, .nat 0, .nat 0]⟩,
  ⟨3511, 41, 5, [.sl 3506 0 5 12, .nat 3, .nat 1, .nat 0, .nat 0]⟩,
  ⟨3893, 41, 5, [.sl 3888 0 5 12, .nat 3, .nat 1, .nat 0, .nat 0]⟩,
  ⟨4275, 41, 5, [.sl 4270 0 5 12, .nat 3, .nat 1, .nat 0, .nat 0]⟩,
  ⟨4657, 41, 5, [.sl 4652 0 5 12, .nat 3, .nat 1, .nat 0, .nat 0]⟩,
  ⟨4814, 41, 5, [.sl 4809 0 1 12, .nat 3, .nat 1, .nat 0, .nat 0]⟩,
  ⟨2742, 102, 12, [.nat 1, .nat 0, .nat 0, .nat 0, .nat 0, .nat 0, .nat 1, .nat 5, cx0, .str 0 0, nilS, nilS, .nat 7, .nat 0, .nat 0, .nat 0, .nat 1, .nat 0, .nat 0, .nat 0, cx0, .str 0 0, nilS, nilS, .nat 5, .nat 0, .nat 0, .nat 0, .nat 1, .nat 0, .nat 0, .nat 0, cx0, .str 0 0, nilS, .sl 2740 0 1 1]⟩,
  ⟨3124, 102, 12, [.nat 2, .nat 1, .nat 0, .nat 0, .nat 0, .nat 0, .nat 0, .nat 0, cx0, .str 0 0, nilS, nilS, .nat 1, .nat 2, .nat 0, .nat 0, .nat 0, .nat 0, .nat 1, .nat 1, cx0, .str 0 0, nilS, nilS, .nat 3, .nat 1, .nat 1, .nat 2, .nat 1, .nat 0, .nat 0, .nat 0, cx0, .str 0 0, nilS, nilS, .nat 7, .nat 0, .nat 0, .nat 0, .nat 2, .nat 0, .nat 0, .nat 0, cx0, .str 0 0, nilS, nilS, .nat 5, .nat 1, .nat 0, .nat 0, .nat 2, .nat 0, .nat 0, .nat 0, cx0, .str 0 0, nilS, .sl 3122 0 1 1]⟩,
  ⟨3506, 102, 12, [.nat 2, .nat 1, .nat 0, .nat 0, .nat 0, .nat 0, .nat 0, .nat 0, cx0, .str 0 0, nilS, nilS, .nat 1, .nat 2, .nat 0, .nat 0, .nat 0, .nat 0, .nat 1, .nat 1, cx0, .str 0 0, nilS, nilS, .nat 3, .nat 1, .nat 1, .nat 2, .nat 1, .nat 0, .nat 0, .nat 0, cx0, .str 0 0, nilS, nilS, .nat 7, .nat 0, .nat 0, .nat 0, .nat 3, .nat 0, .nat 0, .nat 0, cx0, .str 0 0, nilS, nilS, .nat 5, .nat 1, .nat 0, .nat 0, .nat 3, .nat 0, .nat 0, .nat 0, cx0, .str 0 0, nilS, .sl 3504 0 1 1]⟩,
  ⟨3888, 102, 12, [.nat 2, .nat 1, .nat 0, .nat 0, .nat 0, .nat 0, .nat 0, .nat 0, cx0, .str 0 0, nilS, nilS, .nat 1, .nat 2, .nat 0, .nat 0, .nat 0, .nat 0, .nat 1, .nat 1, cx0, .str 0 0, nilS, nilS, .nat 3, .nat 1, .nat 1, .nat 2, .nat 1, .nat 0, .nat 0, .nat 0, cx0, .str 0 0, nilS, nilS, .nat 7, .nat 0, .nat 0, .nat 0, .nat 4, .nat 0, .nat 0, .nat 0, cx0, .str 0 0, nilS, nilS, .nat 5, .nat 1, .nat 0, .nat 0, .nat 4, .nat 0, .nat 0, .nat 0, cx0, .str 0 0, nilS, .sl 3886 0 1 1]⟩,
  ⟨4270, 102, 12, [.nat 2, .nat 1, .nat 0, .nat 0, .nat 0, .nat 0, .nat 0, .nat 0, cx0, .str 0 0, nilS, nilS, .nat 1, .nat 2, .nat 0, .nat 0, .nat 0, .nat 0, .nat 1, .nat 1, cx0, .str 0 0, nilS, nilS, .nat 3, .nat 1, .nat 1, .nat 2, .nat 1, .nat 0, .nat 0, .nat 0, cx0, .str 0 0, nilS, nilS, .nat 7, .nat 0, .nat 0, .nat 0, .nat 5, .nat 0, .nat 0, .nat 0, cx0, .str 0 0, nilS, nilS, .nat 5, .nat 1, .nat 0, .nat 0, .nat 5, .nat 0, .nat 0, .nat 0, cx0, .str 0 0, nilS, .sl 4268 0 1 1]⟩,
  ⟨4652, 102, 12, [.nat 2, .nat 1, .nat 0, .nat 0, .nat 0, .nat 0, .nat 0, .nat 0, cx0, .str 0 0, nilS, nilS, .nat 1, .nat 2, .nat 0, .nat 0, .nat 0, .nat 0, .nat 1, .nat 1, cx0, .str 0 0, nilS, nilS, .nat 3, .nat 1, .nat 1, .nat 2, .nat 1, .nat 0, .nat 0, .nat 0, cx0, .str 0 0, nilS, nilS, .nat 7, .nat 0, .nat 0, .nat 0, .nat 6, .nat 0, .nat 0, .nat 0, cx0, .str 0 0, nilS, nilS, .nat 5, .nat 1, .nat 0, .nat 0, .nat 6, .nat 0, .nat 0, .nat 0, cx0, .str 0 0, nilS, .sl 4650 0 1 1]⟩,
  ⟨4809, 102, 12, [.nat 2, .nat 1, .nat 0, .nat 0, .nat 0, .nat 0, .nat 0, .nat 0, cx0, .str 0 0, nilS, nilS]⟩,
  ⟨2740, 3, 1, [.nat 0]⟩,
  ⟨3122, 3, 1, [.nat 1]⟩,
  ⟨3504, 3, 1, [.nat 1]⟩,
  ⟨3886, 3, 1, [.nat 1]⟩,
  ⟨4268, 3, 1, [.nat 1]⟩,
  ⟨4650, 3, 1, [.nat 1]⟩]
def tx6 : AV := .str 239 47080932351655116378534949462378252272706947396861726704924746231774015564569033003705148423881179519129699317296883402631743500288894202298178150635545128536472368098901403315019912405588907623585111247983864823012019631328451348673659983462990391391473771804817147430420405154960687288706371469076359907260048484217133009481265785034198348963863423030882803723531318117174029076662663280077810191910798129302512352318969984982808601148998409398167025507433606706215013813899177728530136808007867932613337498945038266541631884830748109644661209042286212672702483087784701542
def nx7 : Nat := 5600
def rt7 : AV := .agg [.sl 5598 0 8 4, .nat 0]
def rs7 : List SR := [
  ⟨5598, 36, 4, [.str 4 1852399981, .nat 0, .nat 1, .sl 3146 0 1 5, .str 1 97, .nat 1, .nat 3, .sl 3528 0 1 5, .str 1 98, .nat 1, .nat 3, .sl 3910 0 1 5, .str 1 99, .nat 1, .nat 3, .sl 4292 0 1 5, .str 1 100, .nat 1, .nat 3, .sl 4674 0 1 5, .str 1 101, .nat 1, .nat 3, .sl 5056 0 1 5, .str 1 102, .nat 1, .nat 3, .sl 5438 0 1 5, .str 1 103, .nat 1, .nat 2, .sl 5595 0 1 5]⟩,
  ⟨3146, 41, 5, [.sl 3141 0 3 12, .nat 3, .nat 0, .nat 0, .nat 0]⟩,
  ⟨3528, 41, 5, [.sl 3523 0 5 12, .nat 3, .nat 1, .nat 0, .nat 0]⟩,
  ⟨3910, 41, 5, [.sl 3905 0 5 12, .nat 3, .nat 1, .nat 0, .nat 0]⟩,
  ⟨4292, 41, 5, [.sl 4287 0 5 12, .nat 3, .nat 1, .nat 0, .nat 0]⟩,
  ⟨4674, 41, 5, [.sl 4669 0 5 12, .nat 3, .nat 1, .nat 0, .nat 0]⟩,
  ⟨5056, 41, 5, [.sl 5051 0 5 12, .nat 3, .nat 1, .nat 0, .nat 0]⟩,
  ⟨5438, 41, 5, [.sl 5433 0 5 12, .nat 3, .nat 1, .nat 0, .nat 0]⟩,
  ⟨5595, 41, 5, [.sl 5590 0 1 12, .nat 3, .nat 1, .nat 0, .nat 0]⟩,
  ⟨3141, 102, 12, [.nat 1, .nat 0, .nat 0, .nat 0, .nat 0, .nat 0, .nat 1, .nat 5, cx0, .str 0 0, nilS, nilS, .nat 7, .nat 0, .nat 0, .nat 0, .nat 1, .nat 0, .nat 0, .nat 0, cx0, .str 0 0, nilS, nilS, .nat 5, .nat 0, .nat 0, .nat 0, .nat 1, .nat 0, .nat 0, .nat 0, cx0, .str 0 0, nilS, .sl 3139 0 1 1]⟩,
  ⟨3523, 102, 12, [.nat 2, .nat 1, .nat 0, .nat 0, .nat 0, .nat 0, .nat 0, .nat 0, cx0, .str 0 0, nilS, nilS, .nat 1, .nat 2, .nat 0, .nat 0, .nat 0, .nat 0, .nat 1, .nat 1, cx0, .str 0 0, nilS, nilS, .nat 3, .nat 1, .nat 1, .nat 2, .nat 1, .nat 0, .nat 0, .nat 0, cx0, .str 0 0, nilS, nilS, .nat 7, .nat 0, .nat 0, .nat 0, .nat 2, .nat 0, .nat 0, .nat 0, cx0, .str 0 0, nilS, nilS, .nat 5, .nat 1, .nat 0, .nat 0, .nat 2, .nat 0, .nat 0, .nat 0, cx0, .str 0 0, nilS, .sl 3521 0 1 1]⟩,
  ⟨3905, 102, 12, [.nat 2, .nat 1, .nat 0, .nat 0, .nat 0, .nat 0, .nat 0, .nat 0, cx0, .str 0 0, nilS, nilS, .nat 1, .nat 2, .nat 0, .nat 0, .nat 0, .nat 0, .nat 1, .nat 1, cx0, .str 0 0, nilS, nilS, .nat 3, .nat 1, .nat 1, .nat 2, .nat 1, .nat 0, .nat 0, .nat 0, cx0, .str 0 0, nilS, nilS, .nat 7, .nat 0, .nat 0, .nat 0, .nat 3, .nat 0, .nat 0, .nat 0, cx0, .str 0 0, nilS, nilS, .nat 5, .nat 1, .nat 0, .nat 0, .nat 3, .nat 0, .nat 0, .nat 0, cx0, .str 0 0, nilS, .sl 3903 0 1 1]⟩,
  ⟨4287, 102, 12, [.nat 2, .nat 1, .nat 0, .nat 0, .nat 0, .nat 0, .nat 0, .nat 0, cx0, .str 0 0, nilS, nilS, .nat 1, .nat 2, .nat 0, .nat 0, .nat 0, .nat 0, .nat 1, .nat 1, cx0, .str 0 0, nilS, nilS, .nat 3, .nat 1, .nat 1, .nat 2, .nat 1, .nat 0, .nat 0, .nat 0, cx0, .str 0 0, nilS, nilS, .nat 7, .nat 0, .nat 0, .nat 0, .nat 4, .nat 0, .nat 0, .nat 0, cx0, .str 0 0, nilS, nilS, .nat 5, .nat 1, .nat 0, .nat 0, .nat 4, .nat 0, .nat 0, .nat 0, cx0, .str 0 0, nilS, .sl 4285 0 1 1]⟩,
  ⟨4669, 102, 12, [.nat 2, .nat 1, .nat 0, .nat 0, .nat 0, .nat 0, .nat 0, .nat 0, cx0, .str 0 0, nilS, nilS, .nat 1, .nat 2, .nat 0, .nat 0, .nat 0, .nat 0, .nat 1, .nat 1, cx0, .str 0 0, nilS, nilS, .nat 3, .nat 1, .nat 1, .nat 2, .nat 1, .nat 0, .nat 0, .nat 0, cx0, .str 0 0, nilS, nilS, .nat 7, .nat 0, .nat 0, .nat 0, .nat 5, .nat 0, .nat 0, .nat 0, cx0, .str 0 0, nilS, nilS, .nat 5, .nat 1, .nat 0, .nat 0, .nat 5, .nat 0, .nat 0, .nat 0, cx0, .str 0 0, nilS, .sl 4667 0 1 1]⟩,
  ⟨5051, 102, 12, [.nat 2, .nat 1, .nat 0, .nat 0, .nat 0, .nat 0, .nat 0, .nat 0, cx0, .str 0 0, nilS, nilS, .nat 1, .nat 2, .nat 0, .nat 0, .nat 0, .nat 0, .nat 1, .nat 1, cx0, .str 0 0, nilS, nilS, .nat 3, .nat 1, .nat 1, .nat 2, .nat 1, .nat 0, .nat 0, .nat 0, cx0, .str 0 0, nilS, nilS, .nat 7, .nat 0, .nat 0, .nat 0, .nat 6, .nat 0, .nat 0, .nat 0, cx0, .str 0 0, nilS, nilS, .nat 5, .nat 1, .nat 0, .nat 0, .nat 6, .nat 0, .nat 0, .nat 0, cx0, .str 0 0, nilS, .sl 5049 0 1 1]⟩,
  ⟨5433, 102, 12, [.nat 2, .nat 1, .nat 0, .nat 0, .nat 0, .nat 0, .nat 0, .nat 0, cx0, .str 0 0, nilS, nilS, .nat 1, .nat 2, .nat 0, .nat 0, .nat 0, .nat 0, .nat 1, .nat 1, cx0, .str 0 0, nilS, nilS, .nat 3, .nat 1, .nat 1, .nat 2, .nat 1, .nat 0, .nat 0, .nat 0, cx0, .str 0 0, nilS, nilS, .nat 7, .nat 0, .nat 0, .nat 0, .nat 7, .nat 0, .nat 0, .nat 0, cx0, .str 0 0, nilS, nilS, .nat 5, .nat 1, .nat 0, .nat 0, .nat 7, .nat 0, .nat 0, .nat 0, cx0, .str 0 0, nilS, .sl 5431 0 1 1]⟩,
  ⟨5590, 102, 12, [.nat 2, .nat 1, .nat 0, .nat 0, .nat 0, .nat 0, .nat 0, .nat 0, cx0, .str 0 0, nilS, nilS]⟩,
  ⟨3139, 3, 1, [.nat 0]⟩,
  ⟨3521, 3, 1, [.nat 1]⟩,
  ⟨3903, 3, 1, [.nat 1]⟩,
  ⟨4285, 3, 1, [.nat 1]⟩,
  ⟨4667, 3, 1, [.nat 1]⟩,
  ⟨5049, 3, 1, [.nat 1]⟩,
  ⟨5431, 3, 1, [.nat 1]⟩]
def tx7 : AV := .str 275 23414441650315349611259056402254011040295791102773074979414694088576780268035039082812858665880802201465502770355847746533148356114126995136559881557242945085601587102217487689448962445892204263444706993629023884476881786552089082588482211750786293911845463460112718184977859429489532451394765019399419322010866835881955097458569745746516250698583562545742620552676521675844144636683589501555573174344553111317634303365476592521928772387035873924302448814726278049564446340785302468962689759701191461702928804075135304967861840466043130337655583454398605719560466493869873294167182106498998692869281111969381424276333390955391099772249730030574933520892471307878
def nx8 : Nat := 6381
def rt8 : AV := .agg [.sl 6379 0 9 4, .nat 0]
def rs8 : List SR := [
  ⟨6379, 36, 4, [.str 4 1852399981, .nat 0, .nat 1, .sl 3545 0 1 5, .str 1 97, .nat 1, .nat 3, .sl 3927 0 1 5, .str 1 98, .nat 1, .nat 3, .sl 4309 0 1 5, .str 1 99, .nat 1, .nat 3, .sl 4691 0 1 5, .str 1 100, .nat 1, .nat 3, .sl 5073 0 1 5, .str 1 101, .nat 1, .nat 3, .sl 5455 0 1 5, .str 1 102, .nat 1, .nat 3, .sl 5837 0 1 5, .str 1 103, .nat 1, .nat 3, .sl 6219 0 1 5, .str 1 104, .nat 1, .nat 2, .sl 6376 0 1 5]⟩,
  ⟨3545, 41, 5, [.sl 3540 0 3 12, .nat 3, .nat 0, .nat 0, .nat 0]⟩,
  ⟨3927, 41, 5, [.sl 3922 0 5 12, .nat 3, .nat 1, .nat 0, .nat 0]⟩,
  ⟨4309, 41, 5, [.sl 4304 0 5 12, .nat 3, .nat 1, .nat 0, .nat 0]⟩,
  ⟨4691, 41, 5, [.sl 4686 0 5 12, .nat 3, .nat 1, .nat 0, .nat 0]⟩,
  ⟨5073, 41, 5, [.sl 5068 0 5 12, .nat 3, .nat 1, .nat 0, .nat 0]⟩,
  ⟨5455, 41, 5, [.sl 5450 0 5 12, .nat 3, .nat 1, .nat 0, .nat 0]⟩,
  ⟨5837, 41, 5, [.sl 5832 0 5 12, .nat 3, .nat 1, .nat 0, .nat 0]⟩,
  ⟨6219, 41, 5, [.sl 6214 0 5 12, .nat 3, .nat 1, .nat 0, .nat 0]⟩,
  ⟨6376, 41, 5, [.sl 6371 0 1 12, .nat 3, .nat 1, .nat 0, .nat 0]⟩,
  ⟨3540, 102, 12, [.nat 1, .nat 0, .nat 0, .nat 0, .nat 0, .nat 0, .nat 1, .nat 5, cx0, .str 0 0, nilS, nilS, .nat 7, .nat 0, .nat 0, .nat 0, .nat 1, .nat 0, .nat 0, .nat 0, cx0, .str 0 0, nilS, nilS, .nat 5, .nat 0, .nat 0, .nat 0, .nat 1, .nat 0, .nat 0, .nat 0, cx0, .str 0 0, nilS, .sl 3538 0 1 1]⟩,
  ⟨3922, 102, 12, [.nat 2, .nat 1, .nat 0, .nat 0, .nat 0, .nat 0, .nat 0, .nat 0, cx0, .str 0 0, nilS, nilS, .nat 1, .nat 2, .nat 0, .nat 0, .nat 0, .nat 0, .nat 1, .nat 1, cx0, .str 0 0, nilS, nilS, .nat 3, .nat 1, .nat 1, .nat 2, .nat 1, .nat 0, .nat 0, .nat 0, cx0, .str 0 0, nilS, nilS, .nat 7, .nat 0, .nat 0, .nat 0, .nat 2, .nat 0, .nat 0, .nat 0, cx0, .str 0 0, nilS, nilS, .nat 5, .nat 1, .nat 0, .nat 0, .nat 2, .nat 0, .nat 0, .nat 0, cx0, .str 0 0, nilS, .sl 3920 0 1 1]⟩,
  ⟨4304, 102, 12, [.nat 2, .nat 1, .nat 0, .nat 0, .nat 0, .nat 0, .nat 0, .nat 0, cx0, .str 0 0, nilS, nilS, .nat 1, .nat 2, .nat 0, .nat 0, .nat 0, .nat 0, .nat 1, .nat 1, cx0, .str 0 0, nilS, nilS, .nat 3, .nat 1, .nat 1, .nat 2, .nat 1, .nat 0, .nat 0, .nat 0, cx0, .str 0 0, nilS, nilS, .nat 7, .nat 0, .nat 0, .nat 0, .nat 3, .nat 0, .nat 0, .nat 0, cx0, .str 0 0, nilS, nilS, .nat 5, .nat 1, .nat 0, .nat 0, .nat 3, .nat 0, .nat 0, .nat 0, cx0, .str 0 0, nilS, .sl 4302 0 1 1]⟩,
  ⟨4686, 102, 12, [.nat 2, .nat 1, .nat 0, .nat 0, .nat 0, .nat 0, .nat 0, .nat 0, cx0, .str 0 0, nilS, nilS, .nat 1, .nat 2, .nat 0, .nat 0, .nat 0, .nat 0, .nat 1, .nat 1, cx0, .str 0 0, nilS, nilS, .nat 3, .nat 1, .nat 1, .nat 2, .nat 1, .nat 0, .nat 0, .nat 0, cx0, .str 0 0, nilS, nilS, .nat 7, .nat 0, .nat 0, .nat 0, .nat 4, .nat 0, .nat 0, .nat 0, cx0, .str 0 0, nilS, nilS, .nat 5, .nat 1, .nat 0, .nat 0, .nat 4, .nat 0, .nat 0, .nat 0, cx0, .str 0 0, nilS, .sl 4684 0 1 1]⟩,
  ⟨5068, 102, 12, [.nat 2, .nat 1, .nat 0, .nat 0, .nat 0, .nat 0, .nat 0, .nat 0, cx0, .str 0 0, nilS, nilS, .nat 1, .nat 2, .nat 0, .nat 0, .nat 0, .nat 0, .nat 1, .nat 1, cx0, .str 0 0, nilS, nilS, .nat 3, .nat 1, .nat 1, .nat 2, .nat 1, .nat 0, .nat 0, .nat 0, cx0, .str 0 0, nilS, nilS, .nat 7, .nat 0, .nat 0, .nat 0, .nat 5, .nat 0, .nat 0, .nat 0, cx0, .str 0 0, nilS, nilS, .nat 5, .nat 1, .nat 0, .nat 0, .nat 5, .nat 0, .nat 0, .nat 0, cx0, .str 0 0, nilS, .sl 5066 0 1 1]⟩,
  ⟨5450, 102, 12, [.nat 2, .nat 1, .nat 0, .nat 0, .nat 0, .nat 0, .nat 0, .nat 0, cx0, .str 0 0, nilS, nilS, .nat 1, .nat 2, .nat 0, .nat 0, .nat 0, .nat 0, .nat 1, .nat 1, cx0, .str 0 0, nilS, nilS, .nat 3, .nat 1, .nat 1, .nat 2, .nat 1, .nat 0, .nat 0, .nat 0, cx0, .str 0 0, nilS, nilS, .nat 7, .nat 0, .nat 0, .nat 0, .nat 6, .nat 0, .nat 0, .nat 0, cx0, .str 0 0, nilS, nilS, .nat 5, .nat 1, .nat 0, .nat 0, .nat 6, .nat 0, .nat 0, .nat 0, cx0, .str 0 0, nilS, .sl 5448 0 1 1]⟩,
  ⟨5832, 102, 12, [.nat 2, .nat 1, .nat 0, .nat 0, .nat 0, .nat 0, .nat 0, .nat 0, cx0, .str 0 0, nilS, nilS, .nat 1, .nat 2, .nat 0, .nat 0, .nat 0, .nat 0, .nat 1, .nat 1, cx0, .str 0 0, nilS, nilS, .nat 3, .nat 1, .nat 1, .nat 2, .nat 1, .nat 0, .nat 0, .nat 0, cx0, .str 0 0, nilS, nilS, .nat 7, .nat 0, .nat 0, .nat 0, .nat 7, .nat 0, .nat 0, .nat 0, cx0, .str 0 0, nilS, nilS, .nat 5, .nat 1, .nat 0, .nat 0, .nat 7, .nat 0, .nat 0, .nat 0, cx0, .str 0 0, nilS, .sl 5830 0 1 1]⟩,
  ⟨6214, 102, 12, [.nat 2, .nat 1, .nat 0, .nat 0, .nat 0, .nat 0, .nat 0, .nat 0, cx0, .str 0 0, nilS, nilS, .nat 1, .nat 2, .nat 0, .nat 0, .nat 0, .nat 0, .nat 1, .nat 1, cx0, .str 0 0, nilS, nilS, .nat 3, .nat 1, .nat 1, .nat 2, .nat 1, .nat 0, .nat 0, .nat 0, cx0, .str 0 0, nilS, nilS, .nat 7, .nat 0, .nat 0, .nat 0, .nat 8, .nat 0, .nat 0, .nat 0, cx0, .str 0 0, nilS, nilS, .nat 5, .nat 1, .nat 0, .nat 0, .nat 8, .nat 0, .nat 0, .nat 0, cx0, .str 0 0, nilS, .sl 6212 0 1 1]⟩,
  ⟨6371, 102, 12, [.nat 2, .nat 1, .nat 0, .nat 0, .nat 0, .nat 0, .nat 0, .nat 0, cx0, .str 0 0, nilS, nilS]⟩,
  ⟨3538, 3, 1, [.nat 0]⟩,
  ⟨3920, 3, 1, [.nat 1]⟩,
  ⟨4302, 3, 1, [.nat 1]⟩,
  ⟨4684, 3, 1, [.nat 1]⟩,
  ⟨5066, 3, 1, [.nat 1]⟩,
  ⟨5448, 3, 1, [.nat 1]⟩,
  ⟨5830, 3, 1, [.nat 1]⟩,
  ⟨6212, 3, 1, [.nat 1]⟩]
def tx8 : AV := .str 311 11644545900262935510968549905257893504793670513864379682831304273022823227998207488053295898085526267370441372390560760237013961049031356527528041342185100385241101225072525598669949235071293441129403398362596241922429603327923930736709729855327769862193545647704497243639301031005446652176714223503144373169537679981104474907614006552106233308195866714913535886938976465034954589178374314869324277302149743378570337856781091695671614047099889090395104019691870628545264183414404784441535478418810838693162193755782513034556292267809932491178864352177482894119815892220873533170518588927970409416203274921493112985459499773334709891515689889196421072479926905415448376600117207601094079758513373338327329272853701141099379495257614317745438346735206
def nx9 : Nat := 7162
def rt9 : AV := .agg [.sl 7160 0 10 4, .nat 0]
def rs9 : List SR := [
  ⟨7160, 36, 4, [.str 4 1852399981, .nat 0, .nat 1, .sl 3944 0 1 5, .str 1 97, .nat 1, .nat 3, .sl 4326 0 1 5, .str 1 98, .nat 1, .nat 3, .sl 4708 0 1 5, .str 1 99, .nat 1, .nat 3, .sl 5090 0 1 5, .str 1 100, .nat 1, .nat 3, .sl 5472 0 1 5, .str 1 101, .nat 1, .nat 3, .sl 5854 0 1 5, .str 1 102, .nat 1, .nat 3, .sl 6236 0 1 5, .str 1 103, .nat 1, .nat 3, .sl 6618 0 1 5, .str 1 104, .nat 1, .nat 3, .sl 7000 0 1 5, .str 1 105, .nat 1, .nat 2, .sl 7157 0 1 5]⟩,
  ⟨3944, 41, 5, [.sl 3939 0 3 12, .nat 3, .nat 0, .nat 0, .nat 0]⟩,
  ⟨4326, 41, 5, [.sl 4321 0 5 12, .nat 3, .nat 1, .nat 0, .nat 0]⟩,
  ⟨4708, 41, 5, [.sl 4703 0 5 12, .nat 3, .nat 1, .nat 0, .nat 0]⟩,
  ⟨5090, 41, 5, [.sl 5085 0 5 12, .nat 3, .nat 1, .nat 0, .nat 0]⟩,
  ⟨5472, 41, 5, [.sl 5467 0 5 12, .nat 3, .nat 1, .nat 0, .nat 0]⟩,
  ⟨5854, 41, 5, [.sl 5849 0 5 12, .nat 3, .nat 1, .nat 0, .nat 0]⟩,
  ⟨6236, 41, 5, [.sl 6231 0 5 12, .nat 3, .nat 1, .nat 0, .nat 0]⟩,
  ⟨6618, 41, 5, [.sl 6613 0 5 12, .nat 3, .nat 1, .nat 0, .nat 0]⟩,
  ⟨7000, 41, 5, [.sl 6995 0 5 12, .nat 3, .nat 1, .nat 0, .nat 0]⟩,
  ⟨7157, 41, 5, [.sl 7152 0 1 12, .nat 3, .nat 1, .nat 0, .nat 0]⟩,
  ⟨3939, 102, 12, [.nat 1, .nat 0, .nat 0, .nat 0, .nat 0, .nat 0, .nat 1, .nat 5, cx0, .str 0 0, nilS, nilS, .nat 7, .nat 0, .nat 0, .nat 0, .nat 1, .nat 0, .nat 0, .nat 0, cx0, .str 0 0, nilS, nilS, .nat 5, .nat 0, .nat 0, .nat 0, .nat 1, .nat 0, .nat 0, .nat 0, cx0, .str 0 0, nilS, .sl 3937 0 1 1]⟩,
  ⟨4321, 102, 12, [.nat 2, .nat 1, .nat 0, .nat 0, .nat 0, .nat 0, .nat 0, .nat 0, cx0, .str 0 0, nilS, nilS, .nat 1, .nat 2, .nat 0, .nat 0, .nat 0, .nat 0, .nat 1, .nat 1, cx0, .str 0 0, nilS, nilS, .nat 3, .nat 1, .nat 1, .nat 2, .nat 1, .nat 0, .nat 0, .nat 0, cx0, .str 0 0, nilS, nilS, .nat 7, .nat 0, .nat 0, .nat 0, .nat 2, .nat 0, .nat 0, .nat 0, cx0, .str 0 0, nilS, nilS, .nat 5, .nat 1, .nat 0, .nat 0, .nat 2, .nat 0, .nat 0, .nat 0, cx0, .str 0 0, nilS, .sl 4319 0 1 1]⟩,
  ⟨4703, 102, 12, [.nat 2, .nat 1, .nat 0, .nat 0, .nat 0, .nat 0, .nat 0, .nat 0, cx0, .str 0 0, nilS, nilS, .nat 1, .nat 2, .nat 0, .nat 0, .nat 0, .nat 0, .nat 1, .nat 1, cx0, .str 0 0, nilS, nilS, .nat 3, .nat 1, .nat 1, .nat 2, .nat 1, .nat 0, .nat 0, .nat 0, cx0, .str 0 0, nilS, nilS, .nat 7, .nat 0, .nat 0, .nat 0, .nat 3, .nat 0, .nat 0, .nat 0, cx0, .str 0 0, nilS, nilS, .nat 5, .nat 1, .nat 0, .nat 0, .nat 3, .nat 0, .nat 0, .nat 0, cx0, .str 0 0, nilS, .sl 4701 0 1 1]⟩,
  ⟨5085, 102, 12, [.nat 2, .nat 1, .nat 0, .nat 0, .nat 0, .nat 0, .nat 0, .nat 0, cx0, .str 0 0, nilS, nilS, .nat 1, .nat 2, .nat 0, .nat 0, .nat 0, .nat 0, .nat 1, .nat 1, cx0, .str 0 0, nilS, nilS, .nat 3, .nat 1, .nat 1, .nat 2, .nat 1, .nat 0, .nat 0, .nat 0, cx0, .str 0 0, nilS, nilS, .nat 7, .nat 0, .nat 0, .nat 0, .nat 4, .nat 0, .nat 0, .nat 0, cx0, .str 0 0, nilS, nilS, .nat 5, .nat 1, .nat 0, .nat 0, .nat 4, .nat 0, .nat 0, .nat 0, cx0, .str 0 0, nilS, .sl 5083 0 1 1]⟩,
  ⟨5467, 102, 12, [.nat 2, .nat 1, .nat 0, .nat 0, .nat 0, .nat 0, .nat 0, .nat 0, cx0, .str 0 0, nilS, nilS, .nat 1, .nat 2, .nat 0, .nat 0, .nat 0, .nat 0, .nat 1, .nat 1, cx0, .str 0 0, nilS, nilS, .nat 3, .nat 1, .nat 1, .nat 2, .nat 1, .nat 0, .nat 0, .nat 0, cx0, .str 0 0, nilS, nilS, .nat 7, .nat 0, .nat 0, .nat 0, .nat 5, .nat 0, .nat 0, .nat 0, cx0, .str 0 0, nilS, nilS, .nat 5, .nat 1, .nat 0, .nat 0, .nat 5, .nat 0, .nat 0, .nat 0, cx0, .str 0 0, nilS, .sl 5465 0 1 1]⟩,
  ⟨5849, 102, 12, [.nat 2, .nat 1, .nat 0, .nat 0, .nat 0, .nat 0, .nat 0, .nat 0, cx0, .str 0 0, nilS, nilS, .nat 1, .nat 2, .nat 0, .nat 0, .nat 0, .nat 0, .nat 1, .nat 1, cx0, .str 0 0, nilS, nilS, .nat 3, .nat 1, .nat 1, .nat 2, .nat 1, .nat 0, .nat 0, .nat 0, cx0, .str 0 0, nilS, nilS, .nat 7, .nat 0, .nat 0, .nat 0, .nat 6, .nat 0, .nat 0, .nat 0, cx0, .str 0 0, nilS, nilS, .nat 5, .nat 1, .nat 0, .nat 0, .nat 6, .nat 0, .nat 0, .nat 0, cx0, .str 0 0, nilS, .sl 5847 0 1 1]⟩,
  ⟨6231, 102, 12, [.nat 2, .nat 1, .nat 0, .nat 0, .nat 0, .nat 0, .nat 0, .nat 0, cx0, .str 0 0, nilS, nilS, .nat 1, .nat 2, .nat 0, .nat 0, .nat 0, .nat 0, .nat 1, .nat 1, cx0, .str 0 0, nilS, nilS, .nat 3, .nat 1, .nat 1, .nat 2, .nat 1, .nat 0, .nat 0, .nat 0, cx0, .str 0 0, nilS, nilS, .nat 7, .nat 0, .nat 0, .nat 0, .nat 7, .nat 0, .nat 0, .nat 0, cx0, .str 0 0, nilS, nilS, .nat 5, .nat 1, .nat 0, .nat 0, .nat 7, .nat 0, .nat 0, .nat 0, cx0, .str 0 0, nilS, .sl 6229 0 1 1]⟩,
  ⟨6613, 102, 12, [.nat 2, .nat 1, .nat 0, .nat 0, .nat 0, .nat 0, .nat 0, .nat 0, cx0, .str 0 0, nilS, nilS, .nat 1, .nat 2, .nat 0, .nat 0, .nat 0, .nat 0, .nat 1, .nat 1, cx0, .str 0 0, nilS, nilS, .nat 3, .nat 1, .nat 1, .nat 2, .nat 1, .nat 0, .nat 0, .nat 0, cx0, .str 0 0, nilS, nilS, .nat 7, .nat 0, .nat 0, .nat 0, .nat 8, .nat 0, .nat 0, .nat 0, cx0, .str 0 0, nilS, nilS, .nat 5, .nat 1, .nat 0, .nat 0, .nat 8, .nat 0, .nat 0, .nat 0, cx0, .str 0 0, nilS, .sl 6611 0 1 1]⟩,
  ⟨6995, 102, 12, [.nat 2, .nat 1, .nat 0, .nat 0, .nat 0, .nat 0, .nat 0, .nat 0, cx0, .str 0 0, nilS, nilS, .nat 1, .nat 2, .nat 0, .nat 0, .nat 0, .nat 0, .nat 1, .nat 1, cx0, .str 0 0, nilS, nilS, .nat 3, .nat 1, .nat 1, .nat 2, .nat 1, .nat 0, .nat 0, .nat 0, cx0, .str 0 0, nilS, nilS, .nat 7, .nat 0, .nat 0, .nat 0, .nat 9, .nat 0, .nat 0, .nat 0, cx0, .str 0 0, nilS, nilS, .nat 5, .nat 1, .nat 0, .nat 0, .nat 9, .nat 0, .nat 0, .nat 0, cx0, .str 0 0, nilS, .sl 6993 0 1 1]⟩,
  ⟨7152, 102, 12, [.nat 2, .nat 1, .nat 0, .nat 0, .nat 0, .nat 0, .nat 0, .nat 0, cx0, .str 0 0, nilS, nilS]⟩,
  ⟨3937, 3, 1, [.nat 0]⟩,
  ⟨4319, 3, 1, [.nat 1]⟩,
  ⟨4701, 3, 1, [.nat 1]⟩,
  ⟨5083, 3, 1, [.nat 1]⟩,
  ⟨5465, 3, 1, [.nat 1]⟩,
  ⟨5847, 3, 1, [.nat 1]⟩,
  ⟨6229, 3, 1, [.nat 1]⟩,
  ⟨6611, 3, 1, [.nat 1]⟩,
  ⟨6993, 3, 1, [.nat 1]⟩]
def tx9 : AV := .str 347 5791103253641075703067163713844405968070668668684666120117097971200273323962906950688625843866129794381207837110423048017422530283885119560987648271336753897617180584347771683837658594026743931640780085385123141140112235863979679036914448734131633831903447315619782750203231455430878563891661025300844957506647032293323662110817148671855580932196144594995023565545520867791721184774043610644422718596547714108282723328662164200167387430268765411410381256724833042998335800363266055807083434752137059910251334921563799595022880218920315176644166490431178226664894606855752643987895162534913246750225486314542347201522385752299687550029456190379715710761525260228718619292690828301634322498491714010428413194887682856972922899765754772504933835368916924328491800892311598078428768538815260987206461843200623809161027388400829420990918246
def nx10 : Nat := 7943
def rt10 : AV := .agg [.sl 7941 0 11 4, .nat 0]
def rs10 : List SR := [
  ⟨7941, 36, 4, [.str 4 1852399981, .nat 0, .nat 1, .sl 4343 0 1 5, .str 1 97, .nat 1, .nat 3, .sl 4725 0 1 5, .str 1 98, .nat 1, .nat 3, .sl 5107 0 1 5, .str 1 99, .nat 1, .nat 3, .sl 5489 0 1 5, .str 1 100, .nat 1, .nat 3, .sl 5871 0 1 5, .str 1 101, .nat 1, .nat 3, .sl 6253 0 1 5, .str 1 102, .nat 1, .nat 3, .sl 6635 0 1 5, .str 1 103, .nat 1, .nat 3, .sl 7017 0 1 5, .str 1 104, .nat 1, .nat 3, .sl 7399 0 1 5, .str 1 105, .nat 1, .nat 3, .sl 7781 0 1 5, .str 1 106, .nat 1, .nat 2, .sl 7938 0 1 5]⟩,
  ⟨4343, 41, 5, [.sl 4338 0 3 12, .nat 3, .nat 0, .nat 0, .nat 0]⟩,
  ⟨4725, 41, 5, [.sl 4720 0 5 12, .nat 3, .nat 1, .nat 0, .nat 0]⟩,
  ⟨5107, 41, 5, [.sl 5102 0 5 12, .nat 3, .nat 1, .nat 0, .nat 0]⟩,
  ⟨5489, 41, 5, [.sl 5484 0 5 12, .nat 3, .nat 1, .nat 0, .nat 0]⟩,
  ⟨5871, 41, 5, [.sl 5866 0 5 12, .nat 3, .nat 1, .nat 0, .nat 0]⟩,
  ⟨6253, 41, 5, [.sl 6248 0 5 12, .nat 3, .nat 1, .nat 0, .nat 0]⟩,
  ⟨6635, 41, 5, [.sl 6630 0 5 12, .nat 3, .nat 1, .nat 0, .nat 0]⟩,
  ⟨7017, 41, 5, [.sl 7012 0 5 12, .nat 3, .nat 1, .nat 0, .nat 0]⟩,
  ⟨7399, 41, 5, [.sl 7394 0 5 12, .nat 3, .nat 1, .nat 0, .nat 0]⟩,
  ⟨7781, 41, 5, [.sl 7776 0 5 12, .nat 3, .nat 1, .nat 0, .nat 0]⟩,
  ⟨7938, 41, 5, [.sl 7933 0 1 12, .nat 3, .nat 1, .nat 0, .nat 0]⟩,
  ⟨4338, 102, 12, [.nat 1, .nat 0, .nat 0, .nat 0, .nat 0, .nat 0, .nat 1, .nat 5, cx0, .str 0 0, nilS, nilS, .nat 7, .nat 0, .nat 0, .nat 0, .nat 1, .nat 0, .nat 0, .nat 0, cx0, .str 0 0, nilS, nilS, .nat 5, .nat 0, .nat 0, .nat 0, .nat 1, .nat 0, .nat 0, .nat 0, cx0, .str 0 0, nilS, .sl 4336 0 1 1]⟩,
  ⟨4720, 102, 12, [.nat 2, .nat 1, .nat 0, .nat 0, .nat 0, .nat 0, .nat 0, .nat 0, cx0, .str 0 0, nilS, nilS, .nat 1, .nat 2, .nat 0, .nat 0, .nat 0, .nat 0, .nat 1, .nat 1, cx0, .str 0 0, nilS, nilS, .nat 3, .nat 1, .nat 1, .nat 2, .nat 1, .nat 0, .nat 0, .nat 0, cx0, .str 0 0, nilS, nilS, .nat 7, .nat 0, .nat 0, .nat 0, .nat 2, .nat 0, .nat 0, .nat 0, cx0, .str 0 0, nilS, nilS, .nat 5, .nat 1, .nat 0, .nat 0, .nat 2, .nat 0, .nat 0, .nat 0, cx0, .str 0 0, nilS, .sl 4718 0 1 1]⟩,
  ⟨5102, 102, 12, [.nat 2, .nat 1, .nat 0, .nat 0, .nat 0, .nat 0, .nat 0, .nat 0, cx0, .str 0 0, nilS, nilS, .nat 1, .nat 2, .nat 0, .nat 0, .nat 0, .nat 0, .nat 1, .nat 1, cx0, .str 0 0, nilS, nilS, .nat 3, .nat 1, .nat 1, .nat 2, .nat 1, .nat 0, .nat 0, .nat 0, cx0, .str 0 0, nilS, nilS, .nat 7, .nat 0, .nat 0, .nat 0, .nat 3, .nat 0, .nat 0, .nat 0, cx0, .str 0 0, nilS, nilS, .nat 5, .nat 1, .nat 0, .nat 0, .nat 3, .nat 0, .nat 0, .nat 0, cx0, .str 0 0, nilS, .sl 5100 0 1 1]⟩,
  ⟨5484, 102, 12, [.nat 2, .nat 1, .nat 0, .nat 0, .nat 0, .nat 0, .nat 0, .nat 0, cx0, .str 0 0, nilS, nilS, .nat 1, .nat 2, .nat 0, .nat 0, .nat 0, .nat 0, .nat 1, .nat 1, cx0, .str 0 0, nilS, nilS, .nat 3, .nat 1, .nat 1, .nat 2, .nat 1, .nat 0, .nat 0, .nat 0, cx0, .str 0 0, nilS, nilS, .nat 7, .nat 0, .nat 0, .nat 0, .nat 4, .nat 0, .nat 0, .nat 0, cx0, .str 0 0, nilS, nilS, .nat 5, .nat 1, .nat 0, .nat 0, .nat 4, .nat 0, .nat 0, .nat 0, cx0, .str 0 0, nilS, .sl 5482 0 1 1]⟩,
  ⟨5866, 102, 12, [.nat 2, .nat 1, .nat 0, .nat 0, .nat 0, .nat 0, .nat 0, .nat 0, cx0, .str 0 0, nilS, nilS, .nat 1, .nat 2, .nat 0, .nat 0, .nat 0, .nat 0, .nat 1, .nat 1, cx0, .str 0 0, nilS, nilS, .nat 3, .nat 1, .nat 1, .nat 2, .nat 1, .nat 0, .nat 0, .nat 0, cx0, .str 0 0, nilS, nilS, .nat 7, .nat 0, .nat 0, .nat 0, .nat 5, .nat 0, .nat 0, .nat 0, cx0, .str 0 0, nilS, nilS, .nat 5, .nat 1, .nat 0, .nat 0, .nat 5, .nat 0, .nat 0, .nat 0, cx0, .str 0 0, nilS, .sl 5864 0 1 1]⟩,
  ⟨6248, 102, 12, [.nat 2, .nat 1, .nat 0, .nat 0, .nat 0, .nat 0, .nat 0, .nat 0, cx0, .str 0 0, nilS, nilS, .nat 1, .nat 2, .nat 0, .nat 0, .nat 0, .nat 0, .nat 1, .nat 1, cx0, .str 0 0, nilS, nilS, .nat 3, .nat 1, .nat 1, .nat 2, .nat 1, .nat 0, .nat 0, .nat 0, cx0, .str 0 0, nilS, nilS, .nat 7, .nat 0, .nat 0, .nat 0, .nat 6, .nat 0, .nat 0, .nat 0, cx0, .str 0 0, nilS, nilS, .nat 5, .nat 1, .nat 0, .nat 0, .nat 6, .nat 0, .nat 0, .nat 0, cx0, .str 0 0, nilS, .sl 6246 0 1 1]⟩,
  ⟨6630, 102, 12, [.nat 2, .nat 1, .nat 0, .nat 0, .nat 0, .nat 0, .nat 0, .nat 0, cx0, .str 0 0, nilS, nilS, .nat 1, .nat 2, .nat 0, .nat 0, .nat 0, .nat 0, .nat 1, .nat 1, cx0, .str 0 0, nilS, nilS, .nat 3, .nat 1, .nat 1, .nat 2, .nat 1, .nat 0, .nat 0, .nat 0, cx0, .str 0 0, nilS, nilS, .nat 7, .nat 0, .nat 0, .nat 0, .nat 7, .nat 0, .nat 0, .nat 0, cx0, .str 0 0, nilS, nilS, .nat 5, .nat 1, .nat 0, .nat 0, .nat 7, .nat 0, .nat 0, .nat 0, cx0, .str 0 0, nilS, .sl 6628 0 1 1]⟩,
  ⟨7012, 102, 12, [.nat 2, .nat 1, .nat 0, .nat 0, .nat 0, .nat 0, .nat 0, .nat 0, cx0, .str 0 0, nilS, nilS, .nat 1, .nat 2, .nat 0, .nat 0, .nat 0, .nat 0, .nat 1, .nat 1, cx0, .str 0 0, nilS, nilS, .nat 3, .nat 1, .nat 1, .nat 2, .nat 1, .nat 0, .nat 0, .nat 0, cx0, .str 0 0, nilS, nilS, .nat 7, .nat 0, .nat 0, .nat 0, .nat 8, .nat 0, .nat 0, .nat 0, cx0, .str 0 0, nilS, nilS, .nat 5, .nat 1, .nat 0, .nat 0, .nat 8, .nat 0, .nat 0, .nat 0, cx0, .str 0 0, nilS, .sl 7010 0 1 1]⟩,
  ⟨7394, 102, 12, [.nat 2, .nat 1, .nat 0, .nat 0, .nat 0, .nat 0, .nat 0, .nat 0, cx0, .str 0 0, nilS, nilS, .nat 1, .nat 2, .nat 0, .nat 0, .nat 0, .nat 0, .nat 1, .nat 1, cx0, .str 0 0, nilS, nilS, .nat 3, .nat 1, .nat 1, .nat 2, .nat 1, .nat 0, .nat 0, .nat 0, cx0, .str 0 0, nilS, nilS, .nat 7, .nat 0, .nat 0, .nat 0, .nat 9, .nat 0, .nat 0, .nat 0, cx0, .str 0 0, nilS, nilS, .nat 5, .nat 1, .nat 0, .nat 0, .nat 9, .nat 0, .nat 0, .nat 0, cx0, .str 0 0, nilS, .sl 7392 0 1 1]⟩,
  ⟨7776, 102, 12, [.nat 2, .nat 1, .nat 0, .nat 0, .nat 0, .nat 0, .nat 0, .nat 0, cx0, .str 0 0, nilS, nilS, .nat 1, .nat 2, .nat 0, .nat 0, .nat 0, .nat 0, .nat 1, .nat 1, cx0, .str 0 0, nilS, nilS, .nat 3, .nat 1, .nat 1, .nat 2, .nat 1, .nat 0, .nat 0, .nat 0, cx0, .str 0 0, nilS, nilS, .nat 7, .nat 0, .nat 0, .nat 0, .nat 10, .nat 0, .nat 0, .nat 0, cx0, .str 0 0, nilS, nilS, .nat 5, .nat 1, .nat 0, .nat 0, .nat 10, .nat 0, .nat 0, .nat 0, cx0, .str 0 0, nilS, .sl 7774 0 1 1]⟩,
  ⟨7933, 102, 12, [.nat 2, .nat 1, .nat 0, .nat 0, .nat 0, .nat 0, .nat 0, .nat 0, cx0, .str 0 0, nilS, nilS]⟩,
  ⟨4336, 3, 1, [.nat 0]⟩,
  ⟨4718, 3, 1, [.nat 1]⟩,
  ⟨5100, 3, 1, [.nat 1]⟩,
  ⟨5482, 3, 1, [.nat 1]⟩,
  ⟨5864, 3, 1, [.nat 1]⟩,
  ⟨6246, 3, 1, [.nat 1]⟩,
  ⟨6628, 3, 1, [.nat 1]⟩,
  ⟨7010, 3, 1, [.nat 1]⟩,
  ⟨7392, 3, 1, [.nat 1]⟩,
  ⟨7774, 3, 1, [.nat 1]⟩]
def tx10 : AV := .str 383 2880050212484025307855022311939679267987989778934371533965641891240843412388035623487761228931418318317303694541352080241798203294602982938706747949047095900266445051371711309763495804842779200142251882111717897293495313645414146826654535804349312288372009433650403783578603852610677882262378922057457109450364876106561648334608503284039572781302011530136909920945394964285626243543935646829264660592535902441620769515240526028441994459807198823286685737012674049305390957876116376119527900143451731453834022612503841918710004132295992387159374383145860988662819819169261974189596845274727157577651337382169089978197622013719372071471271006700580439403381956739233850318692066686041637170162132525029346643819541319767170310531265334533082980328727692118174644608593950731660195579349725887521941380987486889977984242524400994820051022835148573511943892363455374409280640071665500247132353054953793219965826618472955670118
end
end Go.Proofs.YtplnnlnkcfappaaGreat.Sv
