/- InlineChains: what the two stages say, for each number of functions and each depth. (Printed by gen_ic.py.) -/
import Derived.Test.YtplnnlnkcfappaaGreatKg
import Derived.Test.YtplnnlnkcfappaaGreatKe0
import Derived.Test.YtplnnlnkcfappaaGreatKe1
import Derived.Test.YtplnnlnkcfappaaGreatKe2
import Derived.Test.YtplnnlnkcfappaaGreatKf0
import Derived.Test.YtplnnlnkcfappaaGreatKf1
import Derived.Test.YtplnnlnkcfappaaGreatKf2
import Derived.Test.YtplnnlnkcfappaaGreatKf3
import Derived.Test.YtplnnlnkcfappaaGreatKf4
import Derived.Test.YtplnnlnkcfappaaGreatKf5
import Derived.Test.YtplnnlnkcfappaaGreatKf6
import Derived.Test.YtplnnlnkcfappaaGreatKf7
namespace Go.Proofs.YtplnnlnkcfappaaGreat.Sv
open Go.RowKit E3
set_option maxRecDepth 10000000
set_option maxHeartbeats 0


theorem str_ofI {ρ : Syms} {L q : Nat} {s : ByteArray} {l : List UInt8} (h : bytesOf ρ L q = l) (hs : s.data.toList = l) : Value.string (strOf ρ L q) = .string s := by
  unfold strOf
  rw [h, ← hs]
theorem Snap.shapeI {ρ : Syms} {w : World} {nx : Nat} {rs : List SR} {root : AV} {p : Value} (h : Snap ρ w nx rs root p) {b o l s : Nat} (hr : root = .agg [.sl b o l s, .nat 0]) : ∃ a cap, p = .agg #[.slice (some a) l cap, .int .i64 0] := by
  subst hr
  obtain ⟨F, _, _, hp⟩ := h
  obtain ⟨us, hus, rfl⟩ := den_agg hp
  obtain ⟨x0, r0, e0, hu0, rfl⟩ := dens_cons hus
  obtain ⟨x1, r1, e1, hu1, rfl⟩ := dens_cons hu0
  rw [dens_nil] at hu1
  obtain rfl := Option.some.inj hu1
  simp only [den, Option.some.injEq] at e1
  subst e1
  obtain ⟨g, c, hF, rfl⟩ := den_sl e0
  exact ⟨_, _, rfl⟩
theorem laid_of {ρ : Syms} {oc : Orc} {nx : Nat} {rs : List SR} {root A : AV} {n want D : Nat} (hoc : OrcOk ρ Tryz.prog oc) (h : isTrue (stB oc nx rs root A n want) = true) (hA : ∀ F, den ρ F A = some (.int .i64 (D : Int))) (hw : (if n ≤ min D 8 then 0 else 1) = want) {w : World} {p : Value} (hs : Snap ρ w nx rs root p) :
    Calls Tryz.prog 15 #[p, .int .i64 60, .int .i64 D] w (LaidOpen n (if n ≤ min D 8 then 0 else 1) w) := by
  rw [hw]
  exact stB_sound hoc h hA hs

theorem txt1 (ρ : Syms) : bytesOf ρ 59 1547573550224335666556676986633459111873373593474586330940617637599054475471466572159904504828066571687292236449109166101280631340650756861542 = textI 1 1 := by kernel_rfl
theorem staged1 (D : Nat) (w : World) (hD : D < 16) : Calls Tryz.prog 14 #[.string (T 1 1)] w fun e w1 => ∃ (a : Addr) (len cap : Nat), e = .returned (.tuple #[.agg #[.slice (some a) len cap, .int .i64 0], .bool true]) ∧ Below w.heap.size w w1 ∧
    ∀ w2, Below w1.heap.size w1 w2 → Calls Tryz.prog 15 #[.agg #[.slice (some a) len cap, .int .i64 0], .int .i64 60, .int .i64 D] w2 (LaidOpen 1 (if 1 ≤ min D 8 then 0 else 1) w2) := by
  refine (stA_sound (ρ := symOne (D : Int)) stA1 (sv := .string (T 1 1)) (fun F => congrArg some (str_ofI (txt1 _) (T_text 1 1))) w).mono ?_
  rintro e w1 ⟨p, rfl, hb, hs⟩
  obtain ⟨a, cap, rfl⟩ := hs.shapeI (b := 912) (o := 0) (l := 2) (s := 4) rfl
  refine ⟨a, _, cap, rfl, hb, fun w2 hb2 => ?_⟩
  have hs2 := hs.below hb2
  clear hs hb hb2
  have hc : D = 0 ∨ (1 ≤ D ∧ D ≤ 7) ∨ 8 ≤ D := by omega
  rcases hc with rfl | ⟨h1, h2⟩ | h8
  · exact laid_of (noOrc_ok _) stB1d0 (fun F => natD_den _ 0 F) (by decide) hs2
  · exact laid_of (ocA_ok h1 (by omega)) stB1a (fun F => ocA_den F) (if_pos (by omega)) hs2
  · exact laid_of (ocB_ok h8 hD) stB1b (fun F => ocA_den F) (if_pos (by omega)) hs2
theorem txt2 (ρ : Syms) : bytesOf ρ 95 769644286579750108277097893284787225359093594572728539011247461854535022377605695662121999078233920114628192697985978669786557517659858363102554342900636345530400399459649922442205960597437803153179551437575301349702450550959718 = textI 2 2 := by kernel_rfl
theorem staged2 (D : Nat) (w : World) (hD : D < 16) : Calls Tryz.prog 14 #[.string (T 2 2)] w fun e w1 => ∃ (a : Addr) (len cap : Nat), e = .returned (.tuple #[.agg #[.slice (some a) len cap, .int .i64 0], .bool true]) ∧ Below w.heap.size w w1 ∧
    ∀ w2, Below w1.heap.size w1 w2 → Calls Tryz.prog 15 #[.agg #[.slice (some a) len cap, .int .i64 0], .int .i64 60, .int .i64 D] w2 (LaidOpen 2 (if 2 ≤ min D 8 then 0 else 1) w2) := by
  refine (stA_sound (ρ := symOne (D : Int)) stA2 (sv := .string (T 2 2)) (fun F => congrArg some (str_ofI (txt2 _) (T_text 2 2))) w).mono ?_
  rintro e w1 ⟨p, rfl, hb, hs⟩
  obtain ⟨a, cap, rfl⟩ := hs.shapeI (b := 1693) (o := 0) (l := 3) (s := 4) rfl
  refine ⟨a, _, cap, rfl, hb, fun w2 hb2 => ?_⟩
  have hs2 := hs.below hb2
  clear hs hb hb2
  have hc : D = 0 ∨ D = 1 ∨ (2 ≤ D ∧ D ≤ 7) ∨ 8 ≤ D := by omega
  rcases hc with rfl | rfl | ⟨h1, h2⟩ | h8
  · exact laid_of (noOrc_ok _) stB2d0 (fun F => natD_den _ 0 F) (by decide) hs2
  · exact laid_of (noOrc_ok _) stB2d1 (fun F => natD_den _ 1 F) (by decide) hs2
  · exact laid_of (ocA_ok h1 (by omega)) stB2a (fun F => ocA_den F) (if_pos (by omega)) hs2
  · exact laid_of (ocB_ok h8 hD) stB2b (fun F => ocA_den F) (if_pos (by omega)) hs2
theorem txt3 (ρ : Syms) : bytesOf ρ 131 382761987486142643771307230569299027517987013219142890494636684301770472358706879324070595986817379417649446713755650791943493673197092795517867863252497361967180442812899790209993711473355305320271623183063997494090554740974481273646478469837211123860936295849962256277634585705478742030714714491995207388075421286 = textI 3 3 := by kernel_rfl
theorem staged3 (D : Nat) (w : World) (hD : D < 16) : Calls Tryz.prog 14 #[.string (T 3 3)] w fun e w1 => ∃ (a : Addr) (len cap : Nat), e = .returned (.tuple #[.agg #[.slice (some a) len cap, .int .i64 0], .bool true]) ∧ Below w.heap.size w w1 ∧
    ∀ w2, Below w1.heap.size w1 w2 → Calls Tryz.prog 15 #[.agg #[.slice (some a) len cap, .int .i64 0], .int .i64 60, .int .i64 D] w2 (LaidOpen 3 (if 3 ≤ min D 8 then 0 else 1) w2) := by
  refine (stA_sound (ρ := symOne (D : Int)) stA3 (sv := .string (T 3 3)) (fun F => congrArg some (str_ofI (txt3 _) (T_text 3 3))) w).mono ?_
  rintro e w1 ⟨p, rfl, hb, hs⟩
  obtain ⟨a, cap, rfl⟩ := hs.shapeI (b := 2474) (o := 0) (l := 4) (s := 4) rfl
  refine ⟨a, _, cap, rfl, hb, fun w2 hb2 => ?_⟩
  have hs2 := hs.below hb2
  clear hs hb hb2
  have hc : D = 0 ∨ D = 1 ∨ D = 2 ∨ (3 ≤ D ∧ D ≤ 7) ∨ 8 ≤ D := by omega
  rcases hc with rfl | rfl | rfl | ⟨h1, h2⟩ | h8
  · exact laid_of (noOrc_ok _) stB3d0 (fun F => natD_den _ 0 F) (by decide) hs2
  · exact laid_of (noOrc_ok _) stB3d1 (fun F => natD_den _ 1 F) (by decide) hs2
  · exact laid_of (noOrc_ok _) stB3d2 (fun F => natD_den _ 2 F) (by decide) hs2
  · exact laid_of (ocA_ok h1 (by omega)) stB3a (fun F => ocA_den F) (if_pos (by omega)) hs2
  · exact laid_of (ocB_ok h8 hD) stB3b (fun F => ocA_den F) (if_pos (by omega)) hs2
theorem txt4 (ρ : Syms) : bytesOf ρ 167 190356430391250714354608589501710269981295809037816975814395981377481271433476427839125471542806833733816580850833564600396789404195822965063581043527588136439468839248785945284824854028260102785023793594915121965870579564008341328561450689390336876853565407601650589047974831605384039269840480608726653268792026361777612632109081906051533926226509017028248845920181517739245290757581724935882176228966 = textI 4 4 := by kernel_rfl
theorem staged4 (D : Nat) (w : World) (hD : D < 16) : Calls Tryz.prog 14 #[.string (T 4 4)] w fun e w1 => ∃ (a : Addr) (len cap : Nat), e = .returned (.tuple #[.agg #[.slice (some a) len cap, .int .i64 0], .bool true]) ∧ Below w.heap.size w w1 ∧
    ∀ w2, Below w1.heap.size w1 w2 → Calls Tryz.prog 15 #[.agg #[.slice (some a) len cap, .int .i64 0], .int .i64 60, .int .i64 D] w2 (LaidOpen 4 (if 4 ≤ min D 8 then 0 else 1) w2) := by
  refine (stA_sound (ρ := symOne (D : Int)) stA4 (sv := .string (T 4 4)) (fun F => congrArg some (str_ofI (txt4 _) (T_text 4 4))) w).mono ?_
  rintro e w1 ⟨p, rfl, hb, hs⟩
  obtain ⟨a, cap, rfl⟩ := hs.shapeI (b := 3255) (o := 0) (l := 5) (s := 4) rfl
  refine ⟨a, _, cap, rfl, hb, fun w2 hb2 => ?_⟩
  have hs2 := hs.below hb2
  clear hs hb hb2
  have hc : D = 0 ∨ D = 1 ∨ D = 2 ∨ D = 3 ∨ (4 ≤ D ∧ D ≤ 7) ∨ 8 ≤ D := by omega
  rcases hc with rfl | rfl | rfl | rfl | ⟨h1, h2⟩ | h8
  · exact laid_of (noOrc_ok _) stB4d0 (fun F => natD_den _ 0 F) (by decide) hs2
  · exact laid_of (noOrc_ok _) stB4d1 (fun F => natD_den _ 1 F) (by decide) hs2
  · exact laid_of (noOrc_ok _) stB4d2 (fun F => natD_den _ 2 F) (by decide) hs2
  · exact laid_of (noOrc_ok _) stB4d3 (fun F => natD_den _ 3 F) (by decide) hs2
  · exact laid_of (ocA_ok h1 (by omega)) stB4a (fun F => ocA_den F) (if_pos (by omega)) hs2
  · exact laid_of (ocB_ok h8 hD) stB4b (fun F => ocA_den F) (if_pos (by omega)) hs2
theorem txt5 (ρ : Syms) : bytesOf ρ 203 94668676033591073772860981763258776674386380622130735510080816178493393995131317364043941172599667624692479606173505316039698420367868996552572798186816661828974277479629185400747388832650607413978877914815483167564827868085383807794155490089174915800215604519926091581467929972140120361146671487581765191423286104915279533046496154657520403137328750177639922710895883641608281812231095305416385297566267527029597924538167589184912157305079608505056633713875435054099985993991412426763878 = textI 5 5 := by kernel_rfl
theorem staged5 (D : Nat) (w : World) (hD : D < 16) : Calls Tryz.prog 14 #[.string (T 5 5)] w fun e w1 => ∃ (a : Addr) (len cap : Nat), e = .returned (.tuple #[.agg #[.slice (some a) len cap, .int .i64 0], .bool true]) ∧ Below w.heap.size w w1 ∧
    ∀ w2, Below w1.heap.size w1 w2 → Calls Tryz.prog 15 #[.agg #[.slice (some a) len cap, .int .i64 0], .int .i64 60, .int .i64 D] w2 (LaidOpen 5 (if 5 ≤ min D 8 then 0 else 1) w2) := by
  refine (stA_sound (ρ := symOne (D : Int)) stA5 (sv := .string (T 5 5)) (fun F => congrArg some (str_ofI (txt5 _) (T_text 5 5))) w).mono ?_
  rintro e w1 ⟨p, rfl, hb, hs⟩
  obtain ⟨a, cap, rfl⟩ := hs.shapeI (b := 4036) (o := 0) (l := 6) (s := 4) rfl
  refine ⟨a, _, cap, rfl, hb, fun w2 hb2 => ?_⟩
  have hs2 := hs.below hb2
  clear hs hb hb2
  have hc : D = 0 ∨ D = 1 ∨ D = 2 ∨ D = 3 ∨ D = 4 ∨ (5 ≤ D ∧ D ≤ 7) ∨ 8 ≤ D := by omega
  rcases hc with rfl | rfl | rfl | rfl | rfl | ⟨h1, h2⟩ | h8
  · exact laid_of (noOrc_ok _) stB5d0 (fun F => natD_den _ 0 F) (by decide) hs2
  · exact laid_of (noOrc_ok _) stB5d1 (fun F => natD_den _ 1 F) (by decide) hs2
  · exact laid_of (noOrc_ok _) stB5d2 (fun F => natD_den _ 2 F) (by decide) hs2
  · exact laid_of (noOrc_ok _) stB5d3 (fun F => natD_den _ 3 F) (by decide) hs2
  · exact laid_of (noOrc_ok _) stB5d4 (fun F => natD_den _ 4 F) (by decide) hs2
  · exact laid_of (ocA_ok h1 (by omega)) stB5a (fun F => ocA_den F) (if_pos (by omega)) hs2
  · exact laid_of (ocB_ok h8 hD) stB5b (fun F => ocA_den F) (if_pos (by omega)) hs2
theorem txt6 (ρ : Syms) : bytesOf ρ 239 47080932351655116378534949462378252272706947396861726704924746231774015564569033003705148423881179519129699317296883402631743500288894202298178150635545128536472368098901403315019912405588907623585111247983864823012019631328451348673659983462990391391473771804817147430420405154960687288706371469076359907260048484217133009481265785034198348963863423030882803723531318117174029076662663280077810191910798129302512352318969984982808601148998409398167025507433606706215013813899177728530136808007867932613337498945038266541631884830748109644661209042286212672702483087784701542 = textI 6 6 := by kernel_rfl
theorem staged6 (D : Nat) (w : World) (hD : D < 16) : Calls Tryz.prog 14 #[.string (T 6 6)] w fun e w1 => ∃ (a : Addr) (len cap : Nat), e = .returned (.tuple #[.agg #[.slice (some a) len cap, .int .i64 0], .bool true]) ∧ Below w.heap.size w w1 ∧
    ∀ w2, Below w1.heap.size w1 w2 → Calls Tryz.prog 15 #[.agg #[.slice (some a) len cap, .int .i64 0], .int .i64 60, .int .i64 D] w2 (LaidOpen 6 (if 6 ≤ min D 8 then 0 else 1) w2) := by
  refine (stA_sound (ρ := symOne (D : Int)) stA6 (sv := .string (T 6 6)) (fun F => congrArg some (str_ofI (txt6 _) (T_text 6 6))) w).mono ?_
  rintro e w1 ⟨p, rfl, hb, hs⟩
  obtain ⟨a, cap, rfl⟩ := hs.shapeI (b := 4817) (o := 0) (l := 7) (s := 4) rfl
  refine ⟨a, _, cap, rfl, hb, fun w2 hb2 => ?_⟩
  have hs2 := hs.below hb2
  clear hs hb hb2
  have hc : D = 0 ∨ D = 1 ∨ D = 2 ∨ D = 3 ∨ D = 4 ∨ D = 5 ∨ (6 ≤ D ∧ D ≤ 7) ∨ 8 ≤ D := by omega
  rcases hc with rfl | rfl | rfl | rfl | rfl | rfl | ⟨h1, h2⟩ | h8
  · exact laid_of (noOrc_ok _) stB6d0 (fun F => natD_den _ 0 F) (by decide) hs2
  · exact laid_of (noOrc_ok _) stB6d1 (fun F => natD_den _ 1 F) (by decide) hs2
  · exact laid_of (noOrc_ok _) stB6d2 (fun F => natD_den _ 2 F) (by decide) hs2
  · exact laid_of (noOrc_ok _) stB6d3 (fun F => natD_den _ 3 F) (by decide) hs2
  · exact laid_of (noOrc_ok _) stB6d4 (fun F => natD_den _ 4 F) (by decide) hs2
  · exact laid_of (noOrc_ok _) stB6d5 (fun F => natD_den _ 5 F) (by decide) hs2
  · exact laid_of (ocA_ok h1 (by omega)) stB6a (fun F => ocA_den F) (if_pos (by omega)) hs2
  · exact laid_of (ocB_ok h8 hD) stB6b (fun F => ocA_den F) (if_pos (by omega)) hs2
theorem txt7 (ρ : Syms) : bytesOf ρ 275 23414441650315349611259056402254011040295791102773074979414694088576780268035039082812858665880802201465502770355847746533148356114126995136559881557242945085601587102217487689448962445892204263444706993629023884476881786552089082588482211750786293911845463460112718184977859429489532451394765019399419322010866835881955097458569745746516250698583562545742620552676521675844144636683589501555573174344553111317634303365476592521928772387035873924302448814726278049564446340785302468962689759701191461702928804075135304967861840466043130337655583454398605719560466493869873294167182106498998692869281111969381424276333390955391099772249730030574933520892471307878 = textI 7 7 := by kernel_rfl
theorem staged7 (D : Nat) (w : World) (hD : D < 16) : Calls Tryz.prog 14 #[.string (T 7 7)] w fun e w1 => ∃ (a : Addr) (len cap : Nat), e = .returned (.tuple #[.agg #[.slice (some a) len cap, .int .i64 0], .bool true]) ∧ Below w.heap.size w w1 ∧
    ∀ w2, Below w1.heap.size w1 w2 → Calls Tryz.prog 15 #[.agg #[.slice (some a) len cap, .int .i64 0], .int .i64 60, .int .i64 D] w2 (LaidOpen 7 (if 7 ≤ min D 8 then 0 else 1) w2) := by
  refine (stA_sound (ρ := symOne (D : Int)) stA7 (sv := .string (T 7 7)) (fun F => congrArg some (str_ofI (txt7 _) (T_text 7 7))) w).mono ?_
  rintro e w1 ⟨p, rfl, hb, hs⟩
  obtain ⟨a, cap, rfl⟩ := hs.shapeI (b := 5598) (o := 0) (l := 8) (s := 4) rfl
  refine ⟨a, _, cap, rfl, hb, fun w2 hb2 => ?_⟩
  have hs2 := hs.below hb2
  clear hs hb hb2
  have hc : D = 0 ∨ D = 1 ∨ D = 2 ∨ D = 3 ∨ D = 4 ∨ D = 5 ∨ D = 6 ∨ (7 ≤ D ∧ D ≤ 7) ∨ 8 ≤ D := by omega
  rcases hc with rfl | rfl | rfl | rfl | rfl | rfl | rfl | ⟨h1, h2⟩ | h8
  · exact laid_of (noOrc_ok _) stB7d0 (fun F => natD_den _ 0 F) (by decide) hs2
  · exact laid_of (noOrc_ok _) stB7d1 (fun F => natD_den _ 1 F) (by decide) hs2
  · exact laid_of (noOrc_ok _) stB7d2 (fun F => natD_den _ 2 F) (by decide) hs2
  · exact laid_of (noOrc_ok _) stB7d3 (fun F => natD_den _ 3 F) (by decide) hs2
  · exact laid_of (noOrc_ok _) stB7d4 (fun F => natD_den _ 4 F) (by decide) hs2
  · exact laid_of (noOrc_ok _) stB7d5 (fun F => natD_den _ 5 F) (by decide) hs2
  · exact laid_of (noOrc_ok _) stB7d6 (fun F => natD_den _ 6 F) (by decide) hs2
  · exact laid_of (ocA_ok h1 (by omega)) stB7a (fun F => ocA_den F) (if_pos (by omega)) hs2
  · exact laid_of (ocB_ok h8 hD) stB7b (fun F => ocA_den F) (if_pos (by omega)) hs2
theorem txt8 (ρ : Syms) : bytesOf ρ 311 11644545900262935510968549905257893504793670513864379682831304273022823227998207488053295898085526267370441372390560760237013961049031356527528041342185100385241101225072525598669949235071293441129403398362596241922429603327923930736709729855327769862193545647704497243639301031005446652176714223503144373169537679981104474907614006552106233308195866714913535886938976465034954589178374314869324277302149743378570337856781091695671614047099889090395104019691870628545264183414404784441535478418810838693162193755782513034556292267809932491178864352177482894119815892220873533170518588927970409416203274921493112985459499773334709891515689889196421072479926905415448376600117207601094079758513373338327329272853701141099379495257614317745438346735206 = textI 8 8 := by kernel_rfl
theorem staged8 (D : Nat) (w : World) (hD : D < 16) : Calls Tryz.prog 14 #[.string (T 8 8)] w fun e w1 => ∃ (a : Addr) (len cap : Nat), e = .returned (.tuple #[.agg #[.slice (some a) len cap, .int .i64 0], .bool true]) ∧ Below w.heap.size w w1 ∧
    ∀ w2, Below w1.heap.size w1 w2 → Calls Tryz.prog 15 #[.agg #[.slice (some a) len cap, .int .i64 0], .int .i64 60, .int .i64 D] w2 (LaidOpen 8 (if 8 ≤ min D 8 then 0 else 1) w2) := by
  refine (stA_sound (ρ := symOne (D : Int)) stA8 (sv := .string (T 8 8)) (fun F => congrArg some (str_ofI (txt8 _) (T_text 8 8))) w).mono ?_
  rintro e w1 ⟨p, rfl, hb, hs⟩
  obtain ⟨a, cap, rfl⟩ := hs.shapeI (b := 6379) (o := 0) (l := 9) (s := 4) rfl
  refine ⟨a, _, cap, rfl, hb, fun w2 hb2 => ?_⟩
  have hs2 := hs.below hb2
  clear hs hb hb2
  have hc : D = 0 ∨ D = 1 ∨ D = 2 ∨ D = 3 ∨ D = 4 ∨ D = 5 ∨ D = 6 ∨ D = 7 ∨ 8 ≤ D := by omega
  rcases hc with rfl | rfl | rfl | rfl | rfl | rfl | rfl | rfl | h8
  · exact laid_of (noOrc_ok _) stB8d0 (fun F => natD_den _ 0 F) (by decide) hs2
  · exact laid_of (noOrc_ok _) stB8d1 (fun F => natD_den _ 1 F) (by decide) hs2
  · exact laid_of (noOrc_ok _) stB8d2 (fun F => natD_den _ 2 F) (by decide) hs2
  · exact laid_of (noOrc_ok _) stB8d3 (fun F => natD_den _ 3 F) (by decide) hs2
  · exact laid_of (noOrc_ok _) stB8d4 (fun F => natD_den _ 4 F) (by decide) hs2
  · exact laid_of (noOrc_ok _) stB8d5 (fun F => natD_den _ 5 F) (by decide) hs2
  · exact laid_of (noOrc_ok _) stB8d6 (fun F => natD_den _ 6 F) (by decide) hs2
  · exact laid_of (noOrc_ok _) stB8d7 (fun F => natD_den _ 7 F) (by decide) hs2
  · exact laid_of (ocB_ok h8 hD) stB8b (fun F => ocA_den F) (if_pos (by omega)) hs2
theorem txt9 (ρ : Syms) : bytesOf ρ 347 5791103253641075703067163713844405968070668668684666120117097971200273323962906950688625843866129794381207837110423048017422530283885119560987648271336753897617180584347771683837658594026743931640780085385123141140112235863979679036914448734131633831903447315619782750203231455430878563891661025300844957506647032293323662110817148671855580932196144594995023565545520867791721184774043610644422718596547714108282723328662164200167387430268765411410381256724833042998335800363266055807083434752137059910251334921563799595022880218920315176644166490431178226664894606855752643987895162534913246750225486314542347201522385752299687550029456190379715710761525260228718619292690828301634322498491714010428413194887682856972922899765754772504933835368916924328491800892311598078428768538815260987206461843200623809161027388400829420990918246 = textI 9 9 := by kernel_rfl
theorem staged9 (D : Nat) (w : World) (hD : D < 16) : Calls Tryz.prog 14 #[.string (T 9 9)] w fun e w1 => ∃ (a : Addr) (len cap : Nat), e = .returned (.tuple #[.agg #[.slice (some a) len cap, .int .i64 0], .bool true]) ∧ Below w.heap.size w w1 ∧
    ∀ w2, Below w1.heap.size w1 w2 → Calls Tryz.prog 15 #[.agg #[.slice (some a) len cap, .int .i64 0], .int .i64 60, .int .i64 D] w2 (LaidOpen 9 (if 9 ≤ min D 8 then 0 else 1) w2) := by
  refine (stA_sound (ρ := symOne (D : Int)) stA9 (sv := .string (T 9 9)) (fun F => congrArg some (str_ofI (txt9 _) (T_text 9 9))) w).mono ?_
  rintro e w1 ⟨p, rfl, hb, hs⟩
  obtain ⟨a, cap, rfl⟩ := hs.shapeI (b := 7160) (o := 0) (l := 10) (s := 4) rfl
  refine ⟨a, _, cap, rfl, hb, fun w2 hb2 => ?_⟩
  have hs2 := hs.below hb2
  clear hs hb hb2
  have hc : D = 0 ∨ D = 1 ∨ D = 2 ∨ D = 3 ∨ D = 4 ∨ D = 5 ∨ D = 6 ∨ D = 7 ∨ 8 ≤ D := by omega
  rcases hc with rfl | rfl | rfl | rfl | rfl | rfl | rfl | rfl | h8
  · exact laid_of (noOrc_ok _) stB9d0 (fun F => natD_den _ 0 F) (by decide) hs2
  · exact laid_of (noOrc_ok _) stB9d1 (fun F => natD_den _ 1 F) (by decide) hs2
  · exact laid_of (noOrc_ok _) stB9d2 (fun F => natD_den _ 2 F) (by decide) hs2
  · exact laid_of (noOrc_ok _) stB9d3 (fun F => natD_den _ 3 F) (by decide) hs2
  · exact laid_of (noOrc_ok _) stB9d4 (fun F => natD_den _ 4 F) (by decide) hs2
  · exact laid_of (noOrc_ok _) stB9d5 (fun F => natD_den _ 5 F) (by decide) hs2
  · exact laid_of (noOrc_ok _) stB9d6 (fun F => natD_den _ 6 F) (by decide) hs2
  · exact laid_of (noOrc_ok _) stB9d7 (fun F => natD_den _ 7 F) (by decide) hs2
  · exact laid_of (ocB_ok h8 hD) stB9b (fun F => ocA_den F) (if_neg (by omega)) hs2
theorem txt10 (ρ : Syms) : bytesOf ρ 383 2880050212484025307855022311939679267987989778934371533965641891240843412388035623487761228931418318317303694541352080241798203294602982938706747949047095900266445051371711309763495804842779200142251882111717897293495313645414146826654535804349312288372009433650403783578603852610677882262378922057457109450364876106561648334608503284039572781302011530136909920945394964285626243543935646829264660592535902441620769515240526028441994459807198823286685737012674049305390957876116376119527900143451731453834022612503841918710004132295992387159374383145860988662819819169261974189596845274727157577651337382169089978197622013719372071471271006700580439403381956739233850318692066686041637170162132525029346643819541319767170310531265334533082980328727692118174644608593950731660195579349725887521941380987486889977984242524400994820051022835148573511943892363455374409280640071665500247132353054953793219965826618472955670118 = textI 10 10 := by kernel_rfl
theorem staged10 (D : Nat) (w : World) (hD : D < 16) : Calls Tryz.prog 14 #[.string (T 10 10)] w fun e w1 => ∃ (a : Addr) (len cap : Nat), e = .returned (.tuple #[.agg #[.slice (some a) len cap, .int .i64 0], .bool true]) ∧ Below w.heap.size w w1 ∧
    ∀ w2, Below w1.heap.size w1 w2 → Calls Tryz.prog 15 #[.agg #[.slice (some a) len cap, .int .i64 0], .int .i64 60, .int .i64 D] w2 (LaidOpen 10 (if 10 ≤ min D 8 then 0 else 1) w2) := by
  refine (stA_sound (ρ := symOne (D : Int)) stA10 (sv := .string (T 10 10)) (fun F => congrArg some (str_ofI (txt10 _) (T_text 10 10))) w).mono ?_
  rintro e w1 ⟨p, rfl, hb, hs⟩
  obtain ⟨a, cap, rfl⟩ := hs.shapeI (b := 7941) (o := 0) (l := 11) (s := 4) rfl
  refine ⟨a, _, cap, rfl, hb, fun w2 hb2 => ?_⟩
  have hs2 := hs.below hb2
  clear hs hb hb2
  have hc : D = 0 ∨ D = 1 ∨ D = 2 ∨ D = 3 ∨ D = 4 ∨ D = 5 ∨ D = 6 ∨ D = 7 ∨ 8 ≤ D := by omega
  rcases hc with rfl | rfl | rfl | rfl | rfl | rfl | rfl | rfl | h8
  · exact laid_of (noOrc_ok _) stB10d0 (fun F => natD_den _ 0 F) (by decide) hs2
  · exact laid_of (noOrc_ok _) stB10d1 (fun F => natD_den _ 1 F) (by decide) hs2
  · exact laid_of (noOrc_ok _) stB10d2 (fun F => natD_den _ 2 F) (by decide) hs2
  · exact laid_of (noOrc_ok _) stB10d3 (fun F => natD_den _ 3 F) (by decide) hs2
  · exact laid_of (noOrc_ok _) stB10d4 (fun F => natD_den _ 4 F) (by decide) hs2
  · exact laid_of (noOrc_ok _) stB10d5 (fun F => natD_den _ 5 F) (by decide) hs2
  · exact laid_of (noOrc_ok _) stB10d6 (fun F => natD_den _ 6 F) (by decide) hs2
  · exact laid_of (noOrc_ok _) stB10d7 (fun F => natD_den _ 7 F) (by decide) hs2
  · exact laid_of (ocB_ok h8 hD) stB10b (fun F => ocA_den F) (if_neg (by omega)) hs2
theorem staged : Staged := by
  intro m D w hm hD
  obtain rfl | rfl | rfl | rfl | rfl | rfl | rfl | rfl | rfl | rfl : m = 0 ∨ m = 1 ∨ m = 2 ∨ m = 3 ∨ m = 4 ∨ m = 5 ∨ m = 6 ∨ m = 7 ∨ m = 8 ∨ m = 9 := by omega
  · exact staged1 D w hD
  · exact staged2 D w hD
  · exact staged3 D w hD
  · exact staged4 D w hD
  · exact staged5 D w hD
  · exact staged6 D w hD
  · exact staged7 D w hD
  · exact staged8 D w hD
  · exact staged9 D w hD
  · exact staged10 D w hD

end Go.Proofs.YtplnnlnkcfappaaGreat.Sv
