/- The second evaluator at this seat's program: what it wants of the program. -/
import Derived.Test.YtplnnlnkcfappaaGreatQk
import Derived.Test.YtplnnlnkcfappaaGreatProg
import Derived.KernelRfl
namespace Go.Proofs.YtplnnlnkcfappaaGreat.E3
open Go Go.RowKit

theorem mix : Tryz.prog.follows .mixedOrders = true := by kernel_rfl
theorem plain_names : (Tryz.prog.funcs.toList.all fun fn => !(fn.name == "runtime.NumGoroutine")) = true := by kernel_rfl
/-- how each drawn region is gone through (those not named: not at all) -/
noncomputable def modesT : List (Nat × List (Nat × Nat)) := [(3, [(15, 1)]), (7, [(14, 2)]), (9, [(8, 1), (13, 2), (30, 1)]), (10, [(12, 2)]), (15, [(6, 2), (11, 2)]), (20, [(10, 2), (28, 2)]), (24, [(6, 2)]), (26, [(5, 2), (10, 2), (14, 2), (16, 2), (18, 2), (24, 2)]), (28, [(6, 1), (9, 2)]), (29, [(18, 2)]), (33, [(1, 2)]), (34, [(11, 2)]), (36, [(4, 119233072449167772590004716283292046845201493192896100764127033652888172208348885186463967074218278944)]), (37, [(6, 2)]), (38, [(2, 2)]), (39, [(1, 1), (2, 2), (3, 1), (5, 2), (12, 2), (17, 2), (19, 2), (21, 2), (30, 2), (36, 2)]), (41, [(1, 2)]), (45, [(1, 2)]), (46, [(4, 2), (6, 2), (8, 2), (10, 2795900576807350140661354831619691706123100367576541888544), (13, 32120130818996225842681627892342163650661515296)]), (49, [(1, 538892221203486502200208369462972700700755401504325680)]), (51, [(4, 2), (6, 2), (8, 2), (9, 2), (11, 2), (13, 2), (15, 2), (17, 2), (27, 2)]), (53, [(6, 2), (10, 2)]), (54, [(8, 1), (22, 2), (26, 1)]), (56, [(6, 2), (8, 2)]), (58, [(10, 2)]), (59, [(1, 2992113888683761034637080511690632354219288985047476600864)]), (60, [(10, 2)]), (62, [(10, 2), (21, 2)]), (66, [(17, 1), (18, 2), (27, 2)]), (70, [(1, 87293732219071250040465875182967832319663628727505900208576428905643621092557246152437695260033993439593335564636241005490690614696333117942262677774852834359722499571744)]), (72, [(1, 2)]), (73, [(2, 141798849388005170221315001585120706453351667728416), (3, 2), (10, 337576637966913799592401636841619488), (12, 2), (22, 2), (26, 2), (31, 2), (32, 2), (34, 2), (35, 2)]), (75, [(16, 2)]), (76, [(1, 1), (16, 2), (4, 2), (5, 2), (9, 1), (10, 2), (11, 2)]), (77, [(12, 586788552148470921274291335284920684832449092128014496), (27, 2)]), (81, [(5, 2)]), (86, [(3, 2)]), (89, [(5, 2)]), (90, [(5, 2)]), (93, [(12, 2)]), (96, [(7, 2), (3, 2), (8, 2)]), (104, [(5, 1)]), (106, [(9, 2)]), (109, [(25, 2), (26, 2)]), (111, [(2, 1)]), (112, [(3, 2)]), (113, [(1, 1)]), (114, [(41, 1)]), (115, [(14, 2), (27, 2), (28, 2), (34, 1)]), (119, [(14, 2), (19, 2)]), (126, [(13, 2), (19, 2)]), (131, [(1, 2)]), (134, [(6, 2), (8, 2), (15, 2)]), (136, [(15, 911218862138132632923805680367991742047509723087245041968877143182890859379683470515020011019122768223624607838204815105411595301275489206304)]), (165, [(7, 384313650425101563839211359542837280)]), (172, [(2, 1), (4, 1)]), (176, [(3, 1), (4, 2)]), (177, [(1, 1), (2, 1)]), (178, [(2, 1)]), (180, [(7, 2), (23, 87293732219071250040261288282168653730475966984162474650622490319859812220867728638770923085982794484886871796364266376045241518045528281725054658478866831436730774126624)]), (182, [(5, 1), (6, 1)]), (187, [(21, 246066296304365413157885964778017338200538756104158676910727399931936)]), (194, [(14, 246066296304365413159347109603425064628772176365382597556599236788256)]), (204, [(1, 2)]), (211, [(6, 1), (11, 1)]), (237, [(3, 32120130755193280777355065045225950590068785184)]), (241, [(3, 1)]), (252, [(3, 2), (10, 2)]), (253, [(32, 2)]), (258, [(17, 2)]), (275, [(1, 2)]), (286, [(6, 2), (9, 2), (12, 2), (14, 1), (15, 1)]), (288, [(4, 2), (6, 2)]), (289, [(10, 2)]), (290, [(10, 2)]), (292, [(3, 2)]), (293, [(5, 2), (11, 2), (16, 2), (17, 2), (22, 2), (23, 2)]), (295, [(1, 2), (3, 2), (5, 2), (8, 2)]), (296, [(1, 2), (3, 2), (5, 2), (8, 2), (10, 2), (13, 2), (15, 2), (18, 2), (21, 2)]), (309, [(3, 2), (5, 2), (6, 2)]), (311, [(1, 2), (2, 2), (3, 2)]), (322, [(1, 2)])]
noncomputable def modesOf (f : Nat) : List (Nat × Nat) := List.rec (motive := fun _ => List (Nat × Nat)) [] (fun p _ ih => te (Nat.beq p.1 f) p.2 ih) modesT
noncomputable def modeIn (l : List (Nat × Nat)) (id : Nat) : Nat := List.rec (motive := fun _ => Nat) 0 (fun p _ ih => te (Nat.beq p.1 id) p.2 ih) l
noncomputable def sk : Nat → Modes := fun f id => modeIn (modesOf f) id
theorem lexFns_app (a b : List Func) : ∀ f, lexFns sk a f = true → lexFns sk b (f + a.length) = true → lexFns sk (a ++ b) f = true := by
  induction a with
  | nil => intro f _ h; simpa using h
  | cons x a ih =>
    intro f h hb
    obtain ⟨h1, h2⟩ := both (show te (match x.body with | some c => lexAll (sk f) c | none => true) (lexFns sk a (Nat.succ f)) false = true from h)
    show te (match x.body with | some c => lexAll (sk f) c | none => true) (lexFns sk (a ++ b) (Nat.succ f)) false = true
    rw [h1]
    exact ih (f + 1) h2 (by rw [show f + 1 + a.length = f + (x :: a).length by simp; omega]; exact hb)
theorem lex_step (lo n : Nat) (h : lexFns sk ((Tryz.prog.funcs.toList.drop lo).take n) lo = true) (hl : Nat.ble (lo + n) Tryz.prog.funcs.size = true) (h2 : lexFns sk (Tryz.prog.funcs.toList.drop (lo + n)) (lo + n) = true) : lexFns sk (Tryz.prog.funcs.toList.drop lo) lo = true := by
  have e : Tryz.prog.funcs.toList.drop lo = (Tryz.prog.funcs.toList.drop lo).take n ++ (Tryz.prog.funcs.toList.drop lo).drop n := (List.take_append_drop _ _).symm
  rw [e]
  refine lexFns_app _ _ lo h ?_
  have hl' := Nat.le_of_ble_eq_true hl
  have e2 : ((Tryz.prog.funcs.toList.drop lo).take n).length = n := by simp; omega
  rw [e2, List.drop_drop]
  exact h2
theorem lex_0 : lexFns sk ((Tryz.prog.funcs.toList.drop 0).take 27) 0 = true := by kernel_rfl
theorem lex_27 : lexFns sk ((Tryz.prog.funcs.toList.drop 27).take 13) 27 = true := by kernel_rfl
theorem lex_40 : lexFns sk ((Tryz.prog.funcs.toList.drop 40).take 12) 40 = true := by kernel_rfl
theorem lex_52 : lexFns sk ((Tryz.prog.funcs.toList.drop 52).take 11) 52 = true := by kernel_rfl
theorem lex_63 : lexFns sk ((Tryz.prog.funcs.toList.drop 63).take 11) 63 = true := by kernel_rfl
theorem lex_74 : lexFns sk ((Tryz.prog.funcs.toList.drop 74).take 13) 74 = true := by kernel_rfl
theorem lex_87 : lexFns sk ((Tryz.prog.funcs.toList.drop 87).take 26) 87 = true := by kernel_rfl
theorem lex_113 : lexFns sk ((Tryz.prog.funcs.toList.drop 113).take 22) 113 = true := by kernel_rfl
theorem lex_135 : lexFns sk ((Tryz.prog.funcs.toList.drop 135).take 48) 135 = true := by kernel_rfl
theorem lex_183 : lexFns sk ((Tryz.prog.funcs.toList.drop 183).take 93) 183 = true := by kernel_rfl
theorem lex_276 : lexFns sk ((Tryz.prog.funcs.toList.drop 276).take 18) 276 = true := by kernel_rfl
theorem lex_294 : lexFns sk ((Tryz.prog.funcs.toList.drop 294).take 3) 294 = true := by kernel_rfl
theorem lex_last : lexFns sk (Tryz.prog.funcs.toList.drop 297) 297 = true := by kernel_rfl
theorem lex : LexOk Tryz.prog sk := lexOk_of (lex_step 0 27 lex_0 (by kernel_rfl) (lex_step 27 13 lex_27 (by kernel_rfl) (lex_step 40 12 lex_40 (by kernel_rfl) (lex_step 52 11 lex_52 (by kernel_rfl) (lex_step 63 11 lex_63 (by kernel_rfl) (lex_step 74 13 lex_74 (by kernel_rfl) (lex_step 87 26 lex_87 (by kernel_rfl) (lex_step 113 22 lex_113 (by kernel_rfl) (lex_step 135 48 lex_135 (by kernel_rfl) (lex_step 183 93 lex_183 (by kernel_rfl) (lex_step 276 18 lex_276 (by kernel_rfl) (lex_step 294 3 lex_294 (by kernel_rfl) (lex_last)))))))))))))


end Go.Proofs.YtplnnlnkcfappaaGreat.E3
