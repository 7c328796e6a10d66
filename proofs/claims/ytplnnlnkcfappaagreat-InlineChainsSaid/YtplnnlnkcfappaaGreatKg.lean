/- InlineChains: the law's text. -/
import Derived.Test.YtplnnlnkcfappaaGreatKd
import Derived.Laws.BytesString
import Derived.Laws.Cells
namespace Go.Proofs.YtplnnlnkcfappaaGreat.Sv
open Go.RowKit E3
set_option linter.unusedSimpArgs false
set_option linter.unusedVariables false

def bA : ByteArray := ⟨#[102, 110, 32]⟩
def bB : ByteArray := ⟨#[32, 40, 32, 120, 32, 41, 32, 123, 32, 114, 101, 116, 117, 114, 110, 32]⟩
def bC : ByteArray := ⟨#[32, 40, 32, 120, 32, 43, 32, 49, 32, 41, 32, 59, 32, 125, 32]⟩
def bD : ByteArray := ⟨#[32, 40, 32, 120, 32, 41, 32, 123, 32, 114, 101, 116, 117, 114, 110, 32, 120, 32, 59, 32, 125, 32]⟩
def bH : ByteArray := ⟨#[102, 110, 32, 109, 97, 105, 110, 32, 40, 32, 41, 32, 123, 32, 114, 101, 116, 117, 114, 110, 32, 97, 32, 40, 32, 53, 32, 41, 32, 59, 32, 125, 32]⟩
def nm (k : Nat) : ByteArray := ⟨#[UInt8.ofNat k]⟩
/-- the text of the first i functions of n -/
def T (n : Nat) : Nat → ByteArray
  | 0 => bH
  | i + 1 => if i + 1 < n then T n i ++ bA ++ nm (97 + i) ++ bB ++ nm (98 + i) ++ bC else T n i ++ bA ++ nm (97 + i) ++ bD
def textI (n : Nat) : Nat → List UInt8
  | 0 => bH.data.toList
  | i + 1 => if i + 1 < n then textI n i ++ (bA.data.toList ++ (UInt8.ofNat (97 + i) :: (bB.data.toList ++ (UInt8.ofNat (98 + i) :: bC.data.toList)))) else textI n i ++ (bA.data.toList ++ (UInt8.ofNat (97 + i) :: bD.data.toList))
theorem T_text (n : Nat) : ∀ i, (T n i).data.toList = textI n i
  | 0 => rfl
  | i + 1 => by
    unfold T textI
    split
    · simp [T_text n i, nm]
    · simp [T_text n i, nm]
theorem T_size (n : Nat) : ∀ i, (T n i).size ≤ 33 + 36 * i
  | 0 => (by decide : bH.size ≤ 33)
  | i + 1 => by
    have := T_size n i
    have e1 : bA.size = 3 := by decide
    have e2 : bB.size = 16 := by decide
    have e3 : bC.size = 15 := by decide
    have e4 : bD.size = 22 := by decide
    have e5 : ∀ k, (nm k).size = 1 := fun _ => rfl
    unfold T
    split <;> simp only [ByteArray.size_append, e1, e2, e3, e4, e5] <;> omega

theorem red_nat' (a : Int) (m : Nat) (h0 : 0 < m) (h1 : (m : Int) < 65536) : ∃ n : Nat, n < m ∧ (bits BinOp.and IntKind.i64 a 65535).tmod m = (n : Int) := by
  have hlt := E3.maskd_lt a 16 (by omega)
  have key : bits BinOp.and IntKind.i64 a 65535 = ((E3.maskd a 16 : Nat) : Int) := by
    show IntKind.i64.wrap ((E3.maskd a 16 : Nat) : Int) = _
    rw [E3.i64_wrap_small (by omega) (by omega)]
  refine ⟨E3.maskd a 16 % m, Nat.mod_lt _ h0, ?_⟩
  rw [key, Int.tmod_eq_emod_of_nonneg (by omega)]
  exact (Int.natCast_emod _ _).symm


theorem and_nat (z : Int) (m : Nat) (hm : m ≤ 62) (c : Int) (hc : c = ((2 ^ m - 1 : Nat) : Int)) : ∃ n : Nat, n < 2 ^ m ∧ bits BinOp.and IntKind.i64 z c = (n : Int) := by
  have hlt := E3.maskd_lt z m hm
  have hp := E3.pow_bd hm
  refine ⟨E3.maskd z m, hlt, ?_⟩
  subst hc
  show IntKind.i64.wrap ((E3.maskd z m : Nat) : Int) = _
  rw [E3.i64_wrap_small (by omega) (by omega)]

theorem run_cat {P : Program} {x y : ByteArray} (h : x.size + y.size ≤ 1000) (w : World) (t : TypeId) (p q : Operand) : (do eqGuard .add t p q (.string x) (.string y); binOp .add t (.string x) (.string y) : Sem Value).run P w = .ok (.string (x ++ y)) w := by
  have h2 : ¬ ((x.size + y.size : Nat) : Int) > IntKind.i64.max := by
    have e : IntKind.i64.max = 9223372036854775807 := by decide
    rw [e]
    omega
  simp only [eqGuard, binOp, Op.stringOp]
  rw [if_neg h2]
  simp


/-- what the two stages say, for each number of functions and each depth -/
def Staged : Prop := ∀ (m D : Nat) (w : World), m < 10 → D < 16 → Calls Tryz.prog 14 #[.string (T (m + 1) (m + 1))] w fun e w1 => ∃ (a : Addr) (len cap : Nat), e = .returned (.tuple #[.agg #[.slice (some a) len cap, .int .i64 0], .bool true]) ∧ Below w.heap.size w w1 ∧
  ∀ w2, Below w1.heap.size w1 w2 → Calls Tryz.prog 15 #[.agg #[.slice (some a) len cap, .int .i64 0], .int .i64 60, .int .i64 D] w2 (LaidOpen (m + 1) (if m + 1 ≤ min D 8 then 0 else 1) w2)

theorem four : ∀ {l : List Value}, l.length = 4 → ∃ a b c d, l = [a, b, c, d]
  | [a, b, c, d], _ => ⟨a, b, c, d, rfl⟩

theorem conv_nm (w : World) (k : Nat) (x : Int) (hx : x = (k : Int)) (b : Nat) (hb : b = w.heap.size) : (convert 47 9 (.slice (some ⟨b, 0, none⟩) 1 1)).run Tryz.prog (w.alloc (.cells #[.int .u8 x] 5)) = .ok (.string (nm k)) (w.alloc (.cells #[.int .u8 x] 5)) := by
  subst hx hb
  rw [run_convert_bytes_string _ 47 9 5 _ _ _ Tryz.underlying47 Tryz.underlying5 Tryz.underlying9]
  have hload := run_loadCells_list (P := Tryz.prog) (w.alloc (.cells #[.int .u8 (k : Int)] 5)) ⟨w.heap.size, 0, none⟩ [.int .u8 (k : Int)] (fun j v hj => by
    rw [add_eq]
    cases j with
    | zero =>
      simp only [List.getElem?_cons_zero, Option.some.injEq] at hj
      subst hj
      simp [go_sem]
    | succ j => simp at hj)
  rw [run_bytesToString _ _ 1 _ [(k : Int)] hload]
  rfl

end Go.Proofs.YtplnnlnkcfappaaGreat.Sv
