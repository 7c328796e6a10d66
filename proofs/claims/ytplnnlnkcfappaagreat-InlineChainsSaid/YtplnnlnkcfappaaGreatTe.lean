/- The machine with a stack: what was reckoned holds; sums, differences, orders. -/
import Derived.Test.YtplnnlnkcfappaaGreatTd
namespace Go.Proofs.YtplnnlnkcfappaaGreat.Sv
open Go.RowKit E3
set_option linter.unusedSimpArgs false
set_option linter.unusedVariables false

noncomputable def allN (n : Nat) (f : Nat → Bool) : Bool := Nat.rec (motive := fun _ => Bool) true (fun k ih => te (f k) ih false) n
theorem allN_some {f : Nat → Bool} : ∀ {n : Nat}, allN n f = true → ∀ k, k < n → f k = true
  | 0, _, k, hk => absurd hk (Nat.not_lt_zero _)
  | n + 1, h, k, hk => by
    obtain ⟨h1, h2⟩ := both (show te (f n) (allN n f) false = true from h)
    rcases Nat.lt_succ_iff_lt_or_eq.1 hk with hk | rfl
    · exact allN_some h2 k hk
    · exact h1

theorem pushRow_true : ∀ h, h < 3 → isTrue (epushRow h) = true := allN_some (show allN 3 (fun h => isTrue (epushRow h)) = true by kernel_rfl)
theorem pushNil_true : isTrue epushNil = true := by kernel_rfl
theorem popRow_true : ∀ h, h < 4 → ∀ n, n < h → isTrue (epopRow h (n + 1)) = true := fun h hh n hn =>
  allN_some (allN_some (show allN 4 (fun h => allN h fun n => isTrue (epopRow h (Nat.succ n))) = true by kernel_rfl) h hh) n hn
theorem constRow_true : ∀ nc, nc < 6 → ∀ i, i < nc → ∀ h, h < 3 → isTrue (econstRow h nc i) = true := fun nc h1 i h2 h h3 =>
  allN_some (allN_some (allN_some (show allN 6 (fun nc => allN nc fun i => allN 3 fun h => isTrue (econstRow h nc i)) = true by kernel_rfl) nc h1) i h2) h h3
theorem constNil_true : ∀ nc, nc < 6 → ∀ i, i < nc → isTrue (econstNil nc i) = true := fun nc h1 i h2 =>
  allN_some (allN_some (show allN 6 (fun nc => allN nc fun i => isTrue (econstNil nc i)) = true by kernel_rfl) nc h1) i h2
theorem loadRow_true : ∀ nl, nl < 3 → ∀ i, i < nl → ∀ h, h < 3 → isTrue (eloadRow h nl i) = true := fun nl h1 i h2 h h3 =>
  allN_some (allN_some (allN_some (show allN 3 (fun nl => allN nl fun i => allN 3 fun h => isTrue (eloadRow h nl i)) = true by kernel_rfl) nl h1) i h2) h h3
theorem loadNil_true : ∀ nl, nl < 3 → ∀ i, i < nl → isTrue (eloadNil nl i) = true := fun nl h1 i h2 =>
  allN_some (allN_some (show allN 3 (fun nl => allN nl fun i => isTrue (eloadNil nl i)) = true by kernel_rfl) nl h1) i h2
theorem storeRow_true : ∀ i, i < 2 → isTrue (estoreRow 1 2 i) = true := allN_some (show allN 2 (fun i => isTrue (estoreRow 1 2 i)) = true by kernel_rfl)

/-- what is known of two numbers (8, 9) and what comes of them (10) -/
noncomputable def knB (op : BinOp) (bx bY bz lt gt : Bool) : List Known2 :=
  [(.eql, .sym 8, .nat 0, .bool bx), (.eql, .sym 9, .nat 0, .bool bY), (.eql, .sym 10, .nat 0, .bool bz), (.neq, .sym 8, .sym 8, .bool false), (.neq, .sym 9, .sym 9, .bool false),
   (.lss, .sym 8, .sym 9, .bool lt), (.lss, .sym 9, .sym 8, .bool gt), (.gtr, .sym 8, .sym 9, .bool gt), (.eql, .sym 8, .sym 9, .bool (te lt false (te gt false true))), (.neq, .sym 8, .sym 9, .bool (te lt true gt)), (op, .sym 8, .sym 9, .sym 10)]
noncomputable def six (f : Bool → Bool → Bool → Bool → Bool → Bool) : Bool := te (f true true true false false) (te (f true false false true false) (te (f false true false false true) (te (f false false false true false) (te (f false false false false true) (f false false false false false) false) false) false) false) false
theorem add_true : six (fun bx bY bz lt gt => isTrue (ebinRow 2 1 (ocL (knB .add bx bY bz lt gt)) (.sym 10))) = true := by kernel_rfl
theorem eq_true : six (fun bx bY bz lt gt => isTrue (ebinRow 2 6 (ocL (knB .add bx bY bz lt gt)) (.nat (te (te lt true gt) 0 1)))) = true := by kernel_rfl
theorem lt_true : six (fun bx bY bz lt gt => isTrue (ebinRow 2 8 (ocL (knB .add bx bY bz lt gt)) (.nat (te lt 1 0)))) = true := by kernel_rfl
theorem sub_true : te (isTrue (ebinRow 3 2 (ocL (knB .sub true true true false false)) (.sym 10))) (te (isTrue (ebinRow 3 2 (ocL (knB .sub false true false false true)) (.sym 10))) (te (isTrue (ebinRow 3 2 (ocL (knB .sub false false false false true)) (.sym 10))) (isTrue (ebinRow 3 2 (ocL (knB .sub false false true false false)) (.sym 10))) false) false) false = true := by kernel_rfl

end Go.Proofs.YtplnnlnkcfappaaGreat.Sv
