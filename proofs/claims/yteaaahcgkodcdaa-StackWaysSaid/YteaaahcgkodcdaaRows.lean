/-
  No cell of these rows narrows 'for every input' (looked for: loops, veiled, ifaces, maps, wideKeys, modest, calm, conditions, laid).
  DERIVED. THE GIVEN ROWS OF THIS SEAT. 8 by the template 'for every input the law returns true; each argument reads behind the call as it read before'; 0 by the template 'total and deterministic' (their statements: YteaaahcgkodcdaaTotals.lean).
  GIVEN WITH THE SEED: the statements are not yours to turn. If you find one false, say at which input.
  Laid BY PROGRAM, IN A SANDBOX (cutbox-rows.mjs): the forced cells as the released guide's own fill.sh prints them over the translation 49c4bddfc646e8b8… (all of the seat's roots in one cut). By AI agents, Wed Nov 11 2026. No macro, syntax, notation, axiom, sorry.
-/
import Derived.Test.YteaaahcgkodcdaaChecked
import GoSem.Claim
import GoSem.ClaimJoined
import GoSem.ClaimMapViews
import Derived.JoinedTies
import Derived.KernelRfl
namespace Go.Proofs.Yteaaahcgkodcdaa
/- THE CELL 'sum', in the pinned program and in every row, IS THE sha256 OF THE DUMP (.gsa) THAT YteaaahcgkodcdaaProg.lean LOADS. Nothing in Lean hashes anything: it is a label: what it is worth is what the hold of that sum in a sandbox is worth. -/
noncomputable def Try.pinned : Pinned := { name := "yteaaahcgkodcdaa", sum := "49c4bddfc646e8b8a6e6f24a2072379312e4c9eac3ffbb002cd913e8f3f80ce9", checked := Try.checked }
namespace Rows
def none {H : Type} : Left H := { results := [], args := [] }

/-- 'ratlinelaw22.EncOps': WHATEVER THE INPUT: true; the input reads as it did. -/
def encOpsSpec : ChangeSpec := { name := "encOps", fn := fun _ => fun
  | [d1, d2, d3, d4, d5] => { results := [.lit (.bool true)], args := [d1, d2, d3, d4, d5] }
  | _ => none }
def encOpsRow : OpenClaim := { program := "yteaaahcgkodcdaa", sum := "49c4bddfc646e8b8a6e6f24a2072379312e4c9eac3ffbb002cd913e8f3f80ce9", func := "ratline/ratlinelaw22.EncOps", spec := "encOps", unfollowed := true, recurses := true, apart := false }
def EncOpsSaid : Prop := encOpsRow.holds Try.pinned (OpenSpec.ofChange encOpsSpec)

/-- ITS FALSE NEIGHBOUR: 'it returns false'. Refute it at one input. -/
def encOpsWrong : ChangeSpec := { name := "encOps", fn := fun _ => fun
  | [d1, d2, d3, d4, d5] => { results := [.lit (.bool false)], args := [d1, d2, d3, d4, d5] }
  | _ => none }
def EncOpsWrongFalsely : Prop := encOpsRow.holds Try.pinned (OpenSpec.ofChange encOpsWrong)

/-- 'ratlinelaw22.EncOne': WHATEVER THE INPUT: true; the input reads as it did. -/
def encOneSpec : ChangeSpec := { name := "encOne", fn := fun _ => fun
  | [d1, d2] => { results := [.lit (.bool true)], args := [d1, d2] }
  | _ => none }
def encOneRow : OpenClaim := { program := "yteaaahcgkodcdaa", sum := "49c4bddfc646e8b8a6e6f24a2072379312e4c9eac3ffbb002cd913e8f3f80ce9", func := "ratline/ratlinelaw22.EncOne", spec := "encOne", apart := false }
def EncOneSaid : Prop := encOneRow.holds Try.pinned (OpenSpec.ofChange encOneSpec)

/-- ITS FALSE NEIGHBOUR: 'it returns false'. Refute it at one input. -/
def encOneWrong : ChangeSpec := { name := "encOne", fn := fun _ => fun
  | [d1, d2] => { results := [.lit (.bool false)], args := [d1, d2] }
  | _ => none }
def EncOneWrongFalsely : Prop := encOneRow.holds Try.pinned (OpenSpec.ofChange encOneWrong)

/-- 'ratlinelaw22.EncFields': WHATEVER THE INPUT: true; the input reads as it did. -/
def encFieldsSpec : ChangeSpec := { name := "encFields", fn := fun _ => fun
  | [d1, d2, d3] => { results := [.lit (.bool true)], args := [d1, d2, d3] }
  | _ => none }
def encFieldsRow : OpenClaim := { program := "yteaaahcgkodcdaa", sum := "49c4bddfc646e8b8a6e6f24a2072379312e4c9eac3ffbb002cd913e8f3f80ce9", func := "ratline/ratlinelaw22.EncFields", spec := "encFields", apart := false }
def EncFieldsSaid : Prop := encFieldsRow.holds Try.pinned (OpenSpec.ofChange encFieldsSpec)

/-- ITS FALSE NEIGHBOUR: 'it returns false'. Refute it at one input. -/
def encFieldsWrong : ChangeSpec := { name := "encFields", fn := fun _ => fun
  | [d1, d2, d3] => { results := [.lit (.bool false)], args := [d1, d2, d3] }
  | _ => none }
def EncFieldsWrongFalsely : Prop := encFieldsRow.holds Try.pinned (OpenSpec.ofChange encFieldsWrong)

/-- 'ratlinelaw22.EncCode': WHATEVER THE INPUT: true; the input reads as it did. -/
def encCodeSpec : ChangeSpec := { name := "encCode", fn := fun _ => fun
  | [d1, d2] => { results := [.lit (.bool true)], args := [d1, d2] }
  | _ => none }
def encCodeRow : OpenClaim := { program := "yteaaahcgkodcdaa", sum := "49c4bddfc646e8b8a6e6f24a2072379312e4c9eac3ffbb002cd913e8f3f80ce9", func := "ratline/ratlinelaw22.EncCode", spec := "encCode", apart := false }
def EncCodeSaid : Prop := encCodeRow.holds Try.pinned (OpenSpec.ofChange encCodeSpec)

/-- ITS FALSE NEIGHBOUR: 'it returns false'. Refute it at one input. -/
def encCodeWrong : ChangeSpec := { name := "encCode", fn := fun _ => fun
  | [d1, d2] => { results := [.lit (.bool false)], args := [d1, d2] }
  | _ => none }
def EncCodeWrongFalsely : Prop := encCodeRow.holds Try.pinned (OpenSpec.ofChange encCodeWrong)

/-- 'ratlinelaw7.StackWays': WHATEVER THE INPUT: true; the input reads as it did. -/
def stackWaysSpec : ChangeSpec := { name := "stackWays", fn := fun _ => fun
  | [d1, d2] => { results := [.lit (.bool true)], args := [d1, d2] }
  | _ => none }
def stackWaysRow : OpenClaim := { program := "yteaaahcgkodcdaa", sum := "49c4bddfc646e8b8a6e6f24a2072379312e4c9eac3ffbb002cd913e8f3f80ce9", func := "ratline/ratlinelaw7.StackWays", spec := "stackWays", inPlace := ["math.Float64bits", "math.Float64frombits"], unfollowed := true, recurses := true, apart := false }
def StackWaysSaid : Prop := stackWaysRow.holds Try.pinned (OpenSpec.ofChange stackWaysSpec)

/-- ITS FALSE NEIGHBOUR: 'it returns false'. Refute it at one input. -/
def stackWaysWrong : ChangeSpec := { name := "stackWays", fn := fun _ => fun
  | [d1, d2] => { results := [.lit (.bool false)], args := [d1, d2] }
  | _ => none }
def StackWaysWrongFalsely : Prop := stackWaysRow.holds Try.pinned (OpenSpec.ofChange stackWaysWrong)

/-- 'ratlinelaw7.StackTicks': WHATEVER THE INPUT: true; the input reads as it did. -/
def stackTicksSpec : ChangeSpec := { name := "stackTicks", fn := fun _ => fun
  | [d1, d2, d3] => { results := [.lit (.bool true)], args := [d1, d2, d3] }
  | _ => none }
def stackTicksRow : OpenClaim := { program := "yteaaahcgkodcdaa", sum := "49c4bddfc646e8b8a6e6f24a2072379312e4c9eac3ffbb002cd913e8f3f80ce9", func := "ratline/ratlinelaw7.StackTicks", spec := "stackTicks", inPlace := ["math.Float64bits", "math.Float64frombits"], unfollowed := true, recurses := true, apart := false }
def StackTicksSaid : Prop := stackTicksRow.holds Try.pinned (OpenSpec.ofChange stackTicksSpec)

/-- ITS FALSE NEIGHBOUR: 'it returns false'. Refute it at one input. -/
def stackTicksWrong : ChangeSpec := { name := "stackTicks", fn := fun _ => fun
  | [d1, d2, d3] => { results := [.lit (.bool false)], args := [d1, d2, d3] }
  | _ => none }
def StackTicksWrongFalsely : Prop := stackTicksRow.holds Try.pinned (OpenSpec.ofChange stackTicksWrong)

/-- 'ratlinelaw7.StackForms': WHATEVER THE INPUT: true; the input reads as it did. -/
def stackFormsSpec : ChangeSpec := { name := "stackForms", fn := fun _ => fun
  | [d1, d2] => { results := [.lit (.bool true)], args := [d1, d2] }
  | _ => none }
def stackFormsRow : OpenClaim := { program := "yteaaahcgkodcdaa", sum := "49c4bddfc646e8b8a6e6f24a2072379312e4c9eac3ffbb002cd913e8f3f80ce9", func := "ratline/ratlinelaw7.StackForms", spec := "stackForms", inPlace := ["math.Float64bits", "math.Float64frombits"], unfollowed := true, recurses := true, apart := false }
def StackFormsSaid : Prop := stackFormsRow.holds Try.pinned (OpenSpec.ofChange stackFormsSpec)

/-- ITS FALSE NEIGHBOUR: 'it returns false'. Refute it at one input. -/
def stackFormsWrong : ChangeSpec := { name := "stackForms", fn := fun _ => fun
  | [d1, d2] => { results := [.lit (.bool false)], args := [d1, d2] }
  | _ => none }
def StackFormsWrongFalsely : Prop := stackFormsRow.holds Try.pinned (OpenSpec.ofChange stackFormsWrong)

/-- 'ratlinelaw7.StackGrows': WHATEVER THE INPUT: true; the input reads as it did. -/
def stackGrowsSpec : ChangeSpec := { name := "stackGrows", fn := fun _ => fun
  | [d1, d2] => { results := [.lit (.bool true)], args := [d1, d2] }
  | _ => none }
def stackGrowsRow : OpenClaim := { program := "yteaaahcgkodcdaa", sum := "49c4bddfc646e8b8a6e6f24a2072379312e4c9eac3ffbb002cd913e8f3f80ce9", func := "ratline/ratlinelaw7.StackGrows", spec := "stackGrows", inPlace := ["math.Float64bits", "math.Float64frombits"], unfollowed := true, recurses := true, apart := false }
def StackGrowsSaid : Prop := stackGrowsRow.holds Try.pinned (OpenSpec.ofChange stackGrowsSpec)

/-- ITS FALSE NEIGHBOUR: 'it returns false'. Refute it at one input. -/
def stackGrowsWrong : ChangeSpec := { name := "stackGrows", fn := fun _ => fun
  | [d1, d2] => { results := [.lit (.bool false)], args := [d1, d2] }
  | _ => none }
def StackGrowsWrongFalsely : Prop := stackGrowsRow.holds Try.pinned (OpenSpec.ofChange stackGrowsWrong)

/- THE SECOND FORM. 'bulk': how many values and letters a reading holds, each counted each time it is reached (what is shared counts as often as it is met; a slice's spare places count too). A statement '..UptoSaid' is the law's where the arguments, and the package variables that the reading takes, are together of bulk at most 1048576: NARROWER than '..Said'. Prove '..Said' where nothing that the law and all that it calls make is longer than what came in: it says more and counts as full. Else prove '..UptoSaid'. A law counts once. -/
mutual
def uptoBulk {H : Type} : DataW H → Nat
  | .lit (.string bytes) => bytes.length + 1
  | .lit _ => 1
  | .nil => 1
  | .ptr d => uptoBulk d + 1
  | .slice elems spare => uptoBulkAll elems + uptoBulkAll spare + 1
  | .agg parts => uptoBulkAll parts + 1
  | .iface _ d => uptoBulk d + 1
  | .map entries => uptoBulkEntries entries + 1
  | .held _ => 1
def uptoBulkAll {H : Type} : List (DataW H) → Nat
  | [] => 0
  | d :: r => uptoBulk d + uptoBulkAll r
def uptoBulkEntries {H : Type} : List (Lit × DataW H) → Nat
  | [] => 0
  | x :: r => uptoBulkEntry x + uptoBulkEntries r
def uptoBulkEntry {H : Type} : Lit × DataW H → Nat
  | (.string bytes, d) => bytes.length + uptoBulk d + 1
  | (_, d) => uptoBulk d + 1
 end
def uptoSmall : (H : Type) → List (DataW H) → Bool := fun _ ds => decide (uptoBulkAll ds ≤ 1048576)
def OpenSpec.upto (s : _root_.Go.ChangeSpec) : _root_.Go.OpenSpec := { _root_.Go.OpenSpec.ofChange s with cond := some uptoSmall }

/-- 'ratlinelaw22.EncOps', WHERE WHAT IT READS IS OF BULK AT MOST 1048576: true; the input reads as it did. -/
def encOpsUptoRow : OpenClaim := { program := "yteaaahcgkodcdaa", sum := "49c4bddfc646e8b8a6e6f24a2072379312e4c9eac3ffbb002cd913e8f3f80ce9", func := "ratline/ratlinelaw22.EncOps", spec := "encOps", unfollowed := true, recurses := true, apart := false, narrowed := true }
def EncOpsUptoSaid : Prop := encOpsUptoRow.holds Try.pinned (OpenSpec.upto encOpsSpec)

/-- 'ratlinelaw22.EncOne', WHERE WHAT IT READS IS OF BULK AT MOST 1048576: true; the input reads as it did. -/
def encOneUptoRow : OpenClaim := { program := "yteaaahcgkodcdaa", sum := "49c4bddfc646e8b8a6e6f24a2072379312e4c9eac3ffbb002cd913e8f3f80ce9", func := "ratline/ratlinelaw22.EncOne", spec := "encOne", apart := false, narrowed := true }
def EncOneUptoSaid : Prop := encOneUptoRow.holds Try.pinned (OpenSpec.upto encOneSpec)

/-- 'ratlinelaw22.EncFields', WHERE WHAT IT READS IS OF BULK AT MOST 1048576: true; the input reads as it did. -/
def encFieldsUptoRow : OpenClaim := { program := "yteaaahcgkodcdaa", sum := "49c4bddfc646e8b8a6e6f24a2072379312e4c9eac3ffbb002cd913e8f3f80ce9", func := "ratline/ratlinelaw22.EncFields", spec := "encFields", apart := false, narrowed := true }
def EncFieldsUptoSaid : Prop := encFieldsUptoRow.holds Try.pinned (OpenSpec.upto encFieldsSpec)

/-- 'ratlinelaw22.EncCode', WHERE WHAT IT READS IS OF BULK AT MOST 1048576: true; the input reads as it did. -/
def encCodeUptoRow : OpenClaim := { program := "yteaaahcgkodcdaa", sum := "49c4bddfc646e8b8a6e6f24a2072379312e4c9eac3ffbb002cd913e8f3f80ce9", func := "ratline/ratlinelaw22.EncCode", spec := "encCode", apart := false, narrowed := true }
def EncCodeUptoSaid : Prop := encCodeUptoRow.holds Try.pinned (OpenSpec.upto encCodeSpec)

/-- 'ratlinelaw7.StackWays', WHERE WHAT IT READS IS OF BULK AT MOST 1048576: true; the input reads as it did. -/
def stackWaysUptoRow : OpenClaim := { program := "yteaaahcgkodcdaa", sum := "49c4bddfc646e8b8a6e6f24a2072379312e4c9eac3ffbb002cd913e8f3f80ce9", func := "ratline/ratlinelaw7.StackWays", spec := "stackWays", inPlace := ["math.Float64bits", "math.Float64frombits"], unfollowed := true, recurses := true, apart := false, narrowed := true }
def StackWaysUptoSaid : Prop := stackWaysUptoRow.holds Try.pinned (OpenSpec.upto stackWaysSpec)

/-- 'ratlinelaw7.StackTicks', WHERE WHAT IT READS IS OF BULK AT MOST 1048576: true; the input reads as it did. -/
def stackTicksUptoRow : OpenClaim := { program := "yteaaahcgkodcdaa", sum := "49c4bddfc646e8b8a6e6f24a2072379312e4c9eac3ffbb002cd913e8f3f80ce9", func := "ratline/ratlinelaw7.StackTicks", spec := "stackTicks", inPlace := ["math.Float64bits", "math.Float64frombits"], unfollowed := true, recurses := true, apart := false, narrowed := true }
def StackTicksUptoSaid : Prop := stackTicksUptoRow.holds Try.pinned (OpenSpec.upto stackTicksSpec)

/-- 'ratlinelaw7.StackForms', WHERE WHAT IT READS IS OF BULK AT MOST 1048576: true; the input reads as it did. -/
def stackFormsUptoRow : OpenClaim := { program := "yteaaahcgkodcdaa", sum := "49c4bddfc646e8b8a6e6f24a2072379312e4c9eac3ffbb002cd913e8f3f80ce9", func := "ratline/ratlinelaw7.StackForms", spec := "stackForms", inPlace := ["math.Float64bits", "math.Float64frombits"], unfollowed := true, recurses := true, apart := false, narrowed := true }
def StackFormsUptoSaid : Prop := stackFormsUptoRow.holds Try.pinned (OpenSpec.upto stackFormsSpec)

/-- 'ratlinelaw7.StackGrows', WHERE WHAT IT READS IS OF BULK AT MOST 1048576: true; the input reads as it did. -/
def stackGrowsUptoRow : OpenClaim := { program := "yteaaahcgkodcdaa", sum := "49c4bddfc646e8b8a6e6f24a2072379312e4c9eac3ffbb002cd913e8f3f80ce9", func := "ratline/ratlinelaw7.StackGrows", spec := "stackGrows", inPlace := ["math.Float64bits", "math.Float64frombits"], unfollowed := true, recurses := true, apart := false, narrowed := true }
def StackGrowsUptoSaid : Prop := stackGrowsUptoRow.holds Try.pinned (OpenSpec.upto stackGrowsSpec)

end Rows
end Go.Proofs.Yteaaahcgkodcdaa
