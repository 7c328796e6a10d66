/-
  No cell of these rows narrows 'for every input' (looked for: loops, veiled, ifaces, maps, wideKeys, modest, calm, conditions, laid).
  DERIVED. THE GIVEN ROWS OF THIS SEAT. 8 by the template 'for every input the law returns true; each argument reads behind the call as it read before'; 0 by the template 'total and deterministic' (their statements: YtplnnlnkcfappaaGreatTotals.lean).
  GIVEN WITH THE SEED: the statements are not yours to turn. If you find one false, say at which input.
  Laid BY PROGRAM, IN A SANDBOX (cutbox-rows.mjs): the forced cells as the released guide's own fill.sh prints them over the translation 3953c221e13913b8… (all of the seat's roots in one cut). By AI agents, Wed Nov 11 2026. No macro, syntax, notation, axiom, sorry.
-/
import Derived.Test.YtplnnlnkcfappaaGreatChecked
import GoSem.Claim
import GoSem.ClaimJoined
import GoSem.ClaimMapViews
import Derived.JoinedTies
import Derived.KernelRfl
namespace Go.Proofs.YtplnnlnkcfappaaGreat
/- THE CELL 'sum', in the pinned program and in every row, IS THE sha256 OF THE DUMP (.gsa) THAT YtplnnlnkcfappaaGreatProg.lean LOADS. Nothing in Lean hashes anything: it is a label: what it is worth is what the hold of that sum in a sandbox is worth. -/
noncomputable def Tryz.pinned : Pinned := { name := "ytplnnlnkcfappaagreat", sum := "3953c221e13913b8227ff63dcd3a1948647ed7d116e5f99a0a8d48f2e6f5b750", checked := Tryz.checked }
namespace Rows
def none {H : Type} : Left H := { results := [], args := [] }

/-- 'ratlinelaw11.LiftCounts': WHATEVER THE INPUT: true; the input reads as it did. -/
def liftCountsSpec : ChangeSpec := { name := "liftCounts", fn := fun _ => fun
  | [d] => { results := [.lit (.bool true)], args := [d] }
  | _ => none }
def liftCountsRow : OpenClaim := { program := "ytplnnlnkcfappaagreat", sum := "3953c221e13913b8227ff63dcd3a1948647ed7d116e5f99a0a8d48f2e6f5b750", func := "ratline/ratlinelaw11.LiftCounts", spec := "liftCounts", inPlace := ["math.Float64bits", "math.Float64frombits"], unfollowed := true, recurses := true, plainKeys := false, apart := false }
def LiftCountsSaid : Prop := liftCountsRow.holds Tryz.pinned (OpenSpec.ofChange liftCountsSpec)

/-- ITS FALSE NEIGHBOUR: 'it returns false'. Refute it at one input. -/
def liftCountsWrong : ChangeSpec := { name := "liftCounts", fn := fun _ => fun
  | [d] => { results := [.lit (.bool false)], args := [d] }
  | _ => none }
def LiftCountsWrongFalsely : Prop := liftCountsRow.holds Tryz.pinned (OpenSpec.ofChange liftCountsWrong)

/-- 'ratlinelaw17.InlineChains': WHATEVER THE INPUT: true; the input reads as it did. -/
def inlineChainsSpec : ChangeSpec := { name := "inlineChains", fn := fun _ => fun
  | [d1, d2] => { results := [.lit (.bool true)], args := [d1, d2] }
  | _ => none }
def inlineChainsRow : OpenClaim := { program := "ytplnnlnkcfappaagreat", sum := "3953c221e13913b8227ff63dcd3a1948647ed7d116e5f99a0a8d48f2e6f5b750", func := "ratline/ratlinelaw17.InlineChains", spec := "inlineChains", inPlace := ["math.Float64bits", "math.Float64frombits"], unfollowed := true, recurses := true, plainKeys := false, apart := false }
def InlineChainsSaid : Prop := inlineChainsRow.holds Tryz.pinned (OpenSpec.ofChange inlineChainsSpec)

/-- ITS FALSE NEIGHBOUR: 'it returns false'. Refute it at one input. -/
def inlineChainsWrong : ChangeSpec := { name := "inlineChains", fn := fun _ => fun
  | [d1, d2] => { results := [.lit (.bool false)], args := [d1, d2] }
  | _ => none }
def InlineChainsWrongFalsely : Prop := inlineChainsRow.holds Tryz.pinned (OpenSpec.ofChange inlineChainsWrong)

/-- 'ratlinelaw9.SvmLoops': WHATEVER THE INPUT: true; the input reads as it did. -/
def svmLoopsSpec : ChangeSpec := { name := "svmLoops", fn := fun _ => fun
  | [d1, d2, d3] => { results := [.lit (.bool true)], args := [d1, d2, d3] }
  | _ => none }
def svmLoopsRow : OpenClaim := { program := "ytplnnlnkcfappaagreat", sum := "3953c221e13913b8227ff63dcd3a1948647ed7d116e5f99a0a8d48f2e6f5b750", func := "ratline/ratlinelaw9.SvmLoops", spec := "svmLoops", inPlace := ["math.Float64bits", "math.Float64frombits"], unfollowed := true, recurses := true, plainKeys := false, apart := false }
def SvmLoopsSaid : Prop := svmLoopsRow.holds Tryz.pinned (OpenSpec.ofChange svmLoopsSpec)

/-- ITS FALSE NEIGHBOUR: 'it returns false'. Refute it at one input. -/
def svmLoopsWrong : ChangeSpec := { name := "svmLoops", fn := fun _ => fun
  | [d1, d2, d3] => { results := [.lit (.bool false)], args := [d1, d2, d3] }
  | _ => none }
def SvmLoopsWrongFalsely : Prop := svmLoopsRow.holds Tryz.pinned (OpenSpec.ofChange svmLoopsWrong)

/-- 'ratlinelaw9.SvmShorts': WHATEVER THE INPUT: true; the input reads as it did. -/
def svmShortsSpec : ChangeSpec := { name := "svmShorts", fn := fun _ => fun
  | [d1, d2, d3] => { results := [.lit (.bool true)], args := [d1, d2, d3] }
  | _ => none }
def svmShortsRow : OpenClaim := { program := "ytplnnlnkcfappaagreat", sum := "3953c221e13913b8227ff63dcd3a1948647ed7d116e5f99a0a8d48f2e6f5b750", func := "ratline/ratlinelaw9.SvmShorts", spec := "svmShorts", inPlace := ["math.Float64bits", "math.Float64frombits"], unfollowed := true, recurses := true, plainKeys := false, apart := false }
def SvmShortsSaid : Prop := svmShortsRow.holds Tryz.pinned (OpenSpec.ofChange svmShortsSpec)

/-- ITS FALSE NEIGHBOUR: 'it returns false'. Refute it at one input. -/
def svmShortsWrong : ChangeSpec := { name := "svmShorts", fn := fun _ => fun
  | [d1, d2, d3] => { results := [.lit (.bool false)], args := [d1, d2, d3] }
  | _ => none }
def SvmShortsWrongFalsely : Prop := svmShortsRow.holds Tryz.pinned (OpenSpec.ofChange svmShortsWrong)

/-- 'ratlinelaw9.SvmFuels': WHATEVER THE INPUT: true; the input reads as it did. -/
def svmFuelsSpec : ChangeSpec := { name := "svmFuels", fn := fun _ => fun
  | [d1, d2, d3] => { results := [.lit (.bool true)], args := [d1, d2, d3] }
  | _ => none }
def svmFuelsRow : OpenClaim := { program := "ytplnnlnkcfappaagreat", sum := "3953c221e13913b8227ff63dcd3a1948647ed7d116e5f99a0a8d48f2e6f5b750", func := "ratline/ratlinelaw9.SvmFuels", spec := "svmFuels", inPlace := ["math.Float64bits", "math.Float64frombits"], unfollowed := true, recurses := true, plainKeys := false, apart := false }
def SvmFuelsSaid : Prop := svmFuelsRow.holds Tryz.pinned (OpenSpec.ofChange svmFuelsSpec)

/-- ITS FALSE NEIGHBOUR: 'it returns false'. Refute it at one input. -/
def svmFuelsWrong : ChangeSpec := { name := "svmFuels", fn := fun _ => fun
  | [d1, d2, d3] => { results := [.lit (.bool false)], args := [d1, d2, d3] }
  | _ => none }
def SvmFuelsWrongFalsely : Prop := svmFuelsRow.holds Tryz.pinned (OpenSpec.ofChange svmFuelsWrong)

/-- 'ratlinelaw9.SvmCalls': WHATEVER THE INPUT: true; the input reads as it did. -/
def svmCallsSpec : ChangeSpec := { name := "svmCalls", fn := fun _ => fun
  | [d1, d2] => { results := [.lit (.bool true)], args := [d1, d2] }
  | _ => none }
def svmCallsRow : OpenClaim := { program := "ytplnnlnkcfappaagreat", sum := "3953c221e13913b8227ff63dcd3a1948647ed7d116e5f99a0a8d48f2e6f5b750", func := "ratline/ratlinelaw9.SvmCalls", spec := "svmCalls", inPlace := ["math.Float64bits", "math.Float64frombits"], unfollowed := true, recurses := true, plainKeys := false, apart := false }
def SvmCallsSaid : Prop := svmCallsRow.holds Tryz.pinned (OpenSpec.ofChange svmCallsSpec)

/-- ITS FALSE NEIGHBOUR: 'it returns false'. Refute it at one input. -/
def svmCallsWrong : ChangeSpec := { name := "svmCalls", fn := fun _ => fun
  | [d1, d2] => { results := [.lit (.bool false)], args := [d1, d2] }
  | _ => none }
def SvmCallsWrongFalsely : Prop := svmCallsRow.holds Tryz.pinned (OpenSpec.ofChange svmCallsWrong)

/-- 'ratlinelaw23.RvmSlots': WHATEVER THE INPUT: true; the input reads as it did. -/
def rvmSlotsSpec : ChangeSpec := { name := "rvmSlots", fn := fun _ => fun
  | [d] => { results := [.lit (.bool true)], args := [d] }
  | _ => none }
def rvmSlotsRow : OpenClaim := { program := "ytplnnlnkcfappaagreat", sum := "3953c221e13913b8227ff63dcd3a1948647ed7d116e5f99a0a8d48f2e6f5b750", func := "ratline/ratlinelaw23.RvmSlots", spec := "rvmSlots", inPlace := ["math.Float64bits", "math.Float64frombits"], unfollowed := true, recurses := true, plainKeys := false, apart := false }
def RvmSlotsSaid : Prop := rvmSlotsRow.holds Tryz.pinned (OpenSpec.ofChange rvmSlotsSpec)

/-- ITS FALSE NEIGHBOUR: 'it returns false'. Refute it at one input. -/
def rvmSlotsWrong : ChangeSpec := { name := "rvmSlots", fn := fun _ => fun
  | [d] => { results := [.lit (.bool false)], args := [d] }
  | _ => none }
def RvmSlotsWrongFalsely : Prop := rvmSlotsRow.holds Tryz.pinned (OpenSpec.ofChange rvmSlotsWrong)

/-- 'ratlinelaw23.RvmArgs': WHATEVER THE INPUT: true; the input reads as it did. -/
def rvmArgsSpec : ChangeSpec := { name := "rvmArgs", fn := fun _ => fun
  | [d1, d2] => { results := [.lit (.bool true)], args := [d1, d2] }
  | _ => none }
def rvmArgsRow : OpenClaim := { program := "ytplnnlnkcfappaagreat", sum := "3953c221e13913b8227ff63dcd3a1948647ed7d116e5f99a0a8d48f2e6f5b750", func := "ratline/ratlinelaw23.RvmArgs", spec := "rvmArgs", inPlace := ["math.Float64bits", "math.Float64frombits"], unfollowed := true, recurses := true, plainKeys := false, apart := false }
def RvmArgsSaid : Prop := rvmArgsRow.holds Tryz.pinned (OpenSpec.ofChange rvmArgsSpec)

/-- ITS FALSE NEIGHBOUR: 'it returns false'. Refute it at one input. -/
def rvmArgsWrong : ChangeSpec := { name := "rvmArgs", fn := fun _ => fun
  | [d1, d2] => { results := [.lit (.bool false)], args := [d1, d2] }
  | _ => none }
def RvmArgsWrongFalsely : Prop := rvmArgsRow.holds Tryz.pinned (OpenSpec.ofChange rvmArgsWrong)

/- THE SECOND FORM. 'bulk': how many values and letters a reading holds, each counted each time it is reached (what is shared counts as often as it is met; a slice's spare places count too). A statement '..UptoSaid' is the law's where the arguments, and the package variables that the reading takes, are together of bulk at most 1048576: NARROWER than '..Said'. Prove '..Said' where nothing that the law and all that it calls make is longer than what came in: it says more and counts as full. Else prove '..UptoSaid'. A law counts once. -/
mutual
def uptoBulk {H : Type} : DataW H → Nat
  | .lit (.string bytes) => bytes.length + 1
  | .lit _ => 1
  | .nil => 1
  | .ptr d => uptoBulk d + 1
  | .slice elems spare => uptoBulkAll elems + uptoBulkAll spare + 1
  | .agg parts => uptoBulkAll parts + 1
  | .iface _ d => uptoBulk d + 1
  | .map entries => uptoBulkEntries entries + 1
  | .held _ => 1
def uptoBulkAll {H : Type} : List (DataW H) → Nat
  | [] => 0
  | d :: r => uptoBulk d + uptoBulkAll r
def uptoBulkEntries {H : Type} : List (Lit × DataW H) → Nat
  | [] => 0
  | x :: r => uptoBulkEntry x + uptoBulkEntries r
def uptoBulkEntry {H : Type} : Lit × DataW H → Nat
  | (.string bytes, d) => bytes.length + uptoBulk d + 1
  | (_, d) => uptoBulk d + 1
 end
def uptoSmall : (H : Type) → List (DataW H) → Bool := fun _ ds => decide (uptoBulkAll ds ≤ 1048576)
def OpenSpec.upto (s : _root_.Go.ChangeSpec) : _root_.Go.OpenSpec := { _root_.Go.OpenSpec.ofChange s with cond := some uptoSmall }

/-- 'ratlinelaw11.LiftCounts', WHERE WHAT IT READS IS OF BULK AT MOST 1048576: true; the input reads as it did. -/
def liftCountsUptoRow : OpenClaim := { program := "ytplnnlnkcfappaagreat", sum := "3953c221e13913b8227ff63dcd3a1948647ed7d116e5f99a0a8d48f2e6f5b750", func := "ratline/ratlinelaw11.LiftCounts", spec := "liftCounts", inPlace := ["math.Float64bits", "math.Float64frombits"], unfollowed := true, recurses := true, plainKeys := false, apart := false, narrowed := true }
def LiftCountsUptoSaid : Prop := liftCountsUptoRow.holds Tryz.pinned (OpenSpec.upto liftCountsSpec)

/-- 'ratlinelaw17.InlineChains', WHERE WHAT IT READS IS OF BULK AT MOST 1048576: true; the input reads as it did. -/
def inlineChainsUptoRow : OpenClaim := { program := "ytplnnlnkcfappaagreat", sum := "3953c221e13913b8227ff63dcd3a1948647ed7d116e5f99a0a8d48f2e6f5b750", func := "ratline/ratlinelaw17.InlineChains", spec := "inlineChains", inPlace := ["math.Float64bits", "math.Float64frombits"], unfollowed := true, recurses := true, plainKeys := false, apart := false, narrowed := true }
def InlineChainsUptoSaid : Prop := inlineChainsUptoRow.holds Tryz.pinned (OpenSpec.upto inlineChainsSpec)

/-- 'ratlinelaw9.SvmLoops', WHERE WHAT IT READS IS OF BULK AT MOST 1048576: true; the input reads as it did. -/
def svmLoopsUptoRow : OpenClaim := { program := "ytplnnlnkcfappaagreat", sum := "3953c221e13913b8227ff63dcd3a1948647ed7d116e5f99a0a8d48f2e6f5b750", func := "ratline/ratlinelaw9.SvmLoops", spec := "svmLoops", inPlace := ["math.Float64bits", "math.Float64frombits"], unfollowed := true, recurses := true, plainKeys := false, apart := false, narrowed := true }
def SvmLoopsUptoSaid : Prop := svmLoopsUptoRow.holds Tryz.pinned (OpenSpec.upto svmLoopsSpec)

/-- 'ratlinelaw9.SvmShorts', WHERE WHAT IT READS IS OF BULK AT MOST 1048576: true; the input reads as it did. -/
def svmShortsUptoRow : OpenClaim := { program := "ytplnnlnkcfappaagreat", sum := "3953c221e13913b8227ff63dcd3a1948647ed7d116e5f99a0a8d48f2e6f5b750", func := "ratline/ratlinelaw9.SvmShorts", spec := "svmShorts", inPlace := ["math.Float64bits", "math.Float64frombits"], unfollowed := true, recurses := true, plainKeys := false, apart := false, narrowed := true }
def SvmShortsUptoSaid : Prop := svmShortsUptoRow.holds Tryz.pinned (OpenSpec.upto svmShortsSpec)

/-- 'ratlinelaw9.SvmFuels', WHERE WHAT IT READS IS OF BULK AT MOST 1048576: true; the input reads as it did. -/
def svmFuelsUptoRow : OpenClaim := { program := "ytplnnlnkcfappaagreat", sum := "3953c221e13913b8227ff63dcd3a1948647ed7d116e5f99a0a8d48f2e6f5b750", func := "ratline/ratlinelaw9.SvmFuels", spec := "svmFuels", inPlace := ["math.Float64bits", "math.Float64frombits"], unfollowed := true, recurses := true, plainKeys := false, apart := false, narrowed := true }
def SvmFuelsUptoSaid : Prop := svmFuelsUptoRow.holds Tryz.pinned (OpenSpec.upto svmFuelsSpec)

/-- 'ratlinelaw9.SvmCalls', WHERE WHAT IT READS IS OF BULK AT MOST 1048576: true; the input reads as it did. -/
def svmCallsUptoRow : OpenClaim := { program := "ytplnnlnkcfappaagreat", sum := "3953c221e13913b8227ff63dcd3a1948647ed7d116e5f99a0a8d48f2e6f5b750", func := "ratline/ratlinelaw9.SvmCalls", spec := "svmCalls", inPlace := ["math.Float64bits", "math.Float64frombits"], unfollowed := true, recurses := true, plainKeys := false, apart := false, narrowed := true }
def SvmCallsUptoSaid : Prop := svmCallsUptoRow.holds Tryz.pinned (OpenSpec.upto svmCallsSpec)

/-- 'ratlinelaw23.RvmSlots', WHERE WHAT IT READS IS OF BULK AT MOST 1048576: true; the input reads as it did. -/
def rvmSlotsUptoRow : OpenClaim := { program := "ytplnnlnkcfappaagreat", sum := "3953c221e13913b8227ff63dcd3a1948647ed7d116e5f99a0a8d48f2e6f5b750", func := "ratline/ratlinelaw23.RvmSlots", spec := "rvmSlots", inPlace := ["math.Float64bits", "math.Float64frombits"], unfollowed := true, recurses := true, plainKeys := false, apart := false, narrowed := true }
def RvmSlotsUptoSaid : Prop := rvmSlotsUptoRow.holds Tryz.pinned (OpenSpec.upto rvmSlotsSpec)

/-- 'ratlinelaw23.RvmArgs', WHERE WHAT IT READS IS OF BULK AT MOST 1048576: true; the input reads as it did. -/
def rvmArgsUptoRow : OpenClaim := { program := "ytplnnlnkcfappaagreat", sum := "3953c221e13913b8227ff63dcd3a1948647ed7d116e5f99a0a8d48f2e6f5b750", func := "ratline/ratlinelaw23.RvmArgs", spec := "rvmArgs", inPlace := ["math.Float64bits", "math.Float64frombits"], unfollowed := true, recurses := true, plainKeys := false, apart := false, narrowed := true }
def RvmArgsUptoSaid : Prop := rvmArgsUptoRow.holds Tryz.pinned (OpenSpec.upto rvmArgsSpec)

end Rows
end Go.Proofs.YtplnnlnkcfappaaGreat
