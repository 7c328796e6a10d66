/- The second evaluator: what it computes. (Written for the kernel: recursors with closed branches; closed pieces in boxes, so that they are reckoned once.) -/
import Derived.Test.YtplnnlnkcfappaaGreatQa
import Derived.Lib.QuietBelow
namespace Go.Proofs.YtplnnlnkcfappaaGreat.E3
open Go Go.RowKit
set_option linter.unusedVariables false

noncomputable section
variable {α β : Type}

/-! ### Words -/
def ob (o : Option α) (k : α → Option β) : Option β := Option.rec (motive := fun _ => Option β) none k o
def gd (b : Bool) (k : Option β) : Option β := Bool.rec (motive := fun _ => Option β) none k b
def te (b : Bool) (x y : β) : β := Bool.rec (motive := fun _ => β) y x b
def obR (o : Option α) (k : α → R) : R := Option.rec (motive := fun _ => R) none k o
def gdR (b : Bool) (k : R) : R := Bool.rec (motive := fun _ => R) none k b
def teR (b : Bool) (x y : R) : R := Bool.rec (motive := fun _ => R) y x b

/-- a whole number, reckoned at once -/
def strictN (n : Nat) (k : Nat → β) : β := Nat.rec (motive := fun _ => (Nat → β) → β) (fun k => k 0) (fun m _ k => k (Nat.succ m)) n k
def strictR (n : Nat) (k : Nat → R) : R := Nat.rec (motive := fun _ => (Nat → R) → R) (fun k => k 0) (fun m _ k => k (Nat.succ m)) n k

/-! ### Values -/
/-- values that are not known, by number: each stands in one cell -/
structure Syms where
  val : Nat → Value
  one : ∀ k, (val k).oneCell' = true
  /-- digits that are not known -/
  hole : Nat → Nat := fun _ => 0

/-! texts as numbers: to the base 256, the first byte lowest; from 128 on a digit that is not known -/
def byteOf (ρ : Syms) (b : Nat) : UInt8 := if b < 128 then UInt8.ofNat b else UInt8.ofNat (48 + ρ.hole (b - 128) % 10)
def bytesOf (ρ : Syms) : Nat → Nat → List UInt8
  | 0, _ => []
  | n + 1, q => byteOf ρ (q % 256) :: bytesOf ρ n (q / 256)
def strOf (ρ : Syms) (n q : Nat) : ByteArray := ⟨(bytesOf ρ n q).toArray⟩
def holOf (ρ : Syms) (t j : Nat) : Value := match t with | 0 => .int .u8 (.ofNat (48 + ρ.hole j % 10)) | 1 => .int .u8 (.ofNat (ρ.hole j % 10)) | _ => .int .i64 (.ofNat (ρ.hole j % 10))
/-- a text without digits that are not known -/
def rawBytes (n : Nat) : Nat → Option (List UInt8) :=
  Nat.rec (motive := fun _ => Nat → Option (List UInt8)) (fun _ => some []) (fun _ ih q => gd (Nat.blt (Nat.mod q 256) 128) (strictN (Nat.div q 256) fun r => ob (ih r) fun l => strictN (Nat.mod q 256) fun b => some (UInt8.ofNat b :: l))) n
/-- bytes as a number -/
def encB (l : List UInt8) : Option (Nat × Nat) :=
  List.rec (motive := fun _ => Option (Nat × Nat)) (some (0, 0)) (fun x _ ih => ob ih fun p => gd (Nat.blt x.toNat 128) (strictN (Nat.add x.toNat (Nat.mul 256 p.2)) fun q => strictN (Nat.succ p.1) fun n => some (n, q))) l

/-- where the abstract blocks lie: the block's number, its cells, the cell at which it begins -/
abbrev Env := Nat → Option (Nat × Nat × Nat)

/-- an empty slice at the very end of its row points to the row's beginning -/
def slOff (off len c : Nat) : Nat := if len = 0 ∧ off = c then 0 else off
@[simp] theorem slOff_zero (len c : Nat) : slOff 0 len c = 0 := by unfold slOff; split <;> rfl
theorem slOff_pos {off len c : Nat} (h : len ≠ 0) : slOff off len c = off := by unfold slOff; rw [if_neg (fun e => h e.1)]
theorem slOff_ne {off len c : Nat} (h : off ≠ c) : slOff off len c = off := by unfold slOff; rw [if_neg (fun e => h e.2)]

/-- a map's name is no function's number -/
abbrev mapId : Nat := 1000000000
/-- a map's block is no row -/
abbrev mapZ : Nat := 1000000001
def mapName (F : Env) (l : List AV) : Option Value := match l with | [.ptr b _] => (F b).map fun x => .map (some x.1) | _ => none

mutual
def den (ρ : Syms) (F : Env) : AV → Option Value
  | .raw v => some v
  | .nat n => some (.int .i64 (.ofNat n))
  | .bool b => some (.bool b)
  | .ptr b off => (F b).map fun x => .pointer (some ⟨x.1, x.2.2 + off, none⟩)
  | .sl b off len sz => (F b).map fun x => .slice (some ⟨x.1, x.2.2 + slOff off len x.2.1, none⟩) len ((x.2.1 - off) / sz)
  | .agg l => (dens ρ F l).map fun vs => .agg vs.toArray
  | .tup l => (dens ρ F l).map fun vs => .tuple vs.toArray
  | .fn f l => te (Nat.blt f mapId) ((dens ρ F l).map fun vs => .func (.func f) #[] vs.toArray) (mapName F l)
  | .bad => none
  | .sym k => some (ρ.val k)
  | .str n q => some (.string (strOf ρ n q))
  | .byt b => some (.int .u8 (.ofNat b))
  | .hol t j => some (holOf ρ t j)
def dens (ρ : Syms) (F : Env) : List AV → Option (List Value)
  | [] => some []
  | x :: l => match den ρ F x, dens ρ F l with
    | some v, some vs => some (v :: vs)
    | _, _ => none
end

/-! looking at a value: any answer -/
def asRaw (v : AV) (k : Value → Option β) : Option β := match v with | .raw x => k x | .nat n => k (.int .i64 (.ofNat n)) | .bool b => k (.bool b) | .byt b => k (.int .u8 (.ofNat b)) | .str n q => ob (rawBytes n q) fun l => k (.string ⟨l.toArray⟩) | _ => none
def asPtr (v : AV) (k : Nat → Nat → Option β) : Option β := match v with | .ptr b off => k b off | _ => none
def asSl (v : AV) (k : Nat → Nat → Nat → Nat → Option β) : Option β := match v with | .sl b off len sz => k b off len sz | _ => none
def asAgg (v : AV) (k : List AV → Option β) : Option β := match v with | .agg l => k l | _ => none
def asTup (v : AV) (k : List AV → Option β) : Option β := match v with | .tup l => k l | _ => none
def asFn (v : AV) (k : FuncId → List AV → Option β) : Option β := match v with | .fn f l => k f l | _ => none
def asNatI (n : Int) (k : Nat → Option β) : Option β := match n with | .ofNat n => k n | _ => none
def asNatV (v : Value) (k : Nat → Option β) : Option β := match v with | .int _ n => asNatI n k | _ => none
def asNat (v : AV) (k : Nat → Option β) : Option β := match v with | .raw x => asNatV x k | .nat n => k n | .byt n => k n | _ => none

/-! looking at a value, quickly -/
def ptrR (v : AV) (k : Nat → Nat → R) : R :=
  AV.rec (motive_1 := fun _ => (Nat → Nat → R) → R) (motive_2 := fun _ => Unit)
    (fun _ _ => none) (fun _ _ => none) (fun _ _ => none) (fun b off k => k b off) (fun _ _ _ _ _ => none) (fun _ _ _ => none) (fun _ _ _ => none) (fun _ _ _ _ => none) (fun _ => none) (fun _ _ => none) (fun _ _ _ => none) (fun _ _ => none) (fun _ _ _ => none) () (fun _ _ _ _ => ()) v k
def slR (v : AV) (k : Nat → Nat → Nat → Nat → R) : R :=
  AV.rec (motive_1 := fun _ => (Nat → Nat → Nat → Nat → R) → R) (motive_2 := fun _ => Unit)
    (fun _ _ => none) (fun _ _ => none) (fun _ _ => none) (fun _ _ _ => none) (fun b off len sz k => k b off len sz) (fun _ _ _ => none) (fun _ _ _ => none) (fun _ _ _ _ => none) (fun _ => none) (fun _ _ => none) (fun _ _ _ => none) (fun _ _ => none) (fun _ _ _ => none) () (fun _ _ _ _ => ()) v k
def aggR (v : AV) (k : List AV → R) : R :=
  AV.rec (motive_1 := fun _ => (List AV → R) → R) (motive_2 := fun _ => Unit)
    (fun _ _ => none) (fun _ _ => none) (fun _ _ => none) (fun _ _ _ => none) (fun _ _ _ _ _ => none) (fun l _ k => k l) (fun _ _ _ => none) (fun _ _ _ _ => none) (fun _ => none) (fun _ _ => none) (fun _ _ _ => none) (fun _ _ => none) (fun _ _ _ => none) () (fun _ _ _ _ => ()) v k
def tupR (v : AV) (k : List AV → R) : R :=
  AV.rec (motive_1 := fun _ => (List AV → R) → R) (motive_2 := fun _ => Unit)
    (fun _ _ => none) (fun _ _ => none) (fun _ _ => none) (fun _ _ _ => none) (fun _ _ _ _ _ => none) (fun _ _ _ => none) (fun l _ k => k l) (fun _ _ _ _ => none) (fun _ => none) (fun _ _ => none) (fun _ _ _ => none) (fun _ _ => none) (fun _ _ _ => none) () (fun _ _ _ _ => ()) v k
def fnR (v : AV) (k : FuncId → List AV → R) : R :=
  AV.rec (motive_1 := fun _ => (FuncId → List AV → R) → R) (motive_2 := fun _ => Unit)
    (fun _ _ => none) (fun _ _ => none) (fun _ _ => none) (fun _ _ _ => none) (fun _ _ _ _ _ => none) (fun _ _ _ => none) (fun _ _ _ => none) (fun f l _ k => k f l) (fun _ => none) (fun _ _ => none) (fun _ _ _ => none) (fun _ _ => none) (fun _ _ _ => none) () (fun _ _ _ _ => ()) v k
def natOr (v : AV) (k : Nat → R) (s : R) : R :=
  AV.rec (motive_1 := fun _ => (Nat → R) → R → R) (motive_2 := fun _ => Unit)
    (fun _ _ s => s) (fun n k _ => k n) (fun _ _ s => s) (fun _ _ _ s => s) (fun _ _ _ _ _ s => s) (fun _ _ _ s => s) (fun _ _ _ s => s) (fun _ _ _ _ s => s) (fun _ s => s) (fun _ _ s => s) (fun _ _ _ s => s) (fun _ _ s => s) (fun _ _ _ s => s) () (fun _ _ _ _ => ()) v k s
def boolOr (v : AV) (k : Bool → R) (s : R) : R :=
  AV.rec (motive_1 := fun _ => (Bool → R) → R → R) (motive_2 := fun _ => Unit)
    (fun _ _ s => s) (fun _ _ s => s) (fun b k _ => k b) (fun _ _ _ s => s) (fun _ _ _ _ _ s => s) (fun _ _ _ s => s) (fun _ _ _ s => s) (fun _ _ _ _ s => s) (fun _ s => s) (fun _ _ s => s) (fun _ _ _ s => s) (fun _ _ s => s) (fun _ _ _ s => s) () (fun _ _ _ _ => ()) v k s
def bytOr (v : AV) (k : Nat → R) (s : R) : R :=
  AV.rec (motive_1 := fun _ => (Nat → R) → R → R) (motive_2 := fun _ => Unit)
    (fun _ _ s => s) (fun _ _ s => s) (fun _ _ s => s) (fun _ _ _ s => s) (fun _ _ _ _ _ s => s) (fun _ _ _ s => s) (fun _ _ _ s => s) (fun _ _ _ _ s => s) (fun _ s => s) (fun _ _ s => s) (fun _ _ _ s => s) (fun n k _ => k n) (fun _ _ _ s => s) () (fun _ _ _ _ => ()) v k s
def numOr (v : AV) (k kb : Nat → R) (s : R) : R :=
  AV.rec (motive_1 := fun _ => (Nat → R) → (Nat → R) → R → R) (motive_2 := fun _ => Unit)
    (fun _ _ _ s => s) (fun n k _ _ => k n) (fun _ _ _ s => s) (fun _ _ _ _ s => s) (fun _ _ _ _ _ _ s => s) (fun _ _ _ _ s => s) (fun _ _ _ _ s => s) (fun _ _ _ _ _ s => s) (fun _ _ s => s) (fun _ _ _ s => s) (fun _ _ _ _ s => s) (fun n _ k _ => k n) (fun _ _ _ _ s => s) () (fun _ _ _ _ => ()) v k kb s
/-- two whole numbers of one kind -/
def cmp2 (u v : AV) (k : Nat → Nat → R) (s : R) : R := numOr u (fun i => natOr v (k i) s) (fun i => bytOr v (k i) s) s
def natR (v : AV) (k : Nat → R) : R := natOr v k (asNat v k)
def notBoolV (v : Value) (y : R) : R := match v with | .bool _ => none | _ => y
/-- is it this truth? -/
def isB (b : Bool) (v : AV) (x y : R) : R :=
  AV.rec (motive_1 := fun _ => Bool → R → R → R) (motive_2 := fun _ => Unit)
    (fun v _ _ y => notBoolV v y) (fun _ _ _ y => y) (fun c b x y => Bool.rec (motive := fun _ => R) (Bool.rec (motive := fun _ => R) x y c) (Bool.rec (motive := fun _ => R) y x c) b) (fun _ _ _ _ y => y) (fun _ _ _ _ _ _ y => y)
    (fun _ _ _ _ y => y) (fun _ _ _ _ y => y) (fun _ _ _ _ _ y => y) (fun _ _ _ => none) (fun _ _ _ _ => none) (fun _ _ _ _ _ => none) (fun _ _ _ _ => none) (fun _ _ _ _ _ => none) () (fun _ _ _ _ => ()) v b x y

def oneV : Value → Bool
  | .agg _ => false
  | .tuple _ => false
  | _ => true

def oneAV (v : AV) : Bool :=
  AV.rec (motive_1 := fun _ => Bool) (motive_2 := fun _ => Unit)
    (fun v => oneV v) (fun _ => true) (fun _ => true) (fun _ _ => true) (fun _ _ _ _ => true) (fun _ _ => false) (fun _ _ => false) (fun _ _ _ => true) false (fun _ => true) (fun _ _ => true) (fun _ => true) (fun _ _ => true) () (fun _ _ _ _ => ()) v

def okAV (v : AV) : Bool :=
  AV.rec (motive_1 := fun _ => Bool) (motive_2 := fun _ => Unit)
    (fun _ => true) (fun _ => true) (fun _ => true) (fun _ _ => true) (fun _ _ _ _ => true) (fun _ _ => true) (fun _ _ => true) (fun _ _ _ => true) false (fun _ => true) (fun _ _ => true) (fun _ => true) (fun _ _ => true) () (fun _ _ _ _ => ()) v

/-- a value, reckoned at once -/
def force (v : AV) (k : AV → R) : R :=
  AV.rec (motive_1 := fun _ => (AV → R) → R) (motive_2 := fun _ => Unit)
    (fun v k => k (.raw v)) (fun n k => k (.nat n)) (fun b k => k (.bool b)) (fun b off k => k (.ptr b off)) (fun b off len sz k => k (.sl b off len sz)) (fun l _ k => k (.agg l)) (fun l _ k => k (.tup l)) (fun f l _ k => k (.fn f l)) (fun _ => none) (fun n k => k (.sym n)) (fun n q k => k (.str n q)) (fun n k => k (.byt n)) (fun n q k => k (.hol n q)) () (fun _ _ _ _ => ()) v k

/-! ### Cells -/
def avI (q : IntKind) (n : Int) : AV := match q, n with | .i64, .ofNat n => .nat n | .u8, .ofNat n => .byt n | q, n => .raw (.int q n)
def strAV (s : ByteArray) : AV := match encB s.data.toList with | some p => .str p.1 p.2 | none => .raw (.string s)
/-- a plain value in its own word -/
def avOf (v : Value) : AV := match v with
  | .int q n => avI q n
  | .bool b => .bool b
  | .string s => strAV s
  | v => .raw v
def cellsV (v : Value) : List AV := match v with | .agg cs => cs.toList.map avOf | v => [avOf v]
def cellsAV (v : AV) : List AV :=
  AV.rec (motive_1 := fun _ => List AV) (motive_2 := fun _ => Unit)
    (fun v => cellsV v) (fun n => [.nat n]) (fun b => [.bool b]) (fun b off => [.ptr b off]) (fun b off len sz => [.sl b off len sz]) (fun l _ => l) (fun l _ => [.tup l]) (fun f l _ => [.fn f l]) [.bad] (fun n => [.sym n]) (fun n q => [.str n q]) (fun n => [.byt n]) (fun n q => [.hol n q]) () (fun _ _ _ _ => ()) v

def undefAV : AV := .raw undef
def a1u : A1 := ⟨undefAV, undefAV, undefAV, undefAV, undefAV, undefAV, undefAV, undefAV⟩
def a2u : A2 := ⟨a1u, a1u, a1u, a1u, a1u, a1u, a1u, a1u⟩
def a3u : A3 := ⟨a2u, a2u, a2u, a2u, a2u, a2u, a2u, a2u⟩
def b1u : B1 := ⟨none, none, none, none, none, none, none, none⟩
def b2u : B2 := ⟨b1u, b1u, b1u, b1u, b1u, b1u, b1u, b1u⟩
def b3u : B3 := ⟨b2u, b2u, b2u, b2u, b2u, b2u, b2u, b2u⟩
def b4u : B4 := ⟨b3u, b3u, b3u, b3u, b3u, b3u, b3u, b3u⟩
def b5u : B5 := ⟨b4u, b4u, b4u, b4u, b4u, b4u, b4u, b4u⟩

def Cells.cap (c : Cells) : Nat := Cells.rec (motive := fun _ => Nat) (fun _ => 8) (fun _ => 64) (fun _ => 4096) c
def Cells.get (c : Cells) (i : Nat) : AV := Cells.rec (motive := fun _ => Nat → AV) (fun r i => r.get i) (fun r i => r.get i) (fun r i => r.get i) c i
def Cells.put (c : Cells) (i : Nat) (v : AV) : Cells := Cells.rec (motive := fun _ => Nat → AV → Cells) (fun r i v => .c1 (r.put i v)) (fun r i v => .c2 (r.put i v)) (fun r i v => .c4 (r.put i v)) c i v
def Cells.putK (c : Cells) (i : Nat) (v : AV) (k : Cells → R) : R :=
  Cells.rec (motive := fun _ => Nat → AV → (Cells → R) → R) (fun r i v k => r.putK i v (fun r => k (.c1 r))) (fun r i v k => r.putK i v (fun r => k (.c2 r))) (fun r i v k => r.putK i v (fun r => k (.c4 r))) c i v k
/-- the same in a greater one -/
def Cells.grow (c : Cells) : Cells :=
  Cells.rec (motive := fun _ => Cells) (fun r => .c2 ⟨r, a1u, a1u, a1u, a1u, a1u, a1u, a1u⟩) (fun r => .c4 ⟨⟨r, a2u, a2u, a2u, a2u, a2u, a2u, a2u⟩, a3u, a3u, a3u, a3u, a3u, a3u, a3u⟩) (fun r => .c4 r) c
def Cells.fit (c : Cells) (n : Nat) (k : Cells → R) : R :=
  teR (Nat.ble n c.cap) (k c) (teR (Nat.ble n c.grow.cap) (Cells.rec (motive := fun _ => (Cells → R) → R) (fun r k => k (.c1 r)) (fun r k => k (.c2 r)) (fun r k => k (.c4 r)) c.grow k)
    (teR (Nat.ble n c.grow.grow.cap) (Cells.rec (motive := fun _ => (Cells → R) → R) (fun r k => k (.c1 r)) (fun r k => k (.c2 r)) (fun r k => k (.c4 r)) c.grow.grow k) none))

/-! cells by leaves of eight -/
/-- the values, reckoned; each stands in one cell -/
def one1 (v : AV) (k : AV → R) : R :=
  AV.rec (motive_1 := fun _ => (AV → R) → R) (motive_2 := fun _ => Unit)
    (fun v k => gdR (oneV v) (k (.raw v))) (fun n k => k (.nat n)) (fun b k => k (.bool b)) (fun b off k => k (.ptr b off)) (fun b off len sz k => k (.sl b off len sz)) (fun _ _ _ => none) (fun _ _ _ => none) (fun f l _ k => k (.fn f l)) (fun _ => none) (fun n k => k (.sym n)) (fun n q k => k (.str n q)) (fun n k => k (.byt n)) (fun n q k => k (.hol n q)) () (fun _ _ _ _ => ()) v k
def fill8 (y0 y1 y2 y3 y4 y5 y6 y7 : AV) (l : List AV) (k : A1 → List AV → R) : R := k ⟨y0, y1, y2, y3, y4, y5, y6, y7⟩ l
def fill7 (y0 y1 y2 y3 y4 y5 y6 y7 : AV) (l : List AV) (k : A1 → List AV → R) : R := List.rec (motive := fun _ => R) (k ⟨y0, y1, y2, y3, y4, y5, y6, y7⟩ []) (fun a l _ => one1 a fun a => fill8 y0 y1 y2 y3 y4 y5 y6 a l k) l
def fill6 (y0 y1 y2 y3 y4 y5 y6 y7 : AV) (l : List AV) (k : A1 → List AV → R) : R := List.rec (motive := fun _ => R) (k ⟨y0, y1, y2, y3, y4, y5, y6, y7⟩ []) (fun a l _ => one1 a fun a => fill7 y0 y1 y2 y3 y4 y5 a y7 l k) l
def fill5 (y0 y1 y2 y3 y4 y5 y6 y7 : AV) (l : List AV) (k : A1 → List AV → R) : R := List.rec (motive := fun _ => R) (k ⟨y0, y1, y2, y3, y4, y5, y6, y7⟩ []) (fun a l _ => one1 a fun a => fill6 y0 y1 y2 y3 y4 a y6 y7 l k) l
def fill4 (y0 y1 y2 y3 y4 y5 y6 y7 : AV) (l : List AV) (k : A1 → List AV → R) : R := List.rec (motive := fun _ => R) (k ⟨y0, y1, y2, y3, y4, y5, y6, y7⟩ []) (fun a l _ => one1 a fun a => fill5 y0 y1 y2 y3 a y5 y6 y7 l k) l
def fill3 (y0 y1 y2 y3 y4 y5 y6 y7 : AV) (l : List AV) (k : A1 → List AV → R) : R := List.rec (motive := fun _ => R) (k ⟨y0, y1, y2, y3, y4, y5, y6, y7⟩ []) (fun a l _ => one1 a fun a => fill4 y0 y1 y2 a y4 y5 y6 y7 l k) l
def fill2 (y0 y1 y2 y3 y4 y5 y6 y7 : AV) (l : List AV) (k : A1 → List AV → R) : R := List.rec (motive := fun _ => R) (k ⟨y0, y1, y2, y3, y4, y5, y6, y7⟩ []) (fun a l _ => one1 a fun a => fill3 y0 y1 a y3 y4 y5 y6 y7 l k) l
def fill1 (y0 y1 y2 y3 y4 y5 y6 y7 : AV) (l : List AV) (k : A1 → List AV → R) : R := List.rec (motive := fun _ => R) (k ⟨y0, y1, y2, y3, y4, y5, y6, y7⟩ []) (fun a l _ => one1 a fun a => fill2 y0 a y2 y3 y4 y5 y6 y7 l k) l
def fill0 (y0 y1 y2 y3 y4 y5 y6 y7 : AV) (l : List AV) (k : A1 → List AV → R) : R := List.rec (motive := fun _ => R) (k ⟨y0, y1, y2, y3, y4, y5, y6, y7⟩ []) (fun a l _ => one1 a fun a => fill1 a y1 y2 y3 y4 y5 y6 y7 l k) l
inductive Fil where | f (g : AV → AV → AV → AV → AV → AV → AV → AV → List AV → (A1 → List AV → R) → R)
def filD (d : D8) : Fil := D8.rec (motive := fun _ => Fil) (.f fill0) (.f fill1) (.f fill2) (.f fill3) (.f fill4) (.f fill5) (.f fill6) (.f fill7) d
def fillA (d : D8) (r : A1) (l : List AV) (k : A1 → List AV → R) : R := Fil.rec (motive := fun _ => A1 → List AV → (A1 → List AV → R) → R) (fun g r l k => A1.rec (motive := fun _ => List AV → (A1 → List AV → R) → R) (fun y0 y1 y2 y3 y4 y5 y6 y7 l k => g y0 y1 y2 y3 y4 y5 y6 y7 l k) r l k) (filD d) r l k
def some7 (y7 : AV) (n : Nat) (k : List AV → R) : R := Nat.rec (motive := fun _ => R) (k []) (fun _ _ => k [y7]) n
def some6 (y6 y7 : AV) (n : Nat) (k : List AV → R) : R := Nat.rec (motive := fun _ => R) (k []) (fun m _ => some7 y7 m (fun l => k (y6 :: l))) n
def some5 (y5 y6 y7 : AV) (n : Nat) (k : List AV → R) : R := Nat.rec (motive := fun _ => R) (k []) (fun m _ => some6 y6 y7 m (fun l => k (y5 :: l))) n
def some4 (y4 y5 y6 y7 : AV) (n : Nat) (k : List AV → R) : R := Nat.rec (motive := fun _ => R) (k []) (fun m _ => some5 y5 y6 y7 m (fun l => k (y4 :: l))) n
def some3 (y3 y4 y5 y6 y7 : AV) (n : Nat) (k : List AV → R) : R := Nat.rec (motive := fun _ => R) (k []) (fun m _ => some4 y4 y5 y6 y7 m (fun l => k (y3 :: l))) n
def some2 (y2 y3 y4 y5 y6 y7 : AV) (n : Nat) (k : List AV → R) : R := Nat.rec (motive := fun _ => R) (k []) (fun m _ => some3 y3 y4 y5 y6 y7 m (fun l => k (y2 :: l))) n
def some1 (y1 y2 y3 y4 y5 y6 y7 : AV) (n : Nat) (k : List AV → R) : R := Nat.rec (motive := fun _ => R) (k []) (fun m _ => some2 y2 y3 y4 y5 y6 y7 m (fun l => k (y1 :: l))) n
def some0 (y0 y1 y2 y3 y4 y5 y6 y7 : AV) (n : Nat) (k : List AV → R) : R := Nat.rec (motive := fun _ => R) (k []) (fun m _ => some1 y1 y2 y3 y4 y5 y6 y7 m (fun l => k (y0 :: l))) n
def all0 (y0 y1 y2 y3 y4 y5 y6 y7 : AV) (n : Nat) (k : List AV → R) (more : Nat → (List AV → R) → R) : R := teR (Nat.ble 8 n) (strictR (Nat.sub n 8) fun n => more n fun l => k (y0 :: y1 :: y2 :: y3 :: y4 :: y5 :: y6 :: y7 :: l)) (some0 y0 y1 y2 y3 y4 y5 y6 y7 n k)
def all1 (_z0 : AV) (y1 y2 y3 y4 y5 y6 y7 : AV) (n : Nat) (k : List AV → R) (more : Nat → (List AV → R) → R) : R := teR (Nat.ble 7 n) (strictR (Nat.sub n 7) fun n => more n fun l => k (y1 :: y2 :: y3 :: y4 :: y5 :: y6 :: y7 :: l)) (some1 y1 y2 y3 y4 y5 y6 y7 n k)
def all2 (_z0 _z1 : AV) (y2 y3 y4 y5 y6 y7 : AV) (n : Nat) (k : List AV → R) (more : Nat → (List AV → R) → R) : R := teR (Nat.ble 6 n) (strictR (Nat.sub n 6) fun n => more n fun l => k (y2 :: y3 :: y4 :: y5 :: y6 :: y7 :: l)) (some2 y2 y3 y4 y5 y6 y7 n k)
def all3 (_z0 _z1 _z2 : AV) (y3 y4 y5 y6 y7 : AV) (n : Nat) (k : List AV → R) (more : Nat → (List AV → R) → R) : R := teR (Nat.ble 5 n) (strictR (Nat.sub n 5) fun n => more n fun l => k (y3 :: y4 :: y5 :: y6 :: y7 :: l)) (some3 y3 y4 y5 y6 y7 n k)
def all4 (_z0 _z1 _z2 _z3 : AV) (y4 y5 y6 y7 : AV) (n : Nat) (k : List AV → R) (more : Nat → (List AV → R) → R) : R := teR (Nat.ble 4 n) (strictR (Nat.sub n 4) fun n => more n fun l => k (y4 :: y5 :: y6 :: y7 :: l)) (some4 y4 y5 y6 y7 n k)
def all5 (_z0 _z1 _z2 _z3 _z4 : AV) (y5 y6 y7 : AV) (n : Nat) (k : List AV → R) (more : Nat → (List AV → R) → R) : R := teR (Nat.ble 3 n) (strictR (Nat.sub n 3) fun n => more n fun l => k (y5 :: y6 :: y7 :: l)) (some5 y5 y6 y7 n k)
def all6 (_z0 _z1 _z2 _z3 _z4 _z5 : AV) (y6 y7 : AV) (n : Nat) (k : List AV → R) (more : Nat → (List AV → R) → R) : R := teR (Nat.ble 2 n) (strictR (Nat.sub n 2) fun n => more n fun l => k (y6 :: y7 :: l)) (some6 y6 y7 n k)
def all7 (_z0 _z1 _z2 _z3 _z4 _z5 _z6 : AV) (y7 : AV) (n : Nat) (k : List AV → R) (more : Nat → (List AV → R) → R) : R := teR (Nat.ble 1 n) (strictR (Nat.sub n 1) fun n => more n fun l => k (y7 :: l)) (some7 y7 n k)
inductive Tak where | f (g : AV → AV → AV → AV → AV → AV → AV → AV → Nat → (List AV → R) → (Nat → (List AV → R) → R) → R)
def takD (d : D8) : Tak := D8.rec (motive := fun _ => Tak) (.f all0) (.f all1) (.f all2) (.f all3) (.f all4) (.f all5) (.f all6) (.f all7) d
def takeA (d : D8) (r : A1) (n : Nat) (k : List AV → R) (more : Nat → (List AV → R) → R) : R := Tak.rec (motive := fun _ => A1 → Nat → (List AV → R) → (Nat → (List AV → R) → R) → R) (fun g r n k more => A1.rec (motive := fun _ => Nat → (List AV → R) → (Nat → (List AV → R) → R) → R) (fun y0 y1 y2 y3 y4 y5 y6 y7 n k more => g y0 y1 y2 y3 y4 y5 y6 y7 n k more) r n k more) (takD d) r n k more

/-- a leaf by its number -/
def Cells.leaf (c : Cells) (q : Nat) : A1 :=
  Cells.rec (motive := fun _ => Nat → A1) (fun r _ => r) (fun r q => A2.sel (dig (Nat.mod q 8)) r) (fun r q => A2.sel (dig (Nat.mod q 8)) (A3.sel (dig (Nat.mod (Nat.div q 8) 8)) (A4.sel (dig (Nat.mod (Nat.div q 64) 8)) r))) c q
def Cells.putLeaf (c : Cells) (q : Nat) (y : A1) : Cells :=
  Cells.rec (motive := fun _ => Nat → A1 → Cells) (fun _ _ y => .c1 y) (fun r q y => .c2 (A2.set (dig (Nat.mod q 8)) r y))
    (fun r q y => .c4 (A4.set (dig (Nat.mod (Nat.div q 64) 8)) r (A3.set (dig (Nat.mod (Nat.div q 8) 8)) (A4.sel (dig (Nat.mod (Nat.div q 64) 8)) r) (A2.set (dig (Nat.mod q 8)) (A3.sel (dig (Nat.mod (Nat.div q 8) 8)) (A4.sel (dig (Nat.mod (Nat.div q 64) 8)) r)) y)))) c q y
def Cells.putLeafK (c : Cells) (q : Nat) (y : A1) (k : Cells → R) : R :=
  Cells.rec (motive := fun _ => Nat → A1 → (Cells → R) → R) (fun _ _ y k => k (.c1 y)) (fun r q y k => A2.upd (dig (Nat.mod q 8)) r (fun _ k => k y) fun r => k (.c2 r))
    (fun r q y k => A4.upd (dig (Nat.mod (Nat.div q 64) 8)) r (fun r k => A3.upd (dig (Nat.mod (Nat.div q 8) 8)) r (fun r k => A2.upd (dig (Nat.mod q 8)) r (fun _ k => k y) k) k) fun r => k (.c4 r)) c q y k
def fillC (f : Nat) : List AV → Nat → D8 → Cells → (Cells → R) → R :=
  Nat.rec (motive := fun _ => List AV → Nat → D8 → Cells → (Cells → R) → R) (fun _ _ _ _ _ => none)
    (fun _ ih l q d c k => List.rec (motive := fun _ => R) (k c) (fun _ _ _ => fillA d (c.leaf q) l fun y l => c.putLeafK q y fun c => strictR (Nat.succ q) fun q => ih l q .o0 c k) l) f
def getC (f : Nat) : Nat → Nat → D8 → Cells → (List AV → R) → R :=
  Nat.rec (motive := fun _ => Nat → Nat → D8 → Cells → (List AV → R) → R) (fun _ _ _ _ _ => none)
    (fun _ ih n q d c k => Nat.rec (motive := fun _ => R) (k []) (fun _ _ => takeA d (c.leaf q) n k fun n k => strictR (Nat.succ q) fun q => ih n q .o0 c k) n) f

/-- lays the cells from place 'i' on -/
def putAll (l : List AV) (i : Nat) (c : Cells) (k : Cells → R) : R := strictR (Nat.div i 8) fun q => fillC 10000 l q (dig (Nat.mod i 8)) c k

/-- the n cells from place 'i' on -/
def getAll (c : Cells) (n i : Nat) (k : List AV → R) : R := strictR n fun n => strictR (Nat.div i 8) fun q => getC 10000 n q (dig (Nat.mod i 8)) c k


def blkR (o : Option Blk) (k : TypeId → Nat → Nat → Cells → R) : R :=
  Option.rec (motive := fun _ => (TypeId → Nat → Nat → Cells → R) → R) (fun _ => none) (fun b k => Blk.rec (motive := fun _ => (TypeId → Nat → Nat → Cells → R) → R) (fun e z n c k => teR (Nat.beq z mapZ) none (k e z n c)) b k) o k
def memR (m : Mem) (k : B5 → Nat → Nat → R) : R := Mem.rec (motive := fun _ => (B5 → Nat → Nat → R) → R) (fun H nx wr k => k H nx wr) m k
def Mem.at (m : Mem) (b : Nat) : Option Blk := te (Nat.blt b 32768) (m.H.get b) none
def heapPut (H : B5) (b : Nat) (x : Option Blk) (k : B5 → R) : R := gdR (Nat.blt b 32768) (H.putK b x k)

def lenAV (l : List AV) : Nat := List.rec (motive := fun _ => Nat) 0 (fun _ _ ih => Nat.succ ih) l

def Mem.new (m : Mem) (e : TypeId) (z : Nat) (l : List AV) (k : Nat → Mem → R) : R :=
  strictR (lenAV l) fun q => gdR (Nat.ble q 4096) (gdR (te (Nat.beq z 0) true (te (Nat.beq z mapZ) false (Nat.beq (Nat.mod q z) 0))) (
    Cells.fit (.c1 a1u) q fun c => putAll l 0 c fun c => memR m fun H nx wr => strictR nx fun b => heapPut H b (some ⟨e, z, q, c⟩) fun H => strictR (Nat.succ b) fun nx => k b ⟨H, nx, wr⟩))

/-- n cells of block b from 'off' on -/
def Mem.read (m : Mem) (b off n : Nat) (k : List AV → R) : R := blkR (m.at b) fun _ _ q c => gdR (Nat.ble (Nat.add off n) q) (getAll c n off k)
def Mem.read1 (m : Mem) (b off : Nat) (k : AV → R) : R := blkR (m.at b) fun _ _ q c => gdR (Nat.blt off q) (force (c.get off) k)
def Mem.write (m : Mem) (b off : Nat) (l : List AV) (k : Mem → R) : R :=
  memR m fun H nx wr => gdR (Nat.ble wr b) (blkR (m.at b) fun e z q c => gdR (Nat.ble (Nat.add off (lenAV l)) q)
    (putAll l off c fun c => heapPut H b (some ⟨e, z, q, c⟩) fun H => k ⟨H, nx, wr⟩))
def Mem.write1 (m : Mem) (b off : Nat) (x : AV) (k : Mem → R) : R :=
  memR m fun H nx wr => gdR (Nat.ble wr b) (blkR (m.at b) fun e z q c => gdR (Nat.blt off q)
    (gdR (oneAV x) (c.putK off x fun c => heapPut H b (some ⟨e, z, q, c⟩) fun H => k ⟨H, nx, wr⟩)))

/-! ### Types -/
def aggD : TypeDesc → Bool
  | .struct _ => true
  | .array _ _ => true
  | _ => false

def sizeT (P : Program) (t : TypeId) : Option Nat := ob (P.info? t) fun i => some i.size
def zeroT (P : Program) (t : TypeId) : Option Value := ob (P.info? t) fun i => i.zero
def aggT (P : Program) (t : TypeId) : Option Bool := ob (P.underlying t) fun d => some (aggD d)
def flatT (P : Program) (t : TypeId) : Bool := match aggT P t with | some false => true | _ => false
def elemD : TypeDesc → Option TypeId
  | .slice e => some e
  | _ => none
def elemT (P : Program) (t : TypeId) : Option TypeId := ob (P.underlying t) elemD
def structD : TypeDesc → Option (Array Field)
  | .struct fs => some fs
  | _ => none
def structT (P : Program) (t : TypeId) : Option (Array Field) := ob (P.underlying t) structD
def arrD : TypeDesc → Option (Nat × TypeId)
  | .array n e => some (n, e)
  | _ => none
def arrT (P : Program) (t : TypeId) : Option (Nat × TypeId) := ob (P.underlying t) arrD
def fieldT (P : Program) (t : TypeId) (i : Nat) : Option Field := ob (structT P t) fun fs => fs[i]?

/-! ### Operands, plain things (g: what stands in the slots) -/
def evO (g : Nat → AV) : Operand → AV
  | .tmp t => g t
  | .const v => avOf v
  | .global x => .raw (.pointer (some ⟨x, 0, none⟩))
  | .func f => te (Nat.blt f mapId) (.fn f []) .bad

def purely {α : Type} (P : Program) : Sem α → Option α
  | .pure a => some a
  | .program k => purely P (k P)
  | .mark _ k => purely P k
  | _ => none

def strictI (i : Int) (k : Int → β) : β :=
  Int.rec (motive := fun _ => β) (fun n => strictN n fun n => k (.ofNat n)) (fun n => strictN n fun n => k (.negSucc n)) i

def boolAV (b : Bool) : Option AV := Bool.rec (motive := fun _ => Option AV) (some (.bool false)) (some (.bool true)) b

def strictIK (q : IntKind) (i : Int) : Option AV :=
  match q, i with
  | .i64, .ofNat n => strictN n fun n => some (.nat n)
  | .u8, .ofNat n => strictN n fun n => some (.byt n)
  | q, i => strictI i fun i => some (.raw (.int q i))

/-- bytes, reckoned -/
def u8s (l : List UInt8) (k : List UInt8 → Option AV) : Option AV :=
  List.rec (motive := fun _ => (List UInt8 → Option AV) → Option AV) (fun k => k []) (fun x _ ih k => strictN x.toNat fun n => ih fun l => k (UInt8.ofNat n :: l)) l k
def strictV (v : Value) : Option AV :=
  match v with
  | .string s => u8s s.data.toList fun l => some (strAV ⟨l.toArray⟩)
  | .int q n => strictIK q n
  | .bool b => boolAV b
  | v => some (.raw v)

/-- the operation by the model's own word, all its operands being plain values -/
def evPlain (P : Program) (s : Sem Value) : Option AV := ob (purely P s) strictV

def rawOpt (g : Nat → AV) (o : Option Operand) (k : Option Value → Option β) : Option β :=
  match o with
  | none => k none
  | some x => asRaw (evO g x) fun v => k (some v)

def natOpt (g : Nat → AV) (d : Nat) (o : Option Operand) (k : Nat → Option β) : Option β :=
  match o with
  | none => k d
  | some x => asNat (evO g x) k

def dropAV : List AV → Nat → List AV
  | l, 0 => l
  | [], _ => []
  | _ :: l, n + 1 => dropAV l n
def takeAV : List AV → Nat → List AV
  | _, 0 => []
  | [], _ => []
  | x :: l, n + 1 => x :: takeAV l n
def headAV : List AV → Option AV
  | x :: _ => some x
  | [] => none

/-- fills the places -/
def fillAV (place : Nat → Option (Nat × Nat)) (ps : List (Nat × AV)) : List AV → Option (List AV) :=
  List.rec (motive := fun _ => List AV → Option (List AV)) (fun l => some l)
    (fun p _ ih l => gd (okAV p.2) (ob (place p.1) fun q =>
      gd (Nat.beq (lenAV (cellsAV p.2)) q.2) (gd (Nat.ble (Nat.add q.1 (lenAV (cellsAV p.2))) (lenAV l))
        (ih (takeAV l q.1 ++ (cellsAV p.2 ++ dropAV l (Nat.add q.1 (lenAV (cellsAV p.2))))))))) ps

def repeatAV (z : List AV) (n : Nat) : List AV := Nat.rec (motive := fun _ => List AV) [] (fun _ ih => z ++ ih) n

def evParts (g : Nat → AV) (ps : Array (Nat × Operand)) : List (Nat × AV) := ps.toList.map fun x => (x.1, evO g x.2)
def evArgs (g : Nat → AV) (l : List Operand) : List AV := l.map (evO g)
def okAll (l : List AV) : Bool := List.rec (motive := fun _ => Bool) true (fun x _ ih => te (okAV x) ih false) l

/-- what is known of an operation of two values -/
abbrev Orc := BinOp → AV → AV → Option AV

/-! ### OPERATIONS THAT LEAVE THE MEMORY, SLOWLY -/
def evPick (g : Nat → AV) (c a b : Operand) : Option AV :=
  asRaw (evO g c) fun v => match v with
    | .bool x => te x (some (evO g a)) (some (evO g b))
    | _ => none
def evBuildS (P : Program) (g : Nat → AV) (t : TypeId) (parts : Array (Nat × Operand)) : Option AV :=
  ob (zeroT P t) fun z => ob (structT P t) fun fs => ob (fs.toList.mapM (fun f => (P.info? f.type).map fun i => (f.offset, i.size))) fun pl =>
    ob (fillAV (pl.toArray[·]?) (evParts g parts) (cellsV z)) fun l => some (.agg l)
def evBuildA (P : Program) (g : Nat → AV) (t : TypeId) (parts : Array (Nat × Operand)) : Option AV :=
  ob (zeroT P t) fun z => ob (arrT P t) fun p => ob (sizeT P p.2) fun s => ob (fillAV (fun i => some (Nat.mul i s, s)) (evParts g parts) (cellsV z)) fun l => some (.agg l)
def evBuild (P : Program) (g : Nat → AV) (t : TypeId) (parts : Array (Nat × Operand)) : Option AV :=
  Option.rec (motive := fun _ => Option AV) (evBuildS P g t parts) (fun _ => evBuildA P g t parts) (arrT P t)
def bytesEq (l r : List UInt8) : Bool :=
  match l, r with
  | [], [] => true
  | x :: l, y :: r => te (Nat.beq x.toNat y.toNat) (bytesEq l r) false
  | _, _ => false
/-! two texts -/
def lenB (l : List UInt8) : Nat := List.rec (motive := fun _ => Nat) 0 (fun _ _ ih => Nat.succ ih) l
def lessB : List UInt8 → List UInt8 → Bool
  | _, [] => false
  | [], _ :: _ => true
  | a :: x, b :: y => te (Nat.blt a.toNat b.toNat) true (te (Nat.beq a.toNat b.toNat) (lessB x y) false)
def notB (b : Bool) : Bool := Bool.rec (motive := fun _ => Bool) true false b
/-- is it no digit? -/
def noDig (b : Nat) : Bool := te (Nat.blt b 48) true (te (Nat.blt 57 b) (Nat.blt b 128) false)
/-- do two bytes differ for sure? -/
def differ (a b : Nat) : Bool := te (Nat.blt a 128) (te (Nat.blt b 128) (notB (Nat.beq a b)) (noDig a)) (noDig b)
/-- are two texts of one length the same? -/
def cmpS (n : Nat) : Nat → Nat → Option Bool :=
  Nat.rec (motive := fun _ => Nat → Nat → Option Bool) (fun _ _ => some true) (fun _ ih q r => te (differ (Nat.mod q 256) (Nat.mod r 256)) (some false)
    (strictN (Nat.div q 256) fun q' => strictN (Nat.div r 256) fun r' => te (Nat.beq (Nat.mod q 256) (Nat.mod r 256)) (ih q' r') (ob (ih q' r') fun b => te b none (some false)))) n
def eqS (n q m r : Nat) : Option Bool := te (Nat.beq n m) (te (Nat.beq q r) (some true) (cmpS n q r)) (some false)
def ordS (op : BinOp) (s t : List UInt8) : Option AV :=
  match op with
  | .lss => boolAV (lessB s t)
  | .leq => boolAV (te (lessB s t) true (bytesEq s t))
  | .gtr => boolAV (notB (te (lessB s t) true (bytesEq s t)))
  | .geq => boolAV (notB (lessB s t))
  | _ => none
def strBin (op : BinOp) (n q m r : Nat) : Option AV :=
  match op with
  | .add => gd (Nat.ble (Nat.add n m) 1000000) (strictN (Nat.add n m) fun k => strictN (Nat.add (Nat.mod q (Nat.pow 256 n)) (Nat.mul r (Nat.pow 256 n))) fun p => some (.str k p))
  | .eql => ob (eqS n q m r) boolAV
  | .neq => ob (eqS n q m r) fun b => boolAV (notB b)
  | op => ob (rawBytes n q) fun s => ob (rawBytes m r) fun t => ordS op s t
def asCode (v : AV) (k : Nat → Nat → Option AV) : Option AV := match v with | .str n q => k n q | _ => none
def evStr (op : BinOp) (u v : AV) : Option AV := asCode u fun n q => asCode v fun m r => strBin op n q m r
/-- a text's byte -/
def nthB (n q i : Nat) : Option AV := gd (Nat.blt i n) (strictN (Nat.mod (Nat.div q (Nat.pow 256 i)) 256) fun b => te (Nat.blt b 128) (some (.byt b)) (strictN (Nat.sub b 128) fun j => some (.hol 0 j)))
def stT (P : Program) (t : TypeId) : Bool := match P.underlying t with | some .string => true | _ => false
def evNth (P : Program) (t : TypeId) (u : AV) (i : AV) : Option AV := gd (stT P t) (asCode u fun n q => asNat i fun i => nthB n q i)
/-- a row, a pointer, compared with nil -/
def eqOut (op : BinOp) : Option AV := match op with | .eql => some (.bool false) | .neq => some (.bool true) | _ => none
def slT (P : Program) (t : TypeId) : Bool := match P.underlying t with | some (.slice _) => true | _ => false
def ptT (P : Program) (t : TypeId) : Bool := match P.underlying t with | some (.pointer _) => true | _ => false
def evNil (P : Program) (op : BinOp) (t : TypeId) (u v : AV) : Option AV :=
  match u, v with
  | .sl _ _ _ _, .raw (.slice none _ _) => gd (slT P t) (eqOut op)
  | .raw (.slice none _ _), .sl _ _ _ _ => gd (slT P t) (eqOut op)
  | .ptr _ _, .raw (.pointer none) => gd (ptT P t) (eqOut op)
  | .raw (.pointer none), .ptr _ _ => gd (ptT P t) (eqOut op)
  | _, _ => none
/-- a digit that is not known beside a byte that is -/
def holCmp (op : BinOp) (j b : Nat) : Option AV :=
  match op with
  | .eql => gd (noDig b) (some (.bool false))
  | .neq => gd (noDig b) (some (.bool true))
  | .lss => te (Nat.blt 57 b) (some (.bool true)) (gd (Nat.ble b 48) (some (.bool false)))
  | .leq => te (Nat.ble 57 b) (some (.bool true)) (gd (Nat.blt b 48) (some (.bool false)))
  | .gtr => te (Nat.blt b 48) (some (.bool true)) (gd (Nat.ble 57 b) (some (.bool false)))
  | .geq => te (Nat.ble b 48) (some (.bool true)) (gd (Nat.blt 57 b) (some (.bool false)))
  | .sub => gd (Nat.beq b 48) (some (.hol 1 j))
  | _ => none
def evHol (op : BinOp) (u v : AV) : Option AV := match u, v with | .hol 0 j, .byt b => holCmp op j b | _, _ => none
def evBin (P : Program) (oc : Orc) (g : Nat → AV) (op : BinOp) (t : TypeId) (x y : Operand) : Option AV :=
  Option.rec (motive := fun _ => Option AV) (Option.rec (motive := fun _ => Option AV) (evNil P op t (evO g x) (evO g y)) some (Option.rec (motive := fun _ => Option AV) (asRaw (evO g x) fun a => asRaw (evO g y) fun b => evPlain P (do eqGuard op t x y a b; binOp op t a b)) some (Option.rec (motive := fun _ => Option AV) (evStr op (evO g x) (evO g y)) some (evHol op (evO g x) (evO g y))))) some (oc op (evO g x) (evO g y))
def isNeg (op : UnOp) : Bool := match op with | .neg => true | _ => false
def evUn (P : Program) (oc : Orc) (g : Nat → AV) (op : UnOp) (x : Operand) : Option AV :=
  Option.rec (motive := fun _ => Option AV) (gd (isNeg op) (oc .sub (.nat 0) (evO g x))) some (asRaw (evO g x) fun a => evPlain P (Op.unary op a))
def intT (P : Program) (t : TypeId) (k : IntKind) : Bool := match P.underlying t with | some (.int q) => decide (q = k) | _ => false
def evConvH (P : Program) (s d : TypeId) (v : AV) : Option AV := match v with | .hol 1 j => gd (intT P s .u8) (gd (intT P d .i64) (some (.hol 2 j))) | _ => none
def evConv (P : Program) (g : Nat → AV) (s d : TypeId) (x : Operand) : Option AV := Option.rec (motive := fun _ => Option AV) (asRaw (evO g x) fun a => evPlain P (convert s d a)) some (evConvH P s d (evO g x))
def evFn (g : Nat → AV) (f : Fn) (first cap : Array Operand) : Option AV :=
  match f with
  | .func f => gd (Nat.blt f mapId) (gd (Nat.beq first.size 0) (gd (okAll (evArgs g cap.toList)) (some (.fn f (evArgs g cap.toList)))))
  | _ => none
def evSliceRaw (P : Program) (g : Nat → AV) (t : TypeId) (a : Value) (lo hi mx : Option Operand) : Option AV :=
  rawOpt g lo fun l => rawOpt g hi fun h => rawOpt g mx fun k => evPlain P (Instr.sliceAt t a l h k)
def evSliceSl (P : Program) (g : Nat → AV) (m : Mem) (t : TypeId) (b off len sz : Nat) (lo hi : Option Operand) : Option AV :=
  ob (elemT P t) fun e => ob (sizeT P e) fun s => natOpt g 0 lo fun l => natOpt g len hi fun h => ob (m.at b) fun k => gd (te (Nat.beq k.z mapZ) false true) <|
    gd (Nat.beq s sz) (gd (Nat.ble h len) (gd (Nat.ble 1 sz) (gd (Nat.ble (Nat.add off (Nat.mul len sz)) k.n) (gd (te (Nat.beq l 0) true (Nat.blt l h))
      (strictN (Nat.add off (Nat.mul l sz)) fun o => strictN (Nat.sub h l) fun q => some (.sl b o q sz))))))
def evSliceStr (P : Program) (g : Nat → AV) (t : TypeId) (n q : Nat) (lo hi : Option Operand) : Option AV :=
  gd (stT P t) (natOpt g 0 lo fun l => natOpt g n hi fun h => gd (Nat.ble l h) (gd (Nat.ble h n) (strictN (Nat.sub h l) fun k => strictN (Nat.mod (Nat.div q (Nat.pow 256 l)) (Nat.pow 256 (Nat.sub h l))) fun r => some (.str k r))))
def evSlice (P : Program) (g : Nat → AV) (m : Mem) (t : TypeId) (x : Operand) (lo hi mx : Option Operand) : Option AV :=
  match evO g x with
  | .raw a => evSliceRaw P g t a lo hi mx
  | .sl b off len sz => match mx with
    | none => evSliceSl P g m t b off len sz lo hi
    | some _ => none
  | .str n q => match mx with
    | none => evSliceStr P g t n q lo hi
    | some _ => none
  | _ => none
def evField (P : Program) (g : Nat → AV) (s : TypeId) (x : Operand) (i : Nat) : Option AV :=
  asAgg (evO g x) fun l => ob (fieldT P s i) fun f => ob (aggT P f.type) fun q =>
    te q (ob (sizeT P f.type) fun n => some (.agg (takeAV (dropAV l f.offset) n))) (headAV (dropAV l f.offset))
def evIndexR (P : Program) (g : Nat → AV) (t : TypeId) (x ix : Operand) : Option AV :=
  Option.rec (motive := fun _ => Option AV) (asRaw (evO g x) fun a => asRaw (evO g ix) fun i => evPlain P (Instr.index t a i)) some (evNth P t (evO g x) (evO g ix))
def evIndexA (P : Program) (g : Nat → AV) (p : Nat × TypeId) (x ix : Operand) : Option AV :=
  asAgg (evO g x) fun l => asNat (evO g ix) fun i => ob (aggT P p.2) fun q => ob (sizeT P p.2) fun s =>
    gd (Nat.blt i p.1) (strictN (Nat.mul i s) fun o => te q (some (.agg (takeAV (dropAV l o) s))) (headAV (dropAV l o)))
def evIndex (P : Program) (g : Nat → AV) (t : TypeId) (x ix : Operand) : Option AV :=
  Option.rec (motive := fun _ => Option AV) (evIndexR P g t x ix) (fun p => evIndexA P g p x ix) (arrT P t)
def evLen1 (P : Program) (t : TypeId) (x : AV) : Option AV :=
  match x with
  | .sl _ _ n _ => ob (elemT P t) fun _ => some (.nat n)
  | .str n _ => gd (stT P t) (some (.nat n))
  | x => asRaw x fun v => evPlain P (Builtin.len_ #[t] 0 #[v])
def one? {α β : Type} (l : List α) (k : α → Option β) : Option β := match l with | [x] => k x | _ => none
def two? {α β : Type} (l : List α) (k : α → α → Option β) : Option β := match l with | [x, y] => k x y | _ => none
def evLen (P : Program) (g : Nat → AV) (c : Call) : Option AV :=
  one? c.args.toList fun x => one? c.argTypes.toList fun t => evLen1 P t (evO g x)
def rawAll (l : List AV) : Option (List Value) :=
  List.rec (motive := fun _ => Option (List Value)) (some []) (fun x _ ih => asRaw x fun v => ob ih fun vs => some (v :: vs)) l
/-- the least, the greatest of an unknown whole number and a known one -/
def isT (o : Option AV) : Bool := match o with | some (.bool true) => true | _ => false
def isS (k : Nat) (o : Option AV) : Bool := match o with | some (.sym i) => Nat.beq i k | _ => false
def extSym (oc : Orc) (lo : Bool) (x y : AV) : Option AV :=
  match x, y with
  | .sym k, .nat n => gd (isS k (oc .mul (.nat 1) (.sym k))) (te (isT (oc .leq (.nat n) (.sym k))) (some (te lo (.nat n) (.sym k))) (gd (isT (oc .geq (.nat n) (.sym k))) (some (te lo (.sym k) (.nat n)))))
  | _, _ => none
def evMin (oc : Orc) (g : Nat → AV) (lo : Bool) (c : Call) (o : Option AV) : Option AV := Option.rec (motive := fun _ => Option AV) (two? c.args.toList fun p q => extSym oc lo (evO g p) (evO g q)) some o
def evBuiltin (P : Program) (oc : Orc) (g : Nat → AV) (c : Call) (b : Builtin) : Option AV :=
  match b with
  | .len => evLen P g c
  | .min => evMin oc g true c (ob (rawAll (evArgs g c.args.toList)) fun vs => evPlain P (Builtin.min_ c.argTypes 0 vs.toArray))
  | .max => evMin oc g false c (ob (rawAll (evArgs g c.args.toList)) fun vs => evPlain P (Builtin.max_ c.argTypes 0 vs.toArray))
  | .complex => ob (rawAll (evArgs g c.args.toList)) fun vs => evPlain P (Builtin.complex_ c.argTypes 0 vs.toArray)
  | .real => ob (rawAll (evArgs g c.args.toList)) fun vs => evPlain P (Builtin.real_ c.argTypes 0 vs.toArray)
  | .imag => ob (rawAll (evArgs g c.args.toList)) fun vs => evPlain P (Builtin.imag_ c.argTypes 0 vs.toArray)
  | _ => none
def evCallP (P : Program) (oc : Orc) (g : Nat → AV) (c : Call) : Option AV :=
  match c.callee with
  | .builtin b => evBuiltin P oc g c b
  | _ => none

/-- what is not done quickly -/
def evSlow (P : Program) (oc : Orc) (g : Nat → AV) (m : Mem) (op : Op) : Option AV :=
  match op with
  | .pick c a b => evPick g c a b
  | .build t parts => evBuild P g t parts
  | .binOp op t x y _ => evBin P oc g op t x y
  | .unOp op _ x => evUn P oc g op x
  | .convert s d x => evConv P g s d x
  | .makeFunc f first cap => evFn g f first cap
  | .slice t x lo hi mx => evSlice P g m t x lo hi mx
  | .field s x i => evField P g s x i
  | .index t x ix => evIndex P g t x ix
  | .call c => evCallP P oc g c
  | _ => none

/-! ### BOXES -/
abbrev Rec := FuncId → List AV → Mem → R
/-- the slots that one region alone uses: what stands in them, the latest first -/
abbrev Es := List AV
abbrev K := Rec → Fr → Mem → R
abbrev KE := Rec → Fr → Es → Mem → R
inductive KB where | k (f : K)
inductive KO where | k (f : KE)
inductive Get where | g (f : Fr → Es → AV)
inductive Put where | p (f : Fr → Es → AV → (Fr → Es → R) → R)
def KB.run (b : KB) : K := KB.rec (motive := fun _ => K) (fun f => f) b
def KO.run (b : KO) : KE := KO.rec (motive := fun _ => KE) (fun f => f) b
def Get.at (x : Get) (fr : Fr) (es : Es) : AV := Get.rec (motive := fun _ => Fr → Es → AV) (fun f => f) x fr es
def Put.put (d : Put) (fr : Fr) (es : Es) (v : AV) (k : Fr → Es → R) : R := Put.rec (motive := fun _ => Fr → Es → AV → (Fr → Es → R) → R) (fun f => f) d fr es v k

inductive Sel1 where | s (f : A1 → AV)
inductive Sel2 where | s (f : A2 → A1)
inductive Sel3 where | s (f : A3 → A2)
def sel1 (d : D8) : Sel1 := D8.rec (motive := fun _ => Sel1) (.s A1.x0) (.s A1.x1) (.s A1.x2) (.s A1.x3) (.s A1.x4) (.s A1.x5) (.s A1.x6) (.s A1.x7) d
def sel2 (d : D8) : Sel2 := D8.rec (motive := fun _ => Sel2) (.s A2.x0) (.s A2.x1) (.s A2.x2) (.s A2.x3) (.s A2.x4) (.s A2.x5) (.s A2.x6) (.s A2.x7) d
def sel3 (d : D8) : Sel3 := D8.rec (motive := fun _ => Sel3) (.s A3.x0) (.s A3.x1) (.s A3.x2) (.s A3.x3) (.s A3.x4) (.s A3.x5) (.s A3.x6) (.s A3.x7) d
inductive Upd1 where | s (f : A1 → (AV → (AV → R) → R) → (A1 → R) → R)
inductive Upd2 where | s (f : A2 → (A1 → (A1 → R) → R) → (A2 → R) → R)
inductive Upd3 where | s (f : A3 → (A2 → (A2 → R) → R) → (A3 → R) → R)
def upd1 (d : D8) : Upd1 := D8.rec (motive := fun _ => Upd1) (.s A1.u0) (.s A1.u1) (.s A1.u2) (.s A1.u3) (.s A1.u4) (.s A1.u5) (.s A1.u6) (.s A1.u7) d
def upd2 (d : D8) : Upd2 := D8.rec (motive := fun _ => Upd2) (.s A2.u0) (.s A2.u1) (.s A2.u2) (.s A2.u3) (.s A2.u4) (.s A2.u5) (.s A2.u6) (.s A2.u7) d
def upd3 (d : D8) : Upd3 := D8.rec (motive := fun _ => Upd3) (.s A3.u0) (.s A3.u1) (.s A3.u2) (.s A3.u3) (.s A3.u4) (.s A3.u5) (.s A3.u6) (.s A3.u7) d

def accB (t : Nat) : Get :=
  P3.rec (motive := fun _ => Get) (fun d2 d1 d0 => Sel3.rec (motive := fun _ => Get) (fun f3 => Sel2.rec (motive := fun _ => Get) (fun f2 => Sel1.rec (motive := fun _ => Get) (fun f1 => .g (fun fr _ => f1 (f2 (f3 fr)))) (sel1 d0)) (sel2 d1)) (sel3 d2)) (path3 t)
def putB (t : Nat) : Put :=
  P3.rec (motive := fun _ => Put) (fun d2 d1 d0 => Upd3.rec (motive := fun _ => Put) (fun f3 => Upd2.rec (motive := fun _ => Put) (fun f2 => Upd1.rec (motive := fun _ => Put)
    (fun f1 => .p (fun fr es v k => f3 fr (fun y k => f2 y (fun y k => f1 y (fun _ k => k v) k) k) (fun fr => k fr es))) (upd1 d0)) (upd2 d1)) (upd3 d2)) (path3 t)

/-- is it a slot that one region alone uses? -/
def inS (S t : Nat) : Bool := Nat.beq (Nat.mod (Nat.shiftRight S t) 2) 1
def headE (es : Es) : AV := List.rec (motive := fun _ => AV) .bad (fun x _ _ => x) es
def tailE (es : Es) : Es := List.rec (motive := fun _ => Es) [] (fun _ t _ => t) es
/-- what stands in a slot -/
def findE (t : Nat) (sg : List Nat) (es : Es) : AV := List.rec (motive := fun _ => Es → AV) (fun _ => .bad) (fun s _ ih es => te (Nat.beq s t) (headE es) (ih (tailE es))) sg es
def getG (S : Nat) (sg : List Nat) (fr : Fr) (es : Es) (t : Nat) : AV := te (inS S t) (findE t sg es) (te (Nat.blt t 512) (A3.get fr t) undefAV)
def locB (t : Nat) (sg : List Nat) : Get := List.rec (motive := fun _ => Get) (.g fun _ _ => .bad) (fun s _ ih => te (Nat.beq s t) (.g fun _ es => headE es) (Get.rec (motive := fun _ => Get) (fun f => .g fun fr es => f fr (tailE es)) ih)) sg
def getB (S : Nat) (sg : List Nat) (x : Operand) : Get :=
  match x with
  | .tmp t => te (inS S t) (locB t sg) (te (Nat.blt t 512) (accB t) (.g fun _ _ => undefAV))
  | .const v => .g fun _ _ => avOf v
  | .global g => .g fun _ _ => .raw (.pointer (some ⟨g, 0, none⟩))
  | .func f => .g fun _ _ => te (Nat.blt f mapId) (.fn f []) .bad
def dstB (S n : Nat) (d : Option Nat) : Option Put :=
  match d with
  | none => some (.p fun fr es _ k => k fr es)
  | some t => gd (Nat.blt t n) (te (inS S t) (some (.p fun fr es v k => k fr (v :: es))) (gd (Nat.blt t 512) (some (putB t))))
/-- the slots behind it -/
def sgOf (S : Nat) (sg : List Nat) (d : Option Nat) : List Nat :=
  match d with
  | none => sg
  | some t => te (inS S t) (t :: sg) sg

def fin (d : Put) (kc : KO) (ih : Rec) (fr : Fr) (es : Es) (m : Mem) (v : AV) : R := d.put fr es v fun fr es => kc.run ih fr es m

/-! ### OPERATIONS -/
def opFail : K := fun _ _ _ => none
def opFailE : KE := fun _ _ _ _ => none
def opMove (x : Get) (d : Put) (kc : KO) (ih : Rec) (fr : Fr) (es : Es) (m : Mem) : R := force (x.at fr es) fun v => fin d kc ih fr es m v
def opSlow (P : Program) (oc : Orc) (S : Nat) (sg : List Nat) (op : Op) (d : Put) (kc : KO) (ih : Rec) (fr : Fr) (es : Es) (m : Mem) : R := obR (evSlow P oc (getG S sg fr es) m op) fun v => force v fun v => fin d kc ih fr es m v
def opLoad1 (x : Get) (d : Put) (kc : KO) (ih : Rec) (fr : Fr) (es : Es) (m : Mem) : R := ptrR (x.at fr es) fun b off => m.read1 b off fun v => fin d kc ih fr es m v
def opLoadN (n : Nat) (x : Get) (d : Put) (kc : KO) (ih : Rec) (fr : Fr) (es : Es) (m : Mem) : R := ptrR (x.at fr es) fun b off => m.read b off n fun l => fin d kc ih fr es m (.agg l)
def opFieldAddr (o : Nat) (x : Get) (d : Put) (kc : KO) (ih : Rec) (fr : Fr) (es : Es) (m : Mem) : R := ptrR (x.at fr es) fun b off => strictR (Nat.add off o) fun off => fin d kc ih fr es m (.ptr b off)
def opIndexAddr (s : Nat) (x y : Get) (d : Put) (kc : KO) (ih : Rec) (fr : Fr) (es : Es) (m : Mem) : R :=
  slR (x.at fr es) fun b off len sz => natR (y.at fr es) fun i => gdR (Nat.beq s sz) (gdR (Nat.blt i len) (strictR (Nat.add off (Nat.mul i sz)) fun o => fin d kc ih fr es m (.ptr b o)))
def opIndexArr (n s : Nat) (x y : Get) (d : Put) (kc : KO) (ih : Rec) (fr : Fr) (es : Es) (m : Mem) : R :=
  ptrR (x.at fr es) fun b off => natR (y.at fr es) fun i => gdR (Nat.blt i n) (strictR (Nat.add off (Nat.mul i s)) fun o => fin d kc ih fr es m (.ptr b o))
def sureR (v : AV) (k : AV → R) : R :=
  AV.rec (motive_1 := fun _ => (AV → R) → R) (motive_2 := fun _ => Unit)
    (fun _ _ => none) (fun _ _ => none) (fun _ _ => none) (fun b off k => k (.ptr b off)) (fun b off len sz k => k (.sl b off len sz)) (fun _ _ _ => none) (fun _ _ _ => none) (fun f l _ k => teR (Nat.blt f mapId) (k (.fn f l)) none) (fun _ => none) (fun _ _ => none) (fun _ _ _ => none) (fun _ _ => none) (fun _ _ _ => none) () (fun _ _ _ _ => ()) v k
def opNilCheck (x : Get) (d : Put) (kc : KO) (ih : Rec) (fr : Fr) (es : Es) (m : Mem) : R := sureR (x.at fr es) fun v => fin d kc ih fr es m v
def opField1 (o : Nat) (x : Get) (d : Put) (kc : KO) (ih : Rec) (fr : Fr) (es : Es) (m : Mem) : R := aggR (x.at fr es) fun l => obR (headAV (dropAV l o)) fun v => force v fun v => fin d kc ih fr es m v
def opExtract (i : Nat) (x : Get) (d : Put) (kc : KO) (ih : Rec) (fr : Fr) (es : Es) (m : Mem) : R := tupR (x.at fr es) fun l => obR (headAV (dropAV l i)) fun v => force v fun v => fin d kc ih fr es m v
def opLen (slow : KO) (x : Get) (d : Put) (kc : KO) (ih : Rec) (fr : Fr) (es : Es) (m : Mem) : R :=
  AV.rec (motive_1 := fun _ => (Nat → R) → R → R) (motive_2 := fun _ => Unit)
    (fun _ _ s => s) (fun _ _ s => s) (fun _ _ s => s) (fun _ _ _ s => s) (fun _ _ n _ k _ => k n) (fun _ _ _ s => s) (fun _ _ _ s => s) (fun _ _ _ _ s => s) (fun _ s => s) (fun _ _ s => s) (fun _ _ _ s => s) (fun _ _ s => s) (fun _ _ _ s => s) () (fun _ _ _ _ => ()) (x.at fr es) (fun n => fin d kc ih fr es m (.nat n)) (slow.run ih fr es m)

def opAdd (slow : KO) (x y : Get) (d : Put) (kc : KO) (ih : Rec) (fr : Fr) (es : Es) (m : Mem) : R :=
  natOr (x.at fr es) (fun i => natOr (y.at fr es) (fun j => teR (Nat.blt (Nat.add i j) 9223372036854775808) (strictR (Nat.add i j) fun n => fin d kc ih fr es m (.nat n)) (slow.run ih fr es m)) (slow.run ih fr es m)) (slow.run ih fr es m)
def opSub (slow : KO) (x y : Get) (d : Put) (kc : KO) (ih : Rec) (fr : Fr) (es : Es) (m : Mem) : R :=
  natOr (x.at fr es) (fun i => natOr (y.at fr es) (fun j => teR (Nat.ble j i) (teR (Nat.blt i 9223372036854775808) (strictR (Nat.sub i j) fun n => fin d kc ih fr es m (.nat n)) (slow.run ih fr es m)) (slow.run ih fr es m)) (slow.run ih fr es m)) (slow.run ih fr es m)
def boolR (b : Bool) (k : AV → R) : R := Bool.rec (motive := fun _ => (AV → R) → R) (fun k => k (.bool false)) (fun k => k (.bool true)) b k
def opEql (slow : KO) (x y : Get) (d : Put) (kc : KO) (ih : Rec) (fr : Fr) (es : Es) (m : Mem) : R :=
  cmp2 (x.at fr es) (y.at fr es) (fun i j => boolR (Nat.beq i j) fun v => fin d kc ih fr es m v) (slow.run ih fr es m)
def opNeq (slow : KO) (x y : Get) (d : Put) (kc : KO) (ih : Rec) (fr : Fr) (es : Es) (m : Mem) : R :=
  cmp2 (x.at fr es) (y.at fr es) (fun i j => boolR (Bool.rec (motive := fun _ => Bool) true false (Nat.beq i j)) fun v => fin d kc ih fr es m v) (slow.run ih fr es m)
def opLss (slow : KO) (x y : Get) (d : Put) (kc : KO) (ih : Rec) (fr : Fr) (es : Es) (m : Mem) : R :=
  cmp2 (x.at fr es) (y.at fr es) (fun i j => boolR (Nat.ble (Nat.succ i) j) fun v => fin d kc ih fr es m v) (slow.run ih fr es m)
def opLeq (slow : KO) (x y : Get) (d : Put) (kc : KO) (ih : Rec) (fr : Fr) (es : Es) (m : Mem) : R :=
  cmp2 (x.at fr es) (y.at fr es) (fun i j => boolR (Nat.ble i j) fun v => fin d kc ih fr es m v) (slow.run ih fr es m)
def opGtr (slow : KO) (x y : Get) (d : Put) (kc : KO) (ih : Rec) (fr : Fr) (es : Es) (m : Mem) : R :=
  cmp2 (x.at fr es) (y.at fr es) (fun i j => boolR (Nat.ble (Nat.succ j) i) fun v => fin d kc ih fr es m v) (slow.run ih fr es m)
def opGeq (slow : KO) (x y : Get) (d : Put) (kc : KO) (ih : Rec) (fr : Fr) (es : Es) (m : Mem) : R :=
  cmp2 (x.at fr es) (y.at fr es) (fun i j => boolR (Nat.ble j i) fun v => fin d kc ih fr es m v) (slow.run ih fr es m)

def opPick (slow : KO) (x a b : Get) (d : Put) (kc : KO) (ih : Rec) (fr : Fr) (es : Es) (m : Mem) : R :=
  boolOr (x.at fr es) (fun t => teR t (force (a.at fr es) fun v => fin d kc ih fr es m v) (force (b.at fr es) fun v => fin d kc ih fr es m v)) (slow.run ih fr es m)
def opNot (slow : KO) (x : Get) (d : Put) (kc : KO) (ih : Rec) (fr : Fr) (es : Es) (m : Mem) : R :=
  boolOr (x.at fr es) (fun t => Bool.rec (motive := fun _ => R) (fin d kc ih fr es m (.bool true)) (fin d kc ih fr es m (.bool false)) t) (slow.run ih fr es m)
/-- the operands, reckoned -/
def argsR (l : List Get) (fr : Fr) (es : Es) (k : List AV → R) : R :=
  List.rec (motive := fun _ => Fr → Es → (List AV → R) → R) (fun _ _ k => k []) (fun x _ ih fr es k => force (x.at fr es) fun v => ih fr es fun l => k (v :: l)) l fr es k
def opFn (f : FuncId) (cap : List Get) (d : Put) (kc : KO) (ih : Rec) (fr : Fr) (es : Es) (m : Mem) : R := argsR cap fr es fun l => fin d kc ih fr es m (.fn f l)
def bndR (o : Option Get) (n : Nat) (fr : Fr) (es : Es) (k : Nat → R) : R :=
  Option.rec (motive := fun _ => Nat → Fr → Es → (Nat → R) → R) (fun n _ _ k => k n) (fun x _ fr es k => natR (x.at fr es) k) o n fr es k
def opSlice (slow : KO) (s : Nat) (x : Get) (lo hi : Option Get) (d : Put) (kc : KO) (ih : Rec) (fr : Fr) (es : Es) (m : Mem) : R :=
  AV.rec (motive_1 := fun _ => (Nat → Nat → Nat → Nat → R) → R → R) (motive_2 := fun _ => Unit)
    (fun _ _ s => s) (fun _ _ s => s) (fun _ _ s => s) (fun _ _ _ s => s) (fun b off len sz k _ => k b off len sz) (fun _ _ _ s => s) (fun _ _ _ s => s) (fun _ _ _ _ s => s) (fun _ s => s) (fun _ _ s => s) (fun _ _ _ s => s) (fun _ _ s => s) (fun _ _ _ s => s) () (fun _ _ _ _ => ()) (x.at fr es)
    (fun b off len sz => bndR lo 0 fr es fun l => bndR hi len fr es fun h => blkR (m.at b) fun _ z q _ =>
      gdR (Nat.beq s sz) (gdR (Nat.ble h len) (gdR (Nat.ble 1 sz) (gdR (Nat.ble (Nat.add off (Nat.mul len sz)) q) (gdR (te (te (Nat.beq l 0) true (Nat.blt l h)) true (te (Nat.beq off 0) (te (Nat.beq l h) (Nat.beq z sz) false) false))
        (strictR (Nat.add off (Nat.mul l sz)) fun o => strictR (Nat.sub h l) fun n => fin d kc ih fr es m (.sl b o n sz)))))))
    (slow.run ih fr es m)

/-- a slice of an array -/
def opSliceArr (n s : Nat) (x : Get) (lo hi : Option Get) (d : Put) (kc : KO) (ih : Rec) (fr : Fr) (es : Es) (m : Mem) : R :=
  ptrR (x.at fr es) fun b off => bndR lo 0 fr es fun l => bndR hi n fr es fun h => blkR (m.at b) fun _ z q _ =>
    gdR (Nat.beq z 0) (gdR (Nat.beq off 0) (gdR (Nat.beq q (Nat.mul n s)) (gdR (Nat.ble l h) (gdR (Nat.ble h n) (gdR (Nat.ble 1 s) (strictR (Nat.mul l s) fun o => strictR (Nat.sub h l) fun k => fin d kc ih fr es m (.sl b o k s)))))))
def cBin (P : Program) (oc : Orc) (S : Nat) (sg : List Nat) (whole : Op) (op : BinOp) (x y : Operand) (d : Put) (kc : KO) : KO :=
  match op with
  | .add => .k (opAdd (.k (opSlow P oc S sg whole d kc)) (getB S sg x) (getB S sg y) d kc)
  | .sub => .k (opSub (.k (opSlow P oc S sg whole d kc)) (getB S sg x) (getB S sg y) d kc)
  | .eql => .k (opEql (.k (opSlow P oc S sg whole d kc)) (getB S sg x) (getB S sg y) d kc)
  | .neq => .k (opNeq (.k (opSlow P oc S sg whole d kc)) (getB S sg x) (getB S sg y) d kc)
  | .lss => .k (opLss (.k (opSlow P oc S sg whole d kc)) (getB S sg x) (getB S sg y) d kc)
  | .leq => .k (opLeq (.k (opSlow P oc S sg whole d kc)) (getB S sg x) (getB S sg y) d kc)
  | .gtr => .k (opGtr (.k (opSlow P oc S sg whole d kc)) (getB S sg x) (getB S sg y) d kc)
  | .geq => .k (opGeq (.k (opSlow P oc S sg whole d kc)) (getB S sg x) (getB S sg y) d kc)
  | _ => .k (opSlow P oc S sg whole d kc)

def cLoad (P : Program) (oc : Orc) (S : Nat) (sg : List Nat) (t : TypeId) (a : Operand) (d : Put) (kc : KO) : Option KO :=
  ob (aggT P t) fun q => te q (ob (sizeT P t) fun n => some (.k (opLoadN n (getB S sg a) d kc))) (some (.k (opLoad1 (getB S sg a) d kc)))
def cFieldAddr (P : Program) (oc : Orc) (S : Nat) (sg : List Nat) (s : TypeId) (x : Operand) (i : Nat) (d : Put) (kc : KO) : Option KO :=
  ob (fieldT P s i) fun f => ob (sizeT P f.type) fun n => gd (Nat.ble 1 n) (some (.k (opFieldAddr f.offset (getB S sg x) d kc)))
def cField (P : Program) (oc : Orc) (S : Nat) (sg : List Nat) (whole : Op) (s : TypeId) (x : Operand) (i : Nat) (d : Put) (kc : KO) : Option KO :=
  ob (fieldT P s i) fun f => ob (aggT P f.type) fun q => te q (some (.k (opSlow P oc S sg whole d kc))) (some (.k (opField1 f.offset (getB S sg x) d kc)))
def cIndexAddr (P : Program) (oc : Orc) (S : Nat) (sg : List Nat) (t : TypeId) (x ix : Operand) (d : Put) (kc : KO) : Option KO :=
  match elemT P t with
  | some e => ob (sizeT P e) fun s => some (.k (opIndexAddr s (getB S sg x) (getB S sg ix) d kc))
  | none => ob (arrT P t) fun p => ob (sizeT P p.2) fun s => some (.k (opIndexArr p.1 s (getB S sg x) (getB S sg ix) d kc))
def cCallP (P : Program) (oc : Orc) (S : Nat) (sg : List Nat) (whole : Op) (c : Call) (d : Put) (kc : KO) : Option KO :=
  match c.callee with
  | .builtin b => match b with
    | .len => one? c.args.toList fun x => one? c.argTypes.toList fun t => te (match elemT P t with | some _ => true | none => false) (some (.k (opLen (.k (opSlow P oc S sg whole d kc)) (getB S sg x) d kc))) (some (.k (opSlow P oc S sg whole d kc)))
    | .min => some (.k (opSlow P oc S sg whole d kc))
    | .max => some (.k (opSlow P oc S sg whole d kc))
    | .complex => some (.k (opSlow P oc S sg whole d kc))
    | .real => some (.k (opSlow P oc S sg whole d kc))
    | .imag => some (.k (opSlow P oc S sg whole d kc))
    | _ => none
  | _ => none

def cSlice (P : Program) (oc : Orc) (S : Nat) (sg : List Nat) (whole : Op) (t : TypeId) (x : Operand) (lo hi mx : Option Operand) (d : Put) (kc : KO) : Option KO :=
  match mx with
  | some _ => none
  | none => match elemT P t with
    | none => match arrT P t with
      | none => some (.k (opSlow P oc S sg whole d kc))
      | some p => ob (sizeT P p.2) fun s => some (.k (opSliceArr p.1 s (getB S sg x) (lo.map (getB S sg)) (hi.map (getB S sg)) d kc))
    | some e => ob (sizeT P e) fun s => some (.k (opSlice (.k (opSlow P oc S sg whole d kc)) s (getB S sg x) (lo.map (getB S sg)) (hi.map (getB S sg)) d kc))
def cFn (P : Program) (oc : Orc) (S : Nat) (sg : List Nat) (whole : Op) (f : Fn) (first cap : Array Operand) (d : Put) (kc : KO) : Option KO :=
  match f with
  | .func f => te (te (Nat.blt f mapId) (Nat.beq first.size 0) false) (some (.k (opFn f (cap.toList.map (getB S sg)) d kc))) (some (.k (opSlow P oc S sg whole d kc)))
  | _ => some (.k (opSlow P oc S sg whole d kc))
def cUn (P : Program) (oc : Orc) (S : Nat) (sg : List Nat) (whole : Op) (op : UnOp) (x : Operand) (d : Put) (kc : KO) : Option KO :=
  match op with
  | .not => some (.k (opNot (.k (opSlow P oc S sg whole d kc)) (getB S sg x) d kc))
  | _ => some (.k (opSlow P oc S sg whole d kc))

/-- an operation that leaves the memory -/
def cPure (P : Program) (oc : Orc) (S : Nat) (sg : List Nat) (op : Op) (d : Put) (kc : KO) : Option KO :=
  match op with
  | .move x => some (.k (opMove (getB S sg x) d kc))
  | .assign x => some (.k (opMove (getB S sg x) d kc))
  | .pick c a b => some (.k (opPick (.k (opSlow P oc S sg op d kc)) (getB S sg c) (getB S sg a) (getB S sg b) d kc))
  | .build _ _ => some (.k (opSlow P oc S sg op d kc))
  | .load t a => cLoad P oc S sg t a d kc
  | .binOp b _ x y _ => some (cBin P oc S sg op b x y d kc)
  | .unOp u _ x => cUn P oc S sg op u x d kc
  | .convert _ _ _ => some (.k (opSlow P oc S sg op d kc))
  | .makeFunc f first cap => cFn P oc S sg op f first cap d kc
  | .slice t x lo hi mx => cSlice P oc S sg op t x lo hi mx d kc
  | .fieldAddr s x i => cFieldAddr P oc S sg s x i d kc
  | .field s x i => cField P oc S sg op s x i d kc
  | .indexAddr t x ix => cIndexAddr P oc S sg t x ix d kc
  | .index _ _ _ => some (.k (opSlow P oc S sg op d kc))
  | .extract x i => some (.k (opExtract i (getB S sg x) d kc))
  | .nilCheck x => some (.k (opNilCheck (getB S sg x) d kc))
  | .call c => cCallP P oc S sg op c d kc
  | _ => none

/-! ### OPERATIONS THAT TOUCH THE MEMORY, AND CALLS -/
def opAlloc (e : TypeId) (z : List AV) (d : Put) (kc : KO) (ih : Rec) (fr : Fr) (es : Es) (m : Mem) : R := m.new e 0 z fun b m => fin d kc ih fr es m (.ptr b 0)
/-- a row's cells, reckoned once -/
def putsB (l : List AV) : Nat → Cells → Cells := List.rec (motive := fun _ => Nat → Cells → Cells) (fun _ c => c) (fun x _ ih i c => ih (Nat.succ i) (Cells.put c i x)) l
def base0 (q : Nat) : Cells := te (Nat.ble q 8) (.c1 a1u) (te (Nat.ble q 64) (Cells.c1 a1u).grow (Cells.c1 a1u).grow.grow)
def zc (q : Nat) (l : List AV) : Cells := putsB l 0 (base0 q)
def okCells (l : List AV) : Bool := te (Nat.ble (lenAV l) 4096) (List.rec (motive := fun _ => Bool) true (fun x _ ih => te (oneAV x) (te (okAV x) ih false) false) l) false
def opAllocC (e : TypeId) (q : Nat) (c : Cells) (d : Put) (kc : KO) (ih : Rec) (fr : Fr) (es : Es) (m : Mem) : R :=
  memR m fun H nx wr => strictR nx fun b => heapPut H b (some ⟨e, 0, q, c⟩) fun H => strictR (Nat.succ b) fun nx => fin d kc ih fr es ⟨H, nx, wr⟩ (.ptr b 0)
def oneP (len : Nat) (l : List (Nat × Operand)) : Option Operand := match l with | [(0, x)] => te (Nat.beq len 1) (some x) none | _ => none
def opBuild1 (e : TypeId) (s : Nat) (x : Get) (d : Put) (kc : KO) (ih : Rec) (fr : Fr) (es : Es) (m : Mem) : R :=
  force (x.at fr es) fun v => gdR (Nat.beq (lenAV (cellsAV v)) s) (m.new e s (cellsAV v) fun b m => fin d kc ih fr es m (.sl b 0 1 s))
def opBox (e : TypeId) (x : Get) (d : Put) (kc : KO) (ih : Rec) (fr : Fr) (es : Es) (m : Mem) : R := m.new e 0 (cellsAV (x.at fr es)) fun b m => fin d kc ih fr es m (.ptr b 0)
def opBuildSlice (S : Nat) (sg : List Nat) (e : TypeId) (s len : Nat) (z : List AV) (parts : Array (Nat × Operand)) (d : Put) (kc : KO) (ih : Rec) (fr : Fr) (es : Es) (m : Mem) : R :=
  obR (fillAV (fun i => some (Nat.mul i s, s)) (evParts (getG S sg fr es) parts) (repeatAV z len)) fun l => m.new e s l fun b m => fin d kc ih fr es m (.sl b 0 len s)
def opEmpty (e : TypeId) (s : Nat) (d : Put) (kc : KO) (ih : Rec) (fr : Fr) (es : Es) (m : Mem) : R := m.new e s [] fun b m => fin d kc ih fr es m (.sl b 0 0 s)
def opMakeSlice (e : TypeId) (s : Nat) (z : List AV) (l c : Get) (d : Put) (kc : KO) (ih : Rec) (fr : Fr) (es : Es) (m : Mem) : R :=
  natR (l.at fr es) fun n => natR (c.at fr es) fun k => gdR (Nat.beq n k) (gdR (Nat.ble n 4096) (m.new e s (repeatAV z n) fun b m => fin d kc ih fr es m (.sl b 0 n s)))
def opStore1 (a x : Get) (d : Put) (kc : KO) (ih : Rec) (fr : Fr) (es : Es) (m : Mem) : R :=
  ptrR (a.at fr es) fun b off => force (x.at fr es) fun v => m.write1 b off v fun m => fin d kc ih fr es m undefAV
def opStoreN (n : Nat) (a x : Get) (d : Put) (kc : KO) (ih : Rec) (fr : Fr) (es : Es) (m : Mem) : R :=
  ptrR (a.at fr es) fun b off => gdR (Nat.beq (lenAV (cellsAV (x.at fr es))) n) (m.write b off (cellsAV (x.at fr es)) fun m => fin d kc ih fr es m undefAV)

def appendNil (m : Mem) (e s n : Nat) (news : List AV) (v : Value) (k : AV → Mem → R) : R :=
  match v with
  | .slice a len cap => match a with
    | none => gdR (Nat.beq len 0) (gdR (Nat.beq cap 0) (m.new e s news fun b m => k (.sl b 0 n s) m))
    | some _ => none
  | _ => none
/-- n cells from place 'off' on, at the beginning -/
def shiftR (c : Cells) (off n : Nat) (k : Cells → R) : R :=
  teR (Nat.beq off 0) (k c) (getAll c n off fun l => Cells.fit (.c1 a1u) n fun c' => putAll l 0 c' k)
def appendSl (m : Mem) (e s bytes n : Nat) (news : List AV) (b off len sz : Nat) (k : AV → Mem → R) : R :=
  gdR (Nat.beq (Nat.mod off sz) 0) (gdR (Nat.beq sz s) (memR m fun H nx wr => gdR (Nat.ble wr b) (gdR (Nat.ble (Nat.mul len bytes) 1048576)
    (blkR (m.at b) fun e' z' q' c => gdR (Nat.beq e' e) (gdR (Nat.beq z' sz) (gdR (Nat.ble (Nat.add off (Nat.mul len sz)) q')
      (strictR (Nat.add len n) fun q => gdR (Nat.ble q 4096) (strictR (Nat.mul q sz) fun qs => shiftR c off (Nat.mul len sz) fun c => Cells.fit c qs fun c => putAll news (Nat.mul len sz) c fun c => heapPut H b none fun H => strictR nx fun d =>
        heapPut H d (some ⟨e, sz, qs, c⟩) fun H' => strictR (Nat.succ d) fun nx => k (.sl d 0 q sz) ⟨H', nx, wr⟩))))))))
def opAppend (e s bytes : Nat) (x y : Get) (d : Put) (kc : KO) (ih : Rec) (fr : Fr) (es : Es) (m : Mem) : R :=
  slR (y.at fr es) fun b2 off2 n sz2 => gdR (Nat.beq sz2 s) (gdR (Nat.ble 1 s) (gdR (Nat.ble 1 n) (gdR (Nat.ble (Nat.mul n bytes) 1048576) (m.read b2 off2 (Nat.mul n s) fun news =>
    AV.rec (motive_1 := fun _ => (Value → R) → (Nat → Nat → Nat → Nat → R) → R) (motive_2 := fun _ => Unit)
      (fun v k _ => k v) (fun _ _ _ => none) (fun _ _ _ => none) (fun _ _ _ _ => none) (fun b off len sz _ k => k b off len sz) (fun _ _ _ _ => none) (fun _ _ _ _ => none) (fun _ _ _ _ _ => none) (fun _ _ => none) (fun _ _ _ => none) (fun _ _ _ _ => none) (fun _ _ _ => none) (fun _ _ _ _ => none) () (fun _ _ _ _ => ()) (x.at fr es)
      (fun v => appendNil m e s n news v fun v m => fin d kc ih fr es m v) (fun b off len sz => appendSl m e s bytes n news b off len sz fun v m => fin d kc ih fr es m v)))))
def nilSl (v : Value) : Bool :=
  match v with
  | .slice a len _ => match a with
    | none => Nat.beq len 0
    | some _ => false
  | _ => false
def nil0 (v : Value) : Bool :=
  match v with
  | .slice a len cap => match a with
    | none => te (Nat.beq len 0) (Nat.beq cap 0) false
    | some _ => false
  | _ => false
/-- nothing is appended -/
def opSame (s : Nat) (x : Get) (d : Put) (kc : KO) (ih : Rec) (fr : Fr) (es : Es) (m : Mem) : R :=
  AV.rec (motive_1 := fun _ => (Value → R) → (Nat → Nat → Nat → Nat → R) → R) (motive_2 := fun _ => Unit)
    (fun v k _ => k v) (fun _ _ _ => none) (fun _ _ _ => none) (fun _ _ _ _ => none) (fun b off len sz _ k => k b off len sz) (fun _ _ _ _ => none) (fun _ _ _ _ => none) (fun _ _ _ _ _ => none) (fun _ _ => none) (fun _ _ _ => none) (fun _ _ _ _ => none) (fun _ _ _ => none) (fun _ _ _ _ => none) () (fun _ _ _ _ => ()) (x.at fr es)
    (fun v => gdR (nil0 v) (fin d kc ih fr es m (.raw v)))
    (fun b off len sz => blkR (m.at b) fun _ _ q _ => gdR (Nat.beq sz s) (gdR (Nat.ble 1 sz) (gdR (Nat.ble (Nat.add off (Nat.mul len sz)) q) (fin d kc ih fr es m (.sl b off len sz)))))
def opAppendAny (y : Get) (same more : KO) (ih : Rec) (fr : Fr) (es : Es) (m : Mem) : R :=
  AV.rec (motive_1 := fun _ => (Value → R) → (Nat → Nat → Nat → Nat → R) → R) (motive_2 := fun _ => Unit)
    (fun v k _ => k v) (fun _ _ _ => none) (fun _ _ _ => none) (fun _ _ _ _ => none) (fun b off len sz _ k => k b off len sz) (fun _ _ _ _ => none) (fun _ _ _ _ => none) (fun _ _ _ _ _ => none) (fun _ _ => none) (fun _ _ _ => none) (fun _ _ _ _ => none) (fun _ _ _ => none) (fun _ _ _ _ => none) () (fun _ _ _ _ => ()) (y.at fr es)
    (fun v => gdR (nilSl v) (same.run ih fr es m)) (fun _ _ n _ => teR (Nat.beq n 0) (same.run ih fr es m) (more.run ih fr es m))
def opCopy (s : Nat) (x y : Get) (d : Put) (kc : KO) (ih : Rec) (fr : Fr) (es : Es) (m : Mem) : R :=
  slR (x.at fr es) fun b off len sz => gdR (Nat.beq sz s) (gdR (te (Nat.ble 1 len) true (Nat.beq off 0)) (
    AV.rec (motive_1 := fun _ => (Value → R) → (Nat → Nat → Nat → Nat → R) → R) (motive_2 := fun _ => Unit)
      (fun v k _ => k v) (fun _ _ _ => none) (fun _ _ _ => none) (fun _ _ _ _ => none) (fun b off len sz _ k => k b off len sz) (fun _ _ _ _ => none) (fun _ _ _ _ => none) (fun _ _ _ _ _ => none) (fun _ _ => none) (fun _ _ _ => none) (fun _ _ _ _ => none) (fun _ _ _ => none) (fun _ _ _ _ => none) () (fun _ _ _ _ => ()) (y.at fr es)
      (fun v => gdR (nilSl v) (fin d kc ih fr es m (.nat 0)))
      (fun b2 off2 n sz2 => gdR (Nat.beq sz2 s) (strictR (te (Nat.ble n len) n len) fun q => m.read b2 off2 (Nat.mul q s) fun l => m.write b off l fun m => fin d kc ih fr es m (.nat q)))))
def callR (o : R) (k : AV → Mem → R) : R := Option.rec (motive := fun _ => (AV → Mem → R) → R) (fun _ => none) (fun o k => Out.rec (motive := fun _ => (AV → Mem → R) → R) (fun _ _ _ _ => none) (fun v m k => k v m) o k) o k
def opCall (f : Get) (args : List Get) (d : Put) (kc : KO) (ih : Rec) (fr : Fr) (es : Es) (m : Mem) : R :=
  fnR (f.at fr es) fun g cap => gdR (Nat.blt g mapId) <| argsR args fr es fun l => callR (ih g (l ++ cap) m) fun v m => fin d kc ih fr es m v

def cCallE (P : Program) (oc : Orc) (S : Nat) (sg : List Nat) (c : Call) (d : Put) (kc : KO) : Option KO :=
  match c.callee with
  | .value f => some (.k (opCall (getB S sg f) (c.args.toList.map (getB S sg)) d kc))
  | .builtin b => match b with
    | .append => two? c.args.toList fun x y => two? c.argTypes.toList fun t ty => gd (Nat.beq t ty) (ob (elemT P t) fun e => ob (P.info? e) fun ie => ob ie.zero fun z =>
        gd (Nat.beq (lenAV (cellsV z)) ie.size) (some (.k (opAppendAny (getB S sg y) (.k (opSame ie.size (getB S sg x) d kc)) (.k (opAppend e ie.size ie.bytes (getB S sg x) (getB S sg y) d kc))))))
    | .copy => two? c.args.toList fun x y => two? c.argTypes.toList fun t _ => ob (elemT P t) fun e => ob (sizeT P e) fun s => some (.k (opCopy s (getB S sg x) (getB S sg y) d kc))
    | _ => none
  | _ => none

/-- s[:h:k]: the row's rest is given up, the old name of the row with it -/
def opClip (slow : KO) (s : Nat) (x : Get) (lo : Option Get) (hi : Get) (mx : Get) (d : Put) (kc : KO) (ih : Rec) (fr : Fr) (es : Es) (m : Mem) : R :=
  AV.rec (motive_1 := fun _ => (Nat → Nat → Nat → Nat → R) → R → R) (motive_2 := fun _ => Unit)
    (fun _ _ s => s) (fun _ _ s => s) (fun _ _ s => s) (fun _ _ _ s => s) (fun b off len sz k _ => k b off len sz) (fun _ _ _ s => s) (fun _ _ _ s => s) (fun _ _ _ _ s => s) (fun _ s => s) (fun _ _ s => s) (fun _ _ _ s => s) (fun _ _ s => s) (fun _ _ _ s => s) () (fun _ _ _ _ => ()) (x.at fr es)
    (fun b off len sz => bndR lo 0 fr es fun l => natR (hi.at fr es) fun h => natR (mx.at fr es) fun q => memR m fun H nx wr => blkR (m.at b) fun e z n c =>
      gdR (Nat.ble wr b) (gdR (Nat.beq s sz) (gdR (Nat.beq z sz) (gdR (Nat.beq off 0) (gdR (Nat.beq l 0) (gdR (Nat.ble h q) (gdR (Nat.ble q len) (gdR (Nat.ble 1 sz) (gdR (Nat.ble (Nat.mul len sz) n)
        (strictR (Nat.mul q sz) fun qs => heapPut H b none fun H => strictR nx fun d' => heapPut H d' (some ⟨e, z, qs, c⟩) fun H => strictR (Nat.succ d') fun nx => fin d kc ih fr es ⟨H, nx, wr⟩ (.sl d' 0 h sz)))))))))))
    (slow.run ih fr es m)
def cClip (P : Program) (oc : Orc) (S : Nat) (sg : List Nat) (whole : Op) (t : TypeId) (x : Operand) (lo hi mx : Option Operand) (d : Put) (kc : KO) : Option KO :=
  match mx, hi with
  | some q, some hi => match elemT P t with
    | none => some (.k (opSlow P oc S sg whole d kc))
    | some e => ob (sizeT P e) fun s => some (.k (opClip (.k (opSlow P oc S sg whole d kc)) s (getB S sg x) (lo.map (getB S sg)) (getB S sg hi) (getB S sg q) d kc))
  | _, _ => none
/-! ### MAPS of plain keys and values: one cell holds keys and values by turns -/
def toV1 (x : AV) : Option Value := asRaw x some
def toV (x : AV) : Option Value :=
  match x with
  | .agg l => ob (List.rec (motive := fun _ => Option (List Value)) (some []) (fun y _ ih => ob (toV1 y) fun v => ob ih fun vs => some (v :: vs)) l) fun vs => some (.agg vs.toArray)
  | x => toV1 x
def toVs (l : List AV) : Option (List Value) := List.rec (motive := fun _ => Option (List Value)) (some []) (fun y _ ih => ob (toV y) fun v => ob ih fun vs => some (v :: vs)) l
def decE : List Value → Nat → List MapEntry
  | k :: v :: r, i => { key := k, val := v, born := i } :: decE r (i + 1)
  | _, _ => []
def keyT (P : Program) (t : TypeId) : Option (TypeId × TypeId) := match P.underlying t with | some (.map k e) => some (k, e) | _ => none
def opMakeMap (d : Put) (kc : KO) (ih : Rec) (fr : Fr) (es : Es) (m : Mem) : R :=
  memR m fun H nx wr => strictR nx fun b => heapPut H b (some ⟨0, mapZ, 0, .c1 ((A1.put a1u 0 (.agg [])))⟩) fun H => strictR (Nat.succ b) fun nx => fin d kc ih fr es ⟨H, nx, wr⟩ (.fn mapId [.ptr b 0])
def mapR (x : AV) (k : Nat → R) : R := fnR x fun f l => gdR (Nat.ble mapId f) (match l with | [p] => ptrR p fun b off => gdR (Nat.beq off 0) (k b) | _ => none)
def mapBlk (o : Option Blk) (k : Cells → R) : R := Option.rec (motive := fun _ => (Cells → R) → R) (fun _ => none) (fun b k => Blk.rec (motive := fun _ => (Cells → R) → R) (fun _ z _ c k => gdR (Nat.beq z mapZ) (k c)) b k) o k
def find? (P : Program) (kt : TypeId) (empty : Bool) (key : Value) (es : List MapEntry) : Option (Option (Nat × Value)) := ob (purely P (Instr.checkKey empty 10000 kt key)) fun _ => purely P (Instr.findKey kt key es)
def opLookup (P : Program) (kt : TypeId) (zero : Value) (ok : Bool) (x ix : Get) (d : Put) (kc : KO) (ih : Rec) (fr : Fr) (es : Es) (m : Mem) : R :=
  mapR (x.at fr es) fun b => mapBlk (m.at b) fun c => aggR (c.get 0) fun l => obR (toVs l) fun vs => obR (toV (ix.at fr es)) fun key => obR (find? P kt (decE vs 0).isEmpty key (decE vs 0)) fun r =>
    match r with
    | some p => te ok (fin d kc ih fr es m (.tup [avOf p.2, .bool true])) (force (avOf p.2) fun v => fin d kc ih fr es m v)
    | none => te ok (fin d kc ih fr es m (.tup [avOf zero, .bool false])) (force (avOf zero) fun v => fin d kc ih fr es m v)
/-- the value behind a key's place -/
def setVal (l : List AV) (i : Nat) (key val : AV) : List AV := takeAV l (Nat.mul 2 i) ++ (key :: val :: dropAV l (Nat.add (Nat.mul 2 i) 2))
def keyAt (es : List MapEntry) (i : Nat) (key : Value) : Bool := match es[i]? with | some e => Instr.sameBits 10000 e.key key | none => false
def opMapUpd (P : Program) (kt : TypeId) (x ix y : Get) (d : Put) (kc : KO) (ih : Rec) (fr : Fr) (es : Es) (m : Mem) : R :=
  mapR (x.at fr es) fun b => memR m fun H nx wr => gdR (Nat.ble wr b) (mapBlk (m.at b) fun c => aggR (c.get 0) fun l => obR (toVs l) fun vs => obR (toV (ix.at fr es)) fun key => obR (toV (y.at fr es)) fun val =>
    obR (find? P kt false key (decE vs 0)) fun r =>
      match r with
      | some p => gdR (keyAt (decE vs 0) p.1 key) (heapPut H b (some ⟨0, mapZ, 0, c.put 0 (.agg (setVal l p.1 (ix.at fr es) (y.at fr es)))⟩) fun H => fin d kc ih fr es ⟨H, nx, wr⟩ undefAV)
      | none => heapPut H b (some ⟨0, mapZ, 0, c.put 0 (.agg (l ++ [ix.at fr es, y.at fr es]))⟩) fun H => fin d kc ih fr es ⟨H, nx, wr⟩ undefAV)
def cEff (P : Program) (oc : Orc) (S : Nat) (sg : List Nat) (op : Op) (d : Put) (kc : KO) : Option KO :=
  match op with
  | .alloc e => ob (zeroT P e) fun z => te (okCells (cellsV z)) (strictN (lenAV (cellsV z)) fun q => some (.k (opAllocC e q (zc q (cellsV z)) d kc))) (some (.k (opAlloc e (cellsV z) d kc)))
  | .box e x => some (.k (opBox e (getB S sg x) d kc))
  | .buildSlice t len parts => ob (elemT P t) fun e => ob (sizeT P e) fun s => te (te (Nat.beq len 0) (Nat.beq parts.size 0) false) (some (.k (opEmpty e s d kc))) (ob (zeroT P e) fun z =>
      gd (Nat.ble (Nat.mul len s) 4096) (gd (Nat.ble 1 (Nat.mul len s)) (gd (Nat.beq (lenAV (cellsV z)) s) (Option.rec (motive := fun _ => Option KO) (some (.k (opBuildSlice S sg e s len (cellsV z) parts d kc))) (fun x => some (.k (opBuild1 e s (getB S sg x) d kc))) (oneP len parts.toList)))))
  | .makeSlice t l c => ob (elemT P t) fun e => ob (P.info? e) fun ie => ob ie.zero fun z =>
      gd (Nat.ble ie.bytes 4096) (gd (Nat.ble 1 ie.size) (gd (Nat.beq (lenAV (cellsV z)) ie.size) (some (.k (opMakeSlice e ie.size (cellsV z) (getB S sg l) (getB S sg c) d kc)))))
  | .store t a x => ob (sizeT P t) fun n => te (te (Nat.beq n 1) (flatT P t) false) (some (.k (opStore1 (getB S sg a) (getB S sg x) d kc))) (some (.k (opStoreN n (getB S sg a) (getB S sg x) d kc)))
  | .slice t x lo hi mx => cClip P oc S sg op t x lo hi mx d kc
  | .makeMap t r => ob (keyT P t) fun _ => match r with | none => some (.k (opMakeMap d kc)) | some _ => none
  | .lookup t x ix ok => ob (keyT P t) fun p => ob (zeroT P p.2) fun z => some (.k (opLookup P p.1 z ok (getB S sg x) (getB S sg ix) d kc))
  | .mapUpdate t x ix y => ob (keyT P t) fun p => some (.k (opMapUpd P p.1 (getB S sg x) (getB S sg ix) (getB S sg y) d kc))
  | .insert t x ix y => ob (keyT P t) fun p => some (.k (opMapUpd P p.1 (getB S sg x) (getB S sg ix) (getB S sg y) d kc))
  | .call c => cCallE P oc S sg c d kc
  | _ => none

/-! ### REGIONS -/
def orFail (o : Option KO) : KO := Option.rec (motive := fun _ => KO) (.k opFailE) (fun k => k) o
def opGuard (g : Get) (b : Bool) (yes : KO) (d : Put) (kc : KO) (ih : Rec) (fr : Fr) (es : Es) (m : Mem) : R := isB b (g.at fr es) (yes.run ih fr es m) (fin d kc ih fr es m undefAV)

def cOp1 (P : Program) (oc : Orc) (S : Nat) (sg : List Nat) (op : Op) (d : Put) (kc : KO) : KO := orFail (te (match cPure P oc S sg op d kc with | some _ => true | none => false) (cPure P oc S sg op d kc) (cEff P oc S sg op d kc))
def guardAt (S : Nat) (sg : List Nat) (all : Array Oper) (j : Nat) : Get := match (all[j]?).bind (·.dst) with | some t => getB S sg (.tmp t) | none => .g fun _ _ => undefAV
def cOp (P : Program) (oc : Orc) (S : Nat) (sg : List Nat) (n : Nat) (all : Array Oper) (o : Oper) (kc : KO) : KO :=
  orFail (ob (dstB S n o.dst) fun d => match o.guard with
    | none => some (cOp1 P oc S sg o.op d kc)
    | some (j, b) => some (.k (opGuard (guardAt S sg all j) b (cOp1 P oc S sg o.op d kc) d kc)))
/-- a row of bytes becomes a text (in regions that draw no order) -/
def noGuard (o : Oper) : Bool := match o.guard with | none => true | some _ => false
def bytesL (l : List AV) : Option (List UInt8) :=
  List.rec (motive := fun _ => Option (List UInt8)) (some []) (fun x _ ih => asRaw x fun v => match v with | .int .u8 n => ob ih fun l => strictN n.toNat fun q => some (UInt8.ofNat q :: l) | _ => none) l
def opBytes (x : Get) (d : Put) (kc : KO) (ih : Rec) (fr : Fr) (es : Es) (m : Mem) : R :=
  slR (x.at fr es) fun b off len sz => gdR (Nat.beq sz 1) (gdR (Nat.ble 1 len) (m.read b off len fun l => obR (bytesL l) fun bs => force (strAV ⟨bs.toArray⟩) fun v => fin d kc ih fr es m v))
def u8T (P : Program) (t : TypeId) : Bool := match P.underlying t with | some (.int .u8) => true | _ => false
def bytesT (P : Program) (s t : TypeId) : Bool := match elemT P s with | some e => te (u8T P e) (stT P t) false | none => false
def isBytes (P : Program) (o : Oper) : Bool := te (noGuard o) (match o.op with | .convert s t _ => bytesT P s t | _ => false) false
def cBytes (P : Program) (S : Nat) (sg : List Nat) (n : Nat) (o : Oper) (kc : KO) : KO :=
  orFail (ob (dstB S n o.dst) fun d => match o.op with | .convert _ _ x => some (.k (opBytes (getB S sg x) d kc)) | _ => none)
def cOps (P : Program) (oc : Orc) (S : Nat) (sg : List Nat) (n : Nat) (all : Array Oper) (l : List Oper) (kc : KO) : KO := List.rec (motive := fun _ => List Nat → KO) (fun _ => kc) (fun o _ ih sg => te (isBytes P o) (cBytes P S sg n o (ih (sgOf S sg o.dst))) (cOp P oc S sg n all o (ih (sgOf S sg o.dst)))) l sg

def lockM (m : Mem) (k : Mem → R) : R := memR m fun H nx _ => k ⟨H, nx, nx⟩
def plainR (v : AV) (k : AV → R) : R :=
  AV.rec (motive_1 := fun _ => (AV → R) → R) (motive_2 := fun _ => Unit)
    (fun v k => k (.raw v)) (fun n k => k (.nat n)) (fun b k => k (.bool b)) (fun _ _ _ => none) (fun _ _ _ _ _ => none) (fun _ _ _ => none) (fun _ _ _ => none) (fun _ _ _ _ => none) (fun _ => none) (fun n k => k (.sym n)) (fun n q k => k (.str n q)) (fun n k => k (.byt n)) (fun n q k => k (.hol n q)) () (fun _ _ _ _ => ()) v k
def opCallD (f : Get) (args : List Get) (d : Put) (kc : KO) (ih : Rec) (fr : Fr) (es : Es) (m : Mem) : R :=
  fnR (f.at fr es) fun g cap => gdR (Nat.blt g mapId) <| argsR args fr es fun l => lockM m fun m' => callR (ih g (l ++ cap) m') fun v _ => plainR v fun v => fin d kc ih fr es m v
def cEffD (S : Nat) (sg : List Nat) (op : Op) (d : Put) (kc : KO) : Option KO :=
  match op with
  | .call c => match c.callee with
    | .value f => some (.k (opCallD (getB S sg f) (c.args.toList.map (getB S sg)) d kc))
    | _ => none
  | _ => none
def cOp1D (P : Program) (oc : Orc) (S : Nat) (sg : List Nat) (op : Op) (d : Put) (kc : KO) : KO := orFail (te (match cPure P oc S sg op d kc with | some _ => true | none => false) (cPure P oc S sg op d kc) (cEffD S sg op d kc))
def cOpD (P : Program) (oc : Orc) (S : Nat) (sg : List Nat) (n : Nat) (all : Array Oper) (o : Oper) (kc : KO) : KO :=
  orFail (ob (dstB S n o.dst) fun d => match o.guard with
    | none => some (cOp1D P oc S sg o.op d kc)
    | some (j, b) => some (.k (opGuard (guardAt S sg all j) b (cOp1D P oc S sg o.op d kc) d kc)))
def cOpsD (P : Program) (oc : Orc) (S : Nat) (sg : List Nat) (n : Nat) (all : Array Oper) (l : List Oper) (kc : KO) : KO := List.rec (motive := fun _ => List Nat → KO) (fun _ => kc) (fun o _ ih sg => cOpD P oc S sg n all o (ih (sgOf S sg o.dst))) l sg

/-! ### REGIONS THAT DRAW THEIR ORDER AND TOUCH THE MEMORY: first what only reads and waits for no effect; then the others, of which one alone may come up each time -/
def isLoad (op : Op) : Bool := match op with | .load _ _ => true | _ => false
def pure0 (op : Op) : Bool :=
  match op with
  | .move _ => true | .assign _ => true | .pick _ _ _ => true | .build _ _ => true | .binOp _ _ _ _ _ => true | .unOp _ _ _ => true | .convert _ _ _ => true | .makeFunc _ _ _ => true
  | .fieldAddr _ _ _ => true | .field _ _ _ => true | .indexAddr _ _ _ => true | .index _ _ _ => true | .extract _ _ => true | .nilCheck _ => true
  | .call c => match c.callee with
    | .builtin b => match b with | .len => true | .min => true | .max => true | .complex => true | .real => true | .imag => true | _ => false
    | _ => false
  | _ => false
def bitN (m i : Nat) : Bool := Nat.beq (Nat.mod (Nat.shiftRight m i) 2) 1
def anyLate (m : Nat) (l : List Edge) : Bool := List.rec (motive := fun _ => Bool) false (fun e _ ih => te (bitN m e.on) true ih) l
def lateGo (l : List Oper) (i m : Nat) : Nat :=
  List.rec (motive := fun _ => Nat → Nat → Nat) (fun _ m => m) (fun o _ ih i m => te (te (te (pure0 o.op) true (isLoad o.op)) (anyLate m o.after.toList) true) (strictN (Nat.lor m (Nat.shiftLeft 1 i)) fun m => ih (Nat.succ i) m) (ih (Nat.succ i) m)) l i m
def lateM (ops : Array Oper) : Nat := lateGo ops.toList 0 0
def pickN (b : Bool) (m : Nat) (l : List Oper) (i : Nat) : List Nat :=
  List.rec (motive := fun _ => Nat → List Nat) (fun _ => []) (fun _ _ ih i => te (te b (bitN m i) (Bool.rec (motive := fun _ => Bool) true false (bitN m i))) (i :: ih (Nat.succ i)) (ih (Nat.succ i))) l i
def early (ops : Array Oper) : List Nat := pickN false (lateM ops) ops.toList 0
def late (ops : Array Oper) : List Nat := pickN true (lateM ops) ops.toList 0
def lookM (ms : List (Nat × Nat)) (i : Nat) : Nat := List.rec (motive := fun _ => Nat) 0 (fun p _ ih => te (Nat.beq p.1 i) p.2 ih) ms
/-- what an operation waits for -/
def edgeM (ms : List (Nat × Nat)) (l : List Edge) : Nat :=
  List.rec (motive := fun _ => Nat) 0 (fun e _ ih => te (Region.binds .any e) (Nat.lor (Nat.lor (Nat.shiftLeft 1 e.on) (lookM ms e.on)) ih) ih) l
def isLoadAt (ops : Array Oper) (i : Nat) : Bool := match ops[i]? with | some o => isLoad o.op | none => false
def loadsOf (ops : Array Oper) (l : List Nat) : List Nat := List.rec (motive := fun _ => List Nat) [] (fun i _ ih => te (isLoadAt ops i) (i :: ih) ih) l
def bitsOf (l : List Nat) : Nat := List.rec (motive := fun _ => Nat) 0 (fun i _ ih => Nat.lor (Nat.shiftLeft 1 i) ih) l
/-- where a load's place is kept among the slots of a region -/
def big (i : Nat) : Nat := Nat.add 1000000 i

def finL (d : Put) (kc : KO) (ih : Rec) (fr : Fr) (es : Es) (m : Mem) (v e : AV) : R := d.put fr es v fun fr es => kc.run ih fr (e :: es) m
def opLoadL1 (x : Get) (d : Put) (kc : KO) (ih : Rec) (fr : Fr) (es : Es) (m : Mem) : R := ptrR (x.at fr es) fun b off => m.read1 b off fun v => finL d kc ih fr es m v (.agg [.ptr b off, v])
def opLoadLN (n : Nat) (x : Get) (d : Put) (kc : KO) (ih : Rec) (fr : Fr) (es : Es) (m : Mem) : R := ptrR (x.at fr es) fun b off => m.read b off n fun l => finL d kc ih fr es m (.agg l) (.agg (.ptr b off :: l))
def opGuardL (g : Get) (b : Bool) (yes : KO) (d : Put) (kc : KO) (ih : Rec) (fr : Fr) (es : Es) (m : Mem) : R := isB b (g.at fr es) (yes.run ih fr es m) (finL d kc ih fr es m undefAV (.agg []))

def rawEq (u v : Value) : Bool :=
  match u, v with
  | .string s, .string t => bytesEq s.data.toList t.data.toList
  | .pointer none, .pointer none => true
  | .slice none n c, .slice none n' c' => te (Nat.beq n n') (Nat.beq c c') false
  | .int .u8 n, .int .u8 n' => decide (n = n')
  | .int .i64 n, .int .i64 n' => decide (n = n')
  | .complex .f64 r i, .complex .f64 r' i' => te (Nat.beq r r') (Nat.beq i i') false
  | .nilFunc, .nilFunc => true
  | .nilIface, .nilIface => true
  | _, _ => false
def eqAV (x y : AV) : Bool :=
  match x, y with
  | .raw u, .raw v => rawEq u v
  | .nat n, .nat k => Nat.beq n k
  | .bool b, .bool c => Bool.rec (motive := fun _ => Bool) (Bool.rec (motive := fun _ => Bool) true false c) c b
  | .ptr b o, .ptr b' o' => te (Nat.beq b b') (Nat.beq o o') false
  | .sl b o n z, .sl b' o' n' z' => te (Nat.beq b b') (te (Nat.beq o o') (te (Nat.beq n n') (Nat.beq z z') false) false) false
  | .sym k, .sym k' => Nat.beq k k'
  | .str n q, .str n' q' => te (Nat.beq n n') (Nat.beq q q') false
  | .byt n, .byt k => Nat.beq n k
  | .hol n q, .hol n' q' => te (Nat.beq n n') (Nat.beq q q') false
  | _, _ => false
def eqAVs (l r : List AV) : Bool :=
  match l, r with
  | [], [] => true
  | x :: l, y :: r => te (eqAV x y) (eqAVs l r) false
  | _, _ => false
def chk1 (e : AV) (m : Mem) (k : R) : R :=
  aggR e fun l => List.rec (motive := fun _ => Mem → R → R) (fun _ k => k) (fun x l _ m k => ptrR x fun b off => m.read b off (lenAV l) fun l' => gdR (eqAVs l l') k) l m k
/-- what was read stands there still -/
def opCheck (gets : List Get) (kc : KO) (ih : Rec) (fr : Fr) (es : Es) (m : Mem) : R :=
  List.rec (motive := fun _ => Fr → Es → Mem → R → R) (fun _ _ _ k => k) (fun g _ ihh fr es m k => chk1 (g.at fr es) m (ihh fr es m k)) gets fr es m (kc.run ih fr es m)

def cLd1 (P : Program) (S : Nat) (sg : List Nat) (op : Op) (d : Put) (kc : KO) : Option KO :=
  match op with
  | .load t a => ob (aggT P t) fun q => te q (ob (sizeT P t) fun n => some (.k (opLoadLN n (getB S sg a) d kc))) (some (.k (opLoadL1 (getB S sg a) d kc)))
  | _ => none
def cLd (P : Program) (S : Nat) (sg : List Nat) (n : Nat) (all : Array Oper) (o : Oper) (kc : KO) : KO :=
  orFail (ob (dstB S n o.dst) fun d => match o.guard with
    | none => cLd1 P S sg o.op d kc
    | some (j, b) => some (.k (opGuardL (guardAt S sg all j) b (orFail (cLd1 P S sg o.op d kc)) d kc)))

def afterOf (ops : Array Oper) (i : Nat) : List Edge := match ops[i]? with | some o => o.after.toList | none => []
def pureAt (ops : Array Oper) (i : Nat) : Bool := match ops[i]? with | some o => pure0 o.op | none => false
/-- a store, without guard -/
def isStore0 (o : Oper) : Bool := match o.op with | .store _ _ _ => (match o.guard with | none => (match o.dst with | none => true | some _ => false) | some _ => false) | _ => false
def storeAt (ops : Array Oper) (i : Nat) : Bool := match ops[i]? with | some o => isStore0 o | none => false
/-- the later operations and how each is taken: 0 when it comes up alone, 1 as soon as it is ready (no memory), j + 2 together with operation j (two stores) -/
def planL (ops : Array Oper) (l : List Nat) (ms : List (Nat × Nat)) (pend : Nat) : List (Nat × Nat) :=
  List.rec (motive := fun _ => List (Nat × Nat) → Nat → List (Nat × Nat)) (fun _ pend => te (Nat.beq pend 0) [] [(Nat.pred pend, 0)])
    (fun i _ ih ms pend =>
      te (pureAt ops i)
        (te (te (Nat.beq pend 0) false (bitN (edgeM ms (afterOf ops i)) (Nat.pred pend)))
          ((Nat.pred pend, 0) :: (i, 1) :: ih ((i, edgeM ms (afterOf ops i)) :: ms) 0) ((i, 1) :: ih ((i, edgeM ms (afterOf ops i)) :: ms) pend))
        (te (storeAt ops i)
          (te (Nat.beq pend 0) (ih ((i, edgeM ms (afterOf ops i)) :: ms) (Nat.succ i))
            (te (bitN (edgeM ms (afterOf ops i)) (Nat.pred pend)) ((Nat.pred pend, 0) :: ih ((i, edgeM ms (afterOf ops i)) :: ms) (Nat.succ i))
              ((Nat.pred pend, Nat.succ (Nat.succ i)) :: ih ((i, edgeM ms (afterOf ops i)) :: ms) 0)))
          (te (Nat.beq pend 0) ((i, 0) :: ih ((i, edgeM ms (afterOf ops i)) :: ms) 0) ((Nat.pred pend, 0) :: (i, 0) :: ih ((i, edgeM ms (afterOf ops i)) :: ms) 0)))) l ms pend
def plan (ops : Array Oper) : List (Nat × Nat) := planL ops (late ops) [] 0
def cntP (l : List (Nat × Nat)) : Nat := List.rec (motive := fun _ => Nat) 0 (fun p _ ih => te (Nat.ble p.2 1) (Nat.succ ih) (Nat.succ (Nat.succ ih))) l

def addrB (S : Nat) (sg : List Nat) (op : Op) : Get := match op with | .store _ a _ => getB S sg a | _ => .g fun _ _ => undefAV
/-- two stores, of which either may come first: they write to different blocks -/
def opPair (x z : Get) (two : KO) (ih : Rec) (fr : Fr) (es : Es) (m : Mem) : R := ptrR (x.at fr es) fun b _ => ptrR (z.at fr es) fun b' _ => te (Nat.beq b b') none (two.run ih fr es m)
def waits (loads : List Nat) (mask : Nat) : Bool := Nat.beq (Nat.land (bitsOf loads) mask) (bitsOf loads)
def cLate (P : Program) (oc : Orc) (S n : Nat) (ops : Array Oper) (loads : List Nat) (kc : KO) (l : List (Nat × Nat)) (ms : List (Nat × Nat)) (sg : List Nat) : KO :=
  List.rec (motive := fun _ => List (Nat × Nat) → List Nat → KO) (fun _ _ => kc)
    (fun p _ ih ms sg => orFail (ob ops[p.1]? fun o =>
      te (Nat.beq p.2 0)
        (some (cOp P oc S sg n ops o
          (te (waits loads (edgeM ms o.after.toList)) (ih ((p.1, edgeM ms o.after.toList) :: ms) (sgOf S sg o.dst))
            (.k (opCheck (loads.map fun j => locB (big j) (sgOf S sg o.dst)) (ih ((p.1, edgeM ms o.after.toList) :: ms) (sgOf S sg o.dst)))))))
      (te (Nat.beq p.2 1)
        (gd (pure0 o.op) (some (cOp P oc S sg n ops o (ih ((p.1, edgeM ms o.after.toList) :: ms) (sgOf S sg o.dst)))))
        (ob ops[Nat.pred (Nat.pred p.2)]? fun o' => gd (isStore0 o) (gd (isStore0 o') (gd (waits loads (edgeM ms o.after.toList)) (gd (waits loads (edgeM ms o'.after.toList))
          (some (.k (opPair (addrB S sg o.op) (addrB S sg o'.op) (cOp P oc S sg n ops o (cOp P oc S sg n ops o' (ih ((Nat.pred (Nat.pred p.2), edgeM ms o'.after.toList) :: (p.1, edgeM ms o.after.toList) :: ms) sg))))))))))))) l ms sg
def cEarly (P : Program) (oc : Orc) (S n : Nat) (ops : Array Oper) (rest : List (Nat × Nat) → List Nat → KO) (l : List Nat) (ms : List (Nat × Nat)) (sg : List Nat) : KO :=
  List.rec (motive := fun _ => List (Nat × Nat) → List Nat → KO) (fun ms sg => rest ms sg)
    (fun i _ ih ms sg => orFail (ob ops[i]? fun o => te (isLoad o.op) (te (inS S (big i)) none (some (cLd P S sg n ops o (ih ((i, edgeM ms o.after.toList) :: ms) (big i :: sgOf S sg o.dst)))))
      (gd (pure0 o.op) (some (cOp P oc S sg n ops o (ih ((i, edgeM ms o.after.toList) :: ms) (sgOf S sg o.dst))))))) l ms sg
def cOpsM (P : Program) (oc : Orc) (S n : Nat) (ops : Array Oper) (kc : KO) : KO :=
  cEarly P oc S n ops (fun ms sg => cLate P oc S n ops (loadsOf ops (early ops)) kc (plan ops) ms sg) (early ops) [] []

def hasN (i : Nat) (l : List Nat) : Bool := List.rec (motive := fun _ => Bool) false (fun x _ ih => te (Nat.beq x i) true ih) l
def apartN (l : List Nat) : Bool := List.rec (motive := fun _ => Bool) true (fun x l ih => te (hasN x l) false ih) l
/-- may the operations come up so? -/
def goEarly (ops : Array Oper) (l : List Nat) (listed : Array Bool) (k : Array Bool → Bool) : Bool :=
  List.rec (motive := fun _ => Array Bool → (Array Bool → Bool) → Bool) (fun listed k => k listed)
    (fun i _ ih listed k => te (te ((Region.ready .any ops listed).contains i) (Region.free .any ops listed i) false) (ih (listed.setIfInBounds i true) k) false) l listed k
def goLate (ops : Array Oper) (l : List (Nat × Nat)) (listed : Array Bool) : Bool :=
  List.rec (motive := fun _ => Array Bool → Bool) (fun listed => (Region.ready .any ops listed).isEmpty)
    (fun p _ ih listed =>
      te (Nat.beq p.2 0) (te (Region.ready .any ops listed == [p.1]) (ih (listed.setIfInBounds p.1 true)) false)
      (te (Nat.beq p.2 1) (te (te (Region.ready .any ops listed == [p.1]) true (te ((Region.ready .any ops listed).contains p.1) (Region.free .any ops listed p.1) false)) (ih (listed.setIfInBounds p.1 true)) false)
        (te (te (Region.ready .any ops listed == [p.1, Nat.pred (Nat.pred p.2)])
            (te (Region.ready .any ops (listed.setIfInBounds p.1 true) == [Nat.pred (Nat.pred p.2)]) (Region.ready .any ops (listed.setIfInBounds (Nat.pred (Nat.pred p.2)) true) == [p.1]) false) false)
          (ih ((listed.setIfInBounds p.1 true).setIfInBounds (Nat.pred (Nat.pred p.2)) true)) false))) l listed
def schedOk (ops : Array Oper) : Bool :=
  te (te (Region.noSelect ops) (apartN (early ops)) false) (te (Nat.beq (Nat.add (early ops).length (cntP (plan ops))) ops.size) (goEarly ops (early ops) (Array.replicate ops.size false) fun listed => goLate ops (plan ops) listed) false) false

/-! ### REGIONS THAT DRAW THEIR ORDER, BY A PLAN THAT IS GIVEN. An entry (i, c): c = 0 when i comes up alone, 1 as soon as it is ready (no memory), 2 a load as soon as it is ready, 3 from here on a new block's operation may come up at any time, 4 by here it has -/
/-- a new block's type and grain -/
def mkT (P : Program) (op : Op) : Option (TypeId × Nat) :=
  match op with
  | .alloc e => some (e, 0)
  | .box e _ => some (e, 0)
  | .buildSlice t _ _ => ob (elemT P t) fun e => ob (sizeT P e) fun s => some (e, s)
  | .makeSlice t _ _ => ob (elemT P t) fun e => ob (sizeT P e) fun s => some (e, s)
  | _ => none
inductive MkF where | f (k : Fr → Es → (List AV → R) → R)
def MkF.run (x : MkF) : Fr → Es → (List AV → R) → R := MkF.rec (motive := fun _ => Fr → Es → (List AV → R) → R) (fun k => k) x
/-- what names it (block 0 in its number's place) and its cells -/
def mkF (P : Program) (S : Nat) (sg : List Nat) (op : Op) : Option MkF :=
  match op with
  | .alloc e => ob (zeroT P e) fun z => some (.f fun _ _ k => k (.ptr 0 0 :: cellsV z))
  | .box _ x => some (.f fun fr es k => gdR (okAll (cellsAV ((getB S sg x).at fr es))) (k (.ptr 0 0 :: cellsAV ((getB S sg x).at fr es))))
  | .buildSlice t len parts => ob (elemT P t) fun e => ob (sizeT P e) fun s => te (te (Nat.beq len 0) (Nat.beq parts.size 0) false) (some (.f fun _ _ k => k [.sl 0 0 0 s])) (ob (zeroT P e) fun z =>
      gd (Nat.ble (Nat.mul len s) 4096) (gd (Nat.ble 1 (Nat.mul len s)) (gd (Nat.beq (lenAV (cellsV z)) s) (some (.f fun fr es k =>
        obR (fillAV (fun i => some (Nat.mul i s, s)) (evParts (getG S sg fr es) parts) (repeatAV (cellsV z) len)) fun l => k (.sl 0 0 len s :: l))))))
  | .makeSlice t l c => ob (elemT P t) fun e => ob (P.info? e) fun ie => ob ie.zero fun z =>
      gd (Nat.ble ie.bytes 4096) (gd (Nat.ble 1 ie.size) (gd (Nat.beq (lenAV (cellsV z)) ie.size) (some (.f fun fr es k =>
        natR ((getB S sg l).at fr es) fun n => natR ((getB S sg c).at fr es) fun q => gdR (Nat.beq n q) (gdR (Nat.ble n 4096) (k (.sl 0 0 n ie.size :: repeatAV (cellsV z) n)))))))
  | _ => none
def nameOf (x : AV) (b : Nat) : Option AV := match x with | .ptr _ off => some (.ptr b off) | .sl _ off len sz => some (.sl b off len sz) | _ => none
def opFloat (f : MkF) (d : Put) (kc : KO) (ih : Rec) (fr : Fr) (es : Es) (m : Mem) : R := f.run fr es fun l => d.put fr es .bad fun fr es => kc.run ih fr (.agg l :: es) m
def opLand (e : TypeId) (z : Nat) (g : Get) (d : Put) (kc : KO) (ih : Rec) (fr : Fr) (es : Es) (m : Mem) : R :=
  aggR (g.at fr es) fun l => List.rec (motive := fun _ => R) none (fun x l _ => m.new e z l fun b m => obR (nameOf x b) fun v => fin d kc ih fr es m v) l
def hasDst (o : Oper) : Bool := match o.dst with | none => false | some _ => true
def cFloat (P : Program) (S n i : Nat) (sg : List Nat) (o : Oper) (kc : KO) : KO :=
  orFail (gd (noGuard o) (gd (hasDst o) (ob (dstB S n o.dst) fun d => ob (mkT P o.op) fun _ => ob (mkF P S sg o.op) fun f => te (inS S (big i)) none (some (.k (opFloat f d kc))))))
def cLand (P : Program) (S n i : Nat) (sg : List Nat) (o : Oper) (kc : KO) : KO :=
  orFail (ob (dstB S n o.dst) fun d => ob (mkT P o.op) fun p => some (.k (opLand p.1 p.2 (locB (big i) sg) d kc)))
def cPlan (P : Program) (oc : Orc) (S n : Nat) (ops : Array Oper) (kc : KO) (l : List (Nat × Nat)) (loads : List Nat) (ms : List (Nat × Nat)) (sg : List Nat) : KO :=
  List.rec (motive := fun _ => List Nat → List (Nat × Nat) → List Nat → KO) (fun _ _ _ => kc)
    (fun p _ ih loads ms sg => orFail (ob ops[p.1]? fun o =>
      te (Nat.beq p.2 0)
        (some (cOp P oc S sg n ops o
          (te (waits loads (edgeM ms o.after.toList)) (ih loads ((p.1, edgeM ms o.after.toList) :: ms) (sgOf S sg o.dst))
            (.k (opCheck (loads.map fun j => locB (big j) (sgOf S sg o.dst)) (ih loads ((p.1, edgeM ms o.after.toList) :: ms) (sgOf S sg o.dst)))))))
      (te (Nat.beq p.2 1)
        (gd (pure0 o.op) (some (cOp P oc S sg n ops o (ih loads ((p.1, edgeM ms o.after.toList) :: ms) (sgOf S sg o.dst)))))
      (te (Nat.beq p.2 2)
        (gd (isLoad o.op) (te (inS S (big p.1)) none (some (cLd P S sg n ops o (ih (p.1 :: loads) ((p.1, edgeM ms o.after.toList) :: ms) (big p.1 :: sgOf S sg o.dst))))))
      (te (Nat.beq p.2 3)
        (some (cFloat P S n p.1 sg o (ih loads ((p.1, edgeM ms o.after.toList) :: ms) (big p.1 :: sgOf S sg o.dst))))
        (some (cLand P S n p.1 sg o (ih loads ms (sgOf S sg o.dst))))))))) l loads ms sg
def cntQ (l : List (Nat × Nat)) : Nat := List.rec (motive := fun _ => Nat) 0 (fun p _ ih => te (Nat.ble p.2 3) (Nat.succ ih) ih) l

def dropN (i : Nat) (l : List Nat) : List Nat := List.rec (motive := fun _ => List Nat) [] (fun x _ ih => te (Nat.beq x i) ih (x :: ih)) l
/-- what has come up, with the new blocks that have -/
def markL (la : Array Bool) (fl : List (Nat × Bool)) : Array Bool := List.rec (motive := fun _ => Array Bool) la (fun p _ ih => te p.2 (ih.setIfInBounds p.1 true) ih) fl
/-- a new block's operation that has not come up yet -/
def isUn (k : Nat) (fl : List (Nat × Bool)) : Bool := List.rec (motive := fun _ => Bool) false (fun p _ ih => te (te (Nat.beq p.1 k) (te p.2 false true) false) true ih) fl
/-- whichever of the new blocks have come up -/
def allFl (A : List Nat) (c : List (Nat × Bool) → Bool) : Bool :=
  List.rec (motive := fun _ => (List (Nat × Bool) → Bool) → Bool) (fun c => c []) (fun i _ ih c => te (ih fun fl => c ((i, false) :: fl)) (ih fun fl => c ((i, true) :: fl)) false) A c
def unAll (r : List Nat) (fl : List (Nat × Bool)) : Bool := List.rec (motive := fun _ => Bool) true (fun k _ ih => te (isUn k fl) ih false) r
def orUn (i : Nat) (r : List Nat) (fl : List (Nat × Bool)) : Bool := List.rec (motive := fun _ => Bool) true (fun k _ ih => te (te (Nat.beq k i) true (isUn k fl)) ih false) r
def apartA (ops : Array Oper) (i : Nat) (A : List Nat) : Bool :=
  List.rec (motive := fun _ => Bool) true (fun k _ ih => te (match ops[k]?, ops[i]? with | some x, some y => x.apart ops y | _, _ => false) ih false) A
def goPlan (ops : Array Oper) (l : List (Nat × Nat)) (L A : List Nat) (la : Array Bool) : Bool :=
  List.rec (motive := fun _ => List Nat → List Nat → Array Bool → Bool) (fun _ A la => te (Nat.beq A.length 0) (Region.ready .any ops la).isEmpty false)
    (fun p _ ih L A la =>
      te (Nat.beq p.2 0) (te (te (hasN p.1 A) false true) (te (allFl A fun fl => te (hasN p.1 (Region.ready .any ops (markL la fl))) (orUn p.1 (Region.ready .any ops (markL la fl)) fl) false) (te (apartA ops p.1 A) (ih L A (la.setIfInBounds p.1 true)) false) false) false)
      (te (Nat.beq p.2 1) (te (te (hasN p.1 A) false true) (te (allFl A fun fl => te (hasN p.1 (Region.ready .any ops (markL la fl))) (Region.free .any ops (markL la fl) p.1) false) (te (apartA ops p.1 A) (ih L A (la.setIfInBounds p.1 true)) false) false) false)
      (te (Nat.beq p.2 2) (te (te (te (hasN p.1 A) true (hasN p.1 L)) false true) (te (allFl A fun fl => te (hasN p.1 (Region.ready .any ops (markL la fl))) (Region.free .any ops (markL la fl) p.1) false) (te (apartA ops p.1 A) (ih (p.1 :: L) A (la.setIfInBounds p.1 true)) false) false) false)
      (te (Nat.beq p.2 3) (te (te (te (hasN p.1 A) true (hasN p.1 L)) false true) (te (apartA ops p.1 A) (ih L (p.1 :: A) la) false) false)
        (te (hasN p.1 A) (te (allFl A fun fl => te (isUn p.1 fl) (te (Region.ready .any ops (markL la fl)).isEmpty false (unAll (Region.ready .any ops (markL la fl)) fl)) true) (ih L (dropN p.1 A) (la.setIfInBounds p.1 true)) false) false))))) l L A la
def planOk (ops : Array Oper) (l : List (Nat × Nat)) : Bool :=
  te (Region.noSelect ops) (te (Nat.beq (cntQ l) ops.size) (goPlan ops l [] [] (Array.replicate ops.size false)) false) false
/-- a plan out of a number: 16 · (entries to the base 4096, the first lowest, each 8 · i + c + 1) -/
def planGo (f : Nat) : Nat → List (Nat × Nat) :=
  Nat.rec (motive := fun _ => Nat → List (Nat × Nat)) (fun _ => []) (fun _ ih q => te (Nat.beq q 0) [] ((Nat.div (Nat.pred (Nat.mod q 4096)) 8, Nat.mod (Nat.pred (Nat.mod q 4096)) 8) :: ih (Nat.div q 4096))) f
def planOf (q : Nat) : List (Nat × Nat) := planGo 200 (Nat.div q 16)

/-- how a region that draws its order is gone through: 0 not at all, 1 what only reads, 2 with effects, from 16 on by a plan -/
abbrev Modes := Nat → Nat

/-! ### CODE -/
def codeR (o : R) (k : Ex → Fr → Mem → R) : R := Option.rec (motive := fun _ => (Ex → Fr → Mem → R) → R) (fun _ => none) (fun o k => Out.rec (motive := fun _ => (Ex → Fr → Mem → R) → R) (fun e fr m k => k e fr m) (fun _ _ _ => none) o k) o k
def opEnd (e : Ex) (_ : Rec) (fr : Fr) (m : Mem) : R := some (.code e fr m)
def thenR (e : Ex) (x : R) (fr : Fr) (m : Mem) : R :=
  Ex.rec (motive := fun _ => R → Fr → Mem → R) (fun x _ _ => x) (fun _ fr m => some (.code .ret fr m)) (fun id _ fr m => some (.code (.exit id) fr m)) (fun l _ fr m => some (.code (.goto l) fr m)) e x fr m
def opSeq (a b : KB) (ih : Rec) (fr : Fr) (m : Mem) : R := codeR (a.run ih fr m) fun e fr m => thenR e (b.run ih fr m) fr m
/-- a region's end -/
def opOut (kb : KB) (ih : Rec) (fr : Fr) (_ : Es) (m : Mem) : R := kb.run ih fr m
/-- a region -/
def opIn (ko : KO) (ih : Rec) (fr : Fr) (m : Mem) : R := ko.run ih fr [] m
def opCond (c : Get) (x y : KB) (ih : Rec) (fr : Fr) (m : Mem) : R := boolOr (c.at fr []) (fun b => teR b (x.run ih fr m) (y.run ih fr m)) none
def opBlock (id : Nat) (b : KB) (ih : Rec) (fr : Fr) (m : Mem) : R :=
  codeR (b.run ih fr m) fun e fr m => Ex.rec (motive := fun _ => Nat → Fr → Mem → R) (fun _ fr m => some (.code .normal fr m)) (fun _ fr m => some (.code .ret fr m))
    (fun i id fr m => teR (Nat.beq i id) (some (.code .normal fr m)) (some (.code (.exit i) fr m))) (fun l _ fr m => some (.code (.goto l) fr m)) e id fr m
def opLoopN (N : Nat) (b : KB) (ih : Rec) (fr : Fr) (m : Mem) : R :=
  Nat.rec (motive := fun _ => KB → Rec → Fr → Mem → R) (fun _ _ _ _ => none) (fun _ again b ih fr m => codeR (b.run ih fr m) fun e fr m => thenR e (again b ih fr m) fr m) N b ih fr m
def opScopeN (P : Program) (cc : Code → KB) (body : Code) (N : Nat) (c : KB) (ih : Rec) (fr : Fr) (m : Mem) : R :=
  Nat.rec (motive := fun _ => KB → Rec → Fr → Mem → R) (fun _ _ _ _ => none) (fun _ again c ih fr m => codeR (c.run ih fr m) fun e fr m =>
    Ex.rec (motive := fun _ => Fr → Mem → R) (fun fr m => some (.code .normal fr m)) (fun fr m => some (.code .ret fr m)) (fun id fr m => some (.code (.exit id) fr m))
      (fun l fr m => obR (findLabel body l) fun rest => again (cc rest) ih fr m) e fr m) N c ih fr m

abbrev many : Nat := 1000000

def cSeq (P : Program) (oc : Orc) (S n : Nat) (a : Code) (ca cb : KB) : KB :=
  match a with
  | .region _ ops draw => te draw (.k (opSeq ca cb)) (.k (opIn (cOps P oc S [] n ops ops.toList (.k (opOut cb)))))
  | .skip => cb
  | .label _ => cb
  | _ => .k (opSeq ca cb)

/-- code with a fuel for its depth (a jump's code is found anew) -/
def cCode (P : Program) (oc : Orc) (sk : Modes) (S n : Nat) : Nat → Code → KB :=
  Nat.rec (motive := fun _ => Code → KB) (fun _ => .k opFail) (fun _ deeper c =>
    Code.rec (motive := fun _ => KB)
      (.k (opEnd .normal))
      (fun id ops draw => te draw (te (Nat.beq (sk id) 1) (.k (opIn (cOpsD P oc S [] n ops ops.toList (.k (opOut (.k (opEnd .normal))))))) (te (Nat.beq (sk id) 2) (.k (opIn (cOpsM P oc S n ops (.k (opOut (.k (opEnd .normal))))))) (te (Nat.ble 16 (sk id)) (.k (opIn (cPlan P oc S n ops (.k (opOut (.k (opEnd .normal)))) (planOf (sk id)) [] [] []))) (.k opFail)))) (.k (opIn (cOps P oc S [] n ops ops.toList (.k (opOut (.k (opEnd .normal))))))))
      (fun a _ ca cb => cSeq P oc S n a ca cb)
      (fun c _ _ cx cy => .k (opCond (getB S [] c) cx cy))
      (fun id _ cb => .k (opBlock id cb))
      (fun _ cb => .k (opLoopN many cb))
      (fun _ _ _ _ _ _ => .k opFail)
      (fun id => .k (opEnd (.exit id)))
      (fun b cb => .k (opScopeN P deeper b many cb))
      (fun _ => .k (opEnd .normal))
      (fun l => .k (opEnd (.goto l)))
      (.k (opEnd .ret))
      (fun _ => .k opFail) c)

/-- the regions that draw their order may be gone through in order (but for those that are passed over) -/
def lexAll (sk : Modes) (c : Code) : Bool :=
  Code.rec (motive := fun _ => Bool) true (fun id ops d => te d (te (Nat.beq (sk id) 1) (Region.lexB .any ops) (te (Nat.beq (sk id) 2) (schedOk ops) (te (Nat.ble 16 (sk id)) (planOk ops (planOf (sk id))) true))) true) (fun _ _ a b => te a b false) (fun _ _ _ a b => te a b false) (fun _ _ b => b) (fun _ b => b) (fun _ _ _ _ a b => te a b false)
    (fun _ => true) (fun _ b => b) (fun _ => true) (fun _ => true) true (fun _ => true) c
def lexFns (sk : Nat → Modes) (l : List Func) (f : Nat) : Bool :=
  List.rec (motive := fun _ => Nat → Bool) (fun _ => true) (fun fn _ ih f => te (match fn.body with | some c => lexAll (sk f) c | none => true) (ih (Nat.succ f)) false) l f

/-! ### CALLS -/
inductive Res where
  | tmp (x : Get)
  | load1 (x : Get)
  | loadN (n : Nat) (x : Get)
def cRes (P : Program) (S : Nat) (r : ResultVar) : Option Res :=
  match r with
  | .tmp t => some (.tmp (getB S [] (.tmp t)))
  | .cell a t => ob (aggT P t) fun q => te q (ob (sizeT P t) fun n => some (.loadN n (getB S [] (.tmp a)))) (some (.load1 (getB S [] (.tmp a))))
def resR (r : Res) (fr : Fr) (m : Mem) (k : AV → R) : R :=
  Res.rec (motive := fun _ => Fr → Mem → (AV → R) → R) (fun x fr _ k => force (x.at fr []) k) (fun x fr m k => ptrR (x.at fr []) fun b off => m.read1 b off k) (fun n x fr m k => ptrR (x.at fr []) fun b off => m.read b off n fun l => k (.agg l)) r fr m k
def resAll (l : List Res) (fr : Fr) (m : Mem) (k : List AV → R) : R :=
  List.rec (motive := fun _ => Fr → Mem → (List AV → R) → R) (fun _ _ k => k []) (fun r _ ih fr m k => resR r fr m fun v => ih fr m fun l => k (v :: l)) l fr m k
def singleR (l : List AV) (k : AV → R) : R :=
  List.rec (motive := fun _ => (AV → R) → R) (fun k => k (.tup [])) (fun x l _ k => List.rec (motive := fun _ => AV → (AV → R) → R) (fun x k => k x) (fun y l _ x k => k (.tup (x :: y :: l))) l x k) l k

/-! ### WHICH SLOTS ONE REGION ALONE USES (nothing is owed for this: what is wrong here only fails) -/
def bitO (x : Operand) : Nat := match x with | .tmp t => Nat.shiftLeft 1 t | _ => 0
def bitsL (l : List Operand) : Nat := List.rec (motive := fun _ => Nat) 0 (fun x _ ih => Nat.lor (bitO x) ih) l
def bitD (d : Option Nat) : Nat := match d with | some t => Nat.shiftLeft 1 t | none => 0
def bitsR (l : List Oper) : Nat := List.rec (motive := fun _ => Nat) 0 (fun o _ ih => Nat.lor (Nat.lor (bitD o.dst) (bitsL o.op.operands.toList)) ih) l
/-- slots seen, slots shared -/
def scan (c : Code) : Nat → Nat → Nat × Nat :=
  Code.rec (motive := fun _ => Nat → Nat → Nat × Nat)
    (fun s g => (s, g))
    (fun _ ops _ s g => strictN (bitsR ops.toList) fun r => strictN (Nat.lor g (Nat.land s r)) fun g => strictN (Nat.lor s r) fun s => (s, g))
    (fun _ _ ia ib s g => Prod.rec (motive := fun _ => Nat × Nat) (fun s g => ib s g) (ia s g))
    (fun c _ _ ia ib s g => strictN (Nat.lor g (bitO c)) fun g => Prod.rec (motive := fun _ => Nat × Nat) (fun s g => ib s g) (ia s g))
    (fun _ _ ib s g => ib s g)
    (fun _ ib s g => ib s g)
    (fun _ _ _ _ _ _ s g => (s, g))
    (fun _ s g => (s, g))
    (fun _ ib s g => ib s g)
    (fun _ s g => (s, g))
    (fun _ s g => (s, g))
    (fun s g => (s, g))
    (fun _ s g => (s, g)) c
def bitsRes (l : List ResultVar) : Nat := List.rec (motive := fun _ => Nat) 0 (fun r _ ih => Nat.lor (match r with | .tmp t => Nat.shiftLeft 1 t | .cell a _ => Nat.shiftLeft 1 a) ih) l
def localS (fn : Func) (c : Code) : Nat :=
  Prod.rec (motive := fun _ => Nat) (fun s g => strictN (Nat.lor g (Nat.lor (bitsRes fn.results.toList) (Nat.sub (Nat.shiftLeft 1 (Nat.add fn.params.size fn.nfree)) 1))) fun g => Nat.sub s (Nat.land s g)) (scan c 0 0)

structure CF where
  np : Nat
  body : KB
  res : List Res

def allSome (P : Program) (S : Nat) (l : List ResultVar) : Option (List Res) :=
  List.rec (motive := fun _ => Option (List Res)) (some []) (fun r _ ih => ob (cRes P S r) fun x => ob ih fun xs => some (x :: xs)) l

def fnB (P : Program) (oc : Orc) (sk : Nat → Modes) (f : FuncId) : Option CF :=
  ob P.funcs[f]? fun fn => ob fn.body fun c => gd (Nat.ble fn.ntmps 512) (strictN (localS fn c) fun S => ob (allSome P S fn.results.toList) fun rs => some ⟨fn.ntmps, cCode P oc (sk f) S fn.ntmps 3 c, rs⟩)

def frameR (l : List AV) (i : Nat) (fr : Fr) (k : Fr → R) : R :=
  List.rec (motive := fun _ => Nat → Fr → (Fr → R) → R) (fun _ fr k => k fr) (fun x _ ih i fr k => force x fun x => A3.putK fr i x fun fr => ih (Nat.succ i) fr k) l i fr k

def endR (e : Ex) (l : List Res) (fr : Fr) (m : Mem) : R :=
  Ex.rec (motive := fun _ => List Res → Fr → Mem → R) (fun l fr m => resAll l fr m fun xs => singleR xs fun v => some (.call v m)) (fun l fr m => resAll l fr m fun xs => singleR xs fun v => some (.call v m)) (fun _ _ _ _ => none) (fun _ _ _ _ => none) e l fr m

def bodyR (P : Program) (oc : Orc) (sk : Nat → Modes) (ih : Rec) (f : FuncId) (args : List AV) (m : Mem) : R :=
  obR (fnB P oc sk f) fun cf => gdR (Nat.ble (lenAV args) cf.np) (frameR args 0 a3u fun fr => codeR (cf.body.run ih fr m) fun e fr m => endR e cf.res fr m)

/-- calls whose answer is known -/
abbrev Known := FuncId → List AV → Option AV

def rec (P : Program) (oc : Orc) (sk : Nat → Modes) (kn : Known) (N : Nat) : Rec :=
  Nat.rec (motive := fun _ => Rec) (fun _ _ _ => none) (fun _ ih f args m => Option.rec (motive := fun _ => R) (bodyR P oc sk ih f args m) (fun v => force v fun v => some (.call v m)) (kn f args)) N

def isTrue (o : R) : Bool :=
  match o with
  | some (.call (.bool true) _) => true
  | _ => false

def mem0 : Mem := ⟨b5u, 0, 0⟩
def noneKnown : Known := fun _ _ => none
def noOrc : Orc := fun _ _ _ => none

end
end Go.Proofs.YtplnnlnkcfappaaGreat.E3
