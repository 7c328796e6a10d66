/- The evaluator: what it computes. (Written for the kernel: small branches, recursors.) -/
import Derived.Test.YteaaahcgkodcdaaVa
import Derived.Lib.QuietBelow
namespace Go.Proofs.Yteaaahcgkodcdaa.Ev
open Go Go.RowKit

noncomputable section
variable {β : Type}

structure Blk where
  e : TypeId
  z : Nat
  n : Nat
  c : Tr AV

structure Mem where
  H : Tr Blk
  nx : Nat

abbrev deep : Nat := 40

section words
variable {α : Type}
def ob (o : Option α) (k : α → Option β) : Option β := Option.rec (motive := fun _ => Option β) none k o
def gd (b : Bool) (k : Option β) : Option β := Bool.rec (motive := fun _ => Option β) none k b
def te (b : Bool) (x y : β) : β := Bool.rec (motive := fun _ => β) y x b
def asRaw (v : AV) (k : Value → Option β) : Option β := match v with | .raw x => k x | _ => none
def asPtr (v : AV) (k : Nat → Nat → Option β) : Option β := match v with | .ptr b off => k b off | _ => none
def asSl (v : AV) (k : Nat → Nat → Nat → Nat → Option β) : Option β := match v with | .sl b off len sz => k b off len sz | _ => none
def asAgg (v : AV) (k : List AV → Option β) : Option β := match v with | .agg l => k l | _ => none
def asTup (v : AV) (k : List AV → Option β) : Option β := match v with | .tup l => k l | _ => none
def asFn (v : AV) (k : FuncId → List AV → Option β) : Option β := match v with | .fn f l => k f l | _ => none
def asNatI (n : Int) (k : Nat → Option β) : Option β := match n with | .ofNat n => k n | _ => none
def asNatV (v : Value) (k : Nat → Option β) : Option β := match v with | .int _ n => asNatI n k | _ => none
def asNat (v : AV) (k : Nat → Option β) : Option β := match v with | .raw x => asNatV x k | _ => none
end words

/-- a whole number, reckoned at once -/
def strictN {β : Type} (n : Nat) (k : Nat → β) : β := Nat.rec (motive := fun _ => Unit → β) (fun _ => k 0) (fun m _ _ => k (Nat.succ m)) n ()
def boolAV (b : Bool) : Option AV := Bool.rec (motive := fun _ => Option AV) (some (.raw (.bool false))) (some (.raw (.bool true))) b

/-! ### Cells -/
def cellsV (v : Value) : List AV := match v with | .agg cs => cs.toList.map .raw | v => [.raw v]
def cellsAV (v : AV) : List AV := match v with | .agg l => l | .raw v => cellsV v | v => [v]

def oneV : Value → Bool
  | .agg _ => false
  | .tuple _ => false
  | _ => true

def oneAV : AV → Bool
  | .raw v => oneV v
  | .agg _ => false
  | .tup _ => false
  | _ => true

/-- lays the cells from place 'i' on -/
def putAll (l : List AV) : Nat → Tr AV → Option (Tr AV) :=
  List.rec (motive := fun _ => Nat → Tr AV → Option (Tr AV)) (fun _ t => some t)
    (fun x _ ih i t => gd (oneAV x) (ob (t.set (some x) deep i) fun t' => ih (Nat.succ i) t')) l

/-- the n cells from place 'i' on -/
def getAll (t : Tr AV) (n : Nat) : Nat → Option (List AV) :=
  Nat.rec (motive := fun _ => Nat → Option (List AV)) (fun _ => some [])
    (fun _ ih i => ob (t.get i) fun x => ob (ih (Nat.succ i)) fun l => some (x :: l)) n

def Mem.new (m : Mem) (e : TypeId) (z : Nat) (l : List AV) (k : Nat → Mem → Option β) : Option β :=
  gd (Nat.ble l.length 1048576) (gd (Nat.beq (Nat.mod l.length z) 0) (strictN l.length fun q =>
    ob (putAll l 0 .leaf) fun c => strictN m.nx fun b => ob (m.H.set (some ⟨e, z, q, c⟩) deep b) fun H => k b ⟨H, Nat.succ b⟩))

/-- n cells of block b from 'off' on -/
def Mem.read (m : Mem) (b off n : Nat) : Option (List AV) :=
  ob (m.H.get b) fun k => gd (Nat.ble (Nat.add off n) k.n) (getAll k.c n off)

def Mem.read1 (m : Mem) (b off : Nat) : Option AV :=
  ob (m.H.get b) fun k => gd (Nat.blt off k.n) (k.c.get off)

def Mem.write (m : Mem) (wr b off : Nat) (l : List AV) : Option Mem :=
  gd (Nat.ble wr b) (ob (m.H.get b) fun k => gd (Nat.ble (Nat.add off l.length) k.n)
    (ob (putAll l off k.c) fun c => ob (m.H.set (some ⟨k.e, k.z, k.n, c⟩) deep b) fun H => some ⟨H, m.nx⟩))

/-! ### Types -/
def aggD : TypeDesc → Bool
  | .struct _ => true
  | .array _ _ => true
  | _ => false

def sizeT (P : Program) (t : TypeId) : Option Nat := ob (P.info? t) fun i => some i.size
def zeroT (P : Program) (t : TypeId) : Option Value := ob (P.info? t) fun i => i.zero
def aggT (P : Program) (t : TypeId) : Option Bool := ob (P.underlying t) fun d => some (aggD d)
def elemD : TypeDesc → Option TypeId
  | .slice e => some e
  | _ => none
def elemT (P : Program) (t : TypeId) : Option TypeId := ob (P.underlying t) elemD
def structD : TypeDesc → Option (Array Field)
  | .struct fs => some fs
  | _ => none
def structT (P : Program) (t : TypeId) : Option (Array Field) := ob (P.underlying t) structD
def fieldT (P : Program) (t : TypeId) (i : Nat) : Option Field := ob (structT P t) fun fs => fs[i]?

/-! ### Operands, plain things -/
def orUndef : Option AV → AV
  | some v => v
  | none => .raw undef

def evO (tm : Tr AV) : Operand → AV
  | .tmp t => orUndef (tm.get t)
  | .const v => .raw v
  | .global g => .raw (.pointer (some ⟨g, 0, none⟩))
  | .func f => .fn f []

def purely {α : Type} (P : Program) : Sem α → Option α
  | .pure a => some a
  | .program k => purely P (k P)
  | .mark _ k => purely P k
  | _ => none

def strictI {β : Type} (i : Int) (k : Int → β) : β :=
  Int.rec (motive := fun _ => β) (fun n => strictN n fun n => k (.ofNat n)) (fun n => strictN n fun n => k (.negSucc n)) i

def strictV (v : Value) : Option AV :=
  match v with
  | .int q n => strictI n fun n => some (.raw (.int q n))
  | .bool b => boolAV b
  | v => some (.raw v)

/-- the operation by the model's own word, all its operands being plain values -/
def evPlain (P : Program) (s : Sem Value) : Option AV := ob (purely P s) strictV

def rawOpt (tm : Tr AV) (o : Option Operand) (k : Option Value → Option β) : Option β :=
  match o with
  | none => k none
  | some x => asRaw (evO tm x) fun v => k (some v)

def natOpt (tm : Tr AV) (d : Nat) (o : Option Operand) (k : Nat → Option β) : Option β :=
  match o with
  | none => k d
  | some x => asNat (evO tm x) k

def dropAV : List AV → Nat → List AV
  | l, 0 => l
  | [], _ => []
  | _ :: l, n + 1 => dropAV l n
def takeAV : List AV → Nat → List AV
  | _, 0 => []
  | [], _ => []
  | x :: l, n + 1 => x :: takeAV l n
def headAV : List AV → Option AV
  | x :: _ => some x
  | [] => none

/-- fills the places -/
def fillAV (place : Nat → Option (Nat × Nat)) (ps : List (Nat × AV)) : List AV → Option (List AV) :=
  List.rec (motive := fun _ => List AV → Option (List AV)) (fun l => some l)
    (fun p _ ih l => ob (place p.1) fun q =>
      gd (Nat.beq (cellsAV p.2).length q.2) (gd (Nat.ble (Nat.add q.1 (cellsAV p.2).length) l.length)
        (ih (takeAV l q.1 ++ (cellsAV p.2 ++ dropAV l (Nat.add q.1 (cellsAV p.2).length)))))) ps

def repeatAV (z : List AV) (n : Nat) : List AV := Nat.rec (motive := fun _ => List AV) [] (fun _ ih => z ++ ih) n

def evParts (tm : Tr AV) (ps : Array (Nat × Operand)) : List (Nat × AV) := ps.toList.map fun x => (x.1, evO tm x.2)
def evArgs (tm : Tr AV) (l : List Operand) : List AV := l.map (evO tm)

/-! ### Whole numbers, quickly -/
def kcode : IntKind → Nat
  | .i8 => 0 | .i16 => 1 | .i32 => 2 | .i64 => 3 | .u8 => 4 | .u16 => 5 | .u32 => 6 | .u64 => 7

def fastAdd (k k' : IntKind) (i j : Nat) (slow : Unit → Option AV) : Option AV :=
  te (Nat.beq (kcode k) 3) (te (Nat.beq (kcode k') 3) (te (Nat.blt (Nat.add i j) 9223372036854775808) (strictN (Nat.add i j) fun n => some (.raw (.int .i64 (.ofNat n)))) (slow ())) (slow ())) (slow ())
def fastSub (k k' : IntKind) (i j : Nat) (slow : Unit → Option AV) : Option AV :=
  te (Nat.beq (kcode k) 3) (te (Nat.beq (kcode k') 3) (te (Nat.ble j i) (te (Nat.blt i 9223372036854775808) (strictN (Nat.sub i j) fun n => some (.raw (.int .i64 (.ofNat n)))) (slow ())) (slow ())) (slow ())) (slow ())
def fastCmp (k k' : IntKind) (b : Bool) (slow : Unit → Option AV) : Option AV :=
  te (Nat.beq (kcode k) (kcode k')) (boolAV b) (slow ())

def fastInt3 (op : BinOp) (k : IntKind) (i : Nat) (k' : IntKind) (j : Nat) (slow : Unit → Option AV) : Option AV :=
  match op with
  | .add => fastAdd k k' i j slow
  | .sub => fastSub k k' i j slow
  | .eql => fastCmp k k' (Nat.beq i j) slow
  | .neq => fastCmp k k' (Bool.not (Nat.beq i j)) slow
  | .lss => fastCmp k k' (Nat.blt i j) slow
  | .leq => fastCmp k k' (Nat.ble i j) slow
  | .gtr => fastCmp k k' (Nat.blt j i) slow
  | .geq => fastCmp k k' (Nat.ble j i) slow
  | _ => slow ()
def fastInt2 (op : BinOp) (k : IntKind) (i : Nat) (k' : IntKind) (n : Int) (slow : Unit → Option AV) : Option AV :=
  match n with
  | .ofNat j => fastInt3 op k i k' j slow
  | .negSucc _ => slow ()
def fastInt (op : BinOp) (k : IntKind) (m : Int) (k' : IntKind) (n : Int) (slow : Unit → Option AV) : Option AV :=
  match m with
  | .ofNat i => fastInt2 op k i k' n slow
  | .negSucc _ => slow ()
def fastBin2 (op : BinOp) (k : IntKind) (m : Int) (b : Value) (slow : Unit → Option AV) : Option AV :=
  match b with
  | .int k' n => fastInt op k m k' n slow
  | _ => slow ()
def fastBin (op : BinOp) (a b : Value) (slow : Unit → Option AV) : Option AV :=
  match a with
  | .int k m => fastBin2 op k m b slow
  | _ => slow ()

/-! ### OPERATIONS THAT LEAVE THE MEMORY -/
def evPick (tm : Tr AV) (c a b : Operand) : Option AV :=
  asRaw (evO tm c) fun v => match v with
    | .bool x => te x (some (evO tm a)) (some (evO tm b))
    | _ => none
def evBuild (P : Program) (tm : Tr AV) (t : TypeId) (parts : Array (Nat × Operand)) : Option AV :=
  ob (zeroT P t) fun z => ob (structT P t) fun fs => ob (fs.toList.mapM (fun f => (P.info? f.type).map fun i => (f.offset, i.size))) fun pl =>
    ob (fillAV (pl.toArray[·]?) (evParts tm parts) (cellsV z)) fun l => some (.agg l)
def evRead (P : Program) (m : Mem) (t : TypeId) (b off : Nat) : Option AV :=
  ob (aggT P t) fun g => te g (ob (sizeT P t) fun n => ob (m.read b off n) fun l => some (.agg l)) (m.read1 b off)
def evLoad (P : Program) (tm : Tr AV) (m : Mem) (t : TypeId) (a : Operand) : Option AV :=
  asPtr (evO tm a) fun b off => evRead P m t b off
def evBin (P : Program) (tm : Tr AV) (op : BinOp) (t : TypeId) (x y : Operand) : Option AV :=
  asRaw (evO tm x) fun a => asRaw (evO tm y) fun b => fastBin op a b fun _ => evPlain P (do eqGuard op t x y a b; binOp op t a b)
def evUn (P : Program) (tm : Tr AV) (op : UnOp) (x : Operand) : Option AV := asRaw (evO tm x) fun a => evPlain P (Op.unary op a)
def evConv (P : Program) (tm : Tr AV) (s d : TypeId) (x : Operand) : Option AV := asRaw (evO tm x) fun a => evPlain P (convert s d a)
def evFn (tm : Tr AV) (f : Fn) (first cap : Array Operand) : Option AV :=
  match f with
  | .func f => gd (Nat.beq first.size 0) (some (.fn f (evArgs tm cap.toList)))
  | _ => none
def evSliceRaw (P : Program) (tm : Tr AV) (t : TypeId) (a : Value) (lo hi mx : Option Operand) : Option AV :=
  rawOpt tm lo fun l => rawOpt tm hi fun h => rawOpt tm mx fun k => evPlain P (Instr.sliceAt t a l h k)
def evSliceSl (P : Program) (tm : Tr AV) (m : Mem) (t : TypeId) (b off len sz : Nat) (lo hi : Option Operand) : Option AV :=
  ob (elemT P t) fun e => ob (sizeT P e) fun s => natOpt tm 0 lo fun l => natOpt tm len hi fun h => ob (m.H.get b) fun k =>
    gd (Nat.beq s sz) (gd (Nat.ble h len) (gd (Nat.ble 1 sz) (gd (Nat.ble (Nat.add off (Nat.mul len sz)) k.n) (gd (te (Nat.beq l 0) true (Nat.blt l h))
      (strictN (Nat.add off (Nat.mul l sz)) fun o => strictN (Nat.sub h l) fun q => some (.sl b o q sz))))))
def evSlice (P : Program) (tm : Tr AV) (m : Mem) (t : TypeId) (x : Operand) (lo hi mx : Option Operand) : Option AV :=
  match evO tm x with
  | .raw a => evSliceRaw P tm t a lo hi mx
  | .sl b off len sz => match mx with
    | none => evSliceSl P tm m t b off len sz lo hi
    | some _ => none
  | _ => none
def evFieldAddr (P : Program) (tm : Tr AV) (s : TypeId) (x : Operand) (i : Nat) : Option AV :=
  asPtr (evO tm x) fun b off => ob (fieldT P s i) fun f => ob (sizeT P f.type) fun n => gd (Nat.ble 1 n) (strictN (Nat.add off f.offset) fun o => some (.ptr b o))
def evField (P : Program) (tm : Tr AV) (s : TypeId) (x : Operand) (i : Nat) : Option AV :=
  asAgg (evO tm x) fun l => ob (fieldT P s i) fun f => ob (aggT P f.type) fun g =>
    te g (ob (sizeT P f.type) fun n => some (.agg (takeAV (dropAV l f.offset) n))) (headAV (dropAV l f.offset))
def evIndexAddr (P : Program) (tm : Tr AV) (t : TypeId) (x ix : Operand) : Option AV :=
  asSl (evO tm x) fun b off len sz => asNat (evO tm ix) fun i => ob (elemT P t) fun e => ob (sizeT P e) fun s =>
    gd (Nat.beq s sz) (gd (Nat.blt i len) (strictN (Nat.add off (Nat.mul i sz)) fun o => some (.ptr b o)))
def evIndex (P : Program) (tm : Tr AV) (t : TypeId) (x ix : Operand) : Option AV :=
  asRaw (evO tm x) fun a => asRaw (evO tm ix) fun i => evPlain P (Instr.index t a i)
def evExtract (tm : Tr AV) (x : Operand) (i : Nat) : Option AV := asTup (evO tm x) fun l => headAV (dropAV l i)
def evLen1 (P : Program) (t : TypeId) (x : AV) : Option AV :=
  match x with
  | .sl _ _ n _ => ob (elemT P t) fun _ => some (.raw (.int .i64 (.ofNat n)))
  | .raw v => evPlain P (Builtin.len_ #[t] 0 #[v])
  | _ => none
def one? {α β : Type} (l : List α) (k : α → Option β) : Option β := match l with | [x] => k x | _ => none
def two? {α β : Type} (l : List α) (k : α → α → Option β) : Option β := match l with | [x, y] => k x y | _ => none
def evLen (P : Program) (tm : Tr AV) (c : Call) : Option AV :=
  one? c.args.toList fun x => one? c.argTypes.toList fun t => evLen1 P t (evO tm x)
def rawAll (l : List AV) : Option (List Value) :=
  List.rec (motive := fun _ => Option (List Value)) (some []) (fun x _ ih => asRaw x fun v => ob ih fun vs => some (v :: vs)) l
def evBuiltin (P : Program) (tm : Tr AV) (c : Call) (b : Builtin) : Option AV :=
  match b with
  | .len => evLen P tm c
  | .min => ob (rawAll (evArgs tm c.args.toList)) fun vs => evPlain P (Builtin.min_ c.argTypes 0 vs.toArray)
  | .max => ob (rawAll (evArgs tm c.args.toList)) fun vs => evPlain P (Builtin.max_ c.argTypes 0 vs.toArray)
  | _ => none
def evCallP (P : Program) (tm : Tr AV) (c : Call) : Option AV :=
  match c.callee with
  | .builtin b => evBuiltin P tm c b
  | _ => none

def evPure (P : Program) (tm : Tr AV) (m : Mem) (op : Op) : Option AV :=
  match op with
  | .move x => some (evO tm x)
  | .assign x => some (evO tm x)
  | .pick c a b => evPick tm c a b
  | .build t parts => evBuild P tm t parts
  | .load t a => evLoad P tm m t a
  | .binOp op t x y _ => evBin P tm op t x y
  | .unOp op _ x => evUn P tm op x
  | .convert s d x => evConv P tm s d x
  | .makeFunc f first cap => evFn tm f first cap
  | .slice t x lo hi mx => evSlice P tm m t x lo hi mx
  | .fieldAddr s x i => evFieldAddr P tm s x i
  | .field s x i => evField P tm s x i
  | .indexAddr t x ix => evIndexAddr P tm t x ix
  | .index t x ix => evIndex P tm t x ix
  | .extract x i => evExtract tm x i
  | .call c => evCallP P tm c
  | _ => none

/-! ### OPERATIONS THAT TOUCH THE MEMORY, AND CALLS -/
inductive Rs where
  | val (v : AV) (m : Mem)
  | skip (m : Mem)
  | call (f : FuncId) (args : List AV)

def evAlloc (P : Program) (m : Mem) (e : TypeId) : Option Rs := ob (zeroT P e) fun z => m.new e 1 (cellsV z) fun b m => some (.val (.ptr b 0) m)
def evBox (tm : Tr AV) (m : Mem) (e : TypeId) (x : Operand) : Option Rs := m.new e 1 (cellsAV (evO tm x)) fun b m => some (.val (.ptr b 0) m)
def evBuildSlice (P : Program) (tm : Tr AV) (m : Mem) (t : TypeId) (len : Nat) (parts : Array (Nat × Operand)) : Option Rs :=
  ob (elemT P t) fun e => ob (sizeT P e) fun s => ob (zeroT P e) fun z =>
    gd (Nat.ble (Nat.mul len s) 4096) (gd (Nat.ble 1 (Nat.mul len s)) (gd (Nat.beq (cellsV z).length s)
      (ob (fillAV (fun i => some (Nat.mul i s, s)) (evParts tm parts) (repeatAV (cellsV z) len)) fun l => m.new e s l fun b m => some (.val (.sl b 0 len s) m))))
def evMakeSlice (P : Program) (tm : Tr AV) (m : Mem) (t : TypeId) (l c : Operand) : Option Rs :=
  ob (elemT P t) fun e => asNat (evO tm l) fun n => asNat (evO tm c) fun k => ob (P.info? e) fun ie => ob ie.zero fun z =>
    gd (Nat.beq n k) (gd (Nat.ble n 4096) (gd (Nat.ble 1 n) (gd (Nat.ble ie.bytes 4096) (gd (Nat.ble 1 ie.size) (gd (Nat.beq (cellsV z).length ie.size)
      (m.new e ie.size (repeatAV (cellsV z) n) fun b m => some (.val (.sl b 0 n ie.size) m)))))))
def evStore (P : Program) (wr : Nat) (tm : Tr AV) (m : Mem) (t : TypeId) (a x : Operand) : Option Rs :=
  asPtr (evO tm a) fun b off => ob (sizeT P t) fun n => gd (Nat.beq (cellsAV (evO tm x)).length n) (ob (m.write wr b off (cellsAV (evO tm x))) fun m' => some (.skip m'))

def appendNil (m : Mem) (e s n : Nat) (news : List AV) (v : Value) : Option Rs :=
  match v with
  | .slice a len cap => match a with
    | none => gd (Nat.beq len 0) (gd (Nat.beq cap 0) (m.new e s news fun b m => some (.val (.sl b 0 n s) m)))
    | some _ => none
  | _ => none
def appendSl (wr : Nat) (m : Mem) (e s bytes n : Nat) (news : List AV) (b off len sz : Nat) : Option Rs :=
  gd (Nat.beq off 0) (gd (Nat.beq sz s) (gd (Nat.ble wr b) (gd (Nat.ble (Nat.mul len bytes) 1048576)
    (ob (m.H.get b) fun k => gd (Nat.beq k.e e) (gd (Nat.beq k.z sz) (gd (Nat.ble (Nat.mul len sz) k.n)
      (ob (putAll news (Nat.mul len sz) k.c) fun c => ob (m.H.set none deep b) fun H => strictN m.nx fun d => strictN (Nat.add len n) fun q => gd (Nat.ble q 1048576) (
        strictN (Nat.mul q sz) fun qs => ob (H.set (some ⟨e, sz, qs, c⟩) deep d) fun H' => some (.val (.sl d 0 q sz) ⟨H', Nat.succ d⟩)))))))))
def evAppend2 (wr : Nat) (m : Mem) (e s bytes : Nat) (x y : AV) : Option Rs :=
  asSl y fun b2 off2 n sz2 => gd (Nat.beq sz2 s) (gd (Nat.ble 1 s) (gd (Nat.ble 1 n) (gd (Nat.ble (Nat.mul n bytes) 1048576) (ob (m.read b2 off2 (Nat.mul n s)) fun news =>
    match x with
    | .raw v => appendNil m e s n news v
    | .sl b off len sz => appendSl wr m e s bytes n news b off len sz
    | _ => none))))
def evAppend (P : Program) (wr : Nat) (tm : Tr AV) (m : Mem) (c : Call) : Option Rs :=
  two? c.args.toList fun x y => two? c.argTypes.toList fun t ty => gd (Nat.beq t ty) (ob (elemT P t) fun e => ob (P.info? e) fun ie => ob ie.zero fun z => gd (Nat.beq (cellsV z).length ie.size) (
    evAppend2 wr m e ie.size ie.bytes (evO tm x) (evO tm y)))
def evCallE (P : Program) (wr : Nat) (tm : Tr AV) (m : Mem) (c : Call) : Option Rs :=
  match c.callee with
  | .value f => asFn (evO tm f) fun g cap => some (.call g (evArgs tm c.args.toList ++ cap))
  | .builtin b => match b with
    | .append => evAppend P wr tm m c
    | _ => none
  | _ => none

def evEff (P : Program) (wr : Nat) (tm : Tr AV) (m : Mem) (op : Op) : Option Rs :=
  match op with
  | .alloc e => evAlloc P m e
  | .box e x => evBox tm m e x
  | .buildSlice t len parts => evBuildSlice P tm m t len parts
  | .makeSlice t l c => evMakeSlice P tm m t l c
  | .store t a x => evStore P wr tm m t a x
  | .call c => evCallE P wr tm m c
  | _ => none

/-! ### The code -/
def putDst (tm : Tr AV) (n : Nat) (d : Option Tmp) (v : AV) : Option (Tr AV) :=
  match d with
  | none => some tm
  | some t => gd (Nat.blt t n) (tm.set (some v) deep t)

def isBoolAV (b : Bool) (v : AV) : Bool :=
  match v with
  | .raw (.bool true) => b
  | .raw (.bool false) => !b
  | _ => false
def wanted2 (b : Bool) (o : Option AV) : Bool := match o with | some v => isBoolAV b v | none => false
def wanted1 (b : Bool) (tm : Tr AV) (o : Option Tmp) : Bool := match o with | some t => wanted2 b (tm.get t) | none => false
def wantedG (ops : Array Oper) (tm : Tr AV) (j : Nat) (b : Bool) : Bool := wanted1 b tm ((ops[j]?).bind (·.dst))
def wantedAV (o : Oper) (ops : Array Oper) (tm : Tr AV) : Bool :=
  match o.guard with
  | none => true
  | some p => wantedG ops tm p.1 p.2

inductive Ex where
  | normal | ret
  | exit (id : Nat)
  | goto (l : Nat)

inductive Task where
  | code (wr n : Nat) (c : Code) (tm : Tr AV) (m : Mem)
  | ops (wr n : Nat) (all : Array Oper) (l : List Oper) (tm : Tr AV) (m : Mem)
  | draw (n : Nat) (all : Array Oper) (l : List Oper) (tm : Tr AV) (m : Mem)
  | scope (wr n : Nat) (body c : Code) (tm : Tr AV) (m : Mem)
  | call (wr : Nat) (f : FuncId) (args : List AV) (m : Mem)

inductive Out where
  | code (e : Ex) (tm : Tr AV) (m : Mem)
  | call (v : AV) (m : Mem)

def evResult (P : Program) (tm : Tr AV) (m : Mem) (r : ResultVar) : Option AV :=
  match r with
  | .tmp t => some (orUndef (tm.get t))
  | .cell a t => asPtr (orUndef (tm.get a)) fun b off => evRead P m t b off

def evResults (P : Program) (tm : Tr AV) (m : Mem) (l : List ResultVar) : Option (List AV) :=
  List.rec (motive := fun _ => Option (List AV)) (some []) (fun r _ ih => ob (evResult P tm m r) fun x => ob ih fun xs => some (x :: xs)) l

def single : List AV → AV
  | [x] => x
  | l => .tup l

def frame (l : List AV) : Nat → Tr AV → Option (Tr AV) :=
  List.rec (motive := fun _ => Nat → Tr AV → Option (Tr AV)) (fun _ t => some t) (fun x _ ih i t => ob (t.set (some x) deep i) fun t' => ih (Nat.succ i) t') l

def asCode (o : Out) (k : Ex → Tr AV → Mem → Option β) : Option β := match o with | .code e tm m => k e tm m | _ => none
def asCall (o : Out) (k : AV → Mem → Option β) : Option β := match o with | .call v m => k v m | _ => none

def stRegion (ih : Task → Option Out) (wr n : Nat) (ops : Array Oper) (draw : Bool) (tm : Tr AV) (m : Mem) : Option Out :=
  te draw (gd (Region.lexB .any ops) (ih (.draw n ops ops.toList tm m))) (ih (.ops wr n ops ops.toList tm m))
def thenCode (ih : Task → Option Out) (wr n : Nat) (c : Code) (e : Ex) (tm : Tr AV) (m : Mem) : Option Out :=
  match e with
  | .normal => ih (.code wr n c tm m)
  | e => some (.code e tm m)
def stSeq (ih : Task → Option Out) (wr n : Nat) (a b : Code) (tm : Tr AV) (m : Mem) : Option Out :=
  ob (ih (.code wr n a tm m)) fun o => asCode o fun e tm m => thenCode ih wr n b e tm m
def stCond (ih : Task → Option Out) (wr n : Nat) (c : Operand) (x y : Code) (tm : Tr AV) (m : Mem) : Option Out :=
  asRaw (evO tm c) fun v => match v with
    | .bool b => te b (ih (.code wr n x tm m)) (ih (.code wr n y tm m))
    | _ => none
def blockEnd (id : Nat) (e : Ex) (tm : Tr AV) (m : Mem) : Option Out :=
  match e with
  | .exit i => te (Nat.beq i id) (some (.code .normal tm m)) (some (.code (.exit i) tm m))
  | e => some (.code e tm m)
def stBlock (ih : Task → Option Out) (wr n : Nat) (id : Nat) (b : Code) (tm : Tr AV) (m : Mem) : Option Out :=
  ob (ih (.code wr n b tm m)) fun o => asCode o fun e tm m => blockEnd id e tm m
def stScope (ih : Task → Option Out) (wr n : Nat) (b c : Code) (tm : Tr AV) (m : Mem) : Option Out :=
  ob (ih (.code wr n c tm m)) fun o => asCode o fun e tm m => match e with
    | .goto l => ob (findLabel b l) fun rest => ih (.scope wr n b rest tm m)
    | e => some (.code e tm m)

def stCode (ih : Task → Option Out) (wr n : Nat) (c : Code) (tm : Tr AV) (m : Mem) : Option Out :=
  match c with
  | .skip => some (.code .normal tm m)
  | .label _ => some (.code .normal tm m)
  | .region _ ops draw => stRegion ih wr n ops draw tm m
  | .seq a b => stSeq ih wr n a b tm m
  | .cond c x y => stCond ih wr n c x y tm m
  | .block id b => stBlock ih wr n id b tm m
  | .loop b => stSeq ih wr n b (.loop b) tm m
  | .exit id => some (.code (.exit id) tm m)
  | .goto l => some (.code (.goto l) tm m)
  | .ret => some (.code .ret tm m)
  | .scope b => ih (.scope wr n b b tm m)
  | _ => none

def next (ih : Task → Option Out) (wr n : Nat) (all : Array Oper) (rest : List Oper) (tm : Tr AV) (d : Option Tmp) (v : AV) (m : Mem) : Option Out :=
  ob (putDst tm n d v) fun tm' => ih (.ops wr n all rest tm' m)
def stEff (ih : Task → Option Out) (wr n : Nat) (all : Array Oper) (rest : List Oper) (tm : Tr AV) (d : Option Tmp) (m : Mem) (r : Rs) : Option Out :=
  match r with
  | .val v m' => next ih wr n all rest tm d v m'
  | .skip m' => next ih wr n all rest tm d (.raw undef) m'
  | .call f args => ob (ih (.call wr f args m)) fun o => asCall o fun v m' => next ih wr n all rest tm d v m'
def stOp (P : Program) (ih : Task → Option Out) (wr n : Nat) (all : Array Oper) (rest : List Oper) (tm : Tr AV) (d : Option Tmp) (m : Mem) (op : Op) : Option Out :=
  Option.rec (motive := fun _ => Option Out) (ob (evEff P wr tm m op) fun r => stEff ih wr n all rest tm d m r) (fun v => next ih wr n all rest tm d v m) (evPure P tm m op)
def stOps (P : Program) (ih : Task → Option Out) (wr n : Nat) (all : Array Oper) (l : List Oper) (tm : Tr AV) (m : Mem) : Option Out :=
  match l with
  | [] => some (.code .normal tm m)
  | o :: rest => te (wantedAV o all tm) (stOp P ih wr n all rest tm o.dst m o.op) (next ih wr n all rest tm o.dst (.raw undef) m)

def nextD (ih : Task → Option Out) (n : Nat) (all : Array Oper) (rest : List Oper) (tm : Tr AV) (d : Option Tmp) (v : AV) (m : Mem) : Option Out :=
  ob (putDst tm n d v) fun tm' => ih (.draw n all rest tm' m)
def stEffD (ih : Task → Option Out) (n : Nat) (all : Array Oper) (rest : List Oper) (tm : Tr AV) (d : Option Tmp) (m : Mem) (r : Rs) : Option Out :=
  match r with
  | .call f args => ob (ih (.call m.nx f args m)) fun o => asCall o fun v _ => asRaw v fun v => nextD ih n all rest tm d (.raw v) m
  | _ => none
def stOpD (P : Program) (ih : Task → Option Out) (n : Nat) (all : Array Oper) (rest : List Oper) (tm : Tr AV) (d : Option Tmp) (m : Mem) (op : Op) : Option Out :=
  Option.rec (motive := fun _ => Option Out) (ob (evEff P m.nx tm m op) fun r => stEffD ih n all rest tm d m r) (fun v => nextD ih n all rest tm d v m) (evPure P tm m op)
def stDraw (P : Program) (ih : Task → Option Out) (n : Nat) (all : Array Oper) (l : List Oper) (tm : Tr AV) (m : Mem) : Option Out :=
  match l with
  | [] => some (.code .normal tm m)
  | o :: rest => te (wantedAV o all tm) (stOpD P ih n all rest tm o.dst m o.op) (nextD ih n all rest tm o.dst (.raw undef) m)

/-- calls whose answer is known -/
abbrev Known := FuncId → List AV → Option Value

def callEnd (P : Program) (fn : Func) (e : Ex) (tm : Tr AV) (m : Mem) : Option Out :=
  match e with
  | .normal => ob (evResults P tm m fn.results.toList) fun l => some (.call (single l) m)
  | .ret => ob (evResults P tm m fn.results.toList) fun l => some (.call (single l) m)
  | _ => none
def stBody (P : Program) (ih : Task → Option Out) (wr : Nat) (f : FuncId) (args : List AV) (m : Mem) : Option Out :=
  ob P.funcs[f]? fun fn => ob fn.body fun c => gd (Nat.ble args.length fn.ntmps) (ob (frame args 0 .leaf) fun tm =>
    ob (ih (.code wr fn.ntmps c tm m)) fun o => asCode o fun e tm m => callEnd P fn e tm m)
def stCall (P : Program) (kn : Known) (ih : Task → Option Out) (wr : Nat) (f : FuncId) (args : List AV) (m : Mem) : Option Out :=
  Option.rec (motive := fun _ => Option Out) (stBody P ih wr f args m) (fun v => some (.call (.raw v) m)) (kn f args)

def step (P : Program) (kn : Known) (ih : Task → Option Out) (t : Task) : Option Out :=
  match t with
  | .code wr n c tm m => stCode ih wr n c tm m
  | .ops wr n all l tm m => stOps P ih wr n all l tm m
  | .draw n all l tm m => stDraw P ih n all l tm m
  | .scope wr n b c tm m => stScope ih wr n b c tm m
  | .call wr f args m => stCall P kn ih wr f args m

def ev (P : Program) (kn : Known) (n : Nat) : Task → Option Out := Nat.rec (motive := fun _ => Task → Option Out) (fun _ => none) (fun _ ih t => step P kn ih t) n

theorem ev_succ (P : Program) (kn : Known) (n : Nat) (t : Task) : ev P kn (n + 1) t = step P kn (ev P kn n) t := rfl

def valOf (o : Out) : Option AV := match o with | .call v _ => some v | _ => none
/-- a closed call -/
def runs (P : Program) (kn : Known) (n : Nat) (f : FuncId) (args : List AV) : Option AV := ob (ev P kn n (.call 0 f args ⟨.leaf, 0⟩)) valOf

def noneKnown : Known := fun _ _ => none

def isTrue : Option AV → Bool
  | some (.raw (.bool true)) => true
  | _ => false

end
end Go.Proofs.Yteaaahcgkodcdaa.Ev
