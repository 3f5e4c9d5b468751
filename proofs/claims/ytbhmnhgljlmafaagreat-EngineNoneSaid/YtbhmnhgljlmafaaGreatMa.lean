/- The abstract machine: values, heap, instructions, and what a program's code comes to as such instructions. -/
import GoSem.Step
set_option linter.all false

namespace Am
open Go

inductive ABlk where
  | base (b : Nat)
  | loc (i : Nat)

def ABlk.beq : ABlk → ABlk → Bool
  | .base a, .base b => Nat.beq a b
  | .loc a, .loc b => Nat.beq a b
  | _, _ => false

structure AAddr where
  blk : ABlk
  off : Nat

def AAddr.add (a : AAddr) (n : Nat) : AAddr := ⟨a.blk, a.off + n⟩
def AAddr.beq (a b : AAddr) : Bool := a.blk.beq b.blk && Nat.beq a.off b.off

/-- a slice's capacity: known; or unknown, up to the end of its block, elements of so many cells -/
inductive ACap where
  | ex (c : Nat)
  | op (esz : Nat)

inductive AVal where
  | any
  | bool (b : Bool)
  | int (k : IntKind) (n : Int)
  | float (k : FloatKind) (bits : Nat)
  | str (s : List UInt8)
  | ptr (a : Option AAddr)
  | slice (a : Option AAddr) (len : Nat) (cap : ACap)
  | map (r : Option Nat)
  | func (fn : Fn) (first captured : List AVal)
  | nilFunc
  | iface (t : TypeId) (v : AVal)
  | nilIface
  | agg (cs : List AVal)
  | tuple (vs : List AVal)

def AVal.undef : AVal := .tuple []

def AVal.cells : AVal → List AVal
  | .agg cs => cs
  | v => [v]

def AVal.scalar : AVal → Bool
  | .agg _ | .tuple _ | .any => false
  | _ => true

inductive AObj where
  /-- a row of cells; `st`: it was marked as a string's bytes -/
  | cells (ty : TypeId) (cs : List AVal) (st : Bool)
  | map (es : List (AVal × AVal))

/-! trees as finite maps from numbers -/
inductive Tree (α : Type) where
  | leaf
  | node (l : Tree α) (v : Option α) (r : Tree α)

namespace Tree
def get {α : Type} : Tree α → Nat → Option α
  | .leaf, _ => none
  | .node l v r, n => bif Nat.beq n 0 then v else bif Nat.beq (Nat.mod n 2) 1 then l.get (Nat.div n 2) else r.get (Nat.pred (Nat.div n 2))

def setF {α : Type} (v : Option α) : Nat → Tree α → Nat → Tree α
  | 0, t, _ => t
  | f + 1, .leaf, n => bif Nat.beq n 0 then .node .leaf v .leaf else bif Nat.beq (Nat.mod n 2) 1 then .node (setF v f .leaf (Nat.div n 2)) none .leaf else .node .leaf none (setF v f .leaf (Nat.pred (Nat.div n 2)))
  | f + 1, .node l x r, n => bif Nat.beq n 0 then .node l v r else bif Nat.beq (Nat.mod n 2) 1 then .node (setF v f l (Nat.div n 2)) x r else .node l x (setF v f r (Nat.pred (Nat.div n 2)))

def set {α : Type} (t : Tree α) (n : Nat) (v : Option α) : Tree α := setF v (Nat.succ n) t n

def ofList {α : Type} : List α → Nat → Tree α → Tree α
  | [], _, t => t
  | x :: xs, n, t => ofList xs (n + 1) (t.set n (some x))
end Tree

structure AHeap where
  next : Nat
  objs : Tree AObj

namespace AHeap
def get (H : AHeap) (i : Nat) : Option AObj := H.objs.get i
def set (H : AHeap) (i : Nat) (o : Option AObj) : AHeap := ⟨H.next, H.objs.set i o⟩
def new (H : AHeap) (o : AObj) : AHeap := ⟨Nat.succ H.next, H.objs.set H.next (some o)⟩
end AHeap

/-- a slot's place in a tree -/
inductive Path where
  | here
  | lft (p : Path)
  | rgt (p : Path)

namespace Path
def beq : Path → Path → Bool
  | .here, .here => true
  | .lft p, .lft q => beq p q
  | .rgt p, .rgt q => beq p q
  | _, _ => false

def ofF : Nat → Nat → Path
  | 0, _ => .here
  | f + 1, n => bif Nat.beq n 0 then .here else bif Nat.beq (Nat.mod n 2) 1 then .lft (ofF f (Nat.div n 2)) else .rgt (ofF f (Nat.pred (Nat.div n 2)))

def of (n : Nat) : Path := ofF n n
end Path

namespace Tree
def left {α : Type} : Tree α → Tree α | .leaf => .leaf | .node l _ _ => l
def right {α : Type} : Tree α → Tree α | .leaf => .leaf | .node _ _ r => r
def val {α : Type} : Tree α → Option α | .leaf => none | .node _ v _ => v
noncomputable def getP {α : Type} (p : Path) : Tree α → Option α :=
  Path.rec (motive := fun _ => Tree α → Option α) (fun t => t.val) (fun _ ih t => ih t.left) (fun _ ih t => ih t.right) p
noncomputable def setP {α : Type} (v : Option α) (p : Path) : Tree α → Tree α :=
  Path.rec (motive := fun _ => Tree α → Tree α) (fun t => .node t.left v t.right) (fun _ ih t => .node (ih t.left) t.val t.right) (fun _ ih t => .node t.left t.val (ih t.right)) p
end Tree

abbrev Tmps := Tree AVal
def orUndef : Option AVal → AVal
  | some v => v
  | none => .undef
noncomputable def getT (T : Tmps) (p : Path) : AVal := orUndef (T.getP p)
noncomputable def setT (T : Tmps) (p : Path) (v : AVal) : Tmps := T.setP (some v) p
noncomputable def putT (T : Tmps) (d : Option Path) (v : AVal) : Tmps := match d with | some d => setT T d v | none => T

structure ADef where
  fn : FuncId
  args : List AVal

/-- what a call comes to -/
inductive CallRes where
  | stuck
  | ret (v : AVal) (H : AHeap)
  | pan (v : AVal) (H : AHeap)

inductive AExit where
  | normal | exit (id : Nat) | ret | pan (v : AVal)

/-! instructions -/
inductive Opd where
  | t (p : Path)
  | c (v : AVal)

abbrev CallF := FuncId → List AVal → AHeap → CallRes
abbrev BaseF := Nat → Option (List AVal)

inductive AOut where
  | stuck
  | val (v : AVal) (H : AHeap)
  | pan (v : AVal) (H : AHeap)
  | dfr (d : ADef)

/-- what an instruction does: computes; makes one object; looks at memory; anything -/
inductive ARun where
  | pure (f : Tmps → Option AVal)
  | alloc (f : Tmps → Option (AObj × (Nat → AVal)))
  | read (f : BaseF → Tmps → AHeap → Option AVal)
  | chain (f : BaseF → CallF → Tmps → AHeap → AOut)
  | recover

structure AInst where
  run : ARun
  dst : Option Path
  guard : Option (Path × Bool)
  slots : List Path

/-- an instruction of a region whose order is drawn: its place in the region, which places come ahead of it in every order -/
structure DInst where
  ins : AInst
  at_ : Nat
  mask : Nat

inductive ACode where
  | skip
  | seg (ops : List AInst)
  | drw (ops : List DInst) (dsts : List Path)
  | seq (a b : ACode)
  | cond (c : Opd) (a b : ACode)
  | block (id : Nat) (c : ACode)
  | loop (c : ACode)
  | exit (id : Nat)
  | ret
  | stop

inductive ARV where
  | t (i : Path)
  | cell1 (a : Path)
  | cellN (a : Path) (n : Nat)

structure AFn where
  nt : Nat
  body : ACode
  res : List ARV

end Am

namespace Am
open Go

noncomputable def ev (T : Tmps) : Opd → AVal
  | .t i => getT T i
  | .c v => v

noncomputable def evOpt (T : Tmps) : Option Opd → Option AVal
  | none => none
  | some x => some (ev T x)

noncomputable def evs (T : Tmps) : List Opd → List AVal
  | [] => []
  | x :: xs => ev T x :: evs T xs

inductive ConvK where
  | int (k : IntKind)            -- a number to an int kind
  | toFloat (k : FloatKind)      -- an int to a float
  | same                         -- a string to a string

def repl (z : List AVal) : Nat → List AVal
  | 0 => []
  | n + 1 => z ++ repl z n

/-! memory -/
def blkCells (W0 : BaseF) (H : AHeap) : ABlk → Option (List AVal)
  | .base b => W0 b
  | .loc i => match H.get i with
    | some (.cells _ cs _) => some cs
    | _ => none

def takeN : Nat → List AVal → Option (List AVal)
  | 0, _ => some []
  | _ + 1, [] => none
  | n + 1, x :: xs => match takeN n xs with | some l => some (x :: l) | none => none

def dropN : Nat → List AVal → List AVal
  | 0, l => l
  | _ + 1, [] => []
  | n + 1, _ :: l => dropN n l

def nthN : Nat → List AVal → Option AVal
  | _, [] => none
  | 0, x :: _ => some x
  | n + 1, _ :: l => nthN n l

def read1 (W0 : BaseF) (H : AHeap) (a : AAddr) : Option AVal :=
  match blkCells W0 H a.blk with
  | some cs => nthN a.off cs
  | none => none

def readN (W0 : BaseF) (H : AHeap) (a : AAddr) (n : Nat) : Option (List AVal) :=
  match n with
  | 0 => some []
  | n => match blkCells W0 H a.blk with
    | some cs => takeN n (dropN a.off cs)
    | none => none

def setCells : List AVal → Nat → List AVal → Option (List AVal)
  | cs, _, [] => some cs
  | [], _, _ :: _ => none
  | _ :: cs, 0, v :: vs => match setCells cs 0 vs with | some l => some (v :: l) | none => none
  | c :: cs, n + 1, vs => match setCells cs n vs with | some l => some (c :: l) | none => none

def allScalar : List AVal → Bool
  | [] => true
  | v :: vs => v.scalar && allScalar vs

def writeCells (H : AHeap) (a : AAddr) (vs : List AVal) : Option AHeap :=
  match vs with
  | [] => some H
  | _ => match a.blk with
    | .base _ => none
    | .loc i => match H.get i with
      | some (.cells ty cs st) => match setCells cs a.off vs with
        | some cs' => some (H.set i (some (.cells ty cs' st)))
        | none => none
      | _ => none

/-! numbers -/
def IntKind.beq : IntKind → IntKind → Bool
  | .i8, .i8 | .i16, .i16 | .i32, .i32 | .i64, .i64 | .u8, .u8 | .u16, .u16 | .u32, .u32 | .u64, .u64 => true
  | _, _ => false

def pow2 : IntKind → Nat
  | .i8 | .u8 => 256
  | .i16 | .u16 => 65536
  | .i32 | .u32 => 4294967296
  | .i64 | .u64 => 18446744073709551616

def half : IntKind → Nat
  | .i8 | .u8 => 128
  | .i16 | .u16 => 32768
  | .i32 | .u32 => 2147483648
  | .i64 | .u64 => 9223372036854775808

/-- the model's wrap, quick at what needs none -/
def fwrap (k : IntKind) : Int → Int
  | .ofNat n => bif Nat.blt n (half k) then .ofNat n else k.wrap (.ofNat n)
  | .negSucc n => bif k.signed && Nat.blt n (half k) then .negSucc n else k.wrap (.negSucc n)

/-- a number's bits -/
def natOf (k : IntKind) : Int → Nat
  | .ofNat n => Nat.mod n (pow2 k)
  | .negSucc n => Nat.sub (Nat.pred (pow2 k)) (Nat.mod n (pow2 k))

def iLt : Int → Int → Bool
  | .ofNat a, .ofNat b => Nat.blt a b
  | .ofNat _, .negSucc _ => false
  | .negSucc _, .ofNat _ => true
  | .negSucc a, .negSucc b => Nat.blt b a

def iEq : Int → Int → Bool
  | .ofNat a, .ofNat b => Nat.beq a b
  | .negSucc a, .negSucc b => Nat.beq a b
  | _, _ => false

def intOp (op : BinOp) (k : IntKind) (a b : Int) : Option AVal :=
  match op with
  | .add => some (.int k (fwrap k (Int.add a b)))
  | .sub => some (.int k (fwrap k (Int.sub a b)))
  | .mul => some (.int k (fwrap k (Int.mul a b)))
  | .quo => bif iEq b (.ofNat 0) then none else some (.int k (fwrap k (a.tdiv b)))
  | .rem => bif iEq b (.ofNat 0) then none else some (.int k (a.tmod b))
  | .and => some (.int k (fwrap k (.ofNat (Nat.land (natOf k a) (natOf k b)))))
  | .or => some (.int k (fwrap k (.ofNat (Nat.lor (natOf k a) (natOf k b)))))
  | .xor => some (.int k (fwrap k (.ofNat (Nat.xor (natOf k a) (natOf k b)))))
  | .andNot => some (.int k (fwrap k (.ofNat (Nat.land (natOf k a) (Nat.sub (Nat.pred (pow2 k)) (natOf k b))))))
  | .lss => some (.bool (iLt a b))
  | .leq => some (.bool (!iLt b a))
  | .gtr => some (.bool (iLt b a))
  | .geq => some (.bool (!iLt a b))
  | _ => none

def bitsN : IntKind → Nat
  | .i8 | .u8 => 8
  | .i16 | .u16 => 16
  | .i32 | .u32 => 32
  | .i64 | .u64 => 64

def shiftOp (op : BinOp) (k : IntKind) (a b : Int) : Option AVal :=
  match b with
  | .negSucc _ => none
  | .ofNat b =>
    let n := bif Nat.ble b (bitsN k) then b else bitsN k
    match op with
    | .shl => some (.int k (fwrap k (Int.mul a (.ofNat (Nat.pow 2 n)))))
    | .shr => some (.int k (match a with | .ofNat a => .ofNat (Nat.div a (Nat.pow 2 n)) | a => a.fdiv (.ofNat (Nat.pow 2 n))))
    | _ => none

def floatOp (op : BinOp) (k : FloatKind) (x y : Nat) : Option AVal :=
  match op with
  | .add => (k.format.add x y).map (AVal.float k)
  | .sub => (k.format.sub x y).map (AVal.float k)
  | .mul => (k.format.mul x y).map (AVal.float k)
  | .quo => (k.format.div x y).map (AVal.float k)
  | .lss => some (.bool (k.format.order x y == some .lt))
  | .leq => some (.bool (k.format.order x y == some .lt || k.format.order x y == some .eq))
  | .gtr => some (.bool (k.format.order x y == some .gt))
  | .geq => some (.bool (k.format.order x y == some .gt || k.format.order x y == some .eq))
  | _ => none

def bytesEq : List UInt8 → List UInt8 → Bool
  | [], [] => true
  | a :: x, b :: y => Nat.beq a.toNat b.toNat && bytesEq x y
  | _, _ => false

def bytesLt : List UInt8 → List UInt8 → Bool
  | _, [] => false
  | [], _ :: _ => true
  | a :: x, b :: y => Nat.blt a.toNat b.toNat || (Nat.beq a.toNat b.toNat && bytesLt x y)

def strOp (op : BinOp) (x y : List UInt8) : Option AVal :=
  match op with
  | .add => bif Nat.ble (x.length + y.length) 1000000000000 then some (.str (x ++ y)) else none
  | .lss => some (.bool (bytesLt x y))
  | .leq => some (.bool (bytesLt x y || bytesEq x y))
  | .gtr => some (.bool !(bytesLt x y || bytesEq x y))
  | .geq => some (.bool !(bytesLt x y))
  | _ => none

def binA (op : BinOp) (x y : AVal) : Option AVal :=
  match op with
  | .shl | .shr => match x, y with
    | .int k a, .int _ b => shiftOp op k a b
    | _, _ => none
  | _ =>
    match x, y with
    | .int k a, .int k' b => bif IntKind.beq k k' then intOp op k a b else none
    | .float k a, .float k' b => if k = k' then floatOp op k a b else none
    | .str a, .str b => strOp op a b
    | _, _ => none

/-- numbers and strings -/
def eqNum (x y : AVal) : Option Bool :=
  match x, y with
  | .int k a, .int k' b => bif IntKind.beq k k' then some (iEq a b) else none
  | .float k a, .float k' b => if k = k' then some (k.format.order a b == some .eq) else none
  | .str a, .str b => some (bytesEq a b)
  | _, _ => none

def eqBool (x y : AVal) : Option Bool :=
  match x, y with
  | .bool a, .bool b => some (a == b)
  | _, _ => none

def eqSl (x y : AVal) : Option Bool :=
  match x, y with
  | .slice none _ _, .slice none _ _ => some true
  | .slice none _ _, .slice (some _) _ _ => some false
  | .slice (some _) _ _, .slice none _ _ => some false
  | _, _ => none

def eqMap (x y : AVal) : Option Bool :=
  match x, y with
  | .map none, .map none => some true
  | .map none, .map (some _) => some false
  | .map (some _), .map none => some false
  | _, _ => none

def eqFunc (x y : AVal) : Option Bool :=
  match x, y with
  | .nilFunc, .nilFunc => some true
  | .nilFunc, .func _ _ _ => some false
  | .func _ _ _, .nilFunc => some false
  | _, _ => none

def eqIf (nilOk : Bool) (x y : AVal) : Option Bool :=
  match x, y with
  | .nilIface, .nilIface => bif nilOk then some true else none
  | .nilIface, .iface _ _ => some false
  | .iface _ _, .nilIface => some false
  | _, _ => none

/-- kinds of a struct's fields -/
inductive FK where
  | bool | int | float | str

def eqF (k : FK) (x y : AVal) : Option Bool :=
  match k, x, y with
  | .bool, .bool a, .bool b => some (a == b)
  | .int, .int k a, .int k' b => bif IntKind.beq k k' then some (iEq a b) else none
  | .float, .float k a, .float k' b => if k = k' then some (k.format.order a b == some .eq) else none
  | .str, .str a, .str b => some (bytesEq a b)
  | _, _, _ => none

def eqFl : List FK → List AVal → List AVal → Option Bool
  | [], [], [] => some true
  | k :: ks, x :: xs, y :: ys => match eqF k x y with
    | some true => eqFl ks xs ys
    | some false => some false
    | none => none
  | _, _, _ => none

def eqAgg (ks : List FK) (x y : AVal) : Option Bool :=
  match x, y with
  | .agg xs, .agg ys => eqFl ks xs ys
  | _, _ => none

/-- is it an address of memory of the machine's own that no string shares -/
def plainAt (H : AHeap) (a : AAddr) : Bool := match a.blk with
  | .loc i => match H.get i with
    | some (.cells _ cs st) => !st && !cs.isEmpty
    | _ => false
  | .base _ => false

def eqPtr (H : AHeap) (x y : AVal) : Option Bool :=
  match x, y with
  | .ptr none, .ptr none => some true
  | .ptr none, .ptr (some _) => some false
  | .ptr (some _), .ptr none => some false
  | .ptr (some a), .ptr (some b) => bif plainAt H a && plainAt H b then some (a.beq b) else none
  | _, _ => none

def negB (neg : Bool) (b : Option Bool) : Option AVal := match b with
  | some b => some (.bool (bif neg then !b else b))
  | none => none

def unA (op : UnOp) (x : AVal) : Option AVal :=
  match op, x with
  | .neg, .int k n => some (.int k (fwrap k (Int.neg n)))
  | .xor, .int k n => some (.int k (fwrap k (.ofNat (Nat.sub (Nat.pred (pow2 k)) (natOf k n)))))
  | .neg, .float k b => some (.float k (b ^^^ 2 ^ (k.format.exponentBits + k.format.fractionBits)))
  | .not, .bool b => some (.bool !b)
  | _, _ => none

def byteVals : List UInt8 → List AVal
  | [] => []
  | b :: r => .int .u8 b.toNat :: byteVals r

def toBytes : List AVal → Option (List UInt8)
  | [] => some []
  | .int .u8 n :: r => match toBytes r with | some l => some (UInt8.ofNat n.toNat :: l) | none => none
  | _ => none

def convP (c : ConvK) (x : AVal) : Option AVal :=
  match c, x with
  | .int k, .int _ n => some (.int k (fwrap k n))
  | .int k, .float s b => match (s.decode b).toInt .zero with
    | some n => if k.min ≤ n ∧ n ≤ k.max then some (.int k n) else none
    | none => none
  | .toFloat k, .int _ n => some (.float k (k.nearest n))
  | .same, .str s => some (.str s)
  | _, _ => none

def xStrBytes (e : TypeId) (x : AVal) : Option (AObj × (Nat → AVal)) := match x with
  | .str s => some (.cells e (byteVals s) true, fun i => .slice (some ⟨.loc i, 0⟩) s.length (.op 1))
  | _ => none

def xBytesStr (W0 : BaseF) (x : AVal) (H : AHeap) : Option AVal := match x with
  | .slice none _ _ => some (.str [])
  | .slice (some a) n _ => match readN W0 H a n with
    | some l => match toBytes l with | some s => some (.str s) | none => none
    | none => none
  | _ => none

def xMark (x : AVal) (H : AHeap) : AOut := match x with
  | .slice (some ⟨.loc i, o⟩) n c => bif Nat.beq n 0 then .stuck else match H.get i with
    | some (.cells ty cs _) => .val (.slice (some ⟨.loc i, o⟩) n c) (H.set i (some (.cells ty cs true)))
    | _ => .stuck
  | _ => .stuck

noncomputable def fillA (T : Tmps) (cells : List AVal) : List (Nat × Nat × Opd) → Option (List AVal)
  | [] => some cells
  | (off, size, x) :: rest =>
    bif Nat.beq (ev T x).cells.length size && (Nat.ble (off + size) cells.length && allScalar (ev T x).cells) then match setCells cells off (ev T x).cells with
      | some cs => fillA T cs rest
      | none => none
    else none

def boundA (v : AVal) (hi : Nat) : Option Nat := match v with
  | .int _ (.ofNat n) => bif Nat.ble n hi then some n else none
  | _ => none

def boundO (v : Option AVal) (dflt hi : Nat) : Option Nat := match v with
  | none => some dflt
  | some v => boundA v hi

/-- the slice from l to h, up to m, of a slice -/
def cutSl (size : Nat) (a : Option AAddr) (l h : Nat) (m : ACap) : Option AVal :=
  match m with
  | .ex m => some (.slice (bif Nat.beq m l then a else match a with | some a => some (a.add (l * size)) | none => none) (h - l) (.ex (m - l)))
  | .op e => match a with
    | none => none
    | some a => bif Nat.beq e size then some (.slice (some (a.add (l * size))) (h - l) (.op e)) else none

def topA (cap : ACap) (len : Nat) : Nat := match cap with
  | .ex c => c
  | .op _ => len

def sliceA (size : Nat) (a : Option AAddr) (len : Nat) (cap : ACap) (lo hi mx : Option AVal) : Option AVal :=
  match mx with
  | none => match boundO hi len (topA cap len) with
    | some h => match boundO lo 0 h with
      | some l => cutSl size a l h cap
      | none => none
    | none => none
  | some mv => match boundA mv (topA cap len), hi with
    | some m, some hv => match boundA hv m with
        | some h => match boundO lo 0 h with
          | some l => cutSl size a l h (.ex m)
          | none => none
        | none => none
    | _, _ => none

def keyEq : AVal → AVal → Option Bool
  | .int k a, .int k' b => bif IntKind.beq k k' then some (iEq a b) else none
  | .str a, .str b => some (bytesEq a b)
  | _, _ => none

def findA (k : AVal) : List (AVal × AVal) → Option (Option AVal)
  | [] => some none
  | (k', v) :: es => match keyEq k k' with
    | some true => some (some v)
    | some false => findA k es
    | none => none

def putA (k v : AVal) : List (AVal × AVal) → Option (List (AVal × AVal))
  | [] => some [(k, v)]
  | (k', v') :: es => match keyEq k k' with
    | some true => some ((k', v) :: es)
    | some false => match putA k v es with | some l => some ((k', v') :: l) | none => none
    | none => none

def delA (k : AVal) : List (AVal × AVal) → Option (List (AVal × AVal))
  | [] => some []
  | (k', v') :: es => match keyEq k k' with
    | some true => some es
    | some false => match delA k es with | some l => some ((k', v') :: l) | none => none
    | none => none

/-- is it a key of a map of ints, or of strings -/
def keyIs : Bool → AVal → Bool
  | true, .int _ _ => true
  | false, .str _ => true
  | _, _ => false

def mapOf (H : AHeap) : Option Nat → Option (List (AVal × AVal))
  | none => some []
  | some r => match H.get r with | some (.map es) => some es | _ => none

def takeB : Nat → List UInt8 → List UInt8
  | 0, _ => []
  | _ + 1, [] => []
  | n + 1, x :: xs => x :: takeB n xs

/-- the first n elements, as cells -/
def srcCells (W0 : BaseF) (H : AHeap) (size n : Nat) : AVal → Option (List AVal)
  | .slice (some a) _ _ => readN W0 H a (n * size)
  | .slice none _ _ => bif Nat.beq n 0 then some [] else none
  | .str s => some (byteVals (takeB n s))
  | _ => none

def lenOfA : AVal → Option Nat
  | .slice _ n _ => some n
  | .str s => some s.length
  | _ => none

def bound46 : Nat := 70368744177664

/-- an append that makes a new block, from the elements there were -/
def growA (H : AHeap) (e : TypeId) (size n : Nat) (old : Option (List AVal)) (new : List AVal) : Option (AVal × AHeap) := match old with
  | some old => some (.slice (some ⟨.loc H.next, 0⟩) n (.op size), H.new (.cells e (old ++ new) false))
  | none => none

/-- an append to a slice of unknown capacity: its block is no more -/
def ontoA (H : AHeap) (e : TypeId) (size len n : Nat) (base : Option AAddr) (new : List AVal) : Option (AVal × AHeap) := match base with
  | some ⟨.loc i, off⟩ => match H.get i with
    | some (.cells _ cs st) => match takeN (len * size) (dropN off cs) with
      | some old => some (.slice (some ⟨.loc H.next, 0⟩) n (.op size), (H.set i none).new (.cells e (old ++ new) st))
      | none => none
    | _ => none
  | _ => none

def fitsA (H : AHeap) (size len n : Nat) (base : Option AAddr) (c : Nat) (new : List AVal) : Option (AVal × AHeap) := match base with
  | some a => match writeCells H (a.add (len * size)) new with
    | some H' => some (.slice base n (.ex c), H')
    | none => none
  | none => none

def appendA (W0 : BaseF) (H : AHeap) (e : TypeId) (size bytes : Nat) (s x : AVal) : Option (AVal × AHeap) :=
  match s, lenOfA x with
  | .slice base len cap, some n =>
    bif Nat.beq n 0 then some (.slice base len cap, H) else
    match srcCells W0 H size n x with
    | none => none
    | some new => bif allScalar new && (Nat.beq new.length (n * size) && Nat.ble ((len + n) * bytes) bound46) then
      match cap with
      | .ex c => bif Nat.ble (len + n) c then fitsA H size len (len + n) base c new
          else growA H e size (len + n) (srcCells W0 H size len s) new
      | .op e' => bif Nat.beq e' size then ontoA H e size len (len + n) base new else none
      else none
  | _, _ => none

def foldMin (mx : Bool) (k : IntKind) : Int → List AVal → Option Int
  | a, [] => some a
  | a, .int k' b :: r => bif IntKind.beq k k' then foldMin mx k (bif mx then (bif iLt a b then b else a) else (bif iLt b a then b else a)) r else none
  | _, _ => none

def minA (mx : Bool) : List AVal → Option AVal
  | .int k a :: r => match foldMin mx k a r with | some n => some (.int k n) | none => none
  | _ => none

def pv (v : Option AVal) (H : AHeap) : AOut := match v with | some v => .val v H | none => .stuck
def pv2 (v : Option (AVal × AHeap)) : AOut := match v with | some (v, H) => .val v H | none => .stuck
def aggO (v : Option (List AVal)) : Option AVal := match v with | some l => some (.agg l) | none => none
def pvH (v : AVal) (H : Option AHeap) : AOut := match H with | some H => .val v H | none => .stuck

def callR : CallRes → AOut
  | .ret v H' => .val v H'
  | .pan v H' => .pan v H'
  | .stuck => .stuck

def lookT {α : Type} (t : Nat) : List (Nat × α) → Option α
  | [] => none
  | (t', f) :: r => bif Nat.beq t t' then some f else lookT t r

def callV (callf : CallF) (f : AVal) (args : List AVal) (H : AHeap) : AOut :=
  match f with
  | .func (.func f) first captured => callR (callf f (first ++ (args ++ captured)) H)
  | _ => .stuck

def lookS (name : String) : List (String × List (TypeId × FuncId)) → Option (List (TypeId × FuncId))
  | [] => none
  | (n, l) :: r => if n = name then some l else lookS name r

def xPick (c a b : AVal) : Option AVal := match c with
  | .bool true => some a
  | .bool false => some b
  | _ => none
def xNew (ty : TypeId) (cs : List AVal) : Option (AObj × (Nat → AVal)) :=
  bif allScalar cs then some (.cells ty cs false, fun i => .ptr (some ⟨.loc i, 0⟩)) else none
def xBuildSl (ty : TypeId) (len : Nat) (cs : Option (List AVal)) : Option (AObj × (Nat → AVal)) := match cs with
  | some cs => bif allScalar cs then some (.cells ty cs false, fun i => .slice (some ⟨.loc i, 0⟩) len (.ex len)) else none
  | none => none
def xMkMap : Option (AObj × (Nat → AVal)) := some (.map [], fun i => .map (some i))
def xLoad1 (W0 : BaseF) (a : AVal) (H : AHeap) : Option AVal := match a with
  | .ptr (some a) => read1 W0 H a
  | _ => none
def xLoadN (W0 : BaseF) (n : Nat) (a : AVal) (H : AHeap) : Option AVal := match a with
  | .ptr (some a) => aggO (readN W0 H a n)
  | _ => none
def xStore (n : Nat) (a x : AVal) (H : AHeap) : AOut := match a with
  | .ptr (some a) => bif Nat.beq x.cells.length n && allScalar x.cells then pvH .undef (writeCells H a x.cells) else .stuck
  | _ => .stuck
def xNilCheck (ms : List (String × List (TypeId × FuncId))) (x : AVal) : Option AVal := match x with
  | .ptr (some a) => some (.ptr (some a))
  | .func (.func f) a b => some (.func (.func f) a b)
  | .func (.method name) [.iface t (.agg cs)] [] => match lookS name ms with
    | some tbl => match lookT t tbl with
      | some _ => some (.func (.method name) [.iface t (.agg cs)] [])
      | none => none
    | none => none
  | .iface t v => some (.iface t v)
  | _ => none
def xMkSlice (ty bytes : Nat) (zs : List AVal) (l c : AVal) : Option (AObj × (Nat → AVal)) := match l, c with
  | .int _ (.ofNat ln), .int _ (.ofNat cn) => bif Nat.ble ln cn && Nat.ble (cn * bytes) bound46 && Nat.ble cn bound46 && allScalar zs then
      some (.cells ty (repl zs cn) false, fun i => .slice (some ⟨.loc i, 0⟩) ln (.ex cn)) else none
  | _, _ => none
def xSliceStr (x : AVal) (lo hi : Option AVal) : Option AVal := match x with
  | .str s => match boundO hi s.length s.length with
    | some h => match boundO lo 0 h with
      | some l => some ((.str ((s.drop l).take (h - l))))
      | none => none
    | none => none
  | _ => none
def xSliceSl (size : Nat) (x : AVal) (lo hi mx : Option AVal) : Option AVal := match x with
  | .slice a len cap => sliceA size a len cap lo hi mx
  | _ => none
def xSliceArr (n size : Nat) (x : AVal) (lo hi mx : Option AVal) : Option AVal := match x with
  | .ptr (some a) => sliceA size (some a) n (.ex n) lo hi mx
  | _ => none
def xFieldAddr (off : Nat) (x : AVal) : Option AVal := match x with
  | .ptr (some a) => some ((.ptr (some (a.add off))))
  | _ => none
def xField1 (off : Nat) (x : AVal) : Option AVal := match x with
  | .agg cs => nthN off cs
  | _ => none
def xFieldN (off n : Nat) (x : AVal) : Option AVal := match x with
  | .agg cs => aggO (takeN n (dropN off cs))
  | _ => none
def xIdxArr (len size : Nat) (x i : AVal) : Option AVal := match x, i with
  | .ptr (some a), .int _ (.ofNat n) => bif Nat.blt n len then some ((.ptr (some (a.add (n * size))))) else none
  | _, _ => none
def xIdxSl (size : Nat) (x i : AVal) : Option AVal := match x, i with
  | .slice (some a) len _, .int _ (.ofNat n) => bif Nat.blt n len then some ((.ptr (some (a.add (n * size))))) else none
  | _, _ => none
def xIndex1 (len : Nat) (x i : AVal) : Option AVal := match x, i with
  | .agg cs, .int _ (.ofNat n) => bif Nat.blt n len then nthN n cs else none
  | _, _ => none
def nthB : Nat → List UInt8 → Option UInt8
  | _, [] => none
  | 0, x :: _ => some x
  | n + 1, _ :: l => nthB n l
def xIndexStr (x i : AVal) : Option AVal := match x, i with
  | .str s, .int _ (.ofNat n) => match nthB n s with
    | some b => some ((.int .u8 (.ofNat b.toNat)))
    | none => none
  | _, _ => none
def xLookup (ki : Bool) (z : AVal) (ok : Bool) (x k : AVal) (H : AHeap) : Option AVal := match x with
  | .map r => match mapOf H r with
    | some es => bif keyIs ki k then match findA k es with
      | some (some v) => some ((bif ok then .tuple [v, .bool true] else v))
      | some none => some ((bif ok then .tuple [z, .bool false] else z))
      | none => none
      else none
    | none => none
  | _ => none
def xMapUpd (ki : Bool) (m k x : AVal) (H : AHeap) : AOut := match m with
  | .map (some r) => match H.get r with
    | some (.map es) => bif keyIs ki k then match putA k x es with
      | some es' => .val .undef (H.set r (some (.map es')))
      | none => .stuck
      else .stuck
    | _ => .stuck
  | _ => .stuck
def xAssert (t : TypeId) (z : AVal) (ok : Bool) (x : AVal) : Option AVal := match x with
  | .nilIface => bif ok then some ((.tuple [z, .bool false])) else none
  | .iface t' v => bif Nat.beq t' t then some ((bif ok then .tuple [v, .bool true] else v)) else
      bif ok then some ((.tuple [z, .bool false])) else none
  | _ => none
def xExtract (x : AVal) (i : Nat) : Option AVal := match x with
  | .tuple vs => nthN i vs
  | _ => none
def xInvoke (callf : CallF) (tbl : List (TypeId × FuncId)) (r : AVal) (args : List AVal) (H : AHeap) : AOut := match r with
  | .iface t v => match lookT t tbl with
    | some f => callR (callf f (v :: args) H)
    | none => .stuck
  | _ => .stuck
def xLenS (x : AVal) : Option AVal := match x with
  | .str s => some (.int .i64 (.ofNat s.length))
  | _ => none
def xLenSl (x : AVal) : Option AVal := match x with
  | .slice _ n _ => some (.int .i64 (.ofNat n))
  | _ => none
def xLenM (x : AVal) (H : AHeap) : Option AVal := match x with
  | .map r => match mapOf H r with | some es => some (.int .i64 (.ofNat es.length)) | none => none
  | _ => none
def xClear (x : AVal) (H : AHeap) : AOut := match x with
  | .map none => .val .undef H
  | .map (some r) => match H.get r with
    | some (.map _) => .val .undef (H.set r (some (.map [])))
    | _ => .stuck
  | _ => .stuck
def xDelete (ki : Bool) (m k : AVal) (H : AHeap) : AOut := bif keyIs ki k then match m with
  | .map none => .val .undef H
  | .map (some r) => match H.get r with
    | some (.map es) => match delA k es with
      | some es' => .val .undef (H.set r (some (.map es')))
      | none => .stuck
    | _ => .stuck
  | _ => .stuck
  else .stuck
def xCopy (W0 : BaseF) (size : Nat) (d x : AVal) (H : AHeap) : AOut := match d, lenOfA x with
  | .slice base dl _, some sl =>
    match srcCells W0 H size (bif Nat.ble sl dl then sl else dl) x with
    | some cs => bif allScalar cs then match base with
      | some a => pvH (.int .i64 (.ofNat (bif Nat.ble sl dl then sl else dl))) (writeCells H a cs)
      | none => .val (.int .i64 (.ofNat (bif Nat.ble sl dl then sl else dl))) H
      else .stuck
    | none => .stuck
  | _, _ => .stuck
def xDfr (f : AVal) (args : List AVal) : AOut := match f with
  | .func (.func f) first captured => .dfr ⟨f, first ++ (args ++ captured)⟩
  | _ => .stuck
def xPanic (x : AVal) (H : AHeap) : AOut := match x with
  | .iface t v => .pan (.iface t v) H
  | _ => .stuck


end Am

namespace Am
open Go
noncomputable section

def mapOpt {α β : Type} (f : α → Option β) : List α → Option (List β)
  | [] => some []
  | x :: xs => match f x with
    | none => none
    | some y => match mapOpt f xs with
      | none => none
      | some ys => some (y :: ys)

def lift0 : Value → Option AVal
  | .bool b => some (.bool b)
  | .int k n => some (.int k n)
  | .float k b => some (.float k b)
  | .string s => some (.str s.data.toList)
  | .pointer none => some (.ptr none)
  | .slice none l c => bif Nat.beq l 0 && Nat.beq c 0 then some (.slice none 0 (.ex 0)) else none
  | .map none => some (.map none)
  | .nilFunc => some .nilFunc
  | .nilIface => some .nilIface
  | _ => none

def liftC : Value → Option AVal
  | .agg cs => match mapOpt lift0 cs.toList with | some l => some (.agg l) | none => none
  | .tuple vs => match vs.toList with | [] => some .undef | _ => none
  | v => lift0 v

def Opd.isC : Opd → Bool
  | .c (.func _ _ _) => false
  | .c _ => true
  | _ => false

def Opd.slots : Opd → List Path
  | .t i => [i]
  | .c _ => []

def optSlots : Option Opd → List Path
  | some x => x.slots
  | none => []

def allSlots : List Opd → List Path
  | [] => []
  | x :: xs => x.slots ++ allSlots xs

def partSlots : List (Nat × Nat × Opd) → List Path
  | [] => []
  | (_, _, x) :: xs => x.slots ++ partSlots xs

/-- an operation: what it does, which slots it looks at -/
structure AOp where
  run : ARun
  slots : List Path

section comp
variable (P : Program)

def cOpd (nt : Nat) : Operand → Option Opd
  | .tmp t => bif Nat.blt t nt then some (.t (.of t)) else none
  | .const v => match liftC v with | some a => some (.c a) | none => none
  | .global _ => none
  | .func f => some (.c (.func (.func f) [] []))

def cOpt (nt : Nat) : Option Operand → Option (Option Opd)
  | none => some none
  | some x => match cOpd nt x with | some y => some (some y) | none => none

def sizeOf? (t : TypeId) : Option Nat := match P.info? t with | some i => some i.size | none => none

/-- `some none`: one cell; `some (some n)`: an aggregate of n cells -/
def shapeOf (t : TypeId) : Option (Option Nat) := match P.underlying t with
  | some (.struct _) | some (.array _ _) => match sizeOf? P t with | some n => some (some n) | none => none
  | some _ => some none
  | none => none

def zeroA (t : TypeId) : Option AVal := match P.info? t with
  | some i => match i.zero with | some v => liftC v | none => none
  | none => none

def cParts (nt : Nat) (ps : List (Nat × Operand)) (place : Nat → Option (Nat × Nat)) : Option (List (Nat × Nat × Opd)) :=
  mapOpt (fun p => match place p.1, cOpd nt p.2 with
    | some q, some y => some (q.1, q.2, y)
    | _, _ => none) ps

def fieldK (t : TypeId) : Option FK := match P.underlying t with
  | some .bool => some .bool
  | some (.int _) => some .int
  | some (.float _) => some .float
  | some .string => some .str
  | _ => none

/-- fields that are numbers, strings, bools, one behind the other -/
def flatKinds : List Field → Nat → Option (List FK)
  | [], _ => some []
  | f :: fs, i => bif Nat.beq f.offset i && f.name != "_" then match fieldK P f.type, flatKinds fs (i + 1) with
    | some k, some ks => some (k :: ks)
    | _, _ => none
    else none

def nilOK (t : TypeId) (x y : Opd) : Bool := x.isC || y.isC || (match P.underlying t with
  | some (.interface ms) => ms.isEmpty
  | _ => true)

def methodRow (t : TypeId) (name : String) : Option (FuncId × Bool) :=
  match P.info? t with
  | some i => match i.methods.toList.find? (·.name == name) with
    | some m => bif m.path.isEmpty then m.func else none
    | none => none
  | none => none

def methodTableFrom (name : String) : List TypeId → List (TypeId × FuncId)
  | [] => []
  | t :: ts => match methodRow P t name, P.underlying t with
    | some (f, false), some (.struct _) => (t, f) :: methodTableFrom name ts
    | _, _ => methodTableFrom name ts

/-- the struct types that have a method by value -/
def methodTable (name : String) : List (TypeId × FuncId) := methodTableFrom P name (List.range P.types.size)

def methodsIn : List Oper → List (String × List (TypeId × FuncId))
  | [] => []
  | o :: os => match o.op with
    | .makeFunc (.method name) _ _ => (name, methodTable P name) :: methodsIn os
    | _ => methodsIn os

def cConv (src dst : TypeId) (x : Opd) : Option AOp :=
  match P.underlying src, P.underlying dst with
  | some (.int _), some (.int k) | some (.float _), some (.int k) => some ⟨.pure fun T => convP (.int k) (ev T x), x.slots⟩
  | some (.int _), some (.float k) => some ⟨.pure fun T => convP (.toFloat k) (ev T x), x.slots⟩
  | some .string, some (.slice e) => match P.underlying e with
    | some (.int .u8) => some ⟨.alloc fun T => xStrBytes e (ev T x), x.slots⟩
    | _ => none
  | some (.slice e), some .string => match P.underlying e with
    | some (.int .u8) => some ⟨.read fun W0 T H => xBytesStr W0 (ev T x) H, x.slots⟩
    | _ => none
  | some (.slice _), some (.slice e) => match P.underlying e with
    | some (.int .u8) => bif Nat.beq src dst then some ⟨.chain fun _ _ T H => xMark (ev T x) H, x.slots⟩ else none
    | _ => none
  | some .string, some .string => some ⟨.pure fun T => convP .same (ev T x), x.slots⟩
  | _, _ => none

def cLen (t : TypeId) (x : Opd) : Option AOp := match P.underlying t with
  | some .string => some ⟨.pure fun T => xLenS (ev T x), x.slots⟩
  | some (.slice _) => some ⟨.pure fun T => xLenSl (ev T x), x.slots⟩
  | some (.map _ _) => some ⟨.read fun _ T H => xLenM (ev T x) H, x.slots⟩
  | some (.array n _) => some ⟨.pure fun _ => some (.int .i64 (.ofNat n)), []⟩
  | some (.pointer a) => match P.underlying a with
    | some (.array n _) => some ⟨.pure fun _ => some (.int .i64 (.ofNat n)), []⟩
    | _ => none
  | _ => none

def cAppend (t t1 : TypeId) (s x : Opd) : Option AOp := match P.underlying t, P.underlying t1 with
  | some (.slice e), some (.slice _) | some (.slice e), some .string => match P.info? e, zeroA P e with
    | some i, some z => bif !(Nat.beq i.size 0) && (!(Nat.beq i.bytes 0) && Nat.beq z.cells.length i.size) then
        some ⟨.chain fun W0 _ T H => pv2 (appendA W0 H e i.size i.bytes (ev T s) (ev T x)), s.slots ++ x.slots⟩ else none
    | _, _ => none
  | _, _ => none

/-- a key's type: a kind of ints, strings -/
def keyT (kt : TypeId) : Option Bool := match P.underlying kt with
  | some (.int _) => some true
  | some .string => some false
  | _ => none

def cBuiltin (b : Builtin) (argTypes : List TypeId) (args : List Opd) : Option AOp :=
  match b, argTypes, args with
  | .len, [t], [x] => cLen P t x
  | .append, [t, t1], [s, x] => cAppend P t t1 s x
  | .min, _, l => some ⟨.pure fun T => minA false (evs T l), allSlots l⟩
  | .max, _, l => some ⟨.pure fun T => minA true (evs T l), allSlots l⟩
  | .clear, [t], [x] => match P.underlying t with
    | some (.map _ _) => some ⟨.chain fun _ _ T H => xClear (ev T x) H, x.slots⟩
    | _ => none
  | .delete, [t, _], [m, k] => match P.underlying t with
    | some (.map kt _) => match keyT P kt with
      | some ki => some ⟨.chain fun _ _ T H => xDelete ki (ev T m) (ev T k) H, m.slots ++ k.slots⟩
      | none => none
    | _ => none
  | .copy, [t, _], [d, s] => match P.underlying t with
    | some (.slice e) => match sizeOf? P e with
      | some n => some ⟨.chain fun W0 _ T H => xCopy W0 n (ev T d) (ev T s) H, d.slots ++ s.slots⟩
      | none => none
    | _ => none
  | .recover, _, [] => some ⟨.recover, []⟩
  | _, _, _ => none

def allSized : List Field → Bool
  | [] => true
  | f :: fs => (match sizeOf? P f.type with | some _ => true | none => false) && allSized fs

def cBuild (nt : Nat) (t : TypeId) (ps : List (Nat × Operand)) : Option AOp := match zeroA P t, P.underlying t with
  | some z, some (.struct fs) => match cParts nt ps (fun i => match fs[i]? with
      | some f => match sizeOf? P f.type with | some n => some (f.offset, n) | none => none
      | none => none) with
    | some qs => bif allSized P fs.toList then some ⟨.pure fun T => aggO (fillA T z.cells qs), partSlots qs⟩ else none
    | none => none
  | some z, some (.array _ e) => match sizeOf? P e with
    | some size => match cParts nt ps (fun i => some (i * size, size)) with
      | some qs => some ⟨.pure fun T => aggO (fillA T z.cells qs), partSlots qs⟩
      | none => none
    | none => none
  | _, _ => none

def cBuildSl (nt : Nat) (t : TypeId) (len : Nat) (ps : List (Nat × Operand)) : Option AOp := match P.underlying t with
  | some (.slice e) => match zeroA P e, sizeOf? P e with
    | some z, some size => bif Nat.beq z.cells.length size && !(Nat.beq size 0) && Nat.ble (len * size) 65536 then
        match cParts nt ps (fun i => some (i * size, size)) with
        | some qs => some ⟨.alloc fun T => xBuildSl e len (fillA T (repl z.cells len) qs), partSlots qs⟩
        | none => none
      else none
    | _, _ => none
  | _ => none

def cEq (neg : Bool) (t : TypeId) (x y : Opd) : Option AOp := match P.underlying t with
  | some (.int _) | some (.float _) | some .string => some ⟨.pure fun T => negB neg (eqNum (ev T x) (ev T y)), x.slots ++ y.slots⟩
  | some .bool => some ⟨.pure fun T => negB neg (eqBool (ev T x) (ev T y)), x.slots ++ y.slots⟩
  | some (.slice _) => some ⟨.pure fun T => negB neg (eqSl (ev T x) (ev T y)), x.slots ++ y.slots⟩
  | some (.map _ _) => some ⟨.pure fun T => negB neg (eqMap (ev T x) (ev T y)), x.slots ++ y.slots⟩
  | some (.func ..) => some ⟨.pure fun T => negB neg (eqFunc (ev T x) (ev T y)), x.slots ++ y.slots⟩
  | some (.interface _) => some ⟨.pure fun T => negB neg (eqIf (nilOK P t x y) (ev T x) (ev T y)), x.slots ++ y.slots⟩
  | some (.struct fs) => match flatKinds P fs.toList 0 with
    | some ks => bif P.stoodInHeld t then none else some ⟨.pure fun T => negB neg (eqAgg ks (ev T x) (ev T y)), x.slots ++ y.slots⟩
    | none => none
  | some (.pointer e) => match sizeOf? P e with
    | some n => bif Nat.beq n 0 then none else some ⟨.read fun _ T H => negB neg (eqPtr H (ev T x) (ev T y)), x.slots ++ y.slots⟩
    | none => none
  | _ => none

def cBin (op : BinOp) (t : TypeId) (x y : Opd) : Option AOp := match op with
  | .eql => cEq P false t x y
  | .neq => cEq P true t x y
  | op => some ⟨.pure fun T => binA op (ev T x) (ev T y), x.slots ++ y.slots⟩

def cMakeSlice (t : TypeId) (l c : Opd) : Option AOp := match P.underlying t with
  | some (.slice e) => match zeroA P e, P.info? e with
    | some z, some i => bif Nat.beq z.cells.length i.size && !(Nat.beq i.size 0) then some ⟨.alloc fun T => xMkSlice e i.bytes z.cells (ev T l) (ev T c), l.slots ++ c.slots⟩ else none
    | _, _ => none
  | _ => none

def cSlice (t : TypeId) (x : Opd) (lo hi mx : Option Opd) : Option AOp := match P.underlying t with
  | some .string => match mx with
    | none => some ⟨.pure fun T => xSliceStr (ev T x) (evOpt T lo) (evOpt T hi), x.slots ++ (optSlots lo ++ optSlots hi)⟩
    | some _ => none
  | some (.slice e) => match sizeOf? P e with
    | some n => some ⟨.pure fun T => xSliceSl n (ev T x) (evOpt T lo) (evOpt T hi) (evOpt T mx), x.slots ++ (optSlots lo ++ (optSlots hi ++ optSlots mx))⟩
    | none => none
  | some (.array k e) => match sizeOf? P e with
    | some n => some ⟨.pure fun T => xSliceArr k n (ev T x) (evOpt T lo) (evOpt T hi) (evOpt T mx), x.slots ++ (optSlots lo ++ (optSlots hi ++ optSlots mx))⟩
    | none => none
  | _ => none

def cFieldAddr (t : TypeId) (x : Opd) (f : Nat) : Option AOp := match P.underlying t with
  | some (.struct fs) => match fs[f]? with
    | some fd => match sizeOf? P fd.type with
      | some n => bif Nat.beq n 0 then none else some ⟨.pure fun T => xFieldAddr fd.offset (ev T x), x.slots⟩
      | none => none
    | none => none
  | _ => none

def cField (t : TypeId) (x : Opd) (f : Nat) : Option AOp := match P.underlying t with
  | some (.struct fs) => match fs[f]? with
    | some fd => match shapeOf P fd.type with
      | some none => some ⟨.pure fun T => xField1 fd.offset (ev T x), x.slots⟩
      | some (some n) => some ⟨.pure fun T => xFieldN fd.offset n (ev T x), x.slots⟩
      | none => none
    | none => none
  | _ => none

def cIndexAddr (t : TypeId) (x i : Opd) : Option AOp := match P.underlying t with
  | some (.array len e) => match sizeOf? P e with
    | some n => some ⟨.pure fun T => xIdxArr len n (ev T x) (ev T i), x.slots ++ i.slots⟩
    | none => none
  | some (.slice e) => match sizeOf? P e with
    | some n => some ⟨.pure fun T => xIdxSl n (ev T x) (ev T i), x.slots ++ i.slots⟩
    | none => none
  | _ => none

def cIndex (t : TypeId) (x i : Opd) : Option AOp := match P.underlying t with
  | some (.array len e) => match shapeOf P e, sizeOf? P e with
    | some none, some n => bif Nat.beq n 1 then some ⟨.pure fun T => xIndex1 len (ev T x) (ev T i), x.slots ++ i.slots⟩ else none
    | _, _ => none
  | some .string => some ⟨.pure fun T => xIndexStr (ev T x) (ev T i), x.slots ++ i.slots⟩
  | _ => none

def cOp (nt : Nat) (os : List Oper) (o : Op) : Option AOp :=
  match o with
  | .move x | .assign x => match cOpd nt x with
    | some x => some ⟨.pure fun T => some (ev T x), x.slots⟩
    | none => none
  | .pick c a b => match cOpd nt c, cOpd nt a, cOpd nt b with
    | some c, some a, some b => some ⟨.pure fun T => xPick (ev T c) (ev T a) (ev T b), c.slots ++ (a.slots ++ b.slots)⟩
    | _, _, _ => none
  | .alloc t => match zeroA P t with
    | some z => some ⟨.alloc fun _ => xNew t z.cells, []⟩
    | none => none
  | .box t x => match cOpd nt x with
    | some x => some ⟨.alloc fun T => xNew t (ev T x).cells, x.slots⟩
    | none => none
  | .build t ps => cBuild P nt t ps.toList
  | .buildSlice t len ps => cBuildSl P nt t len ps.toList
  | .load t a => match cOpd nt a, shapeOf P t with
    | some a, some none => some ⟨.read fun W0 T H => xLoad1 W0 (ev T a) H, a.slots⟩
    | some a, some (some n) => some ⟨.read fun W0 T H => xLoadN W0 n (ev T a) H, a.slots⟩
    | _, _ => none
  | .store t a x => match cOpd nt a, cOpd nt x, sizeOf? P t with
    | some a, some x, some n => some ⟨.chain fun _ _ T H => xStore n (ev T a) (ev T x) H, a.slots ++ x.slots⟩
    | _, _, _ => none
  | .nilCheck x => match cOpd nt x with
    | some x => some ⟨.pure fun T => xNilCheck (methodsIn P os) (ev T x), x.slots⟩
    | none => none
  | .binOp op t x y _ => match cOpd nt x, cOpd nt y with
    | some x, some y => cBin P op t x y
    | _, _ => none
  | .unOp op _ x => match cOpd nt x with
    | some x => some ⟨.pure fun T => unA op (ev T x), x.slots⟩
    | none => none
  | .convert s d x => match cOpd nt x with
    | some x => cConv P s d x
    | none => none
  | .makeInterface t x => match P.underlying t, cOpd nt x with
    | some (.interface _), _ => none
    | some _, some x => some ⟨.pure fun T => some (.iface t (ev T x)), x.slots⟩
    | _, _ => none
  | .makeFunc fn first cap => match mapOpt (cOpd nt) first.toList, mapOpt (cOpd nt) cap.toList with
    | some f, some c => some ⟨.pure fun T => some (.func fn (evs T f) (evs T c)), allSlots f ++ allSlots c⟩
    | _, _ => none
  | .makeMap _ none => some ⟨.alloc fun _ => xMkMap, []⟩
  | .makeSlice t l c => match cOpd nt l, cOpd nt c with
    | some l, some c => cMakeSlice P t l c
    | _, _ => none
  | .slice t x lo hi mx => match cOpd nt x, cOpt nt lo, cOpt nt hi, cOpt nt mx with
    | some x, some lo, some hi, some mx => cSlice P t x lo hi mx
    | _, _, _, _ => none
  | .fieldAddr t x f => match cOpd nt x with
    | some x => cFieldAddr P t x f
    | none => none
  | .field t x f => match cOpd nt x with
    | some x => cField P t x f
    | none => none
  | .indexAddr t x i => match cOpd nt x, cOpd nt i with
    | some x, some i => cIndexAddr P t x i
    | _, _ => none
  | .index t x i => match cOpd nt x, cOpd nt i with
    | some x, some i => cIndex P t x i
    | _, _ => none
  | .lookup t x k ok => match cOpd nt x, cOpd nt k, P.underlying t with
    | some x, some k, some (.map kt e) => match zeroA P e, keyT P kt with
      | some z, some ki => some ⟨.read fun _ T H => xLookup ki z ok (ev T x) (ev T k) H, x.slots ++ k.slots⟩
      | _, _ => none
    | _, _, _ => none
  | .mapUpdate t m k x => match cOpd nt m, cOpd nt k, cOpd nt x, P.underlying t with
    | some m, some k, some x, some (.map kt _) => match keyT P kt with
      | some ki => some ⟨.chain fun _ _ T H => xMapUpd ki (ev T m) (ev T k) (ev T x) H, m.slots ++ (k.slots ++ x.slots)⟩
      | none => none
    | _, _, _, _ => none
  | .typeAssert x _ t ok => match cOpd nt x, P.underlying t with
    | some _, some (.interface _) => none
    | some x, some _ => match zeroA P t with
      | some z => some ⟨.pure fun T => xAssert t z ok (ev T x), x.slots⟩
      | none => none
    | _, _ => none
  | .extract x i => match cOpd nt x with
    | some x => some ⟨.pure fun T => xExtract (ev T x) i, x.slots⟩
    | none => none
  | .call c => match mapOpt (cOpd nt) c.args.toList with
    | some args => match c.callee with
      | .value f => match cOpd nt f with
        | some f => some ⟨.chain fun _ callf T H => callV callf (ev T f) (evs T args) H, f.slots ++ allSlots args⟩
        | none => none
      | .invoke r name => match cOpd nt r with
        | some r => some ⟨.chain fun _ callf T H => xInvoke callf (methodTable P name) (ev T r) (evs T args) H, r.slots ++ allSlots args⟩
        | none => none
      | .builtin b => cBuiltin P b c.argTypes.toList args
    | none => none
  | .defer c => match mapOpt (cOpd nt) c.args.toList with
    | some args => match c.callee with
      | .value f => match cOpd nt f with
        | some f => some ⟨.chain fun _ _ T _ => xDfr (ev T f) (evs T args), f.slots ++ allSlots args⟩
        | none => none
      | _ => none
    | none => none
  | .panic x => match cOpd nt x with
    | some x => some ⟨.chain fun _ _ T H => xPanic (ev T x) H, x.slots⟩
    | none => none
  | _ => none

/-- where it goes: a slot of the frame, if anywhere -/
def cDst (nt : Nat) : Option Nat → Option (Option Path)
  | none => some none
  | some d => bif Nat.blt d nt then some (some (.of d)) else none

def cGuard (nt : Nat) (os : List Oper) : Option (Nat × Bool) → Option (Option (Path × Bool))
  | none => some none
  | some (j, b) => match os[j]? with
    | some oj => match oj.dst with
      | some d => bif Nat.blt d nt then some (some (.of d, b)) else none
      | none => none
    | none => none

def guardSlots : Option (Path × Bool) → List Path
  | none => []
  | some (d, _) => [d]

def cInst (nt : Nat) (os : List Oper) (o : Oper) : Option AInst :=
  match cOp P nt os o.op, cDst nt o.dst, cGuard nt os o.guard with
  | some op, some d, some g => some ⟨op.run, d, g, guardSlots g ++ op.slots⟩
  | _, _, _ => none

/-! regions whose order is drawn -/
def maskOf (acc : List Nat) : List Edge → Nat → Nat
  | [], s => s
  | e :: es, s => maskOf acc es (bif Region.binds .any e then Nat.lor (Nat.lor s (2 ^ e.on)) (acc.getD e.on 0) else s)

/-- which places come ahead of each in every order, as masks -/
def masksFrom : List Oper → List Nat → List Nat
  | [], acc => acc
  | o :: os, acc => masksFrom os (acc ++ [maskOf acc o.after.toList 0])

def ARun.isChain : ARun → Bool
  | .chain _ | .recover => true
  | _ => false

def ARun.isAlloc : ARun → Bool
  | .alloc _ => true
  | _ => false

def subMask (a b : Nat) : Bool := Nat.beq (Nat.land a b) a

def firstWhere (p : DInst → Bool) : List DInst → List DInst → Option (DInst × List DInst)
  | [], _ => none
  | x :: xs, acc => bif p x then some (x, acc.reverse ++ xs) else firstWhere p xs (x :: acc)

/-- as early as it may be: what does not change memory ahead of what does -/
def early : Nat → Nat → List DInst → Option (List DInst)
  | _, _, [] => some []
  | 0, _, _ => none
  | n + 1, done, l => match firstWhere (fun x => !x.ins.run.isChain && subMask x.mask done) l [] with
    | some (x, r) => match early n (Nat.lor done (2 ^ x.at_)) r with | some l => some (x :: l) | none => none
    | none => match firstWhere (fun x => subMask x.mask done) l [] with
      | some (x, r) => match early n (Nat.lor done (2 ^ x.at_)) r with | some l => some (x :: l) | none => none
      | none => none

def zipD : List AInst → List Nat → Nat → List DInst
  | i :: is, m :: ms, n => ⟨i, n, m⟩ :: zipD is ms (n + 1)
  | _, _, _ => []

/-- is y written ahead of x in every order, if x looks at what y writes? -/
def readOK (x y : DInst) : Bool := match y.ins.dst with
  | some d => x.mask.testBit y.at_ || !(x.ins.slots.any fun s => s.beq d)
  | none => true

def dstApart (x y : DInst) : Bool := match x.ins.dst, y.ins.dst with
  | some d, some d' => !(d.beq d')
  | _, _ => true

/-- of two that stand in this order -/
def pairOK (x y : DInst) : Bool :=
  !(Nat.beq x.at_ y.at_) && dstApart x y && readOK x y && readOK y x && (!x.ins.run.isChain || y.mask.testBit x.at_) && !(x.mask.testBit y.at_)

def pairsOK : List DInst → Bool
  | [] => true
  | x :: xs => xs.all (pairOK x) && pairsOK xs

def drwOK (n : Nat) (l : List DInst) : Bool :=
  Nat.beq l.length n && l.all (fun x => Nat.blt x.at_ n && readOK x x && !(x.mask.testBit x.at_) && Nat.blt x.mask (2 ^ n)) && pairsOK l

def dstsOf : List DInst → List Path
  | [] => []
  | x :: xs => match x.ins.dst with
    | some d => d :: dstsOf xs
    | none => dstsOf xs

def cDrw (nt : Nat) (os : List Oper) : Option ACode :=
  match mapOpt (cInst P nt os) os with
  | some is => match early os.length 0 (zipD is (masksFrom os []) 0) with
    | some l => bif drwOK os.length l then some (.drw l (dstsOf l)) else none
    | none => none
  | none => none

def cReg (nt : Nat) (os : List Oper) (d : Bool) : ACode := match d with
  | false => match mapOpt (cInst P nt os) os with
    | some is => .seg is
    | none => .stop
  | true => match cDrw P nt os with
    | some c => c
    | none => .stop

def cCode (nt : Nat) : Code → ACode
  | .skip => .skip
  | .region _ ops d => cReg P nt ops.toList d
  | .seq a b => .seq (cCode nt a) (cCode nt b)
  | .cond c a b => match cOpd nt c with
    | some x => .cond x (cCode nt a) (cCode nt b)
    | none => .stop
  | .block id c => .block id (cCode nt c)
  | .loop c => .loop (cCode nt c)
  | .exit id => .exit id
  | .ret => .ret
  | _ => .stop

def cRV (nt : Nat) : ResultVar → Option ARV
  | .tmp t => bif Nat.blt t nt then some (.t (.of t)) else none
  | .cell a t => bif Nat.blt a nt then match shapeOf P t with
    | some none => some (.cell1 (.of a))
    | some (some n) => some (.cellN (.of a) n)
    | none => none
    else none

def cFn (f : FuncId) : Option AFn :=
  match P.funcs[f]? with
  | some fn => match fn.body, mapOpt (cRV P fn.ntmps) fn.results.toList with
    | some c, some rs => some ⟨fn.ntmps, cCode P fn.ntmps c, rs⟩
    | _, _ => none
  | none => none

end comp
end
end Am

namespace Am
open Go
noncomputable section

def allocA (r : Option (AObj × (Nat → AVal))) (H : AHeap) : AOut := match r with
  | some (o, mk) => .val (mk H.next) (H.new o)
  | none => .stuck

def runA (W0 : BaseF) (callf : CallF) (T : Tmps) (H : AHeap) : ARun → AOut
  | .pure f => pv (f T) H
  | .alloc f => allocA (f T) H
  | .read f => pv (f W0 T H) H
  | .chain f => f W0 callf T H
  | .recover => .stuck

/-- is it wanted? (nobody knows, if the slot is unknown) -/
def wantedA (T : Tmps) (g : Option (Path × Bool)) : Option Bool :=
  match g with
  | none => some true
  | some (d, want) => match getT T d with
    | .bool b => some (bif want then b else !b)
    | .any => none
    | _ => some false

inductive CRes where
  | stuck
  | res (e : AExit) (T : Tmps) (D : List ADef) (H : AHeap)

/-- goes on behind an instruction -/
def nextA (o : AOut) (dst : Option Path) (T : Tmps) (D : List ADef) (k : Tmps → List ADef → AHeap → CRes) (H0 : AHeap) : CRes :=
  match o with
  | .stuck => .stuck
  | .val v H => k (putT T dst v) D H
  | .pan v H => .res (.pan v) T D H
  | .dfr d => k (putT T dst .undef) (d :: D) H0

def aops (W0 : BaseF) (callf : CallF) (l : List AInst) : Tmps → List ADef → AHeap → CRes :=
  List.rec (motive := fun _ => Tmps → List ADef → AHeap → CRes) (fun T D H => .res .normal T D H)
    (fun i _ ih T D H => match wantedA T i.guard with
      | some true => nextA (runA W0 callf T H i.run) i.dst T D ih H
      | some false => ih (putT T i.dst .undef) D H
      | none => .stuck) l

def ceq : ACap → ACap → Bool
  | .ex c, .ex c' => Nat.beq c c'
  | .op e, .op e' => Nat.beq e e'
  | _, _ => false

mutual
def aeq : AVal → AVal → Bool
  | .any, .any => true
  | .bool a, .bool b => a == b
  | .int k a, .int k' b => IntKind.beq k k' && iEq a b
  | .float .f64 a, .float .f64 b | .float .f32 a, .float .f32 b => Nat.beq a b
  | .str a, .str b => bytesEq a b
  | .ptr none, .ptr none => true
  | .ptr (some a), .ptr (some b) => a.beq b
  | .slice none l c, .slice none l' c' => Nat.beq l l' && ceq c c'
  | .slice (some a) l c, .slice (some b) l' c' => a.beq b && (Nat.beq l l' && ceq c c')
  | .map none, .map none => true
  | .map (some a), .map (some b) => Nat.beq a b
  | .func (.func f) a c, .func (.func g) b d => Nat.beq f g && leq a b && leq c d
  | .nilFunc, .nilFunc => true
  | .iface t v, .iface u w => Nat.beq t u && aeq v w
  | .nilIface, .nilIface => true
  | .agg a, .agg b => leq a b
  | .tuple a, .tuple b => leq a b
  | _, _ => false
def leq : List AVal → List AVal → Bool
  | [], [] => true
  | a :: as, b :: bs => aeq a b && leq as bs
  | _, _ => false
end

def sameV (v : AVal) : Option AVal → Bool
  | some v' => aeq v v'
  | none => false

def againA (W0 : BaseF) (T : Tmps) (H : AHeap) (v : AVal) : ARun → Bool
  | .read f => sameV v (f W0 T H)
  | _ => true

/-- do those that looked at memory see the same still? -/
def recheck (W0 : BaseF) (mask : Nat) (T : Tmps) (H : AHeap) : List (DInst × AVal) → Bool
  | [] => true
  | (x, v) :: r => (mask.testBit x.at_ || againA W0 T H v x.ins.run) && recheck W0 mask T H r

def anyAll (T : Tmps) : List Path → Tmps
  | [] => T
  | d :: ds => anyAll (setT T d .any) ds

def nextD (o : AOut) (x : DInst) (T : Tmps) (D : List ADef) (seen : List (DInst × AVal)) (dsts : List Path) (W0 : BaseF) (k : List (DInst × AVal) → Tmps → List ADef → AHeap → CRes) : CRes :=
  match o with
  | .val v H' => bif x.ins.run.isChain then (bif recheck W0 x.mask T H' seen then k seen (putT T x.ins.dst v) D H' else .stuck)
      else (bif x.ins.run.isAlloc && !(recheck W0 0 T H' seen) then .stuck else k ((x, v) :: seen) (putT T x.ins.dst v) D H')
  | .pan v H' => bif x.ins.run.isChain then .res (.pan v) (anyAll T dsts) D H' else .stuck
  | _ => .stuck

def adrw (W0 : BaseF) (callf : CallF) (dsts : List Path) (l : List DInst) : List (DInst × AVal) → Tmps → List ADef → AHeap → CRes :=
  List.rec (motive := fun _ => List (DInst × AVal) → Tmps → List ADef → AHeap → CRes) (fun _ T D H => .res .normal T D H)
    (fun x _ ih seen T D H => match wantedA T x.ins.guard with
      | some true => nextD (runA W0 callf T H x.ins.run) x T D seen dsts W0 ih
      | some false => ih seen (putT T x.ins.dst .undef) D H
      | none => .stuck) l

def thenC (r : CRes) (k : Tmps → List ADef → AHeap → CRes) : CRes := match r with
  | .res .normal T D H => k T D H
  | r => r

def blockC (id : Nat) (r : CRes) : CRes := match r with
  | .res (.exit id') T D H => bif Nat.beq id' id then .res .normal T D H else .res (.exit id') T D H
  | r => r

def loopC (body : Tmps → List ADef → AHeap → CRes) (n : Nat) : Tmps → List ADef → AHeap → CRes :=
  Nat.rec (motive := fun _ => Tmps → List ADef → AHeap → CRes) (fun _ _ _ => .stuck) (fun _ ih T D H => thenC (body T D H) ih) n

def condC (c : AVal) (a b : CRes) : CRes := match c with
  | .bool true => a
  | .bool false => b
  | _ => .stuck

def acode (W0 : BaseF) (callf : CallF) (n : Nat) (c : ACode) : Tmps → List ADef → AHeap → CRes :=
  ACode.rec (motive := fun _ => Tmps → List ADef → AHeap → CRes)
    (fun T D H => .res .normal T D H)
    (fun ops => aops W0 callf ops)
    (fun l dsts => adrw W0 callf dsts l [])
    (fun _ _ ia ib T D H => thenC (ia T D H) ib)
    (fun c _ _ ia ib T D H => condC (ev T c) (ia T D H) (ib T D H))
    (fun id _ ic T D H => blockC id (ic T D H))
    (fun _ ic => loopC ic n)
    (fun id T D H => .res (.exit id) T D H)
    (fun T D H => .res .ret T D H)
    (fun _ _ _ => .stuck) c

def res1 (W0 : BaseF) (T : Tmps) (H : AHeap) : ARV → Option AVal
  | .t i => some (getT T i)
  | .cell1 a => xLoad1 W0 (getT T a) H
  | .cellN a n => xLoadN W0 n (getT T a) H

def resA (W0 : BaseF) (T : Tmps) (H : AHeap) : List ARV → Option (List AVal)
  | [] => some []
  | r :: rs => match res1 W0 T H r with
    | some v => match resA W0 T H rs with
      | some vs => some (v :: vs)
      | none => none
    | none => none

/-- what stands between a body's end and the way back: returning, or a panic under way (taken or not) -/
inductive AMode where
  | ret
  | pan (v : AVal) (taken : Bool)

def settleA : AMode → AMode
  | .pan _ true => .ret
  | m => m

inductive MRes where
  | stuck
  | res (m : AMode) (H : AHeap)

/-- the first region of a deferred function that recovers: there `recover` may stand, beside what only computes -/
def aopsD (k : Tmps → AMode → MRes) : List AInst → Tmps → AMode → MRes
  | [], T, m => k T m
  | i :: rest, T, m =>
      match i.guard, i.run with
      | some _, _ => .stuck
      | none, .recover => match m with
        | .pan v false => aopsD k rest (putT T i.dst v) (.pan v true)
        | m => aopsD k rest (putT T i.dst .nilIface) m
      | none, .pure f => match f T with
        | some v => aopsD k rest (putT T i.dst v) m
        | none => .stuck
      | none, _ => .stuck

def hasRec : List AInst → Bool
  | [] => false
  | i :: is => (match i.run with | .recover => true | _ => false) || hasRec is

def fillArgs : List AVal → Nat → Tmps → Tmps
  | [], _, T => T
  | v :: vs, n, T => fillArgs vs (Nat.succ n) (setT T (.of n) v)

def frameOf (args : List AVal) : Tmps := fillArgs args 0 .leaf

abbrev FnsF := FuncId → Option AFn

def endD (m : AMode) (r : CRes) : MRes := match r with
  | .res .normal _ [] H => .res (settleA m) H
  | .res .ret _ [] H => .res (settleA m) H
  | _ => .stuck

def callD (F : FnsF) (W0 : BaseF) (callf : CallF) (n : Nat) (d : ADef) (m : AMode) (H : AHeap) : MRes :=
  match F d.fn with
  | some ⟨nt, body, []⟩ => bif Nat.ble d.args.length nt then
      match body with
      | .seq (.seg ops) rest => bif hasRec ops then aopsD (fun T m => endD m (acode W0 callf n rest T [] H)) ops (frameOf d.args) m
          else endD m (acode W0 callf n body (frameOf d.args) [] H)
      | _ => endD m (acode W0 callf n body (frameOf d.args) [] H)
    else .stuck
  | _ => .stuck

def leaveA (F : FnsF) (W0 : BaseF) (callf : CallF) (n : Nat) : List ADef → AMode → AHeap → MRes
  | [], m, H => .res m H
  | d :: ds, m, H => match callD F W0 callf n d m H with
    | .res m H => leaveA F W0 callf n ds m H
    | .stuck => .stuck

def resC (r : Option (List AVal)) (H : AHeap) : CallRes := match r with
  | some [v] => .ret v H
  | some vs => .ret (.tuple vs) H
  | none => .stuck

def endA (F : FnsF) (W0 : BaseF) (callf : CallF) (n : Nat) (res : List ARV) (m : AMode) (T : Tmps) (D : List ADef) (H : AHeap) : CallRes :=
  match leaveA F W0 callf n D m H with
  | .res .ret H => resC (resA W0 T H res) H
  | .res (.pan v false) H => .pan v H
  | _ => .stuck

def bodyEnd (F : FnsF) (W0 : BaseF) (callf : CallF) (n : Nat) (res : List ARV) (r : CRes) : CallRes :=
  match r with
  | .res .normal T D H => endA F W0 callf n res .ret T D H
  | .res .ret T D H => endA F W0 callf n res .ret T D H
  | .res (.pan v) T D H => endA F W0 callf n res (.pan v false) T D H
  | _ => .stuck

abbrev PrimF := FuncId → Option (List AVal → AHeap → CallRes)

def acall (F : FnsF) (W0 : BaseF) (prim : PrimF) : Nat → CallF
  | 0, _, _, _ => .stuck
  | n + 1, f, args, H => match prim f with
    | some g => g args H
    | none => match F f with
      | some fn => bif Nat.ble args.length fn.nt then
          bodyEnd F W0 (acall F W0 prim n) n fn.res (acode W0 (acall F W0 prim n) n fn.body (frameOf args) [] H) else .stuck
      | none => .stuck

end
end Am
