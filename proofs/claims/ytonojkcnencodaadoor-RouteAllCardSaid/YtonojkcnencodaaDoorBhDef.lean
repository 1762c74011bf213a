/-
  BH: a deterministic, functional evaluator of the model's code over an abstract heap. Definitions alone.
  An abstract object has an id; a slice's capacity is unknown behind a growing append ('ACap.op'); an append whose place is unknown consumes the old object.
  'none': the evaluator says nothing (Go panics there, or the answer hangs on a capacity, an order, a map's order, or the construct isn't covered).
  Written for the kernel: what hangs on the program's text alone is a closed term (reckoned once); matches are on one value at a time.
-/
import Derived.Test.YtonojkcnencodaaDoorBhRec
import GoSem.Dispatch
import GoSem.Machine.Frame
namespace Go.Proofs.YtonojkcnencodaaDoor.BH
noncomputable section

/-! ### a tree keyed by numbers -/
inductive T (α : Type) where
  | leaf
  | node (l : T α) (v : Option α) (r : T α)

namespace T
variable {α : Type}
def get (t : T α) (n : Nat) : Option α :=
  T.rec (motive := fun _ => Nat → Option α) (fun _ => none)
    (fun _ v _ ihl ihr n => cnd (Nat.beq n 0) v (cnd (Nat.beq (Nat.mod n 2) 0) (ihr (Nat.sub (Nat.div n 2) 1)) (ihl (Nat.div n 2)))) t n
def tcase {β : Type} (t : T α) (z : β) (f : T α → Option α → T α → β) : β := T.casesOn (motive := fun _ => β) t z f
def put (fuel : Nat) : T α → Nat → Option α → T α :=
  nrec (fun t _ _ => t) (fun _ ih t n x => tcase t
    (cnd (Nat.beq n 0) (.node .leaf x .leaf) (cnd (Nat.beq (Nat.mod n 2) 0) (.node .leaf none (ih .leaf (Nat.sub (Nat.div n 2) 1) x)) (.node (ih .leaf (Nat.div n 2) x) none .leaf)))
    (fun l v r => cnd (Nat.beq n 0) (.node l x r) (cnd (Nat.beq (Nat.mod n 2) 0) (.node l v (ih r (Nat.sub (Nat.div n 2) 1) x)) (.node (ih l (Nat.div n 2) x) v r)))) fuel
def set (t : T α) (n : Nat) (x : Option α) : T α := put (Nat.succ n) t n x
end T

/-! ### values -/
structure ALoc where
  obj : Nat
  off : Nat
  deriving DecidableEq

inductive ACap where
  | exact (n : Nat)
  | op (d : Nat)
  deriving DecidableEq

inductive AV where
  | bool (b : Bool)
  | int (k : IntKind) (n : Int)
  | str (s : List UInt8)
  | ptr (a : Option ALoc)
  | slice (a : Option ALoc) (len : Nat) (cap : ACap)
  | map (r : Option Nat)
  | chan (r : Option Nat)
  | func (fn : Fn) (first captured : List AV)
  | nilFunc
  | iface (t : TypeId) (v : AV)
  | nilIface
  | agg (cells : List AV)
  | tuple (vs : List AV)
  /-- A slice that nobody writes any more: what it holds; is it known to be as long as its capacity? does it hold no pointers? (where it is empty: may it be nil?) -/
  | lst (cells : List AV) (n : Nat) (full pf : Bool)
  /-- A pointer into memory that nobody writes for the time being: what is there. -/
  | cptr (cells : List AV) (off : Nat)

def AV.undef : AV := .tuple []

def AV.cells : AV → List AV
  | .agg cs => cs
  | v => [v]

def AV.scalar : AV → Bool
  | .agg _ => false
  | .tuple _ => false
  | _ => true

structure AEnt where
  key : AV
  val : AV
  born : Nat

inductive AObj where
  | row (elem : TypeId) (esz : Nat) (froz : Bool) (cells : List AV)
  | map (es : List AEnt) (clock : Nat)
  | chan (cap : Nat) (buf : List AV) (sent received : Nat)
  | mapIter (m : Option Nat) (since : Nat) (seen : List Nat) (stepped : Nat)

structure AHeap where
  next : Nat
  tree : T AObj

def AHeap.get (h : AHeap) (o : Nat) : Option AObj := h.tree.get o
def AHeap.set (h : AHeap) (o : Nat) (x : AObj) : AHeap := ⟨h.next, h.tree.set o (some x)⟩
def AHeap.del (h : AHeap) (o : Nat) : AHeap := ⟨h.next, h.tree.set o none⟩
def AHeap.push (h : AHeap) (x : AObj) : AHeap := ⟨Nat.succ h.next, h.tree.set h.next (some x)⟩

def app (a b : List AV) : List AV := lrec b (fun x _ ih => x :: ih) a
def lenA {α : Type} (l : List α) : Nat := lrec 0 (fun _ _ ih => Nat.succ ih) l
def allA (p : AV → Bool) (l : List AV) : Bool := lrec true (fun a _ ih => cnd (p a) ih false) l

/-! ### types -/
def tyOf (P : Program) (t : TypeId) : Option TypeInfo := P.types[t]?
def undOf (P : Program) (t : TypeId) : Option TypeDesc :=
  match tyOf P t with
  | some i => match i.desc with
    | .named _ u => (tyOf P u).map (·.desc)
    | d => some d
  | none => none
def szOf (P : Program) (t : TypeId) : Option Nat := (tyOf P t).map (·.size)
def bytesOf (P : Program) (t : TypeId) : Option Nat := (tyOf P t).map (·.bytes)
def aggOf (P : Program) (t : TypeId) : Option Bool :=
  match undOf P t with
  | some (.struct _) => some true
  | some (.array _ _) => some true
  | some _ => some false
  | none => none

def ofScalar : Value → Option AV
  | .bool b => some (.bool b)
  | .int k n => some (.int k n)
  | .string s => some (.str s.data.toList)
  | .pointer none => some (.ptr none)
  | .slice none 0 0 => some (.slice none 0 (.exact 0))
  | .map none => some (.map none)
  | .chan none => some (.chan none)
  | .nilFunc => some .nilFunc
  | .nilIface => some .nilIface
  | _ => none
def ofScalars : List Value → Option (List AV)
  | [] => some []
  | v :: r => bnd (ofScalar v) fun a => bnd (ofScalars r) fun l => some (a :: l)
def ofValue : Value → Option AV
  | .agg cs => (ofScalars cs.toList).map .agg
  | .tuple cs => match cs.toList with
    | [] => some (.tuple [])
    | _ => none
  | v => ofScalar v

def zeroOf (P : Program) (t : TypeId) : Option AV := bnd (tyOf P t) fun i => bnd i.zero ofValue
/-- The cells of a type's zero value, where there are as many as the type has. -/
def zeroCells (P : Program) (t : TypeId) : Option (List AV) :=
  bnd (zeroOf P t) fun v => bnd (szOf P t) fun n => cnd (Nat.beq (lenA v.cells) n && allA AV.scalar v.cells) (some v.cells) (none)

def repl (n : Nat) (z : List AV) : List AV := nrec [] (fun _ ih => app z ih) n

/-! ### frames -/
abbrev Env := List AV

def nth (e : List AV) (n : Nat) : AV :=
  nrec (fun l => lcase l AV.undef fun a _ => a) (fun _ ih l => lcase l AV.undef fun _ r => ih r) n e
def setN (e : List AV) (n : Nat) (v : AV) : List AV :=
  nrec (fun l => lcase l [] fun _ r => v :: r) (fun _ ih l => lcase l [] fun a r => a :: ih r) n e

/-- An operand: what it is in a frame. -/
structure OpdF where
  run : Env → Option AV
def opdF : Operand → OpdF
  | .tmp t => ⟨fun e => some (nth e t)⟩
  | .const v => ⟨fun _ => ofValue v⟩
  | .global _ => ⟨fun _ => none⟩
  | .func f => ⟨fun _ => some (.func (.func f) [] [])⟩
def opv (e : Env) (x : Operand) : Option AV := (opdF x).run e
def opvs (e : Env) (l : List Operand) : Option (List AV) := lrec (some []) (fun x _ ih => bnd (opv e x) fun a => bnd ih fun l => some (a :: l)) l
def opvo (e : Env) (x : Option Operand) : Option (Option AV) := ocase x (some none) fun x => bnd (opv e x) fun v => some (some v)
def parts (e : Env) (l : List (Nat × Operand)) : Option (List (Nat × AV)) :=
  lrec (some []) (fun x _ ih => bnd (opv e x.2) fun a => bnd ih fun l => some ((x.1, a) :: l)) l

def putD (e : Env) (d : Option Tmp) (v : AV) : Env := ocase d e fun d => setN e d v

/-! ### rows of cells -/
structure ARow where
  elem : TypeId
  esz : Nat
  froz : Bool
  cells : List AV

def rowAt (h : AHeap) (o : Nat) : Option ARow :=
  match h.get o with
  | some (.row e s f c) => some ⟨e, s, f, c⟩
  | _ => none

def takeN (n : Nat) (cs : List AV) : Option (List AV) :=
  nrec (fun _ => some []) (fun _ ih l => lcase l none fun a r => bnd (ih r) fun l => some (a :: l)) n cs
/-- n cells from a place on. -/
def slots (cs : List AV) (off n : Nat) : Option (List AV) :=
  nrec (takeN n) (fun _ ih l => lcase l (takeN n []) fun _ r => ih r) off cs
def cellAt (cs : List AV) (n : Nat) : Option AV :=
  nrec (fun l => lcase l none fun a _ => some a) (fun _ ih l => lcase l none fun _ r => ih r) n cs
def overHere (vs cs : List AV) : Option (List AV) :=
  lrec (fun l => some l) (fun v _ ih l => lcase l none fun _ r => bnd (ih r) fun l => some (v :: l)) vs cs
/-- Cells written over those from a place on. -/
def over (cs : List AV) (off : Nat) (vs : List AV) : Option (List AV) :=
  nrec (overHere vs) (fun _ ih l => lcase l (overHere vs []) fun a r => bnd (ih r) fun l => some (a :: l)) off cs

def readRow (h : AHeap) (a : ALoc) (n : Nat) : Option (List AV) := bnd (rowAt h a.obj) fun r => slots r.cells a.off n

def ptrOf : AV → Option ALoc
  | .ptr a => a
  | _ => none

def cptrOf : AV → Option (List AV × Nat)
  | .cptr cs o => some (cs, o)
  | _ => none
def loadOne (h : AHeap) (x : AV) : Option AV :=
  ocase (cptrOf x) (bnd (ptrOf x) fun a => bnd (rowAt h a.obj) fun r => cellAt r.cells a.off) fun c => cellAt c.1 c.2
def loadAgg (n : Nat) (h : AHeap) (x : AV) : Option AV :=
  ocase (cptrOf x) (bnd (ptrOf x) fun a => bnd (readRow h a n) fun l => some (.agg l)) fun c => bnd (slots c.1 c.2 n) fun l => some (.agg l)

structure LoadF where
  run : AHeap → AV → Option AV
def loadF (P : Program) (t : TypeId) : LoadF :=
  match aggOf P t with
  | some true => match szOf P t with
    | some n => ⟨loadAgg n⟩
    | none => ⟨fun _ _ => none⟩
  | some false => ⟨loadOne⟩
  | none => ⟨fun _ _ => none⟩

def writeRow (h : AHeap) (a : ALoc) (vs : List AV) : Option AHeap :=
  bnd (rowAt h a.obj) fun r =>
    cnd (r.froz) (none) (cnd (allA AV.scalar vs) (bnd (over r.cells a.off vs) fun cs => some (h.set a.obj (.row r.elem r.esz false cs))) (none))

def storeN (n : Option Nat) (h : AHeap) (x v : AV) : Option AHeap :=
  bnd n fun n => bnd (ptrOf x) fun a => cnd (Nat.beq (lenA v.cells) n) (writeRow h a v.cells) (none)

def newRowV (h : AHeap) (elem : TypeId) (esz : Nat) (cells : List AV) : AV × AHeap :=
  (.ptr (some ⟨h.next, 0⟩), h.push (.row elem esz false cells))

/-! ### whole numbers and strings -/
def icase {β : Type} (n : Int) (f g : Nat → β) : β := Int.casesOn (motive := fun _ => β) n f g
def ltI (a b : Int) : Bool :=
  icase a (fun a => icase b (fun b => Nat.ble (Nat.succ a) b) fun _ => false) fun a => icase b (fun _ => true) fun b => Nat.ble (Nat.succ b) a
def eqI (a b : Int) : Bool :=
  icase a (fun a => icase b (fun b => Nat.beq a b) fun _ => false) fun a => icase b (fun _ => false) fun b => Nat.beq a b
def natI (a : Int) : Option Nat := icase a (fun a => some a) fun _ => none

/-- Is a number of a kind, surely? (the kinds that are common) -/
def fits (k : IntKind) (n : Int) : Bool :=
  match k with
  | .i64 => icase n (fun n => Nat.ble n 9223372036854775807) fun n => Nat.ble n 9223372036854775807
  | .u64 => icase n (fun n => Nat.ble n 18446744073709551615) fun _ => false
  | .u8 => icase n (fun n => Nat.ble n 255) fun _ => false
  | .u32 => icase n (fun n => Nat.ble n 4294967295) fun _ => false
  | .i32 => icase n (fun n => Nat.ble n 2147483647) fun n => Nat.ble n 2147483647
  | _ => false
def wrapF (k : IntKind) (n : Int) : Int := cnd (fits k n) (n) (k.wrap n)

def less (a b : List UInt8) : Bool :=
  lrec (fun y => lcase y false fun _ _ => true)
    (fun a _ ih y => lcase y false fun b r => cnd (Nat.ble (Nat.succ a.toNat) b.toNat) true (cnd (Nat.beq a.toNat b.toNat) (ih r) false)) a b
def same (a b : List UInt8) : Bool :=
  lrec (fun y => lcase y true fun _ _ => false) (fun a _ ih y => lcase y false fun b r => cnd (Nat.beq a.toNat b.toNat) (ih r) false) a b
def appB (a b : List UInt8) : List UInt8 := lrec b (fun x _ ih => x :: ih) a

def kno : IntKind → Nat
  | .i8 => 0
  | .i16 => 1
  | .i32 => 2
  | .i64 => 3
  | .u8 => 4
  | .u16 => 5
  | .u32 => 6
  | .u64 => 7
def sameKind (j k : IntKind) : Bool := Nat.beq (kno j) (kno k)

/-- A binary operation on whole numbers of one kind. -/
structure IntF where
  run : IntKind → Int → Int → Option AV
def intF : BinOp → IntF
  | .add => ⟨fun k a b => some (.int k (wrapF k (Int.add a b)))⟩
  | .sub => ⟨fun k a b => some (.int k (wrapF k (Int.sub a b)))⟩
  | .mul => ⟨fun k a b => some (.int k (wrapF k (Int.mul a b)))⟩
  | .quo => ⟨fun k a b => cnd (eqI b (.ofNat 0)) (none) (some (.int k (wrapF k (a.tdiv b))))⟩
  | .rem => ⟨fun k a b => cnd (eqI b (.ofNat 0)) (none) (some (.int k (a.tmod b)))⟩
  | .and => ⟨fun k a b => some (.int k (wrapF k ((BitVec.ofInt k.bits a &&& BitVec.ofInt k.bits b).toNat)))⟩
  | .or => ⟨fun k a b => some (.int k (wrapF k ((BitVec.ofInt k.bits a ||| BitVec.ofInt k.bits b).toNat)))⟩
  | .xor => ⟨fun k a b => some (.int k (wrapF k ((BitVec.ofInt k.bits a ^^^ BitVec.ofInt k.bits b).toNat)))⟩
  | .andNot => ⟨fun k a b => some (.int k (wrapF k ((BitVec.ofInt k.bits a &&& ~~~ BitVec.ofInt k.bits b).toNat)))⟩
  | .eql => ⟨fun _ a b => some (.bool (eqI a b))⟩
  | .neq => ⟨fun _ a b => some (.bool (!eqI a b))⟩
  | .lss => ⟨fun _ a b => some (.bool (ltI a b))⟩
  | .leq => ⟨fun _ a b => some (.bool (!ltI b a))⟩
  | .gtr => ⟨fun _ a b => some (.bool (ltI b a))⟩
  | .geq => ⟨fun _ a b => some (.bool (!ltI a b))⟩
  | _ => ⟨fun _ _ _ => none⟩

def intOf : AV → Option (IntKind × Int)
  | .int k n => some (k, n)
  | _ => none

def intBin (f : IntF) (x y : AV) : Option AV :=
  bnd (intOf x) fun a => bnd (intOf y) fun b => cnd (sameKind a.1 b.1) (f.run a.1 a.2 b.2) (none)

def shlV (k : IntKind) (a b : Int) : Option AV := bnd (natI b) fun n => some (.int k (wrapF k (a * 2 ^ Nat.min n k.bits)))
def shrV (k : IntKind) (a b : Int) : Option AV := bnd (natI b) fun n => some (.int k (a.fdiv (2 ^ Nat.min n k.bits)))
def intShift (f : IntKind → Int → Int → Option AV) (x y : AV) : Option AV :=
  bnd (intOf x) fun a => bnd (intOf y) fun b => f a.1 a.2 b.2

structure StrF where
  run : List UInt8 → List UInt8 → Option AV
def strF : BinOp → StrF
  | .add => ⟨fun a b => cnd (Nat.ble (lenA a + lenA b) 4611686018427387904) (some (.str (appB a b))) (none)⟩
  | .eql => ⟨fun a b => some (.bool (same a b))⟩
  | .neq => ⟨fun a b => some (.bool (!same a b))⟩
  | .lss => ⟨fun a b => some (.bool (less a b))⟩
  | .leq => ⟨fun a b => some (.bool (less a b || same a b))⟩
  | .gtr => ⟨fun a b => some (.bool (!(less a b || same a b)))⟩
  | .geq => ⟨fun a b => some (.bool (!less a b))⟩
  | _ => ⟨fun _ _ => none⟩
def strOf : AV → Option (List UInt8)
  | .str s => some s
  | _ => none
def strBin (f : StrF) (x y : AV) : Option AV := bnd (strOf x) fun a => bnd (strOf y) fun b => f.run a b

/-! ### aggregates -/
/-- A part of an aggregate. -/
structure PartF where
  run : List AV → Option AV
def partF (P : Program) (t : TypeId) (off : Nat) : PartF :=
  match aggOf P t with
  | some true => match szOf P t with
    | some n => ⟨fun cs => bnd (slots cs off n) fun l => some (.agg l)⟩
    | none => ⟨fun _ => none⟩
  | some false => ⟨fun cs => cellAt cs off⟩
  | none => ⟨fun _ => none⟩

def aggCells : AV → Option (List AV)
  | .agg cs => some cs
  | _ => none

/-- '==' of two values of a type. -/
structure EqF where
  run : AV → AV → Option Bool
def boolOf : AV → Option Bool
  | .bool b => some b
  | _ => none
def eqBool (x y : AV) : Option Bool := bnd (boolOf x) fun a => bnd (boolOf y) fun b => some (a == b)
def eqInt (x y : AV) : Option Bool := bnd (intOf x) fun a => bnd (intOf y) fun b => cnd (sameKind a.1 b.1) (some (eqI a.2 b.2)) (none)
def eqStr (x y : AV) : Option Bool := bnd (strOf x) fun a => bnd (strOf y) fun b => some (same a b)
def ptrO : AV → Option (Option ALoc)
  | .ptr a => some a
  | _ => none
def eqLoc (big : Bool) : Option ALoc → Option ALoc → Option Bool
  | none, none => some true
  | none, some _ => some false
  | some _, none => some false
  | some a, some b => cnd (big && Nat.beq a.obj b.obj) (some (Nat.beq a.off b.off)) (none)
def isNilP : AV → Option Bool
  | .ptr none => some false
  | _ => none
def eqPtr (big : Bool) (x y : AV) : Option Bool :=
  ocase (cptrOf x) (ocase (cptrOf y) (bnd (ptrO x) fun a => bnd (ptrO y) fun b => eqLoc big a b) fun _ => isNilP x) fun _ => isNilP y
/-- Is it the nil of its kind? (slices, maps, functions, interface values) -/
def isNil : AV → Option Bool
  | .slice none _ _ => some true
  | .slice (some _) _ _ => some false
  | .lst _ n _ pf => cnd (Nat.beq n 0) (cnd pf none (some false)) (some false)
  | .map none => some true
  | .map (some _) => some false
  | .nilFunc => some true
  | .func _ _ _ => some false
  | .nilIface => some true
  | .iface _ _ => some false
  | _ => none
/-- Two of one kind, one of which is nil. -/
def eqNil (x y : AV) : Option Bool := bnd (isNil x) fun a => bnd (isNil y) fun b => cnd (a) (some b) (cnd (b) (some false) (none))

def isSliceV : AV → Bool
  | .slice _ _ _ => true
  | .lst _ _ _ _ => true
  | _ => false
def isMapV : AV → Bool
  | .map _ => true
  | _ => false
def isFuncV : AV → Bool
  | .func _ _ _ => true
  | .nilFunc => true
  | _ => false
def isIfaceV : AV → Bool
  | .iface _ _ => true
  | .nilIface => true
  | _ => false
def eqNilOf (is : AV → Bool) (x y : AV) : Option Bool := cnd (is x && is y) (eqNil x y) (none)

mutual
def eqF (P : Program) : (fuel : Nat) → TypeId → EqF
  | 0, _ => ⟨fun _ _ => none⟩
  | f + 1, t =>
    match undOf P t with
    | some .bool => ⟨eqBool⟩
    | some (.int _) => ⟨eqInt⟩
    | some .string => ⟨eqStr⟩
    | some (.pointer e) => match szOf P e with
      | some (_ + 1) => ⟨eqPtr true⟩
      | _ => ⟨eqPtr false⟩
    | some (.interface _) => ⟨eqNilOf isIfaceV⟩
    | some (.slice _) => ⟨eqNilOf isSliceV⟩
    | some (.map _ _) => ⟨eqNilOf isMapV⟩
    | some (.func _ _ _) => ⟨eqNilOf isFuncV⟩
    | some (.struct fs) => cnd (P.stoodInHeld t) (⟨fun _ _ => none⟩) (⟨fun x y => bnd (aggCells x) fun a => bnd (aggCells y) fun b => (eqFieldsF P f fs.toList).run (.agg a) (.agg b)⟩)
    | _ => ⟨fun _ _ => none⟩
def eqFieldsF (P : Program) : (fuel : Nat) → List Field → EqF
  | 0, _ => ⟨fun _ _ => none⟩
  | _ + 1, [] => ⟨fun _ _ => some true⟩
  | f + 1, d :: r =>
    if d.name = "_" then ⟨fun _ _ => none⟩ else
    ⟨fun x y => bnd ((partF P d.type d.offset).run x.cells) fun a => bnd ((partF P d.type d.offset).run y.cells) fun b =>
      bnd ((eqF P f d.type).run a b) fun t => cnd (t) ((eqFieldsF P f r).run x y) (some false)⟩
end

/-- A binary operation. -/
structure BinF where
  run : AV → AV → Option AV

def isConst : Operand → Bool
  | .const _ => true
  | _ => false

def eqlF (f : EqF) : BinF := ⟨fun x y => bnd (f.run x y) fun b => some (.bool b)⟩
def neqF (f : EqF) : BinF := ⟨fun x y => bnd (f.run x y) fun b => some (.bool (!b))⟩
/-- Two nil interface values are compared where one of them is written 'nil' alone. -/
def ifaceOk (lit : Bool) (f : EqF) : EqF := ⟨fun x y => cnd (lit) (f.run x y) (bnd (isNil x) fun a => bnd (isNil y) fun b => cnd (a && b) (none) (f.run x y))⟩

def cmpF (P : Program) (t : TypeId) (lit : Bool) : EqF :=
  match undOf P t with
  | some (.interface _) => ifaceOk lit (eqF P 40 t)
  | some (.struct _) => cnd (P.eqGuardType P.depth t) (⟨fun _ _ => none⟩) (eqF P 40 t)
  | some (.array _ _) => ⟨fun _ _ => none⟩
  | _ => eqF P 40 t

def binF (P : Program) (op : BinOp) (t : TypeId) (lit : Bool) : BinF :=
  match undOf P t with
  | some (.int _) => match op with
    | .shl => ⟨intShift shlV⟩
    | .shr => ⟨intShift shrV⟩
    | op => ⟨intBin (intF op)⟩
  | some .string => ⟨strBin (strF op)⟩
  | some _ => match op with
    | .eql => eqlF (cmpF P t lit)
    | .neq => neqF (cmpF P t lit)
    | _ => ⟨fun _ _ => none⟩
  | none => ⟨fun _ _ => none⟩

structure UnF where
  run : AV → Option AV
def unF : UnOp → UnF
  | .neg => ⟨fun x => bnd (intOf x) fun a => some (.int a.1 (wrapF a.1 (0 - a.2)))⟩
  | .not => ⟨fun x => bnd (boolOf x) fun b => some (.bool (!b))⟩
  | .xor => ⟨fun x => bnd (intOf x) fun a =>
      some (.int a.1 (wrapF a.1 ((BitVec.ofInt a.1.bits (if a.1.signed then -1 else a.1.max) ^^^ BitVec.ofInt a.1.bits a.2).toNat)))⟩
  | _ => ⟨fun _ => none⟩

def byteCells (s : List UInt8) : List AV := lrec [] (fun b _ ih => .int .u8 (.ofNat b.toNat) :: ih) s

def byteOf : AV → Option UInt8
  | .int .u8 (.ofNat n) => cnd (Nat.ble n 255) (some (UInt8.ofNat n)) (none)
  | _ => none
def bytesOfCells (l : List AV) : Option (List UInt8) := lrec (some []) (fun a _ ih => bnd (byteOf a) fun b => bnd ih fun l => some (b :: l)) l

/-- Parts laid into cells; each at its place, of its size. -/
def fillV (place : Nat → Option (Nat × Nat)) (cells : List AV) (ps : List (Nat × AV)) : Option (List AV) :=
  lrec (fun cs => some cs) (fun x _ ih cs => bnd (place x.1) fun p =>
    cnd (Nat.beq (lenA x.2.cells) p.2 && allA AV.scalar x.2.cells && Nat.ble (Nat.add p.1 p.2) (lenA cs)) (bnd (over cs p.1 x.2.cells) ih) none) ps cells

def fieldPlaces (P : Program) : List Field → Option (List (Nat × Nat))
  | [] => some []
  | f :: r => bnd (szOf P f.type) fun s => bnd (fieldPlaces P r) fun l => some ((f.offset, s) :: l)

def pairAt (l : List (Nat × Nat)) (n : Nat) : Option (Nat × Nat) :=
  nrec (fun l => lcase l none fun a _ => some a) (fun _ ih l => lcase l none fun _ r => ih r) n l

structure BuildF where
  run : List (Nat × AV) → Option AV
def buildF (P : Program) (t : TypeId) : BuildF :=
  match zeroCells P t with
  | some z => match undOf P t with
    | some (.struct fs) => match fieldPlaces P fs.toList with
      | some pl => ⟨fun ps => bnd (fillV (pairAt pl) z ps) fun l => some (.agg l)⟩
      | none => ⟨fun _ => none⟩
    | some (.array _ e) => match szOf P e with
      | some s => ⟨fun ps => bnd (fillV (fun i => some (i * s, s)) z ps) fun l => some (.agg l)⟩
      | none => ⟨fun _ => none⟩
    | _ => ⟨fun _ => none⟩
  | none => ⟨fun _ => none⟩

/-- The field's offset, where it has cells. -/
def fieldAt (P : Program) (s : TypeId) (i : Nat) : Option Field :=
  match undOf P s with
  | some (.struct fs) => fs.toList[i]?
  | _ => none
def fieldOff (P : Program) (s : TypeId) (i : Nat) : Option Nat :=
  bnd (fieldAt P s i) fun f => bnd (szOf P f.type) fun n => match n with
    | 0 => none
    | _ + 1 => some f.offset
def fieldAddrV (off : Option Nat) (x : AV) : Option AV :=
  bnd off fun n => ocase (cptrOf x) (bnd (ptrOf x) fun a => some (.ptr (some ⟨a.obj, Nat.add a.off n⟩))) fun c => some (.cptr c.1 (Nat.add c.2 n))
def fieldF (P : Program) (t : TypeId) (i : Nat) : PartF :=
  match fieldAt P t i with
  | some f => partF P f.type f.offset
  | none => ⟨fun _ => none⟩
def fieldV (f : PartF) (x : AV) : Option AV := bnd (aggCells x) fun cs => f.run cs

structure Idx where
  run : AV → AV → Option AV
def sliceOf : AV → Option (Option ALoc × Nat × ACap)
  | .slice a n c => some (a, n, c)
  | _ => none
def placeV (a : ALoc) (s n : Nat) (ix : Int) : Option AV :=
  bnd (natI ix) fun i => cnd (Nat.ble (Nat.succ i) n) (some (.ptr (some ⟨a.obj, Nat.add a.off (Nat.mul i s)⟩))) (none)
def lstOf : AV → Option (List AV × Nat × Bool × Bool)
  | .lst cs n f p => some (cs, n, f, p)
  | _ => none
def placeC (cs : List AV) (o s n : Nat) (ix : Int) : Option AV :=
  bnd (natI ix) fun i => cnd (Nat.ble (Nat.succ i) n) (some (.cptr cs (Nat.add o (Nat.mul i s)))) (none)
def arrAddr (s n : Nat) (x : AV) (i : Int) : Option AV := ocase (cptrOf x) (bnd (ptrOf x) fun a => placeV a s n i) fun c => placeC c.1 c.2 s n i
def slcAddr (s : Nat) (x : AV) (i : Int) : Option AV := ocase (lstOf x) (bnd (sliceOf x) fun b => bnd b.1 fun a => placeV a s b.2.1 i) fun l => placeC l.1 0 s l.2.1 i
def indexAddrF (P : Program) (t : TypeId) : Idx :=
  match undOf P t with
  | some (.array n e) => match szOf P e with
    | some s => ⟨fun x ix => bnd (intOf ix) fun i => arrAddr s n x i.2⟩
    | none => ⟨fun _ _ => none⟩
  | some (.slice e) => match szOf P e with
    | some s => ⟨fun x ix => bnd (intOf ix) fun i => slcAddr s x i.2⟩
    | none => ⟨fun _ _ => none⟩
  | _ => ⟨fun _ _ => none⟩

def byteAt (l : List UInt8) (n : Nat) : Option UInt8 :=
  nrec (fun l => lcase l none fun a _ => some a) (fun _ ih l => lcase l none fun _ r => ih r) n l
def indexF (P : Program) (t : TypeId) : Idx :=
  match undOf P t with
  | some (.array n e) => match szOf P e with
    | some s => ⟨fun x ix => bnd (intOf ix) fun i => bnd (aggCells x) fun cs => bnd (natI i.2) fun k =>
        cnd (Nat.blt k n) ((partF P e (k * s)).run cs) (none)⟩
    | none => ⟨fun _ _ => none⟩
  | some .string => ⟨fun x ix => bnd (intOf ix) fun i => bnd (strOf x) fun l => bnd (natI i.2) fun k => bnd (byteAt l k) fun b => some (.int .u8 (.ofNat b.toNat))⟩
  | _ => ⟨fun _ _ => none⟩

/-! ### slices -/
def natOr (dflt : Nat) : Option AV → Option Nat
  | none => some dflt
  | some v => bnd (intOf v) fun i => natI i.2

/-- How many elements from a place on (d elements behind the object's beginning) are known to be there, at least. -/
def known (h : AHeap) (a : ALoc) (size d len : Nat) : Nat :=
  ocase (rowAt h a.obj) len fun r =>
    cnd (Nat.beq r.esz size && Nat.beq a.off (d * size)) (Nat.max len (Nat.div (lenA r.cells - a.off) size)) len

/-- A capacity is given together with a high bound alone. -/
def bothOk (hi mx : Option AV) : Option Unit := ocase mx (some ()) fun _ => ocase hi none fun _ => some ()

/-- Slice bounds: low to high, the capacity m not above c. -/
def cut (lo hi mx : Option AV) (len c : Nat) (mdflt : Nat) : Option (Nat × Nat × Nat) :=
  bnd (bothOk hi mx) fun _ => bnd (natOr mdflt mx) fun m => bnd (natOr len hi) fun e => bnd (natOr 0 lo) fun b =>
    cnd (Nat.ble b e && Nat.ble e m && Nat.ble m c) (some (b, e, m)) (none)

def sliceCap (s : Nat) (h : AHeap) (a : ALoc) (len : Nat) (lo hi mx : Option AV) (c : ACap) : Option AV :=
  match c with
  | .exact c => bnd (cut lo hi mx len c c) fun r => some (.slice (some ⟨a.obj, a.off + r.1 * s⟩) (r.2.1 - r.1) (.exact (r.2.2 - r.1)))
  | .op d => bnd (cut lo hi mx len (known h a s d len) (known h a s d len)) fun r =>
      some (.slice (some ⟨a.obj, a.off + r.1 * s⟩) (r.2.1 - r.1) (ocase mx (.op (d + r.1)) fun _ => .exact (r.2.2 - r.1)))
/-- A part of a slice that nobody writes: within its length. -/
def cutLst (s : Nat) (cs : List AV) (n : Nat) (full pf : Bool) (lo hi mx : Option AV) : Option AV :=
  bnd (cut lo hi mx n n n) fun r => bnd (slots cs (r.1 * s) ((r.2.1 - r.1) * s)) fun l =>
    some (.lst l (r.2.1 - r.1) (ocase mx (full && Nat.beq r.2.1 n) fun _ => Nat.beq r.2.1 r.2.2) pf)
def sliceSlice (s : Nat) (h : AHeap) (x : AV) (lo hi mx : Option AV) : Option AV :=
  ocase (lstOf x) (bnd (sliceOf x) fun v => ocase v.1 (bnd (cut lo hi mx 0 0 0) fun _ => some (.slice none 0 (.exact 0))) fun a => sliceCap s h a v.2.1 lo hi mx v.2.2)
    fun l => cutLst s l.1 l.2.1 l.2.2.1 l.2.2.2 lo hi mx

def takeB (l : List UInt8) (n : Nat) : List UInt8 := nrec (fun _ => []) (fun _ ih l => lcase l [] fun a r => a :: ih r) n l
def dropB (l : List UInt8) (n : Nat) : List UInt8 := nrec (fun l => l) (fun _ ih l => lcase l [] fun _ r => ih r) n l
def sliceStr (x : AV) (lo hi mx : Option AV) : Option AV :=
  match mx with
  | some _ => none
  | none => bnd (strOf x) fun s => bnd (cut lo hi none (lenA s) (lenA s) (lenA s)) fun r => some (.str (takeB (dropB s r.1) (r.2.1 - r.1)))
def sliceArr (n s : Nat) (x : AV) (lo hi mx : Option AV) : Option AV :=
  bnd (ptrOf x) fun a => bnd (cut lo hi mx n n n) fun r => some (.slice (some ⟨a.obj, a.off + r.1 * s⟩) (r.2.1 - r.1) (.exact (r.2.2 - r.1)))

structure SliceF where
  run : AHeap → AV → Option AV → Option AV → Option AV → Option AV
def sliceF (P : Program) (t : TypeId) : SliceF :=
  match undOf P t with
  | some .string => ⟨fun _ => sliceStr⟩
  | some (.slice e) => match szOf P e with
    | some (s + 1) => ⟨sliceSlice (s + 1)⟩
    | _ => ⟨fun _ _ _ _ _ => none⟩
  | some (.array n e) => match szOf P e with
    | some s => ⟨fun _ => sliceArr n s⟩
    | none => ⟨fun _ _ _ _ _ => none⟩
  | _ => ⟨fun _ _ _ _ _ => none⟩

def bigEl : Nat := 17592186044416
def bigBy : Nat := 4398046511104

structure MemF where
  run : AHeap → AV → Option (AV × AHeap)
def toBytes (e : TypeId) (h : AHeap) (x : AV) : Option (AV × AHeap) :=
  bnd (strOf x) fun s => cnd (Nat.ble (lenA s) bigBy) (some (.slice (some ⟨h.next, 0⟩) (lenA s) (.op 0), h.push (.row e 1 false (byteCells s)))) (none)
def toStr (h : AHeap) (x : AV) : Option (AV × AHeap) :=
  ocase (lstOf x) (bnd (sliceOf x) fun v => cnd (Nat.beq v.2.1 0) (some (.str [], h)) (bnd v.1 fun a => bnd (readRow h a v.2.1) fun cs => bnd (bytesOfCells cs) fun l => some (.str l, h)))
    fun v => bnd (takeN v.2.1 v.1) fun cs => bnd (bytesOfCells cs) fun l => some (.str l, h)
def isByte (P : Program) (e : TypeId) : Bool :=
  match undOf P e with
  | some (.int .u8) => true
  | _ => false
def isOne (n : Option Nat) : Bool := ocase n false fun n => Nat.beq n 1
def convF (P : Program) (src dst : TypeId) : MemF :=
  match undOf P dst with
  | some (.int k) => match undOf P src with
    | some (.int _) => ⟨fun h x => bnd (intOf x) fun i => some (.int k (wrapF k i.2), h)⟩
    | _ => ⟨fun _ _ => none⟩
  | some .string => match undOf P src with
    | some .string => ⟨fun h x => bnd (strOf x) fun s => some (.str s, h)⟩
    | some (.slice e) => cnd (isByte P e) (⟨toStr⟩) (⟨fun _ _ => none⟩)
    | _ => ⟨fun _ _ => none⟩
  | some (.slice e) => match undOf P src with
    | some .string => cnd (isByte P e && isOne (szOf P e)) (⟨toBytes e⟩) (⟨fun _ _ => none⟩)
    | _ => ⟨fun _ _ => none⟩
  | _ => ⟨fun _ _ => none⟩

structure Mem2F where
  run : AHeap → AV → AV → Option (AV × AHeap)
def makeSliceV (e : TypeId) (b s : Nat) (z : List AV) (h : AHeap) (len cap : AV) : Option (AV × AHeap) :=
  bnd (intOf len) fun i => bnd (intOf cap) fun j => bnd (natI i.2) fun l => bnd (natI j.2) fun c =>
    cnd (Nat.ble l c && Nat.ble (b * c) bigBy && Nat.ble c bigBy) (some (.slice (some ⟨h.next, 0⟩) l (.exact c), h.push (.row e s false (repl c z)))) (none)
def makeSliceF (P : Program) (t : TypeId) : Mem2F :=
  match undOf P t with
  | some (.slice e) => match bytesOf P e with
    | some b => match szOf P e with
      | some s => match zeroCells P e with
        | some z => ⟨makeSliceV e b s z⟩
        | none => ⟨fun _ _ _ => none⟩
      | none => ⟨fun _ _ _ => none⟩
    | none => ⟨fun _ _ _ => none⟩
  | _ => ⟨fun _ _ _ => none⟩

structure BuildSF where
  run : AHeap → List (Nat × AV) → Option (AV × AHeap)
def buildSliceF (P : Program) (t : TypeId) (len : Nat) : BuildSF :=
  match undOf P t with
  | some (.slice e) => match szOf P e with
    | some s => match zeroCells P e with
      | some z => cnd (Nat.ble (len * s) 65536) (⟨fun h ps => bnd (fillV (fun i => some (i * s, s)) (repl len z) ps) fun cs =>
            some (.slice (some ⟨h.next, 0⟩) len (.exact len), h.push (.row e s false cs))⟩) (⟨fun _ _ => none⟩)
      | none => ⟨fun _ _ => none⟩
    | none => ⟨fun _ _ => none⟩
  | _ => ⟨fun _ _ => none⟩

/-- The first n elements (n at most its length) of a slice or a string. -/
def firstV (h : AHeap) (size n : Nat) : AV → Option (List AV)
  | .slice a _ _ => cnd (Nat.beq n 0) (some []) (bnd a fun a => readRow h a (n * size))
  | .str s => cnd (Nat.beq size 1) (some (byteCells (takeB s n))) none
  | .lst cs _ _ _ => takeN (n * size) cs
  | _ => none

def lenV : AV → Option Nat
  | .slice _ n _ => some n
  | .lst _ n _ _ => some n
  | .str s => some (lenA s)
  | _ => none

/-- What is appended: how many elements, and their cells. -/
structure NewF where
  run : AHeap → AV → Option (Nat × List AV)
def newOf (size : Nat) (h : AHeap) (x : AV) : Option (Nat × List AV) :=
  bnd (lenV x) fun n => bnd (firstV h size n x) fun cs => some (n, cs)
def newZeros (bytes : Nat) (z : List AV) (x : AV) : Option (Nat × List AV) :=
  bnd (intOf x) fun i => cnd (sameKind i.1 .i64) (bnd (natI i.2) fun n => cnd (Nat.ble (n * bytes) bigBy && Nat.ble n bigBy) (some (n, repl n z)) (none)) (none)
def newF (P : Program) (e size bytes : Nat) (t : Option TypeId) : NewF :=
  match t with
  | none => ⟨newOf size⟩
  | some t => match undOf P t with
    | some (.int _) => match zeroCells P e with
      | some z => ⟨fun _ => newZeros bytes z⟩
      | none => ⟨fun _ _ => none⟩
    | some _ => ⟨newOf size⟩
    | none => ⟨fun _ _ => none⟩

def growNew (e size bytes : Nat) (h : AHeap) (n : Nat) (cells : List AV) : Option (AV × AHeap) :=
  cnd (Nat.ble (n * bytes) bigBy && Nat.ble n bigBy) (some (.slice (some ⟨h.next, 0⟩) n (.op 0), h.push (.row e size false cells))) (none)

def appendExact (e size bytes : Nat) (h : AHeap) (a : ALoc) (len c n : Nat) (new : List AV) : Option (AV × AHeap) :=
  cnd (Nat.ble (len + n) c)
    (bnd (writeRow h ⟨a.obj, a.off + len * size⟩ new) fun h' => some (.slice (some a) (len + n) (.exact c), h'))
    (bnd (firstV h size len (.slice (some a) len (.exact c))) fun old => growNew e size bytes h (len + n) (app old new))
def appendOpen (e size bytes : Nat) (h : AHeap) (a : ALoc) (len d n : Nat) (new : List AV) : Option (AV × AHeap) :=
  bnd (rowAt h a.obj) fun r =>
    cnd (Nat.beq r.elem e && Nat.beq r.esz size && Nat.beq a.off (d * size) && !r.froz && allA AV.scalar new)
      (cnd (Nat.ble (a.off + (len + n) * size) (lenA r.cells))
        (bnd (writeRow h ⟨a.obj, a.off + len * size⟩ new) fun h' => some (.slice (some a) (len + n) (.op d), h'))
        (bnd (slots r.cells a.off (len * size)) fun old => growNew e size bytes (h.del a.obj) (len + n) (app old new)))
      none
def appendCap (e size bytes : Nat) (h : AHeap) (a : ALoc) (len : Nat) (c : ACap) (n : Nat) (new : List AV) : Option (AV × AHeap) :=
  match c with
  | .exact c => appendExact e size bytes h a len c n new
  | .op d => appendOpen e size bytes h a len d n new
def appendLst (e size bytes : Nat) (h : AHeap) (cs : List AV) (m : Nat) (full : Bool) (n : Nat) (new : List AV) : Option (AV × AHeap) :=
  cnd full (bnd (takeN (m * size) cs) fun old => growNew e size bytes h (m + n) (app old new)) none
def appendTo (e size bytes : Nat) (h : AHeap) (s : AV) (n : Nat) (new : List AV) : Option (AV × AHeap) :=
  cnd (Nat.beq n 0) (some (s, h))
    (ocase (lstOf s) (bnd (sliceOf s) fun v => ocase v.1 (growNew e size bytes h n new) fun a => appendCap e size bytes h a v.2.1 v.2.2 n new)
      fun v => appendLst e size bytes h v.1 v.2.1 v.2.2.1 n new)

def appendF (P : Program) (tys : List TypeId) : Mem2F :=
  match tys with
  | sT :: rest => match undOf P sT with
    | some (.slice e) => match szOf P e with
      | some (k + 1) => match bytesOf P e with
        | some b => match zeroCells P e with
          | some _ => ⟨fun h s x => bnd ((newF P e (k + 1) b rest.head?).run h x) fun r => cnd (isSliceV s) (appendTo e (k + 1) b h s r.1 r.2) none⟩
          | none => ⟨fun _ _ _ => none⟩
        | none => ⟨fun _ _ _ => none⟩
      | _ => ⟨fun _ _ _ => none⟩
    | _ => ⟨fun _ _ _ => none⟩
  | [] => ⟨fun _ _ _ => none⟩

def copyV (size : Nat) (h : AHeap) (d x : AV) : Option (AV × AHeap) :=
  bnd (sliceOf d) fun v => bnd (lenV x) fun n =>
    let k := Nat.min n v.2.1
    cnd (Nat.beq k 0) (some (.int .i64 0, h)) (bnd v.1 fun a => bnd (firstV h size k x) fun cs => bnd (writeRow h a cs) fun h' => some (.int .i64 (.ofNat k), h'))
def copyF (P : Program) (tys : List TypeId) : Mem2F :=
  match tys with
  | dT :: _ => match undOf P dT with
    | some (.slice e) => match szOf P e with
      | some size => ⟨copyV size⟩
      | none => ⟨fun _ _ _ => none⟩
    | _ => ⟨fun _ _ _ => none⟩
  | [] => ⟨fun _ _ _ => none⟩

def clearV (z : List AV) (h : AHeap) (x : AV) : Option (AV × AHeap) :=
  bnd (sliceOf x) fun v => cnd (Nat.beq v.2.1 0) (some (.tuple [], h)) (bnd v.1 fun a => bnd (writeRow h a (repl v.2.1 z)) fun h' => some (.tuple [], h'))
def clearF (P : Program) (tys : List TypeId) : MemF :=
  match tys with
  | t :: _ => match undOf P t with
    | some (.slice e) => match zeroCells P e with
      | some z => ⟨clearV z⟩
      | none => ⟨fun _ _ => none⟩
    | _ => ⟨fun _ _ => none⟩
  | [] => ⟨fun _ _ => none⟩

def mapAt (h : AHeap) (r : Nat) : Option (List AEnt × Nat) :=
  match h.get r with
  | some (.map es c) => some (es, c)
  | _ => none
def chanAt (h : AHeap) (r : Nat) : Option (Nat × List AV × Nat × Nat) :=
  match h.get r with
  | some (.chan c b s k) => some (c, b, s, k)
  | _ => none
def mapRef : AV → Option (Option Nat)
  | .map r => some r
  | _ => none
def chanRef : AV → Option (Option Nat)
  | .chan r => some r
  | _ => none

def sliceLen : AV → Option Nat
  | .slice _ n _ => some n
  | .lst _ n _ _ => some n
  | _ => none
def lenF (P : Program) (tys : List TypeId) : LoadF :=
  match tys with
  | t :: _ => match undOf P t with
    | some .string => ⟨fun _ x => bnd (strOf x) fun s => some (.int .i64 (.ofNat (lenA s)))⟩
    | some (.slice _) => ⟨fun _ x => bnd (sliceLen x) fun v => some (.int .i64 (.ofNat v))⟩
    | some (.array n _) => ⟨fun _ _ => some (.int .i64 (.ofNat n))⟩
    | some (.map _ _) => ⟨fun h x => bnd (mapRef x) fun r => match r with
      | none => some (.int .i64 0)
      | some r => bnd (mapAt h r) fun m => some (.int .i64 (.ofNat (lenA m.1)))⟩
    | some (.chan _ _) => ⟨fun h x => bnd (chanRef x) fun r => match r with
      | none => some (.int .i64 0)
      | some r => bnd (chanAt h r) fun c => some (.int .i64 (.ofNat (lenA c.2.1)))⟩
    | _ => ⟨fun _ _ => none⟩
  | [] => ⟨fun _ _ => none⟩

def exactCap : ACap → Option Nat
  | .exact n => some n
  | .op _ => none
def sliceCapOf : AV → Option Nat
  | .slice _ _ c => exactCap c
  | .lst _ n f _ => cnd f (some n) none
  | _ => none
def capF (P : Program) (tys : List TypeId) : LoadF :=
  match tys with
  | t :: _ => match undOf P t with
    | some (.slice _) => ⟨fun _ x => bnd (sliceCapOf x) fun n => some (.int .i64 (.ofNat n))⟩
    | _ => ⟨fun _ _ => none⟩
  | [] => ⟨fun _ _ => none⟩

def minmax (mx : Bool) (x : AV) (l : List AV) : Option AV :=
  lrec (fun v => some v) (fun y _ ih x => bnd (intOf x) fun a => bnd (intOf y) fun b =>
    ih (.int a.1 (cnd mx (cnd (ltI a.2 b.2) b.2 a.2) (cnd (ltI b.2 a.2) b.2 a.2)))) l x

def nilCheckV (x : AV) : Option AV :=
  match x with
  | .ptr none => none
  | .nilIface => none
  | .nilFunc => none
  | .func fn _ _ => match fn with
    | .method _ => none
    | _ => some x
  | _ => some x

def avAt : List AV → Nat → Option AV := cellAt
def extractV (i : Nat) (x : AV) : Option AV :=
  match x with
  | .tuple vs => cellAt vs i
  | _ => none

end
end Go.Proofs.YtonojkcnencodaaDoor.BH
