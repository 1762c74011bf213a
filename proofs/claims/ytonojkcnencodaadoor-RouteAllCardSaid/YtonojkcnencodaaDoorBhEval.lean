/-
  BH: the evaluator: operations. Definitions alone.
-/
import Derived.Test.YtonojkcnencodaaDoorBhDef
import GoSem.Core.Region
namespace Go.Proofs.YtonojkcnencodaaDoor.BH
noncomputable section

/-! ### maps -/
def plainCell : AV → Bool
  | .str _ => true
  | .int _ _ => true
  | .bool _ => true
  | _ => false
def samePlain (a b : AV) : Bool :=
  match a with
  | .str x => match b with
    | .str y => same x y
    | _ => false
  | .int j x => match b with
    | .int k y => sameKind j k && eqI x y
    | _ => false
  | .bool x => match b with
    | .bool y => x == y
    | _ => false
  | _ => false
def samePlains (a b : List AV) : Bool :=
  lrec (fun y => lcase y true fun _ _ => false) (fun a _ ih y => lcase y false fun b r => cnd (samePlain a b) (ih r) false) a b
/-- The same key, to the bit? (strings, numbers, truths, and structs of these) -/
def sameKey (a b : AV) : Bool :=
  match a with
  | .agg x => match b with
    | .agg y => samePlains x y
    | _ => false
  | a => samePlain a b

/-- A type whose values are told apart at once. -/
def plainTy (P : Program) (t : TypeId) : Bool :=
  match undOf P t with
  | some .string => true
  | some (.int _) => true
  | some .bool => true
  | _ => false
structure KeyF where
  ok : AV → Bool
  eq : AV → AV → Option Bool
def KeyF.no : KeyF := ⟨fun _ => false, fun _ _ => none⟩
def partsOk (l : List PartF) (cs : List AV) : Bool := lrec true (fun p _ ih => ocase (p.run cs) false fun _ => ih) l
def keyParts (P : Program) : List Field → Option (List PartF)
  | [] => some []
  | f :: r => if plainTy P f.type = true then bnd (keyParts P r) fun l => some (partF P f.type f.offset :: l) else none
def keyF (P : Program) (t : TypeId) : KeyF :=
  if plainTy P t = true then ⟨fun _ => true, (eqF P 40 t).run⟩ else
  match undOf P t with
  | some (.struct fs) => match keyParts P fs.toList with
    | some ps => ⟨fun k => ocase (aggCells k) false fun cs => partsOk ps cs, (eqF P 40 t).run⟩
    | none => .no
  | _ => .no

/-- Where a key stands. -/
def findV (eq : AV → AV → Option Bool) (k : AV) (es : List AEnt) : Nat → Option (Option (Nat × AEnt)) :=
  lrec (fun _ => some none) (fun e _ ih i => bnd (eq k e.key) fun b => cnd b (some (some (i, e))) (ih (Nat.succ i))) es
def setEnt (es : List AEnt) (i : Nat) (x : AEnt) : List AEnt :=
  nrec (fun l => lcase l [] fun _ r => x :: r) (fun _ ih l => lcase l [] fun a r => a :: ih r) i es
def delEnt (es : List AEnt) (i : Nat) : List AEnt :=
  nrec (fun l => lcase l [] fun _ r => r) (fun _ ih l => lcase l [] fun a r => a :: ih r) i es
def addEnt (es : List AEnt) (x : AEnt) : List AEnt := lrec [x] (fun a _ ih => a :: ih) es
def entsOf (h : AHeap) (m : AV) : Option (List AEnt) := bnd (mapRef m) fun r => ocase r (some []) fun r => bnd (mapAt h r) fun x => some x.1

structure LookF where
  run : AHeap → AV → AV → Option AV
def okV (ok : Bool) (v : AV) (b : Bool) : AV := cnd ok (.tuple [v, .bool b]) v
def lookupF (P : Program) (t : TypeId) (ok : Bool) : LookF :=
  match undOf P t with
  | some (.map kt et) => match zeroOf P et with
    | some z => ⟨fun h m k => cnd ((keyF P kt).ok k) (bnd (entsOf h m) fun es => bnd (findV (keyF P kt).eq k es 0) fun r => some (ocase r (okV ok z false) fun e => okV ok e.2.val true)) none⟩
    | none => ⟨fun _ _ _ => none⟩
  | _ => ⟨fun _ _ _ => none⟩

structure UpdF where
  run : AHeap → AV → AV → AV → Option AHeap
def mapUpdateF (P : Program) (t : TypeId) : UpdF :=
  match undOf P t with
  | some (.map kt _) => ⟨fun h m k v => cnd ((keyF P kt).ok k) (bnd (mapRef m) fun r => bnd r fun r => bnd (mapAt h r) fun x => bnd (findV (keyF P kt).eq k x.1 0) fun f =>
      ocase f (some (h.set r (.map (addEnt x.1 ⟨k, v, x.2⟩) (Nat.succ x.2)))) fun e => cnd (sameKey e.2.key k) (some (h.set r (.map (setEnt x.1 e.1 ⟨k, v, e.2.born⟩) x.2))) none) none⟩
  | _ => ⟨fun _ _ _ _ => none⟩

structure Mem2M where
  run : AHeap → AV → AV → Option (AV × AHeap)
def mapEntryF (P : Program) (t : TypeId) : Mem2M :=
  match undOf P t with
  | some (.map kt et) => match zeroOf P et with
    | some z => ⟨fun h m k => cnd ((keyF P kt).ok k) (bnd (mapRef m) fun r => bnd r fun r => bnd (mapAt h r) fun x => bnd (findV (keyF P kt).eq k x.1 0) fun f =>
      ocase f (some (.tuple [z, .int .i64 (.ofNat x.2)], h.set r (.map (addEnt x.1 ⟨k, z, x.2⟩) (Nat.succ x.2))))
        fun e => cnd (sameKey e.2.key k) (some (.tuple [e.2.val, .int .i64 (.ofNat e.2.born)], h.set r (.map (setEnt x.1 e.1 ⟨k, e.2.val, e.2.born⟩) x.2))) none) none⟩
    | none => ⟨fun _ _ _ => none⟩
  | _ => ⟨fun _ _ _ => none⟩
/-- The entry that was born at a time. -/
def bornAt (b : Nat) (es : List AEnt) : Nat → Option (Nat × AEnt) :=
  lrec (fun _ => none) (fun e _ ih i => cnd (Nat.beq e.born b) (some (i, e)) (ih (Nat.succ i))) es
def entryStoreV (h : AHeap) (m s v : AV) : Option AHeap :=
  bnd (mapRef m) fun r => bnd r fun r => bnd (mapAt h r) fun x => bnd (intOf s) fun i => bnd (natI i.2) fun b => bnd (bornAt b x.1 0) fun e =>
    some (h.set r (.map (setEnt x.1 e.1 ⟨e.2.key, v, e.2.born⟩) x.2))
def deleteF (P : Program) (t : TypeId) : Mem2M :=
  match undOf P t with
  | some (.map kt _) => ⟨fun h m k => cnd ((keyF P kt).ok k) (bnd (mapRef m) fun r => ocase r (some (.tuple [], h)) fun r => bnd (mapAt h r) fun x => bnd (findV (keyF P kt).eq k x.1 0) fun f =>
      ocase f (some (.tuple [], h)) fun e => some (.tuple [], h.set r (.map (delEnt x.1 e.1) x.2))) none⟩
  | _ => ⟨fun _ _ _ => none⟩

/-! ### one operation that calls nothing: each a closure of its own (what hangs on the text alone is reckoned once) -/
structure OpF where
  run : Env → AHeap → Option (AV × AHeap)

def OpF.no : OpF := ⟨fun _ _ => none⟩

/-- A value that is known of one operand. -/
def pure1 (x : Operand) (f : AV → Option AV) : OpF :=
  ⟨fun e h => bnd (opv e x) fun a => bnd (f a) fun v => some (v, h)⟩
def pure2 (x y : Operand) (f : AV → AV → Option AV) : OpF :=
  ⟨fun e h => bnd (opv e x) fun a => bnd (opv e y) fun b => bnd (f a b) fun v => some (v, h)⟩
def read1 (x : Operand) (f : AHeap → AV → Option AV) : OpF :=
  ⟨fun e h => bnd (opv e x) fun a => bnd (f h a) fun v => some (v, h)⟩
def read2 (x y : Operand) (f : AHeap → AV → AV → Option AV) : OpF :=
  ⟨fun e h => bnd (opv e x) fun a => bnd (opv e y) fun b => bnd (f h a b) fun v => some (v, h)⟩
def mem1 (x : Operand) (f : AHeap → AV → Option (AV × AHeap)) : OpF :=
  ⟨fun e h => bnd (opv e x) fun a => f h a⟩
def mem2 (x y : Operand) (f : AHeap → AV → AV → Option (AV × AHeap)) : OpF :=
  ⟨fun e h => bnd (opv e x) fun a => bnd (opv e y) fun b => f h a b⟩
def write2 (x y : Operand) (f : AHeap → AV → AV → Option AHeap) : OpF :=
  ⟨fun e h => bnd (opv e x) fun a => bnd (opv e y) fun b => bnd (f h a b) fun h' => some (.undef, h')⟩
def write3 (x y z : Operand) (f : AHeap → AV → AV → AV → Option AHeap) : OpF :=
  ⟨fun e h => bnd (opv e x) fun a => bnd (opv e y) fun b => bnd (opv e z) fun c => bnd (f h a b c) fun h' => some (.undef, h')⟩

def opPick (c a b : Operand) : OpF :=
  ⟨fun e h => bnd (opv e c) fun x => bnd (opv e a) fun y => bnd (opv e b) fun z => bnd (boolOf x) fun t => some (cnd (t) (y) (z), h)⟩
structure NewO where
  run : AHeap → Option (AV × AHeap)
def allocF (P : Program) (t : TypeId) : NewO :=
  match zeroCells P t with
  | some z => match szOf P t with
    | some n => ⟨fun h => some (newRowV h t n z)⟩
    | none => ⟨fun _ => none⟩
  | none => ⟨fun _ => none⟩
def boxV (P : Program) (t : TypeId) (h : AHeap) (v : AV) : Option (AV × AHeap) :=
  bnd (szOf P t) fun n => cnd (Nat.beq (lenA v.cells) n && allA AV.scalar v.cells) (some (newRowV h t n v.cells)) (none)
def opBuild (P : Program) (t : TypeId) (ps : List (Nat × Operand)) : OpF :=
  ⟨fun e h => bnd (parts e ps) fun l => bnd ((buildF P t).run l) fun v => some (v, h)⟩
def opBuildSlice (P : Program) (t : TypeId) (n : Nat) (ps : List (Nat × Operand)) : OpF :=
  ⟨fun e h => bnd (parts e ps) fun l => (buildSliceF P t n).run h l⟩
structure Un1 where
  run : AV → Option AV
def makeIfaceF (P : Program) (t : TypeId) : Un1 :=
  match undOf P t with
  | some (.interface _) => ⟨fun _ => none⟩
  | some _ => ⟨fun x => some (.iface t x)⟩
  | none => ⟨fun _ => none⟩
def opMakeFunc (fn : Fn) (first captured : List Operand) : OpF :=
  ⟨fun e h => bnd (opvs e first) fun a => bnd (opvs e captured) fun b => some (.func fn a b, h)⟩
def opMakeMap : OpF := ⟨fun _ h => some (.map (some h.next), h.push (.map [] 0))⟩
def opSlice (P : Program) (t : TypeId) (x : Operand) (lo hi mx : Option Operand) : OpF :=
  ⟨fun e h => bnd (opv e x) fun v => bnd (opvo e lo) fun l => bnd (opvo e hi) fun b => bnd (opvo e mx) fun m =>
    bnd ((sliceF P t).run h v l b m) fun v => some (v, h)⟩

structure BuiltF where
  run : AHeap → List AV → Option (AV × AHeap)
def built1 (f : MemF) : BuiltF := ⟨fun h l => match l with
  | [x] => f.run h x
  | _ => none⟩
def builtR (f : LoadF) : BuiltF := ⟨fun h l => match l with
  | [x] => bnd (f.run h x) fun v => some (v, h)
  | _ => none⟩
def built2 (f : Mem2F) : BuiltF := ⟨fun h l => match l with
  | [x, y] => f.run h x y
  | _ => none⟩
def builtM (mx : Bool) : BuiltF := ⟨fun h l => match l with
  | x :: r => bnd (minmax mx x r) fun v => some (v, h)
  | _ => none⟩
def builtinF (P : Program) (tys : List TypeId) : Builtin → BuiltF
  | .append => built2 (appendF P tys)
  | .copy => built2 (copyF P tys)
  | .clear => built1 (clearF P tys)
  | .len => builtR (lenF P tys)
  | .cap => builtR (capF P tys)
  | .min => builtM false
  | .max => builtM true
  | _ => ⟨fun _ _ => none⟩
def opBuiltin (f : BuiltF) (args : List Operand) : OpF := ⟨fun e h => bnd (opvs e args) fun l => f.run h l⟩
def opCallF (P : Program) (c : Call) : OpF :=
  match c.callee with
  | .builtin b => opBuiltin (builtinF P c.argTypes.toList b) c.args.toList
  | _ => .no

def opF (P : Program) : Op → OpF
  | .move x => pure1 x some
  | .assign x => pure1 x some
  | .pick c a b => opPick c a b
  | .alloc t => ⟨fun _ h => (allocF P t).run h⟩
  | .box t x => mem1 x (boxV P t)
  | .build t ps => opBuild P t ps.toList
  | .buildSlice t n ps => opBuildSlice P t n ps.toList
  | .load t a => read1 a (loadF P t).run
  | .store t a v => write2 a v (storeN (szOf P t))
  | .nilCheck x => pure1 x nilCheckV
  | .binOp op t x y _ => pure2 x y (binF P op t (isConst x || isConst y)).run
  | .unOp op _ x => pure1 x (unF op).run
  | .convert s d x => mem1 x (convF P s d).run
  | .makeInterface t x => pure1 x (makeIfaceF P t).run
  | .makeFunc fn first captured => opMakeFunc fn first.toList captured.toList
  | .makeSlice t l c => mem2 l c (makeSliceF P t).run
  | .slice t x lo hi mx => opSlice P t x lo hi mx
  | .fieldAddr s x i => pure1 x (fieldAddrV (fieldOff P s i))
  | .field t x i => pure1 x (fieldV (fieldF P t i))
  | .indexAddr t x i => pure2 x i (indexAddrF P t).run
  | .index t x i => pure2 x i (indexF P t).run
  | .extract x i => pure1 x (extractV i)
  | .call c => opCallF P c
  | _ => .no

def undefs (n : Nat) : List AV := nrec [] (fun _ ih => .undef :: ih) n

end
end Go.Proofs.YtonojkcnencodaaDoor.BH
