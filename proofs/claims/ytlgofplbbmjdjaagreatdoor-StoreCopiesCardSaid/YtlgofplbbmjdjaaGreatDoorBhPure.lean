/-
  BH: values that lead into no object; freezing; calls whose callee sees a heap of its own. Definitions alone.
-/
import Derived.Test.YtlgofplbbmjdjaaGreatDoorBhSteps
namespace Go.Proofs.YtlgofplbbmjdjaaGreatDoor.BH
noncomputable section

def notSome {α : Type} (o : Option α) : Bool := ocase o true fun _ => false

/-- Does a value lead into no object? (what lies in a frozen list leads into none) -/
def closedV (v : AV) : Bool :=
  AV.rec (motive_1 := fun _ => Bool) (motive_2 := fun _ => Bool) (fun _ => true) (fun _ _ => true) (fun _ => true) (fun a => notSome a) (fun _ _ _ => false) (fun r => notSome r) (fun r => notSome r)
    (fun _ _ _ i j => cnd i j false) true (fun _ _ i => i) true (fun _ i => i) (fun _ i => i) (fun _ n f _ _ => cnd f (cnd (Nat.beq n 0) false true) true) (fun _ _ _ => true) true (fun _ _ i j => cnd i j false) v
/-- .. and holds no pointer either? -/
def doneV (v : AV) : Bool :=
  AV.rec (motive_1 := fun _ => Bool) (motive_2 := fun _ => Bool) (fun _ => true) (fun _ _ => true) (fun _ => true) (fun a => notSome a) (fun _ _ _ => false) (fun r => notSome r) (fun r => notSome r)
    (fun _ _ _ i j => cnd i j false) true (fun _ _ i => i) true (fun _ i => i) (fun _ i => i) (fun _ n f pf _ => cnd pf (cnd f (cnd (Nat.beq n 0) false true) true) false) (fun _ _ _ => false) true (fun _ _ i j => cnd i j false) v
/-- .. nor a list? -/
def plainV (v : AV) : Bool :=
  AV.rec (motive_1 := fun _ => Bool) (motive_2 := fun _ => Bool) (fun _ => true) (fun _ _ => true) (fun _ => true) (fun a => notSome a) (fun _ _ _ => false) (fun r => notSome r) (fun r => notSome r)
    (fun _ _ _ i j => cnd i j false) true (fun _ _ i => i) true (fun _ i => i) (fun _ i => i) (fun _ _ _ _ _ => false) (fun _ _ _ => false) true (fun _ _ i j => cnd i j false) v

/-- A row that nobody writes any more. -/
def still (h : AHeap) (o : Nat) : Option AHeap :=
  bnd (rowAt h o) fun r => cnd r.froz (some h) (some (h.set o (.row r.elem r.esz true r.cells)))

def exactly (c : ACap) (n : Nat) : Bool :=
  match c with
  | .exact k => Nat.beq k n
  | .op _ => false

abbrev Fz := AV → AHeap → Option (AV × AHeap)

def frzL (f : Fz) (cs : List AV) (h : AHeap) : Option (List AV × AHeap) :=
  lrec (fun h => some ([], h)) (fun a _ ih h => bnd (f a h) fun x => bnd (ih x.2) fun y => some (x.1 :: y.1, y.2)) cs h
/-- The cells of a row, as values that lead into no object; do they hold no pointers? -/
def frzCells (f : Fz) (cs : List AV) (h : AHeap) : Option (List AV × AHeap × Bool) :=
  cnd (allA doneV cs) (some (cs, h, true)) (bnd (frzL f cs h) fun x => some (x.1, x.2, allA doneV x.1))

def frzSlice (f : Fz) (keep : Bool) (a : ALoc) (n : Nat) (_c : ACap) (h : AHeap) : Option (AV × AHeap) :=
  cnd (Nat.beq n 0) (some (.lst [] 0 false true, h))
    (bnd (rowAt h a.obj) fun r => bnd (slots r.cells a.off (n * r.esz)) fun cs => bnd (frzCells f cs h) fun x =>
      bnd (cnd keep (still x.2.1 a.obj) (some x.2.1)) fun h' => some (.lst x.1 n false x.2.2, h'))
def frzPtr (f : Fz) (a : ALoc) (h : AHeap) : Option (AV × AHeap) :=
  bnd (rowAt h a.obj) fun r => bnd (frzCells f r.cells h) fun x => some (.cptr x.1 a.off, x.2.1)

def frzStep (f : Fz) (keep : Bool) : Fz := fun v h =>
  match v with
  | .slice none _ _ => some (.lst [] 0 false true, h)
  | .slice (some a) n c => frzSlice f keep a n c h
  | .ptr (some a) => frzPtr f a h
  | .agg cs => bnd (frzL f cs h) fun x => some (.agg x.1, x.2)
  | .tuple cs => bnd (frzL f cs h) fun x => some (.tuple x.1, x.2)
  | .func fn a b => bnd (frzL f a h) fun x => bnd (frzL f b x.2) fun y => some (.func fn x.1 y.1, y.2)
  | .iface t v => bnd (f v h) fun x => some (.iface t x.1, x.2)
  | .lst _ n _ _ => cnd (Nat.beq n 0) (some (.lst [] 0 false true, h)) none
  | _ => none
/-- A value that leads into no object: slices are frozen for good (keep) or looked at, pointers are looked at. -/
def frz (keep : Bool) (fuel : Nat) : Fz :=
  nrec (fun _ _ => none) (fun _ ih v h => cnd (closedV v) (some (v, h)) (frzStep ih keep v h)) fuel

def deep : Nat := 12
def frzArgs (keep : Bool) (args : List AV) (h : AHeap) : Option (List AV × AHeap) :=
  cnd (allA closedV args) (some (args, h)) (frzL (frz keep deep) args h)

/-! ### a result, out of the callee's heap into the caller's -/
/-- Frozen. -/
def giveFrz (v : AV) (hc h : AHeap) : Option (AV × AHeap × AHeap) :=
  cnd (doneV v) (some (v, hc, h)) (bnd (frz true deep v hc) fun x => cnd (doneV x.1) (some (x.1, x.2, h)) none)
/-- A slice of a row that is nobody else's: the row goes over. -/
def giveOwn (a : ALoc) (n : Nat) (c : ACap) (r : ARow) (hc h : AHeap) : Option (AV × AHeap × AHeap) :=
  cnd r.froz none (bnd (frzCells (frz true deep) r.cells (hc.del a.obj)) fun x =>
    cnd x.2.2 (some (.slice (some ⟨h.next, a.off⟩) n c, x.2.1, h.push (.row r.elem r.esz false x.1))) none)
def giveV (own : Bool) (v : AV) (hc h : AHeap) : Option (AV × AHeap × AHeap) :=
  match v with
  | .slice none _ _ => cnd own (some (.lst [] 0 true true, hc, h)) (giveFrz v hc h)
  | .slice (some a) n c => cnd own (cnd (Nat.beq n 0) (some (.lst [] 0 (exactly c 0) true, hc, h)) (bnd (rowAt hc a.obj) fun r => cnd r.froz (giveFrz v hc h) (giveOwn a n c r hc h))) (giveFrz v hc h)
  | v => giveFrz v hc h
def giveL (own : Bool) (vs : List AV) (hc h : AHeap) : Option (List AV × AHeap × AHeap) :=
  lrec (fun hc h => some ([], hc, h)) (fun a _ ih hc h => bnd (giveV own a hc h) fun x => bnd (ih x.2.1 x.2.2) fun y => some (x.1 :: y.1, y.2.1, y.2.2)) vs hc h
def give (own : Bool) (v : AV) (hc h : AHeap) : Option (AV × AHeap × AHeap) :=
  match v with
  | .tuple vs => bnd (giveL own vs hc h) fun x => some (.tuple x.1, x.2.1, x.2.2)
  | v => giveV own v hc h

/-! ### kinds of calls -/
structure Kind where
  /-- the callee has a heap of its own -/
  pure : Bool
  /-- what it is handed is frozen for good; else it is looked at, and the result is plain -/
  keep : Bool
  /-- slices that it returns are the caller's -/
  own : Bool
  /-- the first argument points to an object that the callee may turn -/
  bor : Bool
  /-- an empty slice that may be nil: both are tried -/
  split : Bool

def AHeap.empty : AHeap := ⟨0, .leaf⟩

abbrev Body := List AV → AHeap → Option (AV × AHeap)

def callView (body : Body) (args : List AV) (h : AHeap) : Option (AV × AHeap) :=
  bnd (frzArgs false args h) fun a => bnd (body a.1 .empty) fun r => cnd (plainV r.1) (some (r.1, h)) none
def callKeep (own : Bool) (body : Body) (args : List AV) (h : AHeap) : Option (AV × AHeap) :=
  bnd (frzArgs true args h) fun a => bnd (body a.1 .empty) fun r => bnd (give own r.1 r.2 a.2) fun x => some (x.1, x.2.2)
/-- The callee's heap: the one object. -/
def lent (r : ARow) (cs : List AV) : AHeap := AHeap.empty.push (.row r.elem r.esz false cs)
def callLent (own : Bool) (body : Body) (o : Nat) (rest : List AV) (h : AHeap) (r : ARow) : Option (AV × AHeap) :=
  cnd r.froz none
    (bnd (frzCells (frz true deep) r.cells (h.del o)) fun x => bnd (frzArgs true rest x.2.1) fun a =>
      bnd (body (.ptr (some ⟨0, 0⟩) :: a.1) (lent r x.1)) fun q => bnd (rowAt q.2 0) fun r' => cnd r'.froz none
        (bnd (frzCells (frz true deep) r'.cells (q.2.del 0)) fun y => bnd (cnd y.2.2 (give own q.1 y.2.1 (a.2.set o (.row r'.elem r'.esz false y.1))) none) fun z => some (z.1, z.2.2)))
def callBor (own : Bool) (body : Body) (args : List AV) (h : AHeap) : Option (AV × AHeap) :=
  lcase args none fun p rest => bnd (ptrOf p) fun a => cnd (Nat.beq a.off 0) (bnd (rowAt h a.obj) fun r => callLent own body a.obj rest h r) none
def kindCall (k : Kind) (body : Body) (args : List AV) (h : AHeap) : Option (AV × AHeap) :=
  cnd k.pure (cnd k.bor (callBor k.own body args h) (cnd k.keep (callKeep k.own body args h) (callView body args h))) (body args h)

/-! An empty slice that may be nil, or not. -/
def isEmp : AV → Bool
  | .lst _ n _ pf => cnd (Nat.beq n 0) pf false
  | _ => false
def empNot : AV → AV
  | .lst _ _ f _ => .lst [] 0 f false
  | v => v
def alts (args : List AV) : List (List AV) :=
  lrec [[]] (fun a _ ih => cnd (isEmp a) (ih.map (fun l => .slice none 0 (.exact 0) :: l) ++ ih.map (fun l => empNot a :: l)) (ih.map fun l => a :: l)) args
def eqRes (a b : AV) : Bool :=
  match a, b with
  | .lst c n f p, .lst d m g q => lcase c (lcase d (Nat.beq n m && (f == g) && (p == q)) fun _ _ => false) fun _ _ => false
  | .int k x, .int l y => sameKind k l && eqI x y
  | .bool x, .bool y => x == y
  | .str x, .str y => same x y
  | _, _ => false
/-- A result that is plain, or an empty slice. -/
def emptyOf (v : AV) : Option AV :=
  match v with
  | .slice none _ _ => some (.lst [] 0 true true)
  | .slice (some _) n c => cnd (Nat.beq n 0) (some (.lst [] 0 (exactly c 0) true)) none
  | .lst _ n f _ => cnd (Nat.beq n 0) (some (.lst [] 0 f true)) none
  | v => cnd (plainV v) (some v) none
def viewE (body : Body) (args : List AV) (h : AHeap) : Option AV :=
  bnd (frzArgs false args h) fun a => bnd (body a.1 .empty) fun r => emptyOf r.1
/-- All ways come to the same. -/
def allSame (run : List AV → Option AV) (first : List AV) (rest : List (List AV)) : Option AV :=
  bnd (run first) fun x => cnd (lrec true (fun l _ ih => ocase (run l) false fun y => cnd (eqRes y x) ih false) rest) (some x) none
def splitCall (k : Kind) (body : Body) (args : List AV) (h : AHeap) : Option (AV × AHeap) :=
  lcase (alts args) none fun a r => lcase r (kindCall k body a h) fun _ _ => bnd (allSame (fun l => viewE body l h) a r) fun x => some (x, h)
def kindSplit (k : Kind) (body : Body) (args : List AV) (h : AHeap) : Option (AV × AHeap) := cnd k.split (splitCall k body args h) (kindCall k body args h)

structure Cfg where
  kind : FuncId → Kind
  sum : FuncId → Option ExtF

def callX (P : Program) (region : Array Oper → Bool → StepsF) (cfg : Cfg) (fuel : Nat) : CallV :=
  nrec (fun _ _ _ => none) (fun n ih f args h => ocase (cfg.sum f) (kindSplit (cfg.kind f) ((funF P region f).run ih (n + 1)) args h) fun s => s.run args h) fuel

end
end Go.Proofs.YtlgofplbbmjdjaaGreatDoor.BH
