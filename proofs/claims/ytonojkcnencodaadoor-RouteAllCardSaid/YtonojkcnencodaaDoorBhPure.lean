/-
  BH: the evaluator: regions, code, calls. Definitions alone.
-/
import Derived.Test.YtonojkcnencodaaDoorBhEval
section
namespace Go.Proofs.YtonojkcnencodaaDoor.BH
noncomputable section

/-! ### functions of the library that have no body -/
def cmpV (a b : List UInt8) : Int :=
  lrec (fun y => lcase y 0 fun _ _ => .negSucc 0)
    (fun a _ ih y => lcase y 1 fun b r => cnd (Nat.beq a.toNat b.toNat) (ih r) (cnd (Nat.blt a.toNat b.toNat) (.negSucc 0) 1)) a b

def indexByteV (c : Nat) (s : List UInt8) (i : Nat) : Int :=
  lrec (fun _ => .negSucc 0) (fun a _ ih i => cnd (Nat.beq a.toNat c) (.ofNat i) (ih (i + 1))) s i

structure ExtF where
  run : List AV → AHeap → Option (AV × AHeap)
def externF (name : String) : ExtF :=
  if name = "internal/bytealg.IndexByteString" then ⟨fun args h => match args with
    | [x, y] => bnd (strOf x) fun s => bnd (byteOf y) fun c => some (.int .i64 (indexByteV c.toNat s 0), h)
    | _ => none⟩
  else if name = "internal/bytealg.abigen_runtime_cmpstring" then ⟨fun args h => match args with
    | [x, y] => bnd (strOf x) fun a => bnd (strOf y) fun b => some (.int .i64 (cmpV a b), h)
    | _ => none⟩
  else if name = "internal/abi.NoEscape" then ⟨fun args h => match args with
    | [x] => some (x, h)
    | _ => none⟩
  else ⟨fun _ _ => none⟩

/-! ### regions -/
abbrev CallV := FuncId → List AV → AHeap → Option (AV × AHeap)

def callV (call : CallV) (f : AV) (args : List AV) (h : AHeap) : Option (AV × AHeap) :=
  match f with
  | .func fn first captured => match fn with
    | .func f => call f (app first (app args captured)) h
    | _ => none
  | _ => none

structure OperF where
  run : CallV → Env → AHeap → Option (AV × AHeap)

def operCall (f : Operand) (args : List Operand) : OperF :=
  ⟨fun call e h => bnd (opv e f) fun g => bnd (opvs e args) fun l => callV call g l h⟩
def operFunc (f : FuncId) (args : List Operand) : OperF :=
  ⟨fun call e h => bnd (opvs e args) fun l => call f l h⟩
def operOp (o : OpF) : OperF := ⟨fun _ e h => o.run e h⟩

def makeMapO (n : Option Operand) : OpF := ocase n opMakeMap fun _ => .no
def deleteO (P : Program) (tys : List TypeId) (args : List Operand) : OpF :=
  match tys with
  | t :: _ => match args with
    | [m, k] => mem2 m k (deleteF P t).run
    | _ => .no
  | [] => .no
def operCallF (P : Program) (c : Call) : OperF :=
  match c.callee with
  | .value (.func f) => operFunc f c.args.toList
  | .value f => operCall f c.args.toList
  | .builtin b => match b with
    | .delete => operOp (deleteO P c.argTypes.toList c.args.toList)
    | b => operOp (opBuiltin (builtinF P c.argTypes.toList b) c.args.toList)
  | .invoke _ _ => ⟨fun _ _ _ => none⟩

/-- A channel made. -/
def makeChanF (P : Program) (t : TypeId) : MemF :=
  match undOf P t with
  | some (.chan _ e) => match bytesOf P e with
    | some b => ⟨fun h x => bnd (intOf x) fun i => match i.2 with
      | .ofNat n => cnd (Nat.ble n 9223372036854775807 && Nat.ble (b * n) 281474976710544) (some (.chan (some h.next), h.push (.chan n [] 0 0))) none
      | .negSucc _ => none⟩
    | none => ⟨fun _ _ => none⟩
  | _ => ⟨fun _ _ => none⟩

def operF (P : Program) (o : Op) : OperF :=
  match o with
  | .call c => operCallF P c
  | .makeChan t x => operOp (mem1 x (makeChanF P t).run)
  | .makeMap _ n => operOp (makeMapO n)
  | .lookup t x k ok => operOp (read2 x k (lookupF P t ok).run)
  | .mapUpdate t m k x => operOp (write3 m k x (mapUpdateF P t).run)
  | .mapEntry t m k => operOp (mem2 m k (mapEntryF P t).run)
  | .entryStore _ m s x => operOp (write3 m s x entryStoreV)
  | o => operOp (opF P o)

/-- A select of one case with a default, nobody else being there. -/
def selRecv (z : AV) (c : Operand) : OperF :=
  ⟨fun _ e h => bnd (opv e c) fun x => bnd (chanRef x) fun r => bnd r fun r => bnd (chanAt h r) fun q =>
    lcase q.2.1 (some (.tuple [.int .i64 (.negSucc 0), .bool false, z], h)) fun a rest => some (.tuple [.int .i64 (.ofNat 0), .bool true, a], h.set r (.chan q.1 rest q.2.2.1 (q.2.2.2 + 1)))⟩
def selSend (c v : Operand) : OperF :=
  ⟨fun _ e h => bnd (opv e c) fun x => bnd (opv e v) fun y => bnd (chanRef x) fun r => bnd r fun r => bnd (chanAt h r) fun q =>
    cnd (Nat.blt (lenA q.2.1) q.1) (some (.tuple [.int .i64 (.ofNat 0), .bool false], h.set r (.chan q.1 (app q.2.1 [y]) (q.2.2.1 + 1) q.2.2.2))) (some (.tuple [.int .i64 (.negSucc 0), .bool false], h))⟩
def selectF (P : Program) (cases : List SelectCase) (blocking : Bool) : OperF :=
  match cases, blocking with
  | [c], false => match zeroOf P c.elem with
    | some z => match c.send with
      | none => selRecv z c.chan
      | some v => selSend c.chan v
    | none => ⟨fun _ _ _ => none⟩
  | _, _ => ⟨fun _ _ _ => none⟩

/-- In the text's order a select may stand, too. -/
def operTF (P : Program) (o : Op) : OperF :=
  match o with
  | .select cs blocking => selectF P cs.toList blocking
  | o => operF P o

/-- The operations of a region, one behind the other. -/
structure StepsF where
  run : CallV → Env → AHeap → Option (Env × AHeap)

def guardV (d : Option Tmp) (want : Bool) (e : Env) : Bool :=
  match d with
  | some d => match nth e d with
    | .bool b => if b then want else !want
    | _ => false
  | none => false

def stepOp (o : OperF) (dst : Option Tmp) (rest : StepsF) : StepsF :=
  ⟨fun call e h => bnd (o.run call e h) fun r => rest.run call (putD e dst r.1) r.2⟩
def stepGuarded (g : Option Tmp) (want : Bool) (o : OperF) (dst : Option Tmp) (rest : StepsF) : StepsF :=
  ⟨fun call e h => if guardV g want e then bnd (o.run call e h) fun r => rest.run call (putD e dst r.1) r.2 else rest.run call (putD e dst .undef) h⟩

def opsF (P : Program) (all : List Oper) : List Oper → StepsF
  | [] => ⟨fun _ e h => some (e, h)⟩
  | o :: r => match o.guard with
    | none => stepOp (operTF P o.op) o.dst (opsF P all r)
    | some (j, want) => stepGuarded ((all[j]?).bind Oper.dst) want (operTF P o.op) o.dst (opsF P all r)

/-! ### regions whose order is free -/
def getN {α : Type} (l : List α) (n : Nat) : Option α :=
  nrec (fun l => lcase l none fun a _ => some a) (fun _ ih l => lcase l none fun _ r => ih r) n l

/-- One operation with its guard. -/
def gopF (P : Program) (all : List Oper) (o : Oper) : OperF :=
  match o.guard with
  | none => operF P o.op
  | some (j, want) => ⟨fun call e h => if guardV ((all[j]?).bind Oper.dst) want e = true then (operF P o.op).run call e h else some (.undef, h)⟩

/-- What an operation has to do with memory: nothing (0), it reads (1), it may do anything (2). -/
def convKind (P : Program) (s d : TypeId) : Nat :=
  match undOf P d with
  | some (.int _) => 0
  | some .string => match undOf P s with
    | some .string => 0
    | _ => 1
  | _ => 2
def lenKind (P : Program) (tys : List TypeId) : Nat :=
  match tys with
  | t :: _ => match undOf P t with
    | some .string | some (.slice _) | some (.array _ _) => 0
    | _ => 1
  | [] => 1
def opKind (P : Program) : Op → Nat
  | .move _ | .assign _ | .pick _ _ _ | .build _ _ | .nilCheck _ | .binOp _ _ _ _ _ | .unOp _ _ _ | .makeInterface _ _ | .makeFunc _ _ _ | .fieldAddr _ _ _ | .field _ _ _
  | .indexAddr _ _ _ | .index _ _ _ | .extract _ _ => 0
  | .load _ _ | .slice _ _ _ _ _ | .lookup _ _ _ _ => 1
  | .convert s d _ => convKind P s d
  | .call c => match c.callee with
    | .builtin .len => lenKind P c.argTypes.toList
    | .builtin .cap | .builtin .min | .builtin .max => 0
    | _ => 2
  | _ => 2

def bit (m j : Nat) : Bool := Nat.testBit m j
def nthM (l : List Nat) (i : Nat) : Nat := l.getD i 0
/-- The operations that must have come before. -/
def maskE (acc : List Nat) (i : Nat) : List Edge → Nat
  | [] => 0
  | e :: r => if Region.binds .any e = true ∧ e.on < i then (2 ^ e.on ||| nthM acc e.on) ||| maskE acc i r else maskE acc i r
def masksGo : List Oper → List Nat → List Nat
  | [], acc => acc
  | o :: r, acc => masksGo r (acc ++ [maskE acc acc.length o.after.toList])
def masks (ops : List Oper) : List Nat := masksGo ops []

def looks (all : List Oper) (o : Oper) : List Tmp :=
  (o.op.operands.toList.filterMap fun | .tmp t => some t | _ => none) ++
  (match o.guard with
   | some (g, _) => ((all[g]?).bind (·.dst)).toList
   | none => [])

def pairs (all : List Oper) : List (Nat × Oper) := (List.range all.length).zip all

def edgesDown (l : List (Nat × Oper)) : Bool := l.all fun (i, o) => o.after.toList.all fun e => !Region.binds .any e || Nat.blt e.on i
def dstsOnce (l : List (Nat × Oper)) : Bool := l.all fun (i, o) => l.all fun (j, u) => Nat.beq i j || (match o.dst, u.dst with
  | some d, some d' => !Nat.beq d d'
  | _, _ => true)
def heaviesChain (P : Program) (m : List Nat) (l : List (Nat × Oper)) : Bool :=
  l.all fun (i, o) => !Nat.beq (opKind P o.op) 2 || l.all fun (j, u) => !Nat.blt i j || !Nat.beq (opKind P u.op) 2 || bit (nthM m j) i
def looksTied (all : List Oper) (m : List Nat) (l : List (Nat × Oper)) : Bool :=
  l.all fun (i, o) => (looks all o).all fun t => l.all fun (j, u) => Nat.beq i j || (match u.dst with
    | some d => !Nat.beq d t || bit (nthM m i) j || bit (nthM m j) i
    | none => true)
def drawOk (P : Program) (all : List Oper) (m : List Nat) : Bool :=
  edgesDown (pairs all) && dstsOnce (pairs all) && heaviesChain P m (pairs all) && looksTied all m (pairs all)

/-- Readers and those that may change what they read, in no order. -/
def races (P : Program) (all : List Oper) (m : List Nat) : List (Nat × OperF × Nat) :=
  (pairs all).flatMap fun (i, o) => if opKind P o.op = 1 then
    (pairs all).filterMap fun (x, u) => if opKind P u.op = 2 ∧ bit (nthM m i) x = false ∧ bit (nthM m x) i = false then some (i, gopF P all o, x) else none
  else []

structure TStep where
  e : Env
  h : AHeap
  v : AV

structure TraceF where
  run : CallV → Env → AHeap → Option (List TStep × Env × AHeap)
def traceOp (o : OperF) (dst : Option Tmp) (rest : TraceF) : TraceF :=
  ⟨fun call e h => bnd (o.run call e h) fun r => bnd (rest.run call (putD e dst r.1) r.2) fun t => some (⟨e, h, r.1⟩ :: t.1, t.2)⟩
def traceF (P : Program) (all : List Oper) : List Oper → TraceF
  | [] => ⟨fun _ e h => some ([], e, h)⟩
  | o :: r => traceOp (gopF P all o) o.dst (traceF P all r)

def beqStr (a b : List UInt8) : Bool :=
  lrec (fun y => lcase y true fun _ _ => false) (fun a _ ih y => lcase y false fun b r => cnd (Nat.beq a.toNat b.toNat) (ih r) false) a b
def sameAV (a b : AV) : Bool :=
  match a, b with
  | .bool x, .bool y => x == y
  | .int k x, .int l y => decide (k = l) && decide (x = y)
  | .str x, .str y => beqStr x y
  | .ptr none, .ptr none => true
  | .ptr (some x), .ptr (some y) => Nat.beq x.obj y.obj && Nat.beq x.off y.off
  | .slice none n k, .slice none m l => Nat.beq n m && decide (k = l)
  | .slice (some x) n k, .slice (some y) m l => Nat.beq x.obj y.obj && Nat.beq x.off y.off && Nat.beq n m && decide (k = l)
  | .map none, .map none => true
  | .map (some x), .map (some y) => Nat.beq x y
  | .chan none, .chan none => true
  | .chan (some x), .chan (some y) => Nat.beq x y
  | .func f [] [], .func g [] [] => decide (f = g)
  | .nilFunc, .nilFunc => true
  | .nilIface, .nilIface => true
  | _, _ => false
def sameL (a b : List AV) : Bool :=
  lrec (fun y => lcase y true fun _ _ => false) (fun a _ ih y => lcase y false fun b r => cnd (sameAV a b) (ih r) false) a b
def sameA (a b : AV) : Bool :=
  match a, b with
  | .agg x, .agg y => sameL x y
  | a, b => sameAV a b

def yields (r : Option (AV × AHeap)) (v : AV) : Bool := ocase r false fun r => sameA r.1 v

def raceOk (call : CallV) (T : List TStep) (hf : AHeap) (p : Nat × OperF × Nat) : Bool :=
  ocase (getN T p.1) false fun s => ocase (getN T p.2.2) false fun u =>
    yields (p.2.1.run call s.e u.h) s.v && yields (p.2.1.run call s.e (ocase (getN T (p.2.2 + 1)) hf fun t => t.h)) s.v
def racesOk (call : CallV) (T : List TStep) (hf : AHeap) (l : List (Nat × OperF × Nat)) : Bool := lrec true (fun p _ ih => cnd (raceOk call T hf p) ih false) l

def drawRun (t : TraceF) (l : List (Nat × OperF × Nat)) : StepsF :=
  ⟨fun call e h => bnd (t.run call e h) fun r => cnd (racesOk call r.1 r.2.2 l) (some r.2) none⟩
def regionDraw (P : Program) (all : List Oper) : StepsF :=
  cnd (drawOk P all (masks all)) (drawRun (traceF P all all) (races P all (masks all))) ⟨fun _ _ _ => none⟩

def regionF (P : Program) (ops : Array Oper) (draw : Bool) : StepsF := cnd draw (regionDraw P ops.toList) (opsF P ops.toList ops.toList)

/-! ### code -/
inductive AExit where
  | normal
  | exit (id : Nat)
  | ret

abbrev Out := Option (AExit × Env × AHeap)

/-- What follows an exit. -/
def xcase {β : Type} (x : AExit) (n r : β) (f : Nat → β) : β :=
  match x with
  | .normal => n
  | .exit id => f id
  | .ret => r

def loopV (body : Env → AHeap → Out) (n : Nat) : Env → AHeap → Out :=
  nrec (fun _ _ => none) (fun _ ih e h => bnd (body e h) fun r => xcase r.1 (ih r.2.1 r.2.2) (some r) fun _ => some r) n

structure CodeF where
  run : CallV → Nat → Env → AHeap → Out

def CodeF.stay : CodeF := ⟨fun _ _ e h => some (.normal, e, h)⟩
def codeRegion (s : StepsF) : CodeF := ⟨fun call _ e h => bnd (s.run call e h) fun r => some (.normal, r.1, r.2)⟩
def codeSeq (a b : CodeF) : CodeF := ⟨fun call lf e h => bnd (a.run call lf e h) fun r => xcase r.1 (b.run call lf r.2.1 r.2.2) (some r) fun _ => some r⟩
def codeCond (c : Operand) (a b : CodeF) : CodeF := ⟨fun call lf e h => bnd (opv e c) fun v => bnd (boolOf v) fun t => cnd t (a.run call lf e h) (b.run call lf e h)⟩
def codeBlock (id : Nat) (c : CodeF) : CodeF := ⟨fun call lf e h => bnd (c.run call lf e h) fun r => xcase r.1 (some r) (some r) fun i => cnd (Nat.beq i id) (some (.normal, r.2)) (some r)⟩
def codeLoop (c : CodeF) : CodeF := ⟨fun call lf e h => loopV (c.run call lf) lf e h⟩
def codeExit (x : AExit) : CodeF := ⟨fun _ _ e h => some (x, e, h)⟩

def codeF (P : Program) (region : Array Oper → Bool → StepsF) : Code → CodeF
  | .skip => .stay
  | .label _ => .stay
  | .region _ ops draw => codeRegion (region ops draw)
  | .seq a b => codeSeq (codeF P region a) (codeF P region b)
  | .cond c a b => codeCond c (codeF P region a) (codeF P region b)
  | .block id c => codeBlock id (codeF P region c)
  | .loop c => codeLoop (codeF P region c)
  | .scope c => codeF P region c
  | .exit id => codeExit (.exit id)
  | .ret => codeExit .ret
  | _ => ⟨fun _ _ _ _ => none⟩

def resultV (P : Program) (h : AHeap) (e : Env) : ResultVar → Option AV
  | .tmp t => some (nth e t)
  | .cell a t => (loadF P t).run h (nth e a)
def resultsV (P : Program) (h : AHeap) (e : Env) (l : List ResultVar) : Option (List AV) :=
  lrec (some []) (fun x _ ih => bnd (resultV P h e x) fun a => bnd ih fun l => some (a :: l)) l
def oneOf (l : List AV) : AV := lcase l (.tuple l) fun v r => lcase r v fun _ _ => .tuple l

structure FunF where
  run : CallV → Nat → List AV → AHeap → Option (AV × AHeap)

def dropU (n : Nat) (l : List AV) : Nat := lrec (fun n => n) (fun _ _ ih n => ih (n - 1)) l n
def pad (args : List AV) (n : Nat) : List AV := app args (undefs (dropU n args))

def funBody (P : Program) (results : List ResultVar) (ntmps : Nat) (c : CodeF) : FunF :=
  ⟨fun call lf args h => bnd (c.run call lf (pad args ntmps) h) fun r =>
    xcase r.1 (bnd (resultsV P r.2.2 r.2.1 results) fun l => some (oneOf l, r.2.2)) (bnd (resultsV P r.2.2 r.2.1 results) fun l => some (oneOf l, r.2.2)) fun _ => none⟩

def funF (P : Program) (region : Array Oper → Bool → StepsF) (f : FuncId) : FunF :=
  match P.funcs[f]? with
  | none => ⟨fun _ _ _ _ => none⟩
  | some fn => if fn.name = "runtime.NumGoroutine" then ⟨fun _ _ _ _ => none⟩ else match fn.body with
    | none => if fn.origin = "" ∨ fn.origin = fn.name then ⟨fun _ _ args h => (externF fn.name).run args h⟩ else ⟨fun _ _ _ _ => none⟩
    | some c => funBody P fn.results.toList fn.ntmps (codeF P region c)

def callF (P : Program) (region : Array Oper → Bool → StepsF) (fuel : Nat) : CallV :=
  nrec (fun _ _ _ => none) (fun n ih f args h => (funF P region f).run ih (n + 1) args h) fuel

/-- A region in the text's order alone. -/
def regionText (P : Program) (ops : Array Oper) (_draw : Bool) : StepsF := opsF P ops.toList ops.toList

def AHeap.init (n : Nat) : AHeap := ⟨n, .leaf⟩

end
end Go.Proofs.YtonojkcnencodaaDoor.BH

end
section
namespace Go.Proofs.YtonojkcnencodaaDoor.BH
noncomputable section

def notSome {α : Type} (o : Option α) : Bool := ocase o true fun _ => false

/-- Does a value lead into no object? (what lies in a frozen list leads into none) -/
def closedV (v : AV) : Bool :=
  AV.rec (motive_1 := fun _ => Bool) (motive_2 := fun _ => Bool) (fun _ => true) (fun _ _ => true) (fun _ => true) (fun a => notSome a) (fun _ _ _ => false) (fun r => notSome r) (fun r => notSome r)
    (fun _ _ _ i j => cnd i j false) true (fun _ _ i => i) true (fun _ i => i) (fun _ i => i) (fun _ n f _ _ => cnd f (cnd (Nat.beq n 0) false true) true) (fun _ _ _ => true) true (fun _ _ i j => cnd i j false) v
/-- .. and holds no pointer either? -/
def doneV (v : AV) : Bool :=
  AV.rec (motive_1 := fun _ => Bool) (motive_2 := fun _ => Bool) (fun _ => true) (fun _ _ => true) (fun _ => true) (fun a => notSome a) (fun _ _ _ => false) (fun r => notSome r) (fun r => notSome r)
    (fun _ _ _ i j => cnd i j false) true (fun _ _ i => i) true (fun _ i => i) (fun _ i => i) (fun _ n f pf _ => cnd pf (cnd f (cnd (Nat.beq n 0) false true) true) false) (fun _ _ _ => false) true (fun _ _ i j => cnd i j false) v
/-- .. nor a list? -/
def plainV (v : AV) : Bool :=
  AV.rec (motive_1 := fun _ => Bool) (motive_2 := fun _ => Bool) (fun _ => true) (fun _ _ => true) (fun _ => true) (fun a => notSome a) (fun _ _ _ => false) (fun r => notSome r) (fun r => notSome r)
    (fun _ _ _ i j => cnd i j false) true (fun _ _ i => i) true (fun _ i => i) (fun _ i => i) (fun _ _ _ _ _ => false) (fun _ _ _ => false) true (fun _ _ i j => cnd i j false) v

/-- A row that nobody writes any more. -/
def still (h : AHeap) (o : Nat) : Option AHeap :=
  bnd (rowAt h o) fun r => cnd r.froz (some h) (some (h.set o (.row r.elem r.esz true r.cells)))

def exactly (c : ACap) (n : Nat) : Bool :=
  match c with
  | .exact k => Nat.beq k n
  | .op _ => false

abbrev Fz := AV → AHeap → Option (AV × AHeap)

def frzL (f : Fz) (cs : List AV) (h : AHeap) : Option (List AV × AHeap) :=
  lrec (fun h => some ([], h)) (fun a _ ih h => bnd (f a h) fun x => bnd (ih x.2) fun y => some (x.1 :: y.1, y.2)) cs h
/-- The cells of a row, as values that lead into no object; do they hold no pointers? -/
def frzCells (f : Fz) (cs : List AV) (h : AHeap) : Option (List AV × AHeap × Bool) :=
  cnd (allA doneV cs) (some (cs, h, true)) (bnd (frzL f cs h) fun x => some (x.1, x.2, allA doneV x.1))

def frzSlice (f : Fz) (keep : Bool) (a : ALoc) (n : Nat) (_c : ACap) (h : AHeap) : Option (AV × AHeap) :=
  cnd (Nat.beq n 0) (some (.lst [] 0 false true, h))
    (bnd (rowAt h a.obj) fun r => bnd (slots r.cells a.off (n * r.esz)) fun cs => bnd (frzCells f cs h) fun x =>
      bnd (cnd keep (still x.2.1 a.obj) (some x.2.1)) fun h' => some (.lst x.1 n false x.2.2, h'))
def frzPtr (f : Fz) (a : ALoc) (h : AHeap) : Option (AV × AHeap) :=
  bnd (rowAt h a.obj) fun r => bnd (frzCells f r.cells h) fun x => some (.cptr x.1 a.off, x.2.1)

def frzStep (f : Fz) (keep : Bool) : Fz := fun v h =>
  match v with
  | .slice none _ _ => some (.lst [] 0 false true, h)
  | .slice (some a) n c => frzSlice f keep a n c h
  | .ptr (some a) => frzPtr f a h
  | .agg cs => bnd (frzL f cs h) fun x => some (.agg x.1, x.2)
  | .tuple cs => bnd (frzL f cs h) fun x => some (.tuple x.1, x.2)
  | .func fn a b => bnd (frzL f a h) fun x => bnd (frzL f b x.2) fun y => some (.func fn x.1 y.1, y.2)
  | .iface t v => bnd (f v h) fun x => some (.iface t x.1, x.2)
  | .lst _ n _ _ => cnd (Nat.beq n 0) (some (.lst [] 0 false true, h)) none
  | _ => none
/-- A value that leads into no object: slices are frozen for good (keep) or looked at, pointers are looked at. -/
def frz (keep : Bool) (fuel : Nat) : Fz :=
  nrec (fun _ _ => none) (fun _ ih v h => cnd (closedV v) (some (v, h)) (frzStep ih keep v h)) fuel

def deep : Nat := 12
def frzArgs (keep : Bool) (args : List AV) (h : AHeap) : Option (List AV × AHeap) :=
  cnd (allA closedV args) (some (args, h)) (frzL (frz keep deep) args h)

/-! ### a result, out of the callee's heap into the caller's -/
/-- Frozen. -/
def giveFrz (v : AV) (hc h : AHeap) : Option (AV × AHeap × AHeap) :=
  cnd (doneV v) (some (v, hc, h)) (bnd (frz true deep v hc) fun x => cnd (doneV x.1) (some (x.1, x.2, h)) none)
/-- A slice of a row that is nobody else's: the row goes over. -/
def giveOwn (a : ALoc) (n : Nat) (c : ACap) (r : ARow) (hc h : AHeap) : Option (AV × AHeap × AHeap) :=
  cnd r.froz none (bnd (frzCells (frz true deep) r.cells (hc.del a.obj)) fun x =>
    cnd x.2.2 (some (.slice (some ⟨h.next, a.off⟩) n c, x.2.1, h.push (.row r.elem r.esz false x.1))) none)
def giveV (own : Bool) (v : AV) (hc h : AHeap) : Option (AV × AHeap × AHeap) :=
  match v with
  | .slice none _ _ => cnd own (some (.lst [] 0 true true, hc, h)) (giveFrz v hc h)
  | .slice (some a) n c => cnd own (cnd (Nat.beq n 0) (some (.lst [] 0 (exactly c 0) true, hc, h)) (bnd (rowAt hc a.obj) fun r => cnd r.froz (giveFrz v hc h) (giveOwn a n c r hc h))) (giveFrz v hc h)
  | v => giveFrz v hc h
def giveL (own : Bool) (vs : List AV) (hc h : AHeap) : Option (List AV × AHeap × AHeap) :=
  lrec (fun hc h => some ([], hc, h)) (fun a _ ih hc h => bnd (giveV own a hc h) fun x => bnd (ih x.2.1 x.2.2) fun y => some (x.1 :: y.1, y.2.1, y.2.2)) vs hc h
def give (own : Bool) (v : AV) (hc h : AHeap) : Option (AV × AHeap × AHeap) :=
  match v with
  | .tuple vs => bnd (giveL own vs hc h) fun x => some (.tuple x.1, x.2.1, x.2.2)
  | v => giveV own v hc h

/-! ### kinds of calls -/
structure Kind where
  /-- the callee has a heap of its own -/
  pure : Bool
  /-- what it is handed is frozen for good; else it is looked at, and the result is plain -/
  keep : Bool
  /-- slices that it returns are the caller's -/
  own : Bool
  /-- the first argument points to an object that the callee may turn -/
  bor : Bool
  /-- an empty slice that may be nil: both are tried -/
  split : Bool

def AHeap.empty : AHeap := ⟨0, .leaf⟩

abbrev Body := List AV → AHeap → Option (AV × AHeap)

def callView (body : Body) (args : List AV) (h : AHeap) : Option (AV × AHeap) :=
  bnd (frzArgs false args h) fun a => bnd (body a.1 .empty) fun r => cnd (plainV r.1) (some (r.1, h)) none
def callKeep (own : Bool) (body : Body) (args : List AV) (h : AHeap) : Option (AV × AHeap) :=
  bnd (frzArgs true args h) fun a => bnd (body a.1 .empty) fun r => bnd (give own r.1 r.2 a.2) fun x => some (x.1, x.2.2)
/-- The callee's heap: the one object. -/
def lent (r : ARow) (cs : List AV) : AHeap := AHeap.empty.push (.row r.elem r.esz false cs)
def callLent (own : Bool) (body : Body) (o : Nat) (rest : List AV) (h : AHeap) (r : ARow) : Option (AV × AHeap) :=
  cnd r.froz none
    (bnd (frzCells (frz true deep) r.cells (h.del o)) fun x => bnd (frzArgs true rest x.2.1) fun a =>
      bnd (body (.ptr (some ⟨0, 0⟩) :: a.1) (lent r x.1)) fun q => bnd (rowAt q.2 0) fun r' => cnd r'.froz none
        (bnd (frzCells (frz true deep) r'.cells (q.2.del 0)) fun y => bnd (cnd y.2.2 (give own q.1 y.2.1 (a.2.set o (.row r'.elem r'.esz false y.1))) none) fun z => some (z.1, z.2.2)))
def callBor (own : Bool) (body : Body) (args : List AV) (h : AHeap) : Option (AV × AHeap) :=
  lcase args none fun p rest => bnd (ptrOf p) fun a => cnd (Nat.beq a.off 0) (bnd (rowAt h a.obj) fun r => callLent own body a.obj rest h r) none
def kindCall (k : Kind) (body : Body) (args : List AV) (h : AHeap) : Option (AV × AHeap) :=
  cnd k.pure (cnd k.bor (callBor k.own body args h) (cnd k.keep (callKeep k.own body args h) (callView body args h))) (body args h)

/-! An empty slice that may be nil, or not. -/
def isEmp : AV → Bool
  | .lst _ n _ pf => cnd (Nat.beq n 0) pf false
  | _ => false
def empNot : AV → AV
  | .lst _ _ f _ => .lst [] 0 f false
  | v => v
def alts (args : List AV) : List (List AV) :=
  lrec [[]] (fun a _ ih => cnd (isEmp a) (ih.map (fun l => .slice none 0 (.exact 0) :: l) ++ ih.map (fun l => empNot a :: l)) (ih.map fun l => a :: l)) args
def eqRes (a b : AV) : Bool :=
  match a, b with
  | .lst c n f p, .lst d m g q => lcase c (lcase d (Nat.beq n m && (f == g) && (p == q)) fun _ _ => false) fun _ _ => false
  | .int k x, .int l y => sameKind k l && eqI x y
  | .bool x, .bool y => x == y
  | .str x, .str y => same x y
  | _, _ => false
/-- A result that is plain, or an empty slice. -/
def emptyOf (v : AV) : Option AV :=
  match v with
  | .slice none _ _ => some (.lst [] 0 true true)
  | .slice (some _) n c => cnd (Nat.beq n 0) (some (.lst [] 0 (exactly c 0) true)) none
  | .lst _ n f _ => cnd (Nat.beq n 0) (some (.lst [] 0 f true)) none
  | v => cnd (plainV v) (some v) none
def viewE (body : Body) (args : List AV) (h : AHeap) : Option AV :=
  bnd (frzArgs false args h) fun a => bnd (body a.1 .empty) fun r => emptyOf r.1
/-- All ways come to the same. -/
def allSame (run : List AV → Option AV) (first : List AV) (rest : List (List AV)) : Option AV :=
  bnd (run first) fun x => cnd (lrec true (fun l _ ih => ocase (run l) false fun y => cnd (eqRes y x) ih false) rest) (some x) none
def splitCall (k : Kind) (body : Body) (args : List AV) (h : AHeap) : Option (AV × AHeap) :=
  lcase (alts args) none fun a r => lcase r (kindCall k body a h) fun _ _ => bnd (allSame (fun l => viewE body l h) a r) fun x => some (x, h)
def kindSplit (k : Kind) (body : Body) (args : List AV) (h : AHeap) : Option (AV × AHeap) := cnd k.split (splitCall k body args h) (kindCall k body args h)

structure Cfg where
  kind : FuncId → Kind
  sum : FuncId → Option ExtF

def callX (P : Program) (region : Array Oper → Bool → StepsF) (cfg : Cfg) (fuel : Nat) : CallV :=
  nrec (fun _ _ _ => none) (fun n ih f args h => ocase (cfg.sum f) (kindSplit (cfg.kind f) ((funF P region f).run ih (n + 1)) args h) fun s => s.run args h) fuel

end
end Go.Proofs.YtonojkcnencodaaDoor.BH

end
