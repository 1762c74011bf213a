/-
  BH: the evaluator: regions, code, calls. Definitions alone.
-/
import Derived.Test.YtlgofplbbmjdjaaGreatDoorBhEval
namespace Go.Proofs.YtlgofplbbmjdjaaGreatDoor.BH
noncomputable section

/-! ### functions of the library that have no body -/
def cmpV (a b : List UInt8) : Int :=
  lrec (fun y => lcase y 0 fun _ _ => .negSucc 0)
    (fun a _ ih y => lcase y 1 fun b r => cnd (Nat.beq a.toNat b.toNat) (ih r) (cnd (Nat.blt a.toNat b.toNat) (.negSucc 0) 1)) a b

def indexByteV (c : Nat) (s : List UInt8) (i : Nat) : Int :=
  lrec (fun _ => .negSucc 0) (fun a _ ih i => cnd (Nat.beq a.toNat c) (.ofNat i) (ih (i + 1))) s i

structure ExtF where
  run : List AV → AHeap → Option (AV × AHeap)
def externF (name : String) : ExtF :=
  if name = "internal/bytealg.IndexByteString" then ⟨fun args h => match args with
    | [x, y] => bnd (strOf x) fun s => bnd (byteOf y) fun c => some (.int .i64 (indexByteV c.toNat s 0), h)
    | _ => none⟩
  else if name = "internal/bytealg.abigen_runtime_cmpstring" then ⟨fun args h => match args with
    | [x, y] => bnd (strOf x) fun a => bnd (strOf y) fun b => some (.int .i64 (cmpV a b), h)
    | _ => none⟩
  else if name = "internal/abi.NoEscape" then ⟨fun args h => match args with
    | [x] => some (x, h)
    | _ => none⟩
  else ⟨fun _ _ => none⟩

/-! ### regions -/
abbrev CallV := FuncId → List AV → AHeap → Option (AV × AHeap)

def callV (call : CallV) (f : AV) (args : List AV) (h : AHeap) : Option (AV × AHeap) :=
  match f with
  | .func fn first captured => match fn with
    | .func f => call f (app first (app args captured)) h
    | _ => none
  | _ => none

structure OperF where
  run : CallV → Env → AHeap → Option (AV × AHeap)

def operCall (f : Operand) (args : List Operand) : OperF :=
  ⟨fun call e h => bnd (opv e f) fun g => bnd (opvs e args) fun l => callV call g l h⟩
def operFunc (f : FuncId) (args : List Operand) : OperF :=
  ⟨fun call e h => bnd (opvs e args) fun l => call f l h⟩
def operOp (o : OpF) : OperF := ⟨fun _ e h => o.run e h⟩

def makeMapO (n : Option Operand) : OpF := ocase n opMakeMap fun _ => .no
def deleteO (P : Program) (tys : List TypeId) (args : List Operand) : OpF :=
  match tys with
  | t :: _ => match args with
    | [m, k] => mem2 m k (deleteF P t).run
    | _ => .no
  | [] => .no
def operCallF (P : Program) (c : Call) : OperF :=
  match c.callee with
  | .value (.func f) => operFunc f c.args.toList
  | .value f => operCall f c.args.toList
  | .builtin b => match b with
    | .delete => operOp (deleteO P c.argTypes.toList c.args.toList)
    | b => operOp (opBuiltin (builtinF P c.argTypes.toList b) c.args.toList)
  | .invoke _ _ => ⟨fun _ _ _ => none⟩

/-- A channel made. -/
def makeChanF (P : Program) (t : TypeId) : MemF :=
  match undOf P t with
  | some (.chan _ e) => match bytesOf P e with
    | some b => ⟨fun h x => bnd (intOf x) fun i => match i.2 with
      | .ofNat n => cnd (Nat.ble n 9223372036854775807 && Nat.ble (b * n) 281474976710544) (some (.chan (some h.next), h.push (.chan n [] 0 0))) none
      | .negSucc _ => none⟩
    | none => ⟨fun _ _ => none⟩
  | _ => ⟨fun _ _ => none⟩

def operF (P : Program) (o : Op) : OperF :=
  match o with
  | .call c => operCallF P c
  | .makeChan t x => operOp (mem1 x (makeChanF P t).run)
  | .makeMap _ n => operOp (makeMapO n)
  | .lookup t x k ok => operOp (read2 x k (lookupF P t ok).run)
  | .mapUpdate t m k x => operOp (write3 m k x (mapUpdateF P t).run)
  | .mapEntry t m k => operOp (mem2 m k (mapEntryF P t).run)
  | .entryStore _ m s x => operOp (write3 m s x entryStoreV)
  | o => operOp (opF P o)

/-- A select of one case with a default, nobody else being there. -/
def selRecv (z : AV) (c : Operand) : OperF :=
  ⟨fun _ e h => bnd (opv e c) fun x => bnd (chanRef x) fun r => bnd r fun r => bnd (chanAt h r) fun q =>
    lcase q.2.1 (some (.tuple [.int .i64 (.negSucc 0), .bool false, z], h)) fun a rest => some (.tuple [.int .i64 (.ofNat 0), .bool true, a], h.set r (.chan q.1 rest q.2.2.1 (q.2.2.2 + 1)))⟩
def selSend (c v : Operand) : OperF :=
  ⟨fun _ e h => bnd (opv e c) fun x => bnd (opv e v) fun y => bnd (chanRef x) fun r => bnd r fun r => bnd (chanAt h r) fun q =>
    cnd (Nat.blt (lenA q.2.1) q.1) (some (.tuple [.int .i64 (.ofNat 0), .bool false], h.set r (.chan q.1 (app q.2.1 [y]) (q.2.2.1 + 1) q.2.2.2))) (some (.tuple [.int .i64 (.negSucc 0), .bool false], h))⟩
def selectF (P : Program) (cases : List SelectCase) (blocking : Bool) : OperF :=
  match cases, blocking with
  | [c], false => match zeroOf P c.elem with
    | some z => match c.send with
      | none => selRecv z c.chan
      | some v => selSend c.chan v
    | none => ⟨fun _ _ _ => none⟩
  | _, _ => ⟨fun _ _ _ => none⟩

/-- In the text's order a select may stand, too. -/
def operTF (P : Program) (o : Op) : OperF :=
  match o with
  | .select cs blocking => selectF P cs.toList blocking
  | o => operF P o

/-- The operations of a region, one behind the other. -/
structure StepsF where
  run : CallV → Env → AHeap → Option (Env × AHeap)

def guardV (d : Option Tmp) (want : Bool) (e : Env) : Bool :=
  match d with
  | some d => match nth e d with
    | .bool b => if b then want else !want
    | _ => false
  | none => false

def stepOp (o : OperF) (dst : Option Tmp) (rest : StepsF) : StepsF :=
  ⟨fun call e h => bnd (o.run call e h) fun r => rest.run call (putD e dst r.1) r.2⟩
def stepGuarded (g : Option Tmp) (want : Bool) (o : OperF) (dst : Option Tmp) (rest : StepsF) : StepsF :=
  ⟨fun call e h => if guardV g want e then bnd (o.run call e h) fun r => rest.run call (putD e dst r.1) r.2 else rest.run call (putD e dst .undef) h⟩

def opsF (P : Program) (all : List Oper) : List Oper → StepsF
  | [] => ⟨fun _ e h => some (e, h)⟩
  | o :: r => match o.guard with
    | none => stepOp (operTF P o.op) o.dst (opsF P all r)
    | some (j, want) => stepGuarded ((all[j]?).bind Oper.dst) want (operTF P o.op) o.dst (opsF P all r)

/-! ### regions whose order is free -/
def getN {α : Type} (l : List α) (n : Nat) : Option α :=
  nrec (fun l => lcase l none fun a _ => some a) (fun _ ih l => lcase l none fun _ r => ih r) n l

/-- One operation with its guard. -/
def gopF (P : Program) (all : List Oper) (o : Oper) : OperF :=
  match o.guard with
  | none => operF P o.op
  | some (j, want) => ⟨fun call e h => if guardV ((all[j]?).bind Oper.dst) want e = true then (operF P o.op).run call e h else some (.undef, h)⟩

/-- What an operation has to do with memory: nothing (0), it reads (1), it may do anything (2). -/
def convKind (P : Program) (s d : TypeId) : Nat :=
  match undOf P d with
  | some (.int _) => 0
  | some .string => match undOf P s with
    | some .string => 0
    | _ => 1
  | _ => 2
def lenKind (P : Program) (tys : List TypeId) : Nat :=
  match tys with
  | t :: _ => match undOf P t with
    | some .string | some (.slice _) | some (.array _ _) => 0
    | _ => 1
  | [] => 1
def opKind (P : Program) : Op → Nat
  | .move _ | .assign _ | .pick _ _ _ | .build _ _ | .nilCheck _ | .binOp _ _ _ _ _ | .unOp _ _ _ | .makeInterface _ _ | .makeFunc _ _ _ | .fieldAddr _ _ _ | .field _ _ _
  | .indexAddr _ _ _ | .index _ _ _ | .extract _ _ => 0
  | .load _ _ | .slice _ _ _ _ _ | .lookup _ _ _ _ => 1
  | .convert s d _ => convKind P s d
  | .call c => match c.callee with
    | .builtin .len => lenKind P c.argTypes.toList
    | .builtin .cap | .builtin .min | .builtin .max => 0
    | _ => 2
  | _ => 2

def bit (m j : Nat) : Bool := Nat.testBit m j
def nthM (l : List Nat) (i : Nat) : Nat := l.getD i 0
/-- The operations that must have come before. -/
def maskE (acc : List Nat) (i : Nat) : List Edge → Nat
  | [] => 0
  | e :: r => if Region.binds .any e = true ∧ e.on < i then (2 ^ e.on ||| nthM acc e.on) ||| maskE acc i r else maskE acc i r
def masksGo : List Oper → List Nat → List Nat
  | [], acc => acc
  | o :: r, acc => masksGo r (acc ++ [maskE acc acc.length o.after.toList])
def masks (ops : List Oper) : List Nat := masksGo ops []

def looks (all : List Oper) (o : Oper) : List Tmp :=
  (o.op.operands.toList.filterMap fun | .tmp t => some t | _ => none) ++
  (match o.guard with
   | some (g, _) => ((all[g]?).bind (·.dst)).toList
   | none => [])

def pairs (all : List Oper) : List (Nat × Oper) := (List.range all.length).zip all

def edgesDown (l : List (Nat × Oper)) : Bool := l.all fun (i, o) => o.after.toList.all fun e => !Region.binds .any e || Nat.blt e.on i
def dstsOnce (l : List (Nat × Oper)) : Bool := l.all fun (i, o) => l.all fun (j, u) => Nat.beq i j || (match o.dst, u.dst with
  | some d, some d' => !Nat.beq d d'
  | _, _ => true)
def heaviesChain (P : Program) (m : List Nat) (l : List (Nat × Oper)) : Bool :=
  l.all fun (i, o) => !Nat.beq (opKind P o.op) 2 || l.all fun (j, u) => !Nat.blt i j || !Nat.beq (opKind P u.op) 2 || bit (nthM m j) i
def looksTied (all : List Oper) (m : List Nat) (l : List (Nat × Oper)) : Bool :=
  l.all fun (i, o) => (looks all o).all fun t => l.all fun (j, u) => Nat.beq i j || (match u.dst with
    | some d => !Nat.beq d t || bit (nthM m i) j || bit (nthM m j) i
    | none => true)
def drawOk (P : Program) (all : List Oper) (m : List Nat) : Bool :=
  edgesDown (pairs all) && dstsOnce (pairs all) && heaviesChain P m (pairs all) && looksTied all m (pairs all)

/-- Readers and those that may change what they read, in no order. -/
def races (P : Program) (all : List Oper) (m : List Nat) : List (Nat × OperF × Nat) :=
  (pairs all).flatMap fun (i, o) => if opKind P o.op = 1 then
    (pairs all).filterMap fun (x, u) => if opKind P u.op = 2 ∧ bit (nthM m i) x = false ∧ bit (nthM m x) i = false then some (i, gopF P all o, x) else none
  else []

structure TStep where
  e : Env
  h : AHeap
  v : AV

structure TraceF where
  run : CallV → Env → AHeap → Option (List TStep × Env × AHeap)
def traceOp (o : OperF) (dst : Option Tmp) (rest : TraceF) : TraceF :=
  ⟨fun call e h => bnd (o.run call e h) fun r => bnd (rest.run call (putD e dst r.1) r.2) fun t => some (⟨e, h, r.1⟩ :: t.1, t.2)⟩
def traceF (P : Program) (all : List Oper) : List Oper → TraceF
  | [] => ⟨fun _ e h => some ([], e, h)⟩
  | o :: r => traceOp (gopF P all o) o.dst (traceF P all r)

def beqStr (a b : List UInt8) : Bool :=
  lrec (fun y => lcase y true fun _ _ => false) (fun a _ ih y => lcase y false fun b r => cnd (Nat.beq a.toNat b.toNat) (ih r) false) a b
def sameAV (a b : AV) : Bool :=
  match a, b with
  | .bool x, .bool y => x == y
  | .int k x, .int l y => decide (k = l) && decide (x = y)
  | .str x, .str y => beqStr x y
  | .ptr none, .ptr none => true
  | .ptr (some x), .ptr (some y) => Nat.beq x.obj y.obj && Nat.beq x.off y.off
  | .slice none n k, .slice none m l => Nat.beq n m && decide (k = l)
  | .slice (some x) n k, .slice (some y) m l => Nat.beq x.obj y.obj && Nat.beq x.off y.off && Nat.beq n m && decide (k = l)
  | .map none, .map none => true
  | .map (some x), .map (some y) => Nat.beq x y
  | .chan none, .chan none => true
  | .chan (some x), .chan (some y) => Nat.beq x y
  | .func f [] [], .func g [] [] => decide (f = g)
  | .nilFunc, .nilFunc => true
  | .nilIface, .nilIface => true
  | _, _ => false
def sameL (a b : List AV) : Bool :=
  lrec (fun y => lcase y true fun _ _ => false) (fun a _ ih y => lcase y false fun b r => cnd (sameAV a b) (ih r) false) a b
def sameA (a b : AV) : Bool :=
  match a, b with
  | .agg x, .agg y => sameL x y
  | a, b => sameAV a b

def yields (r : Option (AV × AHeap)) (v : AV) : Bool := ocase r false fun r => sameA r.1 v

def raceOk (call : CallV) (T : List TStep) (hf : AHeap) (p : Nat × OperF × Nat) : Bool :=
  ocase (getN T p.1) false fun s => ocase (getN T p.2.2) false fun u =>
    yields (p.2.1.run call s.e u.h) s.v && yields (p.2.1.run call s.e (ocase (getN T (p.2.2 + 1)) hf fun t => t.h)) s.v
def racesOk (call : CallV) (T : List TStep) (hf : AHeap) (l : List (Nat × OperF × Nat)) : Bool := lrec true (fun p _ ih => cnd (raceOk call T hf p) ih false) l

def drawRun (t : TraceF) (l : List (Nat × OperF × Nat)) : StepsF :=
  ⟨fun call e h => bnd (t.run call e h) fun r => cnd (racesOk call r.1 r.2.2 l) (some r.2) none⟩
def regionDraw (P : Program) (all : List Oper) : StepsF :=
  cnd (drawOk P all (masks all)) (drawRun (traceF P all all) (races P all (masks all))) ⟨fun _ _ _ => none⟩

def regionF (P : Program) (ops : Array Oper) (draw : Bool) : StepsF := cnd draw (regionDraw P ops.toList) (opsF P ops.toList ops.toList)

/-! ### code -/
inductive AExit where
  | normal
  | exit (id : Nat)
  | ret

abbrev Out := Option (AExit × Env × AHeap)

/-- What follows an exit. -/
def xcase {β : Type} (x : AExit) (n r : β) (f : Nat → β) : β :=
  match x with
  | .normal => n
  | .exit id => f id
  | .ret => r

def loopV (body : Env → AHeap → Out) (n : Nat) : Env → AHeap → Out :=
  nrec (fun _ _ => none) (fun _ ih e h => bnd (body e h) fun r => xcase r.1 (ih r.2.1 r.2.2) (some r) fun _ => some r) n

structure CodeF where
  run : CallV → Nat → Env → AHeap → Out

def CodeF.stay : CodeF := ⟨fun _ _ e h => some (.normal, e, h)⟩
def codeRegion (s : StepsF) : CodeF := ⟨fun call _ e h => bnd (s.run call e h) fun r => some (.normal, r.1, r.2)⟩
def codeSeq (a b : CodeF) : CodeF := ⟨fun call lf e h => bnd (a.run call lf e h) fun r => xcase r.1 (b.run call lf r.2.1 r.2.2) (some r) fun _ => some r⟩
def codeCond (c : Operand) (a b : CodeF) : CodeF := ⟨fun call lf e h => bnd (opv e c) fun v => bnd (boolOf v) fun t => cnd t (a.run call lf e h) (b.run call lf e h)⟩
def codeBlock (id : Nat) (c : CodeF) : CodeF := ⟨fun call lf e h => bnd (c.run call lf e h) fun r => xcase r.1 (some r) (some r) fun i => cnd (Nat.beq i id) (some (.normal, r.2)) (some r)⟩
def codeLoop (c : CodeF) : CodeF := ⟨fun call lf e h => loopV (c.run call lf) lf e h⟩
def codeExit (x : AExit) : CodeF := ⟨fun _ _ e h => some (x, e, h)⟩

def codeF (P : Program) (region : Array Oper → Bool → StepsF) : Code → CodeF
  | .skip => .stay
  | .label _ => .stay
  | .region _ ops draw => codeRegion (region ops draw)
  | .seq a b => codeSeq (codeF P region a) (codeF P region b)
  | .cond c a b => codeCond c (codeF P region a) (codeF P region b)
  | .block id c => codeBlock id (codeF P region c)
  | .loop c => codeLoop (codeF P region c)
  | .scope c => codeF P region c
  | .exit id => codeExit (.exit id)
  | .ret => codeExit .ret
  | _ => ⟨fun _ _ _ _ => none⟩

def resultV (P : Program) (h : AHeap) (e : Env) : ResultVar → Option AV
  | .tmp t => some (nth e t)
  | .cell a t => (loadF P t).run h (nth e a)
def resultsV (P : Program) (h : AHeap) (e : Env) (l : List ResultVar) : Option (List AV) :=
  lrec (some []) (fun x _ ih => bnd (resultV P h e x) fun a => bnd ih fun l => some (a :: l)) l
def oneOf (l : List AV) : AV := lcase l (.tuple l) fun v r => lcase r v fun _ _ => .tuple l

structure FunF where
  run : CallV → Nat → List AV → AHeap → Option (AV × AHeap)

def dropU (n : Nat) (l : List AV) : Nat := lrec (fun n => n) (fun _ _ ih n => ih (n - 1)) l n
def pad (args : List AV) (n : Nat) : List AV := app args (undefs (dropU n args))

def funBody (P : Program) (results : List ResultVar) (ntmps : Nat) (c : CodeF) : FunF :=
  ⟨fun call lf args h => bnd (c.run call lf (pad args ntmps) h) fun r =>
    xcase r.1 (bnd (resultsV P r.2.2 r.2.1 results) fun l => some (oneOf l, r.2.2)) (bnd (resultsV P r.2.2 r.2.1 results) fun l => some (oneOf l, r.2.2)) fun _ => none⟩

def funF (P : Program) (region : Array Oper → Bool → StepsF) (f : FuncId) : FunF :=
  match P.funcs[f]? with
  | none => ⟨fun _ _ _ _ => none⟩
  | some fn => if fn.name = "runtime.NumGoroutine" then ⟨fun _ _ _ _ => none⟩ else match fn.body with
    | none => if fn.origin = "" ∨ fn.origin = fn.name then ⟨fun _ _ args h => (externF fn.name).run args h⟩ else ⟨fun _ _ _ _ => none⟩
    | some c => funBody P fn.results.toList fn.ntmps (codeF P region c)

def callF (P : Program) (region : Array Oper → Bool → StepsF) (fuel : Nat) : CallV :=
  nrec (fun _ _ _ => none) (fun n ih f args h => (funF P region f).run ih (n + 1) args h) fuel

/-- A region in the text's order alone. -/
def regionText (P : Program) (ops : Array Oper) (_draw : Bool) : StepsF := opsF P ops.toList ops.toList

def AHeap.init (n : Nat) : AHeap := ⟨n, .leaf⟩

end
end Go.Proofs.YtlgofplbbmjdjaaGreatDoor.BH
