/-
  BH: the evaluator: operations. Definitions alone.
-/
import Derived.Test.YtlejcjgbkbmdmaaBhDef
import GoSem.Core.Region
namespace Go.Proofs.Ytlejcjgbkbmdmaa.BH
noncomputable section

/-! ### maps: looked up in the order in which they were filled -/
def findV (P : Program) (kt : TypeId) (k : AV) : List AEnt → Nat → Option (Option Nat)
  | [], _ => some none
  | e :: r, i => match (eqF P 40 kt).run k e.key with
    | some true => some (some i)
    | some false => findV P kt k r (i + 1)
    | none => none

/-- A key that may be looked up: a string, a number, a bool, or a struct of these. -/
def plainKey : AV → Bool
  | .str _ | .int _ _ | .bool _ => true
  | .agg cs => cs.all fun
    | .str _ | .int _ _ | .bool _ => true
    | _ => false
  | _ => false

def keyTypeOk (P : Program) (t : TypeId) : Bool :=
  match undOf P t with
  | some .string | some (.int _) | some .bool => true
  | some (.struct fs) => fs.toList.all fun f => match undOf P f.type with
    | some .string | some (.int _) | some .bool => true
    | _ => false
  | _ => false

def lookupV (P : Program) (h : AHeap) (t : TypeId) (m k : AV) (ok : Bool) : Option AV :=
  match undOf P t with
  | some (.map kt et) =>
    if keyTypeOk P kt && plainKey k then
      match (match m with
        | .map none => some []
        | .map (some r) => (mapAt h r).map (·.1)
        | _ => none : Option (List AEnt)) with
      | some es =>
        match findV P kt k es 0 with
        | some (some i) => match es[i]? with
          | some e => some (if ok then .tuple [e.val, .bool true] else e.val)
          | none => none
        | some none => match zeroOf P et with
          | some z => some (if ok then .tuple [z, .bool false] else z)
          | none => none
        | none => none
      | none => none
    else none
  | _ => none

def setVal (es : List AEnt) (i : Nat) (k v : AV) : List AEnt := es.modify i fun e => { e with key := k, val := v }

def mapUpdateV (P : Program) (h : AHeap) (t : TypeId) (m k v : AV) : Option AHeap :=
  match undOf P t, m with
  | some (.map kt _), .map (some r) =>
    if keyTypeOk P kt && plainKey k then
      match mapAt h r with
      | some (es, c) =>
        match findV P kt k es 0 with
        | some (some i) => some (h.set r (.map (setVal es i k v) c))
        | some none => some (h.set r (.map (es ++ [⟨k, v, c⟩]) (c + 1)))
        | none => none
      | none => none
    else none
  | _, _ => none

def mapEntryV (P : Program) (h : AHeap) (t : TypeId) (m k : AV) : Option (AV × AHeap) :=
  match undOf P t, m with
  | some (.map kt et), .map (some r) =>
    if keyTypeOk P kt && plainKey k then
      match mapAt h r with
      | some (es, c) =>
        match findV P kt k es 0 with
        | some (some i) => match es[i]? with
          | some e => some (.tuple [e.val, .int .i64 e.born], h.set r (.map (setVal es i k e.val) c))
          | none => none
        | some none => match zeroOf P et with
          | some z => some (.tuple [z, .int .i64 c], h.set r (.map (es ++ [⟨k, z, c⟩]) (c + 1)))
          | none => none
        | none => none
      | none => none
    else none
  | _, _ => none

def entryStoreV (h : AHeap) (m s v : AV) : Option AHeap :=
  match m, s with
  | .map (some r), .int _ b =>
    match mapAt h r with
    | some (es, c) =>
      match es.findIdx? (fun e => (e.born : Int) == b) with
      | some i => some (h.set r (.map (es.modify i fun e => { e with val := v }) c))
      | none => none
    | none => none
  | _, _ => none

def deleteV (P : Program) (h : AHeap) (tys : List TypeId) (m k : AV) : Option (AV × AHeap) :=
  match tys with
  | t :: _ =>
    match undOf P t, m with
    | some (.map kt _), .map (some r) =>
      if keyTypeOk P kt && plainKey k then
        match mapAt h r with
        | some (es, c) =>
          match findV P kt k es 0 with
          | some (some i) => some (.tuple [], h.set r (.map (es.eraseIdx i) c))
          | some none => some (.tuple [], h)
          | none => none
        | none => none
      else none
    | _, _ => none
  | [] => none

def rangeV (P : Program) (h : AHeap) (t : TypeId) (x : AV) : Option (AV × AHeap) :=
  match undOf P t, x with
  | some (.map _ _), .map none => some (.ptr (some ⟨h.next, 0⟩), h.push (.mapIter none 0 [] 0))
  | some (.map _ _), .map (some r) => match mapAt h r with
    | some (_, c) => some (.ptr (some ⟨h.next, 0⟩), h.push (.mapIter (some r) c [] c))
    | none => none
  | _, _ => none

/-- The next entry of a map, where there is no choice. -/
def nextV (h : AHeap) (it : AV) (isString : Bool) : Option (AV × AHeap) :=
  match it with
  | .ptr (some ⟨r, 0⟩) =>
    match h.get r, isString with
    | some (.mapIter none _ _ _), false => some (.tuple [.bool false], h)
    | some (.mapIter (some m) since seen last), false =>
      match mapAt h m with
      | some (es, c) =>
        if !seen.isEmpty && !es.isEmpty && es.all (fun e => last ≤ e.born) then none else
        match es.filter (fun e => !seen.contains e.born) with
        | [] => some (.tuple [.bool false], h)
        | [e] => if e.born < since then some (.tuple [.bool true, e.key, e.val], h.set r (.mapIter (some m) since (seen ++ [e.born]) c)) else none
        | _ => none
      | none => none
    | _, _ => none
  | _ => none

def entryV (h : AHeap) (it : AV) : Option AV :=
  match it with
  | .ptr (some ⟨r, 0⟩) =>
    match h.get r with
    | some (.mapIter (some m) _ seen stepped) =>
      match mapAt h m, seen.getLast? with
      | some (es, c), some st => if c = stepped then (es.find? (fun e => e.born == st)).map fun e => .tuple [e.key, e.val] else none
      | _, _ => none
    | _ => none
  | _ => none

/-! ### one operation that calls nothing: each a closure of its own (what hangs on the text alone is reckoned once) -/
structure OpF where
  run : Env → AHeap → Option (AV × AHeap)

def OpF.no : OpF := ⟨fun _ _ => none⟩

/-- A value that is known of one operand. -/
def pure1 (x : Operand) (f : AV → Option AV) : OpF :=
  ⟨fun e h => bnd (opv e x) fun a => bnd (f a) fun v => some (v, h)⟩
def pure2 (x y : Operand) (f : AV → AV → Option AV) : OpF :=
  ⟨fun e h => bnd (opv e x) fun a => bnd (opv e y) fun b => bnd (f a b) fun v => some (v, h)⟩
def read1 (x : Operand) (f : AHeap → AV → Option AV) : OpF :=
  ⟨fun e h => bnd (opv e x) fun a => bnd (f h a) fun v => some (v, h)⟩
def read2 (x y : Operand) (f : AHeap → AV → AV → Option AV) : OpF :=
  ⟨fun e h => bnd (opv e x) fun a => bnd (opv e y) fun b => bnd (f h a b) fun v => some (v, h)⟩
def mem1 (x : Operand) (f : AHeap → AV → Option (AV × AHeap)) : OpF :=
  ⟨fun e h => bnd (opv e x) fun a => f h a⟩
def mem2 (x y : Operand) (f : AHeap → AV → AV → Option (AV × AHeap)) : OpF :=
  ⟨fun e h => bnd (opv e x) fun a => bnd (opv e y) fun b => f h a b⟩
def write2 (x y : Operand) (f : AHeap → AV → AV → Option AHeap) : OpF :=
  ⟨fun e h => bnd (opv e x) fun a => bnd (opv e y) fun b => bnd (f h a b) fun h' => some (.undef, h')⟩
def write3 (x y z : Operand) (f : AHeap → AV → AV → AV → Option AHeap) : OpF :=
  ⟨fun e h => bnd (opv e x) fun a => bnd (opv e y) fun b => bnd (opv e z) fun c => bnd (f h a b c) fun h' => some (.undef, h')⟩

def opPick (c a b : Operand) : OpF :=
  ⟨fun e h => bnd (opv e c) fun x => bnd (opv e a) fun y => bnd (opv e b) fun z => bnd (boolOf x) fun t => some (cnd (t) (y) (z), h)⟩
structure NewO where
  run : AHeap → Option (AV × AHeap)
def allocF (P : Program) (t : TypeId) : NewO :=
  match zeroCells P t with
  | some z => match szOf P t with
    | some n => ⟨fun h => some (newRowV h t n z)⟩
    | none => ⟨fun _ => none⟩
  | none => ⟨fun _ => none⟩
def boxV (P : Program) (t : TypeId) (h : AHeap) (v : AV) : Option (AV × AHeap) :=
  bnd (szOf P t) fun n => cnd (Nat.beq (lenA v.cells) n && allA AV.scalar v.cells) (some (newRowV h t n v.cells)) (none)
def opBuild (P : Program) (t : TypeId) (ps : List (Nat × Operand)) : OpF :=
  ⟨fun e h => bnd (parts e ps) fun l => bnd ((buildF P t).run l) fun v => some (v, h)⟩
def opBuildSlice (P : Program) (t : TypeId) (n : Nat) (ps : List (Nat × Operand)) : OpF :=
  ⟨fun e h => bnd (parts e ps) fun l => (buildSliceF P t n).run h l⟩
structure Un1 where
  run : AV → Option AV
def makeIfaceF (P : Program) (t : TypeId) : Un1 :=
  match undOf P t with
  | some (.interface _) => ⟨fun _ => none⟩
  | some _ => ⟨fun x => some (.iface t x)⟩
  | none => ⟨fun _ => none⟩
def opMakeFunc (fn : Fn) (first captured : List Operand) : OpF :=
  ⟨fun e h => bnd (opvs e first) fun a => bnd (opvs e captured) fun b => some (.func fn a b, h)⟩
def opMakeMap : OpF := ⟨fun _ h => some (.map (some h.next), h.push (.map [] 0))⟩
def opSlice (P : Program) (t : TypeId) (x : Operand) (lo hi mx : Option Operand) : OpF :=
  ⟨fun e h => bnd (opv e x) fun v => bnd (opvo e lo) fun l => bnd (opvo e hi) fun b => bnd (opvo e mx) fun m =>
    bnd ((sliceF P t).run h v l b m) fun v => some (v, h)⟩

structure BuiltF where
  run : AHeap → List AV → Option (AV × AHeap)
def built1 (f : MemF) : BuiltF := ⟨fun h l => match l with
  | [x] => f.run h x
  | _ => none⟩
def builtR (f : LoadF) : BuiltF := ⟨fun h l => match l with
  | [x] => bnd (f.run h x) fun v => some (v, h)
  | _ => none⟩
def built2 (f : Mem2F) : BuiltF := ⟨fun h l => match l with
  | [x, y] => f.run h x y
  | _ => none⟩
def builtM (mx : Bool) : BuiltF := ⟨fun h l => match l with
  | x :: r => bnd (minmax mx x r) fun v => some (v, h)
  | _ => none⟩
def deleteF (P : Program) (tys : List TypeId) : Mem2F := ⟨fun h m k => deleteV P h tys m k⟩
def builtinF (P : Program) (tys : List TypeId) : Builtin → BuiltF
  | .append => built2 (appendF P tys)
  | .copy => built2 (copyF P tys)
  | .clear => built1 (clearF P tys)
  | .len => builtR (lenF P tys)
  | .cap => builtR (capF P tys)
  | .min => builtM false
  | .max => builtM true
  | _ => ⟨fun _ _ => none⟩
def opBuiltin (f : BuiltF) (args : List Operand) : OpF := ⟨fun e h => bnd (opvs e args) fun l => f.run h l⟩
def opCallF (P : Program) (c : Call) : OpF :=
  match c.callee with
  | .builtin b => opBuiltin (builtinF P c.argTypes.toList b) c.args.toList
  | _ => .no

def opF (P : Program) : Op → OpF
  | .move x => pure1 x some
  | .assign x => pure1 x some
  | .pick c a b => opPick c a b
  | .alloc t => ⟨fun _ h => (allocF P t).run h⟩
  | .box t x => mem1 x (boxV P t)
  | .build t ps => opBuild P t ps.toList
  | .buildSlice t n ps => opBuildSlice P t n ps.toList
  | .load t a => read1 a (loadF P t).run
  | .store t a v => write2 a v (storeN (szOf P t))
  | .nilCheck x => pure1 x nilCheckV
  | .binOp op t x y _ => pure2 x y (binF P op t (isConst x || isConst y)).run
  | .unOp op _ x => pure1 x (unF op).run
  | .convert s d x => mem1 x (convF P s d).run
  | .makeInterface t x => pure1 x (makeIfaceF P t).run
  | .makeFunc fn first captured => opMakeFunc fn first.toList captured.toList
  | .makeSlice t l c => mem2 l c (makeSliceF P t).run
  | .slice t x lo hi mx => opSlice P t x lo hi mx
  | .fieldAddr s x i => pure1 x (fieldAddrV (fieldOff P s i))
  | .field t x i => pure1 x (fieldV (fieldF P t i))
  | .indexAddr t x i => pure2 x i (indexAddrF P t).run
  | .index t x i => pure2 x i (indexF P t).run
  | .extract x i => pure1 x (extractV i)
  | .call c => opCallF P c
  | _ => .no

def undefs (n : Nat) : List AV := nrec [] (fun _ ih => .undef :: ih) n

end
end Go.Proofs.Ytlejcjgbkbmdmaa.BH
