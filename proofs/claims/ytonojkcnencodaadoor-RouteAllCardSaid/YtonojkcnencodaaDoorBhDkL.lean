/-
  Trees of routes (no program in sight).
-/
import Derived.Test.YtonojkcnencodaaDoorBhRtArg
section
namespace Go.Proofs.YtonojkcnencodaaDoor.BH.Rt
inductive Rt where
  | mk (ms : List MD) (to : List UInt8) (goes : Bool) (kids : List Rt)
def Rt.ms : Rt → List MD | mk a _ _ _ => a
def Rt.to : Rt → List UInt8 | mk _ b _ _ => b
def Rt.goes : Rt → Bool | mk _ _ c _ => c
def Rt.kids : Rt → List Rt | mk _ _ _ d => d
theorem kid_lt {r x : Rt} (h : x ∈ r.kids) : SizeOf.sizeOf x < SizeOf.sizeOf r := by
  cases r
  have := List.sizeOf_lt_of_mem h
  simp only [Rt.kids] at this
  simp only [Rt.mk.sizeOf_spec]; omega
theorem kids_lt (a : Rt) (r : List Rt) : SizeOf.sizeOf a.kids < SizeOf.sizeOf (a :: r) := by
  cases a
  simp only [Rt.kids, List.cons.sizeOf_spec, Rt.mk.sizeOf_spec]; omega
theorem rest_lt (a : Rt) (r : List Rt) : SizeOf.sizeOf r < SizeOf.sizeOf (a :: r) := by
  simp only [List.cons.sizeOf_spec]; omega
def kidsL : List Rt → List AV
  | [] => []
  | a :: r => [AL eM a.ms, .str a.to, .bool a.goes, .lst (kidsL a.kids) a.kids.length false true] ++ kidsL r
termination_by l => SizeOf.sizeOf l
decreasing_by all_goals first | exact kids_lt _ _ | exact rest_lt _ _
def eR (r : Rt) : List AV := [AL eM r.ms, .str r.to, .bool r.goes, .lst (kidsL r.kids) r.kids.length false true]
abbrev agR (r : Rt) : AV := .agg (eR r)
theorem kidsL_eq : ∀ l : List Rt, kidsL l = l.flatMap eR
  | [] => by unfold kidsL; rfl
  | a :: r => by rw [kidsL, kidsL_eq r]; rfl
theorem kids_al (l : List Rt) : AV.lst (kidsL l) l.length false true = AL eR l := by rw [kidsL_eq]; rfl
/-- How many routes there are; how much of all. -/
def cntL : List Rt → Nat
  | [] => 0
  | a :: r => 1 + cntL a.kids + cntL r
termination_by l => SizeOf.sizeOf l
decreasing_by all_goals first | exact kids_lt _ _ | exact rest_lt _ _
def cnt (r : Rt) : Nat := 1 + cntL r.kids
def blkL : List Rt → Nat
  | [] => 0
  | a :: r => 1 + a.ms.length + blkL a.kids + blkL r
termination_by l => SizeOf.sizeOf l
decreasing_by all_goals first | exact kids_lt _ _ | exact rest_lt _ _
def blk (r : Rt) : Nat := 1 + r.ms.length + blkL r.kids
theorem cntL_cons (a : Rt) (r : List Rt) : cntL (a :: r) = cnt a + cntL r := by rw [cntL]; rfl
theorem cntL_nil : cntL [] = 0 := by unfold cntL; rfl
theorem blkL_cons (a : Rt) (r : List Rt) : blkL (a :: r) = blk a + blkL r := by rw [blkL]; rfl
theorem blkL_nil : blkL [] = 0 := by unfold blkL; rfl
theorem cntL_append : ∀ l m : List Rt, cntL (l ++ m) = cntL l + cntL m
  | [], m => by rw [cntL_nil]; simp
  | a :: r, m => by rw [List.cons_append, cntL_cons, cntL_cons, cntL_append r m]; omega
theorem blkL_mem : ∀ {l : List Rt} {x : Rt}, x ∈ l → blk x ≤ blkL l
  | a :: r, x, h => by
    rw [blkL_cons]
    rcases List.mem_cons.mp h with rfl | h
    · omega
    · have := blkL_mem h; omega
theorem blk_kid {r x : Rt} (h : x ∈ r.kids) : blk x < blk r := by
  have := blkL_mem h
  unfold blk at this ⊢; omega
theorem len_blk : ∀ l : List Rt, l.length ≤ blkL l
  | [] => by simp
  | a :: r => by
    have := len_blk r
    rw [blkL_cons, List.length_cons]
    unfold blk; omega
theorem cntL_blk : ∀ l : List Rt, cntL l ≤ blkL l
  | [] => by rw [cntL_nil]; omega
  | a :: r => by
    have h1 := cntL_blk r
    have h2 := cntL_blk a.kids
    rw [cntL_cons, blkL_cons]
    unfold cnt blk; omega
termination_by l => SizeOf.sizeOf l
decreasing_by all_goals first | exact kids_lt _ _ | exact rest_lt _ _
theorem cntL_take {l : List Rt} {k : Nat} {x : Rt} (hx : l[k]? = some x) : cntL (l.take (k + 1)) = cntL (l.take k) + cnt x := by
  rw [take_one hx, cntL_append, cntL_cons, cntL_nil]; omega
theorem cntL_takes (l : List Rt) (k : Nat) : cntL (l.take k) ≤ cntL l := by
  have := cntL_append (l.take k) (l.drop k)
  rw [List.take_append_drop] at this; omega
/-- May a tree be? -/
noncomputable def rightV : Nat → Rt → Bool
  | 0, _ => false
  | n + 1, r => wordV r.to && msV r.ms && r.kids.all (rightV n)
noncomputable def RightV (r : Rt) : Bool := decide (r.ms.length = 0) && rightV 8 r && decide (cnt r ≤ 16)
/-- Whom a set goes to. -/
def toL (set : List LD) : List Rt → List (List UInt8) × Bool
  | [] => ([], false)
  | a :: r => if allV set a.ms then (if a.goes then ((if (toL set a.kids).2 then (toL set a.kids).1 else [a.to]) ++ (toL set r).1, true) else (if (toL set a.kids).2 then (toL set a.kids).1 else [a.to], true)) else toL set r
termination_by l => SizeOf.sizeOf l
decreasing_by all_goals first | exact kids_lt _ _ | exact rest_lt _ _
def toV (set : List LD) (r : Rt) : List (List UInt8) := if (toL set r.kids).2 then (toL set r.kids).1 else [r.to]
theorem toL_nil (set : List LD) : toL set [] = ([], false) := by unfold toL; rfl
theorem toL_cons (set : List LD) (a : Rt) (r : List Rt) : toL set (a :: r) = if allV set a.ms then (if a.goes then (toV set a ++ (toL set r).1, true) else (toV set a, true)) else toL set r := by rw [toL]; rfl
noncomputable def ToV (set : List LD) (r : Rt) : List (List UInt8) := if RightV r then toV set r else []
def cntA (l : List Rt) : Int := l.foldl (fun (n : Int) x => n + ((cnt x : Nat) : Int)) 1
theorem cntA_eq (l : List Rt) : cntA l = ((1 + cntL l : Nat) : Int) := by
  have h : ∀ (l : List Rt) (z : Int), l.foldl (fun (n : Int) x => n + ((cnt x : Nat) : Int)) z = z + ((cntL l : Nat) : Int) := by
    intro l
    induction l with
    | nil => intro z; rw [cntL_nil]; simp
    | cons a r ih => intro z; rw [List.foldl_cons, ih, cntL_cons]; omega
  unfold cntA; rw [h]; omega
theorem cntA_next {l : List Rt} {k : Nat} {x : Rt} (hx : l[k]? = some x) : cntA (l.take k) + (cnt x : Nat) = cntA (l.take (k + 1)) := by
  rw [cntA_eq, cntA_eq, cntL_take hx]; omega
theorem right_word {n : Nat} {r : Rt} (h : wordV r.to = false) : rightV n r = false := by cases n <;> simp [rightV, h]
theorem right_ms {n : Nat} {r : Rt} (h : msV r.ms = false) : rightV n r = false := by cases n <;> simp [rightV, h]
theorem right_kid {n k : Nat} {r x : Rt} (hx : r.kids[k]? = some x) (h : rightV (n - 1) x = false) : rightV n r = false := by
  cases n with
  | zero => rfl
  | succ n => rw [rightV, all_not (p := rightV n) hx h, Bool.and_false]
theorem right_all {n : Nat} {r : Rt} (hn : 1 ≤ (n : Int)) (h1 : wordV r.to = true) (h2 : msV r.ms = true) (h3 : r.kids.all (rightV (n - 1)) = true) : rightV n r = true := by
  cases n with
  | zero => omega
  | succ n => rw [rightV, h1, h2]; exact h3
theorem toL_len (set : List LD) : ∀ l : List Rt, (toL set l).1.length ≤ cntL l
  | [] => by rw [toL_nil, cntL_nil]; simp
  | a :: r => by
    have h1 := toL_len set r
    have h2 := toL_len set a.kids
    have h3 : (toV set a).length ≤ cnt a := by
      unfold toV cnt; split <;> (try simp only [List.length_singleton]) <;> omega
    rw [toL_cons, cntL_cons]
    split
    · split
      · simp only [List.length_append]; omega
      · simp only []; omega
    · omega
termination_by l => SizeOf.sizeOf l
decreasing_by all_goals first | exact kids_lt _ _ | exact rest_lt _ _
theorem toV_len (set : List LD) (r : Rt) : (toV set r).length ≤ cnt r := by
  have := toL_len set r.kids
  unfold toV cnt; split <;> (try simp only [List.length_singleton]) <;> omega
/-- How far one is: what is told as yet, and what the kids that are left come to. -/
def At (set : List LD) (r : Rt) (k : Nat) (out : List (List UInt8)) (met : Bool) : Prop := (out ++ (toL set (r.kids.drop k)).1, met || (toL set (r.kids.drop k)).2) = toL set r.kids
theorem at_begin (set : List LD) (r : Rt) : At set r 0 [] false := by unfold At; simp
theorem at_skip {set : List LD} {r x : Rt} {k : Nat} {out : List (List UInt8)} {met : Bool} (hx : r.kids[k]? = some x) (h : At set r k out met) (hm : allV set x.ms = false) : At set r (k + 1) out met := by
  unfold At at h ⊢; rw [drop_one hx, toL_cons, hm] at h; exact h
theorem at_goes {set : List LD} {r x : Rt} {k : Nat} {out : List (List UInt8)} {met : Bool} (hx : r.kids[k]? = some x) (h : At set r k out met) (hm : allV set x.ms = true) (hg : x.goes = true) : At set r (k + 1) (out ++ toV set x) true := by
  unfold At at h ⊢; rw [drop_one hx, toL_cons, hm, hg] at h
  simp only [if_true, Bool.or_true, Bool.true_or] at h ⊢
  rw [List.append_assoc]; exact h
theorem at_stop {set : List LD} {r x : Rt} {k : Nat} {out : List (List UInt8)} {met : Bool} (hx : r.kids[k]? = some x) (h : At set r k out met) (hm : allV set x.ms = true) (hg : x.goes = false) : toL set r.kids = (out ++ toV set x, true) := by
  unfold At at h; rw [drop_one hx, toL_cons, hm, hg] at h
  simp at h
  exact h.symm
theorem at_end {set : List LD} {r : Rt} {k : Nat} {out : List (List UInt8)} {met : Bool} (hk : r.kids.length ≤ k) (h : At set r k out met) : toL set r.kids = (out, met) := by
  unfold At at h; rw [List.drop_eq_nil_of_le hk, toL_nil] at h
  simpa using h.symm
end Go.Proofs.YtonojkcnencodaaDoor.BH.Rt

end
section
namespace Go.Proofs.YtonojkcnencodaaDoor.BH.Dk

structure St where
  room : Int
  firm : Int
  b : List UInt8
  off : Bool
  lit : Bool
  fuse : Int
abbrev DK (s : St) : List AV := [.int .i64 s.room, .int .i64 s.firm, AL eB s.b, .bool s.off, .bool s.lit, .int .i64 s.fuse]
/-- How many of n go. -/
def burnV (s : St) (n : Int) : Int := if s.lit then min n s.fuse else n
def burnS (s : St) (n : Int) : St := if s.lit then { s with fuse := s.fuse - min n s.fuse, off := decide (min n s.fuse < n) } else s
/-- What is known of a disk. -/
structure Ok (s : St) : Prop where
  r0 : 0 ≤ s.room
  r1 : s.room ≤ 20000
  b : (s.b.length : Int) ≤ s.room
  f0 : 0 ≤ s.firm
  f1 : s.firm ≤ s.b.length
  l0 : s.lit = true → 0 ≤ s.fuse
  l1 : s.fuse ≤ 9223372036854775807
  l2 : -9223372036854775808 ≤ s.fuse
def newS (room : Int) : St := ⟨max 0 (min room 20000), 0, [], false, false, 0⟩
def armS (s : St) (n : Int) : St := { s with fuse := n, lit := decide (0 ≤ n) }
def putS (s : St) (l : List UInt8) : St := { burnS s l.length with b := s.b ++ l.take (burnV s l.length).toNat }
def writeV (s : St) (l : List UInt8) : Int := if s.off then 9 else if (s.room : Int) < s.b.length + l.length then 8 else if (putS s l).off then 9 else 0
def writeS (s : St) (l : List UInt8) : St := if s.off then s else if (s.room : Int) < s.b.length + l.length then s else putS s l
def oneV (s : St) : Bool := !s.off && decide (burnV s 1 = 1)
def oneS (s : St) : St := if s.off then s else burnS s 1
def syncV (s : St) : Int := if oneV s then 0 else 9
def syncS (s : St) : St := if oneV s then { oneS s with firm := (oneS s).b.length } else oneS s
def backV (s : St) (n : Int) : Int := if s.off then 9 else if n < 0 ∨ (s.b.length : Int) < n then 1 else if oneV s then 0 else 9
def backS (s : St) (n : Int) : St := if s.off then s else if n < 0 ∨ (s.b.length : Int) < n then s else if oneV s then { oneS s with b := (oneS s).b.take n.toNat, firm := min (oneS s).firm n } else oneS s
def readL (s : St) : List UInt8 := if s.off then [] else s.b
def bootN (s : St) (keep : Int) : Int := s.firm + max 0 (min keep (s.b.length - s.firm))
def bootS (s : St) (keep : Int) : St := ⟨s.room, bootN s keep, s.b.take (bootN s keep).toNat, false, false, 0⟩

/-- A byte slice to be read. -/
def eL (l : List UInt8) : List AV := [AL eB l]
/-- Some bytes, and zeros behind them. -/
def padB (l : List UInt8) (n : Nat) : List UInt8 := l ++ List.replicate (n - l.length) 0
theorem natOr_of {d : Nat} {k : IntKind} {z : Int} {j : Nat} (h : z = j) : natOr d (some (.int k z)) = some j := by subst h; rfl
/-- A disk without a fuse. -/
def sA (r : Nat) (f : Int) (b : List UInt8) : St := ⟨r, f, b, false, false, 0⟩
def clampV (n lo hi : Int) : Int := if n < lo then lo else if hi < n then hi else n
def withinV (n lo hi : Int) : Int := lo + (if n.tmod (hi - lo + 1) < 0 then n.tmod (hi - lo + 1) + hi - lo + 1 else n.tmod (hi - lo + 1))
theorem withinV_in (n lo hi : Int) (h1 : lo ≤ hi) : lo ≤ withinV n lo hi ∧ withinV n lo hi ≤ hi := by
  unfold withinV
  have a1 : -(hi - lo + 1) < n.tmod (hi - lo + 1) := Int.lt_tmod_of_pos n (show 0 < hi - lo + 1 by omega)
  have a2 : n.tmod (hi - lo + 1) < hi - lo + 1 := Int.tmod_lt_of_pos n (by omega)
  split <;> omega
end Go.Proofs.YtonojkcnencodaaDoor.BH.Dk

end
