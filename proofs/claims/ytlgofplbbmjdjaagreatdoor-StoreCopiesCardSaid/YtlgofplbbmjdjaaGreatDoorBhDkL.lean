/-
  The disk: what its calls come to (no program in sight).
-/
import Derived.Test.YtlgofplbbmjdjaaGreatDoorBhW12
namespace Go.Proofs.YtlgofplbbmjdjaaGreatDoor.BH.Dk

structure St where
  room : Int
  firm : Int
  b : List UInt8
  off : Bool
  lit : Bool
  fuse : Int
abbrev DK (s : St) : List AV := [.int .i64 s.room, .int .i64 s.firm, AL eB s.b, .bool s.off, .bool s.lit, .int .i64 s.fuse]
/-- How many of n go. -/
def burnV (s : St) (n : Int) : Int := if s.lit then min n s.fuse else n
def burnS (s : St) (n : Int) : St := if s.lit then { s with fuse := s.fuse - min n s.fuse, off := decide (min n s.fuse < n) } else s
/-- What is known of a disk. -/
structure Ok (s : St) : Prop where
  r0 : 0 ≤ s.room
  r1 : s.room ≤ 20000
  b : (s.b.length : Int) ≤ s.room
  f0 : 0 ≤ s.firm
  f1 : s.firm ≤ s.b.length
  l0 : s.lit = true → 0 ≤ s.fuse
  l1 : s.fuse ≤ 9223372036854775807
  l2 : -9223372036854775808 ≤ s.fuse
def newS (room : Int) : St := ⟨max 0 (min room 20000), 0, [], false, false, 0⟩
def armS (s : St) (n : Int) : St := { s with fuse := n, lit := decide (0 ≤ n) }
def putS (s : St) (l : List UInt8) : St := { burnS s l.length with b := s.b ++ l.take (burnV s l.length).toNat }
def writeV (s : St) (l : List UInt8) : Int := if s.off then 9 else if (s.room : Int) < s.b.length + l.length then 8 else if (putS s l).off then 9 else 0
def writeS (s : St) (l : List UInt8) : St := if s.off then s else if (s.room : Int) < s.b.length + l.length then s else putS s l
def oneV (s : St) : Bool := !s.off && decide (burnV s 1 = 1)
def oneS (s : St) : St := if s.off then s else burnS s 1
def syncV (s : St) : Int := if oneV s then 0 else 9
def syncS (s : St) : St := if oneV s then { oneS s with firm := (oneS s).b.length } else oneS s
def backV (s : St) (n : Int) : Int := if s.off then 9 else if n < 0 ∨ (s.b.length : Int) < n then 1 else if oneV s then 0 else 9
def backS (s : St) (n : Int) : St := if s.off then s else if n < 0 ∨ (s.b.length : Int) < n then s else if oneV s then { oneS s with b := (oneS s).b.take n.toNat, firm := min (oneS s).firm n } else oneS s
def readL (s : St) : List UInt8 := if s.off then [] else s.b
def bootN (s : St) (keep : Int) : Int := s.firm + max 0 (min keep (s.b.length - s.firm))
def bootS (s : St) (keep : Int) : St := ⟨s.room, bootN s keep, s.b.take (bootN s keep).toNat, false, false, 0⟩

/-- A byte slice to be read. -/
def eL (l : List UInt8) : List AV := [AL eB l]
/-- Some bytes, and zeros behind them. -/
def padB (l : List UInt8) (n : Nat) : List UInt8 := l ++ List.replicate (n - l.length) 0
theorem natOr_of {d : Nat} {k : IntKind} {z : Int} {j : Nat} (h : z = j) : natOr d (some (.int k z)) = some j := by subst h; rfl
/-- A disk without a fuse. -/
def sA (r : Nat) (f : Int) (b : List UInt8) : St := ⟨r, f, b, false, false, 0⟩
def clampV (n lo hi : Int) : Int := if n < lo then lo else if hi < n then hi else n
def withinV (n lo hi : Int) : Int := lo + (if n.tmod (hi - lo + 1) < 0 then n.tmod (hi - lo + 1) + hi - lo + 1 else n.tmod (hi - lo + 1))
theorem withinV_in (n lo hi : Int) (h1 : lo ≤ hi) : lo ≤ withinV n lo hi ∧ withinV n lo hi ≤ hi := by
  unfold withinV
  have a1 : -(hi - lo + 1) < n.tmod (hi - lo + 1) := Int.lt_tmod_of_pos n (show 0 < hi - lo + 1 by omega)
  have a2 : n.tmod (hi - lo + 1) < hi - lo + 1 := Int.tmod_lt_of_pos n (by omega)
  split <;> omega
end Go.Proofs.YtlgofplbbmjdjaaGreatDoor.BH.Dk
