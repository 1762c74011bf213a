/-
  The disk: what its calls come to (no program in sight).
-/
import Derived.Test.YtlgofplbbmjdjaaGreatDoorBhW12
namespace Go.Proofs.YtlgofplbbmjdjaaGreatDoor.BH.Dk

structure St where
  room : Int
  firm : Int
  b : List UInt8
  off : Bool
  lit : Bool
  fuse : Int
abbrev DK (s : St) : List AV := [.int .i64 s.room, .int .i64 s.firm, AL eB s.b, .bool s.off, .bool s.lit, .int .i64 s.fuse]
/-- How many of n go. -/
def burnV (s : St) (n : Int) : Int := if s.lit then min n s.fuse else n
def burnS (s : St) (n : Int) : St := if s.lit then { s with fuse := s.fuse - min n s.fuse, off := decide (min n s.fuse < n) } else s
/-- What is known of a disk. -/
structure Ok (s : St) : Prop where
  r0 : 0 ≤ s.room
  r1 : s.room ≤ 20000
  b : (s.b.length : Int) ≤ s.room
  f0 : 0 ≤ s.firm
  f1 : s.firm ≤ s.b.length
  l0 : s.lit = true → 0 ≤ s.fuse
  l1 : s.fuse ≤ 9223372036854775807
  l2 : -9223372036854775808 ≤ s.fuse
def newS (room : Int) : St := ⟨max 0 (min room 20000), 0, [], false, false, 0⟩
def armS (s : St) (n : Int) : St := { s with fuse := n, lit := decide (0 ≤ n) }
def putS (s : St) (l : List UInt8) : St := { burnS s l.length with b := s.b ++ l.take (burnV s l.length).toNat }
def writeV (s : St) (l : List UInt8) : Int := if s.off then 9 else if (s.room : Int) < s.b.length + l.length then 8 else if (putS s l).off then 9 else 0
def writeS (s : St) (l : List UInt8) : St := if s.off then s else if (s.room : Int) < s.b.length + l.length then s else putS s l
def oneV (s : St) : Bool := !s.off && decide (burnV s 1 = 1)
def oneS (s : St) : St := if s.off then s else burnS s 1
def syncV (s : St) : Int := if oneV s then 0 else 9
def syncS (s : St) : St := if oneV s then { oneS s with firm := (oneS s).b.length } else oneS s
def backV (s : St) (n : Int) : Int := if s.off then 9 else if n < 0 ∨ (s.b.length : Int) < n then 1 else if oneV s then 0 else 9
def backS (s : St) (n : Int) : St := if s.off then s else if n < 0 ∨ (s.b.length : Int) < n then s else if oneV s then { oneS s with b := (oneS s).b.take n.toNat, firm := min (oneS s).firm n } else oneS s
def readL (s : St) : List UInt8 := if s.off then [] else s.b
def bootN (s : St) (keep : Int) : Int := s.firm + max 0 (min keep (s.b.length - s.firm))
def bootS (s : St) (keep : Int) : St := ⟨s.room, bootN s keep, s.b.take (bootN s keep).toNat, false, false, 0⟩

theorem burnV_in (s : St) (n : Int) (h : 0 ≤ n) (k : Ok s) : 0 ≤ burnV s n ∧ burnV s n ≤ n := by
  unfold burnV
  have := k.l0
  split <;> rename_i hl
  · have := this hl; omega
  · omega
theorem burnS_b (s : St) (n : Int) : (burnS s n).b = s.b := by unfold burnS; split <;> rfl
theorem burnS_room (s : St) (n : Int) : (burnS s n).room = s.room := by unfold burnS; split <;> rfl
theorem burnS_firm (s : St) (n : Int) : (burnS s n).firm = s.firm := by unfold burnS; split <;> rfl
theorem oneS_b (s : St) : (oneS s).b = s.b := by unfold oneS; split <;> first | rfl | exact burnS_b _ _
theorem oneS_firm (s : St) : (oneS s).firm = s.firm := by unfold oneS; split <;> first | rfl | exact burnS_firm _ _
theorem oneS_room (s : St) : (oneS s).room = s.room := by unfold oneS; split <;> first | rfl | exact burnS_room _ _
theorem bootN_in (s : St) (keep : Int) (k : Ok s) : 0 ≤ bootN s keep ∧ bootN s keep ≤ s.b.length := by
  have := k.f0; have := k.f1
  unfold bootN; omega

/-- A byte slice to be read. -/
def eL (l : List UInt8) : List AV := [AL eB l]
theorem byte_scalar (b : UInt8) : (eB b).all AV.scalar = true := rfl
theorem byte_done (b : UInt8) : (eB b).all doneV = true := rfl
theorem flat_take {l : List (List UInt8)} {k : Nat} {x : List UInt8} (hx : l[k]? = some x) : (l.take (k + 1)).flatten = (l.take k).flatten ++ x := by
  rw [take_one hx, List.flatten_append]; simp
theorem flat_take_le (l : List (List UInt8)) (k : Nat) : (l.take k).flatten.length ≤ l.flatten.length := by
  conv => rhs; rw [← List.take_append_drop k l]
  rw [List.flatten_append, List.length_append]; omega
theorem flat_elem_le {l : List (List UInt8)} {k : Nat} {x : List UInt8} (hx : l[k]? = some x) : (l.take k).flatten.length + x.length ≤ l.flatten.length := by
  have := flat_take_le l (k + 1)
  rw [flat_take hx, List.length_append] at this; exact this
/-- Some bytes, and zeros behind them. -/
def padB (l : List UInt8) (n : Nat) : List UInt8 := l ++ List.replicate (n - l.length) 0
theorem padB_len {l : List UInt8} {n : Nat} (h : l.length ≤ n) : (padB l n).length = n := by simp [padB]; omega
theorem padB_full {l : List UInt8} {n : Nat} (h : l.length = n) : padB l n = l := by simp [padB, h]
theorem padB_nil (n : Nat) : (padB [] n).flatMap eB = repl n [.int .u8 0] := by
  rw [repl_flat (enc := eB) (x := 0) (z := [.int .u8 0]) n rfl]; simp [padB]
theorem padB_over {l x : List UInt8} {n : Nat} (h : l.length + x.length ≤ n) : over ((padB l n).flatMap eB) (l.length * 1) (x.flatMap eB) = some ((padB (l ++ x) n).flatMap eB) := by
  rw [over_of (by rw [flat_length eB_len, flat_length eB_len, padB_len (by omega)]; omega)]
  congr 1
  rw [Nat.mul_one, flat_length eB_len, Nat.mul_one]
  have e1 : ((padB l n).flatMap eB).take l.length = l.flatMap eB := by
    unfold padB
    rw [List.flatMap_append, List.take_append_of_le_length (by rw [flat_length eB_len]; omega), List.take_of_length_le (by rw [flat_length eB_len]; omega)]
  have e2 : ((padB l n).flatMap eB).drop (l.length + x.length) = (List.replicate (n - (l ++ x).length) (0 : UInt8)).flatMap eB := by
    unfold padB
    rw [List.flatMap_append, List.drop_append, List.drop_eq_nil_of_le (by rw [flat_length eB_len]; omega), List.nil_append, flat_length eB_len, Nat.mul_one]
    rw [show l.length + x.length - l.length = x.length by omega, show n - l.length = x.length + (n - (l ++ x).length) by rw [List.length_append]; omega, ← List.replicate_append_replicate, List.flatMap_append]
    rw [List.drop_append_of_le_length (by rw [flat_length eB_len]; simp), List.drop_eq_nil_of_le (by rw [flat_length eB_len]; simp), List.nil_append]
  rw [e1, e2]
  unfold padB
  rw [List.flatMap_append, List.flatMap_append]
theorem natOr_of {d : Nat} {k : IntKind} {z : Int} {j : Nat} (h : z = j) : natOr d (some (.int k z)) = some j := by subst h; rfl
/-- A disk without a fuse. -/
def sA (r : Nat) (f : Int) (b : List UInt8) : St := ⟨r, f, b, false, false, 0⟩
theorem sA_ok {r : Nat} {f : Int} {b : List UInt8} (hr : r ≤ 20000) (hb : b.length ≤ r) (h0 : 0 ≤ f) (h1 : f ≤ b.length) : Ok (sA r f b) :=
  ⟨by simp [sA]; try omega, by simp [sA]; omega, by simp [sA]; omega, h0, h1, fun h => (by cases h), by simp [sA], by simp [sA]⟩
theorem newA {x : Int} {r : Nat} (h : x = r) (hr : r ≤ 20000) : newS x = sA r 0 [] := by subst h; unfold newS sA; congr 1; omega
theorem newS_ok (x : Int) : Ok (newS x) := ⟨by unfold newS; dsimp only; omega, by unfold newS; dsimp only; omega, by unfold newS; dsimp only; simp; omega, by show (0 : Int) ≤ 0; decide, by show (0 : Int) ≤ (([] : List UInt8).length : Int); decide, fun h => (by cases h), by show (0 : Int) ≤ _; decide, by show _ ≤ (0 : Int); decide⟩
theorem writeA {r : Nat} {f : Int} {b l : List UInt8} (h : b.length + l.length ≤ r) : writeV (sA r f b) l = 0 ∧ writeS (sA r f b) l = sA r f (b ++ l) := by
  have h2 : ¬ ((r : Int) < b.length + l.length) := by omega
  constructor
  · unfold writeV sA putS burnS burnV; simp [h2]
  · unfold writeS sA putS burnS burnV; simp [h2]
theorem writeF {s : St} {l : List UInt8} (ho : s.off = false) (h : s.room < s.b.length + l.length) : writeV s l = 8 ∧ writeS s l = s := by
  constructor
  · unfold writeV; rw [ho, if_neg (by simp), if_pos h]
  · unfold writeS; rw [ho, if_neg (by simp), if_pos h]
theorem syncA {r : Nat} {f : Int} {b : List UInt8} : syncV (sA r f b) = 0 ∧ syncS (sA r f b) = sA r b.length b := by
  constructor <;> (simp [syncV, syncS, oneV, oneS, burnV, burnS, sA])
theorem backA {r n : Nat} {f : Int} {b : List UInt8} (h : n ≤ b.length) : backV (sA r f b) n = 0 ∧ backS (sA r f b) n = sA r (min f n) (b.take n) := by
  have h2 : ¬ ((n : Int) < 0 ∨ ((sA r f b).b.length : Int) < n) := by show ¬ ((n : Int) < 0 ∨ (b.length : Int) < n); omega
  constructor
  · unfold backV; rw [if_neg (by simp [sA]), if_neg h2]; simp [oneV, burnV, sA]
  · unfold backS; rw [if_neg (by simp [sA]), if_neg h2]; simp [oneV, oneS, burnV, burnS, sA]
theorem backF {s : St} {n : Int} (ho : s.off = false) (h : n < 0 ∨ (s.b.length : Int) < n) : backV s n = 1 ∧ backS s n = s := by
  constructor
  · unfold backV; rw [ho, if_neg (by simp), if_pos h]
  · unfold backS; rw [ho, if_neg (by simp), if_pos h]
theorem bootA (r : Nat) (f : Int) (b : List UInt8) (keep : Int) : bootS (sA r f b) keep = sA r (f + max 0 (min keep (b.length - f))) (b.take (f + max 0 (min keep (b.length - f))).toNat) := rfl
theorem readA (r : Nat) (f : Int) (b : List UInt8) : readL (sA r f b) = b := rfl
theorem flat_zero {l : List (List UInt8)} (h : l.flatten = []) {k : Nat} {x : List UInt8} (hx : l[k]? = some x) : x = [] := List.flatten_eq_nil_iff.mp h x (List.mem_of_getElem? hx)
theorem putS_off (s : St) (l : List UInt8) : (putS s l).off = (burnS s l.length).off := rfl
theorem rep_eB (n : Nat) : repl n [.int .u8 0] = (List.replicate n (0 : UInt8)).flatMap eB := repl_flat (enc := eB) (x := 0) (z := [.int .u8 0]) n rfl
theorem rep_len (n : Nat) : (repl n [.int .u8 0]).length = n * 1 := by rw [rep_eB, flat_length eB_len, List.length_replicate]
theorem rep_done (n : Nat) : (repl n [.int .u8 0]).all doneV = true := by rw [rep_eB]; exact flat_done byte_done _
def clampV (n lo hi : Int) : Int := if n < lo then lo else if hi < n then hi else n
theorem clampV_in (n : Int) {lo hi : Int} (h : lo ≤ hi) : lo ≤ clampV n lo hi ∧ clampV n lo hi ≤ hi := by unfold clampV; split <;> (try split) <;> omega
def withinV (n lo hi : Int) : Int := lo + (if n.tmod (hi - lo + 1) < 0 then n.tmod (hi - lo + 1) + hi - lo + 1 else n.tmod (hi - lo + 1))
theorem withinV_in (n lo hi : Int) (h1 : lo ≤ hi) : lo ≤ withinV n lo hi ∧ withinV n lo hi ≤ hi := by
  unfold withinV
  have a1 : -(hi - lo + 1) < n.tmod (hi - lo + 1) := Int.lt_tmod_of_pos n (show 0 < hi - lo + 1 by omega)
  have a2 : n.tmod (hi - lo + 1) < hi - lo + 1 := Int.tmod_lt_of_pos n (by omega)
  split <;> omega
end Go.Proofs.YtlgofplbbmjdjaaGreatDoor.BH.Dk
