/-
  Words, matchers, trees of routes: what the calls come to (no program in sight).
-/
import Derived.Test.YtlgofplbbmjdjaaGreatDoorBhW18
namespace Go.Proofs.YtlgofplbbmjdjaaGreatDoor.BH.Rt
/-- Letters; what a name may have within. -/
def small : List UInt8 := [97, 98, 99, 100, 101, 102, 103, 104, 105, 106, 107, 108, 109, 110, 111, 112, 113, 114, 115, 116, 117, 118, 119, 120, 121, 122]
def inner : List UInt8 := [97, 98, 99, 100, 101, 102, 103, 104, 105, 106, 107, 108, 109, 110, 111, 112, 113, 114, 115, 116, 117, 118, 119, 120, 121, 122, 48, 49, 50, 51, 52, 53, 54, 55, 56, 57, 95]
def isIn (i : Nat) : Bool := (inner.map UInt8.toNat).any fun j => Nat.beq j i
def SET : List AV := tab 256 isIn
def trimL (l : List UInt8) : List UInt8 := l.dropWhile fun b => isIn b.toNat
def trimR (l : List UInt8) : List UInt8 := (l.reverse.dropWhile fun b => isIn b.toNat).reverse
theorem trimL_in {b : UInt8} {l : List UInt8} (h : isIn b.toNat = true) : trimL (b :: l) = trimL l := by simp [trimL, h]
theorem trimL_out {b : UInt8} {l : List UInt8} (h : isIn b.toNat = false) : trimL (b :: l) = b :: l := by simp [trimL, h]
theorem trimR_in {b : UInt8} {l : List UInt8} (h : isIn b.toNat = true) : trimR (l ++ [b]) = trimR l := by simp [trimR, h]
theorem trimR_out {b : UInt8} {l : List UInt8} (h : isIn b.toNat = false) : trimR (l ++ [b]) = l ++ [b] := by simp [trimR, h]
theorem drop_head {p : UInt8 → Bool} {m r : List UInt8} {a : UInt8} (h : m.dropWhile p = a :: r) : p a = false := by
  induction m with
  | nil => cases h
  | cons b t ih =>
    rw [List.dropWhile_cons] at h
    by_cases hb : p b = true
    · rw [if_pos hb] at h; exact ih h
    · rw [if_neg hb] at h; cases h; simpa using hb
theorem trim_nil (l : List UInt8) : trimL (trimR l) = [] ↔ l.all (fun b => isIn b.toNat) = true := by
  have h : ∀ m : List UInt8, (m.dropWhile fun b => isIn b.toNat) = [] ↔ m.all (fun b => isIn b.toNat) = true := by
    intro m
    induction m with
    | nil => simp
    | cons a r ih =>
      rw [List.dropWhile_cons, List.all_cons]
      by_cases ha : isIn a.toNat = true
      · rw [if_pos ha, ih, ha]; simp
      · rw [if_neg ha]; simp [ha]
  unfold trimL trimR
  rw [h, List.all_reverse]
  constructor
  · intro hd
    have : (l.reverse.dropWhile fun b => isIn b.toNat) = [] := by
      cases hx : l.reverse.dropWhile fun b => isIn b.toNat with
      | nil => rfl
      | cons a r =>
        rw [hx] at hd
        have h1 : isIn a.toNat = true := by simp at hd; exact hd.1
        have h2 := drop_head hx
        rw [h1] at h2; cases h2
    rw [h, List.all_reverse] at this; exact this
  · intro ha
    have : (l.reverse.dropWhile fun b => isIn b.toNat) = [] := by rw [h, List.all_reverse]; exact ha
    rw [this]; rfl
/-- May a text be a name? -/
noncomputable def wordV (s : List UInt8) : Bool := match s with
  | [] => false
  | b :: _ => decide (s.length ≤ 24) && decide (0 ≤ indexByteV b.toNat small 0) && s.all (fun b => isIn b.toNat)
theorem word_long {b : UInt8} {r : List UInt8} (h : 24 < ((b :: r).length : Int)) : wordV (b :: r) = false := by
  unfold wordV; rw [decide_eq_false (by omega)]; rfl
theorem word_first {b : UInt8} {r : List UInt8} (h : indexByteV b.toNat small 0 < 0) : wordV (b :: r) = false := by
  unfold wordV; simp only []; rw [show decide (0 ≤ indexByteV b.toNat small 0) = false from decide_eq_false (by omega), Bool.and_false]; rfl
theorem word_ok {b : UInt8} {r : List UInt8} (h : ((b :: r).length : Int) ≤ 24) (h1 : ¬ indexByteV b.toNat small 0 < 0) : decide (trimL (trimR (b :: r)) = []) = wordV (b :: r) := by
  unfold wordV; simp only []
  rw [decide_eq_true (show (b :: r).length ≤ 24 by omega), decide_eq_true (show 0 ≤ indexByteV b.toNat small 0 by omega), Bool.true_and, Bool.true_and]
  rw [Bool.eq_iff_iff, decide_eq_true_eq]; exact trim_nil _
theorem last_of {l : List UInt8} {k : Nat} (h : l.length = k + 1) : ∃ b m, l = m ++ [b] ∧ m.length = k := by
  have hne : l ≠ [] := by rintro rfl; cases h
  exact ⟨l.getLast hne, l.dropLast, (List.dropLast_concat_getLast hne).symm, by simp [h]⟩
/-- Labels, matchers. -/
structure LD where
  name : List UInt8
  value : List UInt8
  deriving DecidableEq
structure MD where
  name : List UInt8
  value : List UInt8
  kind : Int
  deriving DecidableEq
def eL (x : LD) : List AV := [.str x.name, .str x.value]
def eM (m : MD) : List AV := [.str m.name, .str m.value, .int .i64 m.kind]
def signV (k : Int) : List UInt8 := if k = 1 then [61] else if k = 2 then [33, 61] else if k = 3 then [94, 61] else if k = 4 then [33, 94] else []
def prefV (s p : List UInt8) : Bool := decide (p.length ≤ s.length) && decide (s.take p.length = p)
def getV : List LD → List UInt8 → List UInt8
  | [], _ => []
  | a :: r, n => if a.name = n then a.value else getV r n
theorem getV_cons (a : LD) (r : List LD) (n : List UInt8) : getV (a :: r) n = if a.name = n then a.value else getV r n := rfl
def holdsV (l : List LD) (m : MD) : Bool :=
  if m.kind = 1 then decide (getV l m.name = m.value) else if m.kind = 2 then decide (¬ getV l m.name = m.value) else if m.kind = 3 then prefV (getV l m.name) m.value else if m.kind = 4 then !prefV (getV l m.name) m.value else false
def allV (l : List LD) (ms : List MD) : Bool := ms.all (holdsV l)
noncomputable def okM (m : MD) : Bool := wordV m.name && decide (m.value.length ≤ 24) && decide (signV m.kind ≠ [])
noncomputable def msV (ms : List MD) : Bool := ms.all okM && decide (ms.length ≤ 6)
theorem all_take {α : Type} {p : α → Bool} {l : List α} {k : Nat} {x : α} (hx : l[k]? = some x) (h : (l.take k).all p = true) (hp : p x = true) : (l.take (k + 1)).all p = true := by
  rw [take_one hx, List.all_append, h]; simpa using hp
theorem all_not {α : Type} {p : α → Bool} {l : List α} {k : Nat} {x : α} (hx : l[k]? = some x) (hp : p x = false) : l.all p = false := by
  rw [List.all_eq_false]; exact ⟨x, List.mem_of_getElem? hx, by rw [hp]; simp⟩
theorem all_end {α : Type} {p : α → Bool} {l : List α} {k : Nat} (hk : l.length ≤ k) (h : (l.take k).all p = true) : l.all p = true := by rw [List.take_of_length_le hk] at h; exact h
theorem natOr_of {d : Nat} {k : IntKind} {z : Int} {j : Nat} (h : z = j) : natOr d (some (.int k z)) = some j := by subst h; rfl
end Go.Proofs.YtlgofplbbmjdjaaGreatDoor.BH.Rt
