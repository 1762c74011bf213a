/-
  The box of notes: what its calls come to (no program in sight).
-/
import Derived.Test.YtknpdigpendnjaaBhW12
import Derived.Test.YtknpdigpendnjaaBhDkL
namespace Go.Proofs.Ytknpdigpendnjaa.BH.Ml

structure NoteD where
  to : List UInt8
  group : List UInt8
  alerts : List (List UInt8)
  deriving DecidableEq
def eN (n : NoteD) : List AV := [.str n.to, .str n.group, AL eS n.alerts]
abbrev ag (n : NoteD) : AV := .agg (eN n)
abbrev BK (c : Nat) (d : Int) : List AV := [.chan (some c), .int .i64 d]
def z0 : NoteD := ⟨[], [], []⟩
theorem eN_len (n : NoteD) : (eN n).length = 3 := rfl
theorem eN_done (n : NoteD) : (eN n).all doneV = true := rfl
theorem eN_scalar (n : NoteD) : (eN n).all AV.scalar = true := rfl

/-- As many of the last ones as there is room for. -/
def lastN {α : Type} (cap : Nat) (l : List α) : List α := l.drop (l.length - cap)
theorem lastN_len {α : Type} (cap : Nat) (l : List α) : (lastN cap l).length = min l.length cap := by simp [lastN]; omega
theorem lastN_all {α : Type} {cap : Nat} {l : List α} (h : l.length ≤ cap) : lastN cap l = l := by
  unfold lastN; rw [show l.length - cap = 0 by omega]; rfl
theorem lastN_push {α : Type} {cap : Nat} {l : List α} {x : α} (h : (lastN cap l).length < cap) : lastN cap l ++ [x] = lastN cap (l ++ [x]) := by
  rw [lastN_len] at h
  rw [lastN_all (by omega), lastN_all (by simp; omega)]
theorem lastN_over {α : Type} {cap : Nat} {l : List α} {x : α} (h0 : 0 < cap) (h : cap ≤ (lastN cap l).length) : (lastN cap l).tail ++ [x] = lastN cap (l ++ [x]) := by
  rw [lastN_len] at h
  unfold lastN
  rw [List.tail_drop, List.length_append, List.length_singleton, show l.length + 1 - cap = l.length - cap + 1 by omega, List.drop_append_of_le_length (by omega)]
theorem lastN_tail {α : Type} {cap : Nat} {l : List α} (h0 : 0 < cap) (h : cap ≤ (lastN cap l).length) : ((lastN cap l).tail).length < cap := by
  rw [lastN_len] at h
  rw [List.length_tail, lastN_len]; omega
def addQ (cap : Nat) (q : List NoteD) (n : NoteD) : List NoteD := if q.length < cap then q ++ [n] else q
def addN (cap : Nat) (q : List NoteD) (s : Nat) : Nat := if q.length < cap then s + 1 else s
theorem map_len (q : List NoteD) : (q.map ag).length = q.length := List.length_map ..
theorem map_snoc (q : List NoteD) (n : NoteD) : q.map ag ++ [ag n] = (q ++ [n]).map ag := by simp
theorem rot {q : List NoteD} {k : Nat} {x : NoteD} (hx : q[k]? = some x) : q.drop (k + 1) ++ q.take k ++ [x] = q.drop (k + 1) ++ q.take (k + 1) := by
  rw [take_one hx, List.append_assoc]
theorem lastN_lastN {α : Type} {cap : Nat} (l m : List α) : lastN cap (lastN cap l ++ m) = lastN cap (l ++ m) := by
  by_cases h : l.length ≤ cap
  · rw [lastN_all h]
  · unfold lastN
    rw [List.length_append, List.length_drop, List.length_append]
    by_cases h2 : m.length ≤ cap
    · rw [show l.length - (l.length - cap) + m.length - cap = m.length by omega, List.drop_append, List.drop_append, List.drop_drop]
      rw [List.length_drop, show l.length - cap + m.length = l.length + m.length - cap by omega]
      congr 2; omega
    · rw [List.drop_append, List.drop_append, List.drop_drop, List.length_drop]
      congr 1
      · rw [List.drop_eq_nil_of_le (by omega), List.drop_eq_nil_of_le (by omega)]
      · congr 1; omega
def noteI (i : Nat) : NoteD := ⟨[116], [UInt8.ofNat (65 + i)], [[120], [121]]⟩
def notesI (i : Nat) : List NoteD := (List.range i).map noteI
theorem notesI_len (i : Nat) : (notesI i).length = i := by simp [notesI]
theorem notesI_next (i : Nat) : notesI i ++ [noteI i] = notesI (i + 1) := by simp [notesI, List.range_succ]
theorem notesI_alerts (i : Nat) : ∀ x ∈ notesI i, x.alerts.length < 1000000 := by
  intro x hx
  obtain ⟨j, _, rfl⟩ := List.mem_map.mp hx
  show 2 < 1000000
  decide
theorem lastN_mem {cap : Nat} {l : List NoteD} (h : ∀ x ∈ l, x.alerts.length < 1000000) : ∀ x ∈ lastN cap l, x.alerts.length < 1000000 := fun x hx => h x (List.mem_of_mem_drop hx)
theorem letter (i : Nat) (h : i < 31) : IntKind.u8.wrap (65 + (i : Int)) = ((UInt8.ofNat (65 + i)).toNat : Int) := by
  have h1 : (UInt8.ofNat (65 + i)).toNat = 65 + i := by rw [UInt8.toNat_ofNat']; omega
  rw [h1]
  have : fits .u8 (65 + (i : Int)) = true := by
    rw [show 65 + (i : Int) = ((65 + i : Nat) : Int) by omega]
    show Nat.ble (65 + i) 255 = true
    rw [bleN]; omega
  rw [fits_wrap this]; omega
/-- A call: its kind, its number. -/
structure AskM where
  kind : Int
  n : Int
def eQ (q : AskM) : List AV := [.int .i64 q.kind, .int .i64 q.n]
def ch (m : Nat) : UInt8 := UInt8.ofNat (97 + m % 26)
def noteN (m : Nat) : NoteD := ⟨[116], [ch m], [[ch (m / 26)]]⟩
def notesN (nx j : Nat) : List NoteD := (List.range j).map fun k => noteN (nx + k)
theorem notesN_len (nx j : Nat) : (notesN nx j).length = j := by simp [notesN]
theorem notesN_next (nx j : Nat) : notesN nx j ++ [noteN (nx + j)] = notesN nx (j + 1) := by simp [notesN, List.range_succ]
theorem notesN_alerts (nx j : Nat) : ∀ x ∈ notesN nx j, x.alerts.length < 1000000 := by
  intro x hx
  obtain ⟨k, _, rfl⟩ := List.mem_map.mp hx
  show 1 < 1000000
  decide
theorem ch_wrap (m : Nat) : IntKind.u8.wrap (97 + (m : Int).tmod 26) = ((ch m).toNat : Int) := by
  have h1 : (ch m).toNat = 97 + m % 26 := by unfold ch; rw [UInt8.toNat_ofNat']; omega
  have h2 : (m : Int).tmod 26 = ((m % 26 : Nat) : Int) := Int.ofNat_tmod m 26 ▸ rfl
  rw [h1, h2]
  have : fits .u8 (97 + ((m % 26 : Nat) : Int)) = true := by
    rw [show 97 + ((m % 26 : Nat) : Int) = ((97 + m % 26 : Nat) : Int) by omega]
    show Nat.ble (97 + m % 26) 255 = true
    rw [bleN]; omega
  rw [fits_wrap this]; omega
theorem quo_wrap (m : Nat) (h : m < 1000000) : IntKind.i64.wrap ((m : Int).tdiv 26) = ((m / 26 : Nat) : Int) := by
  have h2 : (m : Int).tdiv 26 = ((m / 26 : Nat) : Int) := Int.ofNat_tdiv m 26 ▸ rfl
  rw [h2]
  exact IntWalk.i64_in _ (by omega)
theorem lastN_cut {α : Type} {cap : Nat} {l : List α} {x : α} (h0 : 0 < cap) (h : cap < (lastN cap l ++ [x]).length) : ((lastN cap l ++ [x]).drop 1).take ((lastN cap l ++ [x]).length - 1) = lastN cap (l ++ [x]) := by
  rw [List.take_of_length_le (by rw [List.length_drop]; omega)]
  rw [List.length_append, List.length_singleton] at h
  rw [← lastN_over h0 (by omega)]
  cases hq : lastN cap l with
  | nil => rw [hq] at h; simp at h; omega
  | cons a b => rfl
theorem lastN_keep {α : Type} {cap : Nat} {l : List α} {x : α} (h : (lastN cap l ++ [x]).length ≤ cap) : lastN cap l ++ [x] = lastN cap (l ++ [x]) := lastN_push (by rw [List.length_append, List.length_singleton] at h; omega)
/-- What is taken. -/
def hdQ (q : List NoteD) : NoteD := q.headD z0
def okQ (q : List NoteD) : Bool := !q.isEmpty
def takeR (q : List NoteD) (r : Nat) : Nat := if q.isEmpty then r else r + 1
theorem okQ_pos (q : List NoteD) : okQ q = decide (0 < (q.length : Int)) := by
  cases q <;> simp [okQ]
/-- What is known of a box that is played with. -/
structure Inv (R : Nat) (i : Nat) (x : List NoteD × Nat × Nat × Nat × Nat × Nat) : Prop where
  q : x.1.length ≤ R
  n : x.2.1 = x.2.2.2.1 + x.2.2.1 + x.1.length
  b : x.2.1 ≤ 12 * i
  a : ∀ y ∈ x.1, y.alerts.length < 1000000
theorem take_drop_last {α : Type} (l : List α) {j m : Nat} (hm : m = l.length - j) : (l.drop j).take m = l.drop j := List.take_of_length_le (by rw [List.length_drop]; omega)
end Go.Proofs.Ytknpdigpendnjaa.BH.Ml
