/-
  BH: walking by facts: lists of things laid flat into cells.
-/
import Derived.Test.YtlgofplbbmjdjaaGreatDoorBhW5
namespace Go.Proofs.YtlgofplbbmjdjaaGreatDoor.BH
noncomputable section

section
variable {α : Type}
/-- A list, laid into cells. -/
def AL (enc : α → List AV) (l : List α) : AV := .lst (l.flatMap enc) l.length false true
theorem flat_length {enc : α → List AV} {s : Nat} (hs : ∀ x, (enc x).length = s) : ∀ l : List α, (l.flatMap enc).length = l.length * s
  | [] => by simp
  | a :: r => by rw [List.flatMap_cons, List.length_append, hs, flat_length hs r, List.length_cons, Nat.add_mul]; omega
theorem flat_get {enc : α → List AV} {s : Nat} (hs : ∀ x, (enc x).length = s) : ∀ {l : List α} {k off : Nat} {x : α}, l[k]? = some x → off < s → (l.flatMap enc)[k * s + off]? = (enc x)[off]?
  | [], _, _, _, h, _ => by simp at h
  | a :: r, 0, off, x, h, ho => by
    simp at h; subst h
    rw [List.flatMap_cons, Nat.zero_mul, Nat.zero_add, List.getElem?_append_left (by rw [hs]; exact ho)]
  | a :: r, k + 1, off, x, h, ho => by
    rw [List.flatMap_cons, List.getElem?_append_right (by rw [hs, Nat.add_mul]; omega), hs, show (k + 1) * s + off - s = k * s + off by rw [Nat.add_mul]; omega]
    exact flat_get hs (by simpa using h) ho
theorem flat_slots {enc : α → List AV} {s : Nat} (hs : ∀ x, (enc x).length = s) {l : List α} {k : Nat} {x : α} (h : l[k]? = some x) : slots (l.flatMap enc) (k * s) s = some (enc x) := by
  have hk := (List.getElem?_eq_some_iff.mp h).1
  have hle : k * s + s ≤ (l.flatMap enc).length := by
    rw [flat_length hs]
    calc k * s + s = (k + 1) * s := by rw [Nat.add_mul]; omega
      _ ≤ l.length * s := Nat.mul_le_mul_right _ hk
  rw [slots_of hle]
  congr 1
  refine List.ext_getElem? fun i => ?_
  rw [List.getElem?_take]
  split
  · rename_i hi
    rw [List.getElem?_drop, flat_get hs h hi]
  · rename_i hi
    rw [List.getElem?_eq_none]; rw [hs]; omega
theorem flat_done {enc : α → List AV} (hd : ∀ x, (enc x).all doneV = true) : ∀ l : List α, (l.flatMap enc).all doneV = true
  | [] => rfl
  | a :: r => by rw [List.flatMap_cons, List.all_append, hd, flat_done hd r]; rfl
theorem flat_scalar {enc : α → List AV} (hd : ∀ x, (enc x).all AV.scalar = true) : ∀ l : List α, (l.flatMap enc).all AV.scalar = true
  | [] => rfl
  | a :: r => by rw [List.flatMap_cons, List.all_append, hd, flat_scalar hd r]; rfl
theorem get_of_lt {l : List α} {k : Nat} (h : k < l.length) : ∃ x, l[k]? = some x := ⟨l[k], List.getElem?_eq_getElem h⟩
theorem take_one {l : List α} {k : Nat} {x : α} (h : l[k]? = some x) : l.take (k + 1) = l.take k ++ [x] := by rw [List.take_add_one, h]; rfl
theorem drop_one {l : List α} {k : Nat} {x : α} (h : l[k]? = some x) : l.drop k = x :: l.drop (k + 1) := by
  have hk := (List.getElem?_eq_some_iff.mp h)
  obtain ⟨h1, h2⟩ := hk
  rw [List.drop_eq_getElem_cons h1, h2]
end

section
variable {α : Type} {enc : α → List AV} {s : Nat} {l : List α} {k : Nat} {x : α}
theorem flat_aggs (hs : ∀ x, (enc x).length = s) (hx : l[k]? = some x) : slots (l.flatMap enc) (((k : Nat) : Int).toNat * s) s = some (enc x) := by rw [Int.toNat_natCast]; exact flat_slots hs hx
theorem new_flat {HF : List HI} {b : Bool} {p : Bool} (hs : ∀ x, (enc x).length = s) (hd : ∀ x, (enc x).all AV.scalar = true) : NewR s HF (.lst (l.flatMap enc) l.length b p) l.length (l.flatMap enc) := new_lst (flat_length hs l) (flat_scalar hd l)
theorem slice_al {P : Program} {t e i j : Nat} {lo hi : Option AV} (hu : undOf P t = some (.slice e)) (hz : szOf P e = some (s + 1)) (hs : ∀ x, (enc x).length = s + 1) (hl : natOr 0 lo = some i) (hh : natOr l.length hi = some j) (h1 : i ≤ j) (h2 : j ≤ l.length) (h : AHeap) :
    (sliceF P t).run h (AL enc l) lo hi none = some (AL enc ((l.drop i).take (j - i))) := by
  have := slice_lst (cs := l.flatMap enc) (m := l.length) (f := false) (p := true) hu hz hl hh h1 h2 (flat_length hs l) h
  unfold AL
  rw [this]
  have e1 : ((l.flatMap enc).drop (i * (s + 1))).take ((j - i) * (s + 1)) = ((l.drop i).take (j - i)).flatMap enc := by
    have d : ∀ (i : Nat) (l : List α), (l.flatMap enc).drop (i * (s + 1)) = (l.drop i).flatMap enc := by
      intro i
      induction i with
      | zero => intro l; simp
      | succ i ih =>
        intro l
        cases l with
        | nil => simp
        | cons a r => rw [List.flatMap_cons, show (i + 1) * (s + 1) = (enc a).length + i * (s + 1) by rw [hs, Nat.add_mul]; omega, ← List.drop_drop, List.drop_left, ih]; rfl
    have t : ∀ (i : Nat) (l : List α), (l.flatMap enc).take (i * (s + 1)) = (l.take i).flatMap enc := by
      intro i
      induction i with
      | zero => intro l; simp
      | succ i ih =>
        intro l
        cases l with
        | nil => simp
        | cons a r => rw [List.flatMap_cons, show (i + 1) * (s + 1) = (enc a).length + i * (s + 1) by rw [hs, Nat.add_mul]; omega, List.take_length_add_append, ih]; rfl
    rw [d, t]
  rw [e1, List.length_take, List.length_drop]
  congr 2
  omega
end

/-- Texts, whole numbers, bytes, truths. -/
def eS (s : List UInt8) : List AV := [.str s]
def eI (n : Int) : List AV := [.int .i64 n]
def eB (b : UInt8) : List AV := [.int .u8 b.toNat]
theorem eB_len (b : UInt8) : (eB b).length = 1 := rfl
end
end Go.Proofs.YtlgofplbbmjdjaaGreatDoor.BH
