/-
  Label sets, series, stores: what the calls come to (no program in sight).
-/
import Derived.Test.YtlgofplbbmjdjaaGreatDoorBhRtL
import Derived.Test.YtlgofplbbmjdjaaGreatDoorBhW18
import Derived.Test.YtlgofplbbmjdjaaGreatDoorBhSortI
import Derived.Test.YtlgofplbbmjdjaaGreatDoorBhW19
import Derived.KernelRfl
import Derived.Test.YtlgofplbbmjdjaaGreatDoorBhDkL
namespace Go.Proofs.YtlgofplbbmjdjaaGreatDoor.BH.Kx
open Go.Proofs.YtlgofplbbmjdjaaGreatDoor.BH.Rt
noncomputable section
/-! ### label sets -/
def okL (x : LD) : Bool := wordV x.name && decide (¬ x.value = []) && decide (x.value.length ≤ 24)
def befL (l : List LD) (x : LD) : Nat → Bool
  | 0 => true
  | j + 1 => match l[j]? with
    | none => true
    | some p => less p.name x.name
def stepR (l : List LD) (i : Nat) : Bool := match l[i]? with
  | none => true
  | some x => okL x && befL l x i
def rightL (l : List LD) : Bool := (List.range l.length).all (stepR l) && decide (l.length ≤ 6)
theorem range_all {p : Nat → Bool} {k : Nat} (h : (List.range k).all p = true) (hk : p k = true) : (List.range (k + 1)).all p = true := by
  rw [List.range_succ, List.all_append, h]; simpa using hk
theorem right_all {l : List LD} {k : Nat} (hk : l.length ≤ k) (h : (List.range k).all (stepR l) = true) : rightL l = decide (l.length ≤ 6) := by
  unfold rightL
  have : (List.range l.length).all (stepR l) = true := by
    rw [List.all_eq_true] at h ⊢
    intro i hi; exact h i (List.mem_range.mpr (by have := List.mem_range.mp hi; omega))
  rw [this, Bool.true_and]
theorem right_not {l : List LD} {k : Nat} (hk : k < l.length) (h : stepR l k = false) : rightL l = false := by
  unfold rightL
  rw [List.all_eq_false.mpr ⟨k, List.mem_range.mpr hk, by rw [h]; simp⟩]; rfl
theorem stepR_some {l : List LD} {k : Nat} {x : LD} (hx : l[k]? = some x) : stepR l k = (okL x && befL l x k) := by unfold stepR; rw [hx]
theorem step_word {l : List LD} {k : Nat} {x : LD} (hx : l[k]? = some x) (h : wordV x.name = false) : stepR l k = false := by rw [stepR_some hx]; unfold okL; rw [h]; rfl
theorem step_none {l : List LD} {k : Nat} {x : LD} (hx : l[k]? = some x) (h : x.value = []) : stepR l k = false := by rw [stepR_some hx]; unfold okL; rw [h]; simp
theorem step_long {l : List LD} {k : Nat} {x : LD} (hx : l[k]? = some x) (h : 24 < (x.value.length : Int)) : stepR l k = false := by
  rw [stepR_some hx]; unfold okL; rw [decide_eq_false (show ¬ x.value.length ≤ 24 by omega), Bool.and_false]; rfl
theorem step_order {l : List LD} {k : Nat} {x p : LD} (hx : l[k + 1]? = some x) (hp : l[k]? = some p) (h : less p.name x.name = false) : stepR l (k + 1) = false := by rw [stepR_some hx]; unfold befL; simp only [hp, h, Bool.and_false]
theorem ok_of {x : LD} (h1 : wordV x.name = true) (h2 : ¬ x.value = []) (h3 : (x.value.length : Int) ≤ 24) : okL x = true := by
  unfold okL; rw [h1, decide_eq_true h2, decide_eq_true (show x.value.length ≤ 24 by omega)]; rfl
theorem step_zero {l : List LD} {k : Nat} {x : LD} (hx : l[k]? = some x) (h1 : wordV x.name = true) (h2 : ¬ x.value = []) (h3 : (x.value.length : Int) ≤ 24) (h0 : (k : Int) ≤ 0) : stepR l k = true := by
  obtain rfl : k = 0 := by omega
  rw [stepR_some hx, ok_of h1 h2 h3]; rfl
theorem step_succ {l : List LD} {k : Nat} {x p : LD} (hx : l[k + 1]? = some x) (hp : l[k]? = some p) (h1 : wordV x.name = true) (h2 : ¬ x.value = []) (h3 : (x.value.length : Int) ≤ 24) (h : less p.name x.name = true) : stepR l (k + 1) = true := by
  rw [stepR_some hx, ok_of h1 h2 h3]; unfold befL; simp only [hp, h, Bool.and_true]
theorem right_ok {l : List LD} {k : Nat} {x : LD} (h : rightL l = true) (hx : l[k]? = some x) : okL x = true := by
  unfold rightL at h
  rw [Bool.and_eq_true, List.all_eq_true] at h
  have := h.1 k (List.mem_range.mpr (List.getElem?_eq_some_iff.mp hx).1)
  rw [stepR_some hx, Bool.and_eq_true] at this
  exact this.1
theorem right_six {l : List LD} (h : rightL l = true) : l.length ≤ 6 := by
  unfold rightL at h
  rw [Bool.and_eq_true, decide_eq_true_eq] at h
  exact h.2
theorem ok_name {x : LD} (h : okL x = true) : x.name.length ≤ 24 := by
  unfold okL at h
  rw [Bool.and_eq_true, Bool.and_eq_true] at h
  have := h.1.1
  unfold wordV at this
  cases hn : x.name with
  | nil => simp
  | cons b r => rw [hn] at this; simp at this; simp; omega
theorem ok_value {x : LD} (h : okL x = true) : x.value.length ≤ 24 ∧ ¬ x.value = [] := by
  unfold okL at h
  rw [Bool.and_eq_true, Bool.and_eq_true, decide_eq_true_eq, decide_eq_true_eq] at h
  exact ⟨h.2, h.1.2⟩
def quoteB (b : UInt8) : List UInt8 := if b = 34 ∨ b = 92 then [92, b] else [b]
def quoteV (s : List UInt8) : List UInt8 := 34 :: s.flatMap quoteB ++ [34]
def partL (x : LD) : List UInt8 := x.name ++ 61 :: quoteV x.value
def printL (l : List LD) : List UInt8 := if rightL l then 123 :: ([44] : List UInt8).intercalate (l.map partL) ++ [125] else []
def compL (a b : List LD) : Int := cmpV (printL a) (printL b)
def dropL (l : List LD) (ns : List (List UInt8)) : List LD := l.filter fun x => !decide (x.name ∈ ns)
def keepL (l : List LD) (ns : List (List UInt8)) : List LD := l.filter fun x => decide (x.name ∈ ns)
theorem quoteB_len (b : UInt8) : (quoteB b).length ≤ 2 := by unfold quoteB; split <;> simp
theorem flat_quote (s : List UInt8) : (s.flatMap quoteB).length ≤ 2 * s.length := by
  induction s with
  | nil => simp
  | cons b r ih => rw [List.flatMap_cons, List.length_append, List.length_cons]; have := quoteB_len b; omega
theorem quote_len (s : List UInt8) : (quoteV s).length ≤ 2 * s.length + 2 := by
  have : ∀ s : List UInt8, (s.flatMap quoteB).length ≤ 2 * s.length := by
    intro s
    induction s with
    | nil => simp
    | cons b r ih => rw [List.flatMap_cons, List.length_append, List.length_cons]; have := quoteB_len b; omega
  unfold quoteV
  have := this s
  simp only [List.length_cons, List.length_append, List.length_nil]; omega
theorem part_len {x : LD} (h : okL x = true) : (partL x).length ≤ 75 := by
  have h1 := ok_name h
  have h2 := (ok_value h).1
  have h3 := quote_len x.value
  unfold partL
  simp only [List.length_append, List.length_cons]; omega
theorem inter_len {l : List (List UInt8)} {sep : List UInt8} {n : Nat} (h : ∀ x ∈ l, x.length ≤ n) : (sep.intercalate l).length ≤ l.length * (n + sep.length) := by
  have key : ∀ l : List (List UInt8), (∀ x ∈ l, x.length ≤ n) → (sep.intercalate l).length ≤ l.length * (n + sep.length) := by
    intro l
    induction l with
    | nil => intro _; simp [List.intercalate]
    | cons a r ih =>
      intro h
      have ha := h a List.mem_cons_self
      have hr := ih fun x hx => h x (List.mem_cons_of_mem _ hx)
      cases r with
      | nil => simp [List.intercalate]; omega
      | cons b t =>
        rw [List.intercalate, List.intersperse_cons_cons, List.flatten_cons, List.flatten_cons]
        have e : (List.intersperse sep (b :: t)).flatten = sep.intercalate (b :: t) := rfl
        rw [e, List.length_append, List.length_append, List.length_cons, Nat.add_mul, Nat.one_mul]
        omega
  exact key l h
theorem parts_len {l : List LD} (h : rightL l = true) : (([44] : List UInt8).intercalate (l.map partL)).length ≤ 456 := by
  have h6 := right_six h
  have := inter_len (l := l.map partL) (sep := [44]) (n := 75) (fun y hy => by
    obtain ⟨x, hx, rfl⟩ := List.mem_map.mp hy
    obtain ⟨k, hk⟩ := List.getElem?_of_mem hx
    exact part_len (right_ok h hk))
  rw [List.length_map] at this
  have e : ([44] : List UInt8).length = 1 := rfl
  rw [e] at this
  omega
/-! ### samples -/
structure SM where
  time : Int
  value : Int
  deriving DecidableEq
def eSm (x : SM) : List AV := [.int .i64 x.time, .int .i64 x.value]
def uptoV (l : List SM) (t : Int) : Nat := (l.takeWhile fun x => decide (x.time ≤ t)).length
theorem upto_le (l : List SM) (t : Int) : uptoV l t ≤ l.length := by
  unfold uptoV
  exact (List.takeWhile_sublist _).length_le
theorem upto_stop {l : List SM} {t : Int} {k : Nat} {x : SM} (hx : l[k]? = some x) (hs : (l.take k).all (fun x => decide (x.time ≤ t)) = true) (h : ¬ x.time ≤ t) : uptoV l t = k := by
  unfold uptoV
  have hk := (List.getElem?_eq_some_iff.mp hx).1
  have e : l = l.take k ++ l.drop k := (List.take_append_drop k l).symm
  rw [e, List.takeWhile_append_of_pos (fun y hy => List.all_eq_true.mp hs y hy), drop_one hx, List.takeWhile_cons]
  simp [h]; omega
theorem upto_end {l : List SM} {t : Int} {k : Nat} (hk : l.length ≤ k) (hs : (l.take k).all (fun x => decide (x.time ≤ t)) = true) : uptoV l t = l.length := by
  unfold uptoV
  rw [List.take_of_length_le hk] at hs
  have : l.takeWhile (fun x => decide (x.time ≤ t)) = l := by
    have e := List.takeWhile_append_of_pos (p := fun x : SM => decide (x.time ≤ t)) (l₁ := l) (l₂ := []) (fun y hy => List.all_eq_true.mp hs y hy)
    simpa using e
  rw [this]
def atV (l : List SM) (t look : Int) : Int × Bool := if uptoV l t = 0 then (0, false) else match l[uptoV l t - 1]? with
  | none => (0, false)
  | some x => if x.time ≤ t - look then (0, false) else (x.value, true)
theorem at_zero {l : List SM} {t look : Int} (h : uptoV l t = 0) : atV l t look = (0, false) := by unfold atV; rw [if_pos h]
theorem at_old {l : List SM} {t look : Int} {x : SM} (h : ¬ uptoV l t = 0) (hx : l[uptoV l t - 1]? = some x) (hl : x.time ≤ t - look) : atV l t look = (0, false) := by unfold atV; rw [if_neg h, hx]; simp [hl]
theorem at_some {l : List SM} {t look : Int} {x : SM} (h : ¬ uptoV l t = 0) (hx : l[uptoV l t - 1]? = some x) (hl : ¬ x.time ≤ t - look) : atV l t look = (x.value, true) := by unfold atV; rw [if_neg h, hx]; simp [hl]
def chAt (l : List SM) (look : Int) (i : Nat) : List Int := match l[i]? with
  | none => []
  | some x => x.time :: (match l[i + 1]? with
    | none => [x.time + look]
    | some y => if x.time + look < y.time then [x.time + look] else [])
def chL (l : List SM) (look : Int) (k : Nat) : List Int := (List.range k).flatMap (chAt l look)
def inV (fr to : Int) (t : Int) : Bool := decide (fr ≤ t) && decide (t ≤ to)
def chV (l : List SM) (look fr to : Int) : List Int := (chL l look l.length).filter (inV fr to)
theorem chL_succ (l : List SM) (look : Int) (k : Nat) : chL l look (k + 1) = chL l look k ++ chAt l look k := by unfold chL; rw [List.range_succ, List.flatMap_append]; simp
theorem chL_len (l : List SM) (look : Int) : ∀ k, (chL l look k).length ≤ 2 * k
  | 0 => by simp [chL]
  | k + 1 => by
    have := chL_len l look k
    have h2 : (chAt l look k).length ≤ 2 := by
      unfold chAt
      split
      · simp
      · split
        · simp
        · split <;> simp
    rw [chL_succ, List.length_append]; omega
theorem ch_endN {l : List SM} {look : Int} {k : Nat} {x : SM} (hx : l[k]? = some x) (h : ((k : Int) + 1) = l.length) : chL l look k ++ [x.time] ++ [x.time + look] = chL l look (k + 1) := by
  rw [chL_succ]; unfold chAt; rw [hx, List.getElem?_eq_none (by omega)]; simp
theorem ch_endY {l : List SM} {look : Int} {k : Nat} {x y : SM} (hx : l[k]? = some x) (hy : l[k + 1]? = some y) (h : x.time + look < y.time) : chL l look k ++ [x.time] ++ [x.time + look] = chL l look (k + 1) := by
  rw [chL_succ]; unfold chAt; rw [hx, hy]; simp [h]
theorem ch_no {l : List SM} {look : Int} {k : Nat} {x y : SM} (hx : l[k]? = some x) (hy : l[k + 1]? = some y) (h : ¬ x.time + look < y.time) : chL l look k ++ [x.time] = chL l look (k + 1) := by
  rw [chL_succ]; unfold chAt; rw [hx, hy]; simp [h]
/-- slices.DeleteFunc: what is kept. -/
theorem del_in {p : Int → Bool} {l : List Int} {k : Nat} {x : Int} (hx : l[k]? = some x) (hp : p x = true) : (l.take k).filter p ++ [x] = (l.take (k + 1)).filter p := by rw [take_one hx, List.filter_append]; simp [hp]
theorem del_out {p : Int → Bool} {l : List Int} {k : Nat} {x : Int} (hx : l[k]? = some x) (hp : p x = false) : (l.take k).filter p = (l.take (k + 1)).filter p := by rw [take_one hx, List.filter_append]; simp [hp]
def idxV (p : Int → Bool) (l : List Int) : Int := match l.findIdx? p with
  | none => -1
  | some i => i
theorem idx_none {p : Int → Bool} {l : List Int} {k : Nat} (hk : l.length ≤ k) (h : (l.take k).all (fun x => !p x) = true) : idxV p l = -1 := by
  rw [List.take_of_length_le hk, List.all_eq_true] at h
  unfold idxV
  rw [List.findIdx?_eq_none_iff.mpr (fun x hx => by have := h x hx; simpa using this)]
theorem idx_some {p : Int → Bool} {l : List Int} {k : Nat} {x : Int} (hx : l[k]? = some x) (h : (l.take k).all (fun x => !p x) = true) (hp : p x = true) : idxV p l = k := by
  unfold idxV
  have : l.findIdx? p = some k := by
    rw [List.findIdx?_eq_some_iff_getElem]
    obtain ⟨h1, h2⟩ := List.getElem?_eq_some_iff.mp hx
    refine ⟨h1, by rw [h2]; exact hp, fun j hj => ?_⟩
    rw [List.all_eq_true] at h
    have := h l[j] (List.mem_of_getElem? (i := j) (by rw [List.getElem?_take, if_pos hj, List.getElem?_eq_getElem]))
    simpa using this
  rw [this]
theorem idx_cases (p : Int → Bool) (l : List Int) : (idxV p l = -1 ∧ l.all (fun x => !p x) = true) ∨ ∃ k x, idxV p l = (k : Nat) ∧ l[k]? = some x ∧ p x = true ∧ (l.take k).all (fun x => !p x) = true := by
  cases h : l.findIdx? p with
  | none =>
    left
    refine ⟨by unfold idxV; rw [h], ?_⟩
    rw [List.findIdx?_eq_none_iff] at h
    rw [List.all_eq_true]; intro x hx; simp [h x hx]
  | some k =>
    right
    obtain ⟨h1, h2, h3⟩ := List.findIdx?_eq_some_iff_getElem.mp h
    refine ⟨k, l[k], by unfold idxV; rw [h], List.getElem?_eq_getElem h1, h2, ?_⟩
    rw [List.all_eq_true]
    intro x hx
    obtain ⟨j, hj⟩ := List.getElem?_of_mem hx
    rw [List.getElem?_take] at hj
    split at hj
    · rename_i hjk
      obtain ⟨z1, z2⟩ := List.getElem?_eq_some_iff.mp hj
      have := h3 j hjk
      rw [z2] at this; simpa using this
    · cases hj
theorem take_set_next {α : Type} {r : List α} {i : Nat} {x : α} (h : i < r.length) : (r.set i x).take (i + 1) = r.take i ++ [x] := by
  rw [List.take_add_one, List.getElem?_set_self h, List.take_set_of_le (Nat.le_refl _)]; rfl
theorem take_flat {α : Type} {enc : α → List AV} {s : Nat} (hs : ∀ x, (enc x).length = s) : ∀ (l : List α) (i : Nat), (l.flatMap enc).take (i * s) = (l.take i).flatMap enc
  | [], i => by simp
  | a :: r, 0 => by simp
  | a :: r, i + 1 => by
    rw [List.take_succ_cons, List.flatMap_cons, List.flatMap_cons, List.take_append, hs, ← take_flat hs r i, List.take_of_length_le (by rw [hs, Nat.add_mul]; omega)]
    congr 2; rw [Nat.add_mul]; omega
theorem del_cells {r l : List Int} {p i : Nat} {vs rest : List AV} (hp : p = i) (hi : i ≤ r.length) (h : r.take i = l) : ((r.flatMap eI).take p ++ vs ++ rest).take i = l.flatMap eI := by
  subst hp; subst h
  have hl : ((r.flatMap eI).take p).length = p := by rw [List.length_take, flat_length (s := 1) (by intro _; rfl)]; omega
  rw [List.append_assoc, List.take_append_of_le_length (by omega), List.take_of_length_le (by omega)]
  have := take_flat (enc := eI) (s := 1) (by intro _; rfl) r p
  rwa [Nat.mul_one] at this
def outS (l : List SM) (x : SM) (k : Nat) : List SM := if k = 0 then l else l ++ [x]
theorem outS_zero (l : List SM) (x : SM) : outS l x 0 = l := rfl
theorem outS_one (l : List SM) (x : SM) : outS l x 1 = l ++ [x] := rfl
/-- Adding one sample: what is wrong; what is there. -/
def addE (l : List SM) (x : SM) : Int := if x.time < 0 ∨ 1099511627776 < x.time then 1 else if (match l[l.length - 1]? with
  | none => false
  | some y => decide (x.time ≤ y.time)) = true then 2 else if l.length = 200 then 8 else 0
def addS (l : List SM) (x : SM) : List SM := if addE l x = 0 then l ++ [x] else l
theorem add_form {l : List SM} {x : SM} (h : x.time < 0 ∨ 1099511627776 < x.time) : addE l x = 1 ∧ addS l x = l := by
  have : addE l x = 1 := by unfold addE; rw [if_pos h]
  exact ⟨this, by unfold addS; rw [this]; rfl⟩
theorem add_order {l : List SM} {x y : SM} (h0 : 0 ≤ x.time) (h1 : x.time ≤ 1099511627776) (hy : l[l.length - 1]? = some y) (h : x.time ≤ y.time) : addE l x = 2 ∧ addS l x = l := by
  have : addE l x = 2 := by unfold addE; rw [if_neg (by omega), hy]; simp [h]
  exact ⟨this, by unfold addS; rw [this]; rfl⟩
theorem add_no {l : List SM} {x : SM} (h0 : 0 ≤ x.time) (h1 : x.time ≤ 1099511627776) (ho : ∀ y, l[l.length - 1]? = some y → ¬ x.time ≤ y.time) : addE l x = if l.length = 200 then 8 else 0 := by
  unfold addE; rw [if_neg (by omega)]
  cases hy : l[l.length - 1]? with
  | none => simp
  | some y => simp [ho y hy]
theorem add_full {l : List SM} {x : SM} (h0 : 0 ≤ x.time) (h1 : x.time ≤ 1099511627776) (ho : ∀ y, l[l.length - 1]? = some y → ¬ x.time ≤ y.time) (h : (l.length : Int) = 200) : addE l x = 8 ∧ addS l x = l := by
  have : addE l x = 8 := by rw [add_no h0 h1 ho, if_pos (by omega)]
  exact ⟨this, by unfold addS; rw [this]; rfl⟩
theorem add_ok {l : List SM} {x : SM} (h0 : 0 ≤ x.time) (h1 : x.time ≤ 1099511627776) (ho : ∀ y, l[l.length - 1]? = some y → ¬ x.time ≤ y.time) (h : ¬ (l.length : Int) = 200) : addE l x = 0 ∧ addS l x = l ++ [x] := by
  have : addE l x = 0 := by rw [add_no h0 h1 ho, if_neg (by omega)]
  exact ⟨this, by unfold addS; rw [this]; rfl⟩
end
end Go.Proofs.YtlgofplbbmjdjaaGreatDoor.BH.Kx
namespace Go.Proofs.YtlgofplbbmjdjaaGreatDoor.BH.Kx
open Go.Proofs.YtlgofplbbmjdjaaGreatDoor.BH.Rt
noncomputable section
/-! ### texts in order -/
theorem cmp_nc (b : UInt8) (t : List UInt8) : cmpV [] (b :: t) = -1 := rfl
theorem cmp_cn (a : UInt8) (r : List UInt8) : cmpV (a :: r) [] = 1 := rfl
theorem cmp_cc (a b : UInt8) (r t : List UInt8) : cmpV (a :: r) (b :: t) = if a.toNat = b.toNat then cmpV r t else if a.toNat < b.toNat then -1 else 1 := by
  show cnd (Nat.beq a.toNat b.toNat) (cmpV r t) (cnd (Nat.blt a.toNat b.toNat) (.negSucc 0) 1) = _
  rw [cnd_eq, cnd_eq]
  simp only [beqN]
  have : (Nat.blt a.toNat b.toNat = true) = (a.toNat < b.toNat) := by simp
  simp only [this]; rfl
theorem cmp_self : ∀ a : List UInt8, cmpV a a = 0
  | [] => rfl
  | a :: r => by rw [cmp_cc, if_pos rfl, cmp_self r]
theorem cmp_eq : ∀ {a b : List UInt8}, cmpV a b = 0 → a = b
  | [], [], _ => rfl
  | [], b :: t, h => by rw [cmp_nc] at h; cases h
  | a :: r, [], h => by rw [cmp_cn] at h; cases h
  | a :: r, b :: t, h => by
    rw [cmp_cc] at h
    split at h
    · rename_i e; rw [UInt8.toNat_inj.mp e, cmp_eq h]
    · split at h <;> cases h
theorem cmp_trans : ∀ {a b c : List UInt8}, cmpV a b < 0 → cmpV b c < 0 → cmpV a c < 0
  | [], _, [], h1, h2 => by
    rename_i b
    cases b with
    | nil => exact h1
    | cons b t => rw [cmp_cn] at h2; omega
  | [], _, c :: u, _, _ => by rw [cmp_nc]; omega
  | a :: r, [], _, h1, _ => by rw [cmp_cn] at h1; omega
  | a :: r, b :: t, [], _, h2 => by rw [cmp_cn] at h2; omega
  | a :: r, b :: t, c :: u, h1, h2 => by
    rw [cmp_cc] at h1 h2 ⊢
    by_cases e1 : a.toNat = b.toNat
    · rw [if_pos e1] at h1
      by_cases e2 : b.toNat = c.toNat
      · rw [if_pos e2] at h2; rw [if_pos (by omega)]; exact cmp_trans h1 h2
      · rw [if_neg e2] at h2
        rw [if_neg (by omega)]
        split at h2
        · rw [if_pos (by omega)]; omega
        · omega
    · rw [if_neg e1] at h1
      split at h1
      · by_cases e2 : b.toNat = c.toNat
        · rw [if_neg (by omega), if_pos (by omega)]; omega
        · rw [if_neg e2] at h2
          split at h2
          · rw [if_neg (by omega), if_pos (by omega)]; omega
          · omega
      · omega
theorem cmp_lt_le {a b c : List UInt8} (h1 : cmpV a b < 0) (h2 : ¬ cmpV a c < 0) : ¬ cmpV b c < 0 := fun h => h2 (cmp_trans h1 h)
/-! ### stores -/
abbrev SS := List (List LD × List SM)
structure Ser where
  set : List LD
  o : Nat
  l : List SM
def Ser.abs (x : Ser) : List LD × List SM := (x.set, x.l)
def eOne (x : Ser) : List AV := [AL eL x.set, .ptr (some ⟨x.o, 0⟩)]
def Rising (S : SS) : Prop := S.Pairwise fun x y => cmpV (printL x.1) (printL y.1) < 0
def posS (S : SS) (set : List LD) : Nat := (S.takeWhile fun x => decide (compL x.1 set < 0)).length
def hitS (S : SS) (set : List LD) : Bool := match S[posS S set]? with
  | none => false
  | some x => decide (compL x.1 set = 0)
theorem pos_le (S : SS) (set : List LD) : posS S set ≤ S.length := (List.takeWhile_sublist _).length_le
theorem pos_of {S : SS} {set : List LD} {i : Nat} (hi : i ≤ S.length) (h1 : ∀ x ∈ S.take i, compL x.1 set < 0) (h2 : ∀ x ∈ S.drop i, ¬ compL x.1 set < 0) : posS S set = i := by
  unfold posS
  have e : S = S.take i ++ S.drop i := (List.take_append_drop i S).symm
  rw [e, List.takeWhile_append_of_pos (fun y hy => decide_eq_true (h1 y hy))]
  cases hd : S.drop i with
  | nil => simp; omega
  | cons y r =>
    rw [List.takeWhile_cons, if_neg (by simpa using h2 y (by rw [hd]; exact List.mem_cons_self))]
    simp; omega
/-- Searched by halves. -/
theorem half_low {S : SS} {set : List LD} {h : Nat} {x : List LD × List SM} (hr : Rising S) (hx : S[h]? = some x) (hc : compL x.1 set < 0) : ∀ y ∈ S.take (h + 1), compL y.1 set < 0 := by
  intro y hy
  obtain ⟨j, hj⟩ := List.getElem?_of_mem hy
  rw [List.getElem?_take] at hj
  split at hj
  · rename_i hjh
    by_cases e : j = h
    · subst e; rw [hx] at hj; cases hj; exact hc
    · have h1 := (List.getElem?_eq_some_iff.mp hj)
      have h2 := (List.getElem?_eq_some_iff.mp hx)
      have := List.pairwise_iff_getElem.mp hr j h h1.1 h2.1 (by omega)
      rw [h1.2, h2.2] at this
      exact cmp_trans this hc
  · cases hj
theorem half_high {S : SS} {set : List LD} {h : Nat} {x : List LD × List SM} (hr : Rising S) (hx : S[h]? = some x) (hc : ¬ compL x.1 set < 0) : ∀ y ∈ S.drop h, ¬ compL y.1 set < 0 := by
  intro y hy
  obtain ⟨j, hj⟩ := List.getElem?_of_mem hy
  rw [List.getElem?_drop] at hj
  by_cases e : j = 0
  · subst e; rw [Nat.add_zero, hx] at hj; cases hj; exact hc
  · have h1 := (List.getElem?_eq_some_iff.mp hj)
    have h2 := (List.getElem?_eq_some_iff.mp hx)
    have := List.pairwise_iff_getElem.mp hr h (h + j) h2.1 h1.1 (by omega)
    rw [h1.2, h2.2] at this
    exact cmp_lt_le this hc
theorem hit_of {S : SS} {set : List LD} {i : Nat} {x : List LD × List SM} (hp : posS S set = i) (hx : S[i]? = some x) : hitS S set = decide (compL x.1 set = 0) := by unfold hitS; rw [hp, hx]
theorem hit_none {S : SS} {set : List LD} (h : S.length ≤ posS S set) : hitS S set = false := by unfold hitS; rw [List.getElem?_eq_none h]
theorem map_get {L : List Ser} {i : Nat} {x : Ser} (h : L[i]? = some x) : (L.map Ser.abs)[i]? = some (x.set, x.l) := by rw [List.getElem?_map, h]; rfl
def insS (S : SS) (i : Nat) (x : List LD × List SM) : SS := S.take i ++ x :: S.drop i
/-- Put: what is wrong; what is there. -/
def putE (S : SS) (set : List LD) (x : SM) : Int := if rightL set = false ∨ x.time < 0 ∨ 1099511627776 < x.time then 1 else if hitS S set then (match S[posS S set]? with
  | none => 0
  | some y => addE y.2 x) else if S.length = 32 then 8 else 0
def putSt (S : SS) (set : List LD) (x : SM) : SS := if rightL set = false ∨ x.time < 0 ∨ 1099511627776 < x.time then S else if hitS S set then (match S[posS S set]? with
  | none => S
  | some y => S.set (posS S set) (y.1, addS y.2 x)) else if S.length = 32 then S else insS S (posS S set) (set, [x])
theorem put_form {S : SS} {set : List LD} {x : SM} (h : rightL set = false ∨ x.time < 0 ∨ 1099511627776 < x.time) : putE S set x = 1 ∧ putSt S set x = S := by unfold putE putSt; rw [if_pos h, if_pos h]; exact ⟨rfl, rfl⟩
theorem put_full {S : SS} {set : List LD} {x : SM} (h : ¬ (rightL set = false ∨ x.time < 0 ∨ 1099511627776 < x.time)) (hh : hitS S set = false) (hf : S.length = 32) : putE S set x = 8 ∧ putSt S set x = S := by unfold putE putSt; rw [if_neg h, if_neg h, hh]; simp [hf]
theorem put_new {S : SS} {set : List LD} {x : SM} (h : ¬ (rightL set = false ∨ x.time < 0 ∨ 1099511627776 < x.time)) (hh : hitS S set = false) (hf : ¬ S.length = 32) : putE S set x = 0 ∧ putSt S set x = insS S (posS S set) (set, [x]) := by unfold putE putSt; rw [if_neg h, if_neg h, hh]; simp [hf]
theorem put_hit {S : SS} {set : List LD} {x : SM} {y : List LD × List SM} (h : ¬ (rightL set = false ∨ x.time < 0 ∨ 1099511627776 < x.time)) (hh : hitS S set = true) (hy : S[posS S set]? = some y) : putE S set x = addE y.2 x ∧ putSt S set x = S.set (posS S set) (y.1, addS y.2 x) := by unfold putE putSt; rw [if_neg h, if_neg h, hh]; simp [hy]
structure PT where
  set : List LD
  value : Int
  deriving DecidableEq
def eP (p : PT) : List AV := [AL eL p.set, .int .i64 p.value]
def pickA (t look : Int) (ms : List MD) (x : List LD × List SM) : List PT := if allV x.1 ms = true then (if (atV x.2 t look).2 = true then [⟨x.1, (atV x.2 t look).1⟩] else []) else []
def pickS (S : SS) (t look : Int) (ms : List MD) : List PT := S.flatMap (pickA t look ms)
def chgA (look fm to : Int) (ms : List MD) (x : List LD × List SM) : List Int := if allV x.1 ms = true then chV x.2 look fm to else []
def chgR (S : SS) (look fm to : Int) (ms : List MD) : List Int := S.flatMap (chgA look fm to ms)
def chgS (S : SS) (look fm to : Int) (ms : List MD) : List Int := Lib.compact (sortI (chgR S look fm to ms))
def eLs (s : List LD) : List AV := [AL eL s]
/-- What a store's lists are bounded by. -/
structure Sane (S : SS) : Prop where
  rise : Rising S
  len : S.length ≤ 32
  sets : ∀ x ∈ S, x.1.length ≤ 6
  lens : ∀ x ∈ S, x.2.length ≤ 200
  times : ∀ x ∈ S, ∀ y ∈ x.2, 0 ≤ y.time ∧ y.time ≤ 1099511627776
theorem chV_len (l : List SM) (look fm to : Int) : (chV l look fm to).length ≤ 2 * l.length := by
  unfold chV
  exact Nat.le_trans (List.length_filter_le _ _) (chL_len l look l.length)
theorem flat_le {α β : Type} {f : α → List β} {n : Nat} : ∀ {l : List α}, (∀ x ∈ l, (f x).length ≤ n) → (l.flatMap f).length ≤ l.length * n
  | [], _ => by simp
  | a :: r, h => by
    have h1 := h a List.mem_cons_self
    have h2 := flat_le fun x hx => h x (List.mem_cons_of_mem _ hx)
    rw [List.flatMap_cons, List.length_append, List.length_cons, Nat.add_mul, Nat.one_mul]; omega
theorem chg_len {S : SS} (hs : Sane S) (look fm to : Int) (ms : List MD) (k : Nat) : (chgR (S.take k) look fm to ms).length ≤ 12800 := by
  have := flat_le (f := chgA look fm to ms) (n := 400) (l := S.take k) (fun x hx => by
    unfold chgA
    split
    · have := chV_len x.2 look fm to
      have := hs.lens x (List.mem_of_mem_take hx)
      omega
    · simp)
  have h2 := hs.len
  have h3 : (S.take k).length ≤ 32 := by rw [List.length_take]; omega
  have h4 := Nat.mul_le_mul_right 400 h3
  unfold chgR; omega
theorem pick_len {S : SS} (hs : Sane S) (t look : Int) (ms : List MD) (k : Nat) : (pickS (S.take k) t look ms).length ≤ 32 := by
  have := flat_le (f := pickA t look ms) (n := 1) (l := S.take k) (fun x hx => by
    unfold pickA
    split
    · split <;> simp
    · simp)
  have h2 := hs.len
  have h3 : (S.take k).length ≤ 32 := by rw [List.length_take]; omega
  unfold pickS; omega
/-! ### one thing put into a list -/
section
variable {α : Type} {enc : α → List AV} {s : Nat}
def insA (L : List α) (i : Nat) (x : α) : List α := L.take i ++ x :: L.drop i
theorem drop_flat (hs : ∀ x, (enc x).length = s) : ∀ (l : List α) (i : Nat), (l.flatMap enc).drop (i * s) = (l.drop i).flatMap enc
  | [], i => by simp
  | a :: r, 0 => by simp
  | a :: r, i + 1 => by
    rw [List.drop_succ_cons, List.flatMap_cons, List.drop_append, hs, ← drop_flat hs r i, List.drop_eq_nil_of_le (by rw [hs, Nat.add_mul]; omega), List.nil_append]
    congr 1; rw [Nat.add_mul]; omega
theorem ins_cells (hs : ∀ x, (enc x).length = s) (L : List α) (i : Nat) (x : α) : (L.flatMap enc).take (i * s) ++ enc x ++ (L.flatMap enc).drop (i * s) = (insA L i x).flatMap enc := by
  rw [take_flat hs, drop_flat hs]; unfold insA; simp
theorem ins_len {L : List α} {i : Nat} (x : α) (h : i ≤ L.length) : (insA L i x).length = L.length + 1 := by unfold insA; simp; omega
theorem slots_take (hs : ∀ x, (enc x).length = s) {L : List α} {i : Nat} (h : i ≤ L.length) : slots (L.flatMap enc) 0 (i * s) = some ((L.take i).flatMap enc) := by
  rw [slots_ok (by rw [flat_length hs, Nat.zero_add]; exact Nat.mul_le_mul_right _ h), List.drop_zero, take_flat hs]
theorem slots_drop (hs : ∀ x, (enc x).length = s) {L : List α} {i p m : Nat} (hp : p = i * s) (hm : m = L.length - i) (h : i ≤ L.length) : slots (L.flatMap enc) p (m * s) = some ((L.drop i).flatMap enc) := by
  subst hp; subst hm
  have e1 : (L.flatMap enc).length = L.length * s := flat_length hs L
  have e2 : L.length * s = i * s + (L.length - i) * s := by rw [← Nat.add_mul]; congr 1; omega
  rw [slots_ok (by rw [e1]; omega), drop_flat hs, List.take_of_length_le (by rw [flat_length hs, List.length_drop]; exact Nat.le_refl _)]
theorem over_mid2 {a b c vs : List AV} {p : Nat} (hp : p = a.length) (hb : vs.length = b.length) : over (a ++ b ++ c) p vs = some (a ++ vs ++ c) := by
  subst hp
  rw [over_of (by simp only [List.length_append]; omega)]
  simp only [List.append_assoc]
  rw [List.take_left, ← List.append_assoc a b c, hb, ← List.length_append, List.drop_left]
theorem repl_add (z : List AV) (j : Nat) : repl (j + 1) z = z ++ repl j z := by
  show app z (repl j z) = _
  rw [app_eq]
theorem over_ins1 (hs : ∀ x, (enc x).length = s) {z : List AV} (hz : z.length = s) {L : List α} {i p j q : Nat} {x : α} (h : i ≤ L.length) (hp : p = i * s) (hj : j = q + 1) {v : List AV} (hv : v = enc x) : over ((L.take i).flatMap enc ++ repl j z) p v = some ((L.take i).flatMap enc ++ enc x ++ repl q z) := by
  subst hj; subst hv
  rw [repl_add, ← List.append_assoc]
  exact over_mid2 (by rw [flat_length hs, List.length_take, Nat.min_eq_left h, hp]) (by rw [hs, hz])
theorem over_ins2 (hs : ∀ x, (enc x).length = s) {z : List AV} (hz : z.length = s) {L : List α} {i p q : Nat} {x : α} (h : i ≤ L.length) (hp : p = (i + 1) * s) (hq : q = L.length - i) {v : List AV} (hv : v = (L.drop i).flatMap enc) : over ((L.take i).flatMap enc ++ enc x ++ repl q z) p v = some ((insA L i x).flatMap enc) := by
  subst hq; subst hv
  have := over_mid2 (a := (L.take i).flatMap enc ++ enc x) (b := repl (L.length - i) z) (c := []) (vs := (L.drop i).flatMap enc) (p := p) (by rw [List.length_append, flat_length hs, List.length_take, Nat.min_eq_left h, hp, hs, Nat.add_mul]; omega) (by rw [flat_length hs, repl_len, hz, List.length_drop])
  rw [List.append_nil, List.append_nil] at this
  rw [this]; unfold insA; simp
end
theorem map_ins (L : List Ser) (i : Nat) (x : Ser) : (insA L i x).map Ser.abs = insS (L.map Ser.abs) i x.abs := by unfold insA insS; simp
theorem get_insA {α : Type} {L : List α} {i : Nat} {x : α} (h : i ≤ L.length) : (insA L i x)[i]? = some x := by
  unfold insA
  rw [List.getElem?_append_right (by rw [List.length_take]; omega), List.length_take, Nat.min_eq_left h, Nat.sub_self]; rfl
def Ser.add (y : Ser) (x : SM) : Ser := ⟨y.set, y.o, addS y.l x⟩
theorem map_set (L : List Ser) (i : Nat) (y : Ser) : (L.set i y).map Ser.abs = (L.map Ser.abs).set i y.abs := by rw [List.map_set]
theorem one_set {L : List Ser} {i : Nat} {y : Ser} (x : SM) (h : L[i]? = some y) : (L.set i (y.add x)).flatMap eOne = L.flatMap eOne := by
  have : (L.set i (y.add x)).map eOne = L.map eOne := by
    rw [List.map_set, show eOne (y.add x) = eOne y from rfl]
    exact set_same (by rw [List.getElem?_map, h]; rfl)
  rw [List.flatMap_def, List.flatMap_def, this]
theorem addE_new {x : SM} (h : ¬ (x.time < 0 ∨ 1099511627776 < x.time)) : addE [] x = 0 ∧ addS [] x = [x] := add_ok (l := []) (by omega) (by omega) (fun _ h => by cases h) (by simp)
theorem insS_set (S : SS) (i : Nat) (a b : List LD × List SM) (h : i ≤ S.length) : (insS S i a).set i b = insS S i b := by
  unfold insS
  rw [List.set_append_right _ _ (by rw [List.length_take]; omega), List.length_take, Nat.min_eq_left h, Nat.sub_self]; rfl
theorem not_form {set : List LD} {x : SM} (h1 : rightL set = true) (h2 : 0 ≤ x.time) (h3 : x.time ≤ 1099511627776) : ¬ (rightL set = false ∨ x.time < 0 ∨ 1099511627776 < x.time) := by
  rintro (h | h | h)
  · rw [h1] at h; cases h
  · omega
  · omega
theorem set_ne {α : Type} {L : List α} {i : Nat} {x y : α} (h : L[i]? = some x) : L.set i y = [] → False := by
  intro hh
  have := (List.getElem?_eq_some_iff.mp h).1
  have e : (L.set i y).length = L.length := List.length_set
  rw [hh] at e; simp at e; omega
theorem add_abs_new {L : List Ser} {i o : Nat} {set : List LD} {x : SM} (h : i ≤ L.length) (hx : ¬ (x.time < 0 ∨ 1099511627776 < x.time)) : ((insA L i ⟨set, o, []⟩).set i ((⟨set, o, []⟩ : Ser).add x)).map Ser.abs = insS (L.map Ser.abs) i (set, [x]) := by
  rw [map_set, map_ins, insS_set _ _ _ _ (by rw [List.length_map]; exact h)]
  show insS _ _ (set, addS [] x) = _
  rw [(addE_new hx).2]
end
end Go.Proofs.YtlgofplbbmjdjaaGreatDoor.BH.Kx
namespace Go.Proofs.YtlgofplbbmjdjaaGreatDoor.BH.Kx
open Go.Proofs.YtlgofplbbmjdjaaGreatDoor.BH.Rt
noncomputable section
theorem le_args {ρ : Rho} {l l' : List AV} (h : LeL l l') : ∀ {us : List Value}, VRL ρ l us → VRL ρ l' us := by
  induction h with
  | nil => intro us h; exact h
  | cons h1 _ ih =>
    intro us h
    simp only [VRL] at h ⊢
    obtain ⟨u, us', e, g1, g2⟩ := h
    exact ⟨u, us', e, h1.2 _ _ g1, ih g2⟩
theorem CallW.leArgs {C : Ctx} {f : FuncId} {l l' : List AV} {HF : List HI} {K : AV → List HI → Prop} (w : LeL l l') (h : CallW C f l' HF K) : CallW C f l HF K := fun hh fp h1 h2 ρ ww us hv H => h hh fp h1 h2 ρ ww us (le_args w hv) H
theorem cmp_turn : ∀ {a b : List UInt8}, ¬ cmpV a b < 0 → ¬ cmpV a b = 0 → cmpV b a < 0
  | [], [], _, h => absurd rfl h
  | [], b :: t, h, _ => absurd (by rw [cmp_nc]; omega) h
  | a :: r, [], _, _ => by rw [cmp_nc]; omega
  | a :: r, b :: t, h1, h2 => by
    rw [cmp_cc] at h1 h2 ⊢
    by_cases e : a.toNat = b.toNat
    · rw [if_pos e] at h1 h2; rw [if_pos e.symm]; exact cmp_turn h1 h2
    · rw [if_neg e] at h1 h2
      rw [if_neg (fun x => e x.symm)]
      split at h1
      · exact absurd (by omega) h1
      · rw [if_pos (by omega)]; omega
theorem pos_lo {S : SS} {set : List LD} : ∀ y ∈ S.take (posS S set), compL y.1 set < 0 := by
  intro y hy
  unfold posS at hy
  have e : S.take (S.takeWhile fun x => decide (compL x.1 set < 0)).length = S.takeWhile fun x => decide (compL x.1 set < 0) := by
    conv => lhs; arg 2; rw [← List.takeWhile_append_dropWhile (p := fun x => decide (compL x.1 set < 0)) (l := S)]
    rw [List.take_left]
  rw [e] at hy
  have := List.all_takeWhile (p := fun x : List LD × List SM => decide (compL x.1 set < 0)) (l := S)
  rw [List.all_eq_true] at this
  exact of_decide_eq_true (this y hy)
theorem pos_at {S : SS} {set : List LD} {y : List LD × List SM} (h : S[posS S set]? = some y) : ¬ compL y.1 set < 0 := by
  intro hc
  have hd : S.drop (posS S set) = S.dropWhile fun x => decide (compL x.1 set < 0) := by
    unfold posS
    conv => lhs; arg 2; rw [← List.takeWhile_append_dropWhile (p := fun x => decide (compL x.1 set < 0)) (l := S)]
    rw [List.drop_left]
  have h0 : (S.drop (posS S set))[0]? = some y := by rw [List.getElem?_drop, Nat.add_zero]; exact h
  rw [hd] at h0
  have hn := List.head?_dropWhile_not (p := fun x : List LD × List SM => decide (compL x.1 set < 0)) (l := S)
  rw [List.head?_eq_getElem?, h0] at hn
  simp only [decide_eq_false_iff_not] at hn
  exact hn hc
theorem rise_ins {S : SS} {set : List LD} {l : List SM} (hr : Rising S) (hh : hitS S set = false) : Rising (insS S (posS S set) (set, l)) := by
  unfold insS Rising
  have hr' : List.Pairwise (fun x y => cmpV (printL x.1) (printL y.1) < 0) (S.take (posS S set) ++ S.drop (posS S set)) := by rw [List.take_append_drop]; exact hr
  rw [List.pairwise_append] at hr'
  obtain ⟨h1, h2, h3⟩ := hr'
  have hn : ∀ y ∈ S.drop (posS S set), compL set y.1 < 0 := by
    intro y hy
    cases hd : S.drop (posS S set) with
    | nil => rw [hd] at hy; cases hy
    | cons z r =>
      have hz : S[posS S set]? = some z := by
        have : (S.drop (posS S set))[0]? = some z := by rw [hd]; rfl
        rwa [List.getElem?_drop, Nat.add_zero] at this
      have hz1 := pos_at hz
      have hz2 : ¬ compL z.1 set = 0 := by
        have := hit_of rfl hz
        rw [hh] at this
        exact of_decide_eq_false this.symm
      have hz3 : compL set z.1 < 0 := cmp_turn hz1 hz2
      rw [hd] at hy h2
      rcases List.mem_cons.mp hy with rfl | hy
      · exact hz3
      · exact cmp_trans hz3 ((List.pairwise_cons.mp h2).1 y hy)
  rw [List.pairwise_append]
  refine ⟨h1, List.pairwise_cons.mpr ⟨fun y hy => hn y hy, h2⟩, fun a ha b hb => ?_⟩
  rcases List.mem_cons.mp hb with rfl | hb
  · exact pos_lo a ha
  · exact h3 a ha b hb
theorem add_len {l : List SM} {x : SM} (h : l.length ≤ 200) : (addS l x).length ≤ 200 := by
  unfold addS
  split
  · rename_i e
    rw [List.length_append]
    have : ¬ l.length = 200 := by
      intro h2
      unfold addE at e
      simp only [h2] at e
      repeat' split at e
      all_goals first | (simp at *; done) | cases e
      all_goals simp at *
    simp only [List.length_cons, List.length_nil]; omega
  · exact h
theorem add_mem {l : List SM} {x y : SM} (h : y ∈ addS l x) : y ∈ l ∨ y = x := by
  unfold addS at h
  split at h
  · rcases List.mem_append.mp h with h | h
    · exact .inl h
    · exact .inr (List.mem_singleton.mp h)
  · exact .inl h
theorem sane_nil : Sane [] := ⟨List.Pairwise.nil, by simp, by simp, by simp, by simp⟩
theorem sane_put {S : SS} (hs : Sane S) (set : List LD) (x : SM) : Sane (putSt S set x) := by
  by_cases hf : rightL set = false ∨ x.time < 0 ∨ 1099511627776 < x.time
  · rw [(put_form hf).2]; exact hs
  · have hr : rightL set = true := by
      cases h : rightL set with
      | true => rfl
      | false => exact absurd (.inl h) hf
    have hx : 0 ≤ x.time ∧ x.time ≤ 1099511627776 := by omega
    cases hh : hitS S set with
    | false =>
      by_cases h32 : S.length = 32
      · rw [(put_full hf hh h32).2]; exact hs
      · rw [(put_new hf hh h32).2]
        have hp := pos_le S set
        have hl := hs.len
        have hm : ∀ z ∈ insS S (posS S set) (set, [x]), z ∈ S ∨ z = (set, [x]) := by
          intro z hz
          unfold insS at hz
          rcases List.mem_append.mp hz with h | h
          · exact .inl (List.mem_of_mem_take h)
          · rcases List.mem_cons.mp h with h | h
            · exact .inr h
            · exact .inl (List.mem_of_mem_drop h)
        refine ⟨rise_ins hs.rise hh, by unfold insS; simp; omega, fun z hz => ?_, fun z hz => ?_, fun z hz y hy => ?_⟩
        · rcases hm z hz with h | rfl
          · exact hs.sets z h
          · exact right_six hr
        · rcases hm z hz with h | rfl
          · exact hs.lens z h
          · simp
        · rcases hm z hz with h | rfl
          · exact hs.times z h y hy
          · obtain rfl := List.mem_singleton.mp hy; exact hx
    | true =>
      obtain ⟨y, hy⟩ : ∃ y, S[posS S set]? = some y := by
        cases h : S[posS S set]? with
        | none => unfold hitS at hh; rw [h] at hh; cases hh
        | some y => exact ⟨y, rfl⟩
      rw [(put_hit hf hh hy).2]
      have hym := List.mem_of_getElem? hy
      have hpl := (List.getElem?_eq_some_iff.mp hy)
      have hm : ∀ z ∈ S.set (posS S set) (y.1, addS y.2 x), z ∈ S ∨ z = (y.1, addS y.2 x) := fun z hz => (List.mem_or_eq_of_mem_set hz)
      refine ⟨?_, by rw [List.length_set]; exact hs.len, fun z hz => ?_, fun z hz => ?_, fun z hz w hw => ?_⟩
      · have e : (S.set (posS S set) (y.1, addS y.2 x)).map (fun z => z.1) = S.map (fun z => z.1) := by
          rw [List.map_set]
          exact set_same (by rw [List.getElem?_map, hy]; rfl)
        have h1 : (S.map fun z => z.1).Pairwise fun a b => cmpV (printL a) (printL b) < 0 := List.pairwise_map.mpr hs.rise
        rw [← e] at h1
        exact List.pairwise_map.mp h1
      · rcases hm z hz with h | rfl
        · exact hs.sets z h
        · exact hs.sets y hym
      · rcases hm z hz with h | rfl
        · exact hs.lens z h
        · exact add_len (hs.lens y hym)
      · rcases hm z hz with h | rfl
        · exact hs.times z h w hw
        · rcases add_mem hw with h | rfl
          · exact hs.times y hym w h
          · exact hx
theorem pick_succ (S : SS) (t look : Int) (ms : List MD) {k : Nat} {x : List LD × List SM} (hx : S[k]? = some x) : pickS (S.take (k + 1)) t look ms = pickS (S.take k) t look ms ++ pickA t look ms x := by
  unfold pickS; rw [take_one hx, List.flatMap_append]; simp
theorem pick_not {S : SS} {t look : Int} {ms : List MD} {k : Nat} {x : List LD × List SM} (hx : S[k]? = some x) (h : allV x.1 ms = false) : pickS (S.take k) t look ms = pickS (S.take (k + 1)) t look ms := by
  rw [pick_succ S t look ms hx]; unfold pickA; rw [h]; simp
theorem pick_none {S : SS} {t look : Int} {ms : List MD} {k : Nat} {x : List LD × List SM} (hx : S[k]? = some x) (h : allV x.1 ms = true) (h2 : (atV x.2 t look).2 = false) : pickS (S.take k) t look ms = pickS (S.take (k + 1)) t look ms := by
  rw [pick_succ S t look ms hx]; unfold pickA; rw [h, h2]; simp
theorem pick_one {S : SS} {t look : Int} {ms : List MD} {k : Nat} {x : List LD × List SM} (hx : S[k]? = some x) (h : allV x.1 ms = true) (h2 : (atV x.2 t look).2 = true) : pickS (S.take k) t look ms ++ [⟨x.1, (atV x.2 t look).1⟩] = pickS (S.take (k + 1)) t look ms := by
  rw [pick_succ S t look ms hx]; unfold pickA; rw [h, h2]; simp
theorem chg_not {S : SS} {look fm to : Int} {ms : List MD} {k : Nat} {x : List LD × List SM} (hx : S[k]? = some x) (h : allV x.1 ms = false) : chgR (S.take k) look fm to ms = chgR (S.take (k + 1)) look fm to ms := by
  unfold chgR; rw [take_one hx, List.flatMap_append]; simp [chgA, h]
theorem chg_one {S : SS} {look fm to : Int} {ms : List MD} {k : Nat} {x : List LD × List SM} (hx : S[k]? = some x) (h : allV x.1 ms = true) : chgR (S.take k) look fm to ms ++ chV x.2 look fm to = chgR (S.take (k + 1)) look fm to ms := by
  unfold chgR; rw [take_one hx, List.flatMap_append]; simp [chgA, h]
theorem sets_one {S : SS} {k : Nat} {x : List LD × List SM} (hx : S[k]? = some x) : (S.take k).map (fun x => x.1) ++ [x.1] = (S.take (k + 1)).map (fun x => x.1) := by
  rw [take_one hx, List.map_append]; rfl
end
end Go.Proofs.YtlgofplbbmjdjaaGreatDoor.BH.Kx
namespace Go.Proofs.YtlgofplbbmjdjaaGreatDoor.BH.Kx
open Go.Proofs.YtlgofplbbmjdjaaGreatDoor.BH.Rt
noncomputable section
def laX : LD := ⟨[97], [120]⟩
def R1 : SS := putSt [] [laX] ⟨10, 5⟩
def R2 : SS := putSt R1 [] ⟨12, 1⟩
theorem sane1 : Sane R1 := sane_put sane_nil _ _
theorem sane2 : Sane R2 := sane_put sane1 _ _
theorem runE1 : putE [] [laX] ⟨10, 5⟩ = 0 := by kernel_rfl
theorem runE2 : putE R1 [] ⟨12, 1⟩ = 0 := by kernel_rfl
theorem runP : pickS R2 12 5 [] = [⟨[laX], 5⟩, ⟨[], 1⟩] := by kernel_rfl
theorem runS : R2.map (fun x => x.1) = [[laX], []] := by kernel_rfl
theorem runR : chgR R2 5 0 99 [] = [10, 15, 12, 17] := by kernel_rfl
theorem runC : chgS R2 5 0 99 [] = [10, 12, 15, 17] := by
  unfold chgS
  rw [runR]
  have : sortI [10, 15, 12, 17] = [10, 12, 15, 17] := by
    unfold sortI
    simp [List.mergeSort, List.MergeSort.Internal.splitInTwo, List.merge]
  rw [this]; rfl
end
end Go.Proofs.YtlgofplbbmjdjaaGreatDoor.BH.Kx
namespace Go.Proofs.YtlgofplbbmjdjaaGreatDoor.BH.Kx
open Go.Proofs.YtlgofplbbmjdjaaGreatDoor.BH.Rt Go.Proofs.YtlgofplbbmjdjaaGreatDoor.BH.Dk
noncomputable section
def namesV : List (List UInt8) := [[97], [98], [99], [110, 97, 109, 101]]
def valuesV : List (List UInt8) := [[120], [121], [120, 121], [49], [34], [92], [123, 125], [122, 32, 122]]
def pickK (l : List Int) (i : Nat) : Int := if l = [] then 0 else (l[i % l.length]?).getD 0
def andK (v : Int) : Int := wrapF .i64 ((BitVec.ofInt IntKind.i64.bits v &&& BitVec.ofInt IntKind.i64.bits 1).toNat)
structure KS where
  has : List Int
  vals : List Int
def eKS (k : KS) : List AV := [AL eI k.has, AL eI k.vals]
def eLL (l : List Int) : List AV := [AL eI l]
def withinN (n hi : Int) : Nat := (withinV n 0 hi).toNat
theorem withinN_is (n : Int) {hi : Int} (h : 0 ≤ hi) : withinV n 0 hi = (withinN n hi : Nat) := by
  have := (withinV_in n 0 hi h).1
  unfold withinN; omega
theorem withinN_le (n : Int) {hi : Int} (h : 0 ≤ hi) : (withinN n hi : Int) ≤ hi := by
  have := (withinV_in n 0 hi h).2
  rw [← withinN_is n h]; exact this
def bitK (k : KS) (i : Nat) : Bool := match k.has[i]? with
  | none => false
  | some v => decide (andK v = 1)
theorem bit_none {k : KS} {i : Nat} (h : k.has.length ≤ i) : bitK k i = false := by unfold bitK; rw [List.getElem?_eq_none h]
theorem bit_some {k : KS} {i : Nat} {v : Int} (h : k.has[i]? = some v) : bitK k i = decide (andK v = 1) := by unfold bitK; rw [h]
def valK (k : KS) (i : Nat) : List UInt8 := (valuesV[withinN (pickK k.vals i) 7]?).getD []
def labK (k : KS) (i : Nat) : List LD := match namesV[i]? with
  | none => []
  | some n => if bitK k i = true then [⟨n, valK k i⟩] else []
def setK (k : KS) : Nat → List LD
  | 0 => []
  | i + 1 => setK k i ++ labK k i
theorem set_no {k : KS} {i : Nat} (h : bitK k i = false) : setK k i = setK k (i + 1) := by
  show _ = setK k i ++ labK k i
  unfold labK
  split
  · simp
  · rw [h]; simp
theorem set_one' {k : KS} {i : Nat} {n v : List UInt8} (h : bitK k i = true) (hn : namesV[i]? = some n) (hv : valuesV[withinN (pickK k.vals i) 7]? = some v) : setK k i ++ [⟨n, v⟩] = setK k (i + 1) := by
  show _ = setK k i ++ labK k i
  unfold labK
  rw [hn]
  simp only [h, if_true]
  unfold valK; rw [hv]; rfl
theorem set_len (k : KS) : ∀ i, (setK k i).length ≤ i
  | 0 => Nat.le_refl _
  | i + 1 => by
    have := set_len k i
    have h2 : (labK k i).length ≤ 1 := by
      unfold labK
      split
      · simp
      · split <;> simp
    show (setK k i ++ labK k i).length ≤ _
    rw [List.length_append]; omega
def timeK (l : List Int) : Nat → Int
  | 0 => 0
  | i + 1 => timeK l i + withinV ((l[i]?).getD 0) 1 12
def sampK (l : List Int) (i : Nat) : SM := ⟨timeK l (i + 1), withinV (IntKind.i64.wrap (((l[i]?).getD 0).tdiv 12)) (-4) 9⟩
def sampsK (l : List Int) (i : Nat) : List SM := (List.range i).map (sampK l)
theorem samps_succ (l : List Int) (i : Nat) : sampsK l i ++ [sampK l i] = sampsK l (i + 1) := by unfold sampsK; rw [List.range_succ, List.map_append]; rfl
theorem samps_len (l : List Int) (i : Nat) : (sampsK l i).length = i := by unfold sampsK; simp
theorem time_in (l : List Int) : ∀ i : Nat, (i : Int) ≤ timeK l i ∧ timeK l i ≤ 12 * i
  | 0 => by simp [timeK]
  | i + 1 => by
    have h1 := time_in l i
    have h2 := withinV_in ((l[i]?).getD 0) 1 12 (by decide)
    show (((i + 1 : Nat) : Int)) ≤ timeK l i + withinV ((l[i]?).getD 0) 1 12 ∧ timeK l i + withinV ((l[i]?).getD 0) 1 12 ≤ _
    omega
def samplesK (l : List Int) : List SM := sampsK l (min l.length 20)
def nb (i : Nat) : UInt8 := if i % 2 = 0 then 109 else 110
theorem nb_wrap {i : Nat} (h : i < 5) : IntKind.u8.wrap (109 + (i : Int).tmod 2) = ((nb i).toNat : Int) := by
  match i, h with
  | 0, _ => rfl
  | 1, _ => rfl
  | 2, _ => rfl
  | 3, _ => rfl
  | 4, _ => rfl
def fullK (k : KS) (i : Nat) : List LD := setK k 3 ++ [⟨[110, 97, 109, 101], [nb i]⟩]
def keyS (x : LD) : List UInt8 := x.name ++ [61] ++ x.value ++ [59]
def keyT (l : List LD) : List UInt8 := l.flatMap keyS
theorem key_one {l : List LD} {k : Nat} {x : LD} (hx : l[k]? = some x) : keyT (l.take k) ++ x.name ++ [61] ++ x.value ++ [59] = keyT (l.take (k + 1)) := by
  unfold keyT; rw [take_one hx, List.flatMap_append]; simp [keyS]
def putAll (S : SS) (set : List LD) (xs : List SM) : SS := xs.foldl (fun S x => putSt S set x) S
theorem putAll_one {S : SS} {set : List LD} {xs : List SM} {k : Nat} {x : SM} (hx : xs[k]? = some x) : putSt (putAll S set (xs.take k)) set x = putAll S set (xs.take (k + 1)) := by
  unfold putAll; rw [take_one hx, List.foldl_append]; rfl
theorem sane_all {S : SS} (hs : Sane S) (set : List LD) (xs : List SM) : Sane (putAll S set xs) := by
  induction xs generalizing S with
  | nil => exact hs
  | cons x r ih => exact ih (sane_put hs set x)
abbrev DM := List (List UInt8 × Bool)
def stepK (k : KS) (l : Option (List Int)) (i : Nat) (S : SS) (D : DM) : SS × DM := match l with
  | none => (S, D)
  | some l => if (getA D (keyT (fullK k i))).getD false = true then (S, D) else (putAll S (fullK k i) (samplesK l), putA D (keyT (fullK k i)) true)
def fillN (ks : List KS) (ls : List (List Int)) : Nat → SS × DM
  | 0 => ([], [])
  | i + 1 => match ks[i]? with
    | none => fillN ks ls i
    | some k => stepK k ls[i]? i (fillN ks ls i).1 (fillN ks ls i).2
def fillW (ks : List KS) (ls : List (List Int)) : SS := (fillN ks ls (min ks.length 5)).1
theorem fill_met {ks : List KS} {ls : List (List Int)} {i : Nat} {k : KS} (hk : ks[i]? = some k) (h : (getA (fillN ks ls i).2 (keyT (fullK k i))).getD false = true) : fillN ks ls i = fillN ks ls (i + 1) := by
  show _ = (match ks[i]? with
    | none => fillN ks ls i
    | some k => stepK k ls[i]? i (fillN ks ls i).1 (fillN ks ls i).2)
  rw [hk]
  simp only [stepK]
  split
  · rfl
  · rw [if_pos h]
theorem fill_out {ks : List KS} {ls : List (List Int)} {i : Nat} {k : KS} (hk : ks[i]? = some k) (h : ls.length ≤ i) : fillN ks ls i = fillN ks ls (i + 1) := by
  show _ = (match ks[i]? with
    | none => fillN ks ls i
    | some k => stepK k ls[i]? i (fillN ks ls i).1 (fillN ks ls i).2)
  rw [hk, List.getElem?_eq_none h]; rfl
theorem fill_in {ks : List KS} {ls : List (List Int)} {i : Nat} {k : KS} {l : List Int} (hk : ks[i]? = some k) (hl : ls[i]? = some l) (h : (getA (fillN ks ls i).2 (keyT (fullK k i))).getD false = false) : fillN ks ls (i + 1) = (putAll (fillN ks ls i).1 (fullK k i) (samplesK l), putA (fillN ks ls i).2 (keyT (fullK k i)) true) := by
  show (match ks[i]? with
    | none => fillN ks ls i
    | some k => stepK k ls[i]? i (fillN ks ls i).1 (fillN ks ls i).2) = _
  rw [hk, hl]
  simp only [stepK]
  rw [if_neg (by rw [h]; decide)]

/-! ### printed sets tell the sets -/
def Clean (l : List LD) : Prop := ∀ x ∈ l, (61 : UInt8) ∉ x.name ∧ x.name.head? ≠ some 125
def tailP : List LD → List UInt8
  | [] => [125]
  | x :: r => 44 :: (partL x ++ tailP r)
theorem print_cons (x : LD) (r : List LD) (h : rightL (x :: r) = true) : printL (x :: r) = 123 :: (partL x ++ tailP r) := by
  have key : ∀ (r : List LD) (p : List UInt8), ([44] : List UInt8).intercalate (p :: r.map partL) ++ [125] = p ++ tailP r := by
    intro r
    induction r with
    | nil => intro p; simp [List.intercalate, tailP]
    | cons y t ih =>
      intro p
      have := ih (partL y)
      rw [List.map_cons, List.intercalate, List.intersperse_cons_cons, List.flatten_cons, List.flatten_cons]
      have e : (List.intersperse [44] (partL y :: t.map partL)).flatten = ([44] : List UInt8).intercalate (partL y :: t.map partL) := rfl
      rw [e, List.append_assoc, List.append_assoc, this]; rfl
  unfold printL
  rw [if_pos h, List.map_cons, List.cons_append, key]
theorem name_inj : ∀ {a b r t : List UInt8}, (61 : UInt8) ∉ a → (61 : UInt8) ∉ b → a ++ 61 :: r = b ++ 61 :: t → a = b ∧ r = t
  | [], [], _, _, _, _, h => ⟨rfl, by simpa using h⟩
  | [], y :: b, _, _, _, h2, h => by
    simp at h
    exact absurd (by rw [← h.1]; exact List.mem_cons_self) h2
  | x :: a, [], _, _, h1, _, h => by
    simp at h
    exact absurd (by rw [h.1]; exact List.mem_cons_self) h1
  | x :: a, y :: b, r, t, h1, h2, h => by
    simp only [List.cons_append, List.cons.injEq] at h
    obtain ⟨e1, e2⟩ := h
    obtain ⟨k1, k2⟩ := name_inj (fun z => h1 (List.mem_cons_of_mem _ z)) (fun z => h2 (List.mem_cons_of_mem _ z)) e2
    exact ⟨by rw [e1, k1], k2⟩
theorem quote_inj : ∀ {a b r t : List UInt8}, a.flatMap quoteB ++ 34 :: r = b.flatMap quoteB ++ 34 :: t → a = b ∧ r = t
  | [], [], _, _, h => ⟨rfl, by simpa using h⟩
  | [], y :: b, _, _, h => by
    rw [List.flatMap_cons] at h
    unfold quoteB at h
    split at h
    · simp at h
    · rename_i hn
      simp at h
      exact absurd (.inl h.1.symm) hn
  | x :: a, [], _, _, h => by
    rw [List.flatMap_cons] at h
    unfold quoteB at h
    split at h
    · simp at h
    · rename_i hn
      simp at h
      exact absurd (.inl h.1) hn
  | x :: a, y :: b, r, t, h => by
    rw [List.flatMap_cons, List.flatMap_cons, List.append_assoc, List.append_assoc] at h
    by_cases hx : x = 34 ∨ x = 92
    · by_cases hy : y = 34 ∨ y = 92
      · have e1 : quoteB x = [92, x] := by unfold quoteB; rw [if_pos hx]
        have e2 : quoteB y = [92, y] := by unfold quoteB; rw [if_pos hy]
        rw [e1, e2] at h
        simp only [List.cons_append, List.nil_append, List.cons.injEq, true_and] at h
        obtain ⟨k1, k2⟩ := quote_inj h.2
        exact ⟨by rw [h.1, k1], k2⟩
      · have e1 : quoteB x = [92, x] := by unfold quoteB; rw [if_pos hx]
        have e2 : quoteB y = [y] := by unfold quoteB; rw [if_neg hy]
        rw [e1, e2] at h
        simp only [List.cons_append, List.nil_append, List.cons.injEq] at h
        exact absurd (.inr h.1.symm) hy
    · by_cases hy : y = 34 ∨ y = 92
      · have e1 : quoteB x = [x] := by unfold quoteB; rw [if_neg hx]
        have e2 : quoteB y = [92, y] := by unfold quoteB; rw [if_pos hy]
        rw [e1, e2] at h
        simp only [List.cons_append, List.nil_append, List.cons.injEq] at h
        exact absurd (.inr h.1) hx
      · have e1 : quoteB x = [x] := by unfold quoteB; rw [if_neg hx]
        have e2 : quoteB y = [y] := by unfold quoteB; rw [if_neg hy]
        rw [e1, e2] at h
        simp only [List.cons_append, List.nil_append, List.cons.injEq] at h
        obtain ⟨k1, k2⟩ := quote_inj h.2
        exact ⟨by rw [h.1, k1], k2⟩
theorem part_inj {x y : LD} {r t : List UInt8} (hx : (61 : UInt8) ∉ x.name) (hy : (61 : UInt8) ∉ y.name) (h : partL x ++ r = partL y ++ t) : x = y ∧ r = t := by
  unfold partL at h
  rw [List.append_assoc, List.append_assoc, List.cons_append, List.cons_append] at h
  obtain ⟨e1, e2⟩ := name_inj hx hy h
  unfold quoteV at e2
  simp only [List.cons_append, List.cons.injEq, true_and, List.append_assoc, List.nil_append] at e2
  obtain ⟨e3, e4⟩ := quote_inj e2
  refine ⟨?_, e4⟩
  cases x; cases y; simp only at e1 e3; subst e1; subst e3; rfl
theorem tail_inj : ∀ {a b : List LD}, Clean a → Clean b → tailP a = tailP b → a = b
  | [], [], _, _, _ => rfl
  | [], y :: b, _, _, h => by simp [tailP] at h
  | x :: a, [], _, _, h => by simp [tailP] at h
  | x :: a, y :: b, ha, hb, h => by
    simp only [tailP, List.cons.injEq, true_and] at h
    obtain ⟨e1, e2⟩ := part_inj (ha x List.mem_cons_self).1 (hb y List.mem_cons_self).1 h
    rw [e1, tail_inj (fun z hz => ha z (List.mem_cons_of_mem _ hz)) (fun z hz => hb z (List.mem_cons_of_mem _ hz)) e2]
theorem part_head {x : LD} (h : x.name.head? ≠ some 125) (r : List UInt8) : (partL x ++ r).head? ≠ some 125 := by
  unfold partL
  cases hn : x.name with
  | nil => simp
  | cons c t => rw [hn] at h; simpa using h
theorem print_inj {a b : List LD} (ra : rightL a = true) (rb : rightL b = true) (ca : Clean a) (cb : Clean b) (h : printL a = printL b) : a = b := by
  cases a with
  | nil =>
    cases b with
    | nil => rfl
    | cons y b =>
      rw [print_cons y b rb] at h
      have h0 : printL [] = [123, 125] := rfl
      rw [h0] at h
      simp only [List.cons.injEq, true_and] at h
      exact absurd (by rw [← h]; rfl) (part_head (cb y List.mem_cons_self).2 (tailP b))
  | cons x a =>
    cases b with
    | nil =>
      rw [print_cons x a ra] at h
      have h0 : printL [] = [123, 125] := rfl
      rw [h0] at h
      simp only [List.cons.injEq, true_and] at h
      exact absurd (by rw [h]; rfl) (part_head (ca x List.mem_cons_self).2 (tailP a))
    | cons y b =>
      rw [print_cons x a ra, print_cons y b rb] at h
      simp only [List.cons.injEq, true_and] at h
      exact tail_inj ca cb (by simp only [tailP, h])
end
end Go.Proofs.YtlgofplbbmjdjaaGreatDoor.BH.Kx
namespace Go.Proofs.YtlgofplbbmjdjaaGreatDoor.BH.Kx
open Go.Proofs.YtlgofplbbmjdjaaGreatDoor.BH.Rt Go.Proofs.YtlgofplbbmjdjaaGreatDoor.BH.Dk
noncomputable section
/-! ### the sets are right -/
theorem right_chain {l : List LD} (h6 : l.length ≤ 6) (ho : ∀ x ∈ l, okL x = true) (hp : (l.map LD.name).Pairwise fun a b => less a b = true) : rightL l = true := by
  unfold rightL
  rw [decide_eq_true h6, Bool.and_true, List.all_eq_true]
  intro i hi
  have hi := List.mem_range.mp hi
  obtain ⟨x, hx⟩ : ∃ x, l[i]? = some x := ⟨_, List.getElem?_eq_getElem hi⟩
  rw [stepR_some hx, ho x (List.mem_of_getElem? hx), Bool.true_and]
  cases i with
  | zero => rfl
  | succ j =>
    cases hq : l[j]? with
    | none => unfold befL; simp only [hq]
    | some p =>
      unfold befL
      simp only [hq]
      have h1 := List.getElem?_eq_some_iff.mp hx
      have h2 := List.getElem?_eq_some_iff.mp hq
      have := List.pairwise_iff_getElem.mp hp j (j + 1) (by simpa using h2.1) (by simpa using h1.1) (by omega)
      rw [List.getElem_map, List.getElem_map, h1.2, h2.2] at this
      exact this
theorem lab_sub (k : KS) {i : Nat} {n : List UInt8} (h : namesV[i]? = some n) : ((labK k i).map LD.name).Sublist [n] := by
  unfold labK; rw [h]
  simp only []
  split
  · exact List.Sublist.refl _
  · exact List.nil_sublist _
theorem full_sub (k : KS) (i : Nat) : ((fullK k i).map LD.name).Sublist namesV := by
  have h := (((List.Sublist.refl ([] : List (List UInt8))).append (lab_sub k (i := 0) rfl)).append (lab_sub k (i := 1) rfl)).append (lab_sub k (i := 2) rfl)
  have := h.append (List.Sublist.refl [[110, 97, 109, 101]])
  show (((([] ++ labK k 0) ++ labK k 1) ++ labK k 2 ++ [(⟨[110, 97, 109, 101], [nb i]⟩ : LD)]).map LD.name).Sublist _
  simp only [List.map_append] at *
  exact this
theorem val_ok (k : KS) (i : Nat) : valK k i ≠ [] ∧ (valK k i).length ≤ 24 := by
  have h8 := withinN_le (pickK k.vals i) (hi := 7) (by decide)
  have hlt : withinN (pickK k.vals i) 7 < valuesV.length := by show _ < 8; omega
  have e : valK k i = valuesV[withinN (pickK k.vals i) 7] := by unfold valK; rw [List.getElem?_eq_getElem hlt]; rfl
  have : ∀ v ∈ valuesV, v ≠ [] ∧ v.length ≤ 24 := by decide
  rw [e]; exact this _ (List.getElem_mem hlt)
theorem word_names : ∀ n ∈ namesV, wordV n = true := by
  intro n hn
  simp only [namesV, List.mem_cons, List.not_mem_nil, or_false] at hn
  rcases hn with rfl | rfl | rfl | rfl <;> kernel_rfl
theorem lab_ok {k : KS} {i : Nat} {x : LD} (h : x ∈ labK k i) : okL x = true := by
  unfold labK at h
  split at h
  · cases h
  · rename_i n hn
    split at h
    · obtain rfl := List.mem_singleton.mp h
      exact ok_of (word_names n (List.mem_of_getElem? hn)) (val_ok k i).1 (by have := (val_ok k i).2; show ((valK k i).length : Int) ≤ 24; omega)
    · cases h
theorem full_ok {k : KS} {i : Nat} {x : LD} (h : x ∈ fullK k i) : okL x = true := by
  have h : x ∈ (([] ++ labK k 0) ++ labK k 1) ++ labK k 2 ++ [(⟨[110, 97, 109, 101], [nb i]⟩ : LD)] := h
  simp only [List.mem_append, List.not_mem_nil, false_or, List.mem_singleton] at h
  rcases h with ((h | h) | h) | rfl
  · exact lab_ok h
  · exact lab_ok h
  · exact lab_ok h
  · exact ok_of (word_names [110, 97, 109, 101] (by decide)) (by simp) (by simp)
theorem full_len (k : KS) (i : Nat) : (fullK k i).length ≤ 4 := by
  have := set_len k 3
  unfold fullK; rw [List.length_append]; simp only [List.length_cons, List.length_nil]; omega
theorem full_right (k : KS) (i : Nat) : rightL (fullK k i) = true :=
  right_chain (by have := full_len k i; omega) (fun x h => full_ok h) ((show namesV.Pairwise fun a b => less a b = true by decide).sublist (full_sub k i))
theorem full_clean (k : KS) (i : Nat) : Clean (fullK k i) := by
  intro x hx
  have hm : x.name ∈ namesV := (full_sub k i).subset (List.mem_map_of_mem hx)
  have : ∀ n ∈ namesV, (61 : UInt8) ∉ n ∧ n.head? ≠ some 125 := by decide
  exact this _ hm
theorem get_skip {n : List UInt8} : ∀ {a b : List LD}, (∀ x ∈ a, x.name ≠ n) → getV (a ++ b) n = getV b n
  | [], _, _ => rfl
  | x :: a, b, h => by
    rw [List.cons_append, getV_cons, if_neg (h x List.mem_cons_self), get_skip fun z hz => h z (List.mem_cons_of_mem _ hz)]
theorem lab_name {k : KS} {i : Nat} {x : LD} (hi : i < 3) (h : x ∈ labK k i) : x.name ≠ [110, 97, 109, 101] := by
  have hs : ∃ n, namesV[i]? = some n ∧ n ≠ [110, 97, 109, 101] := by
    match i, hi with
    | 0, _ => exact ⟨_, rfl, by decide⟩
    | 1, _ => exact ⟨_, rfl, by decide⟩
    | 2, _ => exact ⟨_, rfl, by decide⟩
  obtain ⟨n, h1, h2⟩ := hs
  have := (lab_sub k h1).subset (List.mem_map_of_mem h)
  rw [List.mem_singleton.mp this]; exact h2
theorem full_named (k : KS) (i : Nat) : getV (fullK k i) [110, 97, 109, 101] = [nb i] := by
  show getV ((([] ++ labK k 0) ++ labK k 1) ++ labK k 2 ++ [(⟨[110, 97, 109, 101], [nb i]⟩ : LD)]) _ = _
  rw [get_skip (fun x hx => by
    simp only [List.mem_append, List.not_mem_nil, false_or] at hx
    rcases hx with (h | h) | h
    · exact lab_name (by decide) h
    · exact lab_name (by decide) h
    · exact lab_name (by decide) h), getV_cons, if_pos rfl]

/-! ### all samples of a new set are taken -/
theorem half_ge {S : SS} {set : List LD} (hr : Rising S) : ∀ y ∈ S.drop (posS S set), ¬ compL y.1 set < 0 := by
  intro y hy
  cases h : S[posS S set]? with
  | none =>
    rw [List.drop_eq_nil_of_le (List.getElem?_eq_none_iff.mp h)] at hy; cases hy
  | some z => exact half_high hr h (pos_at h) y hy
theorem ins_pos {S : SS} {set : List LD} {l : List SM} (hr : Rising S) : posS (insS S (posS S set) (set, l)) set = posS S set ∧ (insS S (posS S set) (set, l))[posS S set]? = some (set, l) := by
  have hp := pos_le S set
  have ht : (insS S (posS S set) (set, l)).take (posS S set) = S.take (posS S set) := by
    unfold insS
    rw [List.take_append_of_le_length (by rw [List.length_take]; omega), List.take_of_length_le (by rw [List.length_take]; omega)]
  have hd : (insS S (posS S set) (set, l)).drop (posS S set) = (set, l) :: S.drop (posS S set) := by
    unfold insS
    rw [List.drop_append, List.length_take, Nat.min_eq_left hp, Nat.sub_self, List.drop_eq_nil_of_le (by rw [List.length_take]; omega)]; rfl
  refine ⟨pos_of (by unfold insS; simp; omega) (by rw [ht]; exact pos_lo) ?_, ?_⟩
  · rw [hd]
    intro y hy
    rcases List.mem_cons.mp hy with rfl | hy
    · show ¬ cmpV _ _ < 0
      rw [cmp_self]; omega
    · exact half_ge hr y hy
  · have : ((insS S (posS S set) (set, l)).drop (posS S set))[0]? = some (set, l) := by rw [hd]; rfl
    rwa [List.getElem?_drop, Nat.add_zero] at this
def Up (xs : List SM) : Prop := ∀ (j : Nat) (x : SM), xs[j]? = some x → 0 ≤ x.time ∧ x.time ≤ 1099511627776 ∧ ∀ y, 0 < j → xs[j - 1]? = some y → y.time < x.time
theorem all_ins {S : SS} {set : List LD} {xs : List SM} (hs : Sane S) (hr : rightL set = true) (hh : hitS S set = false) (h32 : S.length < 32) (hu : Up xs) (hl : xs.length ≤ 200) : ∀ j, j ≤ xs.length →
    putAll S set (xs.take j) = (if j = 0 then S else insS S (posS S set) (set, xs.take j)) ∧ ∀ x, xs[j]? = some x → putE (putAll S set (xs.take j)) set x = 0
  | 0, _ => by
    refine ⟨by simp [putAll], fun x hx => ?_⟩
    have h := hu 0 x hx
    have hnf := not_form hr h.1 h.2.1
    show putE (putAll S set []) set x = 0
    exact (put_new hnf hh (by omega)).1
  | j + 1, hj => by
    obtain ⟨x, hx⟩ : ∃ x, xs[j]? = some x := ⟨_, List.getElem?_eq_getElem (by omega)⟩
    have ih := all_ins hs hr hh h32 hu hl j (by omega)
    have h := hu j x hx
    have hnf := not_form hr h.1 h.2.1
    have htl : ∀ m, m ≤ xs.length → (xs.take m).length = m := fun m hm => by rw [List.length_take]; omega
    have e1 : putAll S set (xs.take (j + 1)) = insS S (posS S set) (set, xs.take (j + 1)) := by
      rw [← putAll_one hx, ih.1]
      by_cases h0 : j = 0
      · subst h0
        rw [if_pos rfl, (put_new hnf hh (by omega)).2, take_one hx]; rfl
      · rw [if_neg h0]
        obtain ⟨p1, p2⟩ := ins_pos (l := xs.take j) (set := set) hs.rise
        have hhit : hitS (insS S (posS S set) (set, xs.take j)) set = true := by
          rw [hit_of p1 p2]; show decide (cmpV _ _ = 0) = true; rw [cmp_self]; rfl
        have ha : addE (xs.take j) x = 0 ∧ addS (xs.take j) x = xs.take j ++ [x] := add_ok h.1 h.2.1 (fun y hy => by
          rw [htl j (by omega), List.getElem?_take] at hy
          rw [if_pos (by omega)] at hy
          have := h.2.2 y (by omega) hy
          omega) (by rw [htl j (by omega)]; omega)
        rw [(put_hit hnf hhit (by rw [p1]; exact p2)).2, p1]
        simp only []
        rw [ha.2, insS_set _ _ _ _ (pos_le S set), take_one hx]
    refine ⟨by rw [e1, if_neg (by omega)], fun y hy => ?_⟩
    rw [e1]
    obtain ⟨p1, p2⟩ := ins_pos (l := xs.take (j + 1)) (set := set) hs.rise
    have hhit : hitS (insS S (posS S set) (set, xs.take (j + 1))) set = true := by
      rw [hit_of p1 p2]; show decide (cmpV _ _ = 0) = true; rw [cmp_self]; rfl
    have hy' := hu (j + 1) y hy
    rw [(put_hit (not_form hr hy'.1 hy'.2.1) hhit (by rw [p1]; exact p2)).1]
    exact (add_ok hy'.1 hy'.2.1 (fun z hz => by
      rw [htl (j + 1) (by omega), List.getElem?_take] at hz
      rw [if_pos (by omega)] at hz
      have := hy'.2.2 z (by omega) hz
      omega) (by rw [htl (j + 1) (by omega)]; have := (List.getElem?_eq_some_iff.mp hy).1; omega)).1
theorem samples_get {l : List Int} {j : Nat} {x : SM} (h : (samplesK l)[j]? = some x) : x = sampK l j ∧ j < 20 := by
  unfold samplesK sampsK at h
  rw [List.getElem?_map] at h
  cases hr : (List.range (min l.length 20))[j]? with
  | none => rw [hr] at h; cases h
  | some q =>
    have hlt := (List.getElem?_eq_some_iff.mp hr)
    obtain ⟨hl, e⟩ := hlt
    rw [List.getElem_range] at e
    rw [hr] at h
    subst e
    rw [List.length_range] at hl
    exact ⟨(Option.some.inj h).symm, by omega⟩
theorem samples_up (l : List Int) : Up (samplesK l) := by
  intro j x hx
  obtain ⟨rfl, hj⟩ := samples_get hx
  have h1 := time_in l (j + 1)
  refine ⟨by show 0 ≤ timeK l (j + 1); omega, by show timeK l (j + 1) ≤ _; omega, fun y h0 hy => ?_⟩
  obtain ⟨rfl, _⟩ := samples_get hy
  show timeK l (j - 1 + 1) < timeK l (j + 1)
  have e : j - 1 + 1 = j := by omega
  rw [e]
  have := withinV_in ((l[j]?).getD 0) 1 12 (by decide)
  show timeK l j < timeK l j + withinV ((l[j]?).getD 0) 1 12
  omega
theorem samples_len (l : List Int) : (samplesK l).length ≤ 20 := by unfold samplesK; rw [samps_len]; omega
theorem get_put {D : DM} {k j : List UInt8} {v : Bool} : getA (putA D k v) j = if j = k then some v else getA D j := by
  induction D with
  | nil =>
    show getA [(k, v)] j = _
    simp only [getA]
  | cons x r ih =>
    by_cases h : k = x.1
    · have e : putA (x :: r) k v = (k, v) :: r := by simp [putA, h]
      rw [e]
      simp only [getA]
      by_cases hj : j = k
      · rw [if_pos hj, if_pos hj]
      · rw [if_neg hj, if_neg hj, if_neg (fun hh => hj (hh.trans h.symm))]
    · have e : putA (x :: r) k v = x :: putA r k v := by simp [putA, h]
      rw [e]
      simp only [getA]
      rw [ih]
      by_cases hj : j = x.1
      · rw [if_pos hj, if_pos hj, if_neg (fun hh => h (hh.symm.trans hj))]
      · rw [if_neg hj, if_neg hj]
structure Good (S : SS) (D : DM) (i : Nat) : Prop where
  sane : Sane S
  len : S.length ≤ i
  right : ∀ x ∈ S, rightL x.1 = true
  clean : ∀ x ∈ S, Clean x.1
  met : ∀ x ∈ S, getA D (keyT x.1) = some true
  named : ∀ x ∈ S, ∃ j, getV x.1 [110, 97, 109, 101] = [nb j]
theorem good_nil : Good [] [] 0 := ⟨sane_nil, Nat.le_refl _, by simp, by simp, by simp, by simp⟩
theorem Good.next {S : SS} {D : DM} {i : Nat} (h : Good S D i) : Good S D (i + 1) := ⟨h.sane, Nat.le_succ_of_le h.len, h.right, h.clean, h.met, h.named⟩
theorem Good.miss {S : SS} {D : DM} {i : Nat} (h : Good S D i) {k : KS} {j : Nat} (hd : (getA D (keyT (fullK k j))).getD false = false) : hitS S (fullK k j) = false := by
  cases hh : hitS S (fullK k j) with
  | false => rfl
  | true =>
    unfold hitS at hh
    cases hy : S[posS S (fullK k j)]? with
    | none => rw [hy] at hh; cases hh
    | some y =>
      rw [hy] at hh
      have hm := List.mem_of_getElem? hy
      have e := print_inj (h.right y hm) (full_right k j) (h.clean y hm) (full_clean k j) (cmp_eq (of_decide_eq_true hh))
      have := h.met y hm
      rw [e] at this
      rw [this] at hd; cases hd
theorem Good.puts {S : SS} {D : DM} {i : Nat} (h : Good S D i) (hi : i < 5) {k : KS} (hd : (getA D (keyT (fullK k i))).getD false = false) (l : List Int) : (∀ j x, (samplesK l)[j]? = some x → putE (putAll S (fullK k i) ((samplesK l).take j)) (fullK k i) x = 0) ∧ Good (putAll S (fullK k i) (samplesK l)) (putA D (keyT (fullK k i)) true) (i + 1) := by
  have hl := h.len
  have hA := all_ins h.sane (full_right k i) (h.miss hd) (by omega) (samples_up l) (by have := samples_len l; omega)
  refine ⟨fun j x hx => (hA j (Nat.le_of_lt (List.getElem?_eq_some_iff.mp hx).1)).2 x hx, ?_⟩
  have e := (hA _ (Nat.le_refl _)).1
  rw [List.take_length] at e
  have hp := pos_le S (fullK k i)
  have hm : ∀ z ∈ putAll S (fullK k i) (samplesK l), z ∈ S ∨ z.1 = fullK k i := by
    intro z hz
    rw [e] at hz
    split at hz
    · exact .inl hz
    · unfold insS at hz
      rcases List.mem_append.mp hz with h | h
      · exact .inl (List.mem_of_mem_take h)
      · rcases List.mem_cons.mp h with rfl | h
        · exact .inr rfl
        · exact .inl (List.mem_of_mem_drop h)
  refine ⟨sane_all h.sane _ _, ?_, fun z hz => ?_, fun z hz => ?_, fun z hz => ?_, fun z hz => ?_⟩
  · rw [e]
    split
    · omega
    · unfold insS; simp; omega
  · rcases hm z hz with h1 | h1
    · exact h.right z h1
    · rw [h1]; exact full_right k i
  · rcases hm z hz with h1 | h1
    · exact h.clean z h1
    · rw [h1]; exact full_clean k i
  · rw [get_put]
    rcases hm z hz with h1 | h1
    · rw [h.met z h1]; split <;> rfl
    · rw [h1, if_pos rfl]
  · rcases hm z hz with h1 | h1
    · exact h.named z h1
    · rw [h1]; exact ⟨i, full_named k i⟩
theorem fill_good (ks : List KS) (ls : List (List Int)) : ∀ i, i ≤ 5 → Good (fillN ks ls i).1 (fillN ks ls i).2 i
  | 0, _ => good_nil
  | i + 1, hi => by
    have ih := fill_good ks ls i (by omega)
    cases hk : ks[i]? with
    | none =>
      have e : fillN ks ls (i + 1) = fillN ks ls i := by
        show (match ks[i]? with
          | none => fillN ks ls i
          | some k => stepK k ls[i]? i (fillN ks ls i).1 (fillN ks ls i).2) = _
        rw [hk]
      rw [e]; exact ih.next
    | some k =>
      cases hl : ls[i]? with
      | none => rw [← fill_out hk (List.getElem?_eq_none_iff.mp hl)]; exact ih.next
      | some l =>
        cases hd : (getA (fillN ks ls i).2 (keyT (fullK k i))).getD false with
        | true => rw [← fill_met hk hd]; exact ih.next
        | false => rw [fill_in hk hl hd]; exact (ih.puts (by omega) hd l).2
theorem key_len (k : KS) (i j : Nat) : (keyT ((fullK k i).take j)).length ≤ 200 := by
  have := flat_le (f := keyS) (n := 50) (l := (fullK k i).take j) (fun x hx => by
    have ho := full_ok (List.mem_of_mem_take hx)
    have h1 := ok_name ho
    have h2 := (ok_value ho).1
    unfold keyS
    simp only [List.length_append, List.length_cons, List.length_nil]; omega)
  have h4 := full_len k i
  have h5 : ((fullK k i).take j).length ≤ 4 := by rw [List.length_take]; omega
  have := Nat.mul_le_mul_right 50 h5
  unfold keyT; omega
theorem fillW_good (ks : List KS) (ls : List (List Int)) : ∃ D i, i ≤ 5 ∧ Good (fillW ks ls) D i := ⟨_, _, Nat.min_le_right _ _, fill_good ks ls _ (Nat.min_le_right _ _)⟩
end
end Go.Proofs.YtlgofplbbmjdjaaGreatDoor.BH.Kx
namespace Go.Proofs.YtlgofplbbmjdjaaGreatDoor.BH.Kx
open Go.Proofs.YtlgofplbbmjdjaaGreatDoor.BH.Rt Go.Proofs.YtlgofplbbmjdjaaGreatDoor.BH.Dk
noncomputable section
section
open Go.Lib
end
def lastC (a : Int) (l : List Int) : Nat → Int
  | 0 => a - 1
  | j + 1 => (l[j]?).getD 0
def atN (l : List Int) : List (Int × Bool) := l.foldl (fun D t => putA D t true) []
theorem pick_small {S : SS} (hs : Sane S) (t look : Int) (ms : List MD) : (pickS S t look ms).length ≤ 32 ∧ ∀ p ∈ pickS S t look ms, p.set.length ≤ 6 := by
  have h := pick_len hs t look ms S.length
  rw [List.take_length] at h
  refine ⟨h, fun p hp => ?_⟩
  unfold pickS at hp
  obtain ⟨x, hx, hp⟩ := List.mem_flatMap.mp hp
  unfold pickA at hp
  split at hp
  · split at hp
    · obtain rfl := List.mem_singleton.mp hp
      exact hs.sets x hx
    · cases hp
  · cases hp
theorem fill_sane (ks : List KS) (ls : List (List Int)) : Sane (fillW ks ls) := (fillW_good ks ls).choose_spec.choose_spec.2.sane
end
end Go.Proofs.YtlgofplbbmjdjaaGreatDoor.BH.Kx
namespace Go.Proofs.YtlgofplbbmjdjaaGreatDoor.BH.Kx
open Go.Proofs.YtlgofplbbmjdjaaGreatDoor.BH.Rt Go.Proofs.YtlgofplbbmjdjaaGreatDoor.BH.Dk
noncomputable section
def Small (S : SS) : Prop := ∀ x ∈ S, x.2.length ≤ 20 ∧ ∀ y ∈ x.2, y.time ≤ 240
theorem fill_small (ks : List KS) (ls : List (List Int)) : ∀ i, i ≤ 5 → Small (fillN ks ls i).1
  | 0, _ => fun x hx => by cases hx
  | i + 1, hi => by
    have ih := fill_small ks ls i (by omega)
    have hG := fill_good ks ls i (by omega)
    cases hk : ks[i]? with
    | none =>
      have e : fillN ks ls (i + 1) = fillN ks ls i := by
        show (match ks[i]? with
          | none => fillN ks ls i
          | some k => stepK k ls[i]? i (fillN ks ls i).1 (fillN ks ls i).2) = _
        rw [hk]
      rw [e]; exact ih
    | some k =>
      cases hl : ls[i]? with
      | none => rw [← fill_out hk (List.getElem?_eq_none_iff.mp hl)]; exact ih
      | some l =>
        cases hd : (getA (fillN ks ls i).2 (keyT (fullK k i))).getD false with
        | true => rw [← fill_met hk hd]; exact ih
        | false =>
          rw [fill_in hk hl hd]
          have hL := hG.len
          have hA := all_ins hG.sane (full_right k i) (hG.miss hd) (by omega) (samples_up l) (by have := samples_len l; omega)
          have e := (hA _ (Nat.le_refl _)).1
          rw [List.take_length] at e
          intro z hz
          have hz : z ∈ putAll (fillN ks ls i).1 (fullK k i) (samplesK l) := hz
          rw [e] at hz
          split at hz
          · exact ih z hz
          · unfold insS at hz
            rcases List.mem_append.mp hz with h | h
            · exact ih z (List.mem_of_mem_take h)
            · rcases List.mem_cons.mp h with rfl | h
              · refine ⟨samples_len l, fun y hy => ?_⟩
                obtain ⟨j, hj⟩ := List.getElem?_of_mem hy
                obtain ⟨rfl, hj20⟩ := samples_get hj
                have := time_in l (j + 1)
                show timeK l (j + 1) ≤ 240
                omega
              · exact ih z (List.mem_of_mem_drop h)
theorem fillW_small (ks : List KS) (ls : List (List Int)) : Small (fillW ks ls) := fill_small ks ls _ (Nat.min_le_right _ _)
theorem fillW_right (ks : List KS) (ls : List (List Int)) : ∀ x ∈ fillW ks ls, rightL x.1 = true := (fillW_good ks ls).choose_spec.choose_spec.2.right
theorem named_ne {l : List LD} {j : Nat} (h : getV l [110, 97, 109, 101] = [nb j]) : l ≠ [] := by
  rintro rfl
  cases h
theorem fillW_full (ks : List KS) (ls : List (List Int)) : ∀ x ∈ fillW ks ls, x.1 ≠ [] := fun x hx => by
  obtain ⟨j, hj⟩ := (fillW_good ks ls).choose_spec.choose_spec.2.named x hx
  exact named_ne hj
theorem fillW_len (ks : List KS) (ls : List (List Int)) : (fillW ks ls).length ≤ 5 := by
  obtain ⟨D, i, hi, hG⟩ := fillW_good ks ls
  have := hG.len; omega
/-- Where a set of a store is. -/
theorem pos_here {S : SS} (hr : Rising S) {k : Nat} {x : List LD × List SM} (hx : S[k]? = some x) : posS S x.1 = k ∧ hitS S x.1 = true := by
  have hk := List.getElem?_eq_some_iff.mp hx
  have hself : compL x.1 x.1 = 0 := cmp_self _
  have hp : posS S x.1 = k := by
    refine pos_of (Nat.le_of_lt hk.1) (fun y hy => ?_) (half_high hr hx (by rw [hself]; omega))
    obtain ⟨j, hj⟩ := List.getElem?_of_mem hy
    rw [List.getElem?_take] at hj
    split at hj
    · have h1 := List.getElem?_eq_some_iff.mp hj
      have := List.pairwise_iff_getElem.mp hr j k h1.1 hk.1 (by omega)
      rw [h1.2, hk.2] at this
      exact this
    · cases hj
  exact ⟨hp, by rw [hit_of hp hx, hself]; rfl⟩
theorem pos_keys {S T : SS} {set : List LD} (h : S.map (fun x => x.1) = T.map (fun x => x.1)) : posS S set = posS T set := by
  have key : ∀ S : SS, posS S set = ((S.map fun x => x.1).takeWhile fun y => decide (compL y set < 0)).length := by
    intro S
    unfold posS
    induction S with
    | nil => rfl
    | cons a r ih =>
      rw [List.map_cons, List.takeWhile_cons, List.takeWhile_cons]
      split
      · rw [List.length_cons, List.length_cons, ih]
      · rfl
  rw [key S, key T, h]
def endS : SM := ⟨1099511627776, 0⟩
def more (x : List LD × List SM) : List LD × List SM := (x.1, x.2 ++ [endS])
def cpS (S : SS) (k : Nat) : SS := (S.take k).map more ++ S.drop k
theorem cp_zero (S : SS) : cpS S 0 = S := by simp [cpS]
theorem cp_keys (S : SS) (k : Nat) : (cpS S k).map (fun x => x.1) = S.map (fun x => x.1) := by
  unfold cpS
  rw [List.map_append, List.map_map]
  conv => rhs; rw [← List.take_append_drop k S, List.map_append]
  rfl
theorem cp_get {S : SS} {k : Nat} {x : List LD × List SM} (hx : S[k]? = some x) : (cpS S k)[k]? = some x := by
  have hk := (List.getElem?_eq_some_iff.mp hx).1
  unfold cpS
  rw [List.getElem?_append_right (by rw [List.length_map, List.length_take]; omega), List.length_map, List.length_take, Nat.min_eq_left (by omega), Nat.sub_self, List.getElem?_drop, Nat.add_zero]
  exact hx
theorem cp_len (S : SS) (k : Nat) : (cpS S k).length = S.length := by
  have := congrArg List.length (cp_keys S k)
  simpa using this
theorem cp_set {S : SS} {k : Nat} {x : List LD × List SM} (hx : S[k]? = some x) : (cpS S k).set k (more x) = cpS S (k + 1) := by
  have hk := (List.getElem?_eq_some_iff.mp hx).1
  unfold cpS
  rw [List.set_append_right _ _ (by rw [List.length_map, List.length_take]; omega), List.length_map, List.length_take, Nat.min_eq_left (by omega), Nat.sub_self, take_one hx, List.map_append, List.append_assoc, drop_one hx]
  rfl
theorem cp_put {S : SS} (hs : Sane S) (hr : ∀ x ∈ S, rightL x.1 = true) (hm : Small S) {k : Nat} {x : List LD × List SM} (hx : S[k]? = some x) : putE (cpS S k) x.1 endS = 0 ∧ putSt (cpS S k) x.1 endS = cpS S (k + 1) := by
  have hxm := List.mem_of_getElem? hx
  have hp : posS (cpS S k) x.1 = k := by rw [pos_keys (cp_keys S k)]; exact (pos_here hs.rise hx).1
  have hg := cp_get hx
  have hh : hitS (cpS S k) x.1 = true := by
    rw [hit_of hp hg]
    show decide (cmpV _ _ = 0) = true
    rw [cmp_self]; rfl
  have hnf : ¬ (rightL x.1 = false ∨ endS.time < 0 ∨ 1099511627776 < endS.time) := not_form (hr x hxm) (by decide) (by decide)
  have ha : addE x.2 endS = 0 ∧ addS x.2 endS = x.2 ++ [endS] := add_ok (by decide) (by decide) (fun y hy => by
    have := (hm x hxm).2 y (List.mem_of_getElem? hy)
    show ¬ (1099511627776 : Int) ≤ y.time
    omega) (by have := (hm x hxm).1; omega)
  have h := put_hit hnf hh (by rw [hp]; exact hg)
  refine ⟨by rw [h.1, ha.1], ?_⟩
  rw [h.2, hp, ha.2]
  exact cp_set hx
theorem cp_sane {S : SS} (hs : Sane S) (hr : ∀ x ∈ S, rightL x.1 = true) (hm : Small S) : ∀ k, k ≤ S.length → Sane (cpS S k)
  | 0, _ => by rw [cp_zero]; exact hs
  | k + 1, hk => by
    obtain ⟨x, hx⟩ : ∃ x, S[k]? = some x := ⟨_, List.getElem?_eq_getElem (by omega)⟩
    rw [← (cp_put hs hr hm hx).2]
    exact sane_put (cp_sane hs hr hm k (by omega)) _ _
def totS (S : SS) : Nat → Nat
  | 0 => 0
  | k + 1 => totS S k + (match S[k]? with
    | none => 0
    | some x => x.2.length)
theorem tot_one {S : SS} {k : Nat} {x : List LD × List SM} (hx : S[k]? = some x) : totS S (k + 1) = totS S k + x.2.length := by
  show totS S k + _ = _
  rw [hx]
theorem tot_le {S : SS} (hs : Sane S) : ∀ k, totS S k ≤ 200 * k
  | 0 => Nat.le_refl _
  | k + 1 => by
    have ih := tot_le hs k
    show totS S k + _ ≤ _
    split
    · omega
    · rename_i x hx
      have := hs.lens x (List.mem_of_getElem? hx)
      omega
/-- Samples of a set. -/
def samplesV (S : SS) (set : List LD) : List SM := if rightL set = true ∧ hitS S set = true then (match S[posS S set]? with
  | none => []
  | some y => y.2) else []
theorem samples_here {S : SS} (hs : Sane S) (hr : ∀ x ∈ S, rightL x.1 = true) {k : Nat} {x : List LD × List SM} (hx : S[k]? = some x) : samplesV S x.1 = x.2 := by
  obtain ⟨h1, h2⟩ := pos_here hs.rise hx
  unfold samplesV
  rw [if_pos ⟨hr x (List.mem_of_getElem? hx), h2⟩, h1, hx]
end
end Go.Proofs.YtlgofplbbmjdjaaGreatDoor.BH.Kx
