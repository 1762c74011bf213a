/-
  Spans of sets of ticks: more of the plain law.
-/
import Derived.Test.YtlejcjgbkbmdmaaBhSpL
namespace Go.Proofs.Ytlejcjgbkbmdmaa.BH.Sp
theorem nb_T {b : Bool} (h : (!b) = true) : b = false := by cases b <;> simp_all
theorem nb_F {b : Bool} (h : (!b) = false) : b = true := by cases b <;> simp_all
def eSp (p : Int × Int) : List AV := [.int .i64 p.1, .int .i64 p.2]
def putTo (T : Nat → Bool) (a b i : Int) (j : Nat) : Bool := T j || decide (a ≤ (j : Int) ∧ (j : Int) ≤ b ∧ (j : Int) < i)
theorem putTo_start (T : Nat → Bool) (a b : Int) (j : Nat) : T j = putTo T a b (max a 0) j := by
  unfold putTo
  rw [decide_eq_false (by omega)]; simp
theorem putTo_next (T : Nat → Bool) {a b i : Int} (h1 : max a 0 ≤ i) (h2 : i ≤ min b 199) (j : Nat) : (if j = i.toNat then true else putTo T a b i j) = putTo T a b (i + 1) j := by
  unfold putTo
  by_cases e : j = i.toNat
  · rw [if_pos e, decide_eq_true (show a ≤ (j : Int) ∧ (j : Int) ≤ b ∧ (j : Int) < i + 1 by omega)]; simp
  · rw [if_neg e]
    congr 1
    exact decide_eq_decide.mpr (by omega)
theorem putTo_end (T : Nat → Bool) {a b i : Int} (h1 : max a 0 ≤ i) (h2 : min b 199 < i) (j : Nat) (hj : j < 200) : putTo T a b i j = putT T a b j := by
  unfold putTo putT
  congr 1
  exact decide_eq_decide.mpr (by omega)
theorem spans_off {T : Nat → Bool} {k : Nat} (h : T k = false) : spansTo T (k + 1) = spansTo T k := by simp [spansTo, h]
theorem spans_new {T : Nat → Bool} {k : Nat} (h : T k = true) (hl : ∀ q, (spansTo T k).getLast? = some q → q.2 ≠ (k : Int) - 1) : spansTo T (k + 1) = spansTo T k ++ [((k : Int), (k : Int))] := by
  simp only [spansTo, h, if_true]
  unfold stepT
  split
  · rename_i q hq
    rw [if_neg (hl q hq)]
  · rfl
theorem spans_ext {T : Nat → Bool} {k : Nat} {q : Int × Int} (h : T k = true) (hq : (spansTo T k)[(spansTo T k).length - 1]? = some q) (h2 : q.2 = (k : Int) - 1) : spansTo T (k + 1) = (spansTo T k).set ((spansTo T k).length - 1) (q.1, (k : Int)) := by
  have hg : (spansTo T k).getLast? = some q := by rw [List.getLast?_eq_getElem?]; exact hq
  simp only [spansTo, h, if_true]
  unfold stepT
  rw [hg]
  simp only [h2, if_true]
  generalize spansTo T k = l at hg hq ⊢
  rcases List.eq_nil_or_concat l with e | ⟨l', p, e⟩
  · subst e; simp at hg
  · rw [List.concat_eq_append] at e
    subst e
    rw [List.getLast?_concat] at hg
    cases hg
    rw [List.dropLast_concat, List.length_append, List.length_singleton, Nat.add_sub_cancel, List.set_append_right _ _ (Nat.le_refl _), Nat.sub_self]
    rfl
theorem spans_last_get {T : Nat → Bool} {k : Nat} (h : 0 < (spansTo T k).length) : ∃ q, (spansTo T k)[(spansTo T k).length - 1]? = some q := get_of_lt (by omega)
theorem spans_last_of {T : Nat → Bool} {k : Nat} {q p : Int × Int} (hq : (spansTo T k)[(spansTo T k).length - 1]? = some q) (hp : (spansTo T k).getLast? = some p) : p = q := by
  rw [List.getLast?_eq_getElem?, hq] at hp; exact (Option.some.inj hp).symm
/-- The last span ends at the tick before, if that is in the set. -/
theorem spans_prev {T : Nat → Bool} {k : Nat} (h0 : 0 < k) (h : T (k - 1) = true) : 0 < (spansTo T k).length ∧ ∃ q, (spansTo T k)[(spansTo T k).length - 1]? = some q ∧ q.2 = (k : Int) - 1 := by
  obtain ⟨l, a, e⟩ := spans_here T (k - 1) h
  rw [show k - 1 + 1 = k by omega] at e
  rw [e]
  refine ⟨by simp, (a, ((k - 1 : Nat) : Int)), by simp, ?_⟩
  show ((k - 1 : Nat) : Int) = _
  omega
theorem spans_gap {T : Nat → Bool} {k : Nat} (h : k = 0 ∨ T (k - 1) = false) {q : Int × Int} (hq : (spansTo T k).getLast? = some q) : q.2 ≠ (k : Int) - 1 := by
  intro h2
  rcases List.eq_nil_or_concat (spansTo T k) with e | ⟨l, p, e⟩
  · rw [e] at hq; simp at hq
  · rw [List.concat_eq_append] at e
    rw [e, List.getLast?_concat] at hq
    cases hq
    have hq := spans_last T k l q e
    rcases h with rfl | h
    · omega
    · have : q.2.toNat = k - 1 := by omega
      rw [this, h] at hq
      cases hq.1
theorem flat_one_more {l : List (Int × Int)} {a b : Int} : l.flatMap eSp ++ [.int .i64 a, .int .i64 b] = (l ++ [(a, b)]).flatMap eSp := by
  rw [List.flatMap_append]; rfl
theorem flatI_one_more {l : List Int} {a : Int} : l.flatMap eI ++ [.int .i64 a] = (l ++ [a]).flatMap eI := by
  rw [List.flatMap_append]; rfl
theorem ones_take {l : List Int} {k : Nat} {x : Int} (hx : l[k]? = some x) (j : Nat) : putT (tabOf (ones (l.take k))) x x j = tabOf (ones (l.take (k + 1))) j := by
  rw [take_one hx]; unfold ones putT
  rw [List.map_append, tabOf_append]
  simp [tabOf]
theorem join_take {l : List (List (Int × Int))} {k : Nat} {x : List (Int × Int)} (hx : l[k]? = some x) : (l.take (k + 1)).flatten = (l.take k).flatten ++ x := by
  rw [take_one hx, List.flatten_append]; simp
theorem put_app {A x : List (Int × Int)} {j : Nat} {p : Int × Int} (hp : x[j]? = some p) (i : Nat) : putT (tabOf (A ++ x.take j)) p.1 p.2 i = tabOf (A ++ x.take (j + 1)) i := by
  rw [take_one hp, ← List.append_assoc, tabOf_append (A ++ x.take j)]
  simp [putT, tabOf]
theorem has_take {l : List (Int × Int)} {k : Nat} {x : Int × Int} {n : Int} (hx : l[k]? = some x) (hs : hasL (l.take k) n = false) (h : ¬ (x.1 ≤ n ∧ n ≤ x.2)) : hasL (l.take (k + 1)) n = false := by
  rw [take_one hx]; unfold hasL at hs ⊢
  rw [List.any_append, hs]; simpa using h
theorem has_mem {l : List (Int × Int)} {k : Nat} {x : Int × Int} {n : Int} (hx : l[k]? = some x) (h : x.1 ≤ n ∧ n ≤ x.2) : hasL l n = true := by
  unfold hasL
  exact List.any_eq_true.mpr ⟨x, List.mem_of_getElem? hx, by simpa using h⟩
/-- What a walk over spans knows that asks whether they are right. -/
def RInv (l : List (Int × Int)) (k : Nat) : Prop := k ≤ l.length ∧ rightL (l.drop k) (lastE l k) = rightL l none ∧ ∀ p ∈ l.take k, 0 ≤ p.1 ∧ p.1 ≤ p.2 ∧ p.2 < 200
theorem rinv0 (l : List (Int × Int)) : RInv l 0 := ⟨Nat.zero_le _, rfl, fun p hp => by simp at hp⟩
theorem right_bad {l : List (Int × Int)} {k : Nat} {x : Int × Int} (h : RInv l k) (hx : l[k]? = some x) (hb : badP x (lastE l k) = true) : rightL l none = false := by
  rw [← h.2.1, drop_one hx]; simp [rightL, hb]
theorem bad1 {x : Int × Int} (o : Option Int) (h : x.1 < 0) : badP x o = true := by simp [badP, h]
theorem bad2 {x : Int × Int} (o : Option Int) (h : x.2 < x.1) : badP x o = true := by simp [badP, h]
theorem bad3 {x : Int × Int} (o : Option Int) (h : 200 ≤ x.2) : badP x o = true := by simp [badP, h]
theorem lastE_pos {l : List (Int × Int)} {k : Nat} {y : Int × Int} (h0 : 0 < k) (hy : l[k - 1]? = some y) : lastE l k = some y.2 := by
  obtain ⟨k, rfl⟩ : ∃ j, k = j + 1 := ⟨k - 1, by omega⟩
  simp only [Nat.add_sub_cancel] at hy
  simp [lastE, hy]
theorem bad4 {l : List (Int × Int)} {k : Nat} {x y : Int × Int} (h0 : 0 < k) (hy : l[k - 1]? = some y) (h : x.1 < y.2 + 2) : badP x (lastE l k) = true := by
  rw [lastE_pos h0 hy]; simp [badP, h]
theorem right_next {l : List (Int × Int)} {k : Nat} {x : Int × Int} (h : RInv l k) (hx : l[k]? = some x) (h1 : ¬ x.1 < 0) (h2 : ¬ x.2 < x.1) (h3 : ¬ 200 ≤ x.2) (h4 : k = 0 ∨ 0 < k ∧ ∃ y, l[k - 1]? = some y ∧ ¬ x.1 < y.2 + 2) : RInv l (k + 1) := by
  have hk := (List.getElem?_eq_some_iff.mp hx).1
  have hb : badP x (lastE l k) = false := by
    rcases h4 with rfl | ⟨h0, y, hy, h4⟩
    · simp only [badP, lastE, Bool.or_false]; simp [h1, h2, h3]
    · rw [lastE_pos h0 hy]; simp only [badP]; simp [h1, h2, h3, h4]
  refine ⟨by omega, ?_, fun p hp => ?_⟩
  · rw [← h.2.1, drop_one hx]
    show _ = (!badP x (lastE l k) && rightL (l.drop (k + 1)) (some x.2))
    rw [hb, show lastE l (k + 1) = some x.2 by simp [lastE, hx]]; rfl
  · rw [take_one hx, List.mem_append, List.mem_singleton] at hp
    rcases hp with hp | rfl
    · exact h.2.2 p hp
    · omega
theorem right_end {l : List (Int × Int)} {k : Nat} (h : RInv l k) (hk : l.length ≤ k) : rightL l none = true := by
  rw [← h.2.1, List.drop_of_length_le hk]; rfl
/-- A list with room behind it. -/
def roomL (l : List (Int × Int)) (p : Int × Int) (j : Nat) : List (Int × Int) := l ++ (List.replicate j p ++ List.replicate (80 - j) (0, 0))
theorem roomL_length (l : List (Int × Int)) (p : Int × Int) {j : Nat} (h : j ≤ 80) : (roomL l p j).length = l.length + 80 := by simp [roomL]; omega
theorem roomL_get (l : List (Int × Int)) (p : Int × Int) {j : Nat} (h : j < 80) : (roomL l p j)[l.length + j]? = some (0, 0) := by
  unfold roomL
  rw [List.getElem?_append_right (by omega), List.getElem?_append_right (by simp)]
  rw [List.getElem?_replicate, if_pos (by simp; omega)]
theorem roomL_set (l : List (Int × Int)) (p : Int × Int) {j : Nat} (h : j < 80) : (roomL l p j).set (l.length + j) p = roomL l p (j + 1) := by
  unfold roomL
  rw [List.set_append_right _ _ (by omega), List.set_append_right _ _ (by simp)]
  congr 1
  obtain ⟨m, hm⟩ : ∃ m, 80 - j = m + 1 := ⟨79 - j, by omega⟩
  rw [hm, show 80 - (j + 1) = m by omega]
  simp only [Nat.add_sub_cancel_left, List.length_replicate, Nat.sub_self, List.replicate_succ, List.set_cons_zero]
  rw [← List.replicate_succ, List.replicate_succ', List.append_assoc]; rfl
theorem room_start (l : List (Int × Int)) (a b : Int) : (l.flatMap eSp).take (min l.length (l.length + 80) * 2) ++ (repl (l.length + 80) [.int .i64 0, .int .i64 0]).drop (min l.length (l.length + 80) * 2) = (roomL l (a, b) 0).flatMap eSp := by
  have hf := flat_length (enc := eSp) (s := 2) (fun _ => rfl)
  rw [Nat.min_eq_left (by omega), List.take_of_length_le (by rw [hf]; exact Nat.le_refl _), show repl (l.length + 80) [AV.int .i64 0, AV.int .i64 0] = _ from repl_flat (enc := eSp) (x := ((0 : Int), (0 : Int))) _ rfl]
  rw [← List.replicate_append_replicate, List.flatMap_append, List.drop_append, List.drop_of_length_le (by rw [hf]; simp), hf, List.length_replicate, Nat.sub_self, List.drop_zero, List.nil_append]
  unfold roomL
  rw [List.flatMap_append]; rfl
theorem rep_get {α : Type} {n j : Nat} {p x : α} (h : (List.replicate n p)[j]? = some x) : x = p := by
  rw [List.getElem?_replicate] at h
  split at h
  · exact (Option.some.inj h).symm
  · cases h
end Go.Proofs.Ytlejcjgbkbmdmaa.BH.Sp
