/-
  SpanTells, SpanMany: the plain law.
-/
import Derived.Test.YtlejcjgbkbmdmaaBhSpM
namespace Go.Proofs.Ytlejcjgbkbmdmaa.BH.Sp
theorem flags_out {l : List Int} (k : Nat) (h : 60 ≤ k) : flagsT l k = false := by
  cases e : flagsT l k
  · rfl
  · have := flagT_lt e; omega
def upTo60 (k : Nat) (f : Nat → Bool) (j : Nat) : Bool := decide (j < k) && f j
theorem up_step {f : Nat → Bool} {k j : Nat} {v : Bool} (h : v = f k) : (if j = ((k : Nat) : Int).toNat then v else upTo60 k f j) = upTo60 (k + 1) f j := by
  rw [Int.toNat_natCast]; unfold upTo60
  by_cases e : j = k
  · subst e; simp [h]
  · rw [if_neg e]
    congr 1
    exact decide_eq_decide.mpr (by omega)
theorem spans_up (f : Nat → Bool) : spansTo (upTo60 60 f) 60 = spansTo f 60 := spansTo_congr 60 fun k hk => by simp [upTo60, hk]
theorem spans60 {X : Nat → Bool} (h : ∀ k, 60 ≤ k → X k = false) : spansTo X 60 = S X := (spansTo_stop h 140).symm
theorem ticks_congr {t u : Nat → Bool} : ∀ n, (∀ k, k < n → t k = u k) → ticksTo t n = ticksTo u n
  | 0, _ => rfl
  | n + 1, h => by simp only [ticksTo]; rw [ticks_congr n (fun k hk => h k (by omega)), h n (by omega)]
theorem ticks_stop {t : Nat → Bool} {n : Nat} (h : ∀ k, n ≤ k → t k = false) : ∀ m, ticksTo t (n + m) = ticksTo t n
  | 0 => rfl
  | m + 1 => by
    rw [show n + (m + 1) = (n + m) + 1 by omega]
    simp only [ticksTo, h (n + m) (by omega)]
    simp only [Bool.false_eq_true, if_false]
    exact ticks_stop h m
theorem ticks_S {X : Nat → Bool} : ticksTo (tabOf (S X)) 200 = ticksTo X 200 := ticks_congr 200 fun k hk => tabOf_S X hk
theorem ticks60 {X : Nat → Bool} (h : ∀ k, 60 ≤ k → X k = false) : ticksTo X 60 = ticksTo X 200 := (ticks_stop h 140).symm
theorem tab_ticks (t : Nat → Bool) (j : Nat) : ∀ n, tabOf (ones (ticksTo t n)) j = (decide (j < n) && t j)
  | 0 => by simp [ticksTo, ones, tabOf]
  | n + 1 => by
    have ih := tab_ticks t j n
    have hx : (decide (j < n + 1) && t j) = ((decide (j < n) && t j) || (decide (j = n) && t j)) := by
      rw [Bool.eq_iff_iff]
      simp only [Bool.and_eq_true, Bool.or_eq_true, decide_eq_true_eq]
      constructor
      · rintro ⟨h1, h2⟩
        by_cases e : j = n
        · exact .inr ⟨e, h2⟩
        · exact .inl ⟨by omega, h2⟩
      · rintro (⟨h1, h2⟩ | ⟨h1, h2⟩)
        · exact ⟨by omega, h2⟩
        · exact ⟨by omega, h2⟩
    rw [hx, ← ih]
    simp only [ticksTo]
    by_cases ht : t n = true
    · rw [if_pos ht]
      unfold ones
      rw [List.map_append, tabOf_append]
      congr 1
      show tabOf [((n : Int), (n : Int))] j = _
      rw [tabOf_one]
      by_cases e : j = n
      · subst e; simp [ht]
      · simp [e]
    · rw [if_neg ht]
      have hy : (decide (j = n) && t j) = false := by
        by_cases e : j = n
        · subst e; simpa using ht
        · simp [e]
      rw [hy, Bool.or_false]
theorem norm_ticks (X : Nat → Bool) : normL (ones (ticksTo X 200)) = S X := spansTo_congr 200 fun k hk => by rw [tab_ticks]; simp [hk]
theorem room_take (l : List (Int × Int)) (p : Int × Int) : ((roomL l p 80).drop 0).take (l.length - 0) = l := by simp [roomL]
theorem room_full (l : List (Int × Int)) (p : Int × Int) : roomL l p 80 = l ++ List.replicate 80 p := by simp [roomL]
theorem join_S (X Y : Nat → Bool) : normL [S X, S Y].flatten = S (orT X Y) := spansTo_congr 200 fun k hk => by simp [tabOf_append, tabOf_S X hk, tabOf_S Y hk, orT]
theorem both_S (X Y : Nat → Bool) : bothL (S X) (S Y) = S (andT X Y) := spansTo_congr 200 fun k hk => by simp only [partT, tabOf_S X hk, tabOf_S Y hk, andT]; cases Y k <;> rfl
theorem less_S (X Y : Nat → Bool) : lessL (S X) (S Y) = S (lessT X Y) := spansTo_congr 200 fun k hk => by simp only [partT, tabOf_S X hk, tabOf_S Y hk, lessT]; cases Y k <;> rfl
theorem has_S (X : Nat → Bool) {n : Int} (h : 0 ≤ n ∧ n < 200) : hasL (S X) n = X n.toNat := by
  obtain ⟨k, rfl⟩ : ∃ k : Nat, n = k := ⟨n.toNat, by omega⟩
  rw [hasL_nat, tabOf_S X (by omega), Int.toNat_natCast]
theorem has_S_neg (X : Nat → Bool) {n : Int} (h : n < 0) : hasL (S X) n = false := hasL_neg X 200 n h
theorem has_S_big (X : Nat → Bool) {n : Int} (h : 200 ≤ n) : hasL (S X) n = false := by
  have hb := (spansTo_bound X 200).2
  simp only [hasL, List.any_eq_false, decide_eq_true_eq]
  intro p hp
  have := hb p hp
  omega
theorem right_S (X : Nat → Bool) : rightL (S X) none = true := rightL_spansTo X 200 (by omega)
theorem orT_out {X Y : Nat → Bool} (h1 : ∀ k, 60 ≤ k → X k = false) (h2 : ∀ k, 60 ≤ k → Y k = false) (k : Nat) (h : 60 ≤ k) : orT X Y k = false := by simp [orT, h1 k h, h2 k h]
theorem andT_out {X Y : Nat → Bool} (h1 : ∀ k, 60 ≤ k → X k = false) (k : Nat) (h : 60 ≤ k) : andT X Y k = false := by simp [andT, h1 k h]
theorem lessT_out {X Y : Nat → Bool} (h1 : ∀ k, 60 ≤ k → X k = false) (k : Nat) (h : 60 ≤ k) : lessT X Y k = false := by simp [lessT, h1 k h]
theorem in_set {l : List Int} {k j : Nat} {x : Int} (hx : l[k]? = some x) (h : 0 ≤ x ∧ x < 200) : (if j = x.toNat then true else tabOf (ones (l.take k)) j) = tabOf (ones (l.take (k + 1))) j := by
  rw [← ones_take hx]; unfold putT
  by_cases e : j = x.toNat
  · rw [if_pos e, decide_eq_true (by omega)]; simp
  · rw [if_neg e, decide_eq_false (by omega)]; simp
theorem in_out {l : List Int} {k j : Nat} {x : Int} (hx : l[k]? = some x) (h : x < 0 ∨ 200 ≤ x) (hj : j < 200) : tabOf (ones (l.take k)) j = tabOf (ones (l.take (k + 1))) j := by
  rw [← ones_take hx]; unfold putT
  rw [decide_eq_false (by omega)]; simp
theorem ticks_on {X : Nat → Bool} {k : Nat} (h : X k = true) : ((ticksTo X k).length : Int) + 1 = ((ticksTo X (k + 1)).length : Nat) := by simp [ticksTo, h]
theorem ticks_off {X : Nat → Bool} {k : Nat} (h : X k = false) : ((ticksTo X k).length : Int) = ((ticksTo X (k + 1)).length : Nat) := by simp [ticksTo, h]
theorem natOr_of {d : Nat} {k : IntKind} {z : Int} {j : Nat} (h : z = j) : natOr d (some (.int k z)) = some j := by subst h; rfl
end Go.Proofs.Ytlejcjgbkbmdmaa.BH.Sp
