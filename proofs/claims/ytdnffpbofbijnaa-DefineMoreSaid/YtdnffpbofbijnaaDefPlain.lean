/-
  Package define and the document's own answer: the same, in plain Lean.
-/
import Derived.Test.YtdnffpbofbijnaaDefWalks3
namespace Go.Proofs.Ytdnffpbofbijnaa.define
open Go Go.Proofs Go.RowKit

theorem longE_iff {b c a : Int} (hb : 1 ≤ b) : longE b c a = true ↔ c ≤ a * b := by
  unfold longE
  rw [decide_eq_true_eq]
  have h1 := Int.emod_add_mul_ediv c b
  have h2 := Int.emod_nonneg c (show b ≠ 0 by omega)
  have h3 := Int.emod_lt_of_pos c (show 0 < b by omega)
  constructor
  · intro h
    split at h
    · have : (c / b + 1) * b ≤ a * b := Int.mul_le_mul_of_nonneg_right h (by omega)
      rw [Int.add_mul, Int.mul_comm (c / b) b] at this
      omega
    · have : (c / b) * b ≤ a * b := Int.mul_le_mul_of_nonneg_right (by omega) (by omega)
      rw [Int.mul_comm (c / b) b] at this
      omega
  · intro h
    have h4 : c / b ≤ a := by
      have : c / b ≤ a * b / b := Int.ediv_le_ediv (by omega) h
      rwa [Int.mul_ediv_cancel _ (by omega)] at this
    split
    · rename_i hp
      rcases Int.lt_or_eq_of_le h4 with hl | he
      · omega
      · exfalso
        rw [← he, Int.mul_comm] at h
        omega
    · omega

theorem nearV_iff (f : Nat → Int) (b ke : Int) (i : Nat) : ∀ (m j : Nat) (acc : Bool), nearV f b ke i m j acc = true ↔ acc = true ∨ ∃ x, j ≤ x ∧ x < j + m ∧ f x = 1 ∧ ((i : Int) - x) * b ≤ ke
  | 0, j, acc => by
    simp only [nearV]
    constructor
    · exact .inl
    · rintro (h | ⟨x, h1, h2, _⟩)
      · exact h
      · omega
  | m + 1, j, acc => by
    simp only [nearV]
    rw [nearV_iff f b ke i m (j + 1)]
    simp only [Bool.or_eq_true, Bool.and_eq_true, decide_eq_true_eq]
    constructor
    · rintro ((h | ⟨h1, h2⟩) | ⟨x, h1, h2, h3, h4⟩)
      · exact .inl h
      · exact .inr ⟨j, by omega, by omega, h1, h2⟩
      · exact .inr ⟨x, by omega, by omega, h3, h4⟩
    · rintro (h | ⟨x, h1, h2, h3, h4⟩)
      · exact .inl (.inl h)
      · by_cases hx : x = j
        · subst hx; exact .inl (.inr ⟨h3, h4⟩)
        · exact .inr ⟨x, by omega, by omega, h3, h4⟩

theorem kept_stays {f : Nat → Int} {b ke : Int} (hb : 1 ≤ b) (hk : 0 ≤ ke) (t : Nat) : ∀ (m la i : Nat), t ≤ la → la < i → f la = 1 → (∀ j, la < j → j < i → f j ≠ 1) → keptFrom f b ke m la i = staysV f b ke t m i
  | 0, _, _, _, _, _, _ => rfl
  | m + 1, la, i, h1, h2, h3, h4 => by
    have near := nearV_iff f b ke i (i + 1 - t) t (decide (f i = 2))
    simp only [keptFrom, staysV]
    by_cases t2 : f i = 2
    · have hn : nearV f b ke i (i + 1 - t) t (decide (f i = 2)) = true := near.mpr (.inl (by simpa using t2))
      rw [if_pos t2, if_pos hn]
      exact kept_stays hb hk t m la (i + 1) h1 (by omega) h3 fun j a1 a2 => by
        by_cases hj : j = i
        · subst hj; omega
        · exact h4 j a1 (by omega)
    · rw [if_neg t2]
      by_cases t1 : f i = 1
      · have hn : nearV f b ke i (i + 1 - t) t (decide (f i = 2)) = true := near.mpr (.inr ⟨i, by omega, by omega, t1, by rw [Int.sub_self, Int.zero_mul]; exact hk⟩)
        rw [if_pos t1, if_pos hn]
        exact kept_stays hb hk t m i (i + 1) (by omega) (by omega) t1 fun j a1 a2 => by omega
      · rw [if_neg t1]
        have hd := Int.le_ediv_iff_mul_le (a := (i : Int) - la) (b := ke) (c := b) (by omega)
        by_cases hf : ke / b < (i : Int) - la
        · have hn : ¬ nearV f b ke i (i + 1 - t) t (decide (f i = 2)) = true := by
            rw [near]
            rintro (h | ⟨x, a1, a2, a3, a4⟩)
            · exact t2 (by simpa using h)
            · have hx : x ≤ la := by
                rcases Nat.lt_or_ge la x with hl | hl
                · by_cases hxi : x = i
                  · subst hxi; exact absurd a3 t1
                  · exact absurd a3 (h4 x hl (by omega))
                · exact hl
              have : ((i : Int) - la) * b ≤ ((i : Int) - x) * b := Int.mul_le_mul_of_nonneg_right (by omega) (by omega)
              have := hd.mpr (by omega)
              omega
          rw [if_pos hf, if_neg hn]
        · have hn : nearV f b ke i (i + 1 - t) t (decide (f i = 2)) = true := near.mpr (.inr ⟨la, h1, by omega, h3, hd.mp (by omega)⟩)
          rw [if_neg hf, if_pos hn]
          exact kept_stays hb hk t m la (i + 1) h1 (by omega) h3 fun j a1 a2 => by
            by_cases hj : j = i
            · subst hj; exact t1
            · exact h4 j a1 (by omega)

theorem runsV_iff (f : Nat → Int) : ∀ (m i : Nat), runsV f m i = true ↔ ∀ x, i ≤ x → x < i + m → f x ≠ 0
  | 0, i => by simp only [runsV, true_iff]; intro x h1 h2; omega
  | m + 1, i => by
    simp only [runsV]
    by_cases h0 : f i = 0
    · rw [if_pos h0]
      simp only [Bool.false_eq_true, false_iff]
      intro h; exact h i (by omega) (by omega) h0
    · rw [if_neg h0, runsV_iff f m (i + 1)]
      constructor
      · intro h x h1 h2
        by_cases hx : x = i
        · subst hx; exact h0
        · exact h x (by omega) (by omega)
      · intro h x h1 h2; exact h x (by omega) (by omega)

theorem refHeld_none {f : Nat → Int} {b lo : Int} {to z : Nat} (hz : z ≤ to) (h0 : f z = 0) : ∀ j, j ≤ z → refHeld f b lo to j = false
  | 0, _ => rfl
  | m + 1, hj => by
    have hn : ¬ runsV f (to + 1 - m) m = true := by
      rw [runsV_iff]; intro h; exact h z (by omega) (by omega) h0
    simp only [refHeld, hn, and_false, if_false, Bool.false_eq_true]
    exact refHeld_none hz h0 m (by omega)

theorem held_ref {f : Nat → Int} {b lo : Int} (hb : 1 ≤ b) (to : Nat) : ∀ j, j ≤ to + 1 → (∀ x, j ≤ x → x ≤ to → f x ≠ 0) → heldAt f b lo to j = refHeld f b lo to j
  | 0, _, _ => rfl
  | m + 1, hj, h => by
    simp only [heldAt, refHeld]
    by_cases h0 : f m = 0
    · have h1 : ¬ f m = 1 := by omega
      rw [if_pos h0]
      simp only [h1, false_and, if_false]
      exact (refHeld_none (by omega) h0 m (Nat.le_refl _)).symm
    · have hr : runsV f (to + 1 - m) m = true := (runsV_iff f _ _).mpr fun x a1 a2 => by
        by_cases hx : x = m
        · subst hx; exact h0
        · exact h x (by omega) (by omega)
      have ih := held_ref (lo := lo) hb to m (by omega) fun x a1 a2 => by
        by_cases hx : x = m
        · subst hx; exact h0
        · exact h x (by omega) a2
      rw [if_neg h0, ih]
      simp only [longE_iff hb, hr, and_true]

theorem firesTo_ref {f : Nat → Int} {b lo ke : Int} (hb : 1 ≤ b) (hk : 0 ≤ ke) (k : Nat) : ∀ j, firesTo f b lo ke k j = refTo f b lo ke k j
  | 0 => rfl
  | t + 1 => by
    simp only [firesTo, refTo]
    rw [firesTo_ref hb hk k t, held_ref hb t (t + 1) (Nat.le_refl _) (fun x a1 a2 => by omega)]
    by_cases t1 : f t = 1
    · rw [kept_stays hb hk t (k - t) t (t + 1) (Nat.le_refl _) (by omega) t1 (fun j a1 a2 => by omega)]
    · simp only [t1, false_and, if_false]

/-- The code and the document agree on firing. -/
theorem fires_ref {f : Nat → Int} {b lo ke : Int} (hb : 1 ≤ b) (hk : 0 ≤ ke) : ∀ K, firesV f b lo ke K = refFires f b lo ke K
  | 0 => rfl
  | k + 1 => by
    simp only [firesV, refFires]
    rw [fires_ref hb hk k, firesTo_ref hb hk k (k + 1)]

theorem state_ref {f : Nat → Int} {b lo ke : Int} (hb : 1 ≤ b) (hk : 0 ≤ ke) (K : Nat) : stateV f b lo ke K = refState f b lo ke K := by
  unfold stateV refState
  rw [fires_ref hb hk K]

end Go.Proofs.Ytdnffpbofbijnaa.define
