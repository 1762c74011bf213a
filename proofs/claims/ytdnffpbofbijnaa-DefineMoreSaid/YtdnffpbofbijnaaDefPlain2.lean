/-
  Firing, said in plain words of the row; what follows of it (DefineMore), and that an alert's steps come to it (DefineLife).
-/
import Derived.Test.YtdnffpbofbijnaaDefPlain
import Derived.Test.YtdnffpbofbijnaaDefWalks4
namespace Go.Proofs.Ytdnffpbofbijnaa.define
open Go Go.Proofs Go.RowKit

/-- Near enough to a tick that is on, behind 't'. -/
def StaysP (f : Nat → Int) (b ke : Int) (t K : Nat) : Prop := ∀ i, t < i → i < K → f i = 2 ∨ ∃ x, t ≤ x ∧ x ≤ i ∧ f x = 1 ∧ ((i : Int) - x) * b ≤ ke
def HeldP (f : Nat → Int) (b lo : Int) (t : Nat) : Prop := ∃ m, m ≤ t ∧ f m = 1 ∧ lo ≤ ((t : Int) - m) * b ∧ ∀ x, m ≤ x → x ≤ t → f x ≠ 0
def FiresP (f : Nat → Int) (b lo ke : Int) (K : Nat) : Prop := ∃ t, t < K ∧ f t = 1 ∧ StaysP f b ke t K ∧ HeldP f b lo t

theorem staysV_iff (f : Nat → Int) (b ke : Int) (fr : Nat) : ∀ (m i : Nat), fr < i → (staysV f b ke fr m i = true ↔ ∀ j, i ≤ j → j < i + m → f j = 2 ∨ ∃ x, fr ≤ x ∧ x ≤ j ∧ f x = 1 ∧ ((j : Int) - x) * b ≤ ke)
  | 0, i, _ => by simp only [staysV, true_iff]; intro j h1 h2; omega
  | m + 1, i, h => by
    have near := nearV_iff f b ke i (i + 1 - fr) fr (decide (f i = 2))
    have ih := staysV_iff f b ke fr m (i + 1) (by omega)
    simp only [staysV]
    by_cases hn : nearV f b ke i (i + 1 - fr) fr (decide (f i = 2)) = true
    · rw [if_pos hn, ih]
      have hn' := near.mp hn
      constructor
      · intro h2 j a1 a2
        by_cases hj : j = i
        · subst hj
          rcases hn' with h3 | ⟨x, c1, c2, c3, c4⟩
          · exact .inl (by simpa using h3)
          · exact .inr ⟨x, c1, by omega, c3, c4⟩
        · exact h2 j (by omega) (by omega)
      · intro h2 j a1 a2; exact h2 j (by omega) (by omega)
    · rw [if_neg hn]
      simp only [Bool.false_eq_true, false_iff]
      intro h2
      apply hn
      rw [near]
      rcases h2 i (Nat.le_refl _) (by omega) with h3 | ⟨x, c1, c2, c3, c4⟩
      · exact .inl (by simpa using h3)
      · exact .inr ⟨x, c1, by omega, c3, c4⟩

theorem refHeld_iff (f : Nat → Int) (b lo : Int) (to : Nat) : ∀ j, j ≤ to + 1 → (refHeld f b lo to j = true ↔ ∃ m, m < j ∧ f m = 1 ∧ lo ≤ ((to : Int) - m) * b ∧ ∀ x, m ≤ x → x ≤ to → f x ≠ 0)
  | 0, _ => by simp only [refHeld, Bool.false_eq_true, false_iff]; rintro ⟨m, h, _⟩; omega
  | m + 1, hj => by
    have ih := refHeld_iff f b lo to m (by omega)
    have hr := runsV_iff f (to + 1 - m) m
    simp only [refHeld]
    split
    · rename_i h
      simp only [true_iff]
      exact ⟨m, by omega, h.1, h.2.1, fun x a1 a2 => hr.mp h.2.2 x a1 (by omega)⟩
    · rename_i h
      rw [ih]
      constructor
      · rintro ⟨x, a, r⟩; exact ⟨x, by omega, r⟩
      · rintro ⟨x, a, r1, r2, r3⟩
        by_cases hx : x = m
        · subst hx
          exact absurd ⟨r1, r2, hr.mpr fun y c1 c2 => r3 y c1 (by omega)⟩ h
        · exact ⟨x, by omega, r1, r2, r3⟩

theorem refTo_iff (f : Nat → Int) (b lo ke : Int) (k : Nat) : ∀ j, j ≤ k + 1 → (refTo f b lo ke k j = true ↔ ∃ t, t < j ∧ f t = 1 ∧ StaysP f b ke t (k + 1) ∧ HeldP f b lo t)
  | 0, _ => by simp only [refTo, Bool.false_eq_true, false_iff]; rintro ⟨m, h, _⟩; omega
  | t + 1, hj => by
    have ih := refTo_iff f b lo ke k t (by omega)
    have hs : staysV f b ke t (k - t) (t + 1) = true ↔ StaysP f b ke t (k + 1) := by
      rw [staysV_iff f b ke t (k - t) (t + 1) (by omega)]
      unfold StaysP
      constructor
      · intro h i a1 a2; exact h i (by omega) (by omega)
      · intro h i a1 a2; exact h i (by omega) (by omega)
    have hh : refHeld f b lo t (t + 1) = true ↔ HeldP f b lo t := by
      rw [refHeld_iff f b lo t (t + 1) (Nat.le_refl _)]
      unfold HeldP
      constructor
      · rintro ⟨m, a, r⟩; exact ⟨m, by omega, r⟩
      · rintro ⟨m, a, r⟩; exact ⟨m, by omega, r⟩
    simp only [refTo]
    split
    · rename_i h
      simp only [true_iff]
      exact ⟨t, by omega, h.1, hs.mp h.2.1, hh.mp h.2.2⟩
    · rename_i h
      rw [ih]
      constructor
      · rintro ⟨x, a, r⟩; exact ⟨x, by omega, r⟩
      · rintro ⟨x, a, r⟩
        by_cases hx : x = t
        · subst hx; exact absurd ⟨r.1, hs.mpr r.2.1, hh.mpr r.2.2⟩ h
        · exact ⟨x, by omega, r⟩

theorem firesP_err {f : Nat → Int} {b lo ke : Int} {k : Nat} (h2 : f k = 2) : FiresP f b lo ke (k + 1) ↔ FiresP f b lo ke k := by
  constructor
  · rintro ⟨t, h, h1, hs, hh⟩
    have : t ≠ k := by intro e; subst e; omega
    exact ⟨t, by omega, h1, fun i a1 a2 => hs i a1 (by omega), hh⟩
  · rintro ⟨t, h, h1, hs, hh⟩
    refine ⟨t, by omega, h1, fun i a1 a2 => ?_, hh⟩
    by_cases hi : i = k
    · subst hi; exact .inl h2
    · exact hs i a1 (by omega)

/-- Firing, in plain words. -/
theorem fires_iff {f : Nat → Int} {b lo ke : Int} (hb : 1 ≤ b) (hk : 0 ≤ ke) : ∀ K, firesV f b lo ke K = true ↔ FiresP f b lo ke K
  | 0 => by simp only [firesV, Bool.false_eq_true, false_iff]; rintro ⟨t, h, _⟩; omega
  | k + 1 => by
    have ih := fires_iff (f := f) (lo := lo) hb hk k
    rw [fires_ref hb hk] at ih ⊢
    simp only [refFires]
    by_cases h2 : f k = 2
    · rw [if_pos h2, ih, firesP_err h2]
    · rw [if_neg h2, refTo_iff f b lo ke k (k + 1) (Nat.le_refl _)]
      rfl

-- what follows of it
theorem firesP_more {f g : Nat → Int} {b lo ke : Int} {K : Nat} (h0 : ∀ i, i < K → f i ≠ 0 → g i ≠ 0) (h1 : ∀ i, i < K → f i = 1 → g i = 1) (h2 : ∀ i, i < K → f i = 2 → g i = 2) (h : FiresP f b lo ke K) : FiresP g b lo ke K := by
  obtain ⟨t, a, a1, hs, m, hm, c1, c2, c3⟩ := h
  refine ⟨t, a, h1 t a a1, fun i d1 d2 => ?_, m, hm, h1 m (by omega) c1, c2, fun x d1 d2 => h0 x (by omega) (c3 x d1 d2)⟩
  rcases hs i d1 d2 with h3 | ⟨x, e1, e2, e3, e4⟩
  · exact .inl (h2 i d2 h3)
  · exact .inr ⟨x, e1, e2, h1 x (by omega) e3, e4⟩
theorem firesP_keep {f : Nat → Int} {b lo ke ke' : Int} {K : Nat} (hk : ke ≤ ke') (h : FiresP f b lo ke K) : FiresP f b lo ke' K := by
  obtain ⟨t, a, a1, hs, hh⟩ := h
  refine ⟨t, a, a1, fun i d1 d2 => ?_, hh⟩
  rcases hs i d1 d2 with h3 | ⟨x, e1, e2, e3, e4⟩
  · exact .inl h3
  · exact .inr ⟨x, e1, e2, e3, by omega⟩
theorem firesP_long {f : Nat → Int} {b lo lo' ke : Int} {K : Nat} (hl : lo ≤ lo') (h : FiresP f b lo' ke K) : FiresP f b lo ke K := by
  obtain ⟨t, a, a1, hs, m, hm, c1, c2, c3⟩ := h
  exact ⟨t, a, a1, hs, m, hm, c1, by omega, c3⟩
theorem firesP_off {f : Nat → Int} {b lo ke : Int} {K : Nat} (h0 : ∀ i, i < K → f i = 0) : ¬ FiresP f b lo ke K := by
  rintro ⟨t, a, a1, _⟩
  have := h0 t a; omega
theorem firesP_on {f : Nat → Int} {b lo ke : Int} {n : Nat} (hb : 1 ≤ b) (h1 : ∀ i, i < n + 1 → f i = 1) : FiresP f b lo ke (n + 1) ↔ lo ≤ (n : Int) * b := by
  constructor
  · rintro ⟨t, a, a1, hs, m, hm, c1, c2, c3⟩
    have : ((t : Int) - m) * b ≤ (n : Int) * b := Int.mul_le_mul_of_nonneg_right (by omega) (by omega)
    omega
  · intro h
    exact ⟨n, by omega, h1 n (by omega), fun i a1 a2 => by omega, 0, by omega, h1 0 (by omega), by simpa using h, fun x _ a2 => by rw [h1 x (by omega)]; decide⟩

theorem lastV_le (f : Nat → Int) : ∀ K, lastV f K ≤ K
  | 0 => Nat.le_refl _
  | m + 1 => by
    simp only [lastV]
    split
    · have := lastV_le f m; omega
    · omega
theorem state_off {f : Nat → Int} {b lo ke : Int} (hb : 1 ≤ b) (hk : 0 ≤ ke) {K : Nat} (h0 : ∀ i, i < K → f i = 0) : stateV f b lo ke K = 0 := by
  have hf : firesV f b lo ke K = false := by
    have := fun h => firesP_off h0 ((fires_iff (f := f) (lo := lo) hb hk K).mp h)
    simpa using this
  have hl := lastV_le f K
  unfold stateV
  rw [hf]
  simp only [Bool.false_eq_true, if_false]
  rw [if_neg]
  rintro ⟨h1, h2⟩
  have := h0 (lastV f K - 1) (by omega)
  omega

-- an alert's steps
theorem firesP_step0 {f : Nat → Int} {b lo ke : Int} (hb : 1 ≤ b) {k : Nat} (h0 : f k = 0) : FiresP f b lo ke (k + 1) ↔ FiresP f b lo ke k ∧ ∃ x, x < k ∧ f x = 1 ∧ ((k : Int) - x) * b ≤ ke := by
  constructor
  · rintro ⟨t, h, h1, hs, hh⟩
    have : t ≠ k := by intro e; subst e; omega
    refine ⟨⟨t, by omega, h1, fun i a1 a2 => hs i a1 (by omega), hh⟩, ?_⟩
    rcases hs k (by omega) (by omega) with h2 | ⟨x, c1, c2, c3, c4⟩
    · omega
    · have : x ≠ k := by intro e; subst e; omega
      exact ⟨x, by omega, c3, c4⟩
  · rintro ⟨⟨t, h, h1, hs, hh⟩, x, hx, c3, c4⟩
    refine ⟨t, by omega, h1, fun i a1 a2 => ?_, hh⟩
    by_cases hi : i = k
    · subst hi
      rcases Nat.lt_or_ge x t with hlt | hge
      · have : ((i : Int) - t) * b ≤ ((i : Int) - x) * b := Int.mul_le_mul_of_nonneg_right (by omega) (by omega)
        exact .inr ⟨t, by omega, by omega, h1, by omega⟩
      · exact .inr ⟨x, hge, by omega, c3, c4⟩
    · exact hs i a1 (by omega)
theorem firesP_step1 {f : Nat → Int} {b lo ke : Int} (hk : 0 ≤ ke) {k : Nat} (h1 : f k = 1) : FiresP f b lo ke (k + 1) ↔ FiresP f b lo ke k ∨ HeldP f b lo k := by
  constructor
  · rintro ⟨t, h, ht, hs, hh⟩
    by_cases e : t = k
    · subst e; exact .inr hh
    · exact .inl ⟨t, by omega, ht, fun i a1 a2 => hs i a1 (by omega), hh⟩
  · rintro (⟨t, h, ht, hs, hh⟩ | hh)
    · refine ⟨t, by omega, ht, fun i a1 a2 => ?_, hh⟩
      by_cases hi : i = k
      · subst hi; exact .inr ⟨i, by omega, by omega, h1, by rw [Int.sub_self, Int.zero_mul]; exact hk⟩
      · exact hs i a1 (by omega)
    · exact ⟨k, by omega, h1, fun i a1 a2 => by omega, hh⟩

/-- An alert's life behind the first K ticks. -/
def lifeV (f : Nat → Int) (b lo ke : Int) : Nat → LifeV
  | 0 => ⟨0, 0, 0⟩
  | K + 1 => if f K = 2 then lifeV f b lo ke K else nextV (lifeV f b lo ke K) K b lo ke (decide (f K = 1))

structure LifeOk (f : Nat → Int) (b lo ke : Int) (K : Nat) (x : LifeV) : Prop where
  fires : x.st = 2 ↔ FiresP f b lo ke K
  three : x.st = 0 ∨ x.st = 1 ∨ x.st = 2
  la : x.st = 2 → ∃ l : Nat, x.la = l ∧ l < K ∧ f l = 1 ∧ ∀ i, l < i → i < K → f i ≠ 1
  si : x.st = 1 → ∃ m : Nat, x.si = m ∧ m < K ∧ f m = 1 ∧ (∀ i, m ≤ i → i < K → f i ≠ 0) ∧ ∀ m', m' < K → f m' = 1 → (∀ i, m' ≤ i → i < K → f i ≠ 0) → m ≤ m'
  no : x.st = 0 → ∀ m, m < K → f m = 1 → ∃ i, m ≤ i ∧ i < K ∧ f i = 0

theorem mostE_iff {b c a : Int} (hb : 1 ≤ b) : mostE b c a = true ↔ a * b ≤ c := by
  unfold mostE
  rw [decide_eq_true_eq]
  exact Int.le_ediv_iff_mul_le (by omega)

theorem heldP_new {f : Nat → Int} {b lo : Int} {k : Nat} (h1 : f k = 1) (no : ∀ m, m < k → f m = 1 → ∃ i, m ≤ i ∧ i < k ∧ f i = 0) : HeldP f b lo k ↔ lo ≤ 0 := by
  constructor
  · rintro ⟨m, hm, c1, c2, c3⟩
    by_cases e : m = k
    · subst e; simpa using c2
    · obtain ⟨i, a1, a2, a3⟩ := no m (by omega) c1
      exact absurd a3 (c3 i a1 (by omega))
  · intro h
    refine ⟨k, Nat.le_refl _, h1, by simpa using h, fun x a1 a2 => ?_⟩
    have : x = k := by omega
    subst this; omega
theorem heldP_run {f : Nat → Int} {b lo : Int} (hb : 1 ≤ b) {k m : Nat} (h1 : f k = 1) (hm : m < k) (hf : f m = 1) (hr : ∀ i, m ≤ i → i < k → f i ≠ 0) (hl : ∀ m', m' < k → f m' = 1 → (∀ i, m' ≤ i → i < k → f i ≠ 0) → m ≤ m') : HeldP f b lo k ↔ lo ≤ ((k : Int) - m) * b := by
  constructor
  · rintro ⟨m', h, c1, c2, c3⟩
    have hle : m ≤ m' := by
      by_cases e : m' = k
      · omega
      · exact hl m' (by omega) c1 fun i a1 a2 => c3 i a1 (by omega)
    have : ((k : Int) - m') * b ≤ ((k : Int) - m) * b := Int.mul_le_mul_of_nonneg_right (by omega) (by omega)
    omega
  · intro h
    refine ⟨m, by omega, hf, h, fun x a1 a2 => ?_⟩
    by_cases e : x = k
    · subst e; omega
    · exact hr x a1 (by omega)

theorem life_ok {f : Nat → Int} {b lo ke : Int} (hb : 1 ≤ b) (hk : 0 ≤ ke) (hf : ∀ i, f i = 0 ∨ f i = 1 ∨ f i = 2) : ∀ K, LifeOk f b lo ke K (lifeV f b lo ke K)
  | 0 => by
    refine ⟨?_, .inl rfl, fun h => ?_, fun h => ?_, fun _ m hm => by omega⟩
    · simp only [lifeV]
      constructor
      · intro h; cases h
      · rintro ⟨t, h, _⟩; omega
    · cases h
    · cases h
  | k + 1 => by
    have ih := life_ok hb hk hf k (lo := lo)
    simp only [lifeV]
    generalize lifeV f b lo ke k = x at ih
    rcases hf k with h0 | h1 | h2
    · -- off
      rw [if_neg (by omega)]
      have hd : decide (f k = 1) = false := by simp; omega
      rw [hd]
      have st := firesP_step0 (lo := lo) (ke := ke) hb h0
      simp only [nextV, if_true]
      split
      · rename_i h
        obtain ⟨hs, hm⟩ := h
        rw [mostE_iff hb] at hm
        obtain ⟨l, e, a1, a2, a3⟩ := ih.la hs
        rw [e] at hm
        refine ⟨⟨fun _ => st.mpr ⟨ih.fires.mp hs, l, a1, a2, hm⟩, fun _ => hs⟩, ih.three, fun _ => ⟨l, e, by omega, a2, fun i c1 c2 => ?_⟩, fun h => by omega, fun h => by omega⟩
        by_cases hi : i = k
        · subst hi; omega
        · exact a3 i c1 (by omega)
      · rename_i h
        refine ⟨⟨fun h => (by cases h), fun hF => ?_⟩, .inl rfl, fun h => (by cases h), fun h => (by cases h), fun _ m hm _ => ⟨k, by omega, by omega, h0⟩⟩
        exfalso
        obtain ⟨hF0, y, hy, y1, y2⟩ := st.mp hF
        have hs := ih.fires.mpr hF0
        obtain ⟨l, e, a1, a2, a3⟩ := ih.la hs
        apply h
        refine ⟨hs, ?_⟩
        rw [mostE_iff hb, e]
        have hyl : y ≤ l := by
          rcases Nat.lt_or_ge l y with hl | hl
          · exact absurd y1 (a3 y hl hy)
          · exact hl
        have : ((k : Int) - l) * b ≤ ((k : Int) - y) * b := Int.mul_le_mul_of_nonneg_right (by omega) (by omega)
        omega
    · -- on
      rw [if_neg (by omega)]
      have hd : decide (f k = 1) = true := by simp; omega
      rw [hd]
      have st := firesP_step1 (lo := lo) (b := b) hk h1
      have lastk : ∀ i, k < i → i < k + 1 → f i ≠ 1 := fun i a1 a2 => by omega
      have run0 : ∀ i, k ≤ i → i < k + 1 → f i ≠ 0 := fun i a1 a2 => by
        have : i = k := by omega
        subst this; omega
      simp only [nextV, Bool.true_eq_false, if_false]
      rcases ih.three with s0 | s1 | s2
      · rw [if_pos s0]
        have hn : ¬ FiresP f b lo ke k := fun h => by have := ih.fires.mpr h; omega
        have hh := heldP_new (b := b) (lo := lo) h1 (ih.no s0)
        have hL : longE b lo 0 = true ↔ lo ≤ 0 := by rw [longE_iff hb, Int.zero_mul]
        by_cases hc : longE b lo 0 = true
        · simp only [hc, if_true]
          refine ⟨⟨fun _ => st.mpr (.inr (hh.mpr (hL.mp hc))), fun _ => rfl⟩, .inr (.inr rfl), fun _ => ⟨k, rfl, by omega, h1, lastk⟩, fun h => (by cases h), fun h => (by cases h)⟩
        · simp only [hc, if_false, Bool.false_eq_true]
          refine ⟨⟨fun h => (by cases h), fun h => ?_⟩, .inr (.inl rfl), fun h => (by cases h), fun _ => ⟨k, rfl, by omega, h1, run0, fun m' a1 a2 a3 => ?_⟩, fun h => (by cases h)⟩
          · rcases st.mp h with h | h
            · exact absurd h hn
            · exact absurd (hL.mpr (hh.mp h)) hc
          · rcases Nat.lt_or_ge m' k with hlt | hge
            · obtain ⟨i, c1, c2, c3⟩ := ih.no s0 m' hlt a2
              exact absurd c3 (a3 i c1 (by omega))
            · exact hge
      · rw [if_neg (by omega)]
        obtain ⟨m, e, a1, a2, a3, a4⟩ := ih.si s1
        have hn : ¬ FiresP f b lo ke k := fun h => by have := ih.fires.mpr h; omega
        have hh := heldP_run (lo := lo) hb h1 a1 a2 a3 a4
        have hL : longE b lo ((k : Int) - x.si) = true ↔ lo ≤ ((k : Int) - m) * b := by rw [longE_iff hb, e]
        by_cases hc : longE b lo ((k : Int) - x.si) = true
        · simp only [hc, s1, and_self, if_true]
          refine ⟨⟨fun _ => st.mpr (.inr (hh.mpr (hL.mp hc))), fun _ => rfl⟩, .inr (.inr rfl), fun _ => ⟨k, rfl, by omega, h1, lastk⟩, fun h => (by cases h), fun h => (by cases h)⟩
        · simp only [hc, s1, and_false, if_false, Bool.false_eq_true]
          refine ⟨⟨fun h => (by cases h), fun h => ?_⟩, .inr (.inl rfl), fun h => (by cases h), fun _ => ⟨m, e, by omega, a2, fun i c1 c2 => ?_, fun m' c1 c2 c3 => ?_⟩, fun h => (by cases h)⟩
          · rcases st.mp h with h | h
            · exact absurd h hn
            · exact absurd (hL.mpr (hh.mp h)) hc
          · by_cases hi : i = k
            · subst hi; omega
            · exact a3 i c1 (by omega)
          · rcases Nat.lt_or_ge m' k with hlt | hge
            · exact a4 m' hlt c2 fun i d1 d2 => c3 i d1 (by omega)
            · omega
      · rw [if_neg (by omega)]
        have n1 : ¬ x.st = 1 := by omega
        simp only [n1, false_and, if_false]
        exact ⟨⟨fun _ => st.mpr (.inl (ih.fires.mp s2)), fun _ => s2⟩, .inr (.inr s2), fun _ => ⟨k, rfl, by omega, h1, lastk⟩, fun h => by have : x.st = 1 := h; omega, fun h => by have : x.st = 0 := h; omega⟩
    · -- it erred
      rw [if_pos h2]
      have e := firesP_err (b := b) (lo := lo) (ke := ke) h2
      refine ⟨ih.fires.trans e.symm, ih.three, fun h => ?_, fun h => ?_, fun h m hm h1 => ?_⟩
      · obtain ⟨l, e, a1, a2, a3⟩ := ih.la h
        refine ⟨l, e, by omega, a2, fun i c1 c2 => ?_⟩
        by_cases hi : i = k
        · subst hi; omega
        · exact a3 i c1 (by omega)
      · obtain ⟨m, e, a1, a2, a3, a4⟩ := ih.si h
        refine ⟨m, e, by omega, a2, fun i c1 c2 => ?_, fun m' c1 c2 c3 => ?_⟩
        · by_cases hi : i = k
          · subst hi; omega
          · exact a3 i c1 (by omega)
        · have : m' ≠ k := by intro e; subst e; omega
          exact a4 m' (by omega) c2 fun i d1 d2 => c3 i d1 (by omega)
      · have : m ≠ k := by intro e; subst e; omega
        obtain ⟨i, a1, a2, a3⟩ := ih.no h m (by omega) h1
        exact ⟨i, a1, by omega, a3⟩

theorem lastV_spec (f : Nat → Int) : ∀ K, (lastV f K = 0 ∧ ∀ i, i < K → f i = 2) ∨ (0 < lastV f K ∧ lastV f K ≤ K ∧ f (lastV f K - 1) ≠ 2 ∧ ∀ i, lastV f K ≤ i → i < K → f i = 2)
  | 0 => .inl ⟨rfl, fun i h => by omega⟩
  | m + 1 => by
    simp only [lastV]
    split
    · rename_i h2
      rcases lastV_spec f m with ⟨a, b⟩ | ⟨a, b, c, d⟩
      · refine .inl ⟨a, fun i h => ?_⟩
        by_cases hi : i = m
        · subst hi; exact h2
        · exact b i (by omega)
      · refine .inr ⟨a, by omega, c, fun i h h' => ?_⟩
        by_cases hi : i = m
        · subst hi; exact h2
        · exact d i h (by omega)
    · rename_i h2
      exact .inr ⟨by omega, by omega, h2, fun i h h' => by omega⟩

/-- The definition is what an alert's steps come to. -/
theorem state_life {f : Nat → Int} {b lo ke : Int} (hb : 1 ≤ b) (hk : 0 ≤ ke) (hf : ∀ i, f i = 0 ∨ f i = 1 ∨ f i = 2) (K : Nat) : stateV f b lo ke K = (lifeV f b lo ke K).st := by
  have ok := life_ok (lo := lo) hb hk hf K
  have hi := fires_iff (f := f) (lo := lo) hb hk K
  generalize lifeV f b lo ke K = x at ok
  unfold stateV
  have hs := lastV_spec f K
  rcases ok.three with s | s | s
  · have hn : ¬ firesV f b lo ke K = true := fun h => by have := ok.fires.mpr (hi.mp h); omega
    rw [if_neg hn, s, if_neg]
    rintro ⟨h1, h2⟩
    rcases hs with ⟨a, _⟩ | ⟨a, c, d, e⟩
    · omega
    · obtain ⟨i, c1, c2, c3⟩ := ok.no s (lastV f K - 1) (by omega) h2
      by_cases hi : i = lastV f K - 1
      · subst hi; omega
      · have := e i (by omega) c2; omega
  · have hn : ¬ firesV f b lo ke K = true := fun h => by have := ok.fires.mpr (hi.mp h); omega
    rw [if_neg hn, s, if_pos]
    obtain ⟨m, _, a1, a2, a3, _⟩ := ok.si s
    rcases hs with ⟨a, c⟩ | ⟨a, c, d, e⟩
    · have := c m a1; omega
    · refine ⟨a, ?_⟩
      have hm : m < lastV f K := by
        rcases Nat.lt_or_ge m (lastV f K) with h | h
        · exact h
        · have := e m h a1; omega
      have h0 := a3 (lastV f K - 1) (by omega) (by omega)
      rcases hf (lastV f K - 1) with h | h | h
      · exact absurd h h0
      · exact h
      · exact absurd h d
  · rw [if_pos (hi.mpr (ok.fires.mp s)), s]

theorem fires_life {f : Nat → Int} {b lo ke : Int} (hb : 1 ≤ b) (hk : 0 ≤ ke) (hf : ∀ i, f i = 0 ∨ f i = 1 ∨ f i = 2) (K : Nat) : firesV f b lo ke K = decide ((lifeV f b lo ke K).st = 2) := by
  have ok := life_ok (lo := lo) hb hk hf K
  have hi := fires_iff (f := f) (lo := lo) hb hk K
  rw [Bool.eq_iff_iff, hi, ← ok.fires, decide_eq_true_eq]

/-- What an alert has kept are numbers of ticks. -/
theorem life_le (f : Nat → Int) (b lo ke : Int) : ∀ K, 0 ≤ (lifeV f b lo ke K).si ∧ (lifeV f b lo ke K).si ≤ K ∧ 0 ≤ (lifeV f b lo ke K).la ∧ (lifeV f b lo ke K).la ≤ K
  | 0 => by simp [lifeV]
  | k + 1 => by
    have ih := life_le f b lo ke k
    simp only [lifeV]
    generalize lifeV f b lo ke k = x at ih
    split
    · omega
    · unfold nextV
      split
      · split <;> simp <;> omega
      · split <;> simp <;> omega

end Go.Proofs.Ytdnffpbofbijnaa.define
