/-
  Spans of a set: the plain laws.
-/
import Derived.Test.YtlejcjgbkbmdmaaSpFlags2
namespace Go.Proofs.Ytlejcjgbkbmdmaa.span
open Go Go.Proofs Go.RowKit

theorem spansTo_congr {t u : Nat → Bool} : ∀ n, (∀ k, k < n → t k = u k) → spansTo t n = spansTo u n
  | 0, _ => rfl
  | n + 1, h => by
    simp only [spansTo]
    rw [spansTo_congr n (fun k hk => h k (by omega)), h n (by omega)]
theorem spansTo_stop {t : Nat → Bool} {n : Nat} (h : ∀ k, n ≤ k → t k = false) : ∀ m, spansTo t (n + m) = spansTo t n
  | 0 => rfl
  | m + 1 => by
    rw [show n + (m + 1) = (n + m) + 1 by omega]
    simp only [spansTo]
    rw [h (n + m) (by omega)]
    simp only [Bool.false_eq_true, if_false]
    exact spansTo_stop h m

theorem tabOf_step {l : List (Int × Int)} {q : Int × Int} {k j : Nat} (h1 : q.1 ≤ q.2) (h2 : q.2 = (k : Int) - 1) : tabOf (l ++ [(q.1, (k : Int))]) j = (tabOf (l ++ [q]) j || decide (j = k)) := by
  rw [tabOf_append, tabOf_append, Bool.or_assoc]
  congr 1
  simp only [tabOf, List.any_cons, List.any_nil, Bool.or_false]
  rw [Bool.eq_iff_iff, Bool.or_eq_true, decide_eq_true_eq, decide_eq_true_eq, decide_eq_true_eq]
  omega
theorem tabOf_one (k j : Nat) : tabOf [((k : Int), (k : Int))] j = decide (j = k) := by
  simp only [tabOf, List.any_cons, List.any_nil, Bool.or_false]
  rw [Bool.eq_iff_iff, decide_eq_true_eq, decide_eq_true_eq]
  omega
/-- The ticks of a set's spans are the set. -/
theorem tabOf_spansTo (t : Nat → Bool) (j : Nat) : ∀ n, tabOf (spansTo t n) j = (decide (j < n) && t j)
  | 0 => by simp [spansTo, tabOf]
  | n + 1 => by
    have ih := tabOf_spansTo t j n
    have hx : (decide (j < n + 1) && t j) = ((decide (j < n) && t j) || (decide (j = n) && t j)) := by
      rw [Bool.eq_iff_iff]
      simp only [Bool.and_eq_true, Bool.or_eq_true, decide_eq_true_eq]
      constructor
      · rintro ⟨h1, h2⟩
        by_cases e : j = n
        · exact .inr ⟨e, h2⟩
        · exact .inl ⟨by omega, h2⟩
      · rintro (⟨h1, h2⟩ | ⟨h1, h2⟩)
        · exact ⟨by omega, h2⟩
        · exact ⟨by omega, h2⟩
    rw [hx, ← ih]
    simp only [spansTo]
    by_cases ht : t n = true
    · rw [if_pos ht]
      have hy : (decide (j = n) && t j) = decide (j = n) := by
        by_cases e : j = n
        · subst e; simp [ht]
        · simp [e]
      rw [hy]
      rcases List.eq_nil_or_concat (spansTo t n) with e | ⟨l, q, e⟩
      · rw [e]
        show tabOf [((n : Int), (n : Int))] j = _
        rw [tabOf_one]; simp [tabOf]
      · rw [List.concat_eq_append] at e
        obtain ⟨_, _, h1, _⟩ := spans_last t n l q e
        unfold stepT
        rw [e, List.getLast?_concat, List.dropLast_concat]
        dsimp only
        split
        · rename_i h2
          exact tabOf_step h1 h2
        · rw [tabOf_append (l ++ [q]), tabOf_one]
    · have ht' : t n = false := by simpa using ht
      rw [if_neg ht]
      have hy : (decide (j = n) && t j) = false := by
        by_cases e : j = n
        · subst e; simp [ht']
        · simp [e]
      rw [hy, Bool.or_false]

theorem hasL_nat (l : List (Int × Int)) (k : Nat) : hasL l (k : Int) = tabOf l k := rfl
theorem hasL_neg (t : Nat → Bool) (n : Nat) (x : Int) (h : x < 0) : hasL (spansTo t n) x = false := by
  have hb := (spansTo_bound t n).2
  simp only [hasL, List.any_eq_false, decide_eq_true_eq]
  intro p hp
  have := hb p hp
  omega

def lastOf : List (Int × Int) → Option Int → Option Int
  | [], last => last
  | p :: l, _ => lastOf l (some p.2)
theorem lastOf_snoc : ∀ (l : List (Int × Int)) (q : Int × Int) (o : Option Int), lastOf (l ++ [q]) o = some q.2
  | [], _, _ => rfl
  | p :: l, q, _ => lastOf_snoc l q (some p.2)
theorem rightL_snoc : ∀ (l : List (Int × Int)) (q : Int × Int) (o : Option Int), rightL (l ++ [q]) o = (rightL l o && !badP q (lastOf l o))
  | [], q, o => by simp [rightL, lastOf]
  | p :: l, q, o => by
    simp only [List.cons_append, rightL, lastOf]
    rw [rightL_snoc l q (some p.2), Bool.and_assoc]
/-- A set's spans are right. -/
theorem rightL_spansTo (t : Nat → Bool) : ∀ n, n ≤ 200 → rightL (spansTo t n) none = true
  | 0, _ => rfl
  | n + 1, h => by
    have ih := rightL_spansTo t n (by omega)
    simp only [spansTo]
    split
    · rcases List.eq_nil_or_concat (spansTo t n) with e | ⟨l, q, e⟩
      · rw [e]
        show rightL [((n : Int), (n : Int))] none = true
        have h1 : ¬ ((n : Int) < 0) := by omega
        have h2 : ¬ (200 ≤ (n : Int)) := by omega
        simp [rightL, badP, h1, h2]
      · rw [List.concat_eq_append] at e
        obtain ⟨_, h0, h1, h3⟩ := spans_last t n l q e
        unfold stepT
        rw [e] at ih
        rw [e, List.getLast?_concat, List.dropLast_concat]
        dsimp only
        split
        · rename_i h2
          rw [rightL_snoc] at ih ⊢
          simp only [Bool.and_eq_true] at ih ⊢
          refine ⟨ih.1, ?_⟩
          have hbq := ih.2
          unfold badP at hbq ⊢
          simp only [Bool.not_eq_true', Bool.or_eq_false_iff, decide_eq_false_iff_not] at hbq ⊢
          exact ⟨⟨⟨hbq.1.1.1, by omega⟩, by omega⟩, hbq.2⟩
        · rename_i h2
          rw [rightL_snoc (l ++ [q])]
          rw [ih, lastOf_snoc]
          unfold badP
          simp only [Bool.true_and, Bool.not_eq_true', Bool.or_eq_false_iff, decide_eq_false_iff_not]
          exact ⟨⟨⟨by omega, by omega⟩, by omega⟩, by omega⟩
    · exact ih

theorem normL_congr {l m : List (Int × Int)} (h : ∀ k, k < 200 → tabOf l k = tabOf m k) : normL l = normL m := spansTo_congr 200 h
theorem normL_spansTo (t : Nat → Bool) : normL (spansTo t 200) = spansTo t 200 := spansTo_congr 200 fun k hk => by rw [tabOf_spansTo]; simp [hk]

/-- A row of spans that the call has built, as whatever reads it sees it. -/
theorem own_spn {w : World} {B : Nat} {v : Value} {l : List (Int × Int)} (h : w.ownsRow B 26 2 v l.length (flat l)) (hl : ∀ p ∈ l, 0 ≤ p.1 ∧ p.1 < 1000 ∧ 0 ≤ p.2 ∧ p.2 < 1000) : ∃ ao cap, v = .slice ao l.length cap ∧ Spn w ao l := by
  have wf : ∀ p ∈ l, (-9223372036854775808 ≤ p.1 ∧ p.1 ≤ 9223372036854775807) ∧ (-9223372036854775808 ≤ p.2 ∧ p.2 ≤ 9223372036854775807) := fun p hp => by have := hl p hp; omega
  rcases own_spans h with ⟨rfl, rfl⟩ | ⟨b, cap, rfl, hB, hB', hc, _⟩
  · exact ⟨none, 0, rfl, ⟨fun h => absurd rfl h, wf⟩⟩
  · exact ⟨_, cap, rfl, ⟨fun _ => ⟨b, 0, rfl, hB', fun i p hp => by simpa using hc i p hp⟩, wf⟩⟩
theorem own_spn_of {w : World} {B : Nat} {v : Value} {t : Nat → Bool} {n : Nat} (h : w.ownsRow B 26 2 v (spansTo t n).length (flat (spansTo t n))) (hn : n ≤ 1000) : ∃ ao cap, v = .slice ao (spansTo t n).length cap ∧ Spn w ao (spansTo t n) ∧ (spansTo t n).length ≤ 1000 :=  by
  obtain ⟨ao, cap, e, h1⟩ := own_spn h (fun p hp => by have := (spansTo_bound t n).2 p hp; omega)
  exact ⟨ao, cap, e, h1, by have := (spansTo_bound t n).1; omega⟩

end Go.Proofs.Ytlejcjgbkbmdmaa.span
