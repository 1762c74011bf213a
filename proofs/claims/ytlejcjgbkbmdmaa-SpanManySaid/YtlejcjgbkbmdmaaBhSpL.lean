/-
  Spans of sets of ticks: the plain law (no program in sight).
-/
import Derived.Test.YtlejcjgbkbmdmaaBhW8
namespace Go.Proofs.Ytlejcjgbkbmdmaa.BH.Sp

/-- One more tick: at the end of the last span, or a span of its own. -/
def stepT (l : List (Int × Int)) (k : Nat) : List (Int × Int) :=
  match l.getLast? with
  | some p => if p.2 = (k : Int) - 1 then l.dropLast ++ [(p.1, (k : Int))] else l ++ [((k : Int), (k : Int))]
  | none => l ++ [((k : Int), (k : Int))]
def spansTo (t : Nat → Bool) : Nat → List (Int × Int)
  | 0 => []
  | k + 1 => if t k then stepT (spansTo t k) k else spansTo t k
theorem spansTo_bound (t : Nat → Bool) : ∀ k, (spansTo t k).length ≤ k ∧ ∀ p ∈ spansTo t k, 0 ≤ p.1 ∧ p.1 < k ∧ 0 ≤ p.2 ∧ p.2 < k
  | 0 => ⟨Nat.le_refl _, fun p h => by cases h⟩
  | k + 1 => by
    obtain ⟨h1, h2⟩ := spansTo_bound t k
    have h3 : ∀ p ∈ spansTo t k, 0 ≤ p.1 ∧ p.1 < (k + 1 : Nat) ∧ 0 ≤ p.2 ∧ p.2 < (k + 1 : Nat) := fun p hp => by have := h2 p hp; omega
    simp only [spansTo]
    split
    · unfold stepT
      rcases List.eq_nil_or_concat (spansTo t k) with e | ⟨l, q, e⟩
      · rw [e]; simp; omega
      · rw [List.concat_eq_append] at e
        rw [e] at h1 h3 ⊢
        rw [List.getLast?_concat, List.dropLast_concat]
        simp only [List.length_append, List.length_cons, List.length_nil] at h1
        dsimp only
        split
        · refine ⟨by simp; omega, fun p hp => ?_⟩
          rw [List.mem_append, List.mem_singleton] at hp
          rcases hp with hp | rfl
          · exact h3 p (by simp [hp])
          · have := h3 q (by simp); dsimp only; omega
        · refine ⟨by simp; omega, fun p hp => ?_⟩
          rw [List.mem_append, List.mem_singleton] at hp
          rcases hp with hp | rfl
          · exact h3 p hp
          · dsimp only; omega
    · exact ⟨by omega, h3⟩

def tabOf (l : List (Int × Int)) (k : Nat) : Bool := l.any fun p => decide (p.1 ≤ (k : Int) ∧ (k : Int) ≤ p.2)
theorem tabOf_append (l m : List (Int × Int)) (k : Nat) : tabOf (l ++ m) k = (tabOf l k || tabOf m k) := by simp [tabOf]

def putT (t : Nat → Bool) (a b : Int) (k : Nat) : Bool := t k || decide (a ≤ k ∧ (k : Int) ≤ b)

theorem putT_take {l : List (Int × Int)} {k : Nat} {p : Int × Int} (hp : l[k]? = some p) (j : Nat) : putT (tabOf (l.take k)) p.1 p.2 j = tabOf (l.take (k + 1)) j := by
  rw [List.take_add_one, hp, tabOf_append]
  simp [putT, tabOf]

def ones (l : List Int) : List (Int × Int) := l.map fun x => (x, x)
/-- The spans of spans' ticks. -/
def normL (l : List (Int × Int)) : List (Int × Int) := spansTo (tabOf l) 200
/-- Is a tick in one of spans? -/
def hasL (l : List (Int × Int)) (x : Int) : Bool := l.any fun p => decide (p.1 ≤ x ∧ x ≤ p.2)

/-- The numbers of ticks. -/
def ticksTo (t : Nat → Bool) : Nat → List Int
  | 0 => []
  | k + 1 => if t k then ticksTo t k ++ [(k : Int)] else ticksTo t k
theorem ticksTo_le (t : Nat → Bool) : ∀ k, (ticksTo t k).length ≤ k
  | 0 => Nat.le_refl _
  | k + 1 => by
    have := ticksTo_le t k
    simp only [ticksTo]
    split
    · simp; omega
    · omega

theorem spans_last (t : Nat → Bool) : ∀ (k : Nat) (l : List (Int × Int)) (q : Int × Int), spansTo t k = l ++ [q] → t q.2.toNat = true ∧ 0 ≤ q.1 ∧ q.1 ≤ q.2 ∧ q.2 < (k : Int)
  | 0, l, q, h => by simp [spansTo] at h
  | k + 1, l, q, h => by
    simp only [spansTo] at h
    split at h
    · rename_i ht
      unfold stepT at h
      rcases List.eq_nil_or_concat (spansTo t k) with e | ⟨l', p, e⟩
      · rw [e] at h
        simp only [List.getLast?_nil, List.nil_append] at h
        have : q = ((k : Int), (k : Int)) := by
          have := congrArg List.getLast? h
          simp at this; exact this.symm
        subst this
        exact ⟨by simpa using ht, by simp, Int.le_refl _, by simp; try omega⟩
      · rw [List.concat_eq_append] at e
        have hp := spans_last t k l' p e
        rw [e, List.getLast?_concat, List.dropLast_concat] at h
        dsimp only at h
        split at h
        · have := congrArg List.getLast? h
          rw [List.getLast?_concat, List.getLast?_concat] at this
          cases this
          exact ⟨by simpa using ht, hp.2.1, by simp; try omega, by simp; try omega⟩
        · have := congrArg List.getLast? h
          rw [List.getLast?_concat, List.getLast?_concat] at this
          cases this
          exact ⟨by simpa using ht, by simp, Int.le_refl _, by simp; try omega⟩
    · obtain ⟨h1, h2, h3, h4⟩ := spans_last t k l q h
      exact ⟨h1, h2, h3, by omega⟩
theorem spans_here (t : Nat → Bool) (k : Nat) (h : t k = true) : ∃ l a, spansTo t (k + 1) = l ++ [(a, (k : Int))] := by
  simp only [spansTo, h, if_true]
  unfold stepT
  split
  · split
    · exact ⟨_, _, rfl⟩
    · exact ⟨_, _, rfl⟩
  · exact ⟨_, _, rfl⟩

theorem step_on {t : Nat → Bool} {k : Nat} {l : List (Int × Int)} {a : Int} (h : spansTo t k = l ++ [(a, (k : Int) - 1)]) : stepT (spansTo t k) k = l ++ [(a, (k : Int))] := by
  rw [h]; unfold stepT; rw [List.getLast?_concat, List.dropLast_concat]; simp
theorem step_new {t : Nat → Bool} {k : Nat} (h : k = 0 ∨ t (k - 1) = false) : stepT (spansTo t k) k = spansTo t k ++ [((k : Int), (k : Int))] := by
  unfold stepT
  rcases List.eq_nil_or_concat (spansTo t k) with e | ⟨l, q, e⟩
  · rw [e]; rfl
  · rw [List.concat_eq_append] at e
    have hq := spans_last t k l q e
    rw [e, List.getLast?_concat]
    dsimp only
    rw [if_neg]
    intro h2
    rcases h with rfl | h
    · omega
    · have : q.2.toNat = k - 1 := by omega
      rw [this, h] at hq
      cases hq.1

def partT (x y : Nat → Bool) (has : Bool) (k : Nat) : Bool := x k && (y k == has)
def partTo (x y : Nat → Bool) (has : Bool) (n k : Nat) : Bool := if k < n then partT x y has k else x k

theorem part_step {x y : Nat → Bool} {has : Bool} {k j : Nat} {v : Bool} (hv : v = partT x y has k) : (if j = k then v else partTo x y has k j) = partTo x y has (k + 1) j := by
  unfold partTo
  by_cases e : j = k
  · subst e; rw [if_pos rfl, if_pos (by omega), hv]
  · rw [if_neg e]
    by_cases h : j < k
    · rw [if_pos h, if_pos (by omega)]
    · rw [if_neg h, if_neg (by omega)]

def bothL (l m : List (Int × Int)) : List (Int × Int) := spansTo (partT (tabOf l) (tabOf m) true) 200
def lessL (l m : List (Int × Int)) : List (Int × Int) := spansTo (partT (tabOf l) (tabOf m) false) 200

def countL (l : List (Int × Int)) : Nat := (ticksTo (tabOf l) 200).length

def badP (p : Int × Int) (last : Option Int) : Bool := decide (p.1 < 0) || decide (p.2 < p.1) || decide (200 ≤ p.2) || (match last with | some e => decide (p.1 < e + 2) | none => false)
/-- May spans be? the last one's end known. -/
def rightL : List (Int × Int) → Option Int → Bool
  | [], _ => true
  | p :: l, last => !badP p last && rightL l (some p.2)
def lastE (l : List (Int × Int)) : Nat → Option Int
  | 0 => none
  | k + 1 => l[k]?.map (·.2)

def withinV (n lo hi : Int) : Int := lo + (if n.tmod (hi - lo + 1) < 0 then n.tmod (hi - lo + 1) + hi - lo + 1 else n.tmod (hi - lo + 1))

theorem withinV_in (n lo hi : Int) (h1 : lo ≤ hi) : lo ≤ withinV n lo hi ∧ withinV n lo hi ≤ hi := by
  have hlo : -(hi - lo + 1) < n.tmod (hi - lo + 1) := Int.lt_tmod_of_pos n (show 0 < hi - lo + 1 by omega)
  have hhi : n.tmod (hi - lo + 1) < hi - lo + 1 := Int.tmod_lt_of_pos n (by omega)
  unfold withinV
  split <;> omega

/-- Which ticks numbers flag. -/
def flagT (l : List Int) (k : Nat) : Bool := l.any fun x => decide (withinV x 0 59 = (k : Int))
theorem flagT_lt {l : List Int} {k : Nat} (h : flagT l k = true) : k < 60 := by
  simp only [flagT, List.any_eq_true, decide_eq_true_eq] at h
  obtain ⟨x, _, h⟩ := h
  have := withinV_in x 0 59 (by omega)
  omega
def flagsT (l : List Int) : Nat → Bool := flagT (l.take 40)

theorem flag_step {l : List Int} {k x j : Nat} {p : Int} (hp : l[k]? = some p) (hx : withinV p 0 59 = x) : (if j = x then true else flagT (l.take k) j) = flagT (l.take (k + 1)) j := by
  rw [List.take_add_one, hp]
  simp only [flagT, Option.toList_some, List.any_append, List.any_cons, List.any_nil, Bool.or_false, hx]
  by_cases e : j = x
  · subst e; simp
  · have : ¬ (x : Int) = (j : Int) := by omega
    simp [e, this]

theorem spansTo_congr {t u : Nat → Bool} : ∀ n, (∀ k, k < n → t k = u k) → spansTo t n = spansTo u n
  | 0, _ => rfl
  | n + 1, h => by
    simp only [spansTo]
    rw [spansTo_congr n (fun k hk => h k (by omega)), h n (by omega)]
theorem spansTo_stop {t : Nat → Bool} {n : Nat} (h : ∀ k, n ≤ k → t k = false) : ∀ m, spansTo t (n + m) = spansTo t n
  | 0 => rfl
  | m + 1 => by
    rw [show n + (m + 1) = (n + m) + 1 by omega]
    simp only [spansTo]
    rw [h (n + m) (by omega)]
    simp only [Bool.false_eq_true, if_false]
    exact spansTo_stop h m

theorem tabOf_step {l : List (Int × Int)} {q : Int × Int} {k j : Nat} (h1 : q.1 ≤ q.2) (h2 : q.2 = (k : Int) - 1) : tabOf (l ++ [(q.1, (k : Int))]) j = (tabOf (l ++ [q]) j || decide (j = k)) := by
  rw [tabOf_append, tabOf_append, Bool.or_assoc]
  congr 1
  simp only [tabOf, List.any_cons, List.any_nil, Bool.or_false]
  rw [Bool.eq_iff_iff, Bool.or_eq_true, decide_eq_true_eq, decide_eq_true_eq, decide_eq_true_eq]
  omega
theorem tabOf_one (k j : Nat) : tabOf [((k : Int), (k : Int))] j = decide (j = k) := by
  simp only [tabOf, List.any_cons, List.any_nil, Bool.or_false]
  rw [Bool.eq_iff_iff, decide_eq_true_eq, decide_eq_true_eq]
  omega
/-- The ticks of a set's spans are the set. -/
theorem tabOf_spansTo (t : Nat → Bool) (j : Nat) : ∀ n, tabOf (spansTo t n) j = (decide (j < n) && t j)
  | 0 => by simp [spansTo, tabOf]
  | n + 1 => by
    have ih := tabOf_spansTo t j n
    have hx : (decide (j < n + 1) && t j) = ((decide (j < n) && t j) || (decide (j = n) && t j)) := by
      rw [Bool.eq_iff_iff]
      simp only [Bool.and_eq_true, Bool.or_eq_true, decide_eq_true_eq]
      constructor
      · rintro ⟨h1, h2⟩
        by_cases e : j = n
        · exact .inr ⟨e, h2⟩
        · exact .inl ⟨by omega, h2⟩
      · rintro (⟨h1, h2⟩ | ⟨h1, h2⟩)
        · exact ⟨by omega, h2⟩
        · exact ⟨by omega, h2⟩
    rw [hx, ← ih]
    simp only [spansTo]
    by_cases ht : t n = true
    · rw [if_pos ht]
      have hy : (decide (j = n) && t j) = decide (j = n) := by
        by_cases e : j = n
        · subst e; simp [ht]
        · simp [e]
      rw [hy]
      rcases List.eq_nil_or_concat (spansTo t n) with e | ⟨l, q, e⟩
      · rw [e]
        show tabOf [((n : Int), (n : Int))] j = _
        rw [tabOf_one]; simp [tabOf]
      · rw [List.concat_eq_append] at e
        obtain ⟨_, _, h1, _⟩ := spans_last t n l q e
        unfold stepT
        rw [e, List.getLast?_concat, List.dropLast_concat]
        dsimp only
        split
        · rename_i h2
          exact tabOf_step h1 h2
        · rw [tabOf_append (l ++ [q]), tabOf_one]
    · have ht' : t n = false := by simpa using ht
      rw [if_neg ht]
      have hy : (decide (j = n) && t j) = false := by
        by_cases e : j = n
        · subst e; simp [ht']
        · simp [e]
      rw [hy, Bool.or_false]

theorem hasL_nat (l : List (Int × Int)) (k : Nat) : hasL l (k : Int) = tabOf l k := rfl
theorem hasL_neg (t : Nat → Bool) (n : Nat) (x : Int) (h : x < 0) : hasL (spansTo t n) x = false := by
  have hb := (spansTo_bound t n).2
  simp only [hasL, List.any_eq_false, decide_eq_true_eq]
  intro p hp
  have := hb p hp
  omega

def lastOf : List (Int × Int) → Option Int → Option Int
  | [], last => last
  | p :: l, _ => lastOf l (some p.2)
theorem lastOf_snoc : ∀ (l : List (Int × Int)) (q : Int × Int) (o : Option Int), lastOf (l ++ [q]) o = some q.2
  | [], _, _ => rfl
  | p :: l, q, _ => lastOf_snoc l q (some p.2)
theorem rightL_snoc : ∀ (l : List (Int × Int)) (q : Int × Int) (o : Option Int), rightL (l ++ [q]) o = (rightL l o && !badP q (lastOf l o))
  | [], q, o => by simp [rightL, lastOf]
  | p :: l, q, o => by
    simp only [List.cons_append, rightL, lastOf]
    rw [rightL_snoc l q (some p.2), Bool.and_assoc]
/-- A set's spans are right. -/
theorem rightL_spansTo (t : Nat → Bool) : ∀ n, n ≤ 200 → rightL (spansTo t n) none = true
  | 0, _ => rfl
  | n + 1, h => by
    have ih := rightL_spansTo t n (by omega)
    simp only [spansTo]
    split
    · rcases List.eq_nil_or_concat (spansTo t n) with e | ⟨l, q, e⟩
      · rw [e]
        show rightL [((n : Int), (n : Int))] none = true
        have h1 : ¬ ((n : Int) < 0) := by omega
        have h2 : ¬ (200 ≤ (n : Int)) := by omega
        simp [rightL, badP, h1, h2]
      · rw [List.concat_eq_append] at e
        obtain ⟨_, h0, h1, h3⟩ := spans_last t n l q e
        unfold stepT
        rw [e] at ih
        rw [e, List.getLast?_concat, List.dropLast_concat]
        dsimp only
        split
        · rename_i h2
          rw [rightL_snoc] at ih ⊢
          simp only [Bool.and_eq_true] at ih ⊢
          refine ⟨ih.1, ?_⟩
          have hbq := ih.2
          unfold badP at hbq ⊢
          simp only [Bool.not_eq_true', Bool.or_eq_false_iff, decide_eq_false_iff_not] at hbq ⊢
          exact ⟨⟨⟨hbq.1.1.1, by omega⟩, by omega⟩, hbq.2⟩
        · rename_i h2
          rw [rightL_snoc (l ++ [q])]
          rw [ih, lastOf_snoc]
          unfold badP
          simp only [Bool.true_and, Bool.not_eq_true', Bool.or_eq_false_iff, decide_eq_false_iff_not]
          exact ⟨⟨⟨by omega, by omega⟩, by omega⟩, by omega⟩
    · exact ih

theorem normL_congr {l m : List (Int × Int)} (h : ∀ k, k < 200 → tabOf l k = tabOf m k) : normL l = normL m := spansTo_congr 200 h
theorem normL_spansTo (t : Nat → Bool) : normL (spansTo t 200) = spansTo t 200 := spansTo_congr 200 fun k hk => by rw [tabOf_spansTo]; simp [hk]

/-- The spans of a set. -/
def S (t : Nat → Bool) : List (Int × Int) := spansTo t 200
def orT (t u : Nat → Bool) (k : Nat) : Bool := t k || u k
def andT (t u : Nat → Bool) (k : Nat) : Bool := t k && u k
def lessT (t u : Nat → Bool) (k : Nat) : Bool := t k && !u k
theorem S_congr {t u : Nat → Bool} (h : ∀ k, k < 200 → t k = u k) : S t = S u := spansTo_congr 200 h
theorem S_len (t : Nat → Bool) : (S t).length ≤ 200 := (spansTo_bound t 200).1
theorem tabOf_S (t : Nat → Bool) {k : Nat} (h : k < 200) : tabOf (S t) k = t k := by simp [S, tabOf_spansTo, h]
theorem S_nil {t : Nat → Bool} (h : ∀ k, k < 200 → t k = false) : S t = [] := by
  rw [S_congr (u := fun _ => false) h]
  have : ∀ n, spansTo (fun _ => false) n = [] := fun n => by
    induction n with
    | zero => rfl
    | succ n ih => simp [spansTo, ih]
  exact this 200

end Go.Proofs.Ytlejcjgbkbmdmaa.BH.Sp
