/-
  Spans of many ticks: the plain law (no program in sight).
-/
import Derived.Test.YtlejcjgbkbmdmaaBhSpT
import Derived.Test.YtlejcjgbkbmdmaaBhW9
namespace Go.Proofs.Ytlejcjgbkbmdmaa.BH.Sp

def distI (l : List Int) : List Int := l.foldl addI []
theorem distI_snoc (l : List Int) (x : Int) : addI (distI l) x = distI (l ++ [x]) := by simp [distI]
theorem mem_addI {d : List Int} {x y : Int} : y ∈ addI d x ↔ y ∈ d ∨ y = x := by
  unfold addI
  split
  · rename_i h
    exact ⟨.inl, fun hh => hh.elim id fun e => e ▸ h⟩
  · simp
theorem mem_fold {x : Int} : ∀ (l acc : List Int), x ∈ l.foldl addI acc ↔ x ∈ acc ∨ x ∈ l
  | [], acc => by simp
  | y :: r, acc => by rw [List.foldl_cons, mem_fold r, mem_addI, List.mem_cons, or_assoc]
theorem mem_distI {l : List Int} {x : Int} : x ∈ distI l ↔ x ∈ l := by simp [distI, mem_fold]
theorem nodup_addI {d : List Int} {x : Int} (h : d.Nodup) : (addI d x).Nodup := by
  unfold addI
  split
  · exact h
  · rename_i hx
    rw [List.nodup_append]
    exact ⟨h, by simp, fun a ha b hb => by simp at hb; subst hb; rintro rfl; exact hx ha⟩
theorem nodup_fold : ∀ (l acc : List Int), acc.Nodup → (l.foldl addI acc).Nodup
  | [], _, h => h
  | _ :: r, _, h => nodup_fold r _ (nodup_addI h)
theorem nodup_distI (l : List Int) : (distI l).Nodup := nodup_fold l [] List.nodup_nil

theorem tab_ones (l : List Int) (k : Nat) : tabOf (ones l) k = decide ((k : Int) ∈ l) := by
  rw [Bool.eq_iff_iff]
  simp only [tabOf, ones, List.any_map, List.any_eq_true, Function.comp, decide_eq_true_eq]
  constructor
  · rintro ⟨x, hx, h⟩
    rw [show (k : Int) = x by omega]; exact hx
  · intro h; exact ⟨_, h, by omega, by omega⟩

theorem ticks_count (t : Nat → Bool) : ∀ n, (ticksTo t n).length = (List.range n).countP t
  | 0 => rfl
  | n + 1 => by
    rw [List.range_succ, List.countP_append, ← ticks_count t n]
    simp only [ticksTo, List.countP_cons, List.countP_nil]
    split <;> rename_i h <;> simp [h]
theorem count_or {p q : Nat → Bool} : ∀ l : List Nat, l.countP (fun k => p k || q k) + l.countP (fun k => p k && q k) = l.countP p + l.countP q
  | [] => rfl
  | a :: r => by
    have := count_or (p := p) (q := q) r
    simp only [List.countP_cons]
    cases p a <;> cases q a <;> simp <;> omega
theorem count_less {p q : Nat → Bool} : ∀ l : List Nat, l.countP (fun k => p k && !q k) + l.countP (fun k => p k && q k) = l.countP p
  | [] => rfl
  | a :: r => by
    have := count_less (p := p) (q := q) r
    simp only [List.countP_cons]
    cases p a <;> cases q a <;> simp <;> omega
theorem count_one {x : Int} (h0 : 0 ≤ x) : ∀ n : Nat, (List.range n).countP (fun k : Nat => decide ((k : Int) = x)) = if x < n then 1 else 0
  | 0 => by rw [if_neg (by omega)]; rfl
  | n + 1 => by
    rw [List.range_succ, List.countP_append, count_one h0 n]
    simp only [List.countP_cons, List.countP_nil]
    by_cases h : (n : Int) = x
    · simp [h]; omega
    · simp only [h, decide_false]
      by_cases h2 : x < n
      · have h3 : x < ((n + 1 : Nat) : Int) := by omega
        rw [if_pos h2, if_pos h3]; rfl
      · have h3 : ¬ x < ((n + 1 : Nat) : Int) := by omega
        rw [if_neg h2, if_neg h3]; rfl
theorem count_dist {n : Nat} : ∀ {d : List Int}, d.Nodup → (∀ x ∈ d, 0 ≤ x ∧ x < n) → (List.range n).countP (fun k : Nat => decide ((k : Int) ∈ d)) = d.length
  | [], _, _ => by simp
  | x :: r, hd, hin => by
    rw [List.nodup_cons] at hd
    have ih := count_dist hd.2 fun y hy => hin y (List.mem_cons_of_mem _ hy)
    have h1 := count_or (p := fun k : Nat => decide ((k : Int) = x)) (q := fun k : Nat => decide ((k : Int) ∈ r)) (List.range n)
    rw [ih, count_one (hin x List.mem_cons_self).1 n, if_pos (hin x List.mem_cons_self).2] at h1
    have h2 : (List.range n).countP (fun k : Nat => decide ((k : Int) = x) && decide ((k : Int) ∈ r)) = 0 := by
      rw [List.countP_eq_zero]
      intro k _
      simp only [Bool.and_eq_true, decide_eq_true_eq, not_and]
      rintro rfl; exact hd.1
    have h3 : (fun k : Nat => decide ((k : Int) ∈ x :: r)) = fun k : Nat => decide ((k : Int) = x) || decide ((k : Int) ∈ r) := by
      funext k; rw [Bool.eq_iff_iff]; simp
    rw [h3, List.length_cons]
    omega

theorem many1 (own : List Int) (c : Nat) : normL (ones (own.drop c ++ own.take c)) = normL (ones own) := normL_congr fun k _ => by
  rw [tab_ones, tab_ones]
  congr 1
  apply propext
  conv => rhs; rw [← List.take_append_drop c own]
  rw [List.mem_append, List.mem_append]; exact Or.comm
theorem tab_norm (l : List (Int × Int)) {k : Nat} (h : k < 200) : tabOf (normL l) k = tabOf l k := by simp [normL, tabOf_spansTo, h]
theorem many2 (own : List Int) (c : Nat) : normL [normL (ones (own.take c)), normL (ones (own.drop c))].flatten = normL (ones own) := normL_congr fun k hk => by
  simp only [List.flatten_cons, List.flatten_nil, List.append_nil, tabOf_append, tab_norm _ hk]
  rw [tab_ones, tab_ones, tab_ones, Bool.eq_iff_iff]
  conv => rhs; rw [← List.take_append_drop c own]
  simp only [List.mem_append, Bool.or_eq_true, decide_eq_true_eq]
theorem count_S (X : Nat → Bool) : countL (S X) = (List.range 200).countP X := by unfold countL; rw [ticks_S, ticks_count]
theorem norm_ones' (own : List Int) : normL (ones own) = S (fun k => decide ((k : Int) ∈ own)) := spansTo_congr 200 fun k _ => tab_ones own k
/-- A tick: is it one of these? -/
def T (own : List Int) (k : Nat) : Bool := decide ((k : Int) ∈ own)
theorem many3 {own : List Int} (h : ∀ x ∈ own, 0 ≤ x ∧ x ≤ 199) : countL (S (T own)) = (distI own).length := by
  rw [count_S, ← count_dist (n := 200) (nodup_distI own) fun x hx => by have := h x (mem_distI.mp hx); omega]
  have e : T own = fun k : Nat => decide ((k : Int) ∈ distI own) := by
    funext k
    rw [Bool.eq_iff_iff]; simp [T, mem_distI]
  rw [e]
theorem many4 {own : List Int} (h : ∀ x ∈ own, 0 ≤ x ∧ x ≤ 199) (t : Int) : hasL (S (T own)) t = decide (t ∈ distI own) := by
  by_cases h1 : t < 0
  · rw [has_S_neg _ h1]
    exact (decide_eq_false fun hh => by have := h t (mem_distI.mp hh); omega).symm
  · by_cases h2 : 200 ≤ t
    · rw [has_S_big _ h2]
      exact (decide_eq_false fun hh => by have := h t (mem_distI.mp hh); omega).symm
    · rw [has_S _ (by omega)]
      have e : ((t.toNat : Nat) : Int) = t := by omega
      rw [Bool.eq_iff_iff]; simp [T, mem_distI, e]
theorem many5 (X Y : Nat → Bool) : countL (normL [S X, S Y].flatten) + countL (bothL (S X) (S Y)) = countL (S X) + countL (S Y) := by
  rw [join_S, both_S, count_S, count_S, count_S, count_S]; exact count_or _
theorem many6 (X Y : Nat → Bool) : countL (lessL (S X) (S Y)) + countL (bothL (S X) (S Y)) = countL (S X) := by
  rw [less_S, both_S, count_S, count_S, count_S]; exact count_less _
theorem norm_ones (own : List Int) : normL (ones own) = S (T own) := norm_ones' own
theorem countL_le (l : List (Int × Int)) : countL l ≤ 200 := ticksTo_le _ 200

def ownL (a : List Int) (k : Nat) : List Int := (a.take k).map fun x => withinV x 0 199
theorem ownL_next {a : List Int} {k : Nat} {x : Int} (hx : a[k]? = some x) : (ownL a k).flatMap eI ++ [.int .i64 (withinV x 0 199)] = (ownL a (k + 1)).flatMap eI := by
  unfold ownL
  rw [take_one hx]; simp [eI]
theorem ownL_len {a : List Int} {k : Nat} {x : Int} (hx : a[k]? = some x) : (ownL a k).length + 1 = (ownL a (k + 1)).length := by
  unfold ownL
  rw [take_one hx]; simp
theorem ownL_le (a : List Int) (k : Nat) : (ownL a k).length ≤ k := by simp [ownL]; omega
theorem ownL_in (a : List Int) (k : Nat) : ∀ x ∈ ownL a k, 0 ≤ x ∧ x ≤ 199 := by
  intro x hx
  obtain ⟨y, _, rfl⟩ := List.mem_map.mp hx
  exact withinV_in y 0 199 (by omega)
end Go.Proofs.Ytlejcjgbkbmdmaa.BH.Sp
