/-
  The document's Spans (klaxonref11), and the law's flags; span.Turns.
-/
import Derived.Test.YtlejcjgbkbmdmaaSpRight
import Derived.Deep.OwnRows
namespace Go.Proofs.Ytlejcjgbkbmdmaa.span
open Go Go.Proofs Go.RowKit
set_option maxRecDepth 10000

/-- A row of so many marks. -/
structure Marks (w : World) (M n : Nat) (t : Nat → Bool) : Prop where
  cell : ∀ k, k < n → w.cell? ⟨M, k, none⟩ = some (.bool (t k))
  free : ∀ k, w.frozen? ⟨M, k, none⟩ = false
theorem Marks.carry {w w' : World} {B M n : Nat} {t : Nat → Bool} (h : Marks w M n t) (hb : Below B w w') (hM : M < B) : Marks w' M n t :=
  ⟨fun k hk => (hb.cell (p := ⟨M, k, none⟩) hM).trans (h.cell k hk), fun k => (hb.frozen (p := ⟨M, k, none⟩) hM).trans (h.free k)⟩
theorem Marks.set {w : World} {M n k : Nat} {t : Nat → Bool} {v : Bool} (h : Marks w M n t) (hk : k < n) : Marks (w.setCell ⟨M, k, none⟩ (.bool v)) M n (fun j => if j = k then v else t j) := by
  refine ⟨fun j hj => ?_, fun j => by simpa using h.free j⟩
  by_cases e : j = k
  · subst e
    rw [if_pos rfl]
    exact World.cell?_setCell_same _ _ _ (h.cell j hj)
  · rw [if_neg e]
    exact (World.cell?_setCell_other _ _ _ _ (by simp; try omega)).trans (h.cell j hj)
theorem Marks.aside {w : World} {M N k n : Nat} {t : Nat → Bool} {v : Value} (h : Marks w M n t) (hne : N ≠ M) : Marks (w.setCell ⟨N, k, none⟩ v) M n t :=
  ⟨fun j hj => (World.cell?_setCell_other _ _ _ _ (by simp; try omega)).trans (h.cell j hj), fun j => by simpa using h.free j⟩
theorem Marks.congr {w : World} {M n : Nat} {t u : Nat → Bool} (h : Marks w M n t) (he : ∀ k, k < n → t k = u k) : Marks w M n u := ⟨fun k hk => by rw [← he k hk]; exact h.cell k hk, h.free⟩
theorem Marks.drew {w : World} {M n : Nat} {t : Nat → Bool} (h : Marks w M n t) : Marks w.drew M n t := ⟨h.cell, h.free⟩

theorem spans_last (t : Nat → Bool) : ∀ (k : Nat) (l : List (Int × Int)) (q : Int × Int), spansTo t k = l ++ [q] → t q.2.toNat = true ∧ 0 ≤ q.1 ∧ q.1 ≤ q.2 ∧ q.2 < (k : Int)
  | 0, l, q, h => by simp [spansTo] at h
  | k + 1, l, q, h => by
    simp only [spansTo] at h
    split at h
    · rename_i ht
      unfold stepT at h
      rcases List.eq_nil_or_concat (spansTo t k) with e | ⟨l', p, e⟩
      · rw [e] at h
        simp only [List.getLast?_nil, List.nil_append] at h
        have : q = ((k : Int), (k : Int)) := by
          have := congrArg List.getLast? h
          simp at this; exact this.symm
        subst this
        exact ⟨by simpa using ht, by simp, Int.le_refl _, by simp; try omega⟩
      · rw [List.concat_eq_append] at e
        have hp := spans_last t k l' p e
        rw [e, List.getLast?_concat, List.dropLast_concat] at h
        dsimp only at h
        split at h
        · have := congrArg List.getLast? h
          rw [List.getLast?_concat, List.getLast?_concat] at this
          cases this
          exact ⟨by simpa using ht, hp.2.1, by simp; try omega, by simp; try omega⟩
        · have := congrArg List.getLast? h
          rw [List.getLast?_concat, List.getLast?_concat] at this
          cases this
          exact ⟨by simpa using ht, by simp, Int.le_refl _, by simp; try omega⟩
    · obtain ⟨h1, h2, h3, h4⟩ := spans_last t k l q h
      exact ⟨h1, h2, h3, by omega⟩
theorem spans_here (t : Nat → Bool) (k : Nat) (h : t k = true) : ∃ l a, spansTo t (k + 1) = l ++ [(a, (k : Int))] := by
  simp only [spansTo, h, if_true]
  unfold stepT
  split
  · split
    · exact ⟨_, _, rfl⟩
    · exact ⟨_, _, rfl⟩
  · exact ⟨_, _, rfl⟩

theorem step_on {t : Nat → Bool} {k : Nat} {l : List (Int × Int)} {a : Int} (h : spansTo t k = l ++ [(a, (k : Int) - 1)]) : stepT (spansTo t k) k = l ++ [(a, (k : Int))] := by
  rw [h]; unfold stepT; rw [List.getLast?_concat, List.dropLast_concat]; simp
theorem step_new {t : Nat → Bool} {k : Nat} (h : k = 0 ∨ t (k - 1) = false) : stepT (spansTo t k) k = spansTo t k ++ [((k : Int), (k : Int))] := by
  unfold stepT
  rcases List.eq_nil_or_concat (spansTo t k) with e | ⟨l, q, e⟩
  · rw [e]; rfl
  · rw [List.concat_eq_append] at e
    have hq := spans_last t k l q e
    rw [e, List.getLast?_concat]
    dsimp only
    rw [if_neg]
    intro h2
    rcases h with rfl | h
    · omega
    · have : q.2.toNat = k - 1 := by omega
      rw [this, h] at hq
      cases hq.1

theorem refSpans_walk (M n cap : Nat) (t : Nat → Bool) (w : World) (ht : Marks w M n t) (hM : 0 < n → M < w.heap.size) (hn : n ≤ 100000) :
    Calls Try.prog 20 #[.slice (some ⟨M, 0, none⟩) n cap] w fun e w' => ∃ v, e = .returned v ∧ w'.ownsRow w.heap.size 26 2 v (spansTo t n).length (flat (spansTo t n)) ∧ Below w.heap.size w w' := by
  obtain ⟨i0, hi, hz0, hz1, hz2⟩ := info_parts info26
  go_enter Try.func20, Try.ntmps20
  go_wp2_with fail
  go_loopg [3, 8] n (fun g v i wr => ∃ k : Nat, k + g = n ∧ i = .int .i64 k ∧ wr.ownsRow w.heap.size 26 2 v (spansTo t k).length (flat (spansTo t k)) ∧ Below w.heap.size w wr)
  case atStart => exact ⟨0, by omega, rfl, World.ownsRow_nil _ _ _ _, Below.refl _ _⟩
  case round =>
    obtain ⟨k, hk, rfl, hown, hb⟩ := hrel
    cases gk with
    | zero =>
      have : k = n := by omega
      subst this
      go_wp2_with fail
      go_ret
      exact ⟨_, rfl, hown, hb⟩
    | succ g =>
      have hm := ht.carry hb (hM (by omega))
      have hcell := hm.cell k (by omega)
      have hbd := spansTo_bound t k
      by_cases hin : t k = true
      · have hS : spansTo t (k + 1) = stepT (spansTo t k) k := by simp only [spansTo, hin, if_true]
        rw [hin] at hcell
        by_cases hk0 : 0 < k ∧ t (k - 1) = true
        · obtain ⟨j, rfl⟩ : ∃ j, k = j + 1 := ⟨k - 1, by omega⟩
          have hj : t j = true := by simpa using hk0.2
          have hcj := hm.cell j (by omega)
          rw [hj] at hcj
          obtain ⟨l, a, hl⟩ := spans_here t j hj
          have hl' : spansTo t (j + 1) = l ++ [(a, ((j + 1 : Nat) : Int) - 1)] := by rw [hl]; simp
          rw [step_on hl'] at hS
          rw [hl] at hown
          rcases own_spans hown with ⟨_, h⟩ | ⟨b, cap', rfl, hB, hB', hc, hf⟩
          · simp at h
          · have hst := (hown.stored (l.length * 2 + 1) (.int .i64 ((j : Int) + 1))).1
            have hcq := hc l.length (a, (j : Int)) (by rw [List.getElem?_append_right (Nat.le_refl _)]; simp)
            have hfq := hf (l.length * 2 + 1)
            have hlen : (l ++ [(a, (j : Int))]).length = l.length + 1 := by simp
            rw [hlen] at hst ⊢
            have hll : l.length ≤ j + 1 := by have := hbd.1; rw [hl] at this; simp at this; omega
            clear hc hf
            have hB2 : Below w.heap.size w (wr.setCell ⟨b, l.length * 2 + 1, none⟩ (.int .i64 ((j : Int) + 1))) := hb.setCell hB _
            clear hown hb
            go_wp2_with fail
            go_roundg g
            case rel => exact ⟨j + 1 + 1, by omega, by simp, by rw [hS]; exact own_set hst rfl (by simp), hB2⟩
            case measure => omega
        · have hnew : k = 0 ∨ t (k - 1) = false := by
            by_cases h0 : k = 0
            · exact .inl h0
            · refine .inr ?_
              cases h : t (k - 1)
              · rfl
              · exact absurd ⟨by omega, h⟩ hk0
          rw [step_new hnew] at hS
          have hs := hb.size
          have hm1 : (spansTo t k).length + 1 ≤ maxLen := by have := hbd.1; unfold maxLen; omega
          have hm2 : ((spansTo t k).length + 1) * 16 ≤ 140737488355328 := by have := hbd.1; omega
          have hm3 : ∀ o, w.heap.size ≤ (wr.alloc o).heap.size := fun o => by simp; omega
          cases k with
          | zero =>
            clear hm
            go_wp2_with (at_builtin; refine wpList_append_own _ rfl _ _ 22 rfl w.heap.size 26 i0 (.agg #[.int .i64 0, .int .i64 0]) 2 16 Try.underlying22 hi hz0 hz1 hz2 rfl (by decide) _ _ _ rfl (hown.alloc _) ⟨wr.heap.size, 0, none⟩ 1 1 [.int .i64 0, .int .i64 0] rfl rfl (two_cells wr _ _ _) (two_one _ _) hm1 hm2 (hm3 _) ?_)
            intro v' w1 hown' hgrow _
            have hb' : Below w.heap.size w w1 := (hb.alloc hs _).grown hgrow (by simp; omega) (fun j hj => (hown.lt j hj).1)
            clear hgrow hown hb
            go_wp2_with fail
            go_roundg g
            case rel => exact ⟨1, by omega, by simp, by rw [hS]; exact own_step hown' (by simp), hb'⟩
            case measure => omega
          | succ j =>
            have hj : t j = false := by rcases hnew with h | h; omega; simpa using h
            have hcj := hm.cell j (by omega)
            rw [hj] at hcj
            clear hm
            go_wp2_with (at_builtin; refine wpList_append_own _ rfl _ _ 22 rfl w.heap.size 26 i0 (.agg #[.int .i64 0, .int .i64 0]) 2 16 Try.underlying22 hi hz0 hz1 hz2 rfl (by decide) _ _ _ rfl (hown.alloc _) ⟨wr.heap.size, 0, none⟩ 1 1 [.int .i64 ((j : Int) + 1), .int .i64 ((j : Int) + 1)] rfl rfl (two_cells wr _ _ _) (two_one _ _) hm1 hm2 (hm3 _) ?_)
            intro v' w1 hown' hgrow _
            have hb' : Below w.heap.size w w1 := (hb.alloc hs _).grown hgrow (by simp; omega) (fun j hj => (hown.lt j hj).1)
            clear hgrow hown hb
            go_wp2_with fail
            go_roundg g
            case rel => exact ⟨j + 1 + 1, by omega, by simp, by rw [hS]; exact own_step hown' (by simp), hb'⟩
            case measure => omega
      · have hS : spansTo t (k + 1) = spansTo t k := by simp [spansTo, hin]
        have hin' : t k = false := by simpa using hin
        rw [hin'] at hcell
        rw [← hS] at hown
        go_wp2_with fail
        go_roundg g
        case rel => exact ⟨k + 1, by omega, by simp, hown, hb⟩
        case measure => omega

end Go.Proofs.Ytlejcjgbkbmdmaa.span
