/-
  Package span: spans of a set.
-/
import Derived.Test.YtlejcjgbkbmdmaaSpPut
namespace Go.Proofs.Ytlejcjgbkbmdmaa.span
open Go Go.Proofs Go.RowKit
set_option maxRecDepth 10000

theorem info26 : (Try.prog.info? 26).map (fun i => (i.zero, i.size, i.bytes)) = some (some (.agg #[.int .i64 0, .int .i64 0]), 2, 16) := by kernel_rfl

/-- Spans, as they lie in memory. -/
def flat : List (Int × Int) → List Value
  | [] => []
  | p :: l => .int .i64 p.1 :: .int .i64 p.2 :: flat l
theorem flat_append (l m : List (Int × Int)) : flat (l ++ m) = flat l ++ flat m := by
  induction l with
  | nil => rfl
  | cons p l ih => simp [flat, ih]
theorem flat_length (l : List (Int × Int)) : (flat l).length = 2 * l.length := by
  induction l with
  | nil => rfl
  | cons p l ih => simp [flat, ih]; omega
theorem flat_get : ∀ (l : List (Int × Int)) (i : Nat) (p : Int × Int), l[i]? = some p → (flat l)[i * 2]? = some (.int .i64 p.1) ∧ (flat l)[i * 2 + 1]? = some (.int .i64 p.2)
  | [], i, p, h => by cases h
  | q :: l, 0, p, h => by cases h; exact ⟨rfl, rfl⟩
  | q :: l, i + 1, p, h => by
    have := flat_get l i p (by simpa using h)
    rw [show (i + 1) * 2 = i * 2 + 1 + 1 by omega]
    simpa [flat] using this

/-- One more tick: at the end of the last span, or a span of its own. -/
def stepT (l : List (Int × Int)) (k : Nat) : List (Int × Int) :=
  match l.getLast? with
  | some p => if p.2 = (k : Int) - 1 then l.dropLast ++ [(p.1, (k : Int))] else l ++ [((k : Int), (k : Int))]
  | none => l ++ [((k : Int), (k : Int))]
def spansTo (t : Nat → Bool) : Nat → List (Int × Int)
  | 0 => []
  | k + 1 => if t k then stepT (spansTo t k) k else spansTo t k
theorem spansTo_bound (t : Nat → Bool) : ∀ k, (spansTo t k).length ≤ k ∧ ∀ p ∈ spansTo t k, 0 ≤ p.1 ∧ p.1 < k ∧ 0 ≤ p.2 ∧ p.2 < k
  | 0 => ⟨Nat.le_refl _, fun p h => by cases h⟩
  | k + 1 => by
    obtain ⟨h1, h2⟩ := spansTo_bound t k
    have h3 : ∀ p ∈ spansTo t k, 0 ≤ p.1 ∧ p.1 < (k + 1 : Nat) ∧ 0 ≤ p.2 ∧ p.2 < (k + 1 : Nat) := fun p hp => by have := h2 p hp; omega
    simp only [spansTo]
    split
    · unfold stepT
      rcases List.eq_nil_or_concat (spansTo t k) with e | ⟨l, q, e⟩
      · rw [e]; simp; omega
      · rw [List.concat_eq_append] at e
        rw [e] at h1 h3 ⊢
        rw [List.getLast?_concat, List.dropLast_concat]
        simp only [List.length_append, List.length_cons, List.length_nil] at h1
        dsimp only
        split
        · refine ⟨by simp; omega, fun p hp => ?_⟩
          rw [List.mem_append, List.mem_singleton] at hp
          rcases hp with hp | rfl
          · exact h3 p (by simp [hp])
          · have := h3 q (by simp); dsimp only; omega
        · refine ⟨by simp; omega, fun p hp => ?_⟩
          rw [List.mem_append, List.mem_singleton] at hp
          rcases hp with hp | rfl
          · exact h3 p hp
          · dsimp only; omega
    · exact ⟨by omega, h3⟩

/-- A row of spans that the call has built: the slice, its cells. -/
theorem own_spans {w : World} {B : Nat} {v : Value} {l : List (Int × Int)} (h : w.ownsRow B 26 2 v l.length (flat l)) :
    (v = .slice none 0 0 ∧ l = []) ∨ ∃ b cap, v = .slice (some ⟨b, 0, none⟩) l.length cap ∧ B ≤ b ∧ b < w.heap.size ∧
      (∀ i p, l[i]? = some p → w.cell? ⟨b, i * 2, none⟩ = some (.int .i64 p.1) ∧ w.cell? ⟨b, i * 2 + 1, none⟩ = some (.int .i64 p.2)) ∧ ∀ i, w.frozen? ⟨b, i, none⟩ = false := by
  have h0 := h
  obtain ⟨_, ⟨rfl, h1⟩ | ⟨b, cap, cur, rfl, hg, hh, hn, hc, hs, ht⟩⟩ := h
  · exact .inl ⟨rfl, List.length_eq_zero_iff.mp h1⟩
  · refine .inr ⟨b, cap, rfl, hg, (Array.getElem?_eq_some_iff.mp hh).1, fun i p hp => ?_, h0.frozenAt⟩
    have hi := (List.getElem?_eq_some_iff.mp hp).1
    have := flat_get l i p hp
    exact ⟨(h0.cellAt (i * 2) (by omega)).trans this.1, (h0.cellAt (i * 2 + 1) (by omega)).trans this.2⟩

theorem two_cells (w : World) (t : TypeId) (x y : Value) : ∀ (j : Nat) (u : Value), [x, y][j]? = some u → (w.alloc (.cells #[x, y] t (0, 0))).cell? ((⟨w.heap.size, 0, none⟩ : Addr).add j) = some u := by
  intro j u hj
  match j, hj with
  | 0, hj => simp at hj; subst hj; simp [Addr.add]
  | 1, hj => simp at hj; subst hj; simp [Addr.add]
theorem two_one (x y : Int) : ∀ u ∈ [Value.int .i64 x, Value.int .i64 y], u.oneCell' = true := by
  intro u hu
  rcases List.mem_cons.mp hu with rfl | hu
  · rfl
  · rcases List.mem_cons.mp hu with rfl | hu
    · rfl
    · cases hu
theorem own_step {w : World} {B : Nat} {v : Value} {l : List (Int × Int)} {k : Int} {m : List (Int × Int)} (h : w.ownsRow B 26 2 v (l.length + 1) (flat l ++ [.int .i64 k, .int .i64 k])) (hm : m = l ++ [(k, k)]) : w.ownsRow B 26 2 v m.length (flat m) := by
  subst hm
  rw [flat_append, List.length_append]
  exact h

theorem own_step' {w : World} {B : Nat} {v : Value} {l : List (Int × Int)} {k : Int} {n : Nat} {m : List (Int × Int)} (hn : l.length = n) (h : w.ownsRow B 26 2 v (n + 1) (flat l ++ [.int .i64 k, .int .i64 k])) (hm : m = l ++ [(k, k)]) : w.ownsRow B 26 2 v m.length (flat m) := by
  subst hn; exact own_step h hm
theorem own_set {w : World} {B : Nat} {v : Value} {l l' : List (Int × Int)} {q : Int × Int} {k : Int} {m : List (Int × Int)} (h : w.ownsRow B 26 2 v (l'.length + 1) ((flat l).set (l'.length * 2 + 1) (.int .i64 k))) (hq : l = l' ++ [q]) (hm : m = l' ++ [(q.1, k)]) : w.ownsRow B 26 2 v m.length (flat m) := by
  subst hm hq
  rw [flat_append] at h ⊢
  rw [List.length_append]
  have e : (flat l' ++ flat [q]).set (l'.length * 2 + 1) (.int .i64 k) = flat l' ++ flat [(q.1, k)] := by
    rw [List.set_append, if_neg (by rw [flat_length]; omega), flat_length]
    rw [show l'.length * 2 + 1 - 2 * l'.length = 1 by omega]
    rfl
  rwa [e] at h

theorem own_dN {w : World} {base : Nat} {e : TypeId} {size : Nat} {v : Value} {n : Nat} {xs : List Value} (h : w.ownsRow base e size v n xs) (q : Nat) : (w.drewN q).ownsRow base e size v n xs := h
theorem below_dN {B : Nat} {w w' : World} (h : Below B w w') (q : Nat) : Below B w (w'.drewN q) := h.trans ⟨rfl, rfl, rfl, Nat.le_refl _, fun _ _ => rfl⟩

theorem spans_walk (M : Nat) (t : Nat → Bool) (w : World) (ht : Tab w M t) :
    Calls Try.prog 26 #[.pointer (some ⟨M, 0, none⟩)] w fun e w' => ∃ v, e = .returned v ∧ w'.ownsRow w.heap.size 26 2 v (spansTo t 200).length (flat (spansTo t 200)) ∧ Below w.heap.size w w' := by
  obtain ⟨i0, hi, hz0, hz1, hz2⟩ := info_parts info26
  have hlt := ht.lt
  go_enter Try.func26, Try.ntmps26
  go_wp2; go_step3; go_wp2; go_step3; go_wp2
  go_loopg [3, 8] 200 (fun g v i wr => ∃ k : Nat, k + g = 200 ∧ i = .int .i64 k ∧ wr.ownsRow w.heap.size 26 2 v (spansTo t k).length (flat (spansTo t k)) ∧ Below w.heap.size w wr)
  case atStart => exact ⟨0, rfl, rfl, World.ownsRow_nil _ _ _ _, Below.refl _ _⟩
  case round =>
    obtain ⟨k, hk, rfl, hown, hb⟩ := hrel
    cases gk with
    | zero =>
      have : k = 200 := by omega
      subst this
      go_wp2_with fail
      go_ret
      exact ⟨_, rfl, hown, hb⟩
    | succ g =>
      have hcell := (ht.carry hb hlt).cell k (by omega)
      have hbd := spansTo_bound t k
      by_cases hin : t k = true
      · have hS : spansTo t (k + 1) = stepT (spansTo t k) k := by simp only [spansTo, hin, if_true]
        rw [hin] at hcell
        generalize spansTo t k = l at hown hS hbd
        have hm1 : l.length + 1 ≤ maxLen := by unfold maxLen; omega
        have hm2 : (l.length + 1) * 16 ≤ 140737488355328 := by omega
        go_wp2_with fail
        go_quiet (fail)
        have hown := own_dN hown nq
        have hb := below_dN hb nq
        generalize wr.drewN nq = wq at hown hb ⊢
        have hs := hb.size
        have hm3 : ∀ o, w.heap.size ≤ (wq.alloc o).heap.size := fun o => by simp; omega
        rcases own_spans hown with ⟨rfl, rfl⟩ | ⟨b, cap, rfl, hB, hB', hc, hf⟩
        · go_wp2_with (at_builtin; refine wpList_append_own _ rfl _ _ 22 rfl w.heap.size 26 i0 (.agg #[.int .i64 0, .int .i64 0]) 2 16 Try.underlying22 hi hz0 hz1 hz2 rfl (by decide) _ _ _ rfl (hown.alloc _) ⟨wq.heap.size, 0, none⟩ 1 1 [.int .i64 k, .int .i64 k] rfl rfl (two_cells wq _ _ _) (two_one _ _) hm1 hm2 (hm3 _) ?_)
          intro v' w1 hown' hgrow _
          have hb' : Below w.heap.size w w1 := (hb.alloc (by simpa using hs) _).grown hgrow (by simp; omega) (fun j hj => (hown.lt j hj).1)
          clear hgrow hown hb
          go_wp2_with fail
          go_roundg g
          case rel => exact ⟨k + 1, by omega, by simp, by rw [hS]; exact own_step hown' rfl, hb'⟩
          case measure => omega
        · rcases List.eq_nil_or_concat l with rfl | ⟨l', q, hq⟩
          · go_wp2_with (at_builtin; refine wpList_append_own _ rfl _ _ 22 rfl w.heap.size 26 i0 (.agg #[.int .i64 0, .int .i64 0]) 2 16 Try.underlying22 hi hz0 hz1 hz2 rfl (by decide) _ _ _ rfl (hown.alloc _) ⟨wq.heap.size, 0, none⟩ 1 1 [.int .i64 k, .int .i64 k] rfl rfl (two_cells wq _ _ _) (two_one _ _) hm1 hm2 (hm3 _) ?_)
            intro v' w1 hown' hgrow _
            have hb' : Below w.heap.size w w1 := (hb.alloc (by simpa using hs) _).grown hgrow (by simp; omega) (fun j hj => (hown.lt j hj).1)
            clear hgrow hown hb
            go_wp2_with fail
            go_roundg g
            case rel => exact ⟨k + 1, by omega, by simp, by rw [hS]; exact own_step hown' rfl, hb'⟩
            case measure => omega
          · rw [List.concat_eq_append] at hq
            have hq1 := hbd.2 q (by rw [hq]; simp)
            have hlen : l.length = l'.length + 1 := by rw [hq]; simp
            have hcq := hc l'.length q (by rw [hq]; simp)
            have hfq := hf (l'.length * 2 + 1)
            rw [hlen] at hown hm1 hm2
            rw [hlen]
            clear hc hf
            by_cases h2 : q.2 = (k : Int) - 1
            · rw [h2] at hcq
              have hst := (hown.stored (l'.length * 2 + 1) (.int .i64 k)).1
              have hb' : Below w.heap.size w (wq.setCell ⟨b, l'.length * 2 + 1, none⟩ (.int .i64 k)) := hb.setCell hB _
              have hL : stepT l k = l' ++ [(q.1, (k : Int))] := by rw [hq]; unfold stepT; rw [List.getLast?_concat, List.dropLast_concat]; simp only; rw [if_pos h2]
              go_wp2_with fail
              go_roundg g
              case rel => exact ⟨k + 1, by omega, by simp, by rw [hS]; exact own_set hst hq hL, hb'⟩
              case measure => omega
            · have h2' : (q.2 == (k : Int) - 1) = false := by simpa using h2
              have hL : stepT l k = l ++ [((k : Int), (k : Int))] := by rw [hq]; unfold stepT; rw [List.getLast?_concat]; simp only; rw [if_neg h2]
              go_wp2_with (at_builtin; refine wpList_append_own _ rfl _ _ 22 rfl w.heap.size 26 i0 (.agg #[.int .i64 0, .int .i64 0]) 2 16 Try.underlying22 hi hz0 hz1 hz2 rfl (by decide) _ _ _ rfl (hown.alloc _) ⟨wq.heap.size, 0, none⟩ 1 1 [.int .i64 k, .int .i64 k] rfl rfl (two_cells wq _ _ _) (two_one _ _) hm1 hm2 (hm3 _) ?_)
              intro v' w1 hown' hgrow _
              have hb' : Below w.heap.size w w1 := (hb.alloc (by simpa using hs) _).grown hgrow (by simp; omega) (fun j hj => (hown.lt j hj).1)
              clear hgrow hown hb
              go_wp2_with fail
              go_roundg g
              case rel => exact ⟨k + 1, by omega, by simp, by rw [hS]; exact own_step' hlen (by rw [hq]; exact hown') hL, hb'⟩
              case measure => omega
      · have hS : spansTo t (k + 1) = spansTo t k := by simp [spansTo, hin]
        have hin' : t k = false := by simpa using hin
        rw [hin'] at hcell
        rw [← hS] at hown
        go_wp2_with fail
        go_quiet (fail)
        go_wp2_with fail
        go_roundg g
        case rel => exact ⟨k + 1, by omega, by simp, own_dN hown nq, below_dN hb nq⟩
        case measure => omega

end Go.Proofs.Ytlejcjgbkbmdmaa.span
