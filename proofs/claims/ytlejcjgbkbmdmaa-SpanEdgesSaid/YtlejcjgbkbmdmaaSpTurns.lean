/-
  span.Turns.
-/
import Derived.Test.YtlejcjgbkbmdmaaSpSets
namespace Go.Proofs.Ytlejcjgbkbmdmaa.span
open Go Go.Proofs Go.RowKit
set_option maxRecDepth 10000

theorem info50 : (Try.prog.info? 50).map (fun i => (i.zero, i.size, i.bytes)) = some (some (.agg #[.int .i64 0, .int .i64 0, .slice none 0 0]), 3, 40) := by kernel_rfl

/-- The state at a tick: firing, pending, or neither. -/
def stF (l m : List (Int × Int)) (k : Nat) : Int := if hasL m k then 2 else if hasL l k then 1 else 0
def prevS (l m : List (Int × Int)) : Nat → Int
  | 0 => 0
  | k + 1 => stF l m k
def turnsTo (l m : List (Int × Int)) : Nat → List (Int × Int)
  | 0 => []
  | k + 1 => if stF l m k = prevS l m k then turnsTo l m k else turnsTo l m k ++ [((k : Int), stF l m k)]
theorem turnsTo_le (l m : List (Int × Int)) : ∀ k, (turnsTo l m k).length ≤ k
  | 0 => Nat.le_refl _
  | k + 1 => by
    have := turnsTo_le l m k
    simp only [turnsTo]
    split
    · omega
    · simp; omega
def flatT : List (Int × Int) → List Value
  | [] => []
  | p :: l => .int .i64 p.1 :: .int .i64 p.2 :: .slice none 0 0 :: flatT l
theorem flatT_append (l m : List (Int × Int)) : flatT (l ++ m) = flatT l ++ flatT m := by
  induction l with
  | nil => rfl
  | cons p l ih => simp [flatT, ih]
theorem flatT_get : ∀ (l : List (Int × Int)) (i : Nat) (p : Int × Int), l[i]? = some p → (flatT l)[i * 3]? = some (.int .i64 p.1) ∧ (flatT l)[i * 3 + 1]? = some (.int .i64 p.2)
  | [], i, p, h => by cases h
  | q :: l, 0, p, h => by cases h; exact ⟨rfl, rfl⟩
  | q :: l, i + 1, p, h => by
    have := flatT_get l i p (by simpa using h)
    rw [show (i + 1) * 3 = i * 3 + 1 + 1 + 1 by omega]
    simpa [flatT] using this
theorem three_cells (w : World) (t : TypeId) (x y z : Value) : ∀ (j : Nat) (u : Value), [x, y, z][j]? = some u → (w.alloc (.cells #[x, y, z] t (0, 0))).cell? ((⟨w.heap.size, 0, none⟩ : Addr).add j) = some u := by
  intro j u hj
  match j, hj with
  | 0, hj => simp at hj; subst hj; simp [Addr.add]
  | 1, hj => simp at hj; subst hj; simp [Addr.add]
  | 2, hj => simp at hj; subst hj; simp [Addr.add]
theorem three_one (x y : Int) : ∀ u ∈ [Value.int .i64 x, Value.int .i64 y, Value.slice none 0 0], u.oneCell' = true := by
  intro u hu
  simp only [List.mem_cons, List.not_mem_nil, or_false] at hu
  rcases hu with rfl | rfl | rfl <;> rfl
theorem own_keep {w w' : World} {B : Nat} {e : TypeId} {size : Nat} {v : Value} {n : Nat} {xs : List Value} (h : w.ownsRow B e size v n xs) (hb : Below w.heap.size w w') : w'.ownsRow B e size v n xs := by
  refine ⟨h.1, h.2.imp id fun ⟨g, cap, cur, h1, h2, h3, h4⟩ => ⟨g, cap, cur, h1, h2, ?_, h4⟩⟩
  rw [hb.block g (Array.getElem?_eq_some_iff.mp h3).1]; exact h3
theorem own_stepT {w : World} {B : Nat} {v : Value} {l : List (Int × Int)} {a b : Int} {m : List (Int × Int)} (h : w.ownsRow B 50 3 v (l.length + 1) (flatT l ++ [.int .i64 a, .int .i64 b, .slice none 0 0])) (hm : m = l ++ [(a, b)]) : w.ownsRow B 50 3 v m.length (flatT m) := by
  subst hm
  rw [flatT_append, List.length_append]
  exact h

set_option maxHeartbeats 4000000 in
theorem turns_walk (ao bo : Option Addr) (l m : List (Int × Int)) (cap cap2 n : Nat) (w : World) (hl : Spn w ao l) (hm : Spn w bo m) (hnl : l.length ≤ 9223372036854775807) (hnm : m.length ≤ 9223372036854775807) (hn : n ≤ 200) :
    Calls Try.prog 23 #[.slice ao l.length cap, .slice bo m.length cap2, .int .i64 n] w fun e w' => ∃ v, e = .returned v ∧ w'.ownsRow w.heap.size 50 3 v (turnsTo l m n).length (flatT (turnsTo l m n)) ∧ Below w.heap.size w w' := by
  obtain ⟨i0, hi, hz0, hz1, hz2⟩ := info_parts info50
  have hmin : ¬ (201 < (n : Int)) := by omega
  have hmin2 : (n : Int) < 201 := by omega
  go_enter Try.func23, Try.ntmps23
  go_wp2_with fail
  go_loopg [7, 8, 13] n (fun g v s i wr => ∃ k : Nat, k + g = n ∧ i = .int .i64 k ∧ wr.ownsRow w.heap.size 50 3 v (turnsTo l m k).length (flatT (turnsTo l m k)) ∧ s = .int .i64 (prevS l m k) ∧ Below w.heap.size w wr)
  case atStart => exact ⟨0, by omega, rfl, World.ownsRow_nil _ _ _ _, rfl, Below.refl _ _⟩
  case round =>
    obtain ⟨k, hk, rfl, hown, rfl, hb⟩ := hrel
    cases gk with
    | zero =>
      have : k = n := by omega
      subst this
      go_wp2_with fail
      go_ret
      exact ⟨_, rfl, hown, hb⟩
    | succ g =>
      have hkn : (k : Int) < (n : Int) := by omega
      have hle := turnsTo_le l m k
      have hm1 : (turnsTo l m k).length + 1 ≤ maxLen := by unfold maxLen; omega
      have hq16 : ((turnsTo l m k).length + 1) * 40 ≤ 140737488355328 := by omega
      have hm2 := hm.carry hb
      cases hF : hasL m (k : Int) with
      | true =>
        have hv : stF l m k = 2 := by simp [stF, hF]
        have hpv : prevS l m (k + 1) = 2 := hv
        by_cases hd : prevS l m k = 2
        · have hT : turnsTo l m (k + 1) = turnsTo l m k := by simp [turnsTo, hv, hd]
          rw [hd]
          go_wp2_with fail
          refine (has_walk bo m cap2 k wr hm2 hnm).mono ?_
          rintro e w1 ⟨rfl, b1⟩
          rw [hF]
          have hb1 := hb.trans (b1.mono hb.size)
          have hown1 := own_keep hown b1
          have hbE := hb1
          have hownE := hown1
          clear hb hb1 hown hown1 b1
          go_wp2_with fail
          go_roundg g
          case rel => exact ⟨k + 1, by omega, by simp, by rw [hT]; exact hownE, by rw [hpv], hbE⟩
          case measure => omega
        · have hT : turnsTo l m (k + 1) = turnsTo l m k ++ [((k : Int), 2)] := by
            simp only [turnsTo, hv]; rw [if_neg (fun e => hd e.symm)]
          have hd' : ((2 : Int) == prevS l m k) = false := by simpa using fun e => hd e.symm
          go_wp2_with fail
          refine (has_walk bo m cap2 k wr hm2 hnm).mono ?_
          rintro e w1 ⟨rfl, b1⟩
          rw [hF]
          have hb1 := hb.trans (b1.mono hb.size)
          have hown1 := own_keep hown b1
          have hbE := hb1
          have hownE := hown1
          clear hb hb1 hown hown1 b1
          have hs := hbE.size
          have hm3 : ∀ o, w.heap.size ≤ (w1.alloc o).heap.size := fun o => by simp; omega
          go_wp2_with (at_builtin; refine wpList_append_own _ rfl _ _ 46 rfl w.heap.size 50 i0 (.agg #[.int .i64 0, .int .i64 0, .slice none 0 0]) 3 40 Try.underlying46 hi hz0 hz1 hz2 rfl (by decide) _ _ _ rfl (hownE.alloc _) ⟨w1.heap.size, 0, none⟩ 1 1 [.int .i64 k, .int .i64 2, .slice none 0 0] rfl rfl (three_cells w1 _ _ _ _) (three_one _ _) hm1 hq16 (hm3 _) ?_)
          intro v' w9 hown' hgrow _
          have hb' : Below w.heap.size w w9 := (hbE.alloc hs _).grown hgrow (by simp; omega) (fun j hj => (hownE.lt j hj).1)
          clear hgrow hownE hbE
          go_wp2_with fail
          go_roundg g
          case rel => exact ⟨k + 1, by omega, by simp, by rw [hT]; exact own_stepT hown' rfl, by rw [hpv], hb'⟩
          case measure => omega
      | false =>
        cases hP : hasL l (k : Int) with
        | true =>
          have hv : stF l m k = 1 := by simp [stF, hF, hP]
          have hpv : prevS l m (k + 1) = 1 := hv
          by_cases hd : prevS l m k = 1
          · have hT : turnsTo l m (k + 1) = turnsTo l m k := by simp [turnsTo, hv, hd]
            rw [hd]
            go_wp2_with fail
            refine (has_walk bo m cap2 k wr hm2 hnm).mono ?_
            rintro e w1 ⟨rfl, b1⟩
            rw [hF]
            have hb1 := hb.trans (b1.mono hb.size)
            have hown1 := own_keep hown b1
            go_wp2_with fail
            refine (has_walk ao l cap k w1 (hl.carry hb1) hnl).mono ?_
            rintro e w2 ⟨rfl, b2⟩
            rw [hP]
            have hbE := hb1.trans (b2.mono hb1.size)
            have hownE := own_keep hown1 b2
            clear hb hb1 hown hown1 b1 b2
            go_wp2_with fail
            go_roundg g
            case rel => exact ⟨k + 1, by omega, by simp, by rw [hT]; exact hownE, by rw [hpv], hbE⟩
            case measure => omega
          · have hT : turnsTo l m (k + 1) = turnsTo l m k ++ [((k : Int), 1)] := by
              simp only [turnsTo, hv]; rw [if_neg (fun e => hd e.symm)]
            have hd' : ((1 : Int) == prevS l m k) = false := by simpa using fun e => hd e.symm
            go_wp2_with fail
            refine (has_walk bo m cap2 k wr hm2 hnm).mono ?_
            rintro e w1 ⟨rfl, b1⟩
            rw [hF]
            have hb1 := hb.trans (b1.mono hb.size)
            have hown1 := own_keep hown b1
            go_wp2_with fail
            refine (has_walk ao l cap k w1 (hl.carry hb1) hnl).mono ?_
            rintro e w2 ⟨rfl, b2⟩
            rw [hP]
            have hbE := hb1.trans (b2.mono hb1.size)
            have hownE := own_keep hown1 b2
            clear hb hb1 hown hown1 b1 b2
            have hs := hbE.size
            have hm3 : ∀ o, w.heap.size ≤ (w2.alloc o).heap.size := fun o => by simp; omega
            go_wp2_with (at_builtin; refine wpList_append_own _ rfl _ _ 46 rfl w.heap.size 50 i0 (.agg #[.int .i64 0, .int .i64 0, .slice none 0 0]) 3 40 Try.underlying46 hi hz0 hz1 hz2 rfl (by decide) _ _ _ rfl (hownE.alloc _) ⟨w2.heap.size, 0, none⟩ 1 1 [.int .i64 k, .int .i64 1, .slice none 0 0] rfl rfl (three_cells w2 _ _ _ _) (three_one _ _) hm1 hq16 (hm3 _) ?_)
            intro v' w9 hown' hgrow _
            have hb' : Below w.heap.size w w9 := (hbE.alloc hs _).grown hgrow (by simp; omega) (fun j hj => (hownE.lt j hj).1)
            clear hgrow hownE hbE
            go_wp2_with fail
            go_roundg g
            case rel => exact ⟨k + 1, by omega, by simp, by rw [hT]; exact own_stepT hown' rfl, by rw [hpv], hb'⟩
            case measure => omega
        | false =>
          have hv : stF l m k = 0 := by simp [stF, hF, hP]
          have hpv : prevS l m (k + 1) = 0 := hv
          by_cases hd : prevS l m k = 0
          · have hT : turnsTo l m (k + 1) = turnsTo l m k := by simp [turnsTo, hv, hd]
            rw [hd]
            go_wp2_with fail
            refine (has_walk bo m cap2 k wr hm2 hnm).mono ?_
            rintro e w1 ⟨rfl, b1⟩
            rw [hF]
            have hb1 := hb.trans (b1.mono hb.size)
            have hown1 := own_keep hown b1
            go_wp2_with fail
            refine (has_walk ao l cap k w1 (hl.carry hb1) hnl).mono ?_
            rintro e w2 ⟨rfl, b2⟩
            rw [hP]
            have hbE := hb1.trans (b2.mono hb1.size)
            have hownE := own_keep hown1 b2
            clear hb hb1 hown hown1 b1 b2
            go_wp2_with fail
            go_roundg g
            case rel => exact ⟨k + 1, by omega, by simp, by rw [hT]; exact hownE, by rw [hpv], hbE⟩
            case measure => omega
          · have hT : turnsTo l m (k + 1) = turnsTo l m k ++ [((k : Int), 0)] := by
              simp only [turnsTo, hv]; rw [if_neg (fun e => hd e.symm)]
            have hd' : ((0 : Int) == prevS l m k) = false := by simpa using fun e => hd e.symm
            go_wp2_with fail
            refine (has_walk bo m cap2 k wr hm2 hnm).mono ?_
            rintro e w1 ⟨rfl, b1⟩
            rw [hF]
            have hb1 := hb.trans (b1.mono hb.size)
            have hown1 := own_keep hown b1
            go_wp2_with fail
            refine (has_walk ao l cap k w1 (hl.carry hb1) hnl).mono ?_
            rintro e w2 ⟨rfl, b2⟩
            rw [hP]
            have hbE := hb1.trans (b2.mono hb1.size)
            have hownE := own_keep hown1 b2
            clear hb hb1 hown hown1 b1 b2
            have hs := hbE.size
            have hm3 : ∀ o, w.heap.size ≤ (w2.alloc o).heap.size := fun o => by simp; omega
            go_wp2_with (at_builtin; refine wpList_append_own _ rfl _ _ 46 rfl w.heap.size 50 i0 (.agg #[.int .i64 0, .int .i64 0, .slice none 0 0]) 3 40 Try.underlying46 hi hz0 hz1 hz2 rfl (by decide) _ _ _ rfl (hownE.alloc _) ⟨w2.heap.size, 0, none⟩ 1 1 [.int .i64 k, .int .i64 0, .slice none 0 0] rfl rfl (three_cells w2 _ _ _ _) (three_one _ _) hm1 hq16 (hm3 _) ?_)
            intro v' w9 hown' hgrow _
            have hb' : Below w.heap.size w w9 := (hbE.alloc hs _).grown hgrow (by simp; omega) (fun j hj => (hownE.lt j hj).1)
            clear hgrow hownE hbE
            go_wp2_with fail
            go_roundg g
            case rel => exact ⟨k + 1, by omega, by simp, by rw [hT]; exact own_stepT hown' rfl, by rw [hpv], hb'⟩
            case measure => omega

end Go.Proofs.Ytlejcjgbkbmdmaa.span
