/-
  SpanEdges: the law's own walk.
-/
import Derived.Test.YtlejcjgbkbmdmaaSpSpanTurns
namespace Go.Proofs.Ytlejcjgbkbmdmaa.span
open Go Go.Proofs Go.RowKit Go.Proofs.Ytlejcjgbkbmdmaa.AH
set_option maxRecDepth 10000

def ivT (a b k : Nat) : Bool := decide (a ≤ k ∧ k ≤ b)
def upTo (a m : Nat) : List Int := (List.range m).map fun i => ((a + i : Nat) : Int)
theorem upTo_len (a m : Nat) : (upTo a m).length = m := by simp [upTo]
theorem upTo_succ (a m : Nat) : upTo a (m + 1) = upTo a m ++ [((a + m : Nat) : Int)] := by simp [upTo, List.range_succ]

theorem spansTo_iv {a b : Nat} (h : a ≤ b) : ∀ n, spansTo (ivT a b) n = if n ≤ a then [] else [((a : Int), ((min (n - 1) b : Nat) : Int))]
  | 0 => by simp [spansTo]
  | n + 1 => by
    have ih := spansTo_iv h n
    simp only [spansTo]
    rw [ih]
    by_cases h1 : n < a
    · have e : ivT a b n = false := by unfold ivT; rw [decide_eq_false_iff_not]; omega
      rw [e, if_neg (by simp), if_pos (by omega), if_pos (by omega)]
    · by_cases h2 : n ≤ b
      · have e : ivT a b n = true := by unfold ivT; rw [decide_eq_true_eq]; omega
        rw [e, if_pos rfl, if_neg (show ¬ n + 1 ≤ a by omega), show n + 1 - 1 = n by omega, Nat.min_eq_left h2]
        by_cases h3 : n = a
        · subst h3; rw [if_pos (Nat.le_refl _)]; rfl
        · rw [if_neg (by omega), Nat.min_eq_left (by omega)]
          unfold stepT
          simp only [List.getLast?_singleton, List.dropLast_singleton, List.nil_append]
          rw [if_pos (by omega)]
      · have e : ivT a b n = false := by unfold ivT; rw [decide_eq_false_iff_not]; omega
        rw [e, if_neg (by simp), if_neg (show ¬ n ≤ a by omega), if_neg (show ¬ n + 1 ≤ a by omega), Nat.min_eq_right (by omega), Nat.min_eq_right (by omega)]
theorem S_iv {a b : Nat} (h : a ≤ b) (hb : b < 200) : S (ivT a b) = [((a : Int), (b : Int))] := by
  unfold S
  rw [spansTo_iv h, if_neg (by omega), Nat.min_eq_right (by omega)]
theorem tabOf_iv (a b k : Nat) : tabOf [((a : Int), (b : Int))] k = ivT a b k := by
  simp only [tabOf, List.any_cons, List.any_nil, Bool.or_false, ivT]
  rw [Bool.eq_iff_iff, decide_eq_true_eq, decide_eq_true_eq]; omega
theorem ticksTo_congr {t u : Nat → Bool} : ∀ n, (∀ k, k < n → t k = u k) → ticksTo t n = ticksTo u n
  | 0, _ => rfl
  | n + 1, h => by
    simp only [ticksTo]
    rw [ticksTo_congr n (fun k hk => h k (by omega)), h n (by omega)]
theorem ticksTo_iv {a b : Nat} : ∀ n, ticksTo (ivT a b) n = upTo a (min n (b + 1) - a)
  | 0 => by simp [ticksTo, upTo]
  | n + 1 => by
    have ih := ticksTo_iv (a := a) (b := b) n
    simp only [ticksTo]
    by_cases e : a ≤ n ∧ n ≤ b
    · rw [if_pos (show ivT a b n = true by unfold ivT; rw [decide_eq_true_eq]; exact e), ih, Nat.min_eq_left (by omega), Nat.min_eq_left (by omega), show n + 1 - a = (n - a) + 1 by omega, upTo_succ]
      congr 3; omega
    · rw [if_neg (show ¬ ivT a b n = true by unfold ivT; rw [decide_eq_true_eq]; exact e), ih]
      congr 1; omega
theorem ticks_iv {a b : Nat} (hb : b < 200) : ticksTo (tabOf [((a : Int), (b : Int))]) 200 = upTo a (b + 1 - a) := by
  rw [ticksTo_congr 200 (fun k _ => tabOf_iv a b k), ticksTo_iv, Nat.min_eq_right (by omega)]
theorem norm_ones {a b : Nat} (h : a ≤ b) (hb : b < 200) : normL (ones (upTo a (b + 1 - a))) = [((a : Int), (b : Int))] := by
  rw [← S_iv h hb]
  refine spansTo_congr 200 fun k _ => ?_
  simp only [tabOf, ones, upTo, List.map_map, List.any_map]
  rw [Bool.eq_iff_iff]
  simp only [List.any_eq_true, List.mem_range, Function.comp, decide_eq_true_eq, ivT]
  constructor
  · rintro ⟨i, h1, h2⟩; omega
  · intro h1; exact ⟨k - a, by omega, by omega⟩
theorem norm_out : normL (ones [-1, 200]) = [] := by
  have : normL (ones [-1, 200]) = S (fun _ => false) := spansTo_congr 200 fun k hk => by
    simp only [tabOf, ones, List.map_cons, List.map_nil, List.any_cons, List.any_nil, Bool.or_false]
    rw [Bool.or_eq_false_iff, decide_eq_false_iff_not, decide_eq_false_iff_not]; omega
  rw [this]; exact S_nil fun _ _ => rfl

theorem turns_iv {l m : List (Int × Int)} {a b : Nat} {s : Int} (hs : s ≠ 0) (hab : a ≤ b) (h : ∀ k : Nat, stF l m k = if a ≤ k ∧ k ≤ b then s else 0) : ∀ K,
    turnsTo l m K = if K ≤ a then [] else if K ≤ b + 1 then [((a : Int), s)] else [((a : Int), s), (((b + 1 : Nat) : Int), 0)]
  | 0 => by simp [turnsTo]
  | K + 1 => by
    have ih := turns_iv hs hab h K
    have hp : prevS l m K = if a + 1 ≤ K ∧ K ≤ b + 1 then s else 0 := by
      cases K with
      | zero => simp [prevS]
      | succ j =>
        show stF l m j = _
        rw [h j]
        by_cases e : a ≤ j ∧ j ≤ b
        · rw [if_pos e, if_pos (by omega)]
        · rw [if_neg e, if_neg (by omega)]
    simp only [turnsTo]
    rw [ih, hp, h K]
    by_cases h1 : K < a
    · rw [if_neg (show ¬ (a ≤ K ∧ K ≤ b) by omega), if_neg (show ¬ (a + 1 ≤ K ∧ K ≤ b + 1) by omega), if_pos rfl, if_pos (by omega), if_pos (by omega)]
    · by_cases h2 : K = a
      · subst h2
        rw [if_pos (show K ≤ K ∧ K ≤ b by omega), if_neg (show ¬ (K + 1 ≤ K ∧ K ≤ b + 1) by omega), if_neg hs, if_pos (Nat.le_refl _), if_neg (by omega), if_pos (by omega)]
        rfl
      · by_cases h3 : K ≤ b
        · rw [if_pos (show a ≤ K ∧ K ≤ b by omega), if_pos (show a + 1 ≤ K ∧ K ≤ b + 1 by omega), if_pos rfl, if_neg (show ¬ K ≤ a by omega), if_pos (show K ≤ b + 1 by omega), if_neg (show ¬ K + 1 ≤ a by omega), if_pos (show K + 1 ≤ b + 1 by omega)]
        · by_cases h4 : K = b + 1
          · subst h4
            rw [if_neg (show ¬ (a ≤ b + 1 ∧ b + 1 ≤ b) by omega), if_pos (show a + 1 ≤ b + 1 ∧ b + 1 ≤ b + 1 by omega), if_neg (fun e => hs e.symm), if_neg (show ¬ b + 1 ≤ a by omega), if_pos (Nat.le_refl _), if_neg (show ¬ b + 1 + 1 ≤ a by omega), if_neg (show ¬ b + 1 + 1 ≤ b + 1 by omega)]
            rfl
          · rw [if_neg (show ¬ (a ≤ K ∧ K ≤ b) by omega), if_neg (show ¬ (a + 1 ≤ K ∧ K ≤ b + 1) by omega), if_pos rfl, if_neg (show ¬ K ≤ a by omega), if_neg (show ¬ K ≤ b + 1 by omega), if_neg (show ¬ K + 1 ≤ a by omega), if_neg (show ¬ K + 1 ≤ b + 1 by omega)]
theorem hasL_one (a b k : Nat) : hasL [((a : Int), (b : Int))] k = decide (a ≤ k ∧ k ≤ b) := tabOf_iv a b k
theorem st_fire (a b k : Nat) : stF [] [((a : Int), (b : Int))] k = if a ≤ k ∧ k ≤ b then 2 else 0 := by
  unfold stF; rw [hasL_one]; by_cases h : a ≤ k ∧ k ≤ b <;> simp [h, hasL]
theorem st_pend (a b k : Nat) : stF [((a : Int), (b : Int))] [] k = if a ≤ k ∧ k ≤ b then 1 else 0 := by
  unfold stF; rw [hasL_one]; by_cases h : a ≤ k ∧ k ≤ b <;> simp [h, hasL]
theorem turns_none : ∀ K, turnsTo [] [] K = []
  | 0 => rfl
  | K + 1 => by
    have hp : prevS [] [] K = 0 := by cases K <;> rfl
    simp only [turnsTo, hp, turns_none K]
    rfl

theorem spn_one {w : World} {p : Int × Int} (h1 : -1000 ≤ p.1 ∧ p.1 ≤ 1000) (h2 : -1000 ≤ p.2 ∧ p.2 ≤ 1000) : Spn (w.alloc (.cells #[.int .i64 p.1, .int .i64 p.2] 26)) (some ⟨w.heap.size, 0, none⟩) [p] := by
  refine ⟨fun _ => ⟨w.heap.size, 0, rfl, by simp, fun i q hq => ?_⟩, fun q hq => ?_⟩
  · rw [Nat.zero_add, World.cell?_alloc_new, World.cell?_alloc_new]
    match i, hq with
    | 0, hq => cases hq; exact ⟨rfl, rfl⟩
  · rw [List.mem_singleton] at hq; subst hq; omega
theorem spn_two {w : World} {p q : Int × Int} (h1 : -1000 ≤ p.1 ∧ p.1 ≤ 1000) (h2 : -1000 ≤ p.2 ∧ p.2 ≤ 1000) (h3 : -1000 ≤ q.1 ∧ q.1 ≤ 1000) (h4 : -1000 ≤ q.2 ∧ q.2 ≤ 1000) : Spn (w.alloc (.cells #[.int .i64 p.1, .int .i64 p.2, .int .i64 q.1, .int .i64 q.2] 26)) (some ⟨w.heap.size, 0, none⟩) [p, q] := by
  refine ⟨fun _ => ⟨w.heap.size, 0, rfl, by simp, fun i r hr => ?_⟩, fun r hr => ?_⟩
  · rw [Nat.zero_add, World.cell?_alloc_new, World.cell?_alloc_new]
    match i, hr with
    | 0, hr => cases hr; exact ⟨rfl, rfl⟩
    | 1, hr => cases hr; exact ⟨rfl, rfl⟩
  · simp only [List.mem_cons, List.not_mem_nil, or_false] at hr
    rcases hr with rfl | rfl <;> omega
theorem nums_two (w : World) : Nums (w.alloc (.cells #[.int .i64 (-1), .int .i64 200] 3)) (some ⟨w.heap.size, 0, none⟩) [-1, 200] := by
  refine ⟨fun _ => ⟨w.heap.size, 0, rfl, by simp, fun i q hq => ?_⟩, fun q hq => ?_⟩
  · rw [Nat.zero_add, World.cell?_alloc_new]
    match i, hq with
    | 0, hq => cases hq; rfl
    | 1, hq => cases hq; rfl
  · simp only [List.mem_cons, List.not_mem_nil, or_false] at hq
    rcases hq with rfl | rfl <;> omega
theorem spn_none {w : World} {ao : Option Addr} : Spn w ao [] := ⟨fun h => absurd rfl h, fun p hp => by cases hp⟩
theorem own_nums {w : World} {B : Nat} {v : Value} {l : List Int} (h : w.ownsRow B 3 1 v l.length (numsV l)) (hl : ∀ x ∈ l, -1000 ≤ x ∧ x ≤ 1000) : ∃ ao cap, v = .slice ao l.length cap ∧ Nums w ao l := by
  have wf : ∀ x ∈ l, -9223372036854775808 ≤ x ∧ x ≤ 9223372036854775807 := fun x hx => by have := hl x hx; omega
  have h0 := h
  obtain ⟨_, ⟨rfl, h1⟩ | ⟨b, cap, cur, rfl, hg, hh, hn, hc, hs, ht⟩⟩ := h
  · have : l = [] := List.length_eq_zero_iff.mp h1
    subst this
    exact ⟨none, 0, rfl, ⟨fun h => absurd rfl h, wf⟩⟩
  · refine ⟨_, cap, rfl, ⟨fun _ => ⟨b, 0, rfl, (Array.getElem?_eq_some_iff.mp hh).1, fun i x hx => ?_⟩, wf⟩⟩
    have hi := (List.getElem?_eq_some_iff.mp hx).1
    rw [Nat.zero_add, h0.cellAt i (by omega)]
    simp [numsV, hx]
theorem upTo_in {a m : Nat} (h : a + m ≤ 1000) : ∀ x ∈ upTo a m, -1000 ≤ x ∧ x ≤ 1000 := by
  intro x hx
  simp only [upTo, List.mem_map, List.mem_range] at hx
  obtain ⟨i, hi, rfl⟩ := hx
  omega

theorem right_bad {w : World} {ao : Option Addr} {cap : Nat} {L : List (Int × Int)} (hl : Spn w ao L) (hn : L.length ≤ 2) (h : rightL L none = false) :
    Calls Try.prog 16 #[.slice ao L.length cap] w fun e w' => e = .returned (.bool false) ∧ Below w.heap.size w w' := by
  have hw := right_walk ao L cap w hl (by omega)
  rwa [h] at hw

theorem spanL_of {L : List (Int × Int)} {w w' : World} {e : Ending} (h : ∃ v, e = .returned v ∧ w'.ownsRow w.heap.size 26 2 v L.length (flat L) ∧ Below w.heap.size w w') (hL : ∀ p ∈ L, 0 ≤ p.1 ∧ p.1 < 1000 ∧ 0 ≤ p.2 ∧ p.2 < 1000) :
    ∃ ao cap, e = .returned (.slice ao L.length cap) ∧ Spn w' ao L ∧ Below w.heap.size w w' := by
  obtain ⟨v, rfl, hown, hb⟩ := h
  obtain ⟨ao, cap, rfl, hs⟩ := own_spn hown hL
  exact ⟨ao, cap, rfl, hs, hb⟩

set_option maxHeartbeats 10000000 in
theorem spanEdges_walk (x y n : Int) (w : World) :
    Calls Try.prog 8 #[.int .i64 x, .int .i64 y, .int .i64 n] w fun e w' => e = .returned (.bool true) ∧ Old w w' := by
  obtain ⟨i0, hi, hz0, hz1, hz2⟩ := info_parts info3
  go_enter Try.func8, Try.ntmps8
  go_wp2_with fail
  have hb := Below.refl w.heap.size w
  refine (within_walk x 0 199 w (by omega) (by omega) (by omega)).mono ?_
  rintro e w1 ⟨rfl, rfl⟩
  have ha := withinV_in x 0 199 (by omega)
  obtain ⟨a, hA⟩ : ∃ a : Nat, withinV x 0 199 = a := ⟨(withinV x 0 199).toNat, by omega⟩
  rw [hA] at ha ⊢
  go_wp2_with fail
  refine (within_walk y a 199 w1 (by omega) (by omega) (by omega)).mono ?_
  rintro e w1 ⟨rfl, rfl⟩
  have hbb := withinV_in y a 199 (by omega)
  obtain ⟨b, hB⟩ : ∃ b : Nat, withinV y a 199 = b := ⟨(withinV y a 199).toNat, by omega⟩
  rw [hB] at hbb ⊢
  clear hA hB
  have hab : a ≤ b := by omega
  have hb2 : b < 200 := by omega
  go_wp2_with fail
  go_loopg [9, 10] (b + 1 - a) (fun g v i wr => ∃ k : Nat, k + g = b + 1 - a ∧ i = .int .i64 ((a + k : Nat) : Int) ∧ wr.ownsRow w1.heap.size 3 1 v (upTo a k).length (numsV (upTo a k)) ∧ Below w1.heap.size w1 wr)
  case atStart => exact ⟨0, by omega, by simp, World.ownsRow_nil _ _ _ _, Below.refl _ _⟩
  case round =>
    obtain ⟨k, hk, rfl, hown, hbw⟩ := hrel
    cases gk with
    | succ g =>
      have hle : ((a + k : Nat) : Int) ≤ (b : Int) := by omega
      have hm1 : (upTo a k).length + 1 ≤ maxLen := by rw [upTo_len]; unfold maxLen; omega
      have hm2 : ((upTo a k).length + 1) * 8 ≤ 140737488355328 := by rw [upTo_len]; omega
      have hs := hbw.size
      have hm3 : ∀ o, w1.heap.size ≤ (wr.alloc o).heap.size := fun o => by simp; omega
      go_wp2_with (at_builtin; refine wpList_append_own _ rfl _ _ 30 rfl w1.heap.size 3 i0 (.int .i64 0) 1 8 Try.underlying30 hi hz0 hz1 hz2 rfl (by decide) _ _ _ rfl (hown.alloc _) ⟨wr.heap.size, 0, none⟩ 1 1 [.int .i64 _] rfl rfl (one_new wr _ _) (one_one _ _) hm1 hm2 (hm3 _) ?_)
      intro v' w9 hown' hgrow _
      have hb' : Below w1.heap.size w1 w9 := (hbw.alloc hs _).grown hgrow (by simp; omega) (fun j hj => (hown.lt j hj).1)
      clear hgrow hown hbw
      go_wp2_with fail
      go_roundg g
      case rel => exact ⟨k + 1, by omega, by simp; omega, nums_step hown' (by rw [upTo_succ]; simp), hb'⟩
      case measure => omega
    | zero =>
      have hk2 : k = b + 1 - a := by omega
      subst hk2
      have hgt : ¬ (((a + (b + 1 - a) : Nat) : Int) ≤ (b : Int)) := by omega
      obtain ⟨to1, tc1, rfl, st⟩ := own_nums hown (upTo_in (by omega))
      have hlt := upTo_len a (b + 1 - a)
      clear hown
      go_wp2_with fail
      have so : Spn (wr.alloc (.cells #[.int .i64 a, .int .i64 b] 26)) (some ⟨wr.heap.size, 0, none⟩) [((a : Int), (b : Int))] := spn_one (p := ((a : Int), (b : Int))) (by dsimp only; omega) (by dsimp only; omega)
      have st := st.carry ((Below.refl _ _).alloc (Nat.le_refl _) (.cells #[.int .i64 a, .int .i64 b] 26))
      have hb := hb.trans ((hbw.alloc hbw.size (.cells #[.int .i64 a, .int .i64 b] 26)).mono hb.size)
      generalize wr.alloc (.cells #[.int .i64 a, .int .i64 b] 26) = q0 at so st hb ⊢
      generalize wr.heap.size = ob at so ⊢
      clear hbw
      have cO := ofTicks_walk to1 (upTo a (b + 1 - a)) tc1 q0 st (by omega)
      rw [upTo_len, norm_ones hab hb2] at cO
      refine (cO.mono fun e w' h => spanL_of h (by intro p hp; rw [List.mem_singleton] at hp; subst hp; dsimp only; omega)).mono ?_
      rintro e q1 ⟨oA, cA, rfl, sA, b1⟩
      have so := so.carry b1
      have st := st.carry b1
      have hb := hb.trans (b1.mono hb.size)
      clear b1
      go_wp2_with fail
      refine (same_walk oA (some ⟨ob, 0, none⟩) [((a : Int), (b : Int))] [((a : Int), (b : Int))] cA 1 q1 sA so (by simp) (by simp)).mono ?_
      rintro e q2 ⟨rfl, b2⟩
      rw [decide_eq_true rfl]
      have so := so.carry b2
      have st := st.carry b2
      have sA := sA.carry b2
      have hb := hb.trans (b2.mono hb.size)
      clear b2
      go_wp2_with fail
      clear sA
      have cT := ticks_walk (some ⟨ob, 0, none⟩) [((a : Int), (b : Int))] 1 q2 so (by simp)
      rw [ticks_iv hb2] at cT
      refine (cT).mono ?_
      rintro e q3 ⟨v3, rfl, hown3, b3⟩
      obtain ⟨oB, cB, rfl, sB⟩ := own_nums hown3 (upTo_in (by omega))
      have hlB := upTo_len a (b + 1 - a)
      have so := so.carry b3
      have st := st.carry b3
      have hb := hb.trans (b3.mono hb.size)
      clear b3
      go_wp2_with fail
      have cN := sameNums_walk oB to1 (upTo a (b + 1 - a)) (upTo a (b + 1 - a)) cB tc1 q3 sB st (by omega) (by omega)
      rw [decide_eq_true rfl, upTo_len] at cN
      refine (cN).mono ?_
      rintro e q4 ⟨rfl, b4⟩
      have so := so.carry b4
      have st := st.carry b4
      have sB := sB.carry b4
      have hb := hb.trans (b4.mono hb.size)
      clear b4
      go_wp2_with fail
      clear sB st hown3
      have cR := right_walk (some ⟨ob, 0, none⟩) [((a : Int), (b : Int))] 1 q4 so (by simp)
      rw [show rightL [((a : Int), (b : Int))] none = true by simp [rightL, badP]; omega] at cR
      refine (cR).mono ?_
      rintro e q5 ⟨rfl, b5⟩
      have so := so.carry b5
      have hb := hb.trans (b5.mono hb.size)
      clear b5
      go_wp2_with fail
      have cC := count_walk (some ⟨ob, 0, none⟩) [((a : Int), (b : Int))] 1 q5 so (by simp)
      rw [show countL [((a : Int), (b : Int))] = b + 1 - a by unfold countL; rw [ticks_iv hb2, upTo_len]] at cC
      have hbd : ((b + 1 - a : Nat) : Int) = (b : Int) - a + 1 := by omega
      rw [hbd] at cC
      refine (cC).mono ?_
      rintro e q6 ⟨rfl, b6⟩
      have so := so.carry b6
      have hb := hb.trans (b6.mono hb.size)
      clear b6
      go_wp2_with fail
      have cX := right_bad (cap := 2) (L := [((a : Int), (b : Int)), (((b : Int) + 1 : Int), ((b : Int) + 1 : Int))]) (spn_two (w := q6) (p := ((a : Int), (b : Int))) (q := ((b : Int) + 1, (b : Int) + 1)) (by dsimp only; omega) (by dsimp only; omega) (by dsimp only; omega) (by dsimp only; omega)) (by simp) (by simp [rightL, badP])
      have so := so.alloc (.cells #[.int .i64 a, .int .i64 b, .int .i64 ((b : Int) + 1), .int .i64 ((b : Int) + 1)] 26)
      have hb := hb.alloc hb.size (.cells #[.int .i64 a, .int .i64 b, .int .i64 ((b : Int) + 1), .int .i64 ((b : Int) + 1)] 26)
      refine (cX).mono ?_
      rintro e q7 ⟨rfl, b7⟩
      have so := so.carry b7
      have hb := hb.trans (b7.mono hb.size)
      clear b7
      go_wp2_with fail
      have cX := right_bad (cap := 1) (L := [((-1 : Int), (b : Int))]) (spn_one (w := q7) (p := ((-1 : Int), (b : Int))) (by dsimp only; omega) (by dsimp only; omega)) (by simp) (by simp [rightL, badP])
      have so := so.alloc (.cells #[.int .i64 (-1), .int .i64 b] 26)
      have hb := hb.alloc hb.size (.cells #[.int .i64 (-1), .int .i64 b] 26)
      refine (cX).mono ?_
      rintro e q8 ⟨rfl, b8⟩
      have so := so.carry b8
      have hb := hb.trans (b8.mono hb.size)
      clear b8
      go_wp2_with fail
      have cX := right_bad (cap := 1) (L := [((a : Int), (200 : Int))]) (spn_one (w := q8) (p := ((a : Int), (200 : Int))) (by dsimp only; omega) (by dsimp only; omega)) (by simp) (by simp [rightL, badP])
      have so := so.alloc (.cells #[.int .i64 a, .int .i64 200] 26)
      have hb := hb.alloc hb.size (.cells #[.int .i64 a, .int .i64 200] 26)
      refine (cX).mono ?_
      rintro e q9 ⟨rfl, b9⟩
      have so := so.carry b9
      have hb := hb.trans (b9.mono hb.size)
      clear b9
      go_wp2_with fail
      have cX := right_bad (cap := 1) (L := [(((b : Int) + 1 : Int), (b : Int))]) (spn_one (w := q9) (p := ((b : Int) + 1, (b : Int))) (by dsimp only; omega) (by dsimp only; omega)) (by simp) (by simp [rightL, badP]; omega)
      have so := so.alloc (.cells #[.int .i64 ((b : Int) + 1), .int .i64 b] 26)
      have hb := hb.alloc hb.size (.cells #[.int .i64 ((b : Int) + 1), .int .i64 b] 26)
      refine (cX).mono ?_
      rintro e q10 ⟨rfl, b10⟩
      have so := so.carry b10
      have hb := hb.trans (b10.mono hb.size)
      clear b10
      go_wp2_with fail
      refine (within_walk n 0 200 q10 (by omega) (by omega) (by omega)).mono ?_
      rintro e q11 ⟨rfl, rfl⟩
      have hK0 := withinV_in n 0 200 (by omega)
      obtain ⟨K, hK⟩ : ∃ K : Nat, withinV n 0 200 = K := ⟨(withinV n 0 200).toNat, by omega⟩
      rw [hK] at hK0 ⊢
      clear hK
      have cL := turns_walk none (some ⟨ob, 0, none⟩) [] [((a : Int), (b : Int))] 0 1 K q11 spn_none so (by simp) (by simp) (by omega)
      rw [turns_iv (by decide) hab (st_fire a b) K] at cL
      have cM := fun (w : World) (so : Spn w (some ⟨ob, 0, none⟩) [((a : Int), (b : Int))]) => turns_walk (some ⟨ob, 0, none⟩) none [((a : Int), (b : Int))] [] 1 0 K w so spn_none (by simp) (by simp) (by omega)
      have cZ := fun (w : World) => turns_walk none none [] [] 0 0 K w spn_none spn_none (by simp) (by simp) (by omega)
      by_cases k1 : K ≤ a
      · rw [if_pos k1] at cL
        have cM := fun w so => by have h := cM w so; rw [turns_iv (by decide) hab (st_pend a b) K, if_pos k1] at h; exact h
        go_wp2_with fail
        refine (cL).mono ?_
        rintro e q12 ⟨vL, rfl, hL, b12⟩
        obtain ⟨oL, cL1, rfl, tL⟩ := own_trn hL
        clear hL cL
        have so := so.carry b12
        have hb := hb.trans (b12.mono hb.size)
        clear b12
        go_wp2_with fail
        refine (cM q12 so).mono ?_
        rintro e q13 ⟨vM, rfl, hM, b13⟩
        obtain ⟨oM, cM1, rfl, tM⟩ := own_trn hM
        clear hM cM
        have so := so.carry b13
        have tL := tL.carry b13
        have hb := hb.trans (b13.mono hb.size)
        clear b13
        go_wp2_with fail
        refine (cZ q13).mono ?_
        rintro e q14 ⟨vZ, rfl, hZ, b14⟩
        rw [turns_none] at hZ
        obtain ⟨oZ, cZ1, rfl, tZ⟩ := own_trn hZ
        clear hZ cZ tZ
        have so := so.carry b14
        have tL := tL.carry b14
        have tM := tM.carry b14
        have hb := hb.trans (b14.mono hb.size)
        clear b14
        go_wp2_with fail
        have cE := ofTicks_walk (some ⟨q14.heap.size, 0, none⟩) [-1, 200] 2 _ (nums_two q14) (by simp)
        rw [norm_out] at cE
        have hb := hb.alloc hb.size (.cells #[.int .i64 (-1), .int .i64 200] 3)
        refine (cE.mono fun e w' h => spanL_of h (by intro p hp; cases hp)).mono ?_
        rintro e q15 ⟨oE, cE1, rfl, sE, b15⟩
        have hb := hb.trans (b15.mono hb.size)
        clear b15 sE cE
        go_wp2_with fail
        refine (runs_old q15).mono ?_
        rintro e q16 ⟨rfl, b16⟩
        go_wp2_with fail
        go_ret
        exact ⟨rfl, (Old.of_below hb).trans b16⟩
      · by_cases k2 : K ≤ b + 1
        · rw [if_neg k1, if_pos k2] at cL
          have cM := fun w so => by have h := cM w so; rw [turns_iv (by decide) hab (st_pend a b) K, if_neg k1, if_pos k2] at h; exact h
          go_wp2_with fail
          refine (cL).mono ?_
          rintro e q12 ⟨vL, rfl, hL, b12⟩
          obtain ⟨oL, cL1, rfl, tL⟩ := own_trn hL
          clear hL cL
          have so := so.carry b12
          have hb := hb.trans (b12.mono hb.size)
          clear b12
          go_wp2_with fail
          refine (cM q12 so).mono ?_
          rintro e q13 ⟨vM, rfl, hM, b13⟩
          obtain ⟨oM, cM1, rfl, tM⟩ := own_trn hM
          clear hM cM
          have so := so.carry b13
          have tL := tL.carry b13
          have hb := hb.trans (b13.mono hb.size)
          clear b13
          go_wp2_with fail
          refine (cZ q13).mono ?_
          rintro e q14 ⟨vZ, rfl, hZ, b14⟩
          rw [turns_none] at hZ
          obtain ⟨oZ, cZ1, rfl, tZ⟩ := own_trn hZ
          clear hZ cZ tZ
          have so := so.carry b14
          have tL := tL.carry b14
          have tM := tM.carry b14
          have hb := hb.trans (b14.mono hb.size)
          clear b14
          obtain ⟨bL, rfl, hbL, hcL⟩ := tL.lie (by simp)
          obtain ⟨hL1, hL2⟩ := hcL 0 _ rfl
          obtain ⟨bM, rfl, hbM, hcM⟩ := tM.lie (by simp)
          obtain ⟨_, hM2⟩ := hcM 0 _ rfl
          simp only [Nat.zero_mul, Nat.zero_add] at hL1 hL2 hM2
          clear hcL hcM
          go_wp2_with fail
          have cE := ofTicks_walk (some ⟨q14.heap.size, 0, none⟩) [-1, 200] 2 _ (nums_two q14) (by simp)
          rw [norm_out] at cE
          have hb := hb.alloc hb.size (.cells #[.int .i64 (-1), .int .i64 200] 3)
          refine (cE.mono fun e w' h => spanL_of h (by intro p hp; cases hp)).mono ?_
          rintro e q15 ⟨oE, cE1, rfl, sE, b15⟩
          have hb := hb.trans (b15.mono hb.size)
          clear b15 sE cE
          go_wp2_with fail
          refine (runs_old q15).mono ?_
          rintro e q16 ⟨rfl, b16⟩
          go_wp2_with fail
          go_ret
          exact ⟨rfl, (Old.of_below hb).trans b16⟩
        · rw [if_neg k1, if_neg k2] at cL
          have cM := fun w so => by have h := cM w so; rw [turns_iv (by decide) hab (st_pend a b) K, if_neg k1, if_neg k2] at h; exact h
          go_wp2_with fail
          refine (cL).mono ?_
          rintro e q12 ⟨vL, rfl, hL, b12⟩
          obtain ⟨oL, cL1, rfl, tL⟩ := own_trn hL
          clear hL cL
          have so := so.carry b12
          have hb := hb.trans (b12.mono hb.size)
          clear b12
          go_wp2_with fail
          refine (cM q12 so).mono ?_
          rintro e q13 ⟨vM, rfl, hM, b13⟩
          obtain ⟨oM, cM1, rfl, tM⟩ := own_trn hM
          clear hM cM
          have so := so.carry b13
          have tL := tL.carry b13
          have hb := hb.trans (b13.mono hb.size)
          clear b13
          go_wp2_with fail
          refine (cZ q13).mono ?_
          rintro e q14 ⟨vZ, rfl, hZ, b14⟩
          rw [turns_none] at hZ
          obtain ⟨oZ, cZ1, rfl, tZ⟩ := own_trn hZ
          clear hZ cZ tZ
          have so := so.carry b14
          have tL := tL.carry b14
          have tM := tM.carry b14
          have hb := hb.trans (b14.mono hb.size)
          clear b14
          obtain ⟨bL, rfl, hbL, hcL⟩ := tL.lie (by simp)
          obtain ⟨hL1, hL2⟩ := hcL 0 _ rfl
          obtain ⟨bM, rfl, hbM, hcM⟩ := tM.lie (by simp)
          obtain ⟨_, hM2⟩ := hcM 0 _ rfl
          simp only [Nat.zero_mul, Nat.zero_add] at hL1 hL2 hM2
          clear hcL hcM
          go_wp2_with fail
          have cE := ofTicks_walk (some ⟨q14.heap.size, 0, none⟩) [-1, 200] 2 _ (nums_two q14) (by simp)
          rw [norm_out] at cE
          have hb := hb.alloc hb.size (.cells #[.int .i64 (-1), .int .i64 200] 3)
          refine (cE.mono fun e w' h => spanL_of h (by intro p hp; cases hp)).mono ?_
          rintro e q15 ⟨oE, cE1, rfl, sE, b15⟩
          have hb := hb.trans (b15.mono hb.size)
          clear b15 sE cE
          go_wp2_with fail
          refine (runs_old q15).mono ?_
          rintro e q16 ⟨rfl, b16⟩
          go_wp2_with fail
          go_ret
          exact ⟨rfl, (Old.of_below hb).trans b16⟩

end Go.Proofs.Ytlejcjgbkbmdmaa.span
