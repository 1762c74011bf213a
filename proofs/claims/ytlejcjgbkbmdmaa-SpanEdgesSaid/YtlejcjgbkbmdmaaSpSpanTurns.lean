/-
  SpanTurns: the law's own walk.
-/
import Derived.Test.YtlejcjgbkbmdmaaSpTurns
import Derived.Test.YtlejcjgbkbmdmaaSpRuns
namespace Go.Proofs.Ytlejcjgbkbmdmaa.span
open Go Go.Proofs Go.RowKit Go.Proofs.Ytlejcjgbkbmdmaa.AH
set_option maxRecDepth 10000

/-- Turns that lie in memory. -/
structure Trn (w : World) (ao : Option Addr) (l : List (Int × Int)) : Prop where
  lie : l ≠ [] → ∃ b, ao = some ⟨b, 0, none⟩ ∧ b < w.heap.size ∧ ∀ i p, l[i]? = some p → w.cell? ⟨b, i * 3, none⟩ = some (.int .i64 p.1) ∧ w.cell? ⟨b, i * 3 + 1, none⟩ = some (.int .i64 p.2)
theorem Trn.carry {w w' : World} {ao : Option Addr} {l : List (Int × Int)} (h : Trn w ao l) (hb : Below w.heap.size w w') : Trn w' ao l := by
  refine ⟨fun hl => ?_⟩
  obtain ⟨b, e, hB, hc⟩ := h.lie hl
  exact ⟨b, e, Nat.lt_of_lt_of_le hB hb.size, fun i p hp => ⟨(hb.cell (p := ⟨b, i * 3, none⟩) hB).trans (hc i p hp).1, (hb.cell (p := ⟨b, i * 3 + 1, none⟩) hB).trans (hc i p hp).2⟩⟩
theorem flatT_length (l : List (Int × Int)) : (flatT l).length = 3 * l.length := by
  induction l with
  | nil => rfl
  | cons p l ih => simp [flatT, ih]; omega
theorem own_trn {w : World} {B : Nat} {v : Value} {l : List (Int × Int)} (h : w.ownsRow B 50 3 v l.length (flatT l)) : ∃ ao cap, v = .slice ao l.length cap ∧ Trn w ao l := by
  have h0 := h
  obtain ⟨_, ⟨rfl, h1⟩ | ⟨b, cap, cur, rfl, hg, hh, hn, hc, hs, ht⟩⟩ := h
  · have : l = [] := List.length_eq_zero_iff.mp h1
    subst this
    exact ⟨none, 0, rfl, ⟨fun h => absurd rfl h⟩⟩
  · refine ⟨_, cap, rfl, ⟨fun _ => ⟨b, rfl, (Array.getElem?_eq_some_iff.mp hh).1, fun i p hp => ?_⟩⟩⟩
    have hi := (List.getElem?_eq_some_iff.mp hp).1
    have := flatT_get l i p hp
    exact ⟨(h0.cellAt (i * 3) (by omega)).trans this.1, (h0.cellAt (i * 3 + 1) (by omega)).trans this.2⟩

theorem st_val {tp tq : Nat → Bool} {k : Nat} (hk : k < 200) : stF (S tp) (S (lessT tq tp)) k = if lessT tq tp k then 2 else if tp k then 1 else 0 := by
  unfold stF; rw [hasL_nat, hasL_nat, tabOf_S _ hk, tabOf_S _ hk]
theorem st_one {tp tq : Nat → Bool} {k : Nat} (hk : k < 200) : (stF (S tp) (S (lessT tq tp)) k == 1) = tp k := by
  rw [st_val hk]; unfold lessT; cases tp k <;> cases tq k <;> rfl
theorem st_two {tp tq : Nat → Bool} {k : Nat} (hk : k < 200) : (stF (S tp) (S (lessT tq tp)) k == 2) = lessT tq tp k := by
  rw [st_val hk]; unfold lessT; cases tp k <;> cases tq k <;> rfl

theorem turns_rest (l m : List (Int × Int)) (k : Nat) : ∀ d, ∃ rest, turnsTo l m (k + d) = turnsTo l m k ++ rest ∧ ∀ p ∈ rest, (k : Int) ≤ p.1
  | 0 => ⟨[], by simp, fun p hp => by cases hp⟩
  | d + 1 => by
    obtain ⟨rest, e, h⟩ := turns_rest l m k d
    rw [show k + (d + 1) = k + d + 1 by omega]
    simp only [turnsTo]
    split
    · exact ⟨rest, e, h⟩
    · refine ⟨rest ++ [(((k + d : Nat) : Int), stF l m (k + d))], by rw [e, List.append_assoc], fun p hp => ?_⟩
      rcases List.mem_append.mp hp with hp | hp
      · exact h p hp
      · rw [List.mem_singleton] at hp; subst hp; dsimp only; omega
/-- Where a turn is, and where none is. -/
theorem turns_at (l m : List (Int × Int)) {k K : Nat} (h : k < K) :
    (stF l m k ≠ prevS l m k → (turnsTo l m K)[(turnsTo l m k).length]? = some ((k : Int), stF l m k)) ∧
    (stF l m k = prevS l m k → ∀ p, (turnsTo l m K)[(turnsTo l m k).length]? = some p → p.1 ≠ (k : Int)) := by
  obtain ⟨rest, e, hr⟩ := turns_rest l m (k + 1) (K - (k + 1))
  rw [show k + 1 + (K - (k + 1)) = K by omega] at e
  rw [e]
  simp only [turnsTo]
  constructor
  · intro hne
    rw [if_neg hne, List.append_assoc, List.getElem?_append_right (Nat.le_refl _)]
    simp
  · intro he p hp
    rw [if_pos he, List.getElem?_append_right (Nat.le_refl _), Nat.sub_self] at hp
    have := hr p (List.mem_of_getElem? hp)
    omega

set_option maxHeartbeats 10000000 in
theorem spanTurns_walk (ao bo : Option Addr) (la lb : List Int) (ca cb : Nat) (n : Int) (w : World) (ha : Nums w ao la) (hbn : Nums w bo lb) (hal : la.length ≤ 9223372036854775807) (hbl : lb.length ≤ 9223372036854775807) :
    Calls Try.prog 7 #[.slice ao la.length ca, .slice bo lb.length cb, .int .i64 n] w fun e w' => e = .returned (.bool true) ∧ Old w w' := by
  go_enter Try.func7, Try.ntmps7
  go_wp2_with fail
  have hb := Below.refl w.heap.size w
  refine (flagsS ha hal).mono ?_
  rintro e w1 ⟨o1, c1, rfl, hmx, sp, b1⟩
  have hxb := b1.trans (Below.refl _ _)
  generalize flagsT la = tp at hmx sp ⊢
  have hbn := hbn.carry b1
  have hb := hb.trans (b1.mono hb.size)
  have hM : w.heap.size < w1.heap.size := World.block_lt_of_cell? _ _ (hmx.cell 0 (by omega))
  clear b1 hxb
  go_wp2_with fail
  refine (flagsS hbn hbl).mono ?_
  rintro e w2 ⟨o2, c2, rfl, _, sq, b2⟩
  generalize flagsT lb = tq at sq ⊢
  have sp := sp.carry b2
  have hmx := hmx.carry b2 hM
  have hM := Nat.lt_of_lt_of_le hM b2.size
  have hb := hb.trans (b2.mono hb.size)
  clear b2
  go_wp2_with fail
  refine (lessS sq sp).mono ?_
  rintro e w3 ⟨o3, c3, rfl, sf, b3⟩
  have sp := sp.carry b3
  have hmx := hmx.carry b3 hM
  have hM := Nat.lt_of_lt_of_le hM b3.size
  have hb := hb.trans (b3.mono hb.size)
  clear b3 sq
  go_wp2_with fail
  refine (within_walk n 0 60 w3 (by omega) (by omega) (by omega)).mono ?_
  rintro e w4 ⟨rfl, rfl⟩
  have hin := withinV_in n 0 60 (by omega)
  obtain ⟨K, hK⟩ : ∃ K : Nat, withinV n 0 60 = K := ⟨(withinV n 0 60).toNat, by omega⟩
  rw [hK] at hin ⊢
  go_wp2_with fail
  have hlp := S_len tp
  have hlf := S_len (lessT tq tp)
  refine (turns_walk _ _ _ _ _ _ K w4 sp sf (by omega) (by omega) (by omega)).mono ?_
  rintro e w5 ⟨v, rfl, hown, b5⟩
  have sf := sf.carry b5
  have hmx := hmx.carry b5 hM
  have hM := Nat.lt_of_lt_of_le hM b5.size
  have hb := hb.trans (b5.mono hb.size)
  obtain ⟨tro, tc, rfl, ht⟩ := own_trn hown
  have hle := turnsTo_le (S tp) (S (lessT tq tp)) K
  generalize hLL : turnsTo (S tp) (S (lessT tq tp)) K = L at ht hle ⊢
  clear hown b5 sp
  go_wp2_with fail
  go_loopg [14, 15, 16] K (fun g s a i wr => ∃ k : Nat, k + g = K ∧ i = .int .i64 k ∧ s = .int .i64 (prevS (S tp) (S (lessT tq tp)) k) ∧ a = .int .i64 (turnsTo (S tp) (S (lessT tq tp)) k).length ∧ Below w5.heap.size w5 wr)
  case atStart => exact ⟨0, by omega, rfl, rfl, rfl, Below.refl _ _⟩
  case round =>
    obtain ⟨k, hk, rfl, rfl, rfl, hbw⟩ := hrel
    cases gk with
    | zero =>
      have : k = K := by omega
      subst this
      rw [hLL]
      go_wp2_with fail
      refine (runs_old wr).mono ?_
      rintro e w6 ⟨rfl, b6⟩
      go_wp2_with fail
      go_ret
      exact ⟨rfl, (Old.of_below (hb.trans (hbw.mono hb.size))).trans b6⟩
    | succ g =>
      have hkK : (k : Int) < (K : Int) := by omega
      have hcx := (hmx.carry hbw hM).cell k (by omega)
      have sf' := sf.carry hbw
      have ht' := ht.carry hbw
      have hx1 := st_one (tp := tp) (tq := tq) (k := k) (by omega)
      have hx2 := st_two (tp := tp) (tq := tq) (k := k) (by omega)
      have hpv : prevS (S tp) (S (lessT tq tp)) (k + 1) = stF (S tp) (S (lessT tq tp)) k := rfl
      have hh : hasL (S (lessT tq tp)) (k : Int) = lessT tq tp k := by rw [hasL_nat, tabOf_S _ (by omega)]
      have cH := has_walk o3 (S (lessT tq tp)) c3 k wr sf' (by omega)
      rw [hh] at cH
      have hat := turns_at (S tp) (S (lessT tq tp)) (k := k) (K := K) (by omega)
      have htl := turnsTo_le (S tp) (S (lessT tq tp)) k
      have hts : turnsTo (S tp) (S (lessT tq tp)) (k + 1) = if stF (S tp) (S (lessT tq tp)) k = prevS (S tp) (S (lessT tq tp)) k then turnsTo (S tp) (S (lessT tq tp)) k else turnsTo (S tp) (S (lessT tq tp)) k ++ [((k : Int), stF (S tp) (S (lessT tq tp)) k)] := rfl
      rw [← hpv] at hx1 hx2 hts hat
      generalize hS1 : prevS (S tp) (S (lessT tq tp)) (k + 1) = s1 at hx1 hx2 hts hat
      generalize hS0 : prevS (S tp) (S (lessT tq tp)) k = s0 at hts hat ⊢
      generalize hL1 : turnsTo (S tp) (S (lessT tq tp)) (k + 1) = L1 at hts
      generalize hL0 : turnsTo (S tp) (S (lessT tq tp)) k = L0 at hts hat htl ⊢
      rw [hLL] at hat
      obtain ⟨hat1, hat2⟩ := hat
      clear hpv hh
      by_cases e : s1 = s0
      · rw [if_pos e] at hts
        have hat3 := hat2 e
        clear hat2
        subst e
        clear hat1
        by_cases hl : L0.length < L.length
        · obtain ⟨p, hp⟩ : ∃ p, L[L0.length]? = some p := ⟨L[L0.length]'hl, List.getElem?_eq_getElem _⟩
          have hne : (p.1 == (k : Int)) = false := by simpa using hat3 p hp
          obtain ⟨b, rfl, hB, hc⟩ := ht'.lie (by intro e; rw [e] at hl; simp at hl)
          have hc1 := (hc _ p hp).1
          clear hat3 hc
          go_wp2_with fail
          refine cH.mono ?_
          rintro e w6 ⟨rfl, b6⟩
          go_wp2_with fail
          go_roundg g
          case rel => exact ⟨k + 1, by omega, by simp, by rw [hS1], by rw [hL1, hts], hbw.trans (b6.mono hbw.size)⟩
          case measure => omega
        · clear hat3
          go_wp2_with fail
          refine cH.mono ?_
          rintro e w6 ⟨rfl, b6⟩
          go_wp2_with fail
          go_roundg g
          case rel => exact ⟨k + 1, by omega, by simp, by rw [hS1], by rw [hL1, hts], hbw.trans (b6.mono hbw.size)⟩
          case measure => omega
      · rw [if_neg e] at hts
        have hp := hat1 e
        have hl : L0.length < L.length := (List.getElem?_eq_some_iff.mp hp).1
        have hne : (s1 == s0) = false := by simpa using e
        obtain ⟨b, rfl, hB, hc⟩ := ht'.lie (by intro e; rw [e] at hl; simp at hl)
        obtain ⟨hc1, hc2⟩ := hc _ _ hp
        clear hat1 hat2 hc
        go_wp2_with fail
        refine cH.mono ?_
        rintro e w6 ⟨rfl, b6⟩
        go_wp2_with fail
        go_roundg g
        case rel => exact ⟨k + 1, by omega, by simp, by rw [hS1], by rw [hL1, hts]; simp, hbw.trans (b6.mono hbw.size)⟩
        case measure => omega

end Go.Proofs.Ytlejcjgbkbmdmaa.span
