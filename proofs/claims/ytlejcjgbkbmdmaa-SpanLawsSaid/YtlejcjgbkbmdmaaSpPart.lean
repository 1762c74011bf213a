/-
  Package span: part, Both, Less, Join.
-/
import Derived.Test.YtlejcjgbkbmdmaaSpOf2
namespace Go.Proofs.Ytlejcjgbkbmdmaa.span
open Go Go.Proofs Go.RowKit
set_option maxRecDepth 10000

def partT (x y : Nat → Bool) (has : Bool) (k : Nat) : Bool := x k && (y k == has)
def partTo (x y : Nat → Bool) (has : Bool) (n k : Nat) : Bool := if k < n then partT x y has k else x k

theorem Spn.later {w w' : World} {ao : Option Addr} {l : List (Int × Int)} {B : Nat} (h : Spn w ao l) (hb : Below B w w') (hB : w.heap.size ≤ B) : Spn w' ao l := h.carry (hb.mono hB)

theorem Tab.drew {w : World} {M : Nat} {t : Nat → Bool} (h : Tab w M t) : Tab w.drew M t := ⟨h.cell, h.free⟩
theorem Tab.aside {w : World} {M N k : Nat} {t : Nat → Bool} {v : Value} (h : Tab w M t) (hne : N ≠ M) : Tab (w.setCell ⟨N, k, none⟩ v) M t :=
  ⟨fun j hj => (World.cell?_setCell_other _ _ _ _ (by simp; try omega)).trans (h.cell j hj), fun j => by simpa using h.free j⟩
theorem part_step {x y : Nat → Bool} {has : Bool} {k j : Nat} {v : Bool} (hv : v = partT x y has k) : (if j = k then v else partTo x y has k j) = partTo x y has (k + 1) j := by
  unfold partTo
  by_cases e : j = k
  · subst e; rw [if_pos rfl, if_pos (by omega), hv]
  · rw [if_neg e]
    by_cases h : j < k
    · rw [if_pos h, if_pos (by omega)]
    · rw [if_neg h, if_neg (by omega)]

theorem part_walk (ao bo : Option Addr) (l m : List (Int × Int)) (cap cap2 : Nat) (has : Bool) (w : World) (hl : Spn w ao l) (hm : Spn w bo m) (hn : l.length ≤ 9223372036854775807) (hn2 : m.length ≤ 9223372036854775807) :
    Calls Try.prog 27 #[.slice ao l.length cap, .slice bo m.length cap2, .bool has] w fun e w' => ∃ v, e = .returned v ∧ w'.ownsRow w.heap.size 26 2 v (spansTo (partT (tabOf l) (tabOf m) has) 200).length (flat (spansTo (partT (tabOf l) (tabOf m) has) 200)) ∧ Below w.heap.size w w' := by
  go_enter Try.func27, Try.ntmps27
  go_wp2_with fail
  refine (of_walk ao l cap w hl hn).mono ?_
  rintro e w0 ⟨rfl, hx, hb0⟩
  go_wp2_with fail
  refine (of_walk bo m cap2 w0 (hm.carry hb0) hn2).mono ?_
  rintro e w1 ⟨rfl, hy, hb1⟩
  have hx1 := hx.carry hb1 hx.lt
  go_wp2_with fail
  go_loopg [14] 200 (fun g i wr => ∃ k : Nat, k + g = 200 ∧ i = .int .i64 k ∧ Tab wr w.heap.size (partTo (tabOf l) (tabOf m) has k) ∧ Tab wr w0.heap.size (tabOf m) ∧ Below w.heap.size w wr)
  case atStart => exact ⟨0, rfl, rfl, hx1.congr fun k _ => by simp [partTo], hy, hb0.trans (hb1.mono hb0.size)⟩
  case round =>
    obtain ⟨k, hk, rfl, htx, hty, hb⟩ := hrel
    cases gk with
    | zero =>
      have : k = 200 := by omega
      subst this
      go_wp2_with fail
      refine (spans_walk w.heap.size (partT (tabOf l) (tabOf m) has) wr (htx.congr fun k hk => by simp only [partTo, hk, if_true])).mono ?_
      rintro e w2 ⟨v, rfl, hown, hb2⟩
      go_wp2_with fail
      go_ret
      exact ⟨_, rfl, own_mono hown hb.size, hb.trans (hb2.mono hb.size)⟩
    | succ g =>
      have hc1 := htx.cell k (by omega)
      have hc2 := hty.cell k (by omega)
      have hf1 := htx.free k
      have hne : w.heap.size ≠ w0.heap.size := by have := hx.lt; omega
      have e1 : partTo (tabOf l) (tabOf m) has k k = tabOf l k := by simp [partTo]
      rw [e1] at hc1
      by_cases hin : tabOf l k = true
      · rw [hin] at hc1
        go_wp2_with fail
        go_region
        have hT : Tab (wr.drew.setCell ⟨w.heap.size, k, none⟩ (.bool (tabOf m k == has))) w.heap.size (partTo (tabOf l) (tabOf m) has (k + 1)) := (htx.drew.set (by omega)).congr fun j _ => part_step (by simp only [partT, hin, Bool.true_and])
        have hT2 : Tab (wr.drew.setCell ⟨w.heap.size, k, none⟩ (.bool (tabOf m k == has))) w0.heap.size (tabOf m) := hty.drew.aside hne
        have hB : Below w.heap.size w (wr.drew.setCell ⟨w.heap.size, k, none⟩ (.bool (tabOf m k == has))) := hb.drew.setCell (Nat.le_refl _) _
        clear htx hty hb
        go_wp2_with fail
        go_roundg g
        case rel => exact ⟨k + 1, by omega, by simp, hT, hT2, hB⟩
        case measure => omega
      · have hin' : tabOf l k = false := by simpa using hin
        rw [hin'] at hc1
        go_wp2_with fail
        go_region
        have hT : Tab (wr.drew.setCell ⟨w.heap.size, k, none⟩ (.bool false)) w.heap.size (partTo (tabOf l) (tabOf m) has (k + 1)) := (htx.drew.set (by omega)).congr fun j _ => part_step (by simp only [partT, hin', Bool.false_and])
        have hT2 : Tab (wr.drew.setCell ⟨w.heap.size, k, none⟩ (.bool false)) w0.heap.size (tabOf m) := hty.drew.aside hne
        have hB : Below w.heap.size w (wr.drew.setCell ⟨w.heap.size, k, none⟩ (.bool false)) := hb.drew.setCell (Nat.le_refl _) _
        clear htx hty hb
        go_wp2_with fail
        go_roundg g
        case rel => exact ⟨k + 1, by omega, by simp, hT, hT2, hB⟩
        case measure => omega

def bothL (l m : List (Int × Int)) : List (Int × Int) := spansTo (partT (tabOf l) (tabOf m) true) 200
def lessL (l m : List (Int × Int)) : List (Int × Int) := spansTo (partT (tabOf l) (tabOf m) false) 200

theorem both_walk (ao bo : Option Addr) (l m : List (Int × Int)) (cap cap2 : Nat) (w : World) (hl : Spn w ao l) (hm : Spn w bo m) (hn : l.length ≤ 9223372036854775807) (hn2 : m.length ≤ 9223372036854775807) :
    Calls Try.prog 15 #[.slice ao l.length cap, .slice bo m.length cap2] w fun e w' => ∃ v, e = .returned v ∧ w'.ownsRow w.heap.size 26 2 v (bothL l m).length (flat (bothL l m)) ∧ Below w.heap.size w w' := by
  go_enter Try.func15, Try.ntmps15
  go_wp2_with fail
  refine (part_walk ao bo l m cap cap2 true w hl hm hn hn2).mono ?_
  rintro e w0 ⟨v, rfl, hx, hb0⟩
  go_wp2_with fail
  go_ret
  exact ⟨_, rfl, hx, hb0⟩

theorem less_walk (ao bo : Option Addr) (l m : List (Int × Int)) (cap cap2 : Nat) (w : World) (hl : Spn w ao l) (hm : Spn w bo m) (hn : l.length ≤ 9223372036854775807) (hn2 : m.length ≤ 9223372036854775807) :
    Calls Try.prog 11 #[.slice ao l.length cap, .slice bo m.length cap2] w fun e w' => ∃ v, e = .returned v ∧ w'.ownsRow w.heap.size 26 2 v (lessL l m).length (flat (lessL l m)) ∧ Below w.heap.size w w' := by
  go_enter Try.func11, Try.ntmps11
  go_wp2_with fail
  refine (part_walk ao bo l m cap cap2 false w hl hm hn hn2).mono ?_
  rintro e w0 ⟨v, rfl, hx, hb0⟩
  go_wp2_with fail
  go_ret
  exact ⟨_, rfl, hx, hb0⟩

/-- Lists of spans that lie in memory. -/
structure Many (w : World) (ao : Option Addr) (ls : List (Option Addr × Nat × List (Int × Int))) : Prop where
  lie : ls ≠ [] → ∃ b off, ao = some ⟨b, off, none⟩ ∧ b < w.heap.size ∧ ∀ i p, ls[i]? = some p → w.cell? ⟨b, off + i, none⟩ = some (.slice p.1 p.2.2.length p.2.1)
  each : ∀ p ∈ ls, Spn w p.1 p.2.2 ∧ p.2.2.length ≤ 9223372036854775807
theorem Many.carry {w w' : World} {ao : Option Addr} {ls : List (Option Addr × Nat × List (Int × Int))} (h : Many w ao ls) (hb : Below w.heap.size w w') : Many w' ao ls := by
  refine ⟨fun hl => ?_, fun p hp => ⟨(h.each p hp).1.carry hb, (h.each p hp).2⟩⟩
  obtain ⟨b, off, e, hB, hc⟩ := h.lie hl
  exact ⟨b, off, e, Nat.lt_of_lt_of_le hB hb.size, fun i p hp => (hb.cell (p := ⟨b, off + i, none⟩) hB).trans (hc i p hp)⟩
def allL (ls : List (Option Addr × Nat × List (Int × Int))) : List (Int × Int) := ls.flatMap fun p => p.2.2

theorem join_walk (ao : Option Addr) (ls : List (Option Addr × Nat × List (Int × Int))) (cap : Nat) (w : World) (hl : Many w ao ls) (hn : ls.length ≤ 9223372036854775807) :
    Calls Try.prog 14 #[.slice ao ls.length cap] w fun e w' => ∃ v, e = .returned v ∧ w'.ownsRow w.heap.size 26 2 v (normL (allL ls)).length (flat (normL (allL ls))) ∧ Below w.heap.size w w' := by
  have hz := zero55
  go_enter Try.func14, Try.ntmps14
  go_wp2_with fail
  go_loopg [12] ls.length (fun g i wr => ∃ k : Nat, k + g = ls.length ∧ i = .int .i64 k ∧ Tab wr w.heap.size (tabOf (allL (ls.take k))) ∧ Below w.heap.size w wr)
  case atStart => exact ⟨0, by omega, rfl, (tab_new w).congr fun _ _ => by simp [tabOf, allL], by go_grown⟩
  case round =>
    obtain ⟨k, hk, rfl, ht, hb⟩ := hrel
    cases gk with
    | zero =>
      have : k = ls.length := by omega
      subst this
      rw [List.take_length] at ht
      go_wp2_with fail
      refine (spans_walk w.heap.size _ wr ht).mono ?_
      rintro e w2 ⟨v, rfl, hown, hb2⟩
      go_wp2_with fail
      go_ret
      exact ⟨_, rfl, own_mono hown hb.size, hb.trans (hb2.mono hb.size)⟩
    | succ g =>
      obtain ⟨p, hp⟩ : ∃ p, ls[k]? = some p := ⟨ls[k]'(by omega), List.getElem?_eq_getElem _⟩
      have hl' := hl.carry hb
      obtain ⟨b, off, rfl, hB, hc⟩ := hl'.lie (by intro e; subst e; simp at hk)
      have hc1 := hc k p hp
      obtain ⟨hsp, hpl⟩ := hl.each p (List.mem_of_getElem? hp)
      have hall : allL (ls.take (k + 1)) = allL (ls.take k) ++ p.2.2 := by simp [allL, List.take_add_one, hp]
      obtain ⟨po, pc, pl⟩ := p
      simp only at hc1 hsp hpl hall
      clear hc hl'
      go_wp2_with fail
      have d1 : decide (k < ls.length) = true := by simp; omega
      simp only [d1]
      go_loopg [18] pl.length (fun g2 i wy => ∃ k2 : Nat, k2 + g2 = pl.length ∧ i = .int .i64 k2 ∧ Tab wy w.heap.size (tabOf (allL (ls.take k) ++ pl.take k2)) ∧ Below w.heap.size w wy)
      case atStart => exact ⟨0, by omega, rfl, ht.congr fun _ _ => by simp, hb⟩
      case round =>
        obtain ⟨k2, hk2, rfl, ht2, hb2⟩ := hrel
        have hs2 := hsp.carry hb2
        cases gk with
        | zero =>
          have : k2 = pl.length := by omega
          subst this
          rw [List.take_length, ← hall] at ht2
          go_wp2_with fail
          go_roundg g
          case rel => exact ⟨k + 1, by omega, by simp, ht2, hb2⟩
          case measure => omega
        | succ g2 =>
          obtain ⟨q, hq⟩ : ∃ q, pl[k2]? = some q := ⟨pl[k2]'(by omega), List.getElem?_eq_getElem _⟩
          obtain ⟨b2, off2, rfl, hB2, hc2⟩ := hs2.lie (by intro e; subst e; simp at hk2)
          obtain ⟨hd1, hd2⟩ := hc2 k2 q hq
          have hw := hs2.wf q (List.mem_of_getElem? hq)
          clear hc2
          go_wp2_with fail
          refine (put_walk w.heap.size (tabOf (allL (ls.take k) ++ pl.take k2)) q.1 q.2 _ (ht2.alloc _) hw.1 hw.2).mono ?_
          rintro e w2 ⟨rfl, ht3, hb3⟩
          go_wp2_with fail
          go_roundg g2
          case rel => exact ⟨k2 + 1, by omega, by simp, ht3.congr fun j _ => by simp only [tabOf_append, ← putT_take hq j, putT, Bool.or_assoc], (hb2.alloc hb2.size _).trans hb3⟩
          case measure => omega

end Go.Proofs.Ytlejcjgbkbmdmaa.span
