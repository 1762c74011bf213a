/-
  Package span: of, Of, Has, Ticks, Count.
-/
import Derived.Test.YtlejcjgbkbmdmaaSpSpans
namespace Go.Proofs.Ytlejcjgbkbmdmaa.span
open Go Go.Proofs Go.RowKit
set_option maxRecDepth 10000

/-- Spans that lie in memory, whosever they are. -/
structure Spn (w : World) (ao : Option Addr) (l : List (Int × Int)) : Prop where
  lie : l ≠ [] → ∃ b off, ao = some ⟨b, off, none⟩ ∧ b < w.heap.size ∧ ∀ i p, l[i]? = some p → w.cell? ⟨b, off + i * 2, none⟩ = some (.int .i64 p.1) ∧ w.cell? ⟨b, off + i * 2 + 1, none⟩ = some (.int .i64 p.2)
  wf : ∀ p ∈ l, (-9223372036854775808 ≤ p.1 ∧ p.1 ≤ 9223372036854775807) ∧ (-9223372036854775808 ≤ p.2 ∧ p.2 ≤ 9223372036854775807)

theorem Spn.carry {w w' : World} {ao : Option Addr} {l : List (Int × Int)} (h : Spn w ao l) (hb : Below w.heap.size w w') : Spn w' ao l := by
  refine ⟨fun hl => ?_, h.wf⟩
  obtain ⟨b, off, e, hB, hc⟩ := h.lie hl
  exact ⟨b, off, e, Nat.lt_of_lt_of_le hB hb.size, fun i p hp => ⟨(hb.cell (p := ⟨b, off + i * 2, none⟩) hB).trans (hc i p hp).1, (hb.cell (p := ⟨b, off + i * 2 + 1, none⟩) hB).trans (hc i p hp).2⟩⟩

/-- The ticks of spans. -/
def tabOf (l : List (Int × Int)) (k : Nat) : Bool := l.any fun p => decide (p.1 ≤ (k : Int) ∧ (k : Int) ≤ p.2)
theorem tabOf_append (l m : List (Int × Int)) (k : Nat) : tabOf (l ++ m) k = (tabOf l k || tabOf m k) := by simp [tabOf]

def noughtT : Array Value := (List.replicate 200 (Value.bool false)).toArray
theorem info55 : (Try.prog.info? 55).map (fun i => (i.zero, i.size)) = some (some (.agg noughtT), 200) := by kernel_rfl
theorem zero55 (w : World) : (zeroValue 55).run Try.prog w = .ok (.agg noughtT) w := by
  obtain ⟨i, hi, hzz⟩ := Option.map_eq_some_iff.1 info55
  simp only [Prod.mk.injEq] at hzz
  simp [zeroValue, typeInfo, hi, hzz.1]

theorem tab_new (w : World) : Tab (w.alloc (.cells noughtT 55)) w.heap.size (fun _ => false) := by
  refine ⟨fun k hk => ?_, fun k => World.frozen?_alloc_new _ _ _ _⟩
  rw [World.cell?_alloc_new]
  unfold noughtT
  rw [List.getElem?_toArray, List.getElem?_replicate, if_pos hk]

theorem putT_take {l : List (Int × Int)} {k : Nat} {p : Int × Int} (hp : l[k]? = some p) (j : Nat) : putT (tabOf (l.take k)) p.1 p.2 j = tabOf (l.take (k + 1)) j := by
  rw [List.take_add_one, hp, tabOf_append]
  simp [putT, tabOf]

theorem of_walk (ao : Option Addr) (l : List (Int × Int)) (cap : Nat) (w : World) (hl : Spn w ao l) (hn : l.length ≤ 9223372036854775807) :
    Calls Try.prog 28 #[.slice ao l.length cap] w fun e w' => e = .returned (.pointer (some ⟨w.heap.size, 0, none⟩)) ∧ Tab w' w.heap.size (tabOf l) ∧ Below w.heap.size w w' := by
  have hz := zero55
  go_enter Try.func28, Try.ntmps28
  go_wp2_with fail
  go_loopg [10] l.length (fun g i wr => ∃ k : Nat, k + g = l.length ∧ i = .int .i64 k ∧ Tab wr w.heap.size (tabOf (l.take k)) ∧ Below w.heap.size w wr)
  case atStart => exact ⟨0, by omega, rfl, (tab_new w).congr fun _ _ => by simp [tabOf], by go_grown⟩
  case round =>
    obtain ⟨k, hk, rfl, ht, hb⟩ := hrel
    cases gk with
    | zero =>
      have : k = l.length := by omega
      subst this
      rw [List.take_length] at ht
      go_wp2_with fail
      go_ret
      exact ⟨rfl, ht, hb⟩
    | succ g =>
      obtain ⟨p, hp⟩ : ∃ p, l[k]? = some p := ⟨l[k]'(by omega), List.getElem?_eq_getElem _⟩
      have hl' := hl.carry hb
      obtain ⟨b, off, rfl, hB, hc⟩ := hl'.lie (by intro e; subst e; simp at hk)
      obtain ⟨hc1, hc2⟩ := hc k p hp
      have hw := hl.wf p (List.mem_of_getElem? hp)
      clear hc
      go_wp2_with fail
      refine (put_walk w.heap.size (tabOf (l.take k)) p.1 p.2 _ (ht.alloc _) hw.1 hw.2).mono ?_
      rintro e w2 ⟨rfl, ht2, hb2⟩
      go_wp2_with fail
      go_roundg g
      case rel => exact ⟨k + 1, by omega, by simp, ht2.congr fun j _ => putT_take hp j, (hb.alloc hb.size _).trans hb2⟩
      case measure => omega

end Go.Proofs.Ytlejcjgbkbmdmaa.span
