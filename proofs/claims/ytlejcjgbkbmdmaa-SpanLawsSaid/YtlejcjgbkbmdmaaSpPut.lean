/-
  Package span: the set of ticks in memory; put; spans.
-/
import Derived.Test.YtlejcjgbkbmdmaaProg
import Derived.WalkKit
import Derived.ProofKit
import Derived.Handy
import Derived.Deep.LoopGhost
import Derived.Deep.QuietTactic
import Derived.BigQuiet
import Derived.Deep.DeepCutAuto
namespace Go.Proofs.Ytlejcjgbkbmdmaa.span
open Go Go.Proofs Go.RowKit
set_option maxRecDepth 10000

/-- A set of ticks that lies in memory. -/
structure Tab (w : World) (M : Nat) (t : Nat → Bool) : Prop where
  cell : ∀ k, k < 200 → w.cell? ⟨M, k, none⟩ = some (.bool (t k))
  free : ∀ k, w.frozen? ⟨M, k, none⟩ = false
theorem Tab.lt {w : World} {M : Nat} {t : Nat → Bool} (h : Tab w M t) : M < w.heap.size := World.block_lt_of_cell? _ _ (h.cell 0 (by omega))

theorem Tab.carry {w w' : World} {B M : Nat} {t : Nat → Bool} (h : Tab w M t) (hb : Below B w w') (hM : M < B) : Tab w' M t :=
  ⟨fun k hk => (hb.cell (p := ⟨M, k, none⟩) hM).trans (h.cell k hk), fun k => (hb.frozen (p := ⟨M, k, none⟩) hM).trans (h.free k)⟩
theorem Tab.set {w : World} {M k : Nat} {t : Nat → Bool} {v : Bool} (h : Tab w M t) (hk : k < 200) : Tab (w.setCell ⟨M, k, none⟩ (.bool v)) M (fun j => if j = k then v else t j) := by
  refine ⟨fun j hj => ?_, fun j => by simpa using h.free j⟩
  by_cases e : j = k
  · subst e
    rw [if_pos rfl]
    exact World.cell?_setCell_same _ _ _ (h.cell j hj)
  · rw [if_neg e]
    exact (World.cell?_setCell_other _ _ _ _ (by simp; try omega)).trans (h.cell j hj)
theorem Tab.congr {w : World} {M : Nat} {t u : Nat → Bool} (h : Tab w M t) (he : ∀ k, k < 200 → t k = u k) : Tab w M u := ⟨fun k hk => by rw [← he k hk]; exact h.cell k hk, h.free⟩

/-- A span's ticks put in. -/
def putT (t : Nat → Bool) (a b : Int) (k : Nat) : Bool := t k || decide (a ≤ k ∧ (k : Int) ≤ b)

theorem Tab.alloc {w : World} {M : Nat} {t : Nat → Bool} (h : Tab w M t) (o : Obj) : Tab (w.alloc o) M t :=
  h.carry ((Below.refl (M + 1) w).alloc (by have := h.lt; omega) o) (by omega)
theorem put_start {w : World} {M : Nat} {t : Nat → Bool} {a b : Int} {k : Nat} (h : Tab w M t) (hk : (k : Int) ≤ a ∨ k = 0) : Tab w M (fun j => t j || decide (a ≤ j ∧ (j : Int) ≤ b ∧ j < k)) :=
  h.congr fun j _ => by
    have : ¬ (a ≤ (j : Int) ∧ (j : Int) ≤ b ∧ j < k) := by omega
    simp [this]
theorem put_step {w : World} {M : Nat} {t : Nat → Bool} {a b : Int} {k : Nat} (h : Tab w M (fun j => t j || decide (a ≤ j ∧ (j : Int) ≤ b ∧ j < k))) (hk : k < 200) (ha : a ≤ k) (hb : (k : Int) ≤ b) :
    Tab (w.setCell ⟨M, k, none⟩ (.bool true)) M (fun j => t j || decide (a ≤ j ∧ (j : Int) ≤ b ∧ j < k + 1)) :=
  (h.set hk).congr fun j _ => by
    by_cases e : j = k
    · subst e
      have : a ≤ (j : Int) ∧ (j : Int) ≤ b ∧ j < j + 1 := ⟨ha, hb, by omega⟩
      simp [this]
    · have : (a ≤ (j : Int) ∧ (j : Int) ≤ b ∧ j < k + 1) ↔ (a ≤ (j : Int) ∧ (j : Int) ≤ b ∧ j < k) := by omega
      simp [e, this]
theorem put_end {t : Nat → Bool} {a b : Int} {k j : Nat} (hj : ¬ ((k : Int) ≤ b ∧ k ≤ 199)) (h : j < 200) : (t j || decide (a ≤ j ∧ (j : Int) ≤ b ∧ j < k)) = putT t a b j := by
  have : (a ≤ (j : Int) ∧ (j : Int) ≤ b ∧ j < k) ↔ (a ≤ (j : Int) ∧ (j : Int) ≤ b) := by omega
  simp only [putT, this]

theorem put_walk (M : Nat) (t : Nat → Bool) (a b : Int) (w : World) (ht : Tab w M t) (ha : -9223372036854775808 ≤ a ∧ a ≤ 9223372036854775807) (hb : -9223372036854775808 ≤ b ∧ b ≤ 9223372036854775807) :
    Calls Try.prog 25 #[.pointer (some ⟨M, 0, none⟩), .agg #[.int .i64 a, .int .i64 b]] w fun e w' => e = .returned (.tuple #[]) ∧ Tab w' M (putT t a b) ∧ Below M w w' := by
  have hlt := ht.lt
  go_enter Try.func25, Try.ntmps25
  go_wp2_with fail
  · go_loopg [4] 200 (fun g i wr => ∃ k : Nat, 200 - k ≤ g ∧ i = .int .i64 k ∧ a ≤ k ∧ Tab wr M (fun j => t j || decide (a ≤ j ∧ (j : Int) ≤ b ∧ j < k)) ∧ Below M w wr ∧ (k : Int) ≤ 9223372036854775807 ∧ wr.cell? ⟨w.heap.size, 1, none⟩ = some (.int .i64 b))
    case atStart => exact ⟨0, by omega, by first | rfl | (simp; omega), by omega, put_start (ht.alloc _) (by omega), by go_grown, by omega, by go_cell⟩
    case round =>
      obtain ⟨k, hg, rfl, hak, htk, hbk, h63, hc1⟩ := hrel
      by_cases hin : (k : Int) ≤ b ∧ k ≤ 199
      · obtain ⟨g, rfl⟩ : ∃ g, gk = g + 1 := ⟨gk - 1, by omega⟩
        have hcell := htk.cell k (by omega)
        have hfr := htk.free k
        have hT := put_step htk (by omega) hak hin.1
        have hB := hbk.setCell (p := ⟨M, k, none⟩) (Nat.le_refl _) (.bool true)
        have hC : (wr.setCell ⟨M, k, none⟩ (.bool true)).cell? ⟨w.heap.size, 1, none⟩ = some (.int .i64 b) := (World.cell?_setCell_other _ _ _ _ (by simp; try omega)).trans hc1
        go_wp2_with fail
        all_goals
          go_roundg g
        all_goals first | omega | exact ⟨k + 1, by omega, by simp, by omega, hT, hB, by omega, hC⟩
      · go_wp2_with fail
        all_goals go_returns
        all_goals exact ⟨rfl, htk.congr fun j hj => put_end hin hj, hbk⟩
  · go_loopg [4] 200 (fun g i wr => ∃ k : Nat, 200 - k ≤ g ∧ i = .int .i64 k ∧ a ≤ k ∧ Tab wr M (fun j => t j || decide (a ≤ j ∧ (j : Int) ≤ b ∧ j < k)) ∧ Below M w wr ∧ (k : Int) ≤ 9223372036854775807 ∧ wr.cell? ⟨w.heap.size, 1, none⟩ = some (.int .i64 b))
    case atStart => exact ⟨a.toNat, by omega, by first | rfl | (simp; omega), by omega, put_start (ht.alloc _) (by omega), by go_grown, by omega, by go_cell⟩
    case round =>
      obtain ⟨k, hg, rfl, hak, htk, hbk, h63, hc1⟩ := hrel
      by_cases hin : (k : Int) ≤ b ∧ k ≤ 199
      · obtain ⟨g, rfl⟩ : ∃ g, gk = g + 1 := ⟨gk - 1, by omega⟩
        have hcell := htk.cell k (by omega)
        have hfr := htk.free k
        have hT := put_step htk (by omega) hak hin.1
        have hB := hbk.setCell (p := ⟨M, k, none⟩) (Nat.le_refl _) (.bool true)
        have hC : (wr.setCell ⟨M, k, none⟩ (.bool true)).cell? ⟨w.heap.size, 1, none⟩ = some (.int .i64 b) := (World.cell?_setCell_other _ _ _ _ (by simp; try omega)).trans hc1
        go_wp2_with fail
        all_goals
          go_roundg g
        all_goals first | omega | exact ⟨k + 1, by omega, by simp, by omega, hT, hB, by omega, hC⟩
      · go_wp2_with fail
        all_goals go_returns
        all_goals exact ⟨rfl, htk.congr fun j hj => put_end hin hj, hbk⟩

end Go.Proofs.Ytlejcjgbkbmdmaa.span
