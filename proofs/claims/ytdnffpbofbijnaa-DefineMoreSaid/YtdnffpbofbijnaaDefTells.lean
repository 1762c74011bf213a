/-
  DefineTells: the law's own walk.
-/
import Derived.Test.YtdnffpbofbijnaaDefRow
import Derived.Test.YtdnffpbofbijnaaDefPlain
import Derived.Test.YtdnffpbofbijnaaAhOld
namespace Go.Proofs.Ytdnffpbofbijnaa.define
open Go Go.Proofs Go.RowKit Go.Proofs.Ytdnffpbofbijnaa.AH
set_option maxRecDepth 10000

theorem mixed : Try.prog.follows .mixedOrders = true := by kernel_rfl
theorem runs_run : isTrue (callF Try.prog (regionF Try.prog) 1000 3 [] (AHeap.init 0)) = true := by kernel_rfl
/-- The closed sentence that each law ends in. -/
theorem runs_old (w : World) : Calls Try.prog 3 #[] w fun e w' => e = .returned (.bool true) ∧ Old w w' := closed_old mixed Try.func3 (by kernel_rfl) rfl runs_run w

/-- What the law reads out of its numbers: a row of its own. -/
def RowOf (w : World) (v : Value) (m : Nat) (f : Nat → Int) : Prop :=
  Calls Try.prog 9 #[v] w fun e w' => ∃ u, e = .returned u ∧ w'.ownsRow w.heap.size 3 1 u m ((List.range m).map fun i => .int .i64 (f i)) ∧ Below w.heap.size w w'

theorem own_cases {w : World} {B m : Nat} {u : Value} {f : Nat → Int} (h : w.ownsRow B 3 1 u m ((List.range m).map fun i => .int .i64 (f i))) :
    (u = .slice none 0 0 ∧ m = 0) ∨ ∃ b cap, u = .slice (some ⟨b, 0, none⟩) m cap ∧ B ≤ b ∧ b < w.heap.size ∧ RowIs w ⟨b, 0, none⟩ m f := by
  have h0 := h
  obtain ⟨_, h | ⟨b, cap, cur, rfl, hg, hh, hn, hc, hs, ht⟩⟩ := h
  · exact .inl h
  · refine .inr ⟨b, cap, rfl, hg, (Array.getElem?_eq_some_iff.mp hh).1, fun i hi => ?_⟩
    have := h0.cellAt i (by omega)
    rw [show (⟨b, 0, none⟩ : Addr).add i = ⟨b, i, none⟩ by simp only [Addr.add]; split <;> simp_all]
    rw [this]; simp [hi]

set_option maxHeartbeats 1000000 in
theorem tells_walk (v : Value) (m : Nat) (f : Nat → Int) (hm : m ≤ 24) (step long keep : Int) (w : World) (hrow : RowOf w v m f) :
    Calls Try.prog 4 #[v, .int .i64 step, .int .i64 long, .int .i64 keep] w fun e w' => e = .returned (.bool true) ∧ Old w w' := by
  go_enter Try.func4, Try.ntmps4
  go_wp2_with fail
  refine hrow.mono ?_
  rintro e w1 ⟨u, rfl, hown, hb⟩
  clear hrow
  go_wp2_with fail
  refine (within_walk step 1 9 w1 (by omega) (by omega) (by omega)).mono ?_
  rintro e w' ⟨rfl, rfl⟩
  go_wp2_with fail
  refine (within_walk long 0 40 w' (by omega) (by omega) (by omega)).mono ?_
  rintro e w' ⟨rfl, rfl⟩
  go_wp2_with fail
  refine (within_walk keep 0 40 w' (by omega) (by omega) (by omega)).mono ?_
  rintro e w' ⟨rfl, rfl⟩
  have hs := withinV_in step 1 9 (by omega)
  have hl := withinV_in long 0 40 (by omega)
  have hk := withinV_in keep 0 40 (by omega)
  generalize withinV step 1 9 = b at hs ⊢
  generalize withinV long 0 40 = lo at hl ⊢
  generalize withinV keep 0 40 = ke at hk ⊢
  rcases own_cases hown with ⟨rfl, rfl⟩ | ⟨bl, cap, rfl, hB, hB', hf⟩
  · go_wp2_with fail
    go_loopg [24] 0 (fun g i wr => g = 0 ∧ i = .int .i64 0 ∧ wr = w')
    case atStart => exact ⟨rfl, rfl, rfl⟩
    case round =>
      obtain ⟨rfl, rfl, rfl⟩ := hrel
      go_wp2_with fail
      refine (runs_old wr).mono ?_
      rintro e w2 ⟨rfl, hold⟩
      go_wp2
      go_ret
      exact ⟨rfl, (Old.of_below hb).trans hold⟩
  · go_wp2_with fail
    go_loopg [24] m (fun g i wr => ∃ k : Nat, k + g = m ∧ i = .int .i64 k ∧ wr = w')
    case atStart => exact ⟨0, by omega, rfl, rfl⟩
    case round =>
      obtain ⟨k, hkm, rfl, rfl⟩ := hrel
      cases gk with
      | zero =>
        have : k = m := by omega
        subst this
        go_wp2_with fail
        refine (runs_old wr).mono ?_
        rintro e w2 ⟨rfl, hold⟩
        go_wp2
        go_ret
        exact ⟨rfl, (Old.of_below hb).trans hold⟩
      | succ g =>
        have c1 := fires_walk ⟨bl, 0, none⟩ m cap f b lo ke wr hf hm hs.1 hs.2 hl.1 (by omega) hk.1 (by omega) (k + 1) (by omega)
        rw [show (((k + 1 : Nat) : Int) - 1) = (k : Int) by omega] at c1
        have c2 := refFires_walk ⟨bl, 0, none⟩ m cap f b lo ke wr hf hm hs.1 hs.2 k (by omega)
        have c3 := state_walk ⟨bl, 0, none⟩ m cap f b lo ke wr hf hm hs.1 hs.2 hl.1 (by omega) hk.1 (by omega) k (by omega)
        have c4 := refState_walk ⟨bl, 0, none⟩ m cap f b lo ke wr hf hm hs.1 hs.2 k (by omega)
        rw [← fires_ref hs.1 hk.1] at c2
        rw [← state_ref hs.1 hk.1] at c4
        go_wp2_with fail
        refine c1.mono ?_
        rintro e w2 ⟨rfl, rfl⟩
        go_wp2_with fail
        refine c2.mono ?_
        rintro e w3 ⟨rfl, rfl⟩
        go_wp2_with fail
        refine c3.mono ?_
        rintro e w4 ⟨rfl, rfl⟩
        go_wp2_with fail
        refine c4.mono ?_
        rintro e w5 ⟨rfl, rfl⟩
        go_wp2
        go_roundg g
        case rel => exact ⟨k + 1, by omega, by simp, rfl⟩
        case measure => omega

end Go.Proofs.Ytdnffpbofbijnaa.define
