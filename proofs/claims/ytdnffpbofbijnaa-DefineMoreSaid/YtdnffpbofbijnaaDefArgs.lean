/-
  A slice of numbers that came in, as the law's own row reads it.
-/
import Derived.Test.YtdnffpbofbijnaaChecked
import Derived.Test.YtdnffpbofbijnaaDefTells
namespace Go.Proofs.Ytdnffpbofbijnaa.define
open Go Go.Proofs Go.RowKit Go.ChangeShapes Go.WideShapes Go.ChangeAt

theorem own : ownKnob Try.prog.godebug = none := by kernel_rfl
theorem laid : laidOutB Try.prog = true := by kernel_rfl
theorem cells3 : Try.prog.cellsOf 3 = 1 := by kernel_rfl

theorem cell_lt {w : World} {a : Addr} {v : Value} (h : w.cell? a = some v) : a.block < w.heap.size := by
  rcases Nat.lt_or_ge a.block w.heap.size with h0 | h0
  · exact h0
  · exfalso
    have : w.heap[a.block]? = none := Array.getElem?_eq_none h0
    simp [World.cell?, this] at h

theorem rowE_three (x : Int) : rowE x = 0 ∨ rowE x = 1 ∨ rowE x = 2 := by
  unfold rowE rowW
  split
  · exact .inr (.inr rfl)
  · split
    · exact .inl rfl
    · exact .inr (.inl rfl)

theorem row_of_arg {H : Type} {enc : TypeId × Value → H} {W : World} {v0 : Value} {d0 : DataW H} {p0 : List MemPlace} (hs : ∃ a len cap, v0 = .slice a len cap) (h0 : DataW.Trod enc Try.prog W 0 (fun _ => true) true 22 v0 d0 p0) :
    ∃ m f, m ≤ 24 ∧ (∀ i, f i = 0 ∨ f i = 1 ∨ f i = 2) ∧ RowOf W v0 m f := by
  obtain ⟨ao, len, cap, rfl⟩ := hs
  obtain ⟨fuel, hf⟩ := h0
  rcases open_ints Try.underlying22 Try.underlying3 cells3 hf with ⟨hcs, hx⟩ | ⟨a, len', cap', zs, hcs, _, hl, hm, hz, hx, hcell, hwz⟩
  · simp [Value.cells] at hcs
    obtain ⟨rfl, rfl, rfl⟩ := hcs
    exact ⟨0, fun _ => 0, by omega, fun _ => .inl rfl, row_walk0 none 0 W⟩
  · simp [Value.cells] at hcs
    obtain ⟨rfl, rfl, rfl⟩ := hcs
    simp only [if_true] at hz
    have hml : maxLen = 9223372036854775807 := rfl
    exact ⟨min len 24, fun i => rowE (zs.getD i 0), by omega, fun _ => rowE_three _, row_walk a len cap (fun i => zs.getD i 0) W (fun i hi => hcell i (by omega)) (by omega) (fun h => by have := cell_lt (hcell 0 (by omega)); rwa [add_block] at this)⟩

end Go.Proofs.Ytdnffpbofbijnaa.define
