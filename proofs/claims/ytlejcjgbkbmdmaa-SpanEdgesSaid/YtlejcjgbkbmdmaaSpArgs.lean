/-
  Slices of numbers and of spans that came in.
-/
import Derived.Test.YtlejcjgbkbmdmaaChecked
import Derived.Test.YtlejcjgbkbmdmaaSpSets
namespace Go.Proofs.Ytlejcjgbkbmdmaa.span
open Go Go.Proofs Go.RowKit Go.ChangeShapes Go.WideShapes Go.ChangeAt

theorem own : ownKnob Try.prog.godebug = none := by kernel_rfl
theorem laid : laidOutB Try.prog = true := by kernel_rfl
theorem cells3 : Try.prog.cellsOf 3 = 1 := by kernel_rfl

theorem ints_arg {H : Type} {enc : TypeId × Value → H} {W : World} {v0 : Value} {d0 : DataW H} {p0 : List MemPlace} (hs : ∃ a len cap, v0 = .slice a len cap) (h0 : DataW.Trod enc Try.prog W 0 (fun _ => true) true 30 v0 d0 p0) :
    ∃ ao l cap, v0 = .slice ao l.length cap ∧ Nums W ao l ∧ l.length ≤ cap ∧ cap ≤ 9223372036854775807 := by
  obtain ⟨ao, len, cap, rfl⟩ := hs
  obtain ⟨fuel, hf⟩ := h0
  rcases open_ints Try.underlying30 Try.underlying3 cells3 hf with ⟨hcs, hx⟩ | ⟨a, len', cap', zs, hcs, _, hl, hm, hz, hx, hcell, hwz⟩
  · simp [Value.cells] at hcs
    obtain ⟨rfl, rfl, rfl⟩ := hcs
    exact ⟨none, [], 0, rfl, ⟨fun h => absurd rfl h, fun x hx => by cases hx⟩, Nat.le_refl _, by omega⟩
  · simp [Value.cells] at hcs
    obtain ⟨rfl, rfl, rfl⟩ := hcs
    simp only [if_true] at hz
    have hml : maxLen = 9223372036854775807 := rfl
    have hlen : (zs.take len).length = len := by rw [List.length_take]; omega
    refine ⟨some a, zs.take len, cap, by rw [hlen], ⟨fun hne => ?_, fun x hx => ?_⟩, by omega, by omega⟩
    · have h00 : 0 < len := by
        rcases Nat.eq_zero_or_pos len with h | h
        · subst h; simp at hne
        · exact h
      have hc0 := hcell 0 (by omega)
      have hsp : a.spot = none := by simpa [Addr.add] using World.cell?_spot hc0
      obtain ⟨b, off, spot⟩ := a
      simp only at hsp
      subst hsp
      refine ⟨b, off, rfl, ?_, fun i x hx => ?_⟩
      · have := World.block_lt_of_cell? _ _ hc0
        simpa [Addr.add] using this
      · rw [List.getElem?_take] at hx
        split at hx
        · rename_i hi
          have := hcell i (by omega)
          rw [show (⟨b, off, none⟩ : Addr).add i = ⟨b, off + i, none⟩ by simp only [Addr.add]; split <;> simp_all] at this
          rw [this]
          simp [List.getD, hx]
        · cases hx
    · have := hwz x (List.mem_of_mem_take hx)
      have h1 : IntKind.i64.min = -9223372036854775808 := rfl
      have h2 : IntKind.i64.max = 9223372036854775807 := rfl
      simp only [Lit.wf, Bool.and_eq_true, decide_eq_true_eq] at this
      omega

end Go.Proofs.Ytlejcjgbkbmdmaa.span
