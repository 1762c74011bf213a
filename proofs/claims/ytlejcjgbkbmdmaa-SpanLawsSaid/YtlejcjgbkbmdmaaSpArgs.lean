/-
  Slices of numbers and of spans that came in.
-/
import Derived.Test.YtlejcjgbkbmdmaaChecked
import Derived.Test.YtlejcjgbkbmdmaaSpSets
import Derived.Deep.SlicePairs
namespace Go.Proofs.Ytlejcjgbkbmdmaa.span
open Go Go.Proofs Go.RowKit Go.ChangeShapes Go.WideShapes Go.ChangeAt Go.Deep

theorem own : ownKnob Try.prog.godebug = none := by kernel_rfl
theorem laid : laidOutB Try.prog = true := by kernel_rfl
theorem cells3 : Try.prog.cellsOf 3 = 1 := by kernel_rfl

theorem ints_arg {H : Type} {enc : TypeId × Value → H} {W : World} {v0 : Value} {d0 : DataW H} {p0 : List MemPlace} (hs : ∃ a len cap, v0 = .slice a len cap) (h0 : DataW.Trod enc Try.prog W 0 (fun _ => true) true 30 v0 d0 p0) :
    ∃ ao l cap, v0 = .slice ao l.length cap ∧ Nums W ao l ∧ l.length ≤ cap ∧ cap ≤ 9223372036854775807 := by
  obtain ⟨ao, len, cap, rfl⟩ := hs
  obtain ⟨fuel, hf⟩ := h0
  rcases open_ints Try.underlying30 Try.underlying3 cells3 hf with ⟨hcs, hx⟩ | ⟨a, len', cap', zs, hcs, _, hl, hm, hz, hx, hcell, hwz⟩
  · simp [Value.cells] at hcs
    obtain ⟨rfl, rfl, rfl⟩ := hcs
    exact ⟨none, [], 0, rfl, ⟨fun h => absurd rfl h, fun x hx => by cases hx⟩, Nat.le_refl _, by omega⟩
  · simp [Value.cells] at hcs
    obtain ⟨rfl, rfl, rfl⟩ := hcs
    simp only [if_true] at hz
    have hml : maxLen = 9223372036854775807 := rfl
    have hlen : (zs.take len).length = len := by rw [List.length_take]; omega
    refine ⟨some a, zs.take len, cap, by rw [hlen], ⟨fun hne => ?_, fun x hx => ?_⟩, by omega, by omega⟩
    · have h00 : 0 < len := by
        rcases Nat.eq_zero_or_pos len with h | h
        · subst h; simp at hne
        · exact h
      have hc0 := hcell 0 (by omega)
      have hsp : a.spot = none := by simpa [Addr.add] using World.cell?_spot hc0
      obtain ⟨b, off, spot⟩ := a
      simp only at hsp
      subst hsp
      refine ⟨b, off, rfl, ?_, fun i x hx => ?_⟩
      · have := World.block_lt_of_cell? _ _ hc0
        simpa [Addr.add] using this
      · rw [List.getElem?_take] at hx
        split at hx
        · rename_i hi
          have := hcell i (by omega)
          rw [show (⟨b, off, none⟩ : Addr).add i = ⟨b, off + i, none⟩ by simp only [Addr.add]; split <;> simp_all] at this
          rw [this]
          simp [List.getD, hx]
        · cases hx
    · have := hwz x (List.mem_of_mem_take hx)
      have h1 : IntKind.i64.min = -9223372036854775808 := rfl
      have h2 : IntKind.i64.max = 9223372036854775807 := rfl
      simp only [Lit.wf, Bool.and_eq_true, decide_eq_true_eq] at this
      omega

theorem cells26 : Try.prog.cellsOf 26 = 2 := by kernel_rfl

theorem spans_arg {H : Type} {enc : TypeId × Value → H} {W : World} {v0 : Value} {d0 : DataW H} {p0 : List MemPlace} (hs : ∃ a len cap, v0 = .slice a len cap) (h0 : DataW.Trod enc Try.prog W 0 (fun _ => true) true 22 v0 d0 p0) :
    ∃ ao l cap, v0 = .slice ao l.length cap ∧ Spn W ao l ∧ l.length ≤ cap ∧ cap ≤ 9223372036854775807 := by
  obtain ⟨ao, len, cap, rfl⟩ := hs
  obtain ⟨fuel, hf⟩ := h0
  rcases open_slice_pairs Try.underlying22 Try.underlying26 cells26 rfl rfl cells3 cells3 hf with ⟨hcs, hx⟩ | ⟨a, len', cap', m, n, V0, V1, D0, D1, P0, P1, hcs, _, hl, hm, hmm, _, hc⟩
  · simp [Value.cells] at hcs
    obtain ⟨rfl, rfl, rfl⟩ := hcs
    exact ⟨none, [], 0, rfl, ⟨fun h => absurd rfl h, fun x hx => by cases hx⟩, Nat.le_refl _, by omega⟩
  · simp [Value.cells] at hcs
    obtain ⟨rfl, rfl, rfl⟩ := hcs
    simp only [if_true] at hmm
    have hml : maxLen = 9223372036854775807 := rfl
    have hnum : ∀ i, i < m → ∃ p : Int × Int, W.cell? (a.add (i * 2)) = some (.int .i64 p.1) ∧ W.cell? (a.add (i * 2 + 1)) = some (.int .i64 p.2) ∧ (-9223372036854775808 ≤ p.1 ∧ p.1 ≤ 9223372036854775807) ∧ (-9223372036854775808 ≤ p.2 ∧ p.2 ≤ 9223372036854775807) := by
      intro i hi
      obtain ⟨c0, c1, t0, t1⟩ := hc i hi
      obtain ⟨x, hx, _, wx⟩ := DataW.trod_int Try.underlying3 t0
      obtain ⟨y, hy, _, wy⟩ := DataW.trod_int Try.underlying3 t1
      have ex : V0 i = .int .i64 x := by simpa using hx
      have ey : V1 i = .int .i64 y := by simpa using hy
      have h1 : IntKind.i64.min = -9223372036854775808 := rfl
      have h2 : IntKind.i64.max = 9223372036854775807 := rfl
      simp only [Lit.wf, Bool.and_eq_true, decide_eq_true_eq] at wx wy
      exact ⟨(x, y), by rw [c0, ex], by rw [c1, ey], by dsimp only; omega, by dsimp only; omega⟩
    obtain ⟨F, hF⟩ : ∃ F : Nat → Int × Int, ∀ i, i < m → W.cell? (a.add (i * 2)) = some (.int .i64 (F i).1) ∧ W.cell? (a.add (i * 2 + 1)) = some (.int .i64 (F i).2) ∧ (-9223372036854775808 ≤ (F i).1 ∧ (F i).1 ≤ 9223372036854775807) ∧ (-9223372036854775808 ≤ (F i).2 ∧ (F i).2 ≤ 9223372036854775807) := by
      refine ⟨fun i => if h : i < m then (hnum i h).choose else (0, 0), fun i hi => ?_⟩
      simp only [hi, dif_pos]
      exact (hnum i hi).choose_spec
    refine ⟨some a, (List.range len).map F, cap, by simp, ⟨fun hne => ?_, fun p hp => ?_⟩, by simpa using hl, by omega⟩
    · have h00 : 0 < len := by
        rcases Nat.eq_zero_or_pos len with h | h
        · subst h; simp at hne
        · exact h
      have hc0 := (hF 0 (by omega)).1
      have hsp : a.spot = none := by simpa [Addr.add] using World.cell?_spot hc0
      obtain ⟨b, off, spot⟩ := a
      simp only at hsp
      subst hsp
      have hadd : ∀ j, (⟨b, off, none⟩ : Addr).add j = ⟨b, off + j, none⟩ := fun j => by simp only [Addr.add]; split <;> simp_all
      refine ⟨b, off, rfl, ?_, fun i p hp => ?_⟩
      · have := World.block_lt_of_cell? _ _ hc0
        rwa [hadd] at this
      · have hi : i < len := by have := (List.getElem?_eq_some_iff.mp hp).1; simpa using this
        have hpF : p = F i := by
          have h2 : ((List.range len).map F)[i]? = some (F i) := by simp [hi]
          rw [h2] at hp; exact (Option.some.inj hp).symm
        subst hpF
        have := hF i (by omega)
        rw [hadd, hadd] at this
        exact ⟨this.1, by rw [Nat.add_assoc]; exact this.2.1⟩
    · obtain ⟨i, hi, rfl⟩ := List.mem_map.mp hp
      have := hF i (by have := List.mem_range.mp hi; omega)
      exact ⟨this.2.2.1, this.2.2.2⟩

end Go.Proofs.Ytlejcjgbkbmdmaa.span
