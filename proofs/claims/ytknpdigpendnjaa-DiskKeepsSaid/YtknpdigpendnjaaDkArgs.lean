/-
  Lists of bytes that came in.
-/
import Derived.Test.YtknpdigpendnjaaChecked
import Derived.Test.YtknpdigpendnjaaDkFuse
import Derived.Deep.Slices
namespace Go.Proofs.Ytknpdigpendnjaa.disk
open Go Go.Proofs Go.RowKit Go.ChangeShapes Go.WideShapes Go.ChangeAt Go.Deep

theorem own : ownKnob Try.prog.godebug = none := by kernel_rfl
theorem laid : laidOutB Try.prog = true := by kernel_rfl
theorem cells5 : Try.prog.cellsOf 5 = 1 := by kernel_rfl
theorem cells37 : Try.prog.cellsOf 37 = 1 := by kernel_rfl

/-- One list of bytes, wherever it lies. -/
theorem bytes_cells {H : Type} {enc : TypeId × Value → H} {W : World} {fuel : Nat} {cs : List Value} {x : DataW H × List MemPlace} (h : DataW.trod enc Try.prog W 0 (fun _ => true) true fuel 37 cs = some x) :
    ∃ (p : Option Addr × Nat × List Int), cs = [.slice p.1 p.2.2.length p.2.1] ∧ (∀ D, W.heap.size ≤ D → Byt D W p.1 p.2.2) ∧ (p.1 = none → p.2.2 = [] ∧ p.2.1 = 0) ∧ p.2.2.length ≤ p.2.1 ∧ p.2.1 ≤ 9223372036854775807 := by
  rcases open_ints Try.underlying37 Try.underlying5 cells5 h with ⟨rfl, _⟩ | ⟨a, len, cap, zs, rfl, _, hl, hm, hz, _, hcell, hwz⟩
  · exact ⟨(none, 0, []), rfl, fun D _ => Byt.nil, fun _ => ⟨rfl, rfl⟩, Nat.le_refl _, by simp⟩
  · simp only [if_true] at hz
    have hml : maxLen = 9223372036854775807 := rfl
    have hlen : (zs.take len).length = len := by rw [List.length_take]; omega
    refine ⟨(some a, cap, zs.take len), by rw [hlen], fun D hD => ⟨fun hne => ?_, fun x hx => ?_⟩, fun h => (by cases h), (by rw [hlen]; exact hl), (by rw [← hml]; exact hm)⟩
    · have h00 : 0 < len := by
        rcases Nat.eq_zero_or_pos len with h | h
        · subst h; simp at hne
        · exact h
      have hc0 := hcell 0 (by omega)
      have hsp : a.spot = none := by simpa [Addr.add] using World.cell?_spot hc0
      obtain ⟨b, off, spot⟩ := a
      simp only at hsp
      subst hsp
      have hadd : ∀ j, (⟨b, off, none⟩ : Addr).add j = ⟨b, off + j, none⟩ := fun j => by simp only [Addr.add]; split <;> simp_all
      have hbl := World.block_lt_of_cell? _ _ hc0
      rw [hadd] at hbl
      have hbl' : b < W.heap.size := hbl
      refine ⟨b, off, rfl, hbl', by omega, fun i x hx => ?_⟩
      rw [List.getElem?_take] at hx
      split at hx
      · have := hcell i (by omega)
        rw [hadd] at this
        rw [this]
        simp [List.getD, hx]
      · cases hx
    · have := hwz x (List.mem_of_mem_take hx)
      have h1 : IntKind.u8.min = 0 := rfl
      have h2 : IntKind.u8.max = 255 := rfl
      simp only [Lit.wf, Bool.and_eq_true, decide_eq_true_eq] at this
      omega

theorem parts_arg {H : Type} {enc : TypeId × Value → H} {W : World} {v0 : Value} {d0 : DataW H} {p0 : List MemPlace} (hs : ∃ a len cap, v0 = .slice a len cap) (h0 : DataW.Trod enc Try.prog W 0 (fun _ => true) true 51 v0 d0 p0) :
    ∃ ao ls cap, v0 = .slice ao ls.length cap ∧ ArgParts W ao ls ∧ ls.length ≤ 9223372036854775807 := by
  obtain ⟨ao, len, cap, rfl⟩ := hs
  obtain ⟨fuel, hf⟩ := h0
  rcases open_slice Try.underlying51 hf with ⟨hcs, hx⟩ | ⟨a, len', cap', m, n, D, Pl, hcs, _, hl, hm, hmm, _, hc⟩
  · simp [Value.cells] at hcs
    obtain ⟨rfl, rfl, rfl⟩ := hcs
    exact ⟨none, [], 0, rfl, ⟨fun D _ => ⟨fun h => absurd rfl h, fun x hx => by cases hx⟩, fun x hx => by cases hx⟩, by simp⟩
  · simp [Value.cells] at hcs
    obtain ⟨rfl, rfl, rfl⟩ := hcs
    simp only [if_true] at hmm
    have hml : maxLen = 9223372036854775807 := rfl
    have hnum : ∀ i, i < m → ∃ p : Option Addr × Nat × List Int, W.cell? (a.add i) = some (.slice p.1 p.2.2.length p.2.1) ∧ (∀ D, W.heap.size ≤ D → Byt D W p.1 p.2.2) ∧ (p.1 = none → p.2.2 = [] ∧ p.2.1 = 0) ∧ p.2.2.length ≤ p.2.1 ∧ p.2.1 ≤ 9223372036854775807 := by
      intro i hi
      obtain ⟨cs', h1, h2⟩ := hc i hi
      obtain ⟨p, rfl, q1, q2, q3, q4⟩ := bytes_cells h2
      rw [cells37] at h1
      have h3 := World.cells?_some h1
      have h4 := h3.2.2 0 (by simp)
      simp only [Nat.mul_one] at h4
      refine ⟨p, ?_, q1, q2, q3, q4⟩
      simpa [Addr.add] using h4
    obtain ⟨F, hF⟩ : ∃ F : Nat → Option Addr × Nat × List Int, ∀ i, i < m → W.cell? (a.add i) = some (.slice (F i).1 (F i).2.2.length (F i).2.1) ∧ (∀ D, W.heap.size ≤ D → Byt D W (F i).1 (F i).2.2) ∧ ((F i).1 = none → (F i).2.2 = [] ∧ (F i).2.1 = 0) ∧ (F i).2.2.length ≤ (F i).2.1 ∧ (F i).2.1 ≤ 9223372036854775807 := by
      refine ⟨fun i => if h : i < m then (hnum i h).choose else (none, 0, []), fun i hi => ?_⟩
      simp only [hi, dif_pos]
      exact (hnum i hi).choose_spec
    refine ⟨some a, (List.range len).map F, cap, by simp, ⟨fun D hD => ⟨fun hne => ?_, fun p hp => ?_⟩, fun p hp => ?_⟩, by simp; omega⟩
    · have h00 : 0 < len := by
        rcases Nat.eq_zero_or_pos len with h | h
        · subst h; simp at hne
        · exact h
      have hc0 := (hF 0 (by omega)).1
      have hsp : a.spot = none := by simpa [Addr.add] using World.cell?_spot hc0
      obtain ⟨b, off, spot⟩ := a
      simp only at hsp
      subst hsp
      have hadd : ∀ j, (⟨b, off, none⟩ : Addr).add j = ⟨b, off + j, none⟩ := fun j => by simp only [Addr.add]; split <;> simp_all
      have hbl := World.block_lt_of_cell? _ _ hc0
      rw [hadd] at hbl
      have hbl' : b < W.heap.size := hbl
      refine ⟨b, off, rfl, hbl', by omega, fun i p hp => ?_⟩
      have hi : i < len := by have := (List.getElem?_eq_some_iff.mp hp).1; simpa using this
      have hpF : p = F i := by
        have h2 : ((List.range len).map F)[i]? = some (F i) := by simp [hi]
        rw [h2] at hp; exact (Option.some.inj hp).symm
      subst hpF
      have := hF i (by omega)
      rw [hadd] at this
      exact this.1
    · obtain ⟨i, hi, rfl⟩ := List.mem_map.mp hp
      have := hF i (by have := List.mem_range.mp hi; omega)
      exact ⟨this.2.1 D hD, this.2.2.1⟩
    · obtain ⟨i, hi, rfl⟩ := List.mem_map.mp hp
      have := hF i (by have := List.mem_range.mp hi; omega)
      exact ⟨this.2.2.2.1, this.2.2.2.2⟩

end Go.Proofs.Ytknpdigpendnjaa.disk
