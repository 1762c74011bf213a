/-
  slices.Concat over bytes.
-/
import Derived.Test.YtknpdigpendnjaaDkBase
import Derived.Laws.AppendOwnNone
namespace Go.Proofs.Ytknpdigpendnjaa.disk
open Go Go.Proofs Go.RowKit Go.Proofs.Ytknpdigpendnjaa.AH
set_option maxRecDepth 10000

/-- Lists of bytes that lie in memory, aside of block D. -/
structure Parts (D : Nat) (w : World) (ao : Option Addr) (ls : List (Option Addr × Nat × List Int)) : Prop where
  lie : ls ≠ [] → ∃ b off, ao = some ⟨b, off, none⟩ ∧ b < w.heap.size ∧ b ≠ D ∧ ∀ i p, ls[i]? = some p → w.cell? ⟨b, off + i, none⟩ = some (.slice p.1 p.2.2.length p.2.1)
  each : ∀ p ∈ ls, Byt D w p.1 p.2.2 ∧ (p.1 = none → p.2.2 = [] ∧ p.2.1 = 0)
theorem Parts.carry {D : Nat} {w w' : World} {ao : Option Addr} {ls : List (Option Addr × Nat × List Int)} (h : Parts D w ao ls) (hb : But D w w') : Parts D w' ao ls := by
  refine ⟨fun hl => ?_, fun p hp => ⟨(h.each p hp).1.carry hb, (h.each p hp).2⟩⟩
  obtain ⟨b, off, e, hB, hD, hc⟩ := h.lie hl
  exact ⟨b, off, e, Nat.lt_of_lt_of_le hB hb.size, hD, fun i p hp => (hb.cell (p := ⟨b, off + i, none⟩) hB hD).trans (hc i p hp)⟩
def allB (ls : List (Option Addr × Nat × List Int)) : List Int := ls.flatMap fun p => p.2.2
theorem allB_take {ls : List (Option Addr × Nat × List Int)} {k : Nat} {p : Option Addr × Nat × List Int} (hp : ls[k]? = some p) : allB (ls.take (k + 1)) = allB (ls.take k) ++ p.2.2 := by
  simp [allB, List.take_add_one, hp]
theorem allB_le (ls : List (Option Addr × Nat × List Int)) (k : Nat) : (allB (ls.take k)).length ≤ (allB ls).length := by
  have : allB ls = allB (ls.take k) ++ allB (ls.drop k) := by
    unfold allB
    rw [← List.flatMap_append, List.take_append_drop]
  rw [this, List.length_append]; omega
theorem bytV_append (a b : List Int) : bytV (a ++ b) = bytV a ++ bytV b := by simp [bytV]

theorem concat_walk (D : Nat) (ao : Option Addr) (ls : List (Option Addr × Nat × List Int)) (cap : Nat) (w : World) (hl : Parts D w ao ls) (hn : ls.length ≤ 1000000) (ht : (allB ls).length ≤ 1000000) :
    Calls Try.prog 35 #[.slice ao ls.length cap] w fun e w' => ∃ v, e = .returned v ∧ w'.ownsRow w.heap.size 5 1 v (allB ls).length (bytV (allB ls)) ∧ Below w.heap.size w w' := by
  obtain ⟨i0, hi, hz0, hz1, hz2⟩ := info_parts info5
  go_enter Try.func35, Try.ntmps35
  go_wp2_with fail
  go_loopg [3, 11] ls.length (fun g s i wr => ∃ k : Nat, k + g = ls.length ∧ i = .int .i64 k ∧ s = .int .i64 (allB (ls.take k)).length ∧ wr = w)
  case atStart => exact ⟨0, by omega, rfl, rfl, rfl⟩
  case round =>
    obtain ⟨k, hk, rfl, rfl, rfl⟩ := hrel
    cases gk with
    | succ g =>
      obtain ⟨p, hp⟩ : ∃ p, ls[k]? = some p := ⟨ls[k]'(by omega), List.getElem?_eq_getElem _⟩
      obtain ⟨b, off, rfl, hB, hD, hc⟩ := hl.lie (by intro e; subst e; simp at hk)
      have hc1 := hc k p hp
      have hall := allB_take hp
      have hle := allB_le ls (k + 1)
      have hsum : (allB (ls.take (k + 1))).length = (allB (ls.take k)).length + p.2.2.length := by rw [hall]; simp
      have hnn : ¬ (((allB (ls.take k)).length : Int) + (p.2.2.length : Int) < 0) := by omega
      have hpl : p.2.2.length ≤ 1000000 := by omega
      have hql : (allB (ls.take k)).length ≤ 1000000 := by omega
      clear hc hall
      go_wp2_with fail
      go_roundg g
      case rel => exact ⟨k + 1, by omega, by simp, by rw [hsum]; simp, rfl⟩
      case measure => omega
    | zero =>
      have : k = ls.length := by omega
      subst this
      rw [List.take_length]
      go_wp2_with fail
      refine (grow_walk (allB ls).length ht wr).mono ?_
      rintro e w1 ⟨v, rfl, hown, hb1⟩
      go_wp2_with fail
      go_loopg [6, 27] ls.length (fun g v i wx => ∃ k : Nat, k + g = ls.length ∧ i = .int .i64 k ∧ wx.ownsRow wr.heap.size 5 1 v (allB (ls.take k)).length (bytV (allB (ls.take k))) ∧ Below wr.heap.size wr wx)
      case atStart => exact ⟨0, by omega, rfl, hown, hb1⟩
      case round =>
        obtain ⟨k, hk, rfl, hown2, hb⟩ := hrel
        cases gk with
        | zero =>
          have : k = ls.length := by omega
          subst this
          rw [List.take_length] at hown2
          go_wp2_with fail
          go_ret
          exact ⟨_, rfl, hown2, hb⟩
        | succ g =>
          obtain ⟨p, hp⟩ : ∃ p, ls[k]? = some p := ⟨ls[k]'(by omega), List.getElem?_eq_getElem _⟩
          have hl2 := hl.carry (But.of_below (D := D) hb)
          obtain ⟨b, off, rfl, hB, hD, hc⟩ := hl2.lie (by intro e; subst e; simp at hk)
          have hc1 := hc k p hp
          have hall := allB_take hp
          have hle := allB_le ls (k + 1)
          have hsum : (allB (ls.take (k + 1))).length = (allB (ls.take k)).length + p.2.2.length := by rw [hall]; simp
          obtain ⟨hby, hno⟩ := hl2.each p (List.mem_of_getElem? hp)
          obtain ⟨po, pc, pl⟩ := p
          simp only at hc1 hall hsum hby hno
          have hs := hb.size
          clear hc
          cases po with
          | none =>
            obtain ⟨rfl, rfl⟩ := hno rfl
            rw [List.append_nil] at hall
            go_wp2_with (at_builtin; refine wpList_append_own_none rfl _ _ 37 rfl _ 5 i0 1 Try.underlying37 hi _ _ _ rfl hown2 rfl ?_)
            go_roundg g
            case rel => exact ⟨k + 1, by omega, by simp, by rw [hall]; exact hown2, hb⟩
            case measure => omega
          | some ad =>
            have hnews := byt_news0 hby
            have hone := byt_one pl
            have hll : (bytV pl).length = pl.length * 1 := by simp [bytV]
            have hm1 : (allB (ls.take k)).length + pl.length ≤ maxLen := by unfold maxLen; omega
            have hm2 : ((allB (ls.take k)).length + pl.length) * 1 ≤ 140737488355328 := by omega
            go_wp2_with (at_builtin; refine wpList_append_own _ rfl _ _ 37 rfl _ 5 i0 (.int .u8 0) 1 1 Try.underlying37 hi hz0 hz1 hz2 rfl (by decide) _ _ _ rfl hown2 ad pl.length pc (bytV pl) rfl hll hnews hone hm1 hm2 hs ?_)
            intro v' w2 hown' hgrow _
            have hb' := hb.grown hgrow hs (fun j hj => (hown2.lt j hj).1)
            clear hgrow hown2 hb
            go_wp2_with fail
            go_roundg g
            case rel => exact ⟨k + 1, by omega, by simp, by rw [hall, bytV_append, List.length_append]; exact hown', hb'⟩
            case measure => omega

end Go.Proofs.Ytknpdigpendnjaa.disk
