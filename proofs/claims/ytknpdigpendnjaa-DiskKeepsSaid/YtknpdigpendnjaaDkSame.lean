/-
  klaxonbook.Same over bytes.
-/
import Derived.Test.YtknpdigpendnjaaDkBase
namespace Go.Proofs.Ytknpdigpendnjaa.disk
open Go Go.Proofs Go.RowKit Go.Proofs.Ytknpdigpendnjaa.AH
set_option maxRecDepth 10000

theorem take_eq_succ {α : Type} {l m : List α} {k : Nat} {p q : α} (hp : l[k]? = some p) (hq : m[k]? = some q) (h : l.take k = m.take k) (e : p = q) : l.take (k + 1) = m.take (k + 1) := by
  rw [List.take_add_one, List.take_add_one, hp, hq, h, e]
theorem below_drN {B : Nat} {w w' : World} (h : Below B w w') (q : Nat) : Below B w (w'.drewN q) := h.trans ⟨rfl, rfl, rfl, Nat.le_refl _, fun _ _ => rfl⟩

theorem sameB_walk (D : Nat) (ao bo : Option Addr) (l m : List Int) (cap cap2 : Nat) (w : World) (hl : Byt D w ao l) (hm : Byt D w bo m) (hn : l.length ≤ 9223372036854775807) :
    Calls Try.prog 28 #[.slice ao l.length cap, .slice bo m.length cap2] w fun e w' => e = .returned (.bool (decide (l = m))) ∧ Below w.heap.size w w' := by
  by_cases hlen : l.length = m.length
  · have hlen' : (l.length == m.length) = true := by simpa using hlen
    go_enter Try.func28, Try.ntmps28
    go_wp2_with fail
    go_loopg [5] l.length (fun g i wr => ∃ k : Nat, k + g = l.length ∧ i = .int .i64 k ∧ l.take k = m.take k ∧ ∃ q, wr = w.drewN q)
    case atStart => exact ⟨0, by omega, rfl, rfl, 0, rfl⟩
    case round =>
      obtain ⟨k, hk, rfl, hh, q, rfl⟩ := hrel
      cases gk with
      | zero =>
        have : k = l.length := by omega
        subst this
        have e : l = m := by rwa [List.take_length, hlen, List.take_length] at hh
        go_wp2_with fail
        go_ret
        exact ⟨by simp [e], below_drN (Below.refl _ _) _⟩
      | succ g =>
        obtain ⟨x, hx⟩ : ∃ x, l[k]? = some x := ⟨l[k]'(by omega), List.getElem?_eq_getElem _⟩
        obtain ⟨y, hy⟩ : ∃ y, m[k]? = some y := ⟨m[k]'(by omega), List.getElem?_eq_getElem _⟩
        obtain ⟨b, off, rfl, hB, _, hc⟩ := hl.lie (by intro e; subst e; simp at hk)
        have hc1 := hc k x hx
        obtain ⟨b2, off2, rfl, hB2, _, hd⟩ := hm.lie (by intro e; rw [e] at hy; simp at hy)
        have hd1 := hd k y hy
        clear hc hd
        have hkm : k < m.length := by omega
        by_cases e : x = y
        · have hh' := take_eq_succ hx hy hh e
          go_wp2_with fail
          go_quiet (fail)
          go_wp2_with fail
          go_roundg g
          case rel => exact ⟨k + 1, by omega, by simp, hh', _, rfl⟩
          case measure => omega
        · have hne : l ≠ m := fun e1 => e (by rw [e1, hy] at hx; cases hx; rfl)
          have hxy : (x == y) = false := by simpa using e
          go_wp2_with fail
          go_quiet (fail)
          go_wp2_with fail
          go_ret
          exact ⟨by simp [hne], below_drN (below_drN (Below.refl _ _) _) _⟩
  · have hlen' : (l.length == m.length) = false := by simpa using hlen
    have hne : l ≠ m := fun e => hlen (by rw [e])
    go_enter Try.func28, Try.ntmps28
    go_wp2_with fail
    go_ret
    exact ⟨by simp [hne], Below.refl _ _⟩

end Go.Proofs.Ytknpdigpendnjaa.disk
