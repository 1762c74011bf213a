/-
  span.Right.
-/
import Derived.Test.YtlejcjgbkbmdmaaSpSame
namespace Go.Proofs.Ytlejcjgbkbmdmaa.span
open Go Go.Proofs Go.RowKit
set_option maxRecDepth 10000

def badP (p : Int × Int) (last : Option Int) : Bool := decide (p.1 < 0) || decide (p.2 < p.1) || decide (200 ≤ p.2) || (match last with | some e => decide (p.1 < e + 2) | none => false)
/-- May spans be? the last one's end known. -/
def rightL : List (Int × Int) → Option Int → Bool
  | [], _ => true
  | p :: l, last => !badP p last && rightL l (some p.2)
def lastE (l : List (Int × Int)) : Nat → Option Int
  | 0 => none
  | k + 1 => l[k]?.map (·.2)

set_option maxHeartbeats 1000000 in
theorem right_walk (ao : Option Addr) (l : List (Int × Int)) (cap : Nat) (w : World) (hl : Spn w ao l) (hn : l.length ≤ 9223372036854775807) :
    Calls Try.prog 16 #[.slice ao l.length cap] w fun e w' => e = .returned (.bool (rightL l none)) ∧ Below w.heap.size w w' := by
  go_enter Try.func16, Try.ntmps16
  go_wp2_with fail
  go_loopg [7] l.length (fun g i wr => ∃ k : Nat, k + g = l.length ∧ i = .int .i64 k ∧ rightL (l.drop k) (lastE l k) = rightL l none ∧ (0 < k → ∀ x, lastE l k = some x → x < 200 ∧ 0 ≤ x) ∧ Below w.heap.size w wr)
  case atStart => exact ⟨0, by omega, rfl, by simp [lastE], fun h => by omega, Below.refl _ _⟩
  case round =>
    obtain ⟨k, hk, rfl, hh, hin, hb⟩ := hrel
    cases gk with
    | zero =>
      have : k = l.length := by omega
      subst this
      go_wp2_with fail
      go_ret
      rw [← hh, List.drop_length]
      exact ⟨rfl, hb⟩
    | succ g =>
      have hkl : k < l.length := by omega
      obtain ⟨p, hp⟩ : ∃ p, l[k]? = some p := ⟨l[k]'(by omega), List.getElem?_eq_getElem _⟩
      have hl' := hl.carry hb
      obtain ⟨b, off, rfl, hB, hc⟩ := hl'.lie (by intro e; subst e; simp at hk)
      obtain ⟨hc1, hc2⟩ := hc k p hp
      have hw := hl.wf p (List.mem_of_getElem? hp)
      have hd : rightL (l.drop k) (lastE l k) = (!badP p (lastE l k) && rightL (l.drop (k + 1)) (some p.2)) := by
        rw [List.drop_eq_getElem_cons hkl]
        have : l[k] = p := by rw [List.getElem?_eq_getElem hkl] at hp; exact Option.some.inj hp
        simp [rightL, this]
      have hkl' : (k : Int) < (l.length : Int) := by omega
      by_cases c1 : p.1 < 0
      · have d1 : decide (p.1 < 0) = true := decide_eq_true c1
        clear hc
        have hr : rightL l none = false := by rw [← hh, hd]; simp [badP, c1]
        go_wp2_with fail
        go_quiet (fail)
        go_wp2_with fail
        go_ret
        exact ⟨by rw [hr]; rfl, below_dN (hb.alloc hb.size _) _⟩
      · have d1 : decide (p.1 < 0) = false := decide_eq_false c1
        by_cases c2 : p.2 < p.1
        · have d2 : decide (p.2 < p.1) = true := decide_eq_true c2
          clear hc
          have hr : rightL l none = false := by rw [← hh, hd]; simp [badP, c2]
          go_wp2_with fail
          go_quiet (fail)
          go_wp2_with fail
          go_ret
          exact ⟨by rw [hr]; rfl, below_dN (hb.alloc hb.size _) _⟩
        · have d2 : decide (p.2 < p.1) = false := decide_eq_false c2
          by_cases c3 : 200 ≤ p.2
          · have d3 : decide (p.2 ≥ 200) = true := decide_eq_true c3
            clear hc
            have hr : rightL l none = false := by rw [← hh, hd]; simp [badP, c3]
            go_wp2_with fail
            go_quiet (fail)
            go_wp2_with fail
            go_ret
            exact ⟨by rw [hr]; rfl, below_dN (hb.alloc hb.size _) _⟩
          · have d3 : decide (p.2 ≥ 200) = false := decide_eq_false c3
            cases k with
            | zero =>
              clear hc
              simp only [Nat.zero_mul, Nat.add_zero] at hc1 hc2
              have hr : rightL (l.drop (0 + 1)) (some p.2) = rightL l none := by rw [← hh, hd]; simp [badP, c1, c2, c3, lastE]
              go_wp2_with fail
              go_quiet (fail)
              go_wp2_with fail
              go_roundg g
              case rel => exact ⟨1, by omega, by simp, by rw [← hr]; simp [lastE, hp], fun _ x hx => by simp [lastE, hp] at hx; omega, below_dN (hb.alloc hb.size _) _⟩
              case measure => omega
            | succ j =>
              obtain ⟨q, hq⟩ : ∃ q, l[j]? = some q := ⟨l[j]'(by omega), List.getElem?_eq_getElem _⟩
              have hc3 := (hc j q hq).2
              have hq2 := hin (by omega) q.2 (by simp [lastE, hq])
              clear hc
              by_cases c4 : p.1 < q.2 + 2
              · have d4 : decide (p.1 < q.2 + 2) = true := decide_eq_true c4
                have hr : rightL l none = false := by rw [← hh, hd]; simp [badP, c4, lastE, hq]
                go_wp2_with fail
                go_quiet (fail)
                go_wp2_with fail
                go_ret
                exact ⟨by rw [hr]; rfl, below_dN (hb.alloc hb.size _) _⟩
              · have d4 : decide (p.1 < q.2 + 2) = false := decide_eq_false c4
                have hr : rightL (l.drop (j + 1 + 1)) (some p.2) = rightL l none := by rw [← hh, hd]; simp [badP, c1, c2, c3, c4, lastE, hq]
                go_wp2_with fail
                go_quiet (fail)
                go_wp2_with fail
                go_roundg g
                case rel => exact ⟨j + 1 + 1, by omega, by simp, by rw [← hr]; simp [lastE, hp], fun _ x hx => by simp [lastE, hp] at hx; omega, below_dN (hb.alloc hb.size _) _⟩
                case measure => omega

end Go.Proofs.Ytlejcjgbkbmdmaa.span
