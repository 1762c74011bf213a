/-
  The document's own answer (klaxonref11): Fires, State, by the kit's walk.
-/
import Derived.Test.YtdnffpbofbijnaaDefWalks2
namespace Go.Proofs.Ytdnffpbofbijnaa.define
open Go Go.Proofs Go.RowKit
set_option maxRecDepth 10000

def refHeld (f : Nat → Int) (b lo : Int) (to : Nat) : Nat → Bool
  | 0 => false
  | m + 1 => if f m = 1 ∧ lo ≤ ((to : Int) - m) * b ∧ runsV f (to + 1 - m) m = true then true else refHeld f b lo to m
def refTo (f : Nat → Int) (b lo ke : Int) (k : Nat) : Nat → Bool
  | 0 => false
  | t + 1 => if f t = 1 ∧ staysV f b ke t (k - t) (t + 1) = true ∧ refHeld f b lo t (t + 1) = true then true else refTo f b lo ke k t
def refFires (f : Nat → Int) (b lo ke : Int) : Nat → Bool
  | 0 => false
  | k + 1 => if f k = 2 then refFires f b lo ke k else refTo f b lo ke k (k + 1)

theorem refFires_walk (ad : Addr) (n cap : Nat) (f : Nat → Int) (b lo ke : Int) (w : World) (hf : RowIs w ad n f) (hn : n ≤ 24) (hb : 1 ≤ b) (hb' : b ≤ 9) : ∀ K : Nat, K < n →
    Calls Try.prog 11 #[.slice (some ad) n cap, .int .i64 b, .int .i64 lo, .int .i64 ke, .int .i64 K] w fun e w' => e = .returned (.bool (refFires f b lo ke (K + 1))) ∧ w' = w := by
  intro K
  induction K using Nat.strongRecOn with
  | _ K ihK =>
    intro hK
    have hcell := hf K hK
    have ih : 0 < K → Calls Try.prog 11 #[.slice (some ad) n cap, .int .i64 b, .int .i64 lo, .int .i64 ke, .int .i64 ((K : Int) - 1)] w fun e w' => e = .returned (.bool (refFires f b lo ke K)) ∧ w' = w := by
      intro h0
      have := ihK (K - 1) (by omega) (by omega)
      rwa [show ((K - 1 : Nat) : Int) = (K : Int) - 1 by omega, show K - 1 + 1 = K by omega] at this
    clear ihK
    go_enter Try.func11, Try.ntmps11
    go_wp2_with fail
    · have h2 : f K = 2 := by simpa using (by assumption : (f K == 2) = true)
      refine (ih (by assumption)).mono ?_
      rintro e w' ⟨rfl, rfl⟩
      go_wp2
      go_ret
      simp [refFires, h2]
    · have h2 : f K = 2 := by simpa using (by assumption : (f K == 2) = true)
      have h0 : K = 0 := by omega
      go_ret
      refine ⟨?_, rfl⟩
      subst h0
      simp [refFires, h2]
    · have h2 : ¬ f K = 2 := by simpa using (by assumption : (f K == 2) = false)
      have d2 : (f K == 2) = false := by simpa using h2
      have hV : refFires f b lo ke (K + 1) = refTo f b lo ke K (K + 1) := by simp [refFires, h2]
      simp only [d2]
      clear ih
      go_loopg [11] (K + 1) (fun g i wr => g ≤ K + 1 ∧ i = .int .i64 ((g : Int) - 1) ∧ refTo f b lo ke K g = refTo f b lo ke K (K + 1) ∧ wr = w)
      case atStart => exact ⟨Nat.le_refl _, by simp, rfl, rfl⟩
      case round =>
        obtain ⟨hj, rfl, hh, rfl⟩ := hrel
        cases gk with
        | zero =>
          go_wp2
          go_ret
          refine ⟨?_, rfl⟩
          rw [hV, ← hh]; rfl
        | succ t =>
          have e2 : (((t + 1 : Nat) : Int) - 1) = (t : Int) := by omega
          rw [e2]
          have hct := hf t (by omega)
          go_wp2_with fail
          · have t1 : f t = 1 := by assumption
            refine (stays_walk ad n cap f b ke t K wr hf hn (by omega) hK hb hb').mono ?_
            rintro e w' ⟨rfl, rfl⟩
            go_wp2_with fail
            · have hst : staysV f b ke t (K - t) (t + 1) = false := by simpa using (by assumption : (!staysV f b ke t (K - t) (t + 1)) = true)
              go_roundg t
              case rel =>
                refine ⟨by omega, rfl, ?_, rfl⟩
                rw [← hh]; simp [refTo, hst]
              case measure => omega
            · have hst : staysV f b ke t (K - t) (t + 1) = true := by simpa using (by assumption : (!staysV f b ke t (K - t) (t + 1)) = false)
              simp only [hst, Bool.not_true]
              go_loopg [12] (t + 1) (fun g i wr => g ≤ t + 1 ∧ i = .int .i64 ((g : Int) - 1) ∧ refHeld f b lo t g = refHeld f b lo t (t + 1) ∧ wr = w')
              case atStart => exact ⟨Nat.le_refl _, by simp, rfl, rfl⟩
              case round =>
                obtain ⟨hj2, rfl, hh2, rfl⟩ := hrel
                cases gk with
                | zero =>
                  have hN : refHeld f b lo t (t + 1) = false := by rw [← hh2]; rfl
                  go_wp2
                  go_roundg t
                  case rel =>
                    refine ⟨by omega, rfl, ?_, rfl⟩
                    rw [← hh]; simp [refTo, hN]
                  case measure => omega
                | succ m =>
                  have e3 : (((m + 1 : Nat) : Int) - 1) = (m : Int) := by omega
                  rw [e3]
                  have hcm := hf m (by omega)
                  have hm0 : 0 ≤ ((t : Int) - m) * b := Int.mul_nonneg (by omega) (by omega)
                  have hm1 : ((t : Int) - m) * b ≤ 24 * 9 := by
                    have := Int.mul_le_mul (show (t : Int) - m ≤ 24 by omega) hb' (by omega) (by omega)
                    exact this
                  go_wp2_with fail
                  · have m1 : f m = 1 := by assumption
                    have ml : lo ≤ ((t : Int) - m) * b := by assumption
                    refine (runs_walk ad n cap f m t wr hf hn (by omega) (by omega)).mono ?_
                    rintro e w' ⟨rfl, rfl⟩
                    go_wp2
                    · have hru : runsV f (t + 1 - m) m = true := by assumption
                      have hY : refHeld f b lo t (t + 1) = true := by rw [← hh2]; simp [refHeld, m1, ml, hru]
                      go_ret
                      refine ⟨?_, rfl⟩
                      rw [hV, ← hh]; simp [refTo, t1, hst, hY]
                    · have hru : runsV f (t + 1 - m) m = false := by assumption
                      go_roundg m
                      case rel =>
                        refine ⟨by omega, rfl, ?_, rfl⟩
                        rw [← hh2]; simp [refHeld, hru]
                      case measure => omega
                  · have ml : ¬ lo ≤ ((t : Int) - m) * b := by omega
                    go_roundg m
                    case rel =>
                      refine ⟨by omega, rfl, ?_, rfl⟩
                      rw [← hh2]; simp [refHeld, ml]
                    case measure => omega
                  · have m1 : ¬ f m = 1 := by assumption
                    go_roundg m
                    case rel =>
                      refine ⟨by omega, rfl, ?_, rfl⟩
                      rw [← hh2]; simp [refHeld, m1]
                    case measure => omega
          · have t1 : ¬ f t = 1 := by assumption
            go_roundg t
            case rel =>
              refine ⟨by omega, rfl, ?_, rfl⟩
              rw [← hh]; simp only [refTo, t1, false_and, if_false]
            case measure => omega

def refState (f : Nat → Int) (b lo ke : Int) (K : Nat) : Int :=
  if refFires f b lo ke K = true then 2 else if 0 < lastV f K ∧ f (lastV f K - 1) = 1 then 1 else 0

theorem refState_walk (ad : Addr) (n cap : Nat) (f : Nat → Int) (b lo ke : Int) (w : World) (hf : RowIs w ad n f) (hn : n ≤ 24) (hb : 1 ≤ b) (hb' : b ≤ 9) (k : Nat) (hkn : k < n) :
    Calls Try.prog 12 #[.slice (some ad) n cap, .int .i64 b, .int .i64 lo, .int .i64 ke, .int .i64 k] w fun e w' => e = .returned (.int .i64 (refState f b lo ke (k + 1))) ∧ w' = w := by
  have hcl := refFires_walk ad n cap f b lo ke w hf hn hb hb' k hkn
  go_enter Try.func12, Try.ntmps12
  go_wp2_with fail
  refine hcl.mono ?_
  rintro e w' ⟨rfl, rfl⟩
  clear hcl
  go_wp2
  · have hfi : refFires f b lo ke (k + 1) = true := by assumption
    go_ret
    simp [refState, hfi]
  · have hfi : refFires f b lo ke (k + 1) = false := by assumption
    have hS : refState f b lo ke (k + 1) = if 0 < lastV f (k + 1) ∧ f (lastV f (k + 1) - 1) = 1 then 1 else 0 := by
      unfold refState; rw [hfi]; rfl
    go_loopg [4] (k + 1) (fun g i wr => g ≤ k + 1 ∧ i = .int .i64 ((g : Int) - 1) ∧ lastV f g = lastV f (k + 1) ∧ wr = w')
    case atStart => exact ⟨Nat.le_refl _, by simp, rfl, rfl⟩
    case round =>
      obtain ⟨hj, rfl, hh, rfl⟩ := hrel
      cases gk with
      | zero =>
        go_wp2
        go_ret
        refine ⟨?_, rfl⟩
        rw [hS, ← hh]; rfl
      | succ t =>
        have e2 : (((t + 1 : Nat) : Int) - 1) = (t : Int) := by omega
        rw [e2]
        have hct := hf t (by omega)
        go_wp2
        · have t2 : f t = 2 := by simpa using (by assumption : (f t == 2) = true)
          go_roundg t
          case rel =>
            refine ⟨by omega, rfl, ?_, rfl⟩
            rw [← hh]; simp only [lastV, t2, if_true]
          case measure => omega
        · have t2 : ¬ f t = 2 := by simpa using (by assumption : (f t == 2) = false)
          have t1 : f t = 1 := by simpa using (by assumption : (f t == 1) = true)
          go_ret
          refine ⟨?_, rfl⟩
          rw [hS, ← hh]; simp [lastV, t1]
        · have t2 : ¬ f t = 2 := by simpa using (by assumption : (f t == 2) = false)
          have t1 : ¬ f t = 1 := by simpa using (by assumption : (f t == 1) = false)
          go_ret
          refine ⟨?_, rfl⟩
          rw [hS, ← hh]; simp [lastV, t1, t2]

end Go.Proofs.Ytdnffpbofbijnaa.define
