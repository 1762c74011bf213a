/-
  The document's own answer (klaxonref11): what its functions compute, by the kit's walk.
-/
import Derived.Test.YtdnffpbofbijnaaDefWalks
namespace Go.Proofs.Ytdnffpbofbijnaa.define
open Go Go.Proofs Go.RowKit
set_option maxRecDepth 10000

def runsV (f : Nat → Int) : Nat → Nat → Bool
  | 0, _ => true
  | m + 1, i => if f i = 0 then false else runsV f m (i + 1)

theorem runs_walk (ad : Addr) (n cap : Nat) (f : Nat → Int) (from_ to : Nat) (w : World) (hf : RowIs w ad n f) (hn : n ≤ 24) (hft : from_ ≤ to) (ht : to < n) :
    Calls Try.prog 17 #[.slice (some ad) n cap, .int .i64 from_, .int .i64 to] w fun e w' => e = .returned (.bool (runsV f (to + 1 - from_) from_)) ∧ w' = w := by
  go_enter Try.func17, Try.ntmps17
  go_wp2
  go_loopg [7] (to + 1 - from_) (fun g i wr => ∃ j : Nat, j + g = to + 1 ∧ i = .int .i64 j ∧ runsV f g j = runsV f (to + 1 - from_) from_ ∧ wr = w)
  case atStart => exact ⟨from_, by omega, rfl, rfl, rfl⟩
  case round =>
    obtain ⟨j, hj, rfl, hh, rfl⟩ := hrel
    cases gk with
    | zero =>
      have : j = to + 1 := by omega
      subst this
      go_wp2
      go_ret
      refine ⟨?_, rfl⟩
      rw [← hh]; rfl
    | succ g =>
      have hct := hf j (by omega)
      go_wp2
      · have t0 : f j = 0 := by simpa using (by assumption : (f j == 0) = true)
        go_ret
        refine ⟨?_, rfl⟩
        rw [← hh]; simp [runsV, t0]
      · have t0 : ¬ f j = 0 := by simpa using (by assumption : (f j == 0) = false)
        go_roundg g
        case rel =>
          refine ⟨j + 1, by omega, by simp, ?_, rfl⟩
          rw [← hh]; simp only [runsV, t0, if_false]
        case measure => omega

/-- Is a tick near enough? the ticks from j on, so many. -/
def nearV (f : Nat → Int) (b ke : Int) (i : Nat) : Nat → Nat → Bool → Bool
  | 0, _, acc => acc
  | m + 1, j, acc => nearV f b ke i m (j + 1) (acc || (decide (f j = 1) && decide (((i : Int) - j) * b ≤ ke)))
def staysV (f : Nat → Int) (b ke : Int) (fr : Nat) : Nat → Nat → Bool
  | 0, _ => true
  | m + 1, i => if nearV f b ke i (i + 1 - fr) fr (decide (f i = 2)) = true then staysV f b ke fr m (i + 1) else false

theorem stays_walk (ad : Addr) (n cap : Nat) (f : Nat → Int) (b ke : Int) (from_ to : Nat) (w : World) (hf : RowIs w ad n f) (hn : n ≤ 24) (hft : from_ ≤ to) (ht : to < n) (hb : 1 ≤ b) (hb' : b ≤ 9) :
    Calls Try.prog 16 #[.slice (some ad) n cap, .int .i64 b, .int .i64 ke, .int .i64 from_, .int .i64 to] w fun e w' => e = .returned (.bool (staysV f b ke from_ (to - from_) (from_ + 1))) ∧ w' = w := by
  go_enter Try.func16, Try.ntmps16
  go_wp2
  go_loopg [11] (to - from_) (fun g i wr => ∃ j : Nat, j + g = to + 1 ∧ from_ < j ∧ i = .int .i64 j ∧ staysV f b ke from_ g j = staysV f b ke from_ (to - from_) (from_ + 1) ∧ wr = w)
  case atStart => exact ⟨from_ + 1, by omega, by omega, by simp, rfl, rfl⟩
  case round =>
    obtain ⟨j, hj, hjf, rfl, hh, rfl⟩ := hrel
    cases gk with
    | zero =>
      have : j = to + 1 := by omega
      subst this
      go_wp2
      go_ret
      refine ⟨?_, rfl⟩
      rw [← hh]; rfl
    | succ g =>
      have hct := hf j (by omega)
      go_wp2
      have d1 : decide (j ≤ to) = true := by simp; omega
      simp only [d1]
      go_loopg [12, 13] (j + 1 - from_) (fun g2 acc i wr' => ∃ (j2 : Nat) (ac : Bool), j2 + g2 = j + 1 ∧ from_ ≤ j2 ∧ i = .int .i64 j2 ∧ acc = .bool ac ∧
        nearV f b ke j g2 j2 ac = nearV f b ke j (j + 1 - from_) from_ (decide (f j = 2)) ∧ wr' = wr)
      case atStart => exact ⟨from_, decide (f j = 2), by omega, by omega, rfl, rfl, rfl, rfl⟩
      case round =>
        obtain ⟨j2, ac, hj2, hf2, rfl, rfl, hh2, rfl⟩ := hrel
        cases gk with
        | zero =>
          have : j2 = j + 1 := by omega
          subst this
          have hN : nearV f b ke j (j + 1 - from_) from_ (decide (f j = 2)) = ac := by rw [← hh2]; rfl
          go_wp2
          · have ha : ac = false := by simpa using (by assumption : (!ac) = true)
            go_ret
            refine ⟨?_, rfl⟩
            rw [← hh]; simp [staysV, hN, ha]
          · have ha : ac = true := by simpa using (by assumption : (!ac) = false)
            go_roundg g
            case rel =>
              refine ⟨j + 1, by omega, by omega, by simp, ?_, rfl⟩
              rw [← hh]; simp only [staysV, hN, ha, if_true]
            case measure => omega
        | succ g2 =>
          have hc2 := hf j2 (by omega)
          have hm0 : 0 ≤ ((j : Int) - j2) * b := Int.mul_nonneg (by omega) (by omega)
          have hm1 : ((j : Int) - j2) * b ≤ 24 * 9 := by
            have := Int.mul_le_mul (show (j : Int) - j2 ≤ 24 by omega) hb' (by omega) (by omega)
            exact this
          go_wp2
          · have ha : ac = true := by assumption
            go_roundg g2
            case rel =>
              refine ⟨j2 + 1, true, by omega, by omega, by simp, by simp, ?_, rfl⟩
              rw [← hh2]; simp only [nearV, ha, Bool.true_or]
            case measure => omega
          · have ha : ¬ ac = true := by assumption
            have t1 : f j2 = 1 := by assumption
            go_roundg g2
            case rel =>
              refine ⟨j2 + 1, decide (((j : Int) - j2) * b ≤ ke), by omega, by omega, by simp, by simp, ?_, rfl⟩
              rw [← hh2]; simp [nearV, ha, t1]
            case measure => omega
          · have ha : ¬ ac = true := by assumption
            have t1 : ¬ f j2 = 1 := by assumption
            go_roundg g2
            case rel =>
              refine ⟨j2 + 1, false, by omega, by omega, by simp, by simp, ?_, rfl⟩
              rw [← hh2]; simp [nearV, ha, t1]
            case measure => omega

end Go.Proofs.Ytdnffpbofbijnaa.define
