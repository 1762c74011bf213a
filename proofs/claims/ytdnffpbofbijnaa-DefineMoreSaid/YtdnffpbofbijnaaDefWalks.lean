/-
  Package define: what its functions compute, by the kit's walk.
-/
import Derived.Test.YtdnffpbofbijnaaProg
import Derived.WalkKit
import Derived.ProofKit
import Derived.Handy
import Derived.Deep.LoopGhost
namespace Go.Proofs.Ytdnffpbofbijnaa.define
open Go Go.Proofs Go.RowKit
set_option maxRecDepth 10000

/-- Long enough: so many ticks of so many steps. -/
def longE (b c a : Int) : Bool := decide (c / b + (if 0 < c % b then 1 else 0) ≤ a)

theorem enough_walk (a b c : Int) (w : World) (hb : 1 ≤ b) (hb' : b ≤ 9) (hc : 0 ≤ c) (hc' : c ≤ 60) : Calls Try.prog 20 #[.int .i64 a, .int .i64 b, .int .i64 c] w fun e w' => e = .returned (.bool (longE b c a)) ∧ w' = w := by
  have h1 : c / b ≤ 60 := by
    have := Int.ediv_le_self b hc
    omega
  have h0 : 0 ≤ c / b := Int.ediv_nonneg hc (by omega)
  go_enter Try.func20, Try.ntmps20
  go_wp2
  · rename_i h
    go_ret
    simp [longE, h]
  · rename_i h
    have : ¬ 0 < c % b := by omega
    go_ret
    simp [longE, this]

/-- A row of numbers that lies in memory. -/
def RowIs (w : World) (ad : Addr) (n : Nat) (f : Nat → Int) : Prop := ∀ i, i < n → w.cell? (ad.add i) = some (.int .i64 (f i))

def heldAt (f : Nat → Int) (b c : Int) (to : Nat) : Nat → Bool
  | 0 => false
  | m + 1 => if f m = 0 then false else if f m = 1 ∧ longE b c ((to : Int) - m) = true then true else heldAt f b c to m

theorem held_walk (ad : Addr) (n cap : Nat) (f : Nat → Int) (b c : Int) (to : Nat) (w : World) (hf : RowIs w ad n f) (hn : n ≤ 24) (ht : to < n) (hb : 1 ≤ b) (hb' : b ≤ 9) (hc : 0 ≤ c) (hc' : c ≤ 60) :
    Calls Try.prog 15 #[.slice (some ad) n cap, .int .i64 b, .int .i64 c, .int .i64 to] w fun e w' => e = .returned (.bool (heldAt f b c to (to + 1))) ∧ w' = w := by
  go_enter Try.func15, Try.ntmps15
  go_wp2; go_step3; go_wp2; go_step3; go_wp2
  go_loopw [9] (fun i wr => ∃ j : Nat, j ≤ to + 1 ∧ i = .int .i64 ((j : Int) - 1) ∧ heldAt f b c to j = heldAt f b c to (to + 1) ∧ wr = w) (fun i _ => (intOf i + 1).toNat)
  case atStart => exact ⟨to + 1, Nat.le_refl _, by simp, rfl, rfl⟩
  case round =>
    obtain ⟨j, hj, rfl, hh, rfl⟩ := hrel
    cases j with
    | zero =>
      go_wp2
      rw [Exit.noGoto_ret]
      go_ret
      rw [← hh]
      exact ⟨rfl, rfl⟩
    | succ m =>
      have e1 : (((m + 1 : Nat) : Int) - 1) = (m : Int) := by omega
      rw [e1]
      have hcell := hf m (by omega)
      clear hf
      go_wp2_with fail
      · rename_i h
        rw [Exit.noGoto_ret]
        go_ret
        rw [← hh]
        simp at h
        simp [heldAt, h]
      · refine (enough_walk ((to : Int) - m) b c wr hb hb' hc hc').mono ?_
        rintro e w' ⟨rfl, rfl⟩
        have h1 : f m = 1 := by assumption
        go_wp2
        · rename_i h
          rw [Exit.noGoto_ret]
          go_ret
          rw [← hh]
          simp [heldAt, h1, h]
        · rename_i h
          refine ⟨⟨m, by omega, rfl, ?_, trivial⟩, by simp [intOf]⟩
          rw [← hh]
          simp [heldAt, h1, h]
      · rename_i h0 h1
        refine ⟨⟨m, by omega, rfl, ?_, trivial⟩, by simp [intOf]⟩
        rw [← hh]
        simp at h0
        simp [heldAt, h1, h0]

/-- Near enough: no tick behind 'last' and up to i is too far behind one that is on. -/
def keptFrom (f : Nat → Int) (b c : Int) : Nat → Nat → Nat → Bool
  | 0, _, _ => true
  | m + 1, last, i => if f i = 2 then keptFrom f b c m last (i + 1) else if f i = 1 then keptFrom f b c m i (i + 1)
    else if c / b < (i : Int) - last then false else keptFrom f b c m last (i + 1)

theorem kept_walk (ad : Addr) (n cap : Nat) (f : Nat → Int) (b c : Int) (to k : Nat) (w : World) (hf : RowIs w ad n f) (hn : n ≤ 24) (ht : to ≤ k) (hk : k < n) (hb : 1 ≤ b) (hb' : b ≤ 9) (hc : 0 ≤ c) (hc' : c ≤ 60) :
    Calls Try.prog 14 #[.slice (some ad) n cap, .int .i64 b, .int .i64 c, .int .i64 to, .int .i64 k] w fun e w' => e = .returned (.bool (keptFrom f b c (k - to) to (to + 1))) ∧ w' = w := by
  go_enter Try.func14, Try.ntmps14
  go_wp2; go_step3; go_wp2; go_step3; go_wp2
  go_loopw [11, 12] (fun l i wr => ∃ la j : Nat, j ≤ k + 1 ∧ la < j ∧ i = .int .i64 j ∧ l = .int .i64 la ∧ keptFrom f b c (k + 1 - j) la j = keptFrom f b c (k - to) to (to + 1) ∧ wr = w) (fun _ i _ => k + 1 - (intOf i).toNat)
  case atStart => exact ⟨to, to + 1, by omega, by omega, by simp, rfl, by rw [show k + 1 - (to + 1) = k - to by omega], rfl⟩
  case round =>
    obtain ⟨la, j, hj, hla, rfl, rfl, hh, rfl⟩ := hrel
    by_cases hjk : j ≤ k
    · have hcell := hf j (by omega)
      clear hf
      obtain ⟨m, hm⟩ : ∃ m, k + 1 - j = m + 1 := ⟨k - j, by omega⟩
      have hm' : k + 1 - (j + 1) = m := by omega
      rw [hm] at hh
      have h1 : c / b ≤ 60 := by
        have := Int.ediv_le_self b hc
        omega
      have h0 : 0 ≤ c / b := Int.ediv_nonneg hc (by omega)
      go_wp2
      · rename_i t2
        simp only [beq_iff_eq] at t2
        refine ⟨⟨la, j + 1, by omega, by omega, rfl, rfl, ?_, trivial⟩, by simp [intOf]; omega⟩
        rw [hm', ← hh]; simp [keptFrom, t2]
      · rename_i t2 t1
        simp only [beq_iff_eq] at t1
        refine ⟨⟨j, j + 1, by omega, by omega, rfl, rfl, ?_, trivial⟩, by simp [intOf]; omega⟩
        rw [hm', ← hh]; simp [keptFrom, t1]
      · rename_i t2 t1 t0
        simp only [beq_eq_false_iff_ne] at t1 t2
        rw [Exit.noGoto_ret]
        go_ret
        rw [← hh]
        simp [keptFrom, t1, t2, t0]
      · rename_i t2 t1 t0
        simp only [beq_eq_false_iff_ne] at t1 t2
        have t0' : ¬ c / b < (j : Int) - la := by omega
        refine ⟨⟨la, j + 1, by omega, by omega, rfl, rfl, ?_, trivial⟩, by simp [intOf]; omega⟩
        rw [hm', ← hh]; simp [keptFrom, t1, t2, t0']
    · have : j = k + 1 := by omega
      subst this
      go_wp2
      rw [Exit.noGoto_ret]
      go_ret
      rw [← hh]
      simp [keptFrom]

def firesTo (f : Nat → Int) (b lo ke : Int) (k : Nat) : Nat → Bool
  | 0 => false
  | t + 1 => if f t = 1 ∧ keptFrom f b ke (k - t) t (t + 1) = true ∧ heldAt f b lo t (t + 1) = true then true else firesTo f b lo ke k t
def firesV (f : Nat → Int) (b lo ke : Int) : Nat → Bool
  | 0 => false
  | k + 1 => if f k = 2 then firesV f b lo ke k else firesTo f b lo ke k (k + 1)

theorem fires_walk (ad : Addr) (n cap : Nat) (f : Nat → Int) (b lo ke : Int) (w : World) (hf : RowIs w ad n f) (hn : n ≤ 24) (hb : 1 ≤ b) (hb' : b ≤ 9) (hl : 0 ≤ lo) (hl' : lo ≤ 60) (hk : 0 ≤ ke) (hk' : ke ≤ 60) : ∀ K : Nat, K ≤ n →
    Calls Try.prog 7 #[.slice (some ad) n cap, .int .i64 b, .int .i64 lo, .int .i64 ke, .int .i64 ((K : Int) - 1)] w fun e w' => e = .returned (.bool (firesV f b lo ke K)) ∧ w' = w
  | 0, _ => by
    go_enter Try.func7, Try.ntmps7
    go_wp2
    go_ret
    exact ⟨rfl, rfl⟩
  | K + 1, hK => by
    have ih := fires_walk ad n cap f b lo ke w hf hn hb hb' hl hl' hk hk' K (by omega)
    have e1 : (((K + 1 : Nat) : Int) - 1) = (K : Int) := by omega
    rw [e1]
    have hcell := hf K (by omega)
    go_enter Try.func7, Try.ntmps7
    go_wp2_with fail
    · rename_i h2 _ _
      have h2' : f K = 2 := by simpa using (by assumption : (f K == 2) = true)
      refine ih.mono ?_
      rintro e w' ⟨rfl, rfl⟩
      go_wp2
      go_ret
      simp [firesV, h2']
    · have h2' : ¬ f K = 2 := by simpa using (by assumption : (f K == 2) = false)
      have hV : firesV f b lo ke (K + 1) = firesTo f b lo ke K (K + 1) := by simp [firesV, h2']
      have d1 : decide (n ≤ K) = false := by simp; omega
      have d2 : (f K == 2) = false := by simpa using h2'
      simp only [d1, d2, Bool.or_false]
      go_loopg [11] (K + 1) (fun g i wr => g ≤ K + 1 ∧ i = .int .i64 ((g : Int) - 1) ∧ firesTo f b lo ke K g = firesTo f b lo ke K (K + 1) ∧ wr = w)
      case atStart => exact ⟨Nat.le_refl _, by simp, rfl, rfl⟩
      case round =>
        obtain ⟨hj, rfl, hh, rfl⟩ := hrel
        cases gk with
        | zero =>
          go_wp2
          go_ret
          refine ⟨?_, rfl⟩
          rw [hV, ← hh]; rfl
        | succ t =>
          have e2 : (((t + 1 : Nat) : Int) - 1) = (t : Int) := by omega
          rw [e2]
          have hct := hf t (by omega)
          go_wp2_with fail
          · have t1 : f t = 1 := by assumption
            refine (kept_walk ad n cap f b ke t K wr hf hn (by omega) (by omega) hb hb' hk hk').mono ?_
            rintro e w' ⟨rfl, rfl⟩
            go_wp2_with fail
            · have hkp : keptFrom f b ke (K - t) t (t + 1) = true := by assumption
              refine (held_walk ad n cap f b lo t w' hf hn (by omega) hb hb' hl hl').mono ?_
              rintro e w'' ⟨rfl, rfl⟩
              go_wp2
              · have hhd : heldAt f b lo t (t + 1) = true := by assumption
                go_ret
                refine ⟨?_, rfl⟩
                rw [hV, ← hh]; simp [firesTo, t1, hkp, hhd]
              · have hhd : heldAt f b lo t (t + 1) = false := by assumption
                go_roundg t
                case rel =>
                  refine ⟨by omega, rfl, ?_, rfl⟩
                  rw [← hh]; simp only [firesTo, t1, hkp, hhd, and_false, if_false, Bool.false_eq_true]
                case measure => omega
            · have hkp : ¬ keptFrom f b ke (K - t) t (t + 1) = true := by assumption
              go_wp2
              go_roundg t
              case rel =>
                refine ⟨by omega, rfl, ?_, rfl⟩
                rw [← hh]; simp [firesTo, hkp]
              case measure => omega
          · have t1 : ¬ f t = 1 := by first | assumption | (simpa using (by assumption : (f t == 1) = false))
            go_wp2
            go_roundg t
            case rel =>
              refine ⟨by omega, rfl, ?_, rfl⟩
              rw [← hh]; simp only [firesTo, t1, false_and, if_false]
            case measure => omega

/-- The last tick, up to one, that did not err: its number and one. -/
def lastV (f : Nat → Int) : Nat → Nat
  | 0 => 0
  | m + 1 => if f m = 2 then lastV f m else m + 1
def stateV (f : Nat → Int) (b lo ke : Int) (K : Nat) : Int :=
  if firesV f b lo ke K = true then 2 else if 0 < lastV f K ∧ f (lastV f K - 1) = 1 then 1 else 0

theorem state_walk (ad : Addr) (n cap : Nat) (f : Nat → Int) (b lo ke : Int) (w : World) (hf : RowIs w ad n f) (hn : n ≤ 24) (hb : 1 ≤ b) (hb' : b ≤ 9) (hl : 0 ≤ lo) (hl' : lo ≤ 60) (hk : 0 ≤ ke) (hk' : ke ≤ 60) (k : Nat) (hkn : k < n) :
    Calls Try.prog 8 #[.slice (some ad) n cap, .int .i64 b, .int .i64 lo, .int .i64 ke, .int .i64 k] w fun e w' => e = .returned (.int .i64 (stateV f b lo ke (k + 1))) ∧ w' = w := by
  have hcl := fires_walk ad n cap f b lo ke w hf hn hb hb' hl hl' hk hk' (k + 1) hkn
  have e1 : (((k + 1 : Nat) : Int) - 1) = (k : Int) := by omega
  rw [e1] at hcl
  go_enter Try.func8, Try.ntmps8
  go_wp2_with fail
  refine hcl.mono ?_
  rintro e w' ⟨rfl, rfl⟩
  clear hcl
  go_wp2
  · rename_i hfi
    go_ret
    simp [stateV, hfi]
  · have hfi : firesV f b lo ke (k + 1) = false := by assumption
    have hS : stateV f b lo ke (k + 1) = if 0 < lastV f (k + 1) ∧ f (lastV f (k + 1) - 1) = 1 then 1 else 0 := by
      unfold stateV; rw [hfi]; rfl
    go_loopg [11] (k + 1) (fun g i wr => g ≤ k + 1 ∧ i = .int .i64 ((g : Int) - 1) ∧ lastV f g = lastV f (k + 1) ∧ wr = w')
    case atStart => exact ⟨Nat.le_refl _, by simp, rfl, rfl⟩
    case round =>
      obtain ⟨hj, rfl, hh, rfl⟩ := hrel
      cases gk with
      | zero =>
        go_wp2
        go_ret
        refine ⟨?_, rfl⟩
        rw [hS, ← hh]; rfl
      | succ t =>
        have e2 : (((t + 1 : Nat) : Int) - 1) = (t : Int) := by omega
        rw [e2]
        have hct := hf t (by omega)
        go_wp2
        · have t2 : f t = 2 := by simpa using (by assumption : (f t == 2) = true)
          go_roundg t
          case rel =>
            refine ⟨by omega, rfl, ?_, rfl⟩
            rw [← hh]; simp only [lastV, t2, if_true]
          case measure => omega
        · have t2 : ¬ f t = 2 := by simpa using (by assumption : (f t == 2) = false)
          have t1 : f t = 1 := by simpa using (by assumption : (f t == 1) = true)
          go_ret
          refine ⟨?_, rfl⟩
          rw [hS, ← hh]; simp [lastV, t1]
        · have t2 : ¬ f t = 2 := by simpa using (by assumption : (f t == 2) = false)
          have t1 : ¬ f t = 1 := by simpa using (by assumption : (f t == 1) = false)
          go_ret
          refine ⟨?_, rfl⟩
          rw [hS, ← hh]; simp [lastV, t1, t2]

def withinV (n lo hi : Int) : Int := lo + (if n.tmod (hi - lo + 1) < 0 then n.tmod (hi - lo + 1) + hi - lo + 1 else n.tmod (hi - lo + 1))
theorem within_walk (n lo hi : Int) (w : World) (h0 : 0 ≤ lo) (h1 : lo ≤ hi) (h2 : hi ≤ 100) :
    Calls Try.prog 10 #[.int .i64 n, .int .i64 lo, .int .i64 hi] w fun e w' => e = .returned (.int .i64 (withinV n lo hi)) ∧ w' = w := by
  have hlo : -(hi - lo + 1) < n.tmod (hi - lo + 1) := by
    have := Int.lt_tmod_of_pos n (show 0 < hi - lo + 1 by omega)
    exact this
  have hhi : n.tmod (hi - lo + 1) < hi - lo + 1 := Int.tmod_lt_of_pos n (by omega)
  go_enter Try.func10, Try.ntmps10
  go_wp2
  · have h : n.tmod (hi - lo + 1) < 0 := by assumption
    go_ret
    simp [withinV, h]
  · have h : ¬ n.tmod (hi - lo + 1) < 0 := by omega
    go_ret
    simp [withinV, h]

theorem withinV_in (n lo hi : Int) (h1 : lo ≤ hi) : lo ≤ withinV n lo hi ∧ withinV n lo hi ≤ hi := by
  have hlo : -(hi - lo + 1) < n.tmod (hi - lo + 1) := Int.lt_tmod_of_pos n (show 0 < hi - lo + 1 by omega)
  have hhi : n.tmod (hi - lo + 1) < hi - lo + 1 := Int.tmod_lt_of_pos n (by omega)
  unfold withinV
  split <;> omega

end Go.Proofs.Ytdnffpbofbijnaa.define
