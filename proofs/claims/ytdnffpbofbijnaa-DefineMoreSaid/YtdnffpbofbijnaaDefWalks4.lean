/-
  Package life: what its functions compute, by the kit's walk.
-/
import Derived.Test.YtdnffpbofbijnaaDefWalks
namespace Go.Proofs.Ytdnffpbofbijnaa.define
open Go Go.Proofs Go.RowKit
set_option maxRecDepth 10000

theorem least_walk (a b c : Int) (w : World) (hb : 1 ≤ b) (hb' : b ≤ 9) (hc : 0 ≤ c) (hc' : c ≤ 60) : Calls Try.prog 19 #[.int .i64 a, .int .i64 b, .int .i64 c] w fun e w' => e = .returned (.bool (longE b c a)) ∧ w' = w := by
  have h1 : c / b ≤ 60 := by
    have := Int.ediv_le_self b hc
    omega
  have h0 : 0 ≤ c / b := Int.ediv_nonneg hc (by omega)
  go_enter Try.func19, Try.ntmps19
  go_wp2
  · have h : 0 < c % b := by assumption
    go_returns
    simp [longE, h]
  · have h : ¬ 0 < c % b := by omega
    go_returns
    simp [longE, h]

def mostE (b c a : Int) : Bool := decide (a ≤ c / b)
theorem most_walk (a b c : Int) (w : World) (hb : 1 ≤ b) (hb' : b ≤ 9) (hc : 0 ≤ c) (hc' : c ≤ 60) : Calls Try.prog 18 #[.int .i64 a, .int .i64 b, .int .i64 c] w fun e w' => e = .returned (.bool (mostE b c a)) ∧ w' = w := by
  have h1 : c / b ≤ 60 := by
    have := Int.ediv_le_self b hc
    omega
  have h0 : 0 ≤ c / b := Int.ediv_nonneg hc (by omega)
  go_enter Try.func18, Try.ntmps18
  go_wp2
  go_ret
  simp [mostE]

structure LifeV where
  st : Int
  si : Int
  la : Int
def LifeV.val (x : LifeV) : Value := .agg #[.int .i64 x.st, .int .i64 x.si, .int .i64 x.la]
def nextV (x : LifeV) (tick b lo ke : Int) (holds : Bool) : LifeV :=
  if holds = false then (if x.st = 2 ∧ mostE b ke (tick - x.la) = true then x else ⟨0, 0, 0⟩)
  else if x.st = 0 then ⟨if longE b lo 0 = true then 2 else 1, tick, tick⟩
  else ⟨if x.st = 1 ∧ longE b lo (tick - x.si) = true then 2 else x.st, x.si, tick⟩

theorem next_walk (st si la tick b lo ke : Int) (holds : Bool) (w : World) (hb : 1 ≤ b) (hb' : b ≤ 9) (hl : 0 ≤ lo) (hl' : lo ≤ 60) (hk : 0 ≤ ke) (hk' : ke ≤ 60) (ht : 0 ≤ tick) (ht' : tick ≤ 24) (hla : 0 ≤ la) (hla' : la ≤ 24) (hsi : 0 ≤ si) (hsi' : si ≤ 24) :
    Calls Try.prog 13 #[.agg #[.int .i64 st, .int .i64 si, .int .i64 la], .int .i64 tick, .int .i64 b, .int .i64 lo, .int .i64 ke, .bool holds] w fun e w' => e = .returned (nextV ⟨st, si, la⟩ tick b lo ke holds).val ∧ Below w.heap.size w w' := by
  go_enter Try.func13, Try.ntmps13
  go_wp2_with fail
  · have hh : holds = true := by assumption
    have h0 : st = 0 := by simpa using (by assumption : (st == 0) = true)
    refine (least_walk 0 b lo _ hb hb' hl hl').mono ?_
    rintro e w' ⟨rfl, rfl⟩
    go_wp2
    all_goals go_returns
    all_goals refine ⟨?_, by go_grown⟩
    all_goals simp [nextV, LifeV.val, *]
  · have hh : holds = true := by assumption
    have h0 : ¬ st = 0 := by simpa using (by assumption : (st == 0) = false)
    have h1 : st = 1 := by assumption
    refine (least_walk (tick - si) b lo _ hb hb' hl hl').mono ?_
    rintro e w' ⟨rfl, rfl⟩
    go_wp2
    all_goals go_returns
    all_goals refine ⟨?_, by go_grown⟩
    all_goals simp [nextV, LifeV.val, *]
  · have hh : holds = true := by assumption
    have h0 : ¬ st = 0 := by simpa using (by assumption : (st == 0) = false)
    have h1 : ¬ st = 1 := by assumption
    go_returns
    refine ⟨?_, by go_grown⟩
    simp [nextV, LifeV.val, hh, h0, h1]
  · have hh : ¬ holds = true := by assumption
    have h1 : st = 2 := by assumption
    refine (most_walk (tick - la) b ke _ hb hb' hk hk').mono ?_
    rintro e w' ⟨rfl, rfl⟩
    go_wp2
    all_goals go_returns
    all_goals refine ⟨?_, by go_grown⟩
    all_goals simp [nextV, LifeV.val, *]
  · have hh : ¬ holds = true := by assumption
    have h1 : ¬ st = 2 := by assumption
    go_returns
    refine ⟨?_, by go_grown⟩
    simp [nextV, LifeV.val, hh, h1]

end Go.Proofs.Ytdnffpbofbijnaa.define
