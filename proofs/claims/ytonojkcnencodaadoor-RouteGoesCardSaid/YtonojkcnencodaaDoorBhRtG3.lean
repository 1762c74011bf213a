/-
  RouteGoes: who is wanted, in order, once (no program in sight).
-/
import Derived.Test.YtonojkcnencodaaDoorBhRtG2
import Derived.Test.YtonojkcnencodaaDoorBhSort
namespace Go.Proofs.YtonojkcnencodaaDoor.BH.Rt
open Go Go.Proofs
def wantF (goes : List Bool) (i : Nat) : List (List UInt8) := if (wantG goes i).1 = [] then [[114, 111, 111, 116]] else (wantG goes i).1
theorem want_ne (goes : List Bool) : ∀ i, 0 < i → (wantG goes i).1 ≠ []
  | i + 1, _ => by
    rw [wantG]; split
    · rename_i h
      cases i with
      | zero => cases h
      | succ i => exact want_ne goes (i + 1) (by omega)
    · simp
theorem to_leaf (goes : List Bool) (k : Nat) : toV [] (kidG goes k) = [toG k] := by
  show (if (toL [] []).2 then _ else _) = _
  rw [toL_nil]; rfl
theorem at_want (goes : List Bool) (i : Nat) : ∀ j, j ≤ i → ((wantG goes j).2 = false → At [] (upG (kidsG goes i) 0) j (wantG goes j).1 (decide (0 < j))) ∧ ((wantG goes j).2 = true → toL [] (kidsG goes i) = ((wantG goes j).1, true))
  | 0, _ => ⟨fun _ => at_begin _ _, fun h => (by cases h)⟩
  | j + 1, hj => by
    obtain ⟨h1, h2⟩ := at_want goes i j (by omega)
    have hx : (upG (kidsG goes i) 0).kids[j]? = some (kidG goes j) := by
      show (kidsG goes i)[j]? = _
      unfold kidsG
      rw [List.getElem?_map, List.getElem?_range (by omega)]; rfl
    by_cases hd : (wantG goes j).2 = true
    · rw [wantG_stay hd]
      exact ⟨fun h => (by rw [hd] at h; cases h), fun _ => h2 hd⟩
    · have hd := Bool.eq_false_iff.mpr hd
      have hat := h1 hd
      rw [wantG_next hd]
      rw [← to_leaf goes j]
      constructor
      · intro hg
        have hg : goes.getD j false = true := by simpa using hg
        rw [decide_eq_true (by omega)]
        exact at_goes hx hat rfl hg
      · intro hg
        have hg : goes.getD j false = false := by simpa using hg
        exact at_stop hx hat rfl hg
theorem to_kids (goes : List Bool) (i : Nat) : toV [] (upG (kidsG goes i) 0) = wantF goes i := by
  obtain ⟨h1, h2⟩ := at_want goes i i (Nat.le_refl _)
  show (if (toL [] (kidsG goes i)).2 then (toL [] (kidsG goes i)).1 else [[114, 111, 111, 116]]) = _
  unfold wantF
  by_cases hd : (wantG goes i).2 = true
  · have hi : 0 < i := by
      cases i with
      | zero => cases hd
      | succ i => omega
    rw [h2 hd, if_neg (want_ne goes i hi)]; rfl
  · have e := at_end (by show (kidsG goes i).length ≤ i; rw [kidsG_len]; omega) (h1 (Bool.eq_false_iff.mpr hd))
    rw [show toL [] (kidsG goes i) = _ from e]
    cases i with
    | zero => rfl
    | succ i => rw [if_neg (want_ne goes (i + 1) (by omega)), decide_eq_true (by omega)]; rfl
theorem To_up {goes : List Bool} {i k : Nat} (hi : i ≤ 8) (hk : k ≤ 6) : ToV [] (upG (kidsG goes i) k) = wantF goes i := by
  unfold ToV; rw [Right_up hi hk, to_up, to_kids]; rfl
theorem want_form (goes : List Bool) : ∀ i, ∃ m, m ≤ i ∧ (wantG goes i).1 = (List.range m).map toG ∧ ((wantG goes i).2 = false → m = i)
  | 0 => ⟨0, by omega, rfl, fun _ => rfl⟩
  | i + 1 => by
    obtain ⟨m, h1, h2, h3⟩ := want_form goes i
    by_cases hd : (wantG goes i).2 = true
    · rw [wantG_stay hd]; exact ⟨m, by omega, h2, fun h => (by rw [hd] at h; cases h)⟩
    · have hd := Bool.eq_false_iff.mpr hd
      rw [wantG_next hd]
      have := h3 hd
      subst this
      exact ⟨m + 1, by omega, by simp [h2, List.range_succ], fun _ => rfl⟩
theorem sort_two {W D : List (List UInt8)} (hp : W.Perm D) (hs : D.Pairwise (· ≤ ·)) : sortS W = D := by
  refine List.Perm.eq_of_pairwise (le := fun a b => decide (a ≤ b) = true) (fun a b _ _ h1 h2 => List.le_antisymm (of_decide_eq_true h1) (of_decide_eq_true h2)) ?_ ?_ ((List.mergeSort_perm W _).trans hp)
  · exact List.pairwise_mergeSort (le := fun x y : List UInt8 => decide (x ≤ y)) (fun a b c h1 h2 => decide_eq_true (List.le_trans (of_decide_eq_true h1) (of_decide_eq_true h2))) (fun a b => (List.le_total a b).elim (fun h => by simp [h]) (fun h => by simp [h])) W
  · exact hs.imp fun h => decide_eq_true h
def dbl (W : List (List UInt8)) : List (List UInt8) := W.flatMap fun x => [x, x]
theorem all_form : ∀ m, 1 ≤ m → m ≤ 8 → Lib.compact (sortS ((List.range m).map toG ++ (List.range m).map toG)) = (List.range m).map toG
  | 1, _, _ => by rw [sort_two (D := dbl ((List.range 1).map toG)) (by decide) (by decide)]; decide
  | 2, _, _ => by rw [sort_two (D := dbl ((List.range 2).map toG)) (by decide) (by decide)]; decide
  | 3, _, _ => by rw [sort_two (D := dbl ((List.range 3).map toG)) (by decide) (by decide)]; decide
  | 4, _, _ => by rw [sort_two (D := dbl ((List.range 4).map toG)) (by decide) (by decide)]; decide
  | 5, _, _ => by rw [sort_two (D := dbl ((List.range 5).map toG)) (by decide) (by decide)]; decide
  | 6, _, _ => by rw [sort_two (D := dbl ((List.range 6).map toG)) (by decide) (by decide)]; decide
  | 7, _, _ => by rw [sort_two (D := dbl ((List.range 7).map toG)) (by decide) (by decide)]; decide
  | 8, _, _ => by rw [sort_two (D := dbl ((List.range 8).map toG)) (by decide) (by decide)]; decide
theorem all_root : Lib.compact (sortS ([[114, 111, 111, 116]] ++ [[114, 111, 111, 116]])) = [[114, 111, 111, 116]] := by rw [sort_two (D := [[114, 111, 111, 116], [114, 111, 111, 116]]) (by decide) (by decide)]; decide
theorem all_want (goes : List Bool) {i : Nat} (hi : i ≤ 8) : Lib.compact (sortS (wantF goes i ++ wantF goes i)) = wantF goes i := by
  unfold wantF
  split
  · exact all_root
  · rename_i h
    obtain ⟨m, h1, h2, _⟩ := want_form goes i
    rw [h2] at h ⊢
    exact all_form m (by cases m with | zero => exact absurd rfl h | succ m => omega) (by omega)
end Go.Proofs.YtonojkcnencodaaDoor.BH.Rt
