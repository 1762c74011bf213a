/-
  The law's own reading of numbers as a row (klaxonlaw16.row), by the kit's walk.
-/
import Derived.Test.YtdnffpbofbijnaaDefWalks
namespace Go.Proofs.Ytdnffpbofbijnaa.define
open Go Go.Proofs Go.RowKit
set_option maxRecDepth 10000

theorem info3 : (Try.prog.info? 3).map (fun i => (i.zero, i.size, i.bytes)) = some (some (.int .i64 0), 1, 8) := by kernel_rfl

/-- What a number says of a tick. -/
def rowW (x : Int) : Int := if x = 8 then 2 else if 5 < x then 0 else 1
def rowE (x : Int) : Int := rowW (withinV x 0 8)
theorem add_block (ad : Addr) (k : Nat) : (ad.add k).block = ad.block := by unfold Addr.add; split <;> rfl
theorem one_new (w : World) (t : TypeId) (x : Value) : ∀ (j : Nat) (u : Value), [x][j]? = some u → (w.alloc (.cells #[x] t (0, 0))).cell? ((⟨w.heap.size, 0, none⟩ : Addr).add j) = some u := by
  intro j u hj
  match j, hj with
  | 0, hj => simp at hj; subst hj; simp [Addr.add]
def rowL (g : Nat → Int) (n : Nat) : List Value := (List.range n).map fun i => .int .i64 (rowE (g i))
theorem rowL_succ (g : Nat → Int) (n : Nat) : rowL g (n + 1) = rowL g n ++ [.int .i64 (rowE (g n))] := by simp [rowL, List.range_succ]

theorem one_one (k : IntKind) (x : Int) : ∀ u ∈ [Value.int k x], u.oneCell' = true := by
  intro u hu; simp at hu; subst hu; rfl

theorem row_walk (ad : Addr) (n cap : Nat) (g : Nat → Int) (w : World) (hg : RowIs w ad n g) (hn : n ≤ 9223372036854775807) (had : 0 < n → ad.block < w.heap.size) :
    Calls Try.prog 9 #[.slice (some ad) n cap] w fun e w' => ∃ v, e = .returned v ∧ w'.ownsRow w.heap.size 3 1 v (min n 24) (rowL g (min n 24)) ∧ Below w.heap.size w w' := by
  obtain ⟨i0, hi, hz0, hz1, hz2⟩ := info_parts info3
  go_enter Try.func9, Try.ntmps9
  go_wp2
  go_loopg [3, 4] (min n 24) (fun gk v i wr => ∃ k : Nat, k + gk = min n 24 ∧ i = .int .i64 k ∧ wr.ownsRow w.heap.size 3 1 v k (rowL g k) ∧ Below w.heap.size w wr)
  case atStart => exact ⟨0, by omega, rfl, World.ownsRow_nil _ _ _ _, Below.refl _ _⟩
  case round =>
    obtain ⟨k, hk, rfl, hown, hb⟩ := hrel
    cases gk with
    | zero =>
      have hk' : k = min n 24 := by omega
      go_wp2
      all_goals go_ret
      all_goals exact ⟨_, rfl, by rw [← hk']; exact hown, hb⟩
    | succ q =>
      have hcell : wr.cell? (ad.add k) = some (.int .i64 (g k)) := (hb.cell (by rw [add_block]; exact had (by omega))).trans (hg k (by omega))
      have hs := hb.size
      go_wp2_with fail
      · refine (within_walk (g k) 0 8 wr (by omega) (by omega) (by omega)).mono ?_
        rintro e w' ⟨rfl, rfl⟩
        have hE : rowE (g k) = rowW (withinV (g k) 0 8) := rfl
        have hin := withinV_in (g k) 0 8 (by omega)
        have hm1 : k + 1 ≤ maxLen := by unfold maxLen; omega
        have hm2 : (k + 1) * 8 ≤ 140737488355328 := by omega
        have hm3 : ∀ o, w.heap.size ≤ (w'.alloc o).heap.size := fun o => by simp; omega
        generalize withinV (g k) 0 8 = x at hE hin ⊢
        go_wp2_with (first
          | (at_builtin; refine wpList_append_own _ rfl _ _ 26 rfl w.heap.size 3 i0 (.int .i64 0) 1 8 Try.underlying26 hi hz0 hz1 hz2 rfl (by decide) _ _ _ rfl (hown.alloc _) ⟨w'.heap.size, 0, none⟩ 1 1 [.int .i64 2] rfl rfl (one_new w' _ _) (one_one _ _) hm1 hm2 (hm3 _) ?_)
          | (at_builtin; refine wpList_append_own _ rfl _ _ 26 rfl w.heap.size 3 i0 (.int .i64 0) 1 8 Try.underlying26 hi hz0 hz1 hz2 rfl (by decide) _ _ _ rfl (hown.alloc _) ⟨w'.heap.size, 0, none⟩ 1 1 [.int .i64 0] rfl rfl (one_new w' _ _) (one_one _ _) hm1 hm2 (hm3 _) ?_)
          | (at_builtin; refine wpList_append_own _ rfl _ _ 26 rfl w.heap.size 3 i0 (.int .i64 0) 1 8 Try.underlying26 hi hz0 hz1 hz2 rfl (by decide) _ _ _ rfl (hown.alloc _) ⟨w'.heap.size, 0, none⟩ 1 1 [.int .i64 1] rfl rfl (one_new w' _ _) (one_one _ _) hm1 hm2 (hm3 _) ?_))
        · intro v' w1 hown' hgrow _
          have hE' : rowE (g k) = 2 := by
            have h8 : x = 8 := by simpa using (by assumption : (x == 8) = true)
            rw [hE]; simp [rowW, h8]
          have hb' : Below w.heap.size w w1 := (hb.alloc (by omega) _).grown hgrow (by simp; omega) (fun j hj => (hown.lt j hj).1)
          clear hgrow hown hb
          go_wp2
          go_roundg q
          case rel => exact ⟨k + 1, by omega, by simp, by rw [rowL_succ, hE']; exact hown', hb'⟩
          case measure => omega
        · intro v' w1 hown' hgrow _
          have hE' : rowE (g k) = 0 := by
            have h8 : ¬ x = 8 := by simpa using (by assumption : (x == 8) = false)
            have h5 : 5 < x := by omega
            rw [hE]; simp [rowW, h8, h5]
          have hb' : Below w.heap.size w w1 := (hb.alloc (by omega) _).grown hgrow (by simp; omega) (fun j hj => (hown.lt j hj).1)
          clear hgrow hown hb
          go_wp2
          go_roundg q
          case rel => exact ⟨k + 1, by omega, by simp, by rw [rowL_succ, hE']; exact hown', hb'⟩
          case measure => omega
        · intro v' w1 hown' hgrow _
          have hE' : rowE (g k) = 1 := by
            have h8 : ¬ x = 8 := by simpa using (by assumption : (x == 8) = false)
            have h5 : ¬ 5 < x := by omega
            rw [hE]; simp [rowW, h8, h5]
          have hb' : Below w.heap.size w w1 := (hb.alloc (by omega) _).grown hgrow (by simp; omega) (fun j hj => (hown.lt j hj).1)
          clear hgrow hown hb
          go_wp2
          go_roundg q
          case rel => exact ⟨k + 1, by omega, by simp, by rw [rowL_succ, hE']; exact hown', hb'⟩
          case measure => omega

/-- A nil slice, or one of length 0. -/
theorem row_walk0 (ao : Option Addr) (cap : Nat) (w : World) : Calls Try.prog 9 #[.slice ao 0 cap] w fun e w' => ∃ v, e = .returned v ∧ w'.ownsRow w.heap.size 3 1 v 0 [] ∧ Below w.heap.size w w' := by
  go_enter Try.func9, Try.ntmps9
  go_wp2
  go_rounds 1
  all_goals go_ret
  all_goals exact ⟨_, rfl, World.ownsRow_nil _ _ _ _, Below.refl _ _⟩

end Go.Proofs.Ytdnffpbofbijnaa.define
