/-
  DefineLife: the law's own walk.
-/
import Derived.Test.YtdnffpbofbijnaaDefTells
import Derived.Test.YtdnffpbofbijnaaDefPlain2
import Derived.Deep.QuietTactic
import Derived.BigQuiet
namespace Go.Proofs.Ytdnffpbofbijnaa.define
open Go Go.Proofs Go.RowKit Go.Proofs.Ytdnffpbofbijnaa.AH
set_option maxRecDepth 10000

theorem RowIs.carry {w w' : World} {B b n : Nat} {f : Nat → Int} (h : RowIs w ⟨b, 0, none⟩ n f) (hb : Below B w w') (hB : b < B) : RowIs w' ⟨b, 0, none⟩ n f :=
  fun i hi => (hb.cell (by rw [add_block]; exact hB)).trans (h i hi)

theorem add_zero (b k : Nat) : (⟨b, 0, none⟩ : Addr).add k = ⟨b, k, none⟩ := by simp only [Addr.add]; split <;> simp_all
theorem three_at (w : World) (x y z : Value) (t : TypeId) : (w.alloc (.cells #[x, y, z] t (0, 0))).cell? ⟨w.heap.size, 0, none⟩ = some x ∧ (w.alloc (.cells #[x, y, z] t (0, 0))).cell? ⟨w.heap.size, 1, none⟩ = some y ∧
    (w.alloc (.cells #[x, y, z] t (0, 0))).cell? ⟨w.heap.size, 2, none⟩ = some z := by refine ⟨?_, ?_, ?_⟩ <;> simp
theorem three_free (w : World) (cs : Array Value) (t : TypeId) (i : Nat) : (w.alloc (.cells cs t (0, 0))).frozen? ⟨w.heap.size, i, none⟩ = false := World.frozen?_alloc_new _ _ _ _

/-- An alert's life, as it lies in memory. -/
structure LifeAt (w : World) (M : Nat) (x : LifeV) : Prop where
  c0 : w.cell? ⟨M, 0, none⟩ = some (.int .i64 x.st)
  c1 : w.cell? ⟨M, 1, none⟩ = some (.int .i64 x.si)
  c2 : w.cell? ⟨M, 2, none⟩ = some (.int .i64 x.la)
  f0 : w.frozen? ⟨M, 0, none⟩ = false
  f1 : w.frozen? ⟨M, 1, none⟩ = false
  f2 : w.frozen? ⟨M, 2, none⟩ = false

theorem life_set {w : World} {M : Nat} {y x : LifeV} (z0 : w.cell? ⟨M, 0, none⟩ = some (.int .i64 x.st)) (z1 : w.cell? ⟨M, 1, none⟩ = some (.int .i64 x.si)) (z2 : w.cell? ⟨M, 2, none⟩ = some (.int .i64 x.la))
    (u0 : w.frozen? ⟨M, 0, none⟩ = false) (u1 : w.frozen? ⟨M, 1, none⟩ = false) (u2 : w.frozen? ⟨M, 2, none⟩ = false) :
    LifeAt (((w.setCell ⟨M, 0, none⟩ (.int .i64 y.st)).setCell ⟨M, 1, none⟩ (.int .i64 y.si)).setCell ⟨M, 2, none⟩ (.int .i64 y.la)) M y := by
  refine ⟨?_, ?_, ?_, by simpa using u0, by simpa using u1, by simpa using u2⟩
  · go_cell
  · go_cell
  · go_cell

set_option maxHeartbeats 1000000 in
theorem life_walk (v : Value) (m : Nat) (f : Nat → Int) (hm : m ≤ 24) (h012 : ∀ i, f i = 0 ∨ f i = 1 ∨ f i = 2) (step long keep : Int) (w : World) (hrow : RowOf w v m f) :
    Calls Try.prog 6 #[v, .int .i64 step, .int .i64 long, .int .i64 keep] w fun e w' => e = .returned (.bool true) ∧ Old w w' := by
  go_enter Try.func6, Try.ntmps6
  go_wp2_with fail
  refine hrow.mono ?_
  rintro e w1 ⟨u, rfl, hown, hb⟩
  clear hrow
  go_wp2_with fail
  refine (within_walk step 1 9 w1 (by omega) (by omega) (by omega)).mono ?_
  rintro e w' ⟨rfl, rfl⟩
  go_wp2_with fail
  refine (within_walk long 0 40 w' (by omega) (by omega) (by omega)).mono ?_
  rintro e w' ⟨rfl, rfl⟩
  go_wp2_with fail
  refine (within_walk keep 0 40 w' (by omega) (by omega) (by omega)).mono ?_
  rintro e w' ⟨rfl, rfl⟩
  have hs := withinV_in step 1 9 (by omega)
  have hl := withinV_in long 0 40 (by omega)
  have hk := withinV_in keep 0 40 (by omega)
  generalize withinV step 1 9 = b at hs ⊢
  generalize withinV long 0 40 = lo at hl ⊢
  generalize withinV keep 0 40 = ke at hk ⊢
  have hold := Old.of_below hb
  rcases own_cases hown with ⟨rfl, rfl⟩ | ⟨bl, cap, rfl, hB, hB', hf⟩
  · go_wp2_with fail
    go_loopg [26] 0 (fun g i wr => g = 0 ∧ i = .int .i64 0 ∧ Old w' wr)
    case atStart => exact ⟨rfl, rfl, Old.of_below (by go_grown)⟩
    case round =>
      obtain ⟨rfl, rfl, ho⟩ := hrel
      go_wp2_with fail
      refine (runs_old wr).mono ?_
      rintro e w2 ⟨rfl, ho2⟩
      go_wp2
      go_ret
      exact ⟨rfl, (hold.trans ho).trans ho2⟩
  · go_wp2_with fail
    go_loopg [26] m (fun g i wr => ∃ k : Nat, k + g = m ∧ i = .int .i64 k ∧ LifeAt wr w'.heap.size (lifeV f b lo ke k) ∧ Below w'.heap.size w' wr ∧ w'.heap.size < wr.heap.size)
    case atStart =>
      refine ⟨0, by omega, rfl, ?_, by go_grown, by simp⟩
      have h := three_at w' (.int .i64 0) (.int .i64 0) (.int .i64 0) 34
      exact ⟨h.1, h.2.1, h.2.2, three_free _ _ _ _, three_free _ _ _ _, three_free _ _ _ _⟩
    case round =>
      obtain ⟨k, hkm, rfl, hx, hbw, hsz⟩ := hrel
      cases gk with
      | zero =>
        have : k = m := by omega
        subst this
        go_wp2_with fail
        refine (runs_old wr).mono ?_
        rintro e w2 ⟨rfl, ho2⟩
        go_wp2
        go_ret
        exact ⟨rfl, (hold.trans (Old.of_below hbw)).trans ho2⟩
      | succ g =>
        have hf' := hf.carry hbw hB'
        have hct := hf' k (by omega)
        rw [add_zero] at hct
        obtain ⟨x0, x1, x2, y0, y1, y2⟩ := hx
        have hle := life_le f b lo ke k
        generalize hX : lifeV f b lo ke k = x at x0 x1 x2 hle
        have hst := state_life (lo := lo) hs.1 hk.1 h012 (k + 1)
        have hfi := fires_life (lo := lo) hs.1 hk.1 h012 (k + 1)
        simp only [lifeV, hX] at hst hfi
        clear h012
        go_wp2_with fail
        · have n2 : ¬ f k = 2 := by simpa using (by assumption : (f k != 2) = true)
          rw [if_neg n2] at hst hfi
          refine (next_walk x.st x.si x.la k b lo ke (f k == 1) wr hs.1 hs.2 hl.1 (by omega) hk.1 (by omega) (by omega) (by omega) (by omega) (by omega) (by omega) (by omega)).mono ?_
          rintro e w2 ⟨rfl, hbn⟩
          have hd1 : (f k == 1) = decide (f k = 1) := rfl
          rw [hd1]
          have hy : lifeV f b lo ke (k + 1) = nextV x k b lo ke (decide (f k = 1)) := by simp only [lifeV, hX]; rw [if_neg n2]
          generalize nextV x k b lo ke (decide (f k = 1)) = y at hst hfi hy ⊢
          have hf2 := hf'.carry hbn (by omega)
          have hb2 : Below w'.heap.size w' w2 := hbw.trans (hbn.mono (by omega))
          have hsz2 : w'.heap.size < w2.heap.size := Nat.lt_of_lt_of_le hsz hbn.size
          have z0 := (hbn.cell (p := ⟨w'.heap.size, 0, none⟩) hsz).trans x0
          have z1 := (hbn.cell (p := ⟨w'.heap.size, 1, none⟩) hsz).trans x1
          have z2 := (hbn.cell (p := ⟨w'.heap.size, 2, none⟩) hsz).trans x2
          have u0 := (hbn.frozen (p := ⟨w'.heap.size, 0, none⟩) hsz).trans y0
          have u1 := (hbn.frozen (p := ⟨w'.heap.size, 1, none⟩) hsz).trans y1
          have u2 := (hbn.frozen (p := ⟨w'.heap.size, 2, none⟩) hsz).trans y2
          clear x0 x1 x2 y0 y1 y2 hbn hct hf'
          simp only [LifeV.val]
          go_wp2_with fail
          obtain ⟨wX, hwX⟩ : ∃ wX, ((w2.setCell ⟨w'.heap.size, 0, none⟩ (.int .i64 y.st)).setCell ⟨w'.heap.size, 1, none⟩ (.int .i64 y.si)).setCell ⟨w'.heap.size, 2, none⟩ (.int .i64 y.la) = wX := ⟨_, rfl⟩
          have hlX : LifeAt wX w'.heap.size y := by subst hwX; exact life_set z0 z1 z2 u0 u1 u2
          have hbX : Below w'.heap.size w' wX := by subst hwX; go_grown
          have hsX : w'.heap.size < wX.heap.size := by subst hwX; simpa using hsz2
          have hfX := hf.carry hbX hB'
          rw [hwX]
          clear hwX hb2 hsz2 hf2 z0 z1 z2 u0 u1 u2
          have cS : ∀ n, Calls Try.prog 8 #[.slice (some ⟨bl, 0, none⟩) m cap, .int .i64 b, .int .i64 lo, .int .i64 ke, .int .i64 k] (wX.drewN n) fun e w' => e = .returned (.int .i64 y.st) ∧ w' = wX.drewN n := fun n => by
            have := state_walk ⟨bl, 0, none⟩ m cap f b lo ke (wX.drewN n) (fun i hi => hfX i hi) hm hs.1 hs.2 hl.1 (by omega) hk.1 (by omega) k (by omega)
            rwa [hst] at this
          have cF : ∀ n, Calls Try.prog 7 #[.slice (some ⟨bl, 0, none⟩) m cap, .int .i64 b, .int .i64 lo, .int .i64 ke, .int .i64 k] (wX.drewN n) fun e w' => e = .returned (.bool (decide (y.st = 2))) ∧ w' = wX.drewN n := fun n => by
            have := fires_walk ⟨bl, 0, none⟩ m cap f b lo ke (wX.drewN n) (fun i hi => hfX i hi) hm hs.1 hs.2 hl.1 (by omega) hk.1 (by omega) (k + 1) (by omega)
            rw [show (((k + 1 : Nat) : Int) - 1) = (k : Int) by omega, hfi] at this
            exact this
          have q0 := hlX.c0
          go_quiet (first | (refine Calls.quiet_of_same (cS _)) | (refine Calls.quiet_of_same (cF _)))
          have hdd : (decide (y.st = 2) != (y.st == 2)) = false := by
            rw [show (y.st == 2) = decide (y.st = 2) from rfl]; simp
          go_wp2
          · exfalso
            have hc : (decide (y.st = 2) != (y.st == 2)) = true := by assumption
            rw [hdd] at hc; cases hc
          · go_roundg g
            case rel => exact ⟨k + 1, by omega, by simp, by rw [hy]; exact ⟨hlX.c0, hlX.c1, hlX.c2, hlX.f0, hlX.f1, hlX.f2⟩, hbX.trans ⟨rfl, rfl, rfl, Nat.le_refl _, fun _ _ => rfl⟩, hsX⟩
            case measure => omega
        · have e2 : f k = 2 := by simpa using (by assumption : (f k != 2) = false)
          rw [if_pos e2] at hst hfi
          have hy : lifeV f b lo ke (k + 1) = x := by simp only [lifeV, hX]; rw [if_pos e2]
          have hlX : LifeAt wr w'.heap.size x := ⟨x0, x1, x2, y0, y1, y2⟩
          clear x0 x1 x2 y0 y1 y2 hct
          have cS : ∀ n, Calls Try.prog 8 #[.slice (some ⟨bl, 0, none⟩) m cap, .int .i64 b, .int .i64 lo, .int .i64 ke, .int .i64 k] (wr.drewN n) fun e w' => e = .returned (.int .i64 x.st) ∧ w' = wr.drewN n := fun n => by
            have := state_walk ⟨bl, 0, none⟩ m cap f b lo ke (wr.drewN n) (fun i hi => hf' i hi) hm hs.1 hs.2 hl.1 (by omega) hk.1 (by omega) k (by omega)
            rwa [hst] at this
          have cF : ∀ n, Calls Try.prog 7 #[.slice (some ⟨bl, 0, none⟩) m cap, .int .i64 b, .int .i64 lo, .int .i64 ke, .int .i64 k] (wr.drewN n) fun e w' => e = .returned (.bool (decide (x.st = 2))) ∧ w' = wr.drewN n := fun n => by
            have := fires_walk ⟨bl, 0, none⟩ m cap f b lo ke (wr.drewN n) (fun i hi => hf' i hi) hm hs.1 hs.2 hl.1 (by omega) hk.1 (by omega) (k + 1) (by omega)
            rw [show (((k + 1 : Nat) : Int) - 1) = (k : Int) by omega, hfi] at this
            exact this
          have q0 := hlX.c0
          go_quiet (first | (refine Calls.quiet_of_same (cS _)) | (refine Calls.quiet_of_same (cF _)))
          have hdd : (decide (x.st = 2) != (x.st == 2)) = false := by
            rw [show (x.st == 2) = decide (x.st = 2) from rfl]; simp
          go_wp2
          · exfalso
            have hc : (decide (x.st = 2) != (x.st == 2)) = true := by assumption
            rw [hdd] at hc; cases hc
          · go_roundg g
            case rel => exact ⟨k + 1, by omega, by simp, by rw [hy]; exact ⟨hlX.c0, hlX.c1, hlX.c2, hlX.f0, hlX.f1, hlX.f2⟩, hbw.trans ⟨rfl, rfl, rfl, Nat.le_refl _, fun _ _ => rfl⟩, hsz⟩
            case measure => omega

end Go.Proofs.Ytdnffpbofbijnaa.define
