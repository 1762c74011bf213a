/-
  DefineMore: the law's own walk.
-/
import Derived.Test.YtdnffpbofbijnaaDefLives
import Derived.Deep.DeepCutAuto
import Derived.Deep.OwnRows
namespace Go.Proofs.Ytdnffpbofbijnaa.define
open Go Go.Proofs Go.RowKit Go.Proofs.Ytdnffpbofbijnaa.AH
set_option maxRecDepth 10000

theorem own_new (w : World) (base : Nat) (hb : base ≤ w.heap.size) : (w.alloc (.cells #[] 3)).ownsRow base 3 1 (.slice (some ⟨w.heap.size, 0, none⟩) 0 0) 0 [] :=
  ⟨rfl, .inr ⟨w.heap.size, 0, #[], rfl, hb, by show (w.heap.push _)[w.heap.size]? = _; simp, Nat.le_refl _, by unfold maxLen; omega, rfl, rfl⟩⟩

theorem own_free {w : World} {B m : Nat} {b cap : Nat} {xs : List Value} (h : w.ownsRow B 3 1 (.slice (some ⟨b, 0, none⟩) m cap) m xs) (i : Nat) : w.frozen? ⟨b, i, none⟩ = false := by
  obtain ⟨_, ⟨h, _⟩ | ⟨b', cap', cur, h, hg, hh, _⟩⟩ := h
  · cases h
  · cases h
    simp [World.frozen?, hh]

theorem news_of {w : World} {bl m : Nat} {f : Nat → Int} (hf : RowIs w ⟨bl, 0, none⟩ m f) (hB : bl < w.heap.size) (o : Obj) : ∀ j u, ((List.range m).map fun i => Value.int .i64 (f i))[j]? = some u → (w.alloc o).cell? ((⟨bl, 0, none⟩ : Addr).add j) = some u := by
  intro j u hj
  have hjm : j < m := by
    have := (List.getElem?_eq_some_iff.mp hj).1
    simpa using this
  have : u = .int .i64 (f j) := by
    have h2 : ((List.range m).map fun i => Value.int .i64 (f i))[j]? = some (.int .i64 (f j)) := by simp [hjm]
    rw [h2] at hj; cases hj; rfl
  subst this
  have h3 : (w.alloc o).heap[bl]? = w.heap[bl]? := by
    show (w.heap.push o)[bl]? = _
    rw [Array.getElem?_push, if_neg (by omega)]
  have h4 := hf j hjm
  rw [add_zero] at h4 ⊢
  exact (World.cell?_of_block (w := w) h3).trans h4

/-- The row with one tick turned on. -/
def turnV (f : Nat → Int) (i : Nat) (j : Nat) : Int := if j = i then (if f i = 0 then 1 else f i) else f j

theorem turn_same {w : World} {tb m ix : Nat} {f : Nat → Int} (h : RowIs w ⟨tb, 0, none⟩ m f) (h0 : ¬ f ix = 0) : RowIs w ⟨tb, 0, none⟩ m (turnV f ix) := by
  intro j hj
  rw [h j hj]
  unfold turnV
  split
  · rename_i e; subst e; first | rw [if_neg h0] | simp
  · rfl
theorem turn_set {w : World} {tb m ix : Nat} {f : Nat → Int} (h : RowIs w ⟨tb, 0, none⟩ m f) (hc : w.cell? ⟨tb, ix, none⟩ = some (.int .i64 (f ix))) (h0 : f ix = 0) : RowIs (w.setCell ⟨tb, ix, none⟩ (.int .i64 1)) ⟨tb, 0, none⟩ m (turnV f ix) := by
  intro j hj
  have h1 := h j hj
  rw [add_zero] at h1 ⊢
  unfold turnV
  by_cases e : j = ix
  · subst e
    rw [if_pos rfl, if_pos h0]
    exact World.cell?_setCell_same _ _ _ hc
  · rw [if_neg e]
    exact (World.cell?_setCell_other _ _ _ _ (by simp; try omega)).trans h1

theorem turn_fires {f : Nat → Int} {b lo ke : Int} {ix K : Nat} (h : FiresP f b lo ke K) : FiresP (turnV f ix) b lo ke K := by
  refine firesP_more (fun i _ h => ?_) (fun i _ h => ?_) (fun i _ h => ?_) h <;> unfold turnV <;> split <;> rename_i e <;> first | exact h | (subst e; split <;> omega)

/-- Two new rows of noughts. -/
structure TwoRows (w wx : World) (bo bn : Nat) : Prop where
  below : Below w.heap.size w wx
  ne : bo ≠ bn
  ho : w.heap.size ≤ bo
  hn : w.heap.size ≤ bn
  ko : bo < wx.heap.size
  kn : bn < wx.heap.size
  ro : RowIs wx ⟨bo, 0, none⟩ 12 (fun _ => 0)
  rn : RowIs wx ⟨bn, 0, none⟩ 12 (fun _ => 0)
  fn : ∀ i, wx.frozen? ⟨bn, i, none⟩ = false

def noughts : Obj := .cells (madeCells #[.int .i64 0] 12) 3 (0, 0)
theorem noughts_row {w : World} {b : Nat} (h : w.heap[b]? = some noughts) : RowIs w ⟨b, 0, none⟩ 12 (fun _ => 0) := by
  intro j hj
  rw [add_zero]
  have : (madeCells #[Value.int .i64 0] 12)[j]? = some (.int .i64 0) := by simp [madeCells, hj, Nat.mod_one]
  simp [World.cell?, h, noughts, this]
theorem noughts_free {w : World} {b : Nat} (h : w.heap[b]? = some noughts) (i : Nat) : w.frozen? ⟨b, i, none⟩ = false := by
  simp [World.frozen?, h, noughts]

theorem two_new {w : World} (w0 : World) {bo bn : Nat} (hb : Below w.heap.size w ((w0.alloc noughts).alloc noughts)) (h : w0.heap.size = w.heap.size) (hc : (bo = w.heap.size ∧ bn = w.heap.size + 1) ∨ (bo = w.heap.size + 1 ∧ bn = w.heap.size)) :
    TwoRows w ((w0.alloc noughts).alloc noughts) bo bn := by
  have h0 : ((w0.alloc noughts).alloc noughts).heap[w.heap.size]? = some noughts := by
    show ((w0.heap.push noughts).push noughts)[w.heap.size]? = _
    rw [← h, Array.getElem?_push, if_neg (by simp), Array.getElem?_push, if_pos rfl]
  have h1 : ((w0.alloc noughts).alloc noughts).heap[w.heap.size + 1]? = some noughts := by
    show ((w0.heap.push noughts).push noughts)[w.heap.size + 1]? = _
    rw [← h, Array.getElem?_push, if_pos (by simp)]
  have l0 := (Array.getElem?_eq_some_iff.mp h0).1
  have l1 := (Array.getElem?_eq_some_iff.mp h1).1
  rcases hc with ⟨rfl, rfl⟩ | ⟨rfl, rfl⟩
  · exact ⟨hb, by omega, by omega, by omega, l0, l1, noughts_row h0, noughts_row h1, noughts_free h1⟩
  · exact ⟨hb, by omega, by omega, by omega, l1, l0, noughts_row h1, noughts_row h0, noughts_free h0⟩

def onV (k j : Nat) : Int := if j < k then 1 else 0
/-- The second row is turned on, so far. -/
structure OnRow (w wx : World) (bo bn k : Nat) : Prop where
  below : Below w.heap.size w wx
  ne : bo ≠ bn
  hn : w.heap.size ≤ bn
  ro : RowIs wx ⟨bo, 0, none⟩ 12 (fun _ => 0)
  rn : RowIs wx ⟨bn, 0, none⟩ 12 (onV k)
  fn : ∀ i, wx.frozen? ⟨bn, i, none⟩ = false
theorem TwoRows.on {w wx : World} {bo bn : Nat} (h : TwoRows w wx bo bn) : OnRow w wx bo bn 0 := ⟨h.below, h.ne, h.hn, h.ro, fun j hj => by simpa [onV] using h.rn j hj, h.fn⟩
theorem OnRow.step {w wx : World} {bo bn k : Nat} (h : OnRow w wx bo bn k) (hk : k < 12) : OnRow w (wx.setCell ⟨bn, k, none⟩ (.int .i64 1)) bo bn (k + 1) := by
  have hn := h.hn
  have hne := h.ne
  refine ⟨h.below.setCell (by exact hn) _, h.ne, h.hn, fun j hj => ?_, fun j hj => ?_, fun i => by simpa using h.fn i⟩
  · have := h.ro j hj
    rw [add_zero] at this ⊢
    exact (World.cell?_setCell_other _ _ _ _ (by simp; try omega)).trans this
  · have := h.rn j hj
    rw [add_zero] at this ⊢
    unfold onV at this ⊢
    by_cases e : j = k
    · subst e
      rw [if_pos (by omega)]
      exact World.cell?_setCell_same _ _ _ this
    · rw [World.cell?_setCell_other _ _ _ _ (by simp; try omega), this]
      by_cases e2 : j < k
      · rw [if_pos e2, if_pos (by omega)]
      · rw [if_neg e2, if_neg (by omega)]

theorem all_off {b lo ke : Int} (hb : 1 ≤ b) (hk : 0 ≤ ke) (K : Nat) : firesV (fun _ => 0) b lo ke K = false := by
  have := fun h => firesP_off (f := fun _ => 0) (fun _ _ => rfl) ((fires_iff (lo := lo) hb hk K).mp h)
  simpa using this
theorem all_on {b lo ke : Int} (hb : 1 ≤ b) (hk : 0 ≤ ke) (n : Nat) : firesV (fun _ => 1) b lo ke (n + 1) = decide (lo ≤ (n : Int) * b) := by
  rw [Bool.eq_iff_iff, fires_iff hb hk, firesP_on hb (fun _ _ => rfl), decide_eq_true_eq]

theorem make12 (w : World) : (Instr.makeSlice 22 (.int .i64 12) (.int .i64 12)).run Try.prog w = .ok (.slice (some ⟨w.heap.size, 0, none⟩) 12 12) (w.alloc (.cells (madeCells #[.int .i64 0] 12) 3)) :=
  run_make_row' 22 3 (.int .i64 0) 8 Try.underlying22 info3 rfl .i64 .i64 12 (by omega) (by omega) w

set_option maxHeartbeats 2000000 in
theorem more_walk (v : Value) (m : Nat) (f : Nat → Int) (hm : m ≤ 24) (step long keep at_ more : Int) (w : World) (hrow : RowOf w v m f) :
    Calls Try.prog 5 #[v, .int .i64 step, .int .i64 long, .int .i64 keep, .int .i64 at_, .int .i64 more] w fun e w' => e = .returned (.bool true) ∧ Old w w' := by
  obtain ⟨i0, hi, hz0, hz1, hz2⟩ := info_parts info3
  go_enter Try.func5, Try.ntmps5
  go_wp2_with fail
  refine hrow.mono ?_
  rintro e w1 ⟨u, rfl, hown, hb⟩
  clear hrow
  go_wp2_with fail
  refine (within_walk step 1 9 w1 (by omega) (by omega) (by omega)).mono ?_
  rintro e w' ⟨rfl, rfl⟩
  go_wp2_with fail
  refine (within_walk long 0 40 w' (by omega) (by omega) (by omega)).mono ?_
  rintro e w' ⟨rfl, rfl⟩
  go_wp2_with fail
  refine (within_walk keep 0 40 w' (by omega) (by omega) (by omega)).mono ?_
  rintro e w' ⟨rfl, rfl⟩
  have hs := withinV_in step 1 9 (by omega)
  have hl := withinV_in long 0 40 (by omega)
  have hk := withinV_in keep 0 40 (by omega)
  generalize withinV step 1 9 = b at hs ⊢
  generalize withinV long 0 40 = lo at hl ⊢
  generalize withinV keep 0 40 = ke at hk ⊢
  have hold := Old.of_below hb
  rcases own_cases hown with ⟨rfl, rfl⟩ | ⟨bl, cap, rfl, hB, hB', hf⟩
  · go_wp2_with fail
    refine (runs_old w').mono ?_
    rintro e w2 ⟨rfl, ho2⟩
    go_wp2
    go_ret
    exact ⟨rfl, hold.trans ho2⟩
  · by_cases hm0 : m = 0
    · subst hm0
      go_wp2_with fail
      refine (runs_old w').mono ?_
      rintro e w2 ⟨rfl, ho2⟩
      go_wp2
      go_ret
      exact ⟨rfl, hold.trans ho2⟩
    · go_wp2_with fail
      refine (within_walk at_ 0 ((m : Int) - 1) w' (by omega) (by omega) (by omega)).mono ?_
      rintro e w1 ⟨rfl, rfl⟩
      have hat := withinV_in at_ 0 ((m : Int) - 1) (by omega)
      obtain ⟨ix, hix⟩ : ∃ ix : Nat, withinV at_ 0 ((m : Int) - 1) = ix := ⟨(withinV at_ 0 ((m : Int) - 1)).toNat, by omega⟩
      rw [hix] at hat ⊢
      clear hix
      have hnews : ∀ j u, ((List.range m).map fun i => Value.int .i64 (f i))[j]? = some u → (w1.alloc (.cells #[] 3)).cell? ((⟨bl, 0, none⟩ : Addr).add j) = some u :=
        news_of hf hB' _
      have hm1 : 0 + m ≤ maxLen := by unfold maxLen; omega
      have hone : ∀ u ∈ ((List.range m).map fun i => Value.int .i64 (f i)), u.oneCell' = true := by
        intro u hu
        obtain ⟨x, _, rfl⟩ := List.mem_map.mp hu
        rfl
      go_wp2_with (at_builtin; refine wpList_append_own _ rfl _ _ 26 rfl w1.heap.size 3 i0 (.int .i64 0) 1 8 Try.underlying26 hi hz0 hz1 hz2 rfl (by decide) _ 0 [] rfl (own_new w1 _ (Nat.le_refl _)) ⟨bl, 0, none⟩ m cap ((List.range m).map fun i => Value.int .i64 (f i)) rfl (by simp) hnews hone hm1 (by omega) (by simp) ?_)
      intro v' w2 hown2 hg2 hnn
      have hb2 : Below w1.heap.size w1 w2 := ((Below.refl _ _).alloc (Nat.le_refl _) _).grown hg2 (by simp) (fun j hj => by cases hj; exact Nat.le_refl _)
      clear hnews hone hg2
      rcases own_cases hown2 with ⟨h, _⟩ | ⟨tb, cap2, rfl, hT, hT', hft⟩
      · exact absurd h hnn
      have htc := hft ix (by omega)
      rw [add_zero] at htc
      have htf := own_free hown2 ix
      clear hown hown2 hnn
      go_upto_if 50 with (fail)
      go_cut [] (fun wx => RowIs wx ⟨tb, 0, none⟩ m (turnV f ix) ∧ Below w1.heap.size w1 wx ∧ tb < wx.heap.size)
      case first =>
        go_wp2_with fail
        · have h0 : f ix = 0 := by simpa using (by assumption : (f ix == 0) = true)
          go_meet
          case rel =>
            refine ⟨turn_set hft htc h0, by go_grown, by simpa using hT'⟩
        · have h0 : ¬ f ix = 0 := by simpa using (by assumption : (f ix == 0) = false)
          go_meet
          case rel => exact ⟨turn_same hft h0, hb2, hT'⟩
      case rest =>
        obtain ⟨ht, hbc, hT2⟩ := hcut
        have hfc := hf.carry hbc hB'
        clear htc htf hft hb2 hT' hf
        go_wp2_with fail
        refine (within_walk more 0 20 wc (by omega) (by omega) (by omega)).mono ?_
        rintro e w3 ⟨rfl, rfl⟩
        have hd := withinV_in more 0 20 (by omega)
        generalize withinV more 0 20 = d at hd ⊢
        go_wp2_with fail
        go_loopg [58] m (fun g i wr => ∃ k : Nat, k + g = m ∧ i = .int .i64 k ∧ wr = w3)
        case atStart => exact ⟨0, by omega, rfl, rfl⟩
        case round =>
          obtain ⟨k, hkm, rfl, rfl⟩ := hrel
          cases gk with
          | zero =>
            have : k = m := by omega
            subst this
            go_wp2_with fail
            go_cut [22, 23] (fun o n wx => ∃ bo bn : Nat, o = .slice (some ⟨bo, 0, none⟩) 12 12 ∧ n = .slice (some ⟨bn, 0, none⟩) 12 12 ∧ TwoRows wr wx bo bn)
            case first =>
              have hmk := make12
              go_region
              · go_wp2_with fail
                go_meet
                case rel => exact ⟨_, _, rfl, rfl, two_new (w := wr) wr.drew (by go_grown) rfl (.inl ⟨rfl, rfl⟩)⟩
              · go_wp2_with fail
                go_meet
                case rel => exact ⟨_, _, rfl, rfl, two_new (w := wr) wr.drew (by go_grown) rfl (.inr ⟨rfl, rfl⟩)⟩
            case rest =>
              obtain ⟨bo, bn, rfl, rfl, hr⟩ := hcut
              clear hfc ht
              go_wp2_with fail
              go_loopg [107] 12 (fun g i wx => ∃ k : Nat, k + g = 12 ∧ i = .int .i64 k ∧ OnRow wr wx bo bn k)
              case atStart => exact ⟨0, by omega, rfl, hr.on⟩
              case round =>
                obtain ⟨k2, hk2, rfl, hon⟩ := hrel
                cases gk with
                | zero =>
                  have : k2 = 12 := by omega
                  subst this
                  have hro := hon.ro
                  have hrn : RowIs wr ⟨bn, 0, none⟩ 12 (fun _ => 1) := fun i hi => by have := hon.rn i hi; unfold onV at this; rwa [if_pos hi] at this
                  have hbe := hon.below
                  clear hon hr
                  go_wp2_with fail
                  go_loopg [116] 12 (fun g i wy => ∃ k : Nat, k + g = 12 ∧ i = .int .i64 k ∧ wy = wr)
                  case atStart => exact ⟨0, by omega, rfl, rfl⟩
                  case round =>
                    obtain ⟨n, hn, rfl, rfl⟩ := hrel
                    cases gk with
                    | zero =>
                      have : n = 12 := by omega
                      subst this
                      go_wp2_with fail
                      refine (runs_old _).mono ?_
                      rintro e w5 ⟨rfl, ho5⟩
                      go_wp2
                      go_ret
                      exact ⟨rfl, ((hold.trans (Old.of_below hbc)).trans (Old.of_below hbe)).trans ho5⟩
                    | succ g =>
                      have c1 := fires_walk ⟨bo, 0, none⟩ 12 12 (fun _ => 0) b lo ke _ hro (by omega) hs.1 hs.2 hl.1 (by omega) hk.1 (by omega) (n + 1) (by omega)
                      have c2 := state_walk ⟨bo, 0, none⟩ 12 12 (fun _ => 0) b lo ke _ hro (by omega) hs.1 hs.2 hl.1 (by omega) hk.1 (by omega) n (by omega)
                      have c3 := fires_walk ⟨bn, 0, none⟩ 12 12 (fun _ => 1) b lo ke _ hrn (by omega) hs.1 hs.2 hl.1 (by omega) hk.1 (by omega) (n + 1) (by omega)
                      rw [show (((n + 1 : Nat) : Int) - 1) = (n : Int) by omega] at c1 c3
                      rw [all_off hs.1 hk.1] at c1
                      rw [state_off hs.1 hk.1 (fun _ _ => rfl)] at c2
                      rw [all_on hs.1 hk.1] at c3
                      have hm0 : 0 ≤ (n : Int) * b := Int.mul_nonneg (by omega) (by omega)
                      have hm1 : (n : Int) * b ≤ 12 * 9 := Int.mul_le_mul (by omega) hs.2 (by omega) (by omega)
                      go_wp2_with fail
                      refine c1.mono ?_
                      rintro e w5 ⟨rfl, rfl⟩
                      go_wp2_with fail
                      refine c2.mono ?_
                      rintro e w5 ⟨rfl, rfl⟩
                      go_wp2_with fail
                      refine c3.mono ?_
                      rintro e w5 ⟨rfl, rfl⟩
                      go_wp2_with fail
                      go_roundg g
                      case rel => exact ⟨n + 1, by omega, by simp, rfl⟩
                      case measure => omega
                | succ g =>
                  have hc2 := hon.rn k2 (by omega)
                  unfold onV at hc2
                  rw [if_neg (by omega), add_zero] at hc2
                  have hf2 := hon.fn k2
                  go_wp2_with fail
                  go_roundg g
                  case rel => exact ⟨k2 + 1, by omega, by simp, hon.step (by omega)⟩
                  case measure => omega
          | succ g =>
            have ek : (((k + 1 : Nat) : Int) - 1) = (k : Int) := by omega
            have c1 := fires_walk ⟨bl, 0, none⟩ m cap f b lo ke wr hfc hm hs.1 hs.2 hl.1 (by omega) hk.1 (by omega) (k + 1) (by omega)
            have c2 := fires_walk ⟨tb, 0, none⟩ m cap2 (turnV f ix) b lo ke wr ht hm hs.1 hs.2 hl.1 (by omega) hk.1 (by omega) (k + 1) (by omega)
            have c3 := fires_walk ⟨bl, 0, none⟩ m cap f b lo (ke + d) wr hfc hm hs.1 hs.2 hl.1 (by omega) (by omega) (by omega) (k + 1) (by omega)
            have c4 := fires_walk ⟨bl, 0, none⟩ m cap f b (lo + d) ke wr hfc hm hs.1 hs.2 (by omega) (by omega) hk.1 (by omega) (k + 1) (by omega)
            rw [ek] at c1 c2 c3 c4
            by_cases hfi : firesV f b lo ke (k + 1) = true
            · have hP := (fires_iff hs.1 hk.1 (k + 1)).mp hfi
              have t2 : firesV (turnV f ix) b lo ke (k + 1) = true := (fires_iff hs.1 hk.1 (k + 1)).mpr (turn_fires hP)
              have t3 : firesV f b lo (ke + d) (k + 1) = true := (fires_iff hs.1 (by omega) (k + 1)).mpr (firesP_keep (by omega) hP)
              rw [hfi] at c1
              rw [t2] at c2
              rw [t3] at c3
              go_wp2_with fail
              refine c1.mono ?_
              rintro e w4 ⟨rfl, rfl⟩
              go_wp2_with fail
              refine c2.mono ?_
              rintro e w4 ⟨rfl, rfl⟩
              go_wp2_with fail
              refine c3.mono ?_
              rintro e w4 ⟨rfl, rfl⟩
              go_wp2_with fail
              go_roundg g
              case rel => exact ⟨k + 1, by omega, by simp, rfl⟩
              case measure => omega
            · have t4 : firesV f b (lo + d) ke (k + 1) = false := by
                have := fun h => hfi ((fires_iff hs.1 hk.1 (k + 1)).mpr (firesP_long (show lo ≤ lo + d by omega) ((fires_iff hs.1 hk.1 (k + 1)).mp h)))
                simpa using this
              have hfi' : firesV f b lo ke (k + 1) = false := by simpa using hfi
              rw [hfi'] at c1
              rw [t4] at c4
              go_wp2_with fail
              refine c1.mono ?_
              rintro e w4 ⟨rfl, rfl⟩
              go_wp2_with fail
              refine c4.mono ?_
              rintro e w4 ⟨rfl, rfl⟩
              go_wp2_with fail
              go_roundg g
              case rel => exact ⟨k + 1, by omega, by simp, rfl⟩
              case measure => omega

end Go.Proofs.Ytdnffpbofbijnaa.define
