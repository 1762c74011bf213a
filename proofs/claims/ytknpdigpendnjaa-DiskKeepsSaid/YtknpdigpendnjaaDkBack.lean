/-
  Package disk: Back, where the power is on and no fuse is lit.
-/
import Derived.Test.YtknpdigpendnjaaDkBoot
namespace Go.Proofs.Ytknpdigpendnjaa.disk
open Go Go.Proofs Go.RowKit Go.Proofs.Ytknpdigpendnjaa.AH
set_option maxRecDepth 10000

theorem oneB_free {d : Dk} (ho : d.off = false) (hl : d.lit = false) : d.oneB = true ∧ d.oned = d := by
  have h1 : d.burnN 1 = 1 := by unfold Dk.burnN; rw [hl]; rfl
  have h2 : d.burned 1 = d := by unfold Dk.burned; rw [hl]; rfl
  exact ⟨by unfold Dk.oneB; rw [ho, h1]; rfl, by unfold Dk.oned; rw [ho, h2]; rfl⟩

set_option maxHeartbeats 2000000 in
theorem back_free (D : Nat) (d : Dk) (n : Nat) (w : World) (hd : DiskAt w D d) (hk : d.ok) (ho : d.off = false) (hl : d.lit = false) (hn : n ≤ d.bs.length) :
    Calls Try.prog 32 #[.pointer (some ⟨D, 0, none⟩), .int .i64 n] w fun e w' => e = .returned (.int .i64 0) ∧ But D w w' := by
  have hr := hk.room
  have hbs := hk.bs
  have hfm := hk.firm
  have c3 := hd.c3
  rw [ho] at c3
  obtain ⟨bo, bc, c2, hby, hno, hc⟩ := hd.c2
  have h1 := one_walk D d w hd (fun h => by rw [hl] at h; cases h)
  obtain ⟨e1, e2⟩ := oneB_free ho hl
  rw [e1, e2] at h1
  have hlen : (d.bs.take n).length = n := by rw [List.length_take]; omega
  have hnn : ¬ ((n : Int) < 0) := by omega
  have hnb : ¬ ((d.bs.length : Int) < (n : Int)) := by omega
  go_enter Try.func32, Try.ntmps32
  go_wp2_with fail
  refine h1.mono ?_
  rintro e w1 ⟨rfl, hd1, hB1⟩
  clear hd c2 c3 hby h1
  obtain ⟨b1, bc1, c2, hby, hno1, hc1⟩ := hd1.c2
  have hbound : n ≤ bc1 := by omega
  have hcl := clone_walk D b1 (d.bs.take n) bc1 w1 (hby.take n) (by omega) hd1.lt (fun h => by obtain ⟨a, b⟩ := hno1 h; rw [a]; simp [b])
  rw [hlen] at hcl
  have f2 := hd1.fr 2
  have k1 := hd1.c1
  have f1 := hd1.fr 1
  cases b1 with
  | none =>
    obtain ⟨q1, q2⟩ := hno1 rfl
    obtain rfl : n = 0 := by rw [q1] at hn; simpa using hn
    subst q2
    rw [q1] at c2
    simp only [List.length_nil] at c2
    go_wp2_with fail
    refine hcl.mono ?_
    rintro e w3 ⟨a3, c3, rfl, h31, h32, h33, h34⟩
    have hd3 := hd1.carry h34
    obtain ⟨x1, x2, k2, _⟩ := hd3.c2
    have k1 := hd3.c1
    have f2 := hd3.fr 2
    have f1 := hd3.fr 1
    have hB3 := hB1.trans (But.of_below h34)
    clear hcl hd1
    go_wp2_with fail
    all_goals go_ret
    all_goals exact ⟨rfl, hB3.trans ((But.set _).trans (But.set _))⟩
  | some ad =>
    go_wp2_with fail
    refine hcl.mono ?_
    rintro e w3 ⟨a3, c3, rfl, h31, h32, h33, h34⟩
    have hd3 := hd1.carry h34
    obtain ⟨x1, x2, k2, _⟩ := hd3.c2
    have k1 := hd3.c1
    have f2 := hd3.fr 2
    have f1 := hd3.fr 1
    have hB3 := hB1.trans (But.of_below h34)
    clear hcl hd1
    go_wp2_with fail
    all_goals go_ret
    all_goals exact ⟨rfl, hB3.trans ((But.set _).trans (But.set _))⟩

end Go.Proofs.Ytknpdigpendnjaa.disk
