/-
  Package disk: Boot.
-/
import Derived.Test.YtknpdigpendnjaaDkRest
import Derived.Deep.RegionWith
namespace Go.Proofs.Ytknpdigpendnjaa.disk
open Go Go.Proofs Go.RowKit Go.Proofs.Ytknpdigpendnjaa.AH
set_option maxRecDepth 10000

/-- How many bytes stay. -/
def Dk.stayN (d : Dk) (keep : Int) : Int := d.firm + (if (d.bs.length : Int) - d.firm ≤ keep then (d.bs.length : Int) - d.firm else if 0 ≤ keep then keep else 0)
def Dk.booted (d : Dk) (keep : Int) : Dk := ⟨d.room, d.stayN keep, d.bs.take (d.stayN keep).toNat, false, false, 0⟩
theorem stayN_in {d : Dk} (h : d.ok) (keep : Int) : 0 ≤ d.stayN keep ∧ d.firm ≤ d.stayN keep ∧ d.stayN keep ≤ d.bs.length := by
  have := h.firm
  unfold Dk.stayN
  split
  · omega
  · split <;> omega

theorem But.set6 {D : Nat} {w : World} (a b c d e f : Value) : But D w ((((((w.setCell ⟨D, 0, none⟩ a).setCell ⟨D, 1, none⟩ b).setCell ⟨D, 2, none⟩ c).setCell ⟨D, 3, none⟩ d).setCell ⟨D, 4, none⟩ e).setCell ⟨D, 5, none⟩ f) :=
  (But.set _).trans ((But.set _).trans ((But.set _).trans ((But.set _).trans ((But.set _).trans (But.set _)))))
theorem DiskAt.setRoom {w : World} {D : Nat} {d : Dk} (h : DiskAt w D d) (x : Int) : DiskAt (w.setCell ⟨D, 0, none⟩ (.int .i64 x)) D { d with room := x } := by
  obtain ⟨ao, cap, h2, hb, hn, hc⟩ := h.c2
  exact ⟨World.cell?_setCell_same _ _ _ h.c0, cell_set h.c1 (by decide), ⟨ao, cap, cell_set h2 (by decide), byt_set _ hb, hn, hc⟩, cell_set h.c3 (by decide), cell_set h.c4 (by decide), cell_set h.c5 (by decide), free_set h.fr⟩
theorem DiskAt.set6 {w : World} {D : Nat} {d : Dk} {k cap : Nat} {l : List Int} {ao : Option Addr} {x y : Int} {z : Bool} (h : DiskAt w D d) (hl : l.length = k) (hb : Byt D w ao l) (hn : ao = none → l = [] ∧ cap = 0) (hc : l.length ≤ cap) :
    DiskAt ((((((w.setCell ⟨D, 0, none⟩ (.int .i64 x)).setCell ⟨D, 1, none⟩ (.int .i64 y)).setCell ⟨D, 2, none⟩ (.slice ao k cap)).setCell ⟨D, 3, none⟩ (.bool false)).setCell ⟨D, 4, none⟩ (.bool z)).setCell ⟨D, 5, none⟩ (.int .i64 0)) D ⟨x, y, l, false, z, 0⟩ := by
  subst hl
  exact (((((h.setRoom x).setFirm y).setBs (byt_set _ (byt_set _ hb)) hn hc).setOff false).setLit z).setFuse 0

set_option maxHeartbeats 8000000 in
theorem boot_walk (D : Nat) (d : Dk) (keep : Int) (w : World) (hd : DiskAt w D d) (ho : d.ok) :
    Calls Try.prog 27 #[.pointer (some ⟨D, 0, none⟩), .int .i64 keep] w fun e w' => e = .returned (.tuple #[]) ∧ DiskAt w' D (d.booted keep) ∧ But D w w' := by
  have hf := ho.firm
  have hb := ho.bs
  have hr := ho.room
  obtain ⟨bo, bc, c2, hby, hno, hc⟩ := hd.c2
  have c0 := hd.c0
  have c1 := hd.c1
  have hin := stayN_in ho keep
  obtain ⟨k, hk⟩ : ∃ k : Nat, d.stayN keep = k := ⟨(d.stayN keep).toNat, by omega⟩
  have e4 : (d.firm + if 0 < (if (d.bs.length : Int) - d.firm < keep then (d.bs.length : Int) - d.firm else keep) then (if (d.bs.length : Int) - d.firm < keep then (d.bs.length : Int) - d.firm else keep) else 0) = (k : Int) := by
    rw [← hk]; unfold Dk.stayN
    repeat' split
    all_goals omega
  have hkb : k ≤ d.bs.length := by omega
  have hkc : k ≤ bc := by omega
  go_enter Try.func27, Try.ntmps27
  go_wp2_with fail
  go_region
  clear e4
  generalize (if 0 < (if (d.bs.length : Int) - d.firm < keep then (d.bs.length : Int) - d.firm else keep) then (if (d.bs.length : Int) - d.firm < keep then (d.bs.length : Int) - d.firm else keep) else 0) = z1
  generalize (if (d.bs.length : Int) - d.firm < keep then (d.bs.length : Int) - d.firm else keep) = z2
  obtain ⟨w0, hw0⟩ : ∃ w0, w.drew = w0 := ⟨_, rfl⟩
  have hd0 : DiskAt w0 D d := by rw [← hw0]; exact hd.dN 1
  have hB0 : But D w w0 := by rw [← hw0]; exact (But.refl D w).dN 1
  have hby0 : Byt D w0 bo d.bs := by rw [← hw0]; exact hby.dN 1
  have c20 : w0.cell? ⟨D, 2, none⟩ = some (.slice bo d.bs.length bc) := by rw [← hw0]; exact c2
  rw [hw0]
  clear hw0 c0 c1 c2 hd hby
  have c0 := hd0.c0
  have hd1 : DiskAt w0.drew D d := hd0.dN 1
  have hDl := hd0.lt
  have hlen : (d.bs.take k).length = k := by rw [List.length_take]; omega
  have hcl := clone_walk D bo (d.bs.take k) bc w0.drew ((hby0.take k).dN 1) (by omega) hDl (fun h => by obtain ⟨a, b⟩ := hno h; rw [a]; simp [b])
  rw [hlen] at hcl
  go_upto_region 1 with (fail)
  cases bo with
  | none =>
    obtain ⟨h1, h2⟩ := hno rfl
    obtain rfl : k = 0 := by rw [h1] at hkb; simpa using hkb
    subst h2
    rw [h1] at c20
    simp only [List.length_nil] at c20
    go_region_with (go_at_call 36; refine hcl.mono ?_; rintro e w3 ⟨a3, c3, rfl, h31, h32, h33, h34⟩; have hd3 := hd1.carry h34; have k0 := hd3.c0; have k1 := hd3.c1; obtain ⟨x1, x2, k2, _⟩ := hd3.c2; have k3 := hd3.c3; have k4 := hd3.c4; have k5 := hd3.c5; have f0 := hd3.fr 0; have f1 := hd3.fr 1; have f2 := hd3.fr 2; have f3 := hd3.fr 3; have f4 := hd3.fr 4; have f5 := hd3.fr 5)
    all_goals
      go_returns
      refine ⟨rfl, ?_, (hB0.dN 1).trans ((But.of_below h34).trans (But.set6 _ _ _ _ _ _))⟩
      have hbt : d.booted keep = ⟨d.room, (0 : Nat), d.bs.take 0, false, false, 0⟩ := by unfold Dk.booted; rw [hk]; rfl
      rw [hbt, ← hlen]
      rw [hlen]
      exact hd3.set6 hlen h31 h32 (by rw [hlen]; exact h33)
  | some ad =>
    go_region_with (go_at_call 36; refine hcl.mono ?_; rintro e w3 ⟨a3, c3, rfl, h31, h32, h33, h34⟩; have hd3 := hd1.carry h34; have k0 := hd3.c0; have k1 := hd3.c1; obtain ⟨x1, x2, k2, _⟩ := hd3.c2; have k3 := hd3.c3; have k4 := hd3.c4; have k5 := hd3.c5; have f0 := hd3.fr 0; have f1 := hd3.fr 1; have f2 := hd3.fr 2; have f3 := hd3.fr 3; have f4 := hd3.fr 4; have f5 := hd3.fr 5)
    all_goals
      go_returns
      refine ⟨rfl, ?_, (hB0.dN 1).trans ((But.of_below h34).trans (But.set6 _ _ _ _ _ _))⟩
      have hbt : d.booted keep = ⟨d.room, k, d.bs.take k, false, false, 0⟩ := by unfold Dk.booted; rw [hk]; rfl
      rw [hbt, ← hlen]
      rw [hlen]
      exact hd3.set6 hlen h31 h32 (by rw [hlen]; exact h33)

end Go.Proofs.Ytknpdigpendnjaa.disk
