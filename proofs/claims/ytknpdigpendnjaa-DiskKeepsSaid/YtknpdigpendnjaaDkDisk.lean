/-
  Package disk: its functions.
-/
import Derived.Test.YtknpdigpendnjaaDkConcat
namespace Go.Proofs.Ytknpdigpendnjaa.disk
open Go Go.Proofs Go.RowKit Go.Proofs.Ytknpdigpendnjaa.AH
set_option maxRecDepth 10000

structure Dk where
  room : Int
  firm : Int
  bs : List Int
  off : Bool
  lit : Bool
  fuse : Int

/-- A disk that lies in block D. -/
structure DiskAt (w : World) (D : Nat) (d : Dk) : Prop where
  c0 : w.cell? ⟨D, 0, none⟩ = some (.int .i64 d.room)
  c1 : w.cell? ⟨D, 1, none⟩ = some (.int .i64 d.firm)
  c2 : ∃ ao cap, w.cell? ⟨D, 2, none⟩ = some (.slice ao d.bs.length cap) ∧ Byt D w ao d.bs ∧ (ao = none → d.bs = [] ∧ cap = 0) ∧ d.bs.length ≤ cap
  c3 : w.cell? ⟨D, 3, none⟩ = some (.bool d.off)
  c4 : w.cell? ⟨D, 4, none⟩ = some (.bool d.lit)
  c5 : w.cell? ⟨D, 5, none⟩ = some (.int .i64 d.fuse)
  fr : ∀ i, w.frozen? ⟨D, i, none⟩ = false
theorem DiskAt.lt {w : World} {D : Nat} {d : Dk} (h : DiskAt w D d) : D < w.heap.size := World.block_lt_of_cell? _ _ h.c0

theorem byt_set {D i : Nat} {w : World} {ao : Option Addr} {l : List Int} (v : Value) (h : Byt D w ao l) : Byt D (w.setCell ⟨D, i, none⟩ v) ao l := h.carry (But.set v)
theorem cell_set {w : World} {D i j : Nat} {v u : Value} (h : w.cell? ⟨D, j, none⟩ = some u) (hne : j ≠ i) : (w.setCell ⟨D, i, none⟩ v).cell? ⟨D, j, none⟩ = some u :=
  (World.cell?_setCell_other _ _ _ _ (by simp; try omega)).trans h
theorem free_set {w : World} {D i : Nat} {v : Value} (h : ∀ i, w.frozen? ⟨D, i, none⟩ = false) : ∀ j, (w.setCell ⟨D, i, none⟩ v).frozen? ⟨D, j, none⟩ = false := fun j => by simpa using h j

theorem DiskAt.setFuse {w : World} {D : Nat} {d : Dk} (h : DiskAt w D d) (x : Int) : DiskAt (w.setCell ⟨D, 5, none⟩ (.int .i64 x)) D { d with fuse := x } := by
  obtain ⟨ao, cap, h2, hb, hn, hc⟩ := h.c2
  exact ⟨cell_set h.c0 (by decide), cell_set h.c1 (by decide), ⟨ao, cap, cell_set h2 (by decide), byt_set _ hb, hn, hc⟩, cell_set h.c3 (by decide), cell_set h.c4 (by decide), World.cell?_setCell_same _ _ _ h.c5, free_set h.fr⟩
theorem DiskAt.setOff {w : World} {D : Nat} {d : Dk} (h : DiskAt w D d) (x : Bool) : DiskAt (w.setCell ⟨D, 3, none⟩ (.bool x)) D { d with off := x } := by
  obtain ⟨ao, cap, h2, hb, hn, hc⟩ := h.c2
  exact ⟨cell_set h.c0 (by decide), cell_set h.c1 (by decide), ⟨ao, cap, cell_set h2 (by decide), byt_set _ hb, hn, hc⟩, World.cell?_setCell_same _ _ _ h.c3, cell_set h.c4 (by decide), cell_set h.c5 (by decide), free_set h.fr⟩
theorem DiskAt.setLit {w : World} {D : Nat} {d : Dk} (h : DiskAt w D d) (x : Bool) : DiskAt (w.setCell ⟨D, 4, none⟩ (.bool x)) D { d with lit := x } := by
  obtain ⟨ao, cap, h2, hb, hn, hc⟩ := h.c2
  exact ⟨cell_set h.c0 (by decide), cell_set h.c1 (by decide), ⟨ao, cap, cell_set h2 (by decide), byt_set _ hb, hn, hc⟩, cell_set h.c3 (by decide), World.cell?_setCell_same _ _ _ h.c4, cell_set h.c5 (by decide), free_set h.fr⟩
theorem DiskAt.setFirm {w : World} {D : Nat} {d : Dk} (h : DiskAt w D d) (x : Int) : DiskAt (w.setCell ⟨D, 1, none⟩ (.int .i64 x)) D { d with firm := x } := by
  obtain ⟨ao, cap, h2, hb, hn, hc⟩ := h.c2
  exact ⟨cell_set h.c0 (by decide), World.cell?_setCell_same _ _ _ h.c1, ⟨ao, cap, cell_set h2 (by decide), byt_set _ hb, hn, hc⟩, cell_set h.c3 (by decide), cell_set h.c4 (by decide), cell_set h.c5 (by decide), free_set h.fr⟩
theorem DiskAt.setBs {w : World} {D : Nat} {d : Dk} {ao : Option Addr} {cap : Nat} {l : List Int} (h : DiskAt w D d) (hb : Byt D w ao l) (hn : ao = none → l = [] ∧ cap = 0) (hc : l.length ≤ cap) : DiskAt (w.setCell ⟨D, 2, none⟩ (.slice ao l.length cap)) D { d with bs := l } := by
  obtain ⟨ao', cap', h2, _⟩ := h.c2
  exact ⟨cell_set h.c0 (by decide), cell_set h.c1 (by decide), ⟨ao, cap, World.cell?_setCell_same _ _ _ h2, byt_set _ hb, hn, hc⟩, cell_set h.c3 (by decide), cell_set h.c4 (by decide), cell_set h.c5 (by decide), free_set h.fr⟩
/-- What a call that writes nothing old leaves of a disk. -/
theorem DiskAt.carry {w w' : World} {D : Nat} {d : Dk} (h : DiskAt w D d) (hb : Below w.heap.size w w') : DiskAt w' D d := by
  obtain ⟨ao, cap, h2, hB, hn, hc⟩ := h.c2
  have hD := h.lt
  have hcell : ∀ i, w'.cell? ⟨D, i, none⟩ = w.cell? ⟨D, i, none⟩ := fun i => hb.cell (p := ⟨D, i, none⟩) hD
  exact ⟨(hcell _).trans h.c0, (hcell _).trans h.c1, ⟨ao, cap, (hcell _).trans h2, hB.carry (But.of_below hb), hn, hc⟩, (hcell _).trans h.c3, (hcell _).trans h.c4, (hcell _).trans h.c5, fun i => (hb.frozen (p := ⟨D, i, none⟩) hD).trans (h.fr i)⟩

/-- How many bytes the fuse lets go; what is left of it. -/
def Dk.burnN (d : Dk) (n : Int) : Int := if d.lit = true then (if n ≤ d.fuse then n else d.fuse) else n
def Dk.burned (d : Dk) (n : Int) : Dk := if d.lit = true then (if n ≤ d.fuse then { d with fuse := d.fuse - n, off := false } else { d with fuse := 0, off := true }) else d

theorem burn_walk (D : Nat) (d : Dk) (n : Int) (w : World) (hd : DiskAt w D d) (hn : 0 ≤ n ∧ n ≤ 1000000) (hf : d.lit = true → 0 ≤ d.fuse ∧ d.fuse ≤ 9223372036854775807) :
    Calls Try.prog 37 #[.pointer (some ⟨D, 0, none⟩), .int .i64 n] w fun e w' => e = .returned (.int .i64 (d.burnN n)) ∧ DiskAt w' D (d.burned n) ∧ But D w w' := by
  have h3 := hd.c3
  have h4 := hd.c4
  have h5 := hd.c5
  have f3 := hd.fr 3
  have f5 := hd.fr 5
  by_cases hl : d.lit = true
  · have hf' := hf hl
    rw [hl] at h4
    have D1 : ∀ x y, DiskAt ((w.setCell ⟨D, 5, none⟩ (.int .i64 x)).setCell ⟨D, 3, none⟩ (.bool y)) D { d with fuse := x, off := y } := fun x y => (hd.setFuse x).setOff y
    have B1 : ∀ x y, But D w ((w.setCell ⟨D, 5, none⟩ (.int .i64 x)).setCell ⟨D, 3, none⟩ (.bool y)) := fun x y => (But.set _).trans (But.set _)
    by_cases hle : n ≤ d.fuse
    · clear hd
      go_enter Try.func37, Try.ntmps37
      go_wp2_with fail
      go_ret
      have e : Dk.burned d n = { d with fuse := d.fuse - n, off := false } := by simp [Dk.burned, hl, hle]
      refine ⟨by simp [Dk.burnN, hl, hle], ?_, B1 _ _⟩
      rw [e]
      simpa using D1 (d.fuse - n) false
    · have hgt : d.fuse < n := by omega
      clear hd
      go_enter Try.func37, Try.ntmps37
      go_wp2_with fail
      go_ret
      have e : Dk.burned d n = { d with fuse := 0, off := true } := by simp [Dk.burned, hl, hle]
      have e2 : d.burnN n = d.fuse := by unfold Dk.burnN; rw [if_pos hl, if_neg (by omega)]
      refine ⟨by rw [e2]; rfl, ?_, B1 _ _⟩
      rw [e]
      simpa [hgt] using D1 0 true
  · have hl' : d.lit = false := by simpa using hl
    rw [hl'] at h4
    go_enter Try.func37, Try.ntmps37
    go_wp2_with fail
    go_ret
    exact ⟨by simp [Dk.burnN, hl'], by simpa [Dk.burned, hl'] using hd, But.refl _ _⟩

def Dk.oneB (d : Dk) : Bool := !d.off && decide (d.burnN 1 = 1)
def Dk.oned (d : Dk) : Dk := if d.off = true then d else d.burned 1
theorem one_walk (D : Nat) (d : Dk) (w : World) (hd : DiskAt w D d) (hf : d.lit = true → 0 ≤ d.fuse ∧ d.fuse ≤ 9223372036854775807) :
    Calls Try.prog 38 #[.pointer (some ⟨D, 0, none⟩)] w fun e w' => e = .returned (.bool d.oneB) ∧ DiskAt w' D d.oned ∧ But D w w' := by
  have h3 := hd.c3
  by_cases ho : d.off = true
  · rw [ho] at h3
    go_enter Try.func38, Try.ntmps38
    go_wp2_with fail
    go_ret
    exact ⟨by simp [Dk.oneB, ho], by simpa [Dk.oned, ho] using hd, But.refl _ _⟩
  · have ho' : d.off = false := by simpa using ho
    rw [ho'] at h3
    have c := burn_walk D d 1 w hd (by omega) hf
    go_enter Try.func38, Try.ntmps38
    go_wp2_with fail
    refine c.mono ?_
    rintro e w1 ⟨rfl, h1, h2⟩
    go_wp2_with fail
    go_ret
    have e1 : d.oneB = decide (d.burnN 1 = 1) := by unfold Dk.oneB; rw [ho']; rfl
    have e2 : d.oned = d.burned 1 := by unfold Dk.oned; rw [if_neg ho]
    exact ⟨by rw [e1]; rfl, by rw [e2]; exact h1, h2⟩

/-- Sync: what it answers, and what is behind it. -/
def Dk.syncE (d : Dk) : Int := if d.oneB = true then 0 else 9
def Dk.synced (d : Dk) : Dk := if d.oneB = true then { d.oned with firm := d.oned.bs.length } else d.oned
theorem sync_walk (D : Nat) (d : Dk) (w : World) (hd : DiskAt w D d) (hf : d.lit = true → 0 ≤ d.fuse ∧ d.fuse ≤ 9223372036854775807) (hb : d.oned.bs.length ≤ 1000000) :
    Calls Try.prog 31 #[.pointer (some ⟨D, 0, none⟩)] w fun e w' => e = .returned (.int .i64 d.syncE) ∧ DiskAt w' D d.synced ∧ But D w w' := by
  have c := one_walk D d w hd hf
  go_enter Try.func31, Try.ntmps31
  go_wp2_with fail
  refine c.mono ?_
  rintro e w1 ⟨rfl, h1, h2⟩
  by_cases ho : d.oneB = true
  · obtain ⟨ao, cap, c2, _⟩ := h1.c2
    have c1 := h1.c1
    have f1 := h1.fr 1
    have hs := h1.setFirm d.oned.bs.length
    rw [ho]
    go_wp2_with fail
    go_ret
    have e1 : d.syncE = 0 := by unfold Dk.syncE; rw [if_pos ho]
    have e2 : d.synced = { d.oned with firm := d.oned.bs.length } := by unfold Dk.synced; rw [if_pos ho]
    exact ⟨by rw [e1]; rfl, by rw [e2]; exact hs, h2.trans (But.set _)⟩
  · have ho' : d.oneB = false := by simpa using ho
    rw [ho']
    go_wp2_with fail
    go_ret
    have e1 : d.syncE = 9 := by unfold Dk.syncE; rw [if_neg ho]
    have e2 : d.synced = d.oned := by unfold Dk.synced; rw [if_neg ho]
    exact ⟨by rw [e1]; rfl, by rw [e2]; exact h1, h2⟩

end Go.Proofs.Ytknpdigpendnjaa.disk
