/-
  Package disk: Read, Size, Firm, Off, Arm, New; klaxonbook's Within, Same.
-/
import Derived.Test.YtknpdigpendnjaaDkWrite
namespace Go.Proofs.Ytknpdigpendnjaa.disk
open Go Go.Proofs Go.RowKit Go.Proofs.Ytknpdigpendnjaa.AH
set_option maxRecDepth 10000

theorem read_walk (D : Nat) (d : Dk) (w : World) (hd : DiskAt w D d) (hn : d.bs.length ≤ 1000000) :
    Calls Try.prog 29 #[.pointer (some ⟨D, 0, none⟩)] w fun e w' => ∃ ao cap, e = .returned (.slice ao (if d.off = true then [] else d.bs).length cap) ∧ Byt D w' ao (if d.off = true then [] else d.bs) ∧ (if d.off = true then [] else d.bs).length ≤ cap ∧ Below w.heap.size w w' := by
  have c3 := hd.c3
  obtain ⟨bo, bc, c2, hb, hno, hc⟩ := hd.c2
  by_cases ho : d.off = true
  · rw [if_pos ho]
    rw [ho] at c3
    go_enter Try.func29, Try.ntmps29
    go_wp2_with fail
    go_ret
    exact ⟨none, 0, rfl, Byt.nil, by simp, Below.refl _ _⟩
  · have ho' : d.off = false := by simpa using ho
    rw [if_neg ho]
    rw [ho'] at c3
    have c := clone_walk D bo d.bs bc w hb hn hd.lt hno
    go_enter Try.func29, Try.ntmps29
    go_wp2_with fail
    refine c.mono ?_
    rintro e w1 ⟨a1, c1, rfl, h1, h2, h3, h4⟩
    go_wp2_with fail
    go_ret
    exact ⟨a1, c1, rfl, h1, h3, h4⟩

theorem size_walk (D : Nat) (d : Dk) (w : World) (hd : DiskAt w D d) (hn : d.bs.length ≤ 1000000) :
    Calls Try.prog 25 #[.pointer (some ⟨D, 0, none⟩)] w fun e w' => e = .returned (.int .i64 d.bs.length) ∧ w' = w := by
  obtain ⟨bo, bc, c2, hb, hno, hc⟩ := hd.c2
  go_enter Try.func25, Try.ntmps25
  go_wp2_with fail
  go_ret
  exact ⟨rfl, rfl⟩
theorem firm_walk (D : Nat) (d : Dk) (w : World) (hd : DiskAt w D d) :
    Calls Try.prog 30 #[.pointer (some ⟨D, 0, none⟩)] w fun e w' => e = .returned (.int .i64 d.firm) ∧ w' = w := by
  have c1 := hd.c1
  go_enter Try.func30, Try.ntmps30
  go_wp2_with fail
  go_ret
  exact ⟨rfl, rfl⟩
theorem off_walk (D : Nat) (d : Dk) (w : World) (hd : DiskAt w D d) :
    Calls Try.prog 26 #[.pointer (some ⟨D, 0, none⟩)] w fun e w' => e = .returned (.bool d.off) ∧ w' = w := by
  have c3 := hd.c3
  go_enter Try.func26, Try.ntmps26
  go_wp2_with fail
  go_ret
  exact ⟨rfl, rfl⟩
theorem arm_walk (D : Nat) (d : Dk) (n : Int) (w : World) (hd : DiskAt w D d) :
    Calls Try.prog 23 #[.pointer (some ⟨D, 0, none⟩), .int .i64 n] w fun e w' => e = .returned (.tuple #[]) ∧ DiskAt w' D { d with fuse := n, lit := decide (0 ≤ n) } ∧ But D w w' := by
  have c5 := hd.c5
  have c4 := hd.c4
  have f5 := hd.fr 5
  have f4 := hd.fr 4
  have h := (hd.setFuse n).setLit (decide (0 ≤ n))
  have hB : But D w ((w.setCell ⟨D, 5, none⟩ (.int .i64 n)).setCell ⟨D, 4, none⟩ (.bool (decide (0 ≤ n)))) := (But.set _).trans (But.set _)
  clear hd
  go_enter Try.func23, Try.ntmps23
  go_wp2_with fail
  go_returns
  exact ⟨rfl, h, hB⟩

theorem disk_new (w : World) (room : Int) : DiskAt (w.alloc (.cells #[.int .i64 room, .int .i64 0, .slice none 0 0, .bool false, .bool false, .int .i64 0] 67)) w.heap.size ⟨room, 0, [], false, false, 0⟩ := by
  refine ⟨?_, ?_, ⟨none, 0, ?_, Byt.nil, fun _ => ⟨rfl, rfl⟩, Nat.le_refl _⟩, ?_, ?_, ?_, fun i => World.frozen?_alloc_new _ _ _ _⟩ <;> rw [World.cell?_alloc_new] <;> rfl

theorem new_walk (room : Nat) (w : World) (hr : room ≤ 20000) (hr0 : 0 < room) :
    Calls Try.prog 22 #[.int .i64 room] w fun e w' => e = .returned (.pointer (some ⟨w.heap.size, 0, none⟩)) ∧ DiskAt w' w.heap.size ⟨room, 0, [], false, false, 0⟩ ∧ Below w.heap.size w w' := by
  go_enter Try.func22, Try.ntmps22
  go_wp2_with fail
  · go_ret
    exact ⟨rfl, disk_new w _, by go_grown⟩

end Go.Proofs.Ytknpdigpendnjaa.disk
