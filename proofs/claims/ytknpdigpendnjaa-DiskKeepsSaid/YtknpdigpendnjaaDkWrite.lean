/-
  Package disk: Write, Read, Size, Firm, Off, Arm, New.
-/
import Derived.Test.YtknpdigpendnjaaDkDisk
namespace Go.Proofs.Ytknpdigpendnjaa.disk
open Go Go.Proofs Go.RowKit Go.Proofs.Ytknpdigpendnjaa.AH
set_option maxRecDepth 10000

/-- A disk that may be. -/
structure Dk.ok (d : Dk) : Prop where
  room : 0 ≤ d.room ∧ d.room ≤ 20000
  bs : (d.bs.length : Int) ≤ d.room
  firm : 0 ≤ d.firm ∧ d.firm ≤ d.bs.length
  fuse : d.lit = true → 0 ≤ d.fuse ∧ d.fuse ≤ 9223372036854775807

def Dk.writeE (d : Dk) (l : List Int) : Int := if d.off = true then 9 else if d.room < (d.bs.length : Int) + l.length then 8 else if (d.burned l.length).off = true then 9 else 0
def Dk.wrote (d : Dk) (l : List Int) : Dk := if d.off = true then d else if d.room < (d.bs.length : Int) + l.length then d else { d.burned l.length with bs := d.bs ++ l.take (d.burnN l.length).toNat }
theorem burnN_in {d : Dk} (hd : d.ok) (n : Nat) : 0 ≤ d.burnN n ∧ d.burnN n ≤ n := by
  unfold Dk.burnN
  split
  · rename_i h
    have := hd.fuse h
    split <;> omega
  · omega
theorem burned_room (d : Dk) (n : Int) : (d.burned n).room = d.room ∧ (d.burned n).firm = d.firm ∧ (d.burned n).bs = d.bs ∧ (d.burned n).lit = d.lit := by
  unfold Dk.burned
  split
  · split <;> exact ⟨rfl, rfl, rfl, rfl⟩
  · exact ⟨rfl, rfl, rfl, rfl⟩

theorem DiskAt.dN {w : World} {D : Nat} {d : Dk} (h : DiskAt w D d) (n : Nat) : DiskAt (w.drewN n) D d := by
  obtain ⟨ao, cap, h2, hB, hn, hc⟩ := h.c2
  exact ⟨h.c0, h.c1, ⟨ao, cap, h2, ⟨hB.lie, hB.wf⟩, hn, hc⟩, h.c3, h.c4, h.c5, h.fr⟩
theorem own_but {D : Nat} {w w' : World} {B : Nat} {e : TypeId} {size : Nat} {v : Value} {n : Nat} {xs : List Value} (h : w.ownsRow B e size v n xs) (hb : But D w w') (hD : D < B) : w'.ownsRow B e size v n xs := by
  refine ⟨h.1, h.2.imp id fun ⟨g, cap, cur, h1, h2, h3, h4⟩ => ⟨g, cap, cur, h1, h2, ?_, h4⟩⟩
  rw [hb.block g (Array.getElem?_eq_some_iff.mp h3).1 (by omega)]; exact h3
theorem Byt.take {D : Nat} {w : World} {ao : Option Addr} {l : List Int} (h : Byt D w ao l) (n : Nat) : Byt D w ao (l.take n) := by
  refine ⟨fun hl => ?_, fun x hx => h.wf x (List.mem_of_mem_take hx)⟩
  obtain ⟨b, off, e, hB, hD, hc⟩ := h.lie (by intro e; rw [e] at hl; simp at hl)
  refine ⟨b, off, e, hB, hD, fun i x hx => hc i x ?_⟩
  rw [List.getElem?_take] at hx
  split at hx
  · exact hx
  · cases hx
/-- A disk but for its bytes. -/
structure Shell (w : World) (D : Nat) (d : Dk) : Prop where
  c0 : w.cell? ⟨D, 0, none⟩ = some (.int .i64 d.room)
  c1 : w.cell? ⟨D, 1, none⟩ = some (.int .i64 d.firm)
  c2 : ∃ v, w.cell? ⟨D, 2, none⟩ = some v
  c3 : w.cell? ⟨D, 3, none⟩ = some (.bool d.off)
  c4 : w.cell? ⟨D, 4, none⟩ = some (.bool d.lit)
  c5 : w.cell? ⟨D, 5, none⟩ = some (.int .i64 d.fuse)
  fr : ∀ i, w.frozen? ⟨D, i, none⟩ = false
theorem DiskAt.shell {w : World} {D : Nat} {d : Dk} (h : DiskAt w D d) : Shell w D d := by
  obtain ⟨ao, cap, h2, _⟩ := h.c2
  exact ⟨h.c0, h.c1, ⟨_, h2⟩, h.c3, h.c4, h.c5, h.fr⟩
theorem Shell.grown {w w' : World} {D : Nat} {d : Dk} {row : Option Nat} (h : Shell w D d) (hg : w.grownBy w' row) (hr : ∀ j, row = some j → j ≠ D) : Shell w' D d := by
  have hD := World.block_lt_of_cell? _ _ h.c0
  have hb : w'.heap[D]? = w.heap[D]? := hg.block D hD (fun e => hr D e.symm rfl)
  have hcell : ∀ i, w'.cell? ⟨D, i, none⟩ = w.cell? ⟨D, i, none⟩ := fun i => World.cell?_of_block (w := w) hb
  obtain ⟨v, h2⟩ := h.c2
  exact ⟨(hcell _).trans h.c0, (hcell _).trans h.c1, ⟨v, (hcell _).trans h2⟩, (hcell _).trans h.c3, (hcell _).trans h.c4, (hcell _).trans h.c5, fun i => (show w'.frozen? ⟨D, i, none⟩ = w.frozen? ⟨D, i, none⟩ from World.frozen?_of_block (w := w) hb).trans (h.fr i)⟩
theorem Shell.setBs {w : World} {D : Nat} {d : Dk} {ao : Option Addr} {cap : Nat} {l : List Int} (h : Shell w D d) (hb : Byt D w ao l) (hn : ao = none → l = [] ∧ cap = 0) (hc : l.length ≤ cap) : DiskAt (w.setCell ⟨D, 2, none⟩ (.slice ao l.length cap)) D { d with bs := l } := by
  obtain ⟨v, h2⟩ := h.c2
  exact ⟨cell_set h.c0 (by decide), cell_set h.c1 (by decide), ⟨ao, cap, World.cell?_setCell_same _ _ _ h2, byt_set _ hb, hn, hc⟩, cell_set h.c3 (by decide), cell_set h.c4 (by decide), cell_set h.c5 (by decide), free_set h.fr⟩
theorem But.grown {D : Nat} {w w' w'' : World} {row : Option Nat} (h : But D w w') (hg : w'.grownBy w'' row) (hr : ∀ j, row = some j → w.heap.size ≤ j) : But D w w'' :=
  ⟨hg.os.trans h.os, hg.tape.trans h.tape, hg.output.trans h.output, Nat.le_trans h.size hg.size, fun k hk hne => (hg.block k (Nat.lt_of_lt_of_le hk h.size) (fun e => by have := hr k e.symm; omega)).trans (h.block k hk hne)⟩
theorem But.dN {D : Nat} {w w' : World} (h : But D w w') (n : Nat) : But D w (w'.drewN n) := ⟨h.os, h.tape, h.output, h.size, h.block⟩
theorem Byt.dN {D : Nat} {w : World} {ao : Option Addr} {l : List Int} (h : Byt D w ao l) (n : Nat) : Byt D (w.drewN n) ao l := ⟨h.lie, h.wf⟩

set_option maxHeartbeats 1000000 in
theorem write_walk (D : Nat) (d : Dk) (ao : Option Addr) (ls : List (Option Addr × Nat × List Int)) (cap : Nat) (w : World) (hd : DiskAt w D d) (ho : d.ok) (hl : Parts D w ao ls) (hn : ls.length ≤ 1000000) (ht : (allB ls).length ≤ 100000) :
    Calls Try.prog 24 #[.pointer (some ⟨D, 0, none⟩), .slice ao ls.length cap] w fun e w' => e = .returned (.int .i64 (d.writeE (allB ls))) ∧ DiskAt w' D (d.wrote (allB ls)) ∧ But D w w' := by
  obtain ⟨i0, hi, hz0, hz1, hz2⟩ := info_parts info5
  have hDl := hd.lt
  have hwf : ∀ x ∈ allB ls, 0 ≤ x ∧ x ≤ 255 := fun x hx => by
    simp only [allB, List.mem_flatMap] at hx
    obtain ⟨p, hp, hx⟩ := hx
    exact (hl.each p hp).1.wf x hx
  obtain ⟨L, hL⟩ : ∃ L, allB ls = L := ⟨_, rfl⟩
  have hcon := concat_walk D ao ls cap w hl hn (by omega)
  rw [hL] at hcon ht hwf ⊢
  clear hL
  go_enter Try.func24, Try.ntmps24
  go_wp2_with fail
  refine hcon.mono ?_
  rintro e w1 ⟨v, rfl, hown, hb1⟩
  have hd1 := hd.carry hb1
  obtain ⟨la, lc, rfl, hLb, hLn, hLc⟩ := own_byt hown hDl hwf
  have c3 := hd1.c3
  by_cases hoff : d.off = true
  · rw [hoff] at c3
    have e1 : d.writeE L = 9 := by unfold Dk.writeE; rw [if_pos hoff]
    have e2 : d.wrote L = d := by unfold Dk.wrote; rw [if_pos hoff]
    go_wp2_with fail
    go_ret
    exact ⟨by rw [e1]; rfl, by rw [e2]; exact hd1, But.of_below hb1⟩
  · have hoff' : d.off = false := by simpa using hoff
    rw [hoff'] at c3
    obtain ⟨bo, bc, c2, hbb, hbn, hbc⟩ := hd1.c2
    have c0 := hd1.c0
    have hbs := ho.bs
    have hrm := ho.room
    by_cases hfull : d.room < (d.bs.length : Int) + L.length
    · have hfd : decide ((d.bs.length : Int) + L.length > d.room) = true := decide_eq_true hfull
      have e1 : d.writeE L = 8 := by unfold Dk.writeE; rw [if_neg hoff, if_pos hfull]
      have e2 : d.wrote L = d := by unfold Dk.wrote; rw [if_neg hoff, if_pos hfull]
      go_wp2_with fail
      go_quiet (fail)
      go_wp2_with fail
      go_ret
      exact ⟨by rw [e1]; rfl, by rw [e2]; exact hd1.dN _, (But.of_below hb1).dN _⟩
    · have hfd : decide ((d.bs.length : Int) + L.length > d.room) = false := decide_eq_false hfull
      go_wp2_with fail
      go_quiet (fail)
      go_wp2_with fail
      have hd2 := hd1.dN nq
      have hB2 := (But.of_below (D := D) hb1).dN nq
      have hLb2 := hLb.dN nq
      have hbb2 := hbb.dN nq
      have hDl2 := hd2.lt
      have hbw := hbb.wf
      generalize w1.drewN nq = w2 at hd2 hB2 hLb2 hbb2 hDl2 ⊢
      have hB2s := hB2.size
      clear hd1 hb1 hown hLb hbb c0 c2 c3 hcon hl hd hfd
      refine (clone_own D bo d.bs bc w2 hbb2 (by omega) hbn).mono ?_
      rintro e w3 ⟨v3, rfl, hown3, hb3⟩
      have hd3 := hd2.carry hb3
      have hB3 := hB2.trans (But.of_below hb3)
      have hLb3 := hLb2.carry (But.of_below hb3)
      have hDl3 := hd3.lt
      clear hd2 hB2 hLb2 hbb2
      go_wp2_with fail
      refine (burn_walk D d L.length w3 hd3 (by omega) ho.fuse).mono ?_
      rintro e w4 ⟨rfl, hd4, hB4⟩
      have hin := burnN_in ho L.length
      obtain ⟨k, hk⟩ : ∃ k : Nat, d.burnN L.length = k := ⟨(d.burnN L.length).toNat, by omega⟩
      have hLb4 := hLb3.carry hB4
      have hown4 := own_but hown3 hB4 hDl2
      have hE : d.writeE L = if (d.burned L.length).off = true then 9 else 0 := by unfold Dk.writeE; rw [if_neg hoff, if_neg (by omega)]
      have hW : d.wrote L = { d.burned L.length with bs := d.bs ++ L.take k } := by unfold Dk.wrote; rw [if_neg hoff, if_neg (by omega), hk]; rfl
      rw [hk] at hin ⊢
      have hDl4 := hd4.lt
      have hs4 : w2.heap.size ≤ w4.heap.size := Nat.le_trans hb3.size hB4.size
      have hB5 := hB3.trans hB4
      obtain ⟨r1, r2, r3, r4⟩ := burned_room d L.length
      obtain ⟨bo4, bc4, c24, _⟩ := hd4.c2
      have fr2 := hd4.fr 2
      have hkL : k ≤ L.length := by omega
      have hkc : k ≤ lc := by omega
      clear hk hd3 hB3 hLb3 hown3 hB4 hb3
      cases la with
      | none =>
        obtain ⟨rfl, rfl⟩ := hLn rfl
        have hk0 : k = 0 := by simp at hkL; omega
        subst hk0
        obtain ⟨a5, c5, rfl, hb5, hn5, hc5⟩ := own_byt hown4 (by omega) hbw
        have hS5 := hd4.shell
        have hd6 := hS5.setBs hb5 hn5 hc5
        have hB7 := hB5.trans (But.set (i := 2) (.slice a5 d.bs.length c5))
        obtain ⟨vv, c25⟩ := hS5.c2
        have f25 := hS5.fr 2
        have c36 := hd6.c3
        clear hS5 hd4 c24 hb5 hB5
        cases hof : (d.burned ([] : List Int).length).off with
        | true =>
          rw [hof] at hE
          have HE : Hid (d.writeE [] = _) := hE
          have HW : Hid (d.wrote [] = _) := hW
          clear hE hW
          have c36' : (w4.setCell ⟨D, 2, none⟩ (.slice a5 d.bs.length c5)).cell? ⟨D, 3, none⟩ = some (.bool true) := by rw [c36]; exact congrArg (fun x => some (Value.bool x)) hof
          clear c36 hof
          go_wp2_with (at_builtin; refine wpList_append_own_none rfl _ _ 37 rfl _ 5 i0 1 Try.underlying37 hi _ _ _ rfl hown4 rfl ?_)
          go_ret
          exact ⟨by rw [HE.out]; rfl, by rw [HW.out]; simpa using hd6, hB7⟩
        | false =>
          rw [hof] at hE
          have HE : Hid (d.writeE [] = _) := hE
          have HW : Hid (d.wrote [] = _) := hW
          clear hE hW
          have c36' : (w4.setCell ⟨D, 2, none⟩ (.slice a5 d.bs.length c5)).cell? ⟨D, 3, none⟩ = some (.bool false) := by rw [c36]; exact congrArg (fun x => some (Value.bool x)) hof
          clear c36 hof
          go_wp2_with (at_builtin; refine wpList_append_own_none rfl _ _ 37 rfl _ 5 i0 1 Try.underlying37 hi _ _ _ rfl hown4 rfl ?_)
          go_ret
          exact ⟨by rw [HE.out]; rfl, by rw [HW.out]; simpa using hd6, hB7⟩
      | some ad =>
        have hnews := byt_news0 (hLb4.take k)
        have hone := byt_one (L.take k)
        have hll : (bytV (L.take k)).length = k * 1 := by simp [bytV]; omega
        have hm1 : d.bs.length + k ≤ maxLen := by unfold maxLen; omega
        have hm2 : (d.bs.length + k) * 1 ≤ 140737488355328 := by omega
        go_wp2_with (at_builtin; refine wpList_append_own _ rfl _ _ 37 rfl _ 5 i0 (.int .u8 0) 1 1 Try.underlying37 hi hz0 hz1 hz2 rfl (by decide) _ _ _ rfl hown4 ad k lc (bytV (L.take k)) rfl hll hnews hone hm1 hm2 hs4 ?_)
        intro v' w5 hown5 hg5 _
        have hown5 : w5.ownsRow w2.heap.size 5 1 v' (d.bs ++ L.take k).length (bytV (d.bs ++ L.take k)) := by
          rw [bytV_append, List.length_append, List.length_take, Nat.min_eq_left hkL]; exact hown5
        have hS5 := hd4.shell.grown hg5 (fun j hj => by have := (hown4.lt j hj).1; omega)
        have hB6 : But D w w5 := hB5.grown hg5 (fun j hj => by have := (hown4.lt j hj).1; have := hB2s; omega)
        obtain ⟨a5, c5, rfl, hb5, hn5, hc5⟩ := own_byt hown5 (by omega) (fun x hx => by
          rcases List.mem_append.mp hx with hx | hx
          · exact hbw x hx
          · exact hwf x (List.mem_of_mem_take hx))
        have hd6 := hS5.setBs hb5 hn5 hc5
        have hB7 := hB6.trans (But.set (i := 2) (.slice a5 (d.bs ++ L.take k).length c5))
        obtain ⟨vv, c25⟩ := hS5.c2
        have f25 := hS5.fr 2
        have c36 := hd6.c3
        clear hS5 hd4 c24 hown5 hg5 hown4 hb5 hB6 hB5
        cases hof : (d.burned L.length).off with
        | true =>
          rw [hof] at hE
          have HE : Hid (d.writeE L = _) := hE
          have HW : Hid (d.wrote L = _) := hW
          clear hE hW
          have c36' : (w5.setCell ⟨D, 2, none⟩ (.slice a5 (d.bs ++ L.take k).length c5)).cell? ⟨D, 3, none⟩ = some (.bool true) := by rw [c36]; exact congrArg (fun x => some (Value.bool x)) hof
          clear c36 hof
          generalize (d.bs ++ L.take k).length = nn at c36' hd6 hB7 ⊢
          go_wp2_with fail
          go_ret
          exact ⟨by rw [HE.out]; rfl, by rw [HW.out]; exact hd6, hB7⟩
        | false =>
          rw [hof] at hE
          have HE : Hid (d.writeE L = _) := hE
          have HW : Hid (d.wrote L = _) := hW
          clear hE hW
          have c36' : (w5.setCell ⟨D, 2, none⟩ (.slice a5 (d.bs ++ L.take k).length c5)).cell? ⟨D, 3, none⟩ = some (.bool false) := by rw [c36]; exact congrArg (fun x => some (Value.bool x)) hof
          clear c36 hof
          generalize (d.bs ++ L.take k).length = nn at c36' hd6 hB7 ⊢
          go_wp2_with fail
          go_ret
          exact ⟨by rw [HE.out]; rfl, by rw [HW.out]; exact hd6, hB7⟩

end Go.Proofs.Ytknpdigpendnjaa.disk
