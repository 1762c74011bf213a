/-
  Package disk: where the new bytes lie (what DiskKeeps wants besides).
-/
import Derived.Test.YtknpdigpendnjaaDkFuse
namespace Go.Proofs.Ytknpdigpendnjaa.disk
open Go Go.Proofs Go.RowKit Go.Proofs.Ytknpdigpendnjaa.AH
set_option maxRecDepth 10000

theorem own_from {w : World} {B : Nat} {e : TypeId} {size : Nat} {v : Value} {n : Nat} {xs : List Value} (h : w.ownsRow B e size v n xs) : ∀ ao m cap, v = .slice ao m cap → ∀ a, ao = some a → B ≤ a.block := by
  intro ao m cap e a ea
  obtain ⟨_, ⟨rfl, _⟩ | ⟨b, c, cur, rfl, hg, _⟩⟩ := h
  · cases e; cases ea
  · cases e; cases ea; exact hg

theorem burn2 (D : Nat) (d : Dk) (n : Int) (w : World) (hd : DiskAt w D d) (hn : 0 ≤ n ∧ n ≤ 1000000) (hf : d.lit = true → 0 ≤ d.fuse ∧ d.fuse ≤ 9223372036854775807) :
    Calls Try.prog 37 #[.pointer (some ⟨D, 0, none⟩), .int .i64 n] w fun e w' => e = .returned (.int .i64 (d.burnN n)) ∧ DiskAt w' D (d.burned n) ∧ But D w w' ∧ w'.cell? ⟨D, 2, none⟩ = w.cell? ⟨D, 2, none⟩ := by
  have h3 := hd.c3
  have h4 := hd.c4
  have h5 := hd.c5
  have f3 := hd.fr 3
  have f5 := hd.fr 5
  by_cases hl : d.lit = true
  · have hf' := hf hl
    rw [hl] at h4
    have D1 : ∀ x y, DiskAt ((w.setCell ⟨D, 5, none⟩ (.int .i64 x)).setCell ⟨D, 3, none⟩ (.bool y)) D { d with fuse := x, off := y } := fun x y => (hd.setFuse x).setOff y
    have B1 : ∀ x y, But D w ((w.setCell ⟨D, 5, none⟩ (.int .i64 x)).setCell ⟨D, 3, none⟩ (.bool y)) := fun x y => (But.set _).trans (But.set _)
    have C1 : ∀ x y, ((w.setCell ⟨D, 5, none⟩ (.int .i64 x)).setCell ⟨D, 3, none⟩ (.bool y)).cell? ⟨D, 2, none⟩ = w.cell? ⟨D, 2, none⟩ := fun x y => (World.cell?_setCell_other _ _ _ _ (by simp)).trans (World.cell?_setCell_other _ _ _ _ (by simp))
    by_cases hle : n ≤ d.fuse
    · clear hd
      go_enter Try.func37, Try.ntmps37
      go_wp2_with fail
      go_ret
      have e : Dk.burned d n = { d with fuse := d.fuse - n, off := false } := by simp [Dk.burned, hl, hle]
      refine ⟨by simp [Dk.burnN, hl, hle], ?_, B1 _ _, C1 _ _⟩
      rw [e]
      simpa using D1 (d.fuse - n) false
    · have hgt : d.fuse < n := by omega
      clear hd
      go_enter Try.func37, Try.ntmps37
      go_wp2_with fail
      go_ret
      have e : Dk.burned d n = { d with fuse := 0, off := true } := by simp [Dk.burned, hl, hle]
      have e2 : d.burnN n = d.fuse := by unfold Dk.burnN; rw [if_pos hl, if_neg (by omega)]
      refine ⟨by rw [e2]; rfl, ?_, B1 _ _, C1 _ _⟩
      rw [e]
      simpa [hgt] using D1 0 true
  · have hl' : d.lit = false := by simpa using hl
    rw [hl'] at h4
    go_enter Try.func37, Try.ntmps37
    go_wp2_with fail
    go_ret
    exact ⟨by simp [Dk.burnN, hl'], by simpa [Dk.burned, hl'] using hd, But.refl _ _, rfl⟩

theorem one2 (D : Nat) (d : Dk) (w : World) (hd : DiskAt w D d) (hf : d.lit = true → 0 ≤ d.fuse ∧ d.fuse ≤ 9223372036854775807) :
    Calls Try.prog 38 #[.pointer (some ⟨D, 0, none⟩)] w fun e w' => e = .returned (.bool d.oneB) ∧ DiskAt w' D d.oned ∧ But D w w' ∧ w'.cell? ⟨D, 2, none⟩ = w.cell? ⟨D, 2, none⟩ := by
  have h3 := hd.c3
  by_cases ho : d.off = true
  · rw [ho] at h3
    go_enter Try.func38, Try.ntmps38
    go_wp2_with fail
    go_ret
    exact ⟨by simp [Dk.oneB, ho], by simpa [Dk.oned, ho] using hd, But.refl _ _, rfl⟩
  · have ho' : d.off = false := by simpa using ho
    rw [ho'] at h3
    have c := burn2 D d 1 w hd (by omega) hf
    go_enter Try.func38, Try.ntmps38
    go_wp2_with fail
    refine c.mono ?_
    rintro e w1 ⟨rfl, h1, h2, hq⟩
    go_wp2_with fail
    go_ret
    have e1 : d.oneB = decide (d.burnN 1 = 1) := by unfold Dk.oneB; rw [ho']; rfl
    have e2 : d.oned = d.burned 1 := by unfold Dk.oned; rw [if_neg ho]
    exact ⟨by rw [e1]; rfl, by rw [e2]; exact h1, h2, hq⟩

theorem sync2 (D : Nat) (d : Dk) (w : World) (hd : DiskAt w D d) (hf : d.lit = true → 0 ≤ d.fuse ∧ d.fuse ≤ 9223372036854775807) (hb : d.oned.bs.length ≤ 1000000) :
    Calls Try.prog 31 #[.pointer (some ⟨D, 0, none⟩)] w fun e w' => e = .returned (.int .i64 d.syncE) ∧ DiskAt w' D d.synced ∧ But D w w' ∧ w'.cell? ⟨D, 2, none⟩ = w.cell? ⟨D, 2, none⟩ := by
  have c := one2 D d w hd hf
  go_enter Try.func31, Try.ntmps31
  go_wp2_with fail
  refine c.mono ?_
  rintro e w1 ⟨rfl, h1, h2, hq⟩
  have HQ : Hid (w1.cell? ⟨D, 2, none⟩ = w.cell? ⟨D, 2, none⟩) := hq
  clear hq
  by_cases ho : d.oneB = true
  · obtain ⟨ao, cap, c2, _⟩ := h1.c2
    have c1 := h1.c1
    have f1 := h1.fr 1
    have hs := h1.setFirm d.oned.bs.length
    rw [ho]
    go_wp2_with fail
    go_ret
    have e1 : d.syncE = 0 := by unfold Dk.syncE; rw [if_pos ho]
    have e2 : d.synced = { d.oned with firm := d.oned.bs.length } := by unfold Dk.synced; rw [if_pos ho]
    exact ⟨by rw [e1]; rfl, by rw [e2]; exact hs, h2.trans (But.set _), (World.cell?_setCell_other _ _ _ _ (by simp)).trans HQ.out⟩
  · have ho' : d.oneB = false := by simpa using ho
    rw [ho']
    go_wp2_with fail
    go_ret
    have e1 : d.syncE = 9 := by unfold Dk.syncE; rw [if_neg ho]
    have e2 : d.synced = d.oned := by unfold Dk.synced; rw [if_neg ho]
    exact ⟨by rw [e1]; rfl, by rw [e2]; exact h1, h2, HQ.out⟩

set_option maxHeartbeats 1000000 in
theorem write2 (D : Nat) (d : Dk) (ao : Option Addr) (ls : List (Option Addr × Nat × List Int)) (cap : Nat) (w : World) (hd : DiskAt w D d) (ho : d.ok) (hl : Parts D w ao ls) (hn : ls.length ≤ 1000000) (ht : (allB ls).length ≤ 100000) :
    Calls Try.prog 24 #[.pointer (some ⟨D, 0, none⟩), .slice ao ls.length cap] w fun e w' => e = .returned (.int .i64 (d.writeE (allB ls))) ∧ DiskAt w' D (d.wrote (allB ls)) ∧ But D w w' ∧ (d.off = false → (d.bs.length : Int) + (allB ls).length ≤ d.room → ∀ ao n cap, w'.cell? ⟨D, 2, none⟩ = some (.slice ao n cap) → ∀ a, ao = some a → w.heap.size ≤ a.block) := by
  obtain ⟨i0, hi, hz0, hz1, hz2⟩ := info_parts info5
  have hDl := hd.lt
  have hwf : ∀ x ∈ allB ls, 0 ≤ x ∧ x ≤ 255 := fun x hx => by
    simp only [allB, List.mem_flatMap] at hx
    obtain ⟨p, hp, hx⟩ := hx
    exact (hl.each p hp).1.wf x hx
  obtain ⟨L, hL⟩ : ∃ L, allB ls = L := ⟨_, rfl⟩
  have hcon := concat_walk D ao ls cap w hl hn (by omega)
  rw [hL] at hcon ht hwf ⊢
  clear hL
  go_enter Try.func24, Try.ntmps24
  go_wp2_with fail
  refine hcon.mono ?_
  rintro e w1 ⟨v, rfl, hown, hb1⟩
  have hd1 := hd.carry hb1
  obtain ⟨la, lc, rfl, hLb, hLn, hLc⟩ := own_byt hown hDl hwf
  have c3 := hd1.c3
  by_cases hoff : d.off = true
  · rw [hoff] at c3
    have e1 : d.writeE L = 9 := by unfold Dk.writeE; rw [if_pos hoff]
    have e2 : d.wrote L = d := by unfold Dk.wrote; rw [if_pos hoff]
    go_wp2_with fail
    go_ret
    exact ⟨by rw [e1]; rfl, by rw [e2]; exact hd1, But.of_below hb1, fun h => by rw [hoff] at h; cases h⟩
  · have hoff' : d.off = false := by simpa using hoff
    rw [hoff'] at c3
    obtain ⟨bo, bc, c2, hbb, hbn, hbc⟩ := hd1.c2
    have c0 := hd1.c0
    have hbs := ho.bs
    have hrm := ho.room
    by_cases hfull : d.room < (d.bs.length : Int) + L.length
    · have hfd : decide ((d.bs.length : Int) + L.length > d.room) = true := decide_eq_true hfull
      have e1 : d.writeE L = 8 := by unfold Dk.writeE; rw [if_neg hoff, if_pos hfull]
      have e2 : d.wrote L = d := by unfold Dk.wrote; rw [if_neg hoff, if_pos hfull]
      go_wp2_with fail
      go_quiet (fail)
      go_wp2_with fail
      go_ret
      exact ⟨by rw [e1]; rfl, by rw [e2]; exact hd1.dN _, (But.of_below hb1).dN _, fun _ h => by omega⟩
    · have hfd : decide ((d.bs.length : Int) + L.length > d.room) = false := decide_eq_false hfull
      go_wp2_with fail
      go_quiet (fail)
      go_wp2_with fail
      have hd2 := hd1.dN nq
      have hB2 := (But.of_below (D := D) hb1).dN nq
      have hLb2 := hLb.dN nq
      have hbb2 := hbb.dN nq
      have hDl2 := hd2.lt
      have hbw := hbb.wf
      generalize w1.drewN nq = w2 at hd2 hB2 hLb2 hbb2 hDl2 ⊢
      have hB2s := hB2.size
      clear hd1 hb1 hown hLb hbb c0 c2 c3 hcon hl hd hfd
      refine (clone_own D bo d.bs bc w2 hbb2 (by omega) hbn).mono ?_
      rintro e w3 ⟨v3, rfl, hown3, hb3⟩
      have hd3 := hd2.carry hb3
      have hB3 := hB2.trans (But.of_below hb3)
      have hLb3 := hLb2.carry (But.of_below hb3)
      have hDl3 := hd3.lt
      clear hd2 hB2 hLb2 hbb2
      go_wp2_with fail
      refine (burn_walk D d L.length w3 hd3 (by omega) ho.fuse).mono ?_
      rintro e w4 ⟨rfl, hd4, hB4⟩
      have hin := burnN_in ho L.length
      obtain ⟨k, hk⟩ : ∃ k : Nat, d.burnN L.length = k := ⟨(d.burnN L.length).toNat, by omega⟩
      have hLb4 := hLb3.carry hB4
      have hown4 := own_but hown3 hB4 hDl2
      have hE : d.writeE L = if (d.burned L.length).off = true then 9 else 0 := by unfold Dk.writeE; rw [if_neg hoff, if_neg (by omega)]
      have hW : d.wrote L = { d.burned L.length with bs := d.bs ++ L.take k } := by unfold Dk.wrote; rw [if_neg hoff, if_neg (by omega), hk]; rfl
      rw [hk] at hin ⊢
      have hDl4 := hd4.lt
      have hs4 : w2.heap.size ≤ w4.heap.size := Nat.le_trans hb3.size hB4.size
      have hB5 := hB3.trans hB4
      obtain ⟨r1, r2, r3, r4⟩ := burned_room d L.length
      obtain ⟨bo4, bc4, c24, _⟩ := hd4.c2
      have fr2 := hd4.fr 2
      have hkL : k ≤ L.length := by omega
      have hkc : k ≤ lc := by omega
      clear hk hd3 hB3 hLb3 hown3 hB4 hb3
      cases la with
      | none =>
        obtain ⟨rfl, rfl⟩ := hLn rfl
        have hk0 : k = 0 := by simp at hkL; omega
        subst hk0
        have hfr := own_from hown4
        obtain ⟨a5, c5, rfl, hb5, hn5, hc5⟩ := own_byt hown4 (by omega) hbw
        have HF : Hid (∀ ao n cap, (some (Value.slice a5 d.bs.length c5) : Option Value) = some (.slice ao n cap) → ∀ a, ao = some a → w.heap.size ≤ a.block) := fun ao n cap e a ea => by cases e; exact Nat.le_trans hB2s (hfr a5 _ _ rfl a ea)
        clear hfr
        have hS5 := hd4.shell
        have hd6 := hS5.setBs hb5 hn5 hc5
        have hB7 := hB5.trans (But.set (i := 2) (.slice a5 d.bs.length c5))
        obtain ⟨vv, c25⟩ := hS5.c2
        have f25 := hS5.fr 2
        have c36 := hd6.c3
        clear hS5 hd4 c24 hb5 hB5
        cases hof : (d.burned ([] : List Int).length).off with
        | true =>
          rw [hof] at hE
          have HE : Hid (d.writeE [] = _) := hE
          have HW : Hid (d.wrote [] = _) := hW
          clear hE hW
          have c36' : (w4.setCell ⟨D, 2, none⟩ (.slice a5 d.bs.length c5)).cell? ⟨D, 3, none⟩ = some (.bool true) := by rw [c36]; exact congrArg (fun x => some (Value.bool x)) hof
          clear c36 hof
          go_wp2_with (at_builtin; refine wpList_append_own_none rfl _ _ 37 rfl _ 5 i0 1 Try.underlying37 hi _ _ _ rfl hown4 rfl ?_)
          go_ret
          exact ⟨by rw [HE.out]; rfl, by rw [HW.out]; simpa using hd6, hB7, by first | exact fun _ _ ao n cap e => HF.out ao n cap (by rw [← e]; exact (World.cell?_setCell_same _ _ _ c25).symm) | exact fun _ ao n cap e => HF.out ao n cap (by rw [← e]; exact (World.cell?_setCell_same _ _ _ c25).symm) | exact fun ao n cap e => HF.out ao n cap (by rw [← e]; exact (World.cell?_setCell_same _ _ _ c25).symm)⟩
        | false =>
          rw [hof] at hE
          have HE : Hid (d.writeE [] = _) := hE
          have HW : Hid (d.wrote [] = _) := hW
          clear hE hW
          have c36' : (w4.setCell ⟨D, 2, none⟩ (.slice a5 d.bs.length c5)).cell? ⟨D, 3, none⟩ = some (.bool false) := by rw [c36]; exact congrArg (fun x => some (Value.bool x)) hof
          clear c36 hof
          go_wp2_with (at_builtin; refine wpList_append_own_none rfl _ _ 37 rfl _ 5 i0 1 Try.underlying37 hi _ _ _ rfl hown4 rfl ?_)
          go_ret
          exact ⟨by rw [HE.out]; rfl, by rw [HW.out]; simpa using hd6, hB7, by first | exact fun _ _ ao n cap e => HF.out ao n cap (by rw [← e]; exact (World.cell?_setCell_same _ _ _ c25).symm) | exact fun _ ao n cap e => HF.out ao n cap (by rw [← e]; exact (World.cell?_setCell_same _ _ _ c25).symm) | exact fun ao n cap e => HF.out ao n cap (by rw [← e]; exact (World.cell?_setCell_same _ _ _ c25).symm)⟩
      | some ad =>
        have hnews := byt_news0 (hLb4.take k)
        have hone := byt_one (L.take k)
        have hll : (bytV (L.take k)).length = k * 1 := by simp [bytV]; omega
        have hm1 : d.bs.length + k ≤ maxLen := by unfold maxLen; omega
        have hm2 : (d.bs.length + k) * 1 ≤ 140737488355328 := by omega
        go_wp2_with (at_builtin; refine wpList_append_own _ rfl _ _ 37 rfl _ 5 i0 (.int .u8 0) 1 1 Try.underlying37 hi hz0 hz1 hz2 rfl (by decide) _ _ _ rfl hown4 ad k lc (bytV (L.take k)) rfl hll hnews hone hm1 hm2 hs4 ?_)
        intro v' w5 hown5 hg5 _
        have hown5 : w5.ownsRow w2.heap.size 5 1 v' (d.bs ++ L.take k).length (bytV (d.bs ++ L.take k)) := by
          rw [bytV_append, List.length_append, List.length_take, Nat.min_eq_left hkL]; exact hown5
        have hS5 := hd4.shell.grown hg5 (fun j hj => by have := (hown4.lt j hj).1; omega)
        have hB6 : But D w w5 := hB5.grown hg5 (fun j hj => by have := (hown4.lt j hj).1; have := hB2s; omega)
        have hfr := own_from hown5
        obtain ⟨a5, c5, rfl, hb5, hn5, hc5⟩ := own_byt hown5 (by omega) (fun x hx => by
          rcases List.mem_append.mp hx with hx | hx
          · exact hbw x hx
          · exact hwf x (List.mem_of_mem_take hx))
        have HF : Hid (∀ ao n cap, (some (Value.slice a5 (d.bs ++ L.take k).length c5) : Option Value) = some (.slice ao n cap) → ∀ a, ao = some a → w.heap.size ≤ a.block) := fun ao n cap e a ea => by cases e; exact Nat.le_trans hB2s (hfr a5 _ _ rfl a ea)
        clear hfr
        have hd6 := hS5.setBs hb5 hn5 hc5
        have hB7 := hB6.trans (But.set (i := 2) (.slice a5 (d.bs ++ L.take k).length c5))
        obtain ⟨vv, c25⟩ := hS5.c2
        have f25 := hS5.fr 2
        have c36 := hd6.c3
        clear hS5 hd4 c24 hown5 hg5 hown4 hb5 hB6 hB5
        cases hof : (d.burned L.length).off with
        | true =>
          rw [hof] at hE
          have HE : Hid (d.writeE L = _) := hE
          have HW : Hid (d.wrote L = _) := hW
          clear hE hW
          have c36' : (w5.setCell ⟨D, 2, none⟩ (.slice a5 (d.bs ++ L.take k).length c5)).cell? ⟨D, 3, none⟩ = some (.bool true) := by rw [c36]; exact congrArg (fun x => some (Value.bool x)) hof
          clear c36 hof
          generalize (d.bs ++ L.take k).length = nn at c36' hd6 hB7 HF ⊢
          go_wp2_with fail
          go_ret
          exact ⟨by rw [HE.out]; rfl, by rw [HW.out]; exact hd6, hB7, by first | exact fun _ _ ao n cap e => HF.out ao n cap (by rw [← e]; exact (World.cell?_setCell_same _ _ _ c25).symm) | exact fun _ ao n cap e => HF.out ao n cap (by rw [← e]; exact (World.cell?_setCell_same _ _ _ c25).symm) | exact fun ao n cap e => HF.out ao n cap (by rw [← e]; exact (World.cell?_setCell_same _ _ _ c25).symm)⟩
        | false =>
          rw [hof] at hE
          have HE : Hid (d.writeE L = _) := hE
          have HW : Hid (d.wrote L = _) := hW
          clear hE hW
          have c36' : (w5.setCell ⟨D, 2, none⟩ (.slice a5 (d.bs ++ L.take k).length c5)).cell? ⟨D, 3, none⟩ = some (.bool false) := by rw [c36]; exact congrArg (fun x => some (Value.bool x)) hof
          clear c36 hof
          generalize (d.bs ++ L.take k).length = nn at c36' hd6 hB7 HF ⊢
          go_wp2_with fail
          go_ret
          exact ⟨by rw [HE.out]; rfl, by rw [HW.out]; exact hd6, hB7, by first | exact fun _ _ ao n cap e => HF.out ao n cap (by rw [← e]; exact (World.cell?_setCell_same _ _ _ c25).symm) | exact fun _ ao n cap e => HF.out ao n cap (by rw [← e]; exact (World.cell?_setCell_same _ _ _ c25).symm) | exact fun ao n cap e => HF.out ao n cap (by rw [← e]; exact (World.cell?_setCell_same _ _ _ c25).symm)⟩


end Go.Proofs.Ytknpdigpendnjaa.disk
