/-
  DiskKeeps: the law's own walk.
-/
import Derived.Test.YtknpdigpendnjaaDkWhere
import Derived.Test.YtknpdigpendnjaaDkSame
namespace Go.Proofs.Ytknpdigpendnjaa.disk
open Go Go.Proofs Go.RowKit Go.Proofs.Ytknpdigpendnjaa.AH
set_option maxRecDepth 10000

theorem lit_ok2 {fi f : Int} {bs : List Int} (hb : bs.length ≤ 20000) (hf : 0 ≤ fi ∧ fi ≤ bs.length) (h0 : 0 ≤ f) (h1 : f ≤ 200) {o : Bool} : Dk.ok ⟨20000, fi, bs, o, true, f⟩ :=
  ⟨by dsimp only; omega, by dsimp only; omega, hf, fun _ => by dsimp only; omega⟩
def Fresh (B D : Nat) (w : World) : Prop := ∀ ao n cap, w.cell? ⟨D, 2, none⟩ = some (.slice ao n cap) → ∀ a, ao = some a → B ≤ a.block
theorem keeps_goes (D m cap : Nat) (po : Option Addr) (B : List Int) (fi f : Int) (bs : List Int) (w : World) (h : DiskAt w D ⟨20000, fi, bs, false, true, f⟩) (hok : Dk.ok ⟨20000, fi, bs, false, true, f⟩) (hby : Byt D w po B) (hno : po = none → B = [] ∧ cap = 0) (hm : B.length = m) (hle : (m : Int) ≤ f) (hb : bs.length + m ≤ 20000) :
    Calls Try.prog 24 #[.pointer (some ⟨D, 0, none⟩), .slice (some ⟨w.heap.size, 0, none⟩) 1 1] (w.alloc (.cells #[.slice po m cap] 37)) fun e w' => e = .returned (.int .i64 0) ∧ DiskAt w' D ⟨20000, fi, bs ++ B, false, true, f - m⟩ ∧ But D w w' ∧ Fresh w.heap.size D w' := by
  have hB := But.of_below (D := D) ((Below.refl w.heap.size w).alloc (Nat.le_refl _) (.cells #[.slice po m cap] 37))
  have hc := write2 D _ _ [(po, cap, B)] 1 _ (h.carry ((Below.refl _ _).alloc (Nat.le_refl _) (.cells #[.slice po m cap] 37))) hok (parts_one hby hno hm h.lt) (by simp) (by simp [allB]; omega)
  have e : allB [(po, cap, B)] = B := by simp [allB]
  have h2 := wrote_goes (fi := fi) (f := f) (bs := bs) (B := B) (by omega) (by omega)
  rw [e, h2.1, h2.2, hm] at hc
  exact hc.mono fun e w' h => ⟨h.1, h.2.1, hB.trans h.2.2.1, fun ao n cap e a ea => Nat.le_trans hB.size (h.2.2.2 rfl (by dsimp only; omega) ao n cap e a ea)⟩
theorem keeps_sync (D : Nat) (fi f : Int) (bs : List Int) (w : World) (h : DiskAt w D ⟨20000, fi, bs, false, true, f⟩) (hb : bs.length ≤ 20000) (h1 : 1 ≤ f) (h2 : f ≤ 200) :
    Calls Try.prog 31 #[.pointer (some ⟨D, 0, none⟩)] w fun e w' => e = .returned (.int .i64 0) ∧ DiskAt w' D ⟨20000, bs.length, bs, false, true, f - 1⟩ ∧ But D w w' ∧ w'.cell? ⟨D, 2, none⟩ = w.cell? ⟨D, 2, none⟩ := by
  have e2 : (Dk.oned ⟨20000, fi, bs, false, true, f⟩).bs = bs := by simp [Dk.oned, Dk.burned, h1]
  have hc := sync2 D _ w h (fun _ => by dsimp only; omega) (by rw [e2]; omega)
  rw [(sync_goes h1).1, (sync_goes h1).2] at hc
  exact hc
theorem DiskAt.grown {w w' : World} {D : Nat} {d : Dk} {row : Option Nat} (h : DiskAt w D d) (hg : w.grownBy w' row) (hr : ∀ j, row = some j → j ≠ D) (hs : ∀ ao n cap, w.cell? ⟨D, 2, none⟩ = some (.slice ao n cap) → ∀ a, ao = some a → some a.block ≠ row) : DiskAt w' D d := by
  have hS := h.shell.grown hg hr
  have hD := h.lt
  obtain ⟨ao, cap, h2, hB, hn, hc⟩ := h.c2
  have hb : w'.heap[D]? = w.heap[D]? := hg.block D hD (fun e => hr D e.symm rfl)
  have h2' : w'.cell? ⟨D, 2, none⟩ = some (.slice ao d.bs.length cap) := (show w'.cell? ⟨D, 2, none⟩ = w.cell? ⟨D, 2, none⟩ from World.cell?_of_block (w := w) hb).trans h2
  refine ⟨hS.c0, hS.c1, ⟨ao, cap, h2', ⟨fun hne => ?_, hB.wf⟩, hn, hc⟩, hS.c3, hS.c4, hS.c5, hS.fr⟩
  obtain ⟨b, off, e, q1, q2, q3⟩ := hB.lie hne
  have hne2 := hs ao _ cap h2 _ e
  refine ⟨b, off, e, Nat.lt_of_lt_of_le q1 hg.size, q2, fun i x hx => ?_⟩
  exact (show w'.cell? ⟨b, off + i, none⟩ = w.cell? ⟨b, off + i, none⟩ from World.cell?_of_block (w := w) (hg.block b q1 (by simpa using hne2))).trans (q3 i x hx)
theorem But.ofGrown {D : Nat} {w w' : World} {row : Option Nat} {w0 : World} (h : But D w0 w) (hg : w.grownBy w' row) (hr : ∀ j, row = some j → w0.heap.size ≤ j) : But D w0 w' := h.grown hg hr
theorem sameB_true (D : Nat) (ao bo : Option Addr) (l m : List Int) (n cap cap2 : Nat) (w : World) (hl : Byt D w ao l) (hm : Byt D w bo m) (h1 : l.length = n) (h2 : m.length = n) (e : l = m) (hn : n ≤ 1000000) :
    Calls Try.prog 28 #[.slice ao n cap, .slice bo n cap2] w fun e w' => e = .returned (.bool true) ∧ Below w.heap.size w w' := by
  have h := sameB_walk D ao bo l m cap cap2 w hl hm (by omega)
  rw [h1, h2, decide_eq_true e] at h
  exact h
theorem keep_take (bs B : List Int) (k n : Nat) (h : n ≤ (bs ++ B.take k).length) : (bs ++ B.take k).take n = (bs ++ B).take n := by
  rw [List.take_append, List.take_append, List.take_take]
  congr 2
  rw [List.length_append, List.length_take] at h
  omega

set_option maxHeartbeats 20000000 in
theorem diskKeeps_walk (ao : Option Addr) (ls : List (Option Addr × Nat × List Int)) (cap : Nat) (fuse keep : Int) (w0 : World) (hl : ArgParts w0 ao ls) (hn : ls.length ≤ 9223372036854775807) :
    Calls Try.prog 8 #[.slice ao ls.length cap, .int .i64 fuse, .int .i64 keep] w0 fun e w' => e = .returned (.bool true) ∧ Old w0 w' := by
  obtain ⟨i0, hi, hz0, hz1, hz2⟩ := info_parts info5
  go_enter Try.func8, Try.ntmps8
  go_wp2_with fail
  refine (new_walk 20000 w0 (by omega) (by omega)).mono ?_
  rintro e w1 ⟨rfl, hd, hb1⟩
  have hDl := hd.lt
  go_wp2_with fail
  refine (within_walk fuse 0 120 w1 (by omega) (by omega) (by omega)).mono ?_
  rintro e w2 ⟨rfl, rfl⟩
  have hin := withinV_in fuse 0 120 (by omega)
  generalize withinV fuse 0 120 = f0 at hin ⊢
  go_wp2_with fail
  refine (arm_walk w0.heap.size _ f0 w2 hd).mono ?_
  rintro e w3 ⟨rfl, hd3, hB3⟩
  rw [decide_eq_true hin.1] at hd3
  have hB := (But.of_below (D := w0.heap.size) hb1).trans hB3
  have hP3g : Parts w0.heap.size w0 ao ls := hl.parts w0.heap.size (Nat.le_refl _)
  clear hd hB3 hb1
  go_wp2_with fail
  go_loopg [8, 9, 10] (min ls.length 10) (fun g v sy i wr => ∃ (k : Nat) (f : Int) (bs : List Int), k + g = min ls.length 10 ∧ i = .int .i64 k ∧ sy = .int .i64 bs.length ∧ wr.ownsRow (w0.heap.size + 1) 5 1 v bs.length (bytV bs) ∧ DiskAt wr w0.heap.size ⟨20000, bs.length, bs, false, true, f⟩ ∧ (∀ ao n cap, wr.cell? ⟨w0.heap.size, 2, none⟩ = some (.slice ao n cap) → ∀ a, ao = some a → some a.block ≠ v.ownBlock) ∧ 0 ≤ f ∧ f ≤ 120 ∧ bs.length ≤ 20 * k ∧ But w0.heap.size w0 wr)
  case atStart => exact ⟨0, f0, [], by omega, rfl, rfl, World.ownsRow_nil _ _ _ _, hd3, fun ao n cap _ a _ h => (by cases h), hin.1, hin.2, by simp, hB⟩
  case round =>
    obtain ⟨k, f, bs, hk, rfl, rfl, hown, hd, hal, hf0, hf120, hbs, hB⟩ := hrel
    cases gk with
    | zero =>
      have hok : Dk.ok ⟨20000, bs.length, bs, false, true, f⟩ := lit_ok2 (by omega) ⟨by omega, by omega⟩ hf0 (by omega)
      have hDl2 := hd.lt
      obtain ⟨aA, cA, rfl, hbA, hnA, hcA⟩ := own_byt (D := w0.heap.size) hown (by omega) (by obtain ⟨_, _, _, h, _⟩ := hd.c2; exact h.wf)
      clear hown hal
      go_wp2_with fail
      all_goals
        refine (within_walk keep 0 30 wr (by omega) (by omega) (by omega)).mono ?_
        rintro e t0 ⟨rfl, rfl⟩
        have hkp := withinV_in keep 0 30 (by omega)
        generalize withinV keep 0 30 = kp at hkp ⊢
        go_wp2_with fail
        refine (boot_walk w0.heap.size _ kp t0 hd hok).mono ?_
        rintro e t1 ⟨rfl, td1, tB1⟩
        have hst := stayN_in hok kp
        obtain ⟨n, hn'⟩ : ∃ n : Nat, Dk.stayN ⟨20000, (bs.length : Int), bs, false, true, f⟩ kp = n := ⟨(Dk.stayN ⟨20000, (bs.length : Int), bs, false, true, f⟩ kp).toNat, by omega⟩
        rw [hn'] at hst
        have hnD : n ≤ (bs).length := by have h : (n : Int) ≤ ((bs).length : Int) := hst.2.2; omega
        have hnF : ((bs.length : Int) : Int) ≤ (n : Int) := hst.2.1
        have td1 : DiskAt t1 w0.heap.size ⟨20000, n, (bs).take n, false, false, 0⟩ := by
          have h := td1
          unfold Dk.booted at h
          rw [hn'] at h
          exact h
        have hlen : ((bs).take n).length = n := by rw [List.length_take]; omega
        have hlenA : ((bs).take n).length = n := by rw [List.length_take]; omega
        have hbA := hbA.carry tB1
        have hB := hB.trans tB1
        have hnA' : (n : Int) ≤ ((bs).length : Int) := by omega
        have hncA : n ≤ cA := by omega
        clear tB1 hd hok hst hn'
        go_wp2_with fail
        have cr := read_walk w0.heap.size _ t1 td1 (by dsimp only; omega)
        simp only [Bool.false_eq_true, if_false, hlen] at cr
        refine cr.mono ?_
        rintro e t2 ⟨aR, cR, rfl, hbR, hcR, bR⟩
        have td2 := td1.carry bR
        have hbA := hbA.carry (But.of_below bR)
        have hB := hB.trans (But.of_below bR)
        have cS := sameB_true w0.heap.size aR aA ((bs).take n) ((bs).take n) n cR cA t2 hbR (hbA.take n) (by rw [List.length_take]; omega) (by rw [List.length_take]; omega) ((rfl : bs.take n = bs.take n)) (by omega)
        clear td1 bR cr hbR hbA
        go_wp2_with fail
        refine cS.mono ?_
        rintro e t3 ⟨rfl, b3⟩
        have td3 := td2.carry b3
        have hB := hB.trans (But.of_below b3)
        clear td2 b3 cS
        go_wp2_with fail
        refine (firm_walk w0.heap.size _ t3 td3).mono ?_
        rintro e t4 ⟨rfl, rfl⟩
        go_wp2_with fail
        refine (off_walk w0.heap.size _ t4 td3).mono ?_
        rintro e t3 ⟨rfl, rfl⟩
        go_wp2_with fail
        refine (free_sync w0.heap.size _ _ t3 td3 (by omega)).mono ?_
        rintro e t5 ⟨rfl, td5, tB5⟩
        have hB := hB.trans tB5
        clear tB5 td3 td5
        go_wp2_with fail
        refine (runs_old t5).mono ?_
        rintro e t7 ⟨rfl, t77⟩
        go_wp2_with fail
        go_ret
        exact ⟨rfl, (Old.of_below (But.old (Below.refl _ _) hB (Nat.le_refl _))).trans t77⟩
    | succ g =>
      obtain ⟨p, hp⟩ : ∃ p, ls[k]? = some p := ⟨ls[k]'(by omega), List.getElem?_eq_getElem _⟩
      have hkl : k < ls.length := by omega
      have hkl' : (k : Int) < (ls.length : Int) := by omega
      have hk10 : (k : Int) < 10 := by omega
      have hP := hP3g.carry hB
      obtain ⟨b0, off0, rfl, hb0, hbD, hcc⟩ := hP.lie (by intro e; subst e; simp at hkl)
      have hc1 := hcc k p hp
      obtain ⟨hby, _⟩ := hP.each p (List.mem_of_getElem? hp)
      obtain ⟨hby0, hno⟩ := hP3g.each p (List.mem_of_getElem? hp)
      obtain ⟨hpc, hpc2⟩ := hl.caps p (List.mem_of_getElem? hp)
      obtain ⟨po, pc, pl⟩ := p
      simp only at hc1 hby hby0 hno hpc hpc2
      have hok : Dk.ok ⟨20000, bs.length, bs, false, true, f⟩ := lit_ok2 (by omega) ⟨by omega, by omega⟩ hf0 (by omega)
      have hDl := hd.lt
      clear hcc hp
      cases po with
      | none =>
        obtain ⟨rfl, rfl⟩ := hno rfl
        have i20 : ¬ (20 < (([] : List Int).length : Int)) := by simp
        go_wp2_with fail
        go_quiet (fail)
        have hd := hd.dN nq
        have hB := hB.dN nq
        have hown : (wr.drewN nq).ownsRow (w0.heap.size + 1) 5 1 u8 bs.length (bytV bs) := hown
        have hal : ∀ ao n cap, (wr.drewN nq).cell? ⟨w0.heap.size, 2, none⟩ = some (.slice ao n cap) → ∀ a, ao = some a → some a.block ≠ u8.ownBlock := hal
        generalize wr.drewN nq = wq at hd hB hown hal ⊢
        clear hP hc1 hb0 hby
        have hbyB := hby0.carry hB
        have hnoB : (none : Option Addr) = none → ([] : List Int) = [] ∧ (0 : Nat) = 0 := (fun _ => ⟨rfl, rfl⟩)
        have hbw : ∀ x ∈ bs ++ (([] : List Int)), 0 ≤ x ∧ x ≤ 255 := fun x hx => by
          rcases List.mem_append.mp hx with hx | hx
          · obtain ⟨_, _, _, h, _⟩ := hd.c2
            exact h.wf x hx
          · exact hbyB.wf x hx
        have hlA : ((bs ++ (([] : List Int))).length : Int) = (bs.length : Int) + 0 := by rw [List.length_append, (rfl : ([] : List Int).length = 0)]; omega
        have hlN : (bs ++ (([] : List Int))).length ≤ 200 := by omega
        have hlB : bs.length ≤ (bs ++ (([] : List Int))).length := by rw [List.length_append]; omega
        have hDl2 := hd.lt
        have hown : wq.ownsRow (w0.heap.size + 1) 5 1 u8 (bs ++ (([] : List Int))).length (bytV (bs ++ (([] : List Int)))) := by simpa using hown
        obtain ⟨wa, hwa⟩ : ∃ wa, wa = wq := ⟨_, rfl⟩
        rw [← hwa] at hown hd hB hbyB hal ⊢
        clear hwa
        obtain ⟨aA, cA, rfl, hbA, hnA, hcA⟩ := own_byt (D := w0.heap.size) hown (by omega) hbw
        go_wp2_with (at_builtin; refine wpList_append_own_none rfl _ _ 37 rfl _ 5 i0 1 Try.underlying37 hi _ _ _ rfl hown rfl ?_)
        by_cases hg : (0 : Int) ≤ f
        · have cw := keeps_goes w0.heap.size _ 0 none (([] : List Int)) bs.length f bs wa hd hok hbyB (fun _ => ⟨rfl, rfl⟩) (rfl : ([] : List Int).length = 0) hg (by omega)
          clear hd
          go_wp2_with fail
          refine cw.mono ?_
          rintro e u1 ⟨rfl, hd, uB, hfr⟩
          have hB := hB.trans uB
          have hownU := own_but hown uB (by omega)
          have hbA := hbA.carry uB
          clear uB cw
          go_wp2_with fail
          by_cases hz : 1 ≤ f - 0
          · refine (keeps_sync w0.heap.size _ _ _ u1 hd (by omega) hz (by omega)).mono ?_
            rintro e u2 ⟨rfl, hd2, uB, hq⟩
            have hB := hB.trans uB
            have hown2 := own_but hownU uB (by omega)
            clear uB hd
            go_wp2_with fail
            go_roundg g
            case rel => exact ⟨k + 1, _, bs ++ (([] : List Int)), by omega, by simp, by first | (rw [hlA]; done) | (rw [hlA]; simp), by simpa using hown2, hd2, fun ao n cap e a ea => by
              have h1 := hfr ao n cap (by rw [← hq]; exact e) a ea
              intro h2
              have h3 := hown.lt a.block (by simpa using h2.symm)
              omega, by omega, by omega, by omega, hB⟩
            case measure => omega
          · have hz2 : f - (0 : Int) = 0 := by omega
            refine (law_sync_stops w0.heap.size _ _ _ u1 hd (by omega) hz2).mono ?_
            rintro e u2 ⟨rfl, hd2, uB⟩
            have hB := hB.trans uB
            have hbA := hbA.carry uB
            clear uB hd
            have hd := hd2
            have hok : Dk.ok ⟨20000, bs.length, bs ++ (([] : List Int)), true, true, 0⟩ := lit_ok2 (by omega) ⟨by omega, by omega⟩ (by omega) (by omega)
            go_wp2_with fail
            refine (within_walk keep 0 30 u2 (by omega) (by omega) (by omega)).mono ?_
            rintro e t0 ⟨rfl, rfl⟩
            have hkp := withinV_in keep 0 30 (by omega)
            generalize withinV keep 0 30 = kp at hkp ⊢
            go_wp2_with fail
            refine (boot_walk w0.heap.size _ kp t0 hd hok).mono ?_
            rintro e t1 ⟨rfl, td1, tB1⟩
            have hst := stayN_in hok kp
            obtain ⟨n, hn'⟩ : ∃ n : Nat, Dk.stayN ⟨20000, (bs.length : Int), bs ++ (([] : List Int)), true, true, 0⟩ kp = n := ⟨(Dk.stayN ⟨20000, (bs.length : Int), bs ++ (([] : List Int)), true, true, 0⟩ kp).toNat, by omega⟩
            rw [hn'] at hst
            have hnD : n ≤ (bs ++ (([] : List Int))).length := by have h : (n : Int) ≤ ((bs ++ (([] : List Int))).length : Int) := hst.2.2; omega
            have hnF : ((bs.length : Int) : Int) ≤ (n : Int) := hst.2.1
            have td1 : DiskAt t1 w0.heap.size ⟨20000, n, (bs ++ (([] : List Int))).take n, false, false, 0⟩ := by
              have h := td1
              unfold Dk.booted at h
              rw [hn'] at h
              exact h
            have hlen : ((bs ++ (([] : List Int))).take n).length = n := by rw [List.length_take]; omega
            have hlenA : ((bs ++ (([] : List Int))).take n).length = n := by rw [List.length_take]; omega
            have hbA := hbA.carry tB1
            have hB := hB.trans tB1
            have hnA' : (n : Int) ≤ ((bs ++ (([] : List Int))).length : Int) := by omega
            have hncA : n ≤ cA := by omega
            clear tB1 hd hok hst hn'
            go_wp2_with fail
            have cr := read_walk w0.heap.size _ t1 td1 (by dsimp only; omega)
            simp only [Bool.false_eq_true, if_false, hlen] at cr
            refine cr.mono ?_
            rintro e t2 ⟨aR, cR, rfl, hbR, hcR, bR⟩
            have td2 := td1.carry bR
            have hbA := hbA.carry (But.of_below bR)
            have hB := hB.trans (But.of_below bR)
            have cS := sameB_true w0.heap.size aR aA ((bs ++ (([] : List Int))).take n) ((bs ++ (([] : List Int))).take n) n cR cA t2 hbR (hbA.take n) (by rw [List.length_take]; omega) (by rw [List.length_take]; omega) ((rfl : (bs ++ (([] : List Int))).take n = (bs ++ (([] : List Int))).take n)) (by omega)
            clear td1 bR cr hbR hbA
            go_wp2_with fail
            refine cS.mono ?_
            rintro e t3 ⟨rfl, b3⟩
            have td3 := td2.carry b3
            have hB := hB.trans (But.of_below b3)
            clear td2 b3 cS
            go_wp2_with fail
            refine (firm_walk w0.heap.size _ t3 td3).mono ?_
            rintro e t4 ⟨rfl, rfl⟩
            go_wp2_with fail
            refine (off_walk w0.heap.size _ t4 td3).mono ?_
            rintro e t3 ⟨rfl, rfl⟩
            go_wp2_with fail
            refine (free_sync w0.heap.size _ _ t3 td3 (by omega)).mono ?_
            rintro e t5 ⟨rfl, td5, tB5⟩
            have hB := hB.trans tB5
            clear tB5 td3 td5
            go_wp2_with fail
            refine (runs_old t5).mono ?_
            rintro e t7 ⟨rfl, t77⟩
            go_wp2_with fail
            go_ret
            exact ⟨rfl, (Old.of_below (But.old (Below.refl _ _) hB (Nat.le_refl _))).trans t77⟩
        · exfalso; omega
      | some ad =>
        clear hno
        by_cases h20 : pl.length ≤ 20
        · have i20 : ¬ (20 < (pl.length : Int)) := by omega
          go_wp2_with fail
          go_quiet (fail)
          have hd := hd.dN nq
          have hB := hB.dN nq
          have hown : (wr.drewN nq).ownsRow (w0.heap.size + 1) 5 1 u8 bs.length (bytV bs) := hown
          have hal : ∀ ao n cap, (wr.drewN nq).cell? ⟨w0.heap.size, 2, none⟩ = some (.slice ao n cap) → ∀ a, ao = some a → some a.block ≠ u8.ownBlock := hal
          generalize wr.drewN nq = wq at hd hB hown hal ⊢
          clear hP hc1 hb0 hby
          have hbyB := hby0.carry hB
          have hnoB : (some ad) = none → pl = [] ∧ pc = 0 := (fun h => by cases h)
          have hbw : ∀ x ∈ bs ++ (pl), 0 ≤ x ∧ x ≤ 255 := fun x hx => by
            rcases List.mem_append.mp hx with hx | hx
            · obtain ⟨_, _, _, h, _⟩ := hd.c2
              exact h.wf x hx
            · exact hbyB.wf x hx
          have hlA : ((bs ++ (pl)).length : Int) = (bs.length : Int) + (pl.length : Int) := by rw [List.length_append, (rfl : pl.length = pl.length)]; omega
          have hlN : (bs ++ (pl)).length ≤ 200 := by omega
          have hlB : bs.length ≤ (bs ++ (pl)).length := by rw [List.length_append]; omega
          have hDl2 := hd.lt
          have hnews := byt_news0 hbyB
          have hone := byt_one (pl)
          have hll : (bytV (pl)).length = pl.length * 1 := by unfold bytV; rw [List.length_map, (rfl : pl.length = pl.length)]; try omega
          have hm1 : bs.length + pl.length ≤ maxLen := by unfold maxLen; omega
          have hm2 : (bs.length + pl.length) * 1 ≤ 140737488355328 := by omega
          have hs4 : w0.heap.size + 1 ≤ wq.heap.size := hd.lt
          go_wp2_with (at_builtin; refine wpList_append_own _ rfl _ _ 37 rfl _ 5 i0 (.int .u8 0) 1 1 Try.underlying37 hi hz0 hz1 hz2 rfl (by decide) _ _ _ rfl hown ad pl.length pc (bytV (pl)) rfl hll hnews hone hm1 hm2 hs4 ?_)
          intro v' wa hown' hg5 _
          have hd := hd.grown hg5 (fun j hj => by have := (hown.lt j hj).1; omega) hal
          have hB := hB.grown hg5 (fun j hj => by have := (hown.lt j hj).1; omega)
          have hown : wa.ownsRow (w0.heap.size + 1) 5 1 v' (bs ++ (pl)).length (bytV (bs ++ (pl))) := by
            rw [bytV_append, List.length_append, (rfl : pl.length = pl.length)]; exact hown'
          have hbyB := hby0.carry hB
          obtain ⟨aA, cA, rfl, hbA, hnA, hcA⟩ := own_byt (D := w0.heap.size) hown (by omega) hbw
          clear hown' hg5 hnews hone hll hal
          by_cases hg : ((pl.length : Int) : Int) ≤ f
          · have cw := keeps_goes w0.heap.size _ pc (some ad) (pl) bs.length f bs wa hd hok hbyB hnoB (rfl : pl.length = pl.length) hg (by omega)
            clear hd
            go_wp2_with fail
            refine cw.mono ?_
            rintro e u1 ⟨rfl, hd, uB, hfr⟩
            have hB := hB.trans uB
            have hownU := own_but hown uB (by omega)
            have hbA := hbA.carry uB
            clear uB cw
            go_wp2_with fail
            by_cases hz : 1 ≤ f - (pl.length : Int)
            · refine (keeps_sync w0.heap.size _ _ _ u1 hd (by omega) hz (by omega)).mono ?_
              rintro e u2 ⟨rfl, hd2, uB, hq⟩
              have hB := hB.trans uB
              have hown2 := own_but hownU uB (by omega)
              clear uB hd
              go_wp2_with fail
              go_roundg g
              case rel => exact ⟨k + 1, _, bs ++ (pl), by omega, by simp, by first | (rw [hlA]; done) | (rw [hlA]; simp), by simpa using hown2, hd2, fun ao n cap e a ea => by
                have h1 := hfr ao n cap (by rw [← hq]; exact e) a ea
                intro h2
                have h3 := hown.lt a.block (by simpa using h2.symm)
                omega, by omega, by omega, by omega, hB⟩
              case measure => omega
            · have hz2 : f - ((pl.length : Int) : Int) = 0 := by omega
              refine (law_sync_stops w0.heap.size _ _ _ u1 hd (by omega) hz2).mono ?_
              rintro e u2 ⟨rfl, hd2, uB⟩
              have hB := hB.trans uB
              have hbA := hbA.carry uB
              clear uB hd
              have hd := hd2
              have hok : Dk.ok ⟨20000, bs.length, bs ++ (pl), true, true, 0⟩ := lit_ok2 (by omega) ⟨by omega, by omega⟩ (by omega) (by omega)
              go_wp2_with fail
              refine (within_walk keep 0 30 u2 (by omega) (by omega) (by omega)).mono ?_
              rintro e t0 ⟨rfl, rfl⟩
              have hkp := withinV_in keep 0 30 (by omega)
              generalize withinV keep 0 30 = kp at hkp ⊢
              go_wp2_with fail
              refine (boot_walk w0.heap.size _ kp t0 hd hok).mono ?_
              rintro e t1 ⟨rfl, td1, tB1⟩
              have hst := stayN_in hok kp
              obtain ⟨n, hn'⟩ : ∃ n : Nat, Dk.stayN ⟨20000, (bs.length : Int), bs ++ (pl), true, true, 0⟩ kp = n := ⟨(Dk.stayN ⟨20000, (bs.length : Int), bs ++ (pl), true, true, 0⟩ kp).toNat, by omega⟩
              rw [hn'] at hst
              have hnD : n ≤ (bs ++ (pl)).length := by have h : (n : Int) ≤ ((bs ++ (pl)).length : Int) := hst.2.2; omega
              have hnF : ((bs.length : Int) : Int) ≤ (n : Int) := hst.2.1
              have td1 : DiskAt t1 w0.heap.size ⟨20000, n, (bs ++ (pl)).take n, false, false, 0⟩ := by
                have h := td1
                unfold Dk.booted at h
                rw [hn'] at h
                exact h
              have hlen : ((bs ++ (pl)).take n).length = n := by rw [List.length_take]; omega
              have hlenA : ((bs ++ (pl)).take n).length = n := by rw [List.length_take]; omega
              have hbA := hbA.carry tB1
              have hB := hB.trans tB1
              have hnA' : (n : Int) ≤ ((bs ++ (pl)).length : Int) := by omega
              have hncA : n ≤ cA := by omega
              clear tB1 hd hok hst hn'
              go_wp2_with fail
              have cr := read_walk w0.heap.size _ t1 td1 (by dsimp only; omega)
              simp only [Bool.false_eq_true, if_false, hlen] at cr
              refine cr.mono ?_
              rintro e t2 ⟨aR, cR, rfl, hbR, hcR, bR⟩
              have td2 := td1.carry bR
              have hbA := hbA.carry (But.of_below bR)
              have hB := hB.trans (But.of_below bR)
              have cS := sameB_true w0.heap.size aR aA ((bs ++ (pl)).take n) ((bs ++ (pl)).take n) n cR cA t2 hbR (hbA.take n) (by rw [List.length_take]; omega) (by rw [List.length_take]; omega) ((rfl : (bs ++ (pl)).take n = (bs ++ (pl)).take n)) (by omega)
              clear td1 bR cr hbR hbA
              go_wp2_with fail
              refine cS.mono ?_
              rintro e t3 ⟨rfl, b3⟩
              have td3 := td2.carry b3
              have hB := hB.trans (But.of_below b3)
              clear td2 b3 cS
              go_wp2_with fail
              refine (firm_walk w0.heap.size _ t3 td3).mono ?_
              rintro e t4 ⟨rfl, rfl⟩
              go_wp2_with fail
              refine (off_walk w0.heap.size _ t4 td3).mono ?_
              rintro e t3 ⟨rfl, rfl⟩
              go_wp2_with fail
              refine (free_sync w0.heap.size _ _ t3 td3 (by omega)).mono ?_
              rintro e t5 ⟨rfl, td5, tB5⟩
              have hB := hB.trans tB5
              clear tB5 td3 td5
              go_wp2_with fail
              refine (runs_old t5).mono ?_
              rintro e t7 ⟨rfl, t77⟩
              go_wp2_with fail
              go_ret
              exact ⟨rfl, (Old.of_below (But.old (Below.refl _ _) hB (Nat.le_refl _))).trans t77⟩
          · have cw := law_write_stops w0.heap.size _ pc (some ad) (pl) bs.length f bs wa hd hok hbyB hnoB (rfl : pl.length = pl.length) (by omega) (by omega)
            clear hd
            go_wp2_with fail
            refine cw.mono ?_
            rintro e u1 ⟨rfl, hd, uB⟩
            have hB := hB.trans uB
            have hbA := hbA.carry uB
            have hltk : (bs ++ (pl).take f.toNat).length ≤ (bs ++ (pl)).length := by rw [List.length_append, List.length_append, List.length_take]; omega
            have hok : Dk.ok ⟨20000, bs.length, bs ++ (pl).take f.toNat, true, true, 0⟩ := lit_ok2 (by omega) ⟨by omega, by rw [List.length_append]; omega⟩ (by omega) (by omega)
            clear uB cw
            go_wp2_with fail
            refine (within_walk keep 0 30 u1 (by omega) (by omega) (by omega)).mono ?_
            rintro e t0 ⟨rfl, rfl⟩
            have hkp := withinV_in keep 0 30 (by omega)
            generalize withinV keep 0 30 = kp at hkp ⊢
            go_wp2_with fail
            refine (boot_walk w0.heap.size _ kp t0 hd hok).mono ?_
            rintro e t1 ⟨rfl, td1, tB1⟩
            have hst := stayN_in hok kp
            obtain ⟨n, hn'⟩ : ∃ n : Nat, Dk.stayN ⟨20000, (bs.length : Int), bs ++ (pl).take f.toNat, true, true, 0⟩ kp = n := ⟨(Dk.stayN ⟨20000, (bs.length : Int), bs ++ (pl).take f.toNat, true, true, 0⟩ kp).toNat, by omega⟩
            rw [hn'] at hst
            have hnD : n ≤ (bs ++ (pl).take f.toNat).length := by have h : (n : Int) ≤ ((bs ++ (pl).take f.toNat).length : Int) := hst.2.2; omega
            have hnF : ((bs.length : Int) : Int) ≤ (n : Int) := hst.2.1
            have td1 : DiskAt t1 w0.heap.size ⟨20000, n, (bs ++ (pl).take f.toNat).take n, false, false, 0⟩ := by
              have h := td1
              unfold Dk.booted at h
              rw [hn'] at h
              exact h
            have hlen : ((bs ++ (pl).take f.toNat).take n).length = n := by rw [List.length_take]; omega
            have hlenA : ((bs ++ (pl)).take n).length = n := by rw [List.length_take]; omega
            have hbA := hbA.carry tB1
            have hB := hB.trans tB1
            have hnA' : (n : Int) ≤ ((bs ++ (pl)).length : Int) := by omega
            have hncA : n ≤ cA := by omega
            clear tB1 hd hok hst hn'
            go_wp2_with fail
            have cr := read_walk w0.heap.size _ t1 td1 (by dsimp only; omega)
            simp only [Bool.false_eq_true, if_false, hlen] at cr
            refine cr.mono ?_
            rintro e t2 ⟨aR, cR, rfl, hbR, hcR, bR⟩
            have td2 := td1.carry bR
            have hbA := hbA.carry (But.of_below bR)
            have hB := hB.trans (But.of_below bR)
            have cS := sameB_true w0.heap.size aR aA ((bs ++ (pl).take f.toNat).take n) ((bs ++ (pl)).take n) n cR cA t2 hbR (hbA.take n) (by rw [List.length_take]; omega) (by rw [List.length_take]; omega) (keep_take bs (pl) f.toNat n (by omega)) (by omega)
            clear td1 bR cr hbR hbA
            go_wp2_with fail
            refine cS.mono ?_
            rintro e t3 ⟨rfl, b3⟩
            have td3 := td2.carry b3
            have hB := hB.trans (But.of_below b3)
            clear td2 b3 cS
            go_wp2_with fail
            refine (firm_walk w0.heap.size _ t3 td3).mono ?_
            rintro e t4 ⟨rfl, rfl⟩
            go_wp2_with fail
            refine (off_walk w0.heap.size _ t4 td3).mono ?_
            rintro e t3 ⟨rfl, rfl⟩
            go_wp2_with fail
            refine (free_sync w0.heap.size _ _ t3 td3 (by omega)).mono ?_
            rintro e t5 ⟨rfl, td5, tB5⟩
            have hB := hB.trans tB5
            clear tB5 td3 td5
            go_wp2_with fail
            refine (runs_old t5).mono ?_
            rintro e t7 ⟨rfl, t77⟩
            go_wp2_with fail
            go_ret
            exact ⟨rfl, (Old.of_below (But.old (Below.refl _ _) hB (Nat.le_refl _))).trans t77⟩
        · have i20 : (20 < (pl.length : Int)) := by omega
          have h20e : (pl.take 20).length = 20 := by rw [List.length_take]; omega
          go_wp2_with fail
          go_quiet (fail)
          have hd := hd.dN nq
          have hB := hB.dN nq
          have hown : (wr.drewN nq).ownsRow (w0.heap.size + 1) 5 1 u8 bs.length (bytV bs) := hown
          have hal : ∀ ao n cap, (wr.drewN nq).cell? ⟨w0.heap.size, 2, none⟩ = some (.slice ao n cap) → ∀ a, ao = some a → some a.block ≠ u8.ownBlock := hal
          generalize wr.drewN nq = wq at hd hB hown hal ⊢
          clear hP hc1 hb0 hby
          have hbyB := (hby0.carry hB).take 20
          have hnoB : (some ad) = none → pl.take 20 = [] ∧ pc = 0 := (fun h => by cases h)
          have hbw : ∀ x ∈ bs ++ (pl.take 20), 0 ≤ x ∧ x ≤ 255 := fun x hx => by
            rcases List.mem_append.mp hx with hx | hx
            · obtain ⟨_, _, _, h, _⟩ := hd.c2
              exact h.wf x hx
            · exact hbyB.wf x hx
          have hlA : ((bs ++ (pl.take 20)).length : Int) = (bs.length : Int) + 20 := by rw [List.length_append, h20e]; omega
          have hlN : (bs ++ (pl.take 20)).length ≤ 200 := by omega
          have hlB : bs.length ≤ (bs ++ (pl.take 20)).length := by rw [List.length_append]; omega
          have hDl2 := hd.lt
          have hnews := byt_news0 hbyB
          have hone := byt_one (pl.take 20)
          have hll : (bytV (pl.take 20)).length = 20 * 1 := by unfold bytV; rw [List.length_map, h20e]; try omega
          have hm1 : bs.length + 20 ≤ maxLen := by unfold maxLen; omega
          have hm2 : (bs.length + 20) * 1 ≤ 140737488355328 := by omega
          have hs4 : w0.heap.size + 1 ≤ wq.heap.size := hd.lt
          go_wp2_with (at_builtin; refine wpList_append_own _ rfl _ _ 37 rfl _ 5 i0 (.int .u8 0) 1 1 Try.underlying37 hi hz0 hz1 hz2 rfl (by decide) _ _ _ rfl hown ad 20 pc (bytV (pl.take 20)) rfl hll hnews hone hm1 hm2 hs4 ?_)
          intro v' wa hown' hg5 _
          have hd := hd.grown hg5 (fun j hj => by have := (hown.lt j hj).1; omega) hal
          have hB := hB.grown hg5 (fun j hj => by have := (hown.lt j hj).1; omega)
          have hown : wa.ownsRow (w0.heap.size + 1) 5 1 v' (bs ++ (pl.take 20)).length (bytV (bs ++ (pl.take 20))) := by
            rw [bytV_append, List.length_append, h20e]; exact hown'
          have hbyB := (hby0.carry hB).take 20
          obtain ⟨aA, cA, rfl, hbA, hnA, hcA⟩ := own_byt (D := w0.heap.size) hown (by omega) hbw
          clear hown' hg5 hnews hone hll hal
          by_cases hg : (20 : Int) ≤ f
          · have cw := keeps_goes w0.heap.size _ pc (some ad) (pl.take 20) bs.length f bs wa hd hok hbyB hnoB h20e hg (by omega)
            clear hd
            go_wp2_with fail
            refine cw.mono ?_
            rintro e u1 ⟨rfl, hd, uB, hfr⟩
            have hB := hB.trans uB
            have hownU := own_but hown uB (by omega)
            have hbA := hbA.carry uB
            clear uB cw
            go_wp2_with fail
            by_cases hz : 1 ≤ f - 20
            · refine (keeps_sync w0.heap.size _ _ _ u1 hd (by omega) hz (by omega)).mono ?_
              rintro e u2 ⟨rfl, hd2, uB, hq⟩
              have hB := hB.trans uB
              have hown2 := own_but hownU uB (by omega)
              clear uB hd
              go_wp2_with fail
              go_roundg g
              case rel => exact ⟨k + 1, _, bs ++ (pl.take 20), by omega, by simp, by first | (rw [hlA]; done) | (rw [hlA]; simp), by simpa [show min 20 pl.length = 20 by omega] using hown2, hd2, fun ao n cap e a ea => by
                have h1 := hfr ao n cap (by rw [← hq]; exact e) a ea
                intro h2
                have h3 := hown.lt a.block (by simpa [show min 20 pl.length = 20 by omega] using h2.symm)
                omega, by omega, by omega, by omega, hB⟩
              case measure => omega
            · have hz2 : f - (20 : Int) = 0 := by omega
              refine (law_sync_stops w0.heap.size _ _ _ u1 hd (by omega) hz2).mono ?_
              rintro e u2 ⟨rfl, hd2, uB⟩
              have hB := hB.trans uB
              have hbA := hbA.carry uB
              clear uB hd
              have hd := hd2
              have hok : Dk.ok ⟨20000, bs.length, bs ++ (pl.take 20), true, true, 0⟩ := lit_ok2 (by omega) ⟨by omega, by omega⟩ (by omega) (by omega)
              go_wp2_with fail
              refine (within_walk keep 0 30 u2 (by omega) (by omega) (by omega)).mono ?_
              rintro e t0 ⟨rfl, rfl⟩
              have hkp := withinV_in keep 0 30 (by omega)
              generalize withinV keep 0 30 = kp at hkp ⊢
              go_wp2_with fail
              refine (boot_walk w0.heap.size _ kp t0 hd hok).mono ?_
              rintro e t1 ⟨rfl, td1, tB1⟩
              have hst := stayN_in hok kp
              obtain ⟨n, hn'⟩ : ∃ n : Nat, Dk.stayN ⟨20000, (bs.length : Int), bs ++ (pl.take 20), true, true, 0⟩ kp = n := ⟨(Dk.stayN ⟨20000, (bs.length : Int), bs ++ (pl.take 20), true, true, 0⟩ kp).toNat, by omega⟩
              rw [hn'] at hst
              have hnD : n ≤ (bs ++ (pl.take 20)).length := by have h : (n : Int) ≤ ((bs ++ (pl.take 20)).length : Int) := hst.2.2; omega
              have hnF : ((bs.length : Int) : Int) ≤ (n : Int) := hst.2.1
              have td1 : DiskAt t1 w0.heap.size ⟨20000, n, (bs ++ (pl.take 20)).take n, false, false, 0⟩ := by
                have h := td1
                unfold Dk.booted at h
                rw [hn'] at h
                exact h
              have hlen : ((bs ++ (pl.take 20)).take n).length = n := by rw [List.length_take]; omega
              have hlenA : ((bs ++ (pl.take 20)).take n).length = n := by rw [List.length_take]; omega
              have hbA := hbA.carry tB1
              have hB := hB.trans tB1
              have hnA' : (n : Int) ≤ ((bs ++ (pl.take 20)).length : Int) := by omega
              have hncA : n ≤ cA := by omega
              clear tB1 hd hok hst hn'
              go_wp2_with fail
              have cr := read_walk w0.heap.size _ t1 td1 (by dsimp only; omega)
              simp only [Bool.false_eq_true, if_false, hlen] at cr
              refine cr.mono ?_
              rintro e t2 ⟨aR, cR, rfl, hbR, hcR, bR⟩
              have td2 := td1.carry bR
              have hbA := hbA.carry (But.of_below bR)
              have hB := hB.trans (But.of_below bR)
              have cS := sameB_true w0.heap.size aR aA ((bs ++ (pl.take 20)).take n) ((bs ++ (pl.take 20)).take n) n cR cA t2 hbR (hbA.take n) (by rw [List.length_take]; omega) (by rw [List.length_take]; omega) ((rfl : (bs ++ (pl.take 20)).take n = (bs ++ (pl.take 20)).take n)) (by omega)
              clear td1 bR cr hbR hbA
              go_wp2_with fail
              refine cS.mono ?_
              rintro e t3 ⟨rfl, b3⟩
              have td3 := td2.carry b3
              have hB := hB.trans (But.of_below b3)
              clear td2 b3 cS
              go_wp2_with fail
              refine (firm_walk w0.heap.size _ t3 td3).mono ?_
              rintro e t4 ⟨rfl, rfl⟩
              go_wp2_with fail
              refine (off_walk w0.heap.size _ t4 td3).mono ?_
              rintro e t3 ⟨rfl, rfl⟩
              go_wp2_with fail
              refine (free_sync w0.heap.size _ _ t3 td3 (by omega)).mono ?_
              rintro e t5 ⟨rfl, td5, tB5⟩
              have hB := hB.trans tB5
              clear tB5 td3 td5
              go_wp2_with fail
              refine (runs_old t5).mono ?_
              rintro e t7 ⟨rfl, t77⟩
              go_wp2_with fail
              go_ret
              exact ⟨rfl, (Old.of_below (But.old (Below.refl _ _) hB (Nat.le_refl _))).trans t77⟩
          · have cw := law_write_stops w0.heap.size _ pc (some ad) (pl.take 20) bs.length f bs wa hd hok hbyB hnoB h20e (by omega) (by omega)
            clear hd
            go_wp2_with fail
            refine cw.mono ?_
            rintro e u1 ⟨rfl, hd, uB⟩
            have hB := hB.trans uB
            have hbA := hbA.carry uB
            have hltk : (bs ++ (pl.take 20).take f.toNat).length ≤ (bs ++ (pl.take 20)).length := by rw [List.length_append, List.length_append, List.length_take]; omega
            have hok : Dk.ok ⟨20000, bs.length, bs ++ (pl.take 20).take f.toNat, true, true, 0⟩ := lit_ok2 (by omega) ⟨by omega, by rw [List.length_append]; omega⟩ (by omega) (by omega)
            clear uB cw
            go_wp2_with fail
            refine (within_walk keep 0 30 u1 (by omega) (by omega) (by omega)).mono ?_
            rintro e t0 ⟨rfl, rfl⟩
            have hkp := withinV_in keep 0 30 (by omega)
            generalize withinV keep 0 30 = kp at hkp ⊢
            go_wp2_with fail
            refine (boot_walk w0.heap.size _ kp t0 hd hok).mono ?_
            rintro e t1 ⟨rfl, td1, tB1⟩
            have hst := stayN_in hok kp
            obtain ⟨n, hn'⟩ : ∃ n : Nat, Dk.stayN ⟨20000, (bs.length : Int), bs ++ (pl.take 20).take f.toNat, true, true, 0⟩ kp = n := ⟨(Dk.stayN ⟨20000, (bs.length : Int), bs ++ (pl.take 20).take f.toNat, true, true, 0⟩ kp).toNat, by omega⟩
            rw [hn'] at hst
            have hnD : n ≤ (bs ++ (pl.take 20).take f.toNat).length := by have h : (n : Int) ≤ ((bs ++ (pl.take 20).take f.toNat).length : Int) := hst.2.2; omega
            have hnF : ((bs.length : Int) : Int) ≤ (n : Int) := hst.2.1
            have td1 : DiskAt t1 w0.heap.size ⟨20000, n, (bs ++ (pl.take 20).take f.toNat).take n, false, false, 0⟩ := by
              have h := td1
              unfold Dk.booted at h
              rw [hn'] at h
              exact h
            have hlen : ((bs ++ (pl.take 20).take f.toNat).take n).length = n := by rw [List.length_take]; omega
            have hlenA : ((bs ++ (pl.take 20)).take n).length = n := by rw [List.length_take]; omega
            have hbA := hbA.carry tB1
            have hB := hB.trans tB1
            have hnA' : (n : Int) ≤ ((bs ++ (pl.take 20)).length : Int) := by omega
            have hncA : n ≤ cA := by omega
            clear tB1 hd hok hst hn'
            go_wp2_with fail
            have cr := read_walk w0.heap.size _ t1 td1 (by dsimp only; omega)
            simp only [Bool.false_eq_true, if_false, hlen] at cr
            refine cr.mono ?_
            rintro e t2 ⟨aR, cR, rfl, hbR, hcR, bR⟩
            have td2 := td1.carry bR
            have hbA := hbA.carry (But.of_below bR)
            have hB := hB.trans (But.of_below bR)
            have cS := sameB_true w0.heap.size aR aA ((bs ++ (pl.take 20).take f.toNat).take n) ((bs ++ (pl.take 20)).take n) n cR cA t2 hbR (hbA.take n) (by rw [List.length_take]; omega) (by rw [List.length_take]; omega) (keep_take bs (pl.take 20) f.toNat n (by omega)) (by omega)
            clear td1 bR cr hbR hbA
            go_wp2_with fail
            refine cS.mono ?_
            rintro e t3 ⟨rfl, b3⟩
            have td3 := td2.carry b3
            have hB := hB.trans (But.of_below b3)
            clear td2 b3 cS
            go_wp2_with fail
            refine (firm_walk w0.heap.size _ t3 td3).mono ?_
            rintro e t4 ⟨rfl, rfl⟩
            go_wp2_with fail
            refine (off_walk w0.heap.size _ t4 td3).mono ?_
            rintro e t3 ⟨rfl, rfl⟩
            go_wp2_with fail
            refine (free_sync w0.heap.size _ _ t3 td3 (by omega)).mono ?_
            rintro e t5 ⟨rfl, td5, tB5⟩
            have hB := hB.trans tB5
            clear tB5 td3 td5
            go_wp2_with fail
            refine (runs_old t5).mono ?_
            rintro e t7 ⟨rfl, t77⟩
            go_wp2_with fail
            go_ret
            exact ⟨rfl, (Old.of_below (But.old (Below.refl _ _) hB (Nat.le_refl _))).trans t77⟩

end Go.Proofs.Ytknpdigpendnjaa.disk
