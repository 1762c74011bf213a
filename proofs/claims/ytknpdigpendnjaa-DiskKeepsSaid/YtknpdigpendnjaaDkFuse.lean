/-
  DiskFuse: the law's own walk.
-/
import Derived.Test.YtknpdigpendnjaaDkBack
import Derived.Test.YtknpdigpendnjaaDkRuns
namespace Go.Proofs.Ytknpdigpendnjaa.disk
open Go Go.Proofs Go.RowKit Go.Proofs.Ytknpdigpendnjaa.AH
set_option maxRecDepth 10000

def withinV (n lo hi : Int) : Int := lo + (if n.tmod (hi - lo + 1) < 0 then n.tmod (hi - lo + 1) + hi - lo + 1 else n.tmod (hi - lo + 1))
theorem within_walk (n lo hi : Int) (w : World) (h0 : 0 ≤ lo) (h1 : lo ≤ hi) (h2 : hi ≤ 100000) :
    Calls Try.prog 18 #[.int .i64 n, .int .i64 lo, .int .i64 hi] w fun e w' => e = .returned (.int .i64 (withinV n lo hi)) ∧ w' = w := by
  have hlo : -(hi - lo + 1) < n.tmod (hi - lo + 1) := by
    have := Int.lt_tmod_of_pos n (show 0 < hi - lo + 1 by omega)
    exact this
  have hhi : n.tmod (hi - lo + 1) < hi - lo + 1 := Int.tmod_lt_of_pos n (by omega)
  go_enter Try.func18, Try.ntmps18
  go_wp2
  · have h : n.tmod (hi - lo + 1) < 0 := by assumption
    go_ret
    simp [withinV, h]
  · have h : ¬ n.tmod (hi - lo + 1) < 0 := by omega
    go_ret
    simp [withinV, h]
theorem withinV_in (n lo hi : Int) (h1 : lo ≤ hi) : lo ≤ withinV n lo hi ∧ withinV n lo hi ≤ hi := by
  have hlo : -(hi - lo + 1) < n.tmod (hi - lo + 1) := Int.lt_tmod_of_pos n (show 0 < hi - lo + 1 by omega)
  have hhi : n.tmod (hi - lo + 1) < hi - lo + 1 := Int.tmod_lt_of_pos n (by omega)
  unfold withinV
  split <;> omega

-- what the calls come to
theorem wrote_goes {fi f : Int} {bs B : List Int} (h : (B.length : Int) ≤ f) (hr : bs.length + B.length ≤ 20000) :
    Dk.writeE ⟨20000, fi, bs, false, true, f⟩ B = 0 ∧ Dk.wrote ⟨20000, fi, bs, false, true, f⟩ B = ⟨20000, fi, bs ++ B, false, true, f - B.length⟩ := by
  have h2 : ¬ ((20000 : Int) < (bs.length : Int) + B.length) := by omega
  refine ⟨by simp [Dk.writeE, Dk.burned, h, h2], ?_⟩
  simp [Dk.wrote, Dk.burned, Dk.burnN, h, h2]
theorem wrote_stops {fi f : Int} {bs B : List Int} (h : f < (B.length : Int)) (hr : bs.length + B.length ≤ 20000) :
    Dk.writeE ⟨20000, fi, bs, false, true, f⟩ B = 9 ∧ Dk.wrote ⟨20000, fi, bs, false, true, f⟩ B = ⟨20000, fi, bs ++ B.take f.toNat, true, true, 0⟩ := by
  have h2 : ¬ ((20000 : Int) < (bs.length : Int) + B.length) := by omega
  have h3 : ¬ ((B.length : Int) ≤ f) := by omega
  refine ⟨by simp [Dk.writeE, Dk.burned, h3, h2], ?_⟩
  simp [Dk.wrote, Dk.burned, Dk.burnN, h3, h2]
theorem sync_goes {fi f : Int} {bs : List Int} (h : 1 ≤ f) : Dk.syncE ⟨20000, fi, bs, false, true, f⟩ = 0 ∧ Dk.synced ⟨20000, fi, bs, false, true, f⟩ = ⟨20000, bs.length, bs, false, true, f - 1⟩ := by
  have h1 : Dk.oneB ⟨20000, fi, bs, false, true, f⟩ = true := by simp [Dk.oneB, Dk.burnN, h]
  have h2 : Dk.oned ⟨20000, fi, bs, false, true, f⟩ = ⟨20000, fi, bs, false, true, f - 1⟩ := by simp [Dk.oned, Dk.burned, h]
  exact ⟨by simp [Dk.syncE, h1], by simp [Dk.synced, h1, h2]⟩
theorem sync_stops {fi : Int} {bs : List Int} : Dk.syncE ⟨20000, fi, bs, false, true, 0⟩ = 9 ∧ Dk.synced ⟨20000, fi, bs, false, true, 0⟩ = ⟨20000, fi, bs, true, true, 0⟩ := by
  have h1 : Dk.oneB ⟨20000, fi, bs, false, true, 0⟩ = false := by simp [Dk.oneB, Dk.burnN]
  have h2 : Dk.oned ⟨20000, fi, bs, false, true, 0⟩ = ⟨20000, fi, bs, true, true, 0⟩ := by simp [Dk.oned, Dk.burned]
  exact ⟨by simp [Dk.syncE, h1], by simp [Dk.synced, h1, h2]⟩
theorem sync_free {fi f : Int} {bs : List Int} : Dk.syncE ⟨20000, fi, bs, false, false, f⟩ = 0 ∧ Dk.synced ⟨20000, fi, bs, false, false, f⟩ = ⟨20000, bs.length, bs, false, false, f⟩ := by
  obtain ⟨h1, h2⟩ := oneB_free (d := ⟨20000, fi, bs, false, false, f⟩) rfl rfl
  exact ⟨by simp [Dk.syncE, h1], by simp [Dk.synced, h1, h2]⟩
theorem boot_all {fi f : Int} {bs : List Int} {o l : Bool} (h : 0 ≤ fi ∧ fi ≤ bs.length) (hr : bs.length ≤ 20000) : Dk.booted ⟨20000, fi, bs, o, l, f⟩ 20000 = ⟨20000, bs.length, bs, false, false, 0⟩ := by
  have h1 : (bs.length : Int) - fi ≤ 20000 := by omega
  have h2 : Dk.stayN ⟨20000, fi, bs, o, l, f⟩ 20000 = bs.length := by simp [Dk.stayN, h1]; omega
  simp [Dk.booted, h2]
theorem write_free {fi f : Int} {bs B : List Int} (hr : bs.length + B.length ≤ 20000) :
    Dk.writeE ⟨20000, fi, bs, false, false, f⟩ B = 0 ∧ Dk.wrote ⟨20000, fi, bs, false, false, f⟩ B = ⟨20000, fi, bs ++ B, false, false, f⟩ := by
  have h2 : ¬ ((20000 : Int) < (bs.length : Int) + B.length) := by omega
  refine ⟨by simp [Dk.writeE, Dk.burned, h2], ?_⟩
  simp [Dk.wrote, Dk.burned, Dk.burnN, h2]

theorem Byt.alloc {D : Nat} {w : World} {ao : Option Addr} {l : List Int} (h : Byt D w ao l) (o : Obj) : Byt D (w.alloc o) ao l := h.carry (But.of_below ((Below.refl _ _).alloc (Nat.le_refl _) o))
/-- One list of bytes, handed on as a row of one. -/
theorem parts_one {D m cap : Nat} {w : World} {ao : Option Addr} {l : List Int} (h : Byt D w ao l) (hn : ao = none → l = [] ∧ cap = 0) (hm : l.length = m) (hD : D < w.heap.size) :
    Parts D (w.alloc (.cells #[.slice ao m cap] 37)) (some ⟨w.heap.size, 0, none⟩) [(ao, cap, l)] := by
  refine ⟨fun _ => ⟨w.heap.size, 0, rfl, by simp, by omega, fun i p hp => ?_⟩, fun p hp => ?_⟩
  · rw [Nat.zero_add, World.cell?_alloc_new]
    match i, hp with
    | 0, hp => cases hp; rw [hm]; rfl
  · rw [List.mem_singleton] at hp; subst hp
    exact ⟨h.alloc _, hn⟩
theorem byt_lit (D : Nat) (w : World) (x : Int) (hx : 0 ≤ x ∧ x ≤ 255) (hD : D < w.heap.size) : Byt D (w.alloc (.cells #[.int .u8 x] 5)) (some ⟨w.heap.size, 0, none⟩) [x] := by
  refine ⟨fun _ => ⟨w.heap.size, 0, rfl, by simp, by omega, fun i p hp => ?_⟩, fun p hp => ?_⟩
  · rw [Nat.zero_add, World.cell?_alloc_new]
    match i, hp with
    | 0, hp => cases hp; rfl
  · rw [List.mem_singleton] at hp; subst hp; exact hx
theorem free_ok {fi : Int} {bs : List Int} (hb : bs.length ≤ 20000) (hf : 0 ≤ fi ∧ fi ≤ bs.length) : Dk.ok ⟨20000, fi, bs, false, false, 0⟩ :=
  ⟨by dsimp only; omega, by dsimp only; omega, hf, fun h => by cases h⟩
theorem free_write (D bl : Nat) (po : Option Addr) (fi : Int) (bs : List Int) (w : World) (h : DiskAt w D ⟨20000, fi, bs, false, false, 0⟩) (hP : Parts D w (some ⟨bl, 0, none⟩) [(po, 1, [1])]) (hb : bs.length ≤ 19000) (hf : 0 ≤ fi ∧ fi ≤ bs.length) :
    Calls Try.prog 24 #[.pointer (some ⟨D, 0, none⟩), .slice (some ⟨bl, 0, none⟩) 1 1] w fun e w' => e = .returned (.int .i64 0) ∧ DiskAt w' D ⟨20000, fi, bs ++ [1], false, false, 0⟩ ∧ But D w w' := by
  have hc := write_walk D _ (some ⟨bl, 0, none⟩) [(po, 1, [1])] 1 w h (free_ok (by omega) hf) hP (by simp) (by simp [allB])
  have e : allB [(po, 1, [(1 : Int)])] = [1] := rfl
  have h2 := write_free (fi := fi) (f := 0) (bs := bs) (B := [1]) (by simp; omega)
  rw [e, h2.1, h2.2] at hc
  exact hc
theorem free_sync (D : Nat) (fi : Int) (bs : List Int) (w : World) (h : DiskAt w D ⟨20000, fi, bs, false, false, 0⟩) (hb : bs.length ≤ 20000) :
    Calls Try.prog 31 #[.pointer (some ⟨D, 0, none⟩)] w fun e w' => e = .returned (.int .i64 0) ∧ DiskAt w' D ⟨20000, bs.length, bs, false, false, 0⟩ ∧ But D w w' := by
  have e2 := (oneB_free (d := ⟨20000, fi, bs, false, false, 0⟩) rfl rfl).2
  have hc := sync_walk D _ w h (fun h => by cases h) (by rw [e2]; dsimp only; omega)
  rw [sync_free.1, sync_free.2] at hc
  exact hc

theorem lit_ok {fi f : Int} {bs : List Int} (hb : bs.length ≤ 20000) (hf : 0 ≤ fi ∧ fi ≤ bs.length) (h0 : 0 ≤ f) (h1 : f ≤ 100) {o : Bool} : Dk.ok ⟨20000, fi, bs, o, true, f⟩ :=
  ⟨by dsimp only; omega, by dsimp only; omega, hf, fun _ => by dsimp only; omega⟩
theorem law_write_goes (D m cap : Nat) (po : Option Addr) (B : List Int) (fi f : Int) (bs : List Int) (w : World) (h : DiskAt w D ⟨20000, fi, bs, false, true, f⟩) (hok : Dk.ok ⟨20000, fi, bs, false, true, f⟩) (hby : Byt D w po B) (hno : po = none → B = [] ∧ cap = 0) (hm : B.length = m) (hle : (m : Int) ≤ f) (hb : bs.length + m ≤ 20000) :
    Calls Try.prog 24 #[.pointer (some ⟨D, 0, none⟩), .slice (some ⟨w.heap.size, 0, none⟩) 1 1] (w.alloc (.cells #[.slice po m cap] 37)) fun e w' => e = .returned (.int .i64 0) ∧ DiskAt w' D ⟨20000, fi, bs ++ B, false, true, f - m⟩ ∧ But D w w' := by
  have hB := But.of_below (D := D) ((Below.refl w.heap.size w).alloc (Nat.le_refl _) (.cells #[.slice po m cap] 37))
  have hc := write_walk D _ _ [(po, cap, B)] 1 _ (h.carry ((Below.refl _ _).alloc (Nat.le_refl _) (.cells #[.slice po m cap] 37))) hok (parts_one hby hno hm h.lt) (by simp) (by simp [allB]; omega)
  have e : allB [(po, cap, B)] = B := by simp [allB]
  have h2 := wrote_goes (fi := fi) (f := f) (bs := bs) (B := B) (by omega) (by omega)
  rw [e, h2.1, h2.2, hm] at hc
  exact hc.mono fun e w' h => ⟨h.1, h.2.1, hB.trans h.2.2⟩
theorem law_write_stops (D m cap : Nat) (po : Option Addr) (B : List Int) (fi f : Int) (bs : List Int) (w : World) (h : DiskAt w D ⟨20000, fi, bs, false, true, f⟩) (hok : Dk.ok ⟨20000, fi, bs, false, true, f⟩) (hby : Byt D w po B) (hno : po = none → B = [] ∧ cap = 0) (hm : B.length = m) (hlt : f < (m : Int)) (hb : bs.length + m ≤ 20000) :
    Calls Try.prog 24 #[.pointer (some ⟨D, 0, none⟩), .slice (some ⟨w.heap.size, 0, none⟩) 1 1] (w.alloc (.cells #[.slice po m cap] 37)) fun e w' => e = .returned (.int .i64 9) ∧ DiskAt w' D ⟨20000, fi, bs ++ B.take f.toNat, true, true, 0⟩ ∧ But D w w' := by
  have hB := But.of_below (D := D) ((Below.refl w.heap.size w).alloc (Nat.le_refl _) (.cells #[.slice po m cap] 37))
  have hc := write_walk D _ _ [(po, cap, B)] 1 _ (h.carry ((Below.refl _ _).alloc (Nat.le_refl _) (.cells #[.slice po m cap] 37))) hok (parts_one hby hno hm h.lt) (by simp) (by simp [allB]; omega)
  have e : allB [(po, cap, B)] = B := by simp [allB]
  have h2 := wrote_stops (fi := fi) (f := f) (bs := bs) (B := B) (by omega) (by omega)
  rw [e, h2.1, h2.2] at hc
  exact hc.mono fun e w' h => ⟨h.1, h.2.1, hB.trans h.2.2⟩
theorem law_size (D : Nat) (fi f z : Int) (bs : List Int) (o l : Bool) (w : World) (h : DiskAt w D ⟨20000, fi, bs, o, l, f⟩) (hn : bs.length ≤ 1000000) (hz : (bs.length : Int) = z) :
    Calls Try.prog 25 #[.pointer (some ⟨D, 0, none⟩)] w fun e w' => e = .returned (.int .i64 z) ∧ w' = w := by
  subst hz; exact size_walk D _ w h hn
theorem law_sync_goes (D : Nat) (fi f : Int) (bs : List Int) (w : World) (h : DiskAt w D ⟨20000, fi, bs, false, true, f⟩) (hb : bs.length ≤ 20000) (h1 : 1 ≤ f) (h2 : f ≤ 100) :
    Calls Try.prog 31 #[.pointer (some ⟨D, 0, none⟩)] w fun e w' => e = .returned (.int .i64 0) ∧ DiskAt w' D ⟨20000, bs.length, bs, false, true, f - 1⟩ ∧ But D w w' := by
  have e2 : (Dk.oned ⟨20000, fi, bs, false, true, f⟩).bs = bs := by simp [Dk.oned, Dk.burned, h1]
  have hc := sync_walk D _ w h (fun _ => by dsimp only; omega) (by rw [e2]; omega)
  rw [(sync_goes h1).1, (sync_goes h1).2] at hc
  exact hc
theorem law_sync_stops (D : Nat) (fi f : Int) (bs : List Int) (w : World) (h : DiskAt w D ⟨20000, fi, bs, false, true, f⟩) (hb : bs.length ≤ 20000) (h1 : f = 0) :
    Calls Try.prog 31 #[.pointer (some ⟨D, 0, none⟩)] w fun e w' => e = .returned (.int .i64 9) ∧ DiskAt w' D ⟨20000, fi, bs, true, true, 0⟩ ∧ But D w w' := by
  subst h1
  have e2 : (Dk.oned ⟨20000, fi, bs, false, true, 0⟩).bs = bs := by simp [Dk.oned, Dk.burned]
  have hc := sync_walk D _ w h (fun _ => by dsimp only; omega) (by rw [e2]; omega)
  rw [sync_stops.1, sync_stops.2] at hc
  exact hc

/-- What came in: lists of bytes. -/
structure ArgParts (w : World) (ao : Option Addr) (ls : List (Option Addr × Nat × List Int)) : Prop where
  parts : ∀ D, w.heap.size ≤ D → Parts D w ao ls
  caps : ∀ p ∈ ls, p.2.2.length ≤ p.2.1 ∧ p.2.1 ≤ 9223372036854775807

set_option maxHeartbeats 20000000 in
theorem diskFuse_walk (ao : Option Addr) (ls : List (Option Addr × Nat × List Int)) (cap : Nat) (fuse : Int) (w0 : World) (hl : ArgParts w0 ao ls) (hn : ls.length ≤ 9223372036854775807) :
    Calls Try.prog 11 #[.slice ao ls.length cap, .int .i64 fuse] w0 fun e w' => e = .returned (.bool true) ∧ Old w0 w' := by
  go_enter Try.func11, Try.ntmps11
  go_wp2_with fail
  refine (new_walk 20000 w0 (by omega) (by omega)).mono ?_
  rintro e w1 ⟨rfl, hd, hb1⟩
  have hP := (hl.parts w0.heap.size (Nat.le_refl _)).carry (But.of_below hb1)
  have hDl := hd.lt
  go_wp2_with fail
  refine (within_walk fuse 0 80 w1 (by omega) (by omega) (by omega)).mono ?_
  rintro e w2 ⟨rfl, rfl⟩
  have hin := withinV_in fuse 0 80 (by omega)
  generalize withinV fuse 0 80 = f0 at hin ⊢
  go_wp2_with fail
  refine (arm_walk w0.heap.size _ f0 w2 hd).mono ?_
  rintro e w3 ⟨rfl, hd3, hB3⟩
  rw [decide_eq_true hin.1] at hd3
  have hB := (But.of_below (D := w0.heap.size) hb1).trans hB3
  have hP3g : Parts w0.heap.size w0 ao ls := hl.parts w0.heap.size (Nat.le_refl _)
  clear hd hP hB3 hb1
  go_wp2_with fail
  go_loopg [6, 7, 8] (min ls.length 12) (fun g lf sz i wr => ∃ (k : Nat) (fi f : Int) (bs : List Int), k + g = min ls.length 12 ∧ i = .int .i64 k ∧ lf = .int .i64 f ∧ sz = .int .i64 bs.length ∧ DiskAt wr w0.heap.size ⟨20000, fi, bs, false, true, f⟩ ∧ 0 ≤ f ∧ f ≤ 80 ∧ 0 ≤ fi ∧ fi ≤ bs.length ∧ bs.length ≤ 15 * k ∧ But w0.heap.size w0 wr)
  case atStart => exact ⟨0, 0, f0, [], by omega, rfl, rfl, rfl, hd3, hin.1, hin.2, by omega, by simp, by simp, hB⟩
  case round =>
    obtain ⟨k, fi, f, bs, hk, rfl, rfl, rfl, hd, hf0, hf80, hfi0, hfi1, hbs, hB⟩ := hrel
    cases gk with
    | zero =>
      have hok : Dk.ok ⟨20000, fi, bs, false, true, f⟩ := ⟨by dsimp only; omega, by dsimp only; omega, ⟨hfi0, hfi1⟩, fun _ => by dsimp only; omega⟩
      go_wp2_with fail
      all_goals
        refine (boot_walk w0.heap.size _ 20000 wr hd hok).mono ?_
        rintro e t1 ⟨rfl, td1, tB1⟩
        rw [boot_all (hok).firm (by have := (hok).bs; have := (hok).room; omega)] at td1
        have tl : bs.length ≤ 180 := by omega
        have hB := hB.trans tB1
        clear tB1
        generalize bs = tb at td1 tl ⊢
        go_wp2_with fail
        refine (size_walk w0.heap.size _ t1 td1 (by dsimp only; omega)).mono ?_
        rintro e t1' ⟨rfl, rfl⟩
        go_wp2_with fail
        refine (firm_walk w0.heap.size _ t1' td1).mono ?_
        rintro e t1 ⟨rfl, rfl⟩
        go_wp2_with fail
        refine (off_walk w0.heap.size _ t1 td1).mono ?_
        rintro e t1' ⟨rfl, rfl⟩
        go_wp2_with fail
        have tb1 := byt_lit w0.heap.size t1' 1 (by omega) td1.lt
        have ta := td1.carry ((Below.refl _ _).alloc (Nat.le_refl _) (.cells #[.int .u8 1] 5))
        have hB := hB.trans (But.of_below ((Below.refl _ _).alloc (Nat.le_refl _) (.cells #[.int .u8 1] 5)))
        have tsz : (t1'.alloc (.cells #[.int .u8 1] 5)).heap.size = t1'.heap.size + 1 := by simp
        generalize t1'.heap.size = bl at tb1 tsz ⊢
        generalize t1'.alloc (.cells #[.int .u8 1] 5) = t2 at tb1 ta hB tsz ⊢
        have tP := parts_one (cap := 1) tb1 (fun h => by cases h) (m := 1) rfl ta.lt
        have tc := ta.carry ((Below.refl _ _).alloc (Nat.le_refl _) (.cells #[.slice (some ⟨bl, 0, none⟩) 1 1] 37))
        have hB := hB.trans (But.of_below ((Below.refl _ _).alloc (Nat.le_refl _) (.cells #[.slice (some ⟨bl, 0, none⟩) 1 1] 37)))
        rw [tsz] at tP
        generalize t2.alloc (.cells #[.slice (some ⟨bl, 0, none⟩) 1 1] 37) = t3 at tP tc hB ⊢
        clear td1 ta tb1 tsz
        have cw := free_write w0.heap.size _ _ _ tb t3 tc tP (by omega) (by omega)
        refine cw.mono ?_
        rintro e t4 ⟨rfl, td4, tB4⟩
        have hB := hB.trans tB4
        clear tB4 tc tP cw
        go_wp2_with fail
        have cs := free_sync w0.heap.size _ _ t4 td4 (by simp; omega)
        refine cs.mono ?_
        rintro e t5 ⟨rfl, td5, tB5⟩
        have hB := hB.trans tB5
        clear tB5 td4 cs
        go_wp2_with fail
        refine (back_free w0.heap.size _ tb.length t5 td5 ⟨by dsimp only; omega, by simp; omega, by simp; omega, fun h => by cases h⟩ rfl rfl (by simp)).mono ?_
        rintro e t6 ⟨rfl, tB6⟩
        have hB := hB.trans tB6
        clear tB6 td5
        go_wp2_with fail
        refine (runs_old t6).mono ?_
        rintro e t7 ⟨rfl, t77⟩
        go_wp2_with fail
        go_ret
        exact ⟨rfl, (Old.of_below (But.old (Below.refl _ _) hB (Nat.le_refl _))).trans t77⟩
    | succ g =>
      obtain ⟨p, hp⟩ : ∃ p, ls[k]? = some p := ⟨ls[k]'(by omega), List.getElem?_eq_getElem _⟩
      have hkl : k < ls.length := by omega
      have hkl' : (k : Int) < (ls.length : Int) := by omega
      have hk12 : (k : Int) < 12 := by omega
      have hP := hP3g.carry hB
      obtain ⟨b0, off0, rfl, hb0, hbD, hcc⟩ := hP.lie (by intro e; subst e; simp at hkl)
      have hc1 := hcc k p hp
      obtain ⟨hby, hno⟩ := hP.each p (List.mem_of_getElem? hp)
      obtain ⟨hpc, hpc2⟩ := hl.caps p (List.mem_of_getElem? hp)
      obtain ⟨po, pc, pl⟩ := p
      simp only at hc1 hby hno hpc hpc2
      have hok : Dk.ok ⟨20000, fi, bs, false, true, f⟩ := ⟨by dsimp only; omega, by dsimp only; omega, ⟨hfi0, hfi1⟩, fun _ => by dsimp only; omega⟩
      have hDl := hd.lt
      clear hcc hp
      by_cases h15 : pl.length ≤ 15
      · have i15 : ¬ (15 < (pl.length : Int)) := by omega
        go_wp2_with fail
        go_quiet (fail)
        have hd := hd.dN nq
        have hB := hB.dN nq
        have hby := hby.dN nq
        generalize wr.drewN nq = wq at hd hB hby ⊢
        clear hP hc1 hb0
        by_cases hg : ((pl.length : Int) : Int) ≤ f
        · have hlen : ((bs ++ pl).length : Int) = (bs.length : Int) + (pl.length : Int) := by rw [List.length_append, (rfl : pl.length = pl.length)]; omega
          have hl2 : (bs ++ pl).length ≤ 180 := by omega
          have cw := law_write_goes w0.heap.size _ pc po (pl) fi f bs wq hd hok hby hno (rfl : pl.length = pl.length) hg (by omega)
          have hng : ¬ (f < ((pl.length : Int) : Int)) := by omega
          clear hd
          go_wp2_with fail
          refine cw.mono ?_
          rintro e u1 ⟨rfl, hd, uB⟩
          have hB := hB.trans uB
          clear uB cw
          go_wp2_with fail
          refine (law_size w0.heap.size _ _ _ _ _ _ u1 hd (by omega) hlen).mono ?_
          rintro e u2 ⟨rfl, rfl⟩
          go_wp2_with fail
          refine (off_walk w0.heap.size _ u2 hd).mono ?_
          rintro e u1 ⟨rfl, rfl⟩
          go_wp2_with fail
          by_cases hz : 1 ≤ f - (pl.length : Int)
          · have hz2 : (f - ((pl.length : Int) : Int) == 0) = false := by rw [beq_eq_false_iff_ne]; omega
            have hz3 : 0 < f - ((pl.length : Int) : Int) := by omega
            have hz5 : ((pl.length : Int) : Int) < f := by omega
            refine (law_sync_goes w0.heap.size _ _ _ u1 hd (by omega) hz (by omega)).mono ?_
            rintro e u2 ⟨rfl, hd2, uB⟩
            have hB := hB.trans uB
            clear uB hd
            go_wp2_with fail
            go_roundg g
            case rel => exact ⟨k + 1, _, _, bs ++ pl, by omega, by simp, rfl, by rw [hlen], hd2, by omega, by omega, by omega, Int.le_refl _, by omega, hB⟩
            case measure => omega
          · have hz2 : f - ((pl.length : Int) : Int) = 0 := by omega
            have hz3 : ¬ (0 < f - ((pl.length : Int) : Int)) := by omega
            refine (law_sync_stops w0.heap.size _ _ _ u1 hd (by omega) hz2).mono ?_
            rintro e u2 ⟨rfl, hd2, uB⟩
            have hB := hB.trans uB
            clear uB hd
            have hok2 : Dk.ok ⟨20000, fi, bs ++ pl, true, true, 0⟩ := lit_ok (by omega) ⟨hfi0, by omega⟩ (by omega) (by omega)
            go_wp2_with fail
            rw [← hlen]
            refine (boot_walk w0.heap.size _ 20000 u2 hd2 hok2).mono ?_
            rintro e t1 ⟨rfl, td1, tB1⟩
            rw [boot_all (hok2).firm (by have := (hok2).bs; have := (hok2).room; omega)] at td1
            have tl : (bs ++ pl).length ≤ 180 := by omega
            have hB := hB.trans tB1
            clear tB1
            generalize (bs ++ pl) = tb at td1 tl ⊢
            go_wp2_with fail
            refine (size_walk w0.heap.size _ t1 td1 (by dsimp only; omega)).mono ?_
            rintro e t1' ⟨rfl, rfl⟩
            go_wp2_with fail
            refine (firm_walk w0.heap.size _ t1' td1).mono ?_
            rintro e t1 ⟨rfl, rfl⟩
            go_wp2_with fail
            refine (off_walk w0.heap.size _ t1 td1).mono ?_
            rintro e t1' ⟨rfl, rfl⟩
            go_wp2_with fail
            have tb1 := byt_lit w0.heap.size t1' 1 (by omega) td1.lt
            have ta := td1.carry ((Below.refl _ _).alloc (Nat.le_refl _) (.cells #[.int .u8 1] 5))
            have hB := hB.trans (But.of_below ((Below.refl _ _).alloc (Nat.le_refl _) (.cells #[.int .u8 1] 5)))
            have tsz : (t1'.alloc (.cells #[.int .u8 1] 5)).heap.size = t1'.heap.size + 1 := by simp
            generalize t1'.heap.size = bl at tb1 tsz ⊢
            generalize t1'.alloc (.cells #[.int .u8 1] 5) = t2 at tb1 ta hB tsz ⊢
            have tP := parts_one (cap := 1) tb1 (fun h => by cases h) (m := 1) rfl ta.lt
            have tc := ta.carry ((Below.refl _ _).alloc (Nat.le_refl _) (.cells #[.slice (some ⟨bl, 0, none⟩) 1 1] 37))
            have hB := hB.trans (But.of_below ((Below.refl _ _).alloc (Nat.le_refl _) (.cells #[.slice (some ⟨bl, 0, none⟩) 1 1] 37)))
            rw [tsz] at tP
            generalize t2.alloc (.cells #[.slice (some ⟨bl, 0, none⟩) 1 1] 37) = t3 at tP tc hB ⊢
            clear td1 ta tb1 tsz
            have cw := free_write w0.heap.size _ _ _ tb t3 tc tP (by omega) (by omega)
            refine cw.mono ?_
            rintro e t4 ⟨rfl, td4, tB4⟩
            have hB := hB.trans tB4
            clear tB4 tc tP cw
            go_wp2_with fail
            have cs := free_sync w0.heap.size _ _ t4 td4 (by simp; omega)
            refine cs.mono ?_
            rintro e t5 ⟨rfl, td5, tB5⟩
            have hB := hB.trans tB5
            clear tB5 td4 cs
            go_wp2_with fail
            refine (back_free w0.heap.size _ tb.length t5 td5 ⟨by dsimp only; omega, by simp; omega, by simp; omega, fun h => by cases h⟩ rfl rfl (by simp)).mono ?_
            rintro e t6 ⟨rfl, tB6⟩
            have hB := hB.trans tB6
            clear tB6 td5
            go_wp2_with fail
            refine (runs_old t6).mono ?_
            rintro e t7 ⟨rfl, t77⟩
            go_wp2_with fail
            go_ret
            exact ⟨rfl, (Old.of_below (But.old (Below.refl _ _) hB (Nat.le_refl _))).trans t77⟩
        · have hlen : ((bs ++ (pl).take f.toNat).length : Int) = (bs.length : Int) + f := by rw [List.length_append, List.length_take, (rfl : pl.length = pl.length)]; omega
          have hl2 : (bs ++ (pl).take f.toNat).length ≤ 180 := by omega
          have cw := law_write_stops w0.heap.size _ pc po (pl) fi f bs wq hd hok hby hno (rfl : pl.length = pl.length) (by omega) (by omega)
          have hng : f < ((pl.length : Int) : Int) := by omega
          clear hd
          go_wp2_with fail
          refine cw.mono ?_
          rintro e u1 ⟨rfl, hd, uB⟩
          have hB := hB.trans uB
          clear uB cw
          go_wp2_with fail
          refine (law_size w0.heap.size _ _ _ _ _ _ u1 hd (by omega) hlen).mono ?_
          rintro e u2 ⟨rfl, rfl⟩
          go_wp2_with fail
          refine (off_walk w0.heap.size _ u2 hd).mono ?_
          rintro e u1 ⟨rfl, rfl⟩
          have hok2 : Dk.ok ⟨20000, fi, bs ++ (pl).take f.toNat, true, true, 0⟩ := lit_ok (by omega) ⟨hfi0, by omega⟩ (by omega) (by omega)
          go_wp2_with fail
          rw [← hlen]
          refine (boot_walk w0.heap.size _ 20000 u1 hd hok2).mono ?_
          rintro e t1 ⟨rfl, td1, tB1⟩
          rw [boot_all (hok2).firm (by have := (hok2).bs; have := (hok2).room; omega)] at td1
          have tl : (bs ++ (pl).take f.toNat).length ≤ 180 := by omega
          have hB := hB.trans tB1
          clear tB1
          generalize (bs ++ (pl).take f.toNat) = tb at td1 tl ⊢
          go_wp2_with fail
          refine (size_walk w0.heap.size _ t1 td1 (by dsimp only; omega)).mono ?_
          rintro e t1' ⟨rfl, rfl⟩
          go_wp2_with fail
          refine (firm_walk w0.heap.size _ t1' td1).mono ?_
          rintro e t1 ⟨rfl, rfl⟩
          go_wp2_with fail
          refine (off_walk w0.heap.size _ t1 td1).mono ?_
          rintro e t1' ⟨rfl, rfl⟩
          go_wp2_with fail
          have tb1 := byt_lit w0.heap.size t1' 1 (by omega) td1.lt
          have ta := td1.carry ((Below.refl _ _).alloc (Nat.le_refl _) (.cells #[.int .u8 1] 5))
          have hB := hB.trans (But.of_below ((Below.refl _ _).alloc (Nat.le_refl _) (.cells #[.int .u8 1] 5)))
          have tsz : (t1'.alloc (.cells #[.int .u8 1] 5)).heap.size = t1'.heap.size + 1 := by simp
          generalize t1'.heap.size = bl at tb1 tsz ⊢
          generalize t1'.alloc (.cells #[.int .u8 1] 5) = t2 at tb1 ta hB tsz ⊢
          have tP := parts_one (cap := 1) tb1 (fun h => by cases h) (m := 1) rfl ta.lt
          have tc := ta.carry ((Below.refl _ _).alloc (Nat.le_refl _) (.cells #[.slice (some ⟨bl, 0, none⟩) 1 1] 37))
          have hB := hB.trans (But.of_below ((Below.refl _ _).alloc (Nat.le_refl _) (.cells #[.slice (some ⟨bl, 0, none⟩) 1 1] 37)))
          rw [tsz] at tP
          generalize t2.alloc (.cells #[.slice (some ⟨bl, 0, none⟩) 1 1] 37) = t3 at tP tc hB ⊢
          clear td1 ta tb1 tsz
          have cw := free_write w0.heap.size _ _ _ tb t3 tc tP (by omega) (by omega)
          refine cw.mono ?_
          rintro e t4 ⟨rfl, td4, tB4⟩
          have hB := hB.trans tB4
          clear tB4 tc tP cw
          go_wp2_with fail
          have cs := free_sync w0.heap.size _ _ t4 td4 (by simp; omega)
          refine cs.mono ?_
          rintro e t5 ⟨rfl, td5, tB5⟩
          have hB := hB.trans tB5
          clear tB5 td4 cs
          go_wp2_with fail
          refine (back_free w0.heap.size _ tb.length t5 td5 ⟨by dsimp only; omega, by simp; omega, by simp; omega, fun h => by cases h⟩ rfl rfl (by simp)).mono ?_
          rintro e t6 ⟨rfl, tB6⟩
          have hB := hB.trans tB6
          clear tB6 td5
          go_wp2_with fail
          refine (runs_old t6).mono ?_
          rintro e t7 ⟨rfl, t77⟩
          go_wp2_with fail
          go_ret
          exact ⟨rfl, (Old.of_below (But.old (Below.refl _ _) hB (Nat.le_refl _))).trans t77⟩
      · have i15 : (15 < (pl.length : Int)) := by omega
        have h15e : (pl.take 15).length = 15 := by rw [List.length_take]; omega
        go_wp2_with fail
        go_quiet (fail)
        have hd := hd.dN nq
        have hB := hB.dN nq
        have hby := hby.dN nq
        generalize wr.drewN nq = wq at hd hB hby ⊢
        clear hP hc1 hb0
        by_cases hg : (15 : Int) ≤ f
        · have hlen : ((bs ++ pl.take 15).length : Int) = (bs.length : Int) + 15 := by rw [List.length_append, h15e]; omega
          have hl2 : (bs ++ pl.take 15).length ≤ 180 := by omega
          have cw := law_write_goes w0.heap.size _ pc po (pl.take 15) fi f bs wq hd hok (hby.take 15) (fun h => by obtain ⟨a, b⟩ := hno h; rw [a]; simp [b]) h15e hg (by omega)
          have hng : ¬ (f < (15 : Int)) := by omega
          clear hd
          go_wp2_with fail
          refine cw.mono ?_
          rintro e u1 ⟨rfl, hd, uB⟩
          have hB := hB.trans uB
          clear uB cw
          go_wp2_with fail
          refine (law_size w0.heap.size _ _ _ _ _ _ u1 hd (by omega) hlen).mono ?_
          rintro e u2 ⟨rfl, rfl⟩
          go_wp2_with fail
          refine (off_walk w0.heap.size _ u2 hd).mono ?_
          rintro e u1 ⟨rfl, rfl⟩
          go_wp2_with fail
          by_cases hz : 1 ≤ f - 15
          · have hz2 : (f - (15 : Int) == 0) = false := by rw [beq_eq_false_iff_ne]; omega
            have hz3 : 0 < f - (15 : Int) := by omega
            have hz5 : (15 : Int) < f := by omega
            refine (law_sync_goes w0.heap.size _ _ _ u1 hd (by omega) hz (by omega)).mono ?_
            rintro e u2 ⟨rfl, hd2, uB⟩
            have hB := hB.trans uB
            clear uB hd
            go_wp2_with fail
            go_roundg g
            case rel => exact ⟨k + 1, _, _, bs ++ pl.take 15, by omega, by simp, rfl, by rw [hlen], hd2, by omega, by omega, by omega, Int.le_refl _, by omega, hB⟩
            case measure => omega
          · have hz2 : f - (15 : Int) = 0 := by omega
            have hz3 : ¬ (0 < f - (15 : Int)) := by omega
            refine (law_sync_stops w0.heap.size _ _ _ u1 hd (by omega) hz2).mono ?_
            rintro e u2 ⟨rfl, hd2, uB⟩
            have hB := hB.trans uB
            clear uB hd
            have hok2 : Dk.ok ⟨20000, fi, bs ++ pl.take 15, true, true, 0⟩ := lit_ok (by omega) ⟨hfi0, by omega⟩ (by omega) (by omega)
            go_wp2_with fail
            rw [← hlen]
            refine (boot_walk w0.heap.size _ 20000 u2 hd2 hok2).mono ?_
            rintro e t1 ⟨rfl, td1, tB1⟩
            rw [boot_all (hok2).firm (by have := (hok2).bs; have := (hok2).room; omega)] at td1
            have tl : (bs ++ pl.take 15).length ≤ 180 := by omega
            have hB := hB.trans tB1
            clear tB1
            generalize (bs ++ pl.take 15) = tb at td1 tl ⊢
            go_wp2_with fail
            refine (size_walk w0.heap.size _ t1 td1 (by dsimp only; omega)).mono ?_
            rintro e t1' ⟨rfl, rfl⟩
            go_wp2_with fail
            refine (firm_walk w0.heap.size _ t1' td1).mono ?_
            rintro e t1 ⟨rfl, rfl⟩
            go_wp2_with fail
            refine (off_walk w0.heap.size _ t1 td1).mono ?_
            rintro e t1' ⟨rfl, rfl⟩
            go_wp2_with fail
            have tb1 := byt_lit w0.heap.size t1' 1 (by omega) td1.lt
            have ta := td1.carry ((Below.refl _ _).alloc (Nat.le_refl _) (.cells #[.int .u8 1] 5))
            have hB := hB.trans (But.of_below ((Below.refl _ _).alloc (Nat.le_refl _) (.cells #[.int .u8 1] 5)))
            have tsz : (t1'.alloc (.cells #[.int .u8 1] 5)).heap.size = t1'.heap.size + 1 := by simp
            generalize t1'.heap.size = bl at tb1 tsz ⊢
            generalize t1'.alloc (.cells #[.int .u8 1] 5) = t2 at tb1 ta hB tsz ⊢
            have tP := parts_one (cap := 1) tb1 (fun h => by cases h) (m := 1) rfl ta.lt
            have tc := ta.carry ((Below.refl _ _).alloc (Nat.le_refl _) (.cells #[.slice (some ⟨bl, 0, none⟩) 1 1] 37))
            have hB := hB.trans (But.of_below ((Below.refl _ _).alloc (Nat.le_refl _) (.cells #[.slice (some ⟨bl, 0, none⟩) 1 1] 37)))
            rw [tsz] at tP
            generalize t2.alloc (.cells #[.slice (some ⟨bl, 0, none⟩) 1 1] 37) = t3 at tP tc hB ⊢
            clear td1 ta tb1 tsz
            have cw := free_write w0.heap.size _ _ _ tb t3 tc tP (by omega) (by omega)
            refine cw.mono ?_
            rintro e t4 ⟨rfl, td4, tB4⟩
            have hB := hB.trans tB4
            clear tB4 tc tP cw
            go_wp2_with fail
            have cs := free_sync w0.heap.size _ _ t4 td4 (by simp; omega)
            refine cs.mono ?_
            rintro e t5 ⟨rfl, td5, tB5⟩
            have hB := hB.trans tB5
            clear tB5 td4 cs
            go_wp2_with fail
            refine (back_free w0.heap.size _ tb.length t5 td5 ⟨by dsimp only; omega, by simp; omega, by simp; omega, fun h => by cases h⟩ rfl rfl (by simp)).mono ?_
            rintro e t6 ⟨rfl, tB6⟩
            have hB := hB.trans tB6
            clear tB6 td5
            go_wp2_with fail
            refine (runs_old t6).mono ?_
            rintro e t7 ⟨rfl, t77⟩
            go_wp2_with fail
            go_ret
            exact ⟨rfl, (Old.of_below (But.old (Below.refl _ _) hB (Nat.le_refl _))).trans t77⟩
        · have hlen : ((bs ++ (pl.take 15).take f.toNat).length : Int) = (bs.length : Int) + f := by rw [List.length_append, List.length_take, h15e]; omega
          have hl2 : (bs ++ (pl.take 15).take f.toNat).length ≤ 180 := by omega
          have cw := law_write_stops w0.heap.size _ pc po (pl.take 15) fi f bs wq hd hok (hby.take 15) (fun h => by obtain ⟨a, b⟩ := hno h; rw [a]; simp [b]) h15e (by omega) (by omega)
          have hng : f < (15 : Int) := by omega
          clear hd
          go_wp2_with fail
          refine cw.mono ?_
          rintro e u1 ⟨rfl, hd, uB⟩
          have hB := hB.trans uB
          clear uB cw
          go_wp2_with fail
          refine (law_size w0.heap.size _ _ _ _ _ _ u1 hd (by omega) hlen).mono ?_
          rintro e u2 ⟨rfl, rfl⟩
          go_wp2_with fail
          refine (off_walk w0.heap.size _ u2 hd).mono ?_
          rintro e u1 ⟨rfl, rfl⟩
          have hok2 : Dk.ok ⟨20000, fi, bs ++ (pl.take 15).take f.toNat, true, true, 0⟩ := lit_ok (by omega) ⟨hfi0, by omega⟩ (by omega) (by omega)
          go_wp2_with fail
          rw [← hlen]
          refine (boot_walk w0.heap.size _ 20000 u1 hd hok2).mono ?_
          rintro e t1 ⟨rfl, td1, tB1⟩
          rw [boot_all (hok2).firm (by have := (hok2).bs; have := (hok2).room; omega)] at td1
          have tl : (bs ++ (pl.take 15).take f.toNat).length ≤ 180 := by omega
          have hB := hB.trans tB1
          clear tB1
          generalize (bs ++ (pl.take 15).take f.toNat) = tb at td1 tl ⊢
          go_wp2_with fail
          refine (size_walk w0.heap.size _ t1 td1 (by dsimp only; omega)).mono ?_
          rintro e t1' ⟨rfl, rfl⟩
          go_wp2_with fail
          refine (firm_walk w0.heap.size _ t1' td1).mono ?_
          rintro e t1 ⟨rfl, rfl⟩
          go_wp2_with fail
          refine (off_walk w0.heap.size _ t1 td1).mono ?_
          rintro e t1' ⟨rfl, rfl⟩
          go_wp2_with fail
          have tb1 := byt_lit w0.heap.size t1' 1 (by omega) td1.lt
          have ta := td1.carry ((Below.refl _ _).alloc (Nat.le_refl _) (.cells #[.int .u8 1] 5))
          have hB := hB.trans (But.of_below ((Below.refl _ _).alloc (Nat.le_refl _) (.cells #[.int .u8 1] 5)))
          have tsz : (t1'.alloc (.cells #[.int .u8 1] 5)).heap.size = t1'.heap.size + 1 := by simp
          generalize t1'.heap.size = bl at tb1 tsz ⊢
          generalize t1'.alloc (.cells #[.int .u8 1] 5) = t2 at tb1 ta hB tsz ⊢
          have tP := parts_one (cap := 1) tb1 (fun h => by cases h) (m := 1) rfl ta.lt
          have tc := ta.carry ((Below.refl _ _).alloc (Nat.le_refl _) (.cells #[.slice (some ⟨bl, 0, none⟩) 1 1] 37))
          have hB := hB.trans (But.of_below ((Below.refl _ _).alloc (Nat.le_refl _) (.cells #[.slice (some ⟨bl, 0, none⟩) 1 1] 37)))
          rw [tsz] at tP
          generalize t2.alloc (.cells #[.slice (some ⟨bl, 0, none⟩) 1 1] 37) = t3 at tP tc hB ⊢
          clear td1 ta tb1 tsz
          have cw := free_write w0.heap.size _ _ _ tb t3 tc tP (by omega) (by omega)
          refine cw.mono ?_
          rintro e t4 ⟨rfl, td4, tB4⟩
          have hB := hB.trans tB4
          clear tB4 tc tP cw
          go_wp2_with fail
          have cs := free_sync w0.heap.size _ _ t4 td4 (by simp; omega)
          refine cs.mono ?_
          rintro e t5 ⟨rfl, td5, tB5⟩
          have hB := hB.trans tB5
          clear tB5 td4 cs
          go_wp2_with fail
          refine (back_free w0.heap.size _ tb.length t5 td5 ⟨by dsimp only; omega, by simp; omega, by simp; omega, fun h => by cases h⟩ rfl rfl (by simp)).mono ?_
          rintro e t6 ⟨rfl, tB6⟩
          have hB := hB.trans tB6
          clear tB6 td5
          go_wp2_with fail
          refine (runs_old t6).mono ?_
          rintro e t7 ⟨rfl, t77⟩
          go_wp2_with fail
          go_ret
          exact ⟨rfl, (Old.of_below (But.old (Below.refl _ _) hB (Nat.le_refl _))).trans t77⟩

end Go.Proofs.Ytknpdigpendnjaa.disk
