/-
  SpanLaws: the law's own walk.
-/
import Derived.Test.YtlejcjgbkbmdmaaSpSets
import Derived.Test.YtlejcjgbkbmdmaaAhOld
namespace Go.Proofs.Ytlejcjgbkbmdmaa.span
open Go Go.Proofs Go.RowKit Go.Proofs.Ytlejcjgbkbmdmaa.AH
set_option maxRecDepth 10000

theorem mixed : Try.prog.follows .mixedOrders = true := by kernel_rfl
theorem runs_run : isTrue (callF Try.prog (regionF Try.prog) 100000 3 [] (AHeap.init 0)) = true := by kernel_rfl

theorem lastOf_take : ∀ (l : List (Int × Int)) (k : Nat) (o : Option Int), k < l.length → lastOf (l.take (k + 1)) o = (l[k]?).map (·.2)
  | [], k, o, h => by simp at h
  | p :: l, 0, o, _ => by simp [lastOf]
  | p :: l, k + 1, o, h => by
    simp only [List.take_succ_cons, lastOf, List.getElem?_cons_succ]
    exact lastOf_take l k _ (by simpa using h)
theorem rightL_in : ∀ (l : List (Int × Int)) (o : Option Int), rightL l o = true → ∀ p ∈ l, 0 ≤ p.1 ∧ p.1 ≤ p.2 ∧ p.2 < 200
  | [], _, _, p, hp => by cases hp
  | q :: l, o, h, p, hp => by
    simp only [rightL, Bool.and_eq_true] at h
    rcases List.mem_cons.mp hp with rfl | hp
    · have := h.1
      unfold badP at this
      simp only [Bool.not_eq_true', Bool.or_eq_false_iff, decide_eq_false_iff_not] at this
      omega
    · exact rightL_in l _ h.2 p hp
theorem rightL_take {l : List (Int × Int)} {k : Nat} {p : Int × Int} (hp : l[k]? = some p) : rightL (l.take (k + 1)) none = (rightL (l.take k) none && !badP p (lastE l k)) := by
  have hk := (List.getElem?_eq_some_iff.mp hp).1
  rw [List.take_add_one, hp]
  show rightL (l.take k ++ [p]) none = _
  rw [rightL_snoc]
  congr 2
  cases k with
  | zero => rfl
  | succ j => rw [lastOf_take l j none (by omega)]; rfl
theorem Spn.take {w : World} {ao : Option Addr} {l : List (Int × Int)} (h : Spn w ao l) (n : Nat) : Spn w ao (l.take n) := by
  refine ⟨fun hl => ?_, fun p hp => h.wf p (List.mem_of_mem_take hp)⟩
  obtain ⟨b, off, e, hB, hc⟩ := h.lie (by intro e; rw [e] at hl; simp at hl)
  refine ⟨b, off, e, hB, fun i p hp => hc i p ?_⟩
  rw [List.getElem?_take] at hp
  split at hp
  · exact hp
  · cases hp
theorem runs_old (w : World) : Calls Try.prog 3 #[] w fun e w' => e = .returned (.bool true) ∧ Old w w' := closed_old mixed Try.func3 (by kernel_rfl) rfl runs_run w

set_option maxHeartbeats 100000000 in
theorem laws_walk (ao bo co ro : Option Addr) (la lb lc : List Int) (lr : List (Int × Int)) (ca cb cc cr : Nat) (w : World) (ha : Nums w ao la) (hbn : Nums w bo lb) (hc : Nums w co lc) (hr : Spn w ro lr)
    (hal : la.length ≤ 9223372036854775807) (hbnl : lb.length ≤ 9223372036854775807) (hcl : lc.length ≤ 9223372036854775807) (hrl : lr.length ≤ cr) (hcr : cr ≤ 9223372036854775807) :
    Calls Try.prog 4 #[.slice ao la.length ca, .slice bo lb.length cb, .slice co lc.length cc, .slice ro lr.length cr] w fun e w' => e = .returned (.bool true) ∧ Old w w' := by
  go_enter Try.func4, Try.ntmps4
  go_wp2_with fail
  have hb := Below.refl w.heap.size w
  refine (flagsS ha hal).mono ?_
  rintro e w1 ⟨o1, c1, rfl, _, sx, b1⟩
  generalize flagsT la = tx at sx ⊢
  have ha := ha.carry b1
  have hbn := hbn.carry b1
  have hc := hc.carry b1
  have hr := hr.carry b1
  have hb := hb.trans (b1.mono hb.size)
  clear b1
  go_wp2_with fail
  refine (flagsS hbn hbnl).mono ?_
  rintro e w2 ⟨o2, c2, rfl, _, sy, b2⟩
  generalize flagsT lb = ty at sy ⊢
  have ha := ha.carry b2
  have hbn := hbn.carry b2
  have hc := hc.carry b2
  have hr := hr.carry b2
  have sx := sx.carry b2
  have hb := hb.trans (b2.mono hb.size)
  clear b2
  go_wp2_with fail
  refine (flagsS hc hcl).mono ?_
  rintro e w3 ⟨o3, c3, rfl, _, sz, b3⟩
  generalize flagsT lc = tz at sz ⊢
  have ha := ha.carry b3
  have hbn := hbn.carry b3
  have hc := hc.carry b3
  have hr := hr.carry b3
  have sx := sx.carry b3
  have sy := sy.carry b3
  have hb := hb.trans (b3.mono hb.size)
  clear b3
  go_wp2_with fail
  clear ha hbn hc
  refine (join3S sx sy sz).mono ?_
  rintro e w4 ⟨o4, c4, rfl, sj, b4⟩
  have sx := sx.carry b4
  have sy := sy.carry b4
  have sz := sz.carry b4
  have hr := hr.carry b4
  have hb := hb.trans (b4.mono hb.size)
  clear b4
  go_wp2_with fail
  refine (join2S sy sx).mono ?_
  rintro e w5 ⟨o5, c5, rfl, r1, b5⟩
  have sx := sx.carry b5
  have sy := sy.carry b5
  have sz := sz.carry b5
  have hr := hr.carry b5
  have sj := sj.carry b5
  have hb := hb.trans (b5.mono hb.size)
  clear b5
  go_wp2_with fail
  refine (join2S sz r1).mono ?_
  rintro e w6 ⟨o6, c6, rfl, r2, b6⟩
  have sx := sx.carry b6
  have sy := sy.carry b6
  have sz := sz.carry b6
  have hr := hr.carry b6
  have sj := sj.carry b6
  have r1 := r1.carry b6
  have hb := hb.trans (b6.mono hb.size)
  clear b6
  go_wp2_with fail
  refine (sameS sj r2 (fun k _ => by simp only [orT, andT, lessT]; cases tx k <;> cases ty k <;> cases tz k <;> rfl)).mono ?_
  rintro e w7 ⟨rfl, b7⟩
  have sx := sx.carry b7
  have sy := sy.carry b7
  have sz := sz.carry b7
  have hr := hr.carry b7
  have sj := sj.carry b7
  have r1 := r1.carry b7
  have r2 := r2.carry b7
  have hb := hb.trans (b7.mono hb.size)
  clear b7
  go_wp2_with fail
  clear r1 r2
  refine (bothS sx sy).mono ?_
  rintro e w8 ⟨o8, c8, rfl, r3, b8⟩
  have sx := sx.carry b8
  have sy := sy.carry b8
  have sz := sz.carry b8
  have hr := hr.carry b8
  have sj := sj.carry b8
  have hb := hb.trans (b8.mono hb.size)
  clear b8
  go_wp2_with fail
  refine (bothS sy sx).mono ?_
  rintro e w9 ⟨o9, c9, rfl, r4, b9⟩
  have sx := sx.carry b9
  have sy := sy.carry b9
  have sz := sz.carry b9
  have hr := hr.carry b9
  have sj := sj.carry b9
  have r3 := r3.carry b9
  have hb := hb.trans (b9.mono hb.size)
  clear b9
  go_wp2_with fail
  refine (sameS r3 r4 (fun k _ => by simp only [orT, andT, lessT]; cases tx k <;> cases ty k <;> cases tz k <;> rfl)).mono ?_
  rintro e w10 ⟨rfl, b10⟩
  have sx := sx.carry b10
  have sy := sy.carry b10
  have sz := sz.carry b10
  have hr := hr.carry b10
  have sj := sj.carry b10
  have r3 := r3.carry b10
  have r4 := r4.carry b10
  have hb := hb.trans (b10.mono hb.size)
  clear b10
  go_wp2_with fail
  clear r3 r4
  refine (bothS sx sy).mono ?_
  rintro e w11 ⟨o11, c11, rfl, r5, b11⟩
  have sx := sx.carry b11
  have sy := sy.carry b11
  have sz := sz.carry b11
  have hr := hr.carry b11
  have sj := sj.carry b11
  have hb := hb.trans (b11.mono hb.size)
  clear b11
  go_wp2_with fail
  refine (lessS sx sy).mono ?_
  rintro e w12 ⟨o12, c12, rfl, r6, b12⟩
  have sx := sx.carry b12
  have sy := sy.carry b12
  have sz := sz.carry b12
  have hr := hr.carry b12
  have sj := sj.carry b12
  have r5 := r5.carry b12
  have hb := hb.trans (b12.mono hb.size)
  clear b12
  go_wp2_with fail
  refine (join2S r5 r6).mono ?_
  rintro e w13 ⟨o13, c13, rfl, r7, b13⟩
  have sx := sx.carry b13
  have sy := sy.carry b13
  have sz := sz.carry b13
  have hr := hr.carry b13
  have sj := sj.carry b13
  have r5 := r5.carry b13
  have r6 := r6.carry b13
  have hb := hb.trans (b13.mono hb.size)
  clear b13
  go_wp2_with fail
  refine (sameS r7 sx (fun k _ => by simp only [orT, andT, lessT]; cases tx k <;> cases ty k <;> cases tz k <;> rfl)).mono ?_
  rintro e w14 ⟨rfl, b14⟩
  have sx := sx.carry b14
  have sy := sy.carry b14
  have sz := sz.carry b14
  have hr := hr.carry b14
  have sj := sj.carry b14
  have r5 := r5.carry b14
  have r6 := r6.carry b14
  have r7 := r7.carry b14
  have hb := hb.trans (b14.mono hb.size)
  clear b14
  go_wp2_with fail
  clear r5 r6 r7
  refine (lessS sx sy).mono ?_
  rintro e w15 ⟨o15, c15, rfl, r8, b15⟩
  have sx := sx.carry b15
  have sy := sy.carry b15
  have sz := sz.carry b15
  have hr := hr.carry b15
  have sj := sj.carry b15
  have hb := hb.trans (b15.mono hb.size)
  clear b15
  go_wp2_with fail
  refine (bothS r8 sy).mono ?_
  rintro e w16 ⟨o16, c16, rfl, r9, b16⟩
  have sx := sx.carry b16
  have sy := sy.carry b16
  have sz := sz.carry b16
  have hr := hr.carry b16
  have sj := sj.carry b16
  have r8 := r8.carry b16
  have hb := hb.trans (b16.mono hb.size)
  clear b16
  have e9 : S (andT (lessT tx ty) ty) = [] := S_nil (fun k _ => by simp only [andT, lessT]; cases tx k <;> cases ty k <;> rfl)
  rw [e9]
  clear e9
  clear r8 r9
  go_wp2_with fail
  refine (join2S sy sz).mono ?_
  rintro e w17 ⟨o17, c17, rfl, r10, b17⟩
  have sx := sx.carry b17
  have sy := sy.carry b17
  have sz := sz.carry b17
  have hr := hr.carry b17
  have sj := sj.carry b17
  have hb := hb.trans (b17.mono hb.size)
  clear b17
  go_wp2_with fail
  refine (lessS sx r10).mono ?_
  rintro e w18 ⟨o18, c18, rfl, r11, b18⟩
  have sx := sx.carry b18
  have sy := sy.carry b18
  have sz := sz.carry b18
  have hr := hr.carry b18
  have sj := sj.carry b18
  have r10 := r10.carry b18
  have hb := hb.trans (b18.mono hb.size)
  clear b18
  go_wp2_with fail
  refine (lessS sx sy).mono ?_
  rintro e w19 ⟨o19, c19, rfl, r12, b19⟩
  have sx := sx.carry b19
  have sy := sy.carry b19
  have sz := sz.carry b19
  have hr := hr.carry b19
  have sj := sj.carry b19
  have r10 := r10.carry b19
  have r11 := r11.carry b19
  have hb := hb.trans (b19.mono hb.size)
  clear b19
  go_wp2_with fail
  refine (lessS r12 sz).mono ?_
  rintro e w20 ⟨o20, c20, rfl, r13, b20⟩
  have sx := sx.carry b20
  have sy := sy.carry b20
  have sz := sz.carry b20
  have hr := hr.carry b20
  have sj := sj.carry b20
  have r10 := r10.carry b20
  have r11 := r11.carry b20
  have r12 := r12.carry b20
  have hb := hb.trans (b20.mono hb.size)
  clear b20
  go_wp2_with fail
  refine (sameS r11 r13 (fun k _ => by simp only [orT, andT, lessT]; cases tx k <;> cases ty k <;> cases tz k <;> rfl)).mono ?_
  rintro e w21 ⟨rfl, b21⟩
  have sx := sx.carry b21
  have sy := sy.carry b21
  have sz := sz.carry b21
  have hr := hr.carry b21
  have sj := sj.carry b21
  have r10 := r10.carry b21
  have r11 := r11.carry b21
  have r12 := r12.carry b21
  have r13 := r13.carry b21
  have hb := hb.trans (b21.mono hb.size)
  clear b21
  go_wp2_with fail
  clear r10 r11 r12 r13
  refine (rightS sj).mono ?_
  rintro e w22 ⟨rfl, b22⟩
  have sx := sx.carry b22
  have sy := sy.carry b22
  have sz := sz.carry b22
  have hr := hr.carry b22
  have sj := sj.carry b22
  have hb := hb.trans (b22.mono hb.size)
  clear b22
  go_wp2_with fail
  refine (bothS sx sz).mono ?_
  rintro e w23 ⟨o23, c23, rfl, r14, b23⟩
  have sx := sx.carry b23
  have sy := sy.carry b23
  have sz := sz.carry b23
  have hr := hr.carry b23
  have sj := sj.carry b23
  have hb := hb.trans (b23.mono hb.size)
  clear b23
  go_wp2_with fail
  refine (rightS r14).mono ?_
  rintro e w24 ⟨rfl, b24⟩
  have sx := sx.carry b24
  have sy := sy.carry b24
  have sz := sz.carry b24
  have hr := hr.carry b24
  have sj := sj.carry b24
  have r14 := r14.carry b24
  have hb := hb.trans (b24.mono hb.size)
  clear b24
  go_wp2_with fail
  clear r14
  refine (lessS sx sz).mono ?_
  rintro e w25 ⟨o25, c25, rfl, r15, b25⟩
  have sx := sx.carry b25
  have sy := sy.carry b25
  have sz := sz.carry b25
  have hr := hr.carry b25
  have sj := sj.carry b25
  have hb := hb.trans (b25.mono hb.size)
  clear b25
  go_wp2_with fail
  refine (rightS r15).mono ?_
  rintro e w26 ⟨rfl, b26⟩
  have sx := sx.carry b26
  have sy := sy.carry b26
  have sz := sz.carry b26
  have hr := hr.carry b26
  have sj := sj.carry b26
  have r15 := r15.carry b26
  have hb := hb.trans (b26.mono hb.size)
  clear b26
  go_wp2_with fail
  clear r15
  refine (join2S sx sx).mono ?_
  rintro e w27 ⟨o27, c27, rfl, r16, b27⟩
  have sx := sx.carry b27
  have sy := sy.carry b27
  have sz := sz.carry b27
  have hr := hr.carry b27
  have sj := sj.carry b27
  have hb := hb.trans (b27.mono hb.size)
  clear b27
  go_wp2_with fail
  refine (sameS r16 sx (fun k _ => by simp only [orT, andT, lessT]; cases tx k <;> cases ty k <;> cases tz k <;> rfl)).mono ?_
  rintro e w28 ⟨rfl, b28⟩
  have sx := sx.carry b28
  have sy := sy.carry b28
  have sz := sz.carry b28
  have hr := hr.carry b28
  have sj := sj.carry b28
  have r16 := r16.carry b28
  have hb := hb.trans (b28.mono hb.size)
  clear b28
  go_wp2_with fail
  clear r16
  refine (lessS sx sx).mono ?_
  rintro e w29 ⟨o29, c29, rfl, r17, b29⟩
  have sx := sx.carry b29
  have sy := sy.carry b29
  have sz := sz.carry b29
  have hr := hr.carry b29
  have sj := sj.carry b29
  have hb := hb.trans (b29.mono hb.size)
  clear b29
  have e17 : S (lessT tx tx) = [] := S_nil (fun k _ => by simp only [lessT]; cases tx k <;> rfl)
  rw [e17]
  clear e17
  clear r17
  go_wp2_with fail
  refine (join0S).mono ?_
  rintro e w30 ⟨o30, c30, rfl, r18, b30⟩
  have sx := sx.carry b30
  have sy := sy.carry b30
  have sz := sz.carry b30
  have hr := hr.carry b30
  have sj := sj.carry b30
  have hb := hb.trans (b30.mono hb.size)
  clear b30
  have e18 : S (fun _ => false) = [] := S_nil (fun _ _ => rfl)
  rw [e18]
  clear e18
  clear r18 sx sy sz sj
  go_upto_region 9 with (fail)
  go_cut [16] (fun o wx => o = .slice ro (min lr.length 6) cr ∧ wx = w30)
  case first =>
    go_wp2_with fail
    · have hm : min lr.length 6 = 6 := by omega
      go_meet
      case rel => exact ⟨by rw [hm], rfl⟩
    · have hm : min lr.length 6 = lr.length := by omega
      go_meet
      case rel => exact ⟨by rw [hm], rfl⟩
  case rest =>
    obtain ⟨rfl, rfl⟩ := hcut
    obtain ⟨lo, hlo⟩ : ∃ lo, lo = lr.take (min lr.length 6) := ⟨_, rfl⟩
    have hlen : lo.length = min lr.length 6 := by rw [hlo, List.length_take]; omega
    have hs : Spn wc ro lo := by rw [hlo]; exact hr.take _
    rw [← hlen]
    have hl6 : lo.length ≤ 6 := by omega
    have hlc : lo.length ≤ cr := by omega
    clear hlo hr hlen hrl
    go_wp2_with fail
    go_loopg [17, 142] lo.length (fun g r i wr => ∃ k : Nat, k + g = lo.length ∧ i = .int .i64 k ∧ r = .bool (rightL (lo.take k) none) ∧ Below wc.heap.size wc wr)
    case atStart => exact ⟨0, by omega, rfl, rfl, Below.refl _ _⟩
    case round =>
      obtain ⟨k, hk, rfl, rfl, hbw⟩ := hrel
      have hs2 := hs.carry hbw
      cases gk with
      | zero =>
        have : k = lo.length := by omega
        subst this
        rw [List.take_length]
        go_wp2_with fail
        refine (right_walk ro lo cr wr hs2 (by omega)).mono ?_
        rintro e w20 ⟨rfl, b20⟩
        go_wp2_with fail
        refine (runs_old w20).mono ?_
        rintro e w21 ⟨rfl, b21⟩
        go_wp2_with fail
        go_ret
        exact ⟨rfl, (Old.of_below ((hb.trans (hbw.mono hb.size)).trans (b20.mono (Nat.le_trans hb.size hbw.size)))).trans b21⟩
      | succ g =>
        have hkl : k < lo.length := by omega
        obtain ⟨p, hp⟩ : ∃ p, lo[k]? = some p := ⟨lo[k]'(by omega), List.getElem?_eq_getElem _⟩
        obtain ⟨b, off, rfl, hB, hcc⟩ := hs2.lie (by intro e; subst e; simp at hkl)
        obtain ⟨hc1, hc2⟩ := hcc k p hp
        have hw := hs.wf p (List.mem_of_getElem? hp)
        have hst := rightL_take hp
        have hkl' : (k : Int) < (lo.length : Int) := by omega
        have hkc : k < cr := by omega
        have HC : Hid (∀ i p, lo[i]? = some p → _) := hcc
        clear hcc hp
        go_upto_region 14 with (fail)
        · skip
          by_cases hR : rightL (lo.take k) none = true
          · rw [hR] at hst
            have hRin := rightL_in _ _ hR
            rw [hR]
            by_cases c1 : 0 ≤ p.1
            · have d1 : decide (p.1 ≥ 0) = true := decide_eq_true c1
              by_cases c2 : p.1 ≤ p.2
              · have d2 : decide (p.2 ≥ p.1) = true := decide_eq_true c2
                by_cases c3 : p.2 < 200
                · have d3 : decide (p.2 < 200) = true := decide_eq_true c3
                  have n1 : ¬ p.1 < 0 := by omega
                  have n2 : ¬ p.2 < p.1 := by omega
                  have n3 : ¬ 200 ≤ p.2 := by omega
                  cases k with
                  | zero =>
                    clear hRin
                    simp only [Nat.zero_mul, Nat.add_zero] at hc1 hc2
                    have hr2 : rightL (lo.take (0 + 1)) none = true := by rw [hst]; simp [badP, n1, n2, n3, lastE]
                    go_quiet (fail)
                    go_wp2_with fail
                    go_roundg g
                    case rel => exact ⟨0 + 1, by omega, by simp, by rw [hr2], below_dN (hbw.alloc hbw.size _) _⟩
                    case measure => omega
                  | succ j =>
                    obtain ⟨q, hq⟩ : ∃ q, lo[j]? = some q := ⟨lo[j]'(by omega), List.getElem?_eq_getElem _⟩
                    have hc3 := (HC.out j q hq).2
                    have ej : ((j + 1 : Nat) : Int) = (j : Int) + 1 := by omega
                    rw [ej] at hkl' ⊢
                    clear ej
                    have hjl : (j : Int) < (lo.length : Int) := by omega
                    have d0 : (((j : Int) + 1) == 0) = false := by
                      rw [beq_eq_false_iff_ne]; omega
                    have hq2 := hRin q (List.mem_of_getElem? (i := j) (by rw [List.getElem?_take, if_pos (by omega)]; exact hq))
                    clear hRin
                    by_cases c4 : p.1 > q.2 + 1
                    · have d4 : decide (p.1 > q.2 + 1) = true := decide_eq_true c4
                      have n4 : ¬ p.1 < q.2 + 2 := by omega
                      have hr2 : rightL (lo.take (j + 1 + 1)) none = true := by rw [hst]; simp [badP, n1, n2, n3, n4, lastE, hq]
                      go_quiet (fail)
                      go_wp2_with fail
                      go_roundg g
                      case rel => exact ⟨j + 1 + 1, by omega, by simp, by rw [hr2], below_dN (hbw.alloc hbw.size _) _⟩
                      case measure => omega
                    · have d4 : decide (p.1 > q.2 + 1) = false := decide_eq_false c4
                      have n4 : p.1 < q.2 + 2 := by omega
                      have hr2 : rightL (lo.take (j + 1 + 1)) none = false := by rw [hst]; simp [badP, n4, lastE, hq]
                      go_quiet (fail)
                      go_wp2_with fail
                      go_roundg g
                      case rel => exact ⟨j + 1 + 1, by omega, by simp, by rw [hr2], below_dN (hbw.alloc hbw.size _) _⟩
                      case measure => omega
                · have d3 : decide (p.2 < 200) = false := decide_eq_false c3
                  have n3 : 200 ≤ p.2 := by omega
                  clear hRin
                  have hr2 : rightL (lo.take (k + 1)) none = false := by rw [hst]; simp [badP, n3]
                  go_quiet (fail)
                  go_wp2_with fail
                  go_roundg g
                  case rel => exact ⟨k + 1, by omega, by simp, by rw [hr2], below_dN (hbw.alloc hbw.size _) _⟩
                  case measure => omega
              · have d2 : decide (p.2 ≥ p.1) = false := decide_eq_false c2
                have n2 : p.2 < p.1 := by omega
                clear hRin
                have hr2 : rightL (lo.take (k + 1)) none = false := by rw [hst]; simp [badP, n2]
                go_quiet (fail)
                go_wp2_with fail
                go_roundg g
                case rel => exact ⟨k + 1, by omega, by simp, by rw [hr2], below_dN (hbw.alloc hbw.size _) _⟩
                case measure => omega
            · have d1 : decide (p.1 ≥ 0) = false := decide_eq_false c1
              have n1 : p.1 < 0 := by omega
              clear hRin
              have hr2 : rightL (lo.take (k + 1)) none = false := by rw [hst]; simp [badP, n1]
              go_quiet (fail)
              go_wp2_with fail
              go_roundg g
              case rel => exact ⟨k + 1, by omega, by simp, by rw [hr2], below_dN (hbw.alloc hbw.size _) _⟩
              case measure => omega
          · have hR' : rightL (lo.take k) none = false := by simpa using hR
            rw [hR'] at hst
            rw [hR']
            have hr2 : rightL (lo.take (k + 1)) none = false := by rw [hst]; rfl
            go_quiet (fail)
            go_wp2_with fail
            go_roundg g
            case rel => exact ⟨k + 1, by omega, by simp, by rw [hr2], below_dN (hbw.alloc hbw.size _) _⟩
            case measure => omega

end Go.Proofs.Ytlejcjgbkbmdmaa.span
