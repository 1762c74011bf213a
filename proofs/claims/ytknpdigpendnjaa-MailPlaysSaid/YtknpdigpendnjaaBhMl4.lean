/-
  Package mail, walked by facts (printed by gen_ml.py).
-/
import Derived.Test.YtknpdigpendnjaaBhMl2
import Derived.Test.YtknpdigpendnjaaBhW13
namespace Go.Proofs.Ytknpdigpendnjaa.ml
open Go Go.Proofs Go.Proofs.Ytknpdigpendnjaa.BH Go.Proofs.Ytknpdigpendnjaa.BH.Ml
open Go.Proofs.Ytknpdigpendnjaa.BH.Dk (withinV withinV_in clampV clampV_in natOr_of)
set_option maxRecDepth 100000
theorem okQ_T {q : List NoteD} (h : okQ q = true) : 0 < q.length := by cases q <;> simp_all [okQ]
theorem okQ_F {q : List NoteD} (h : okQ q = false) : q.length = 0 ∧ hdQ q = z0 := by cases q <;> simp_all [okQ, hdQ]
theorem hdQ_one {q : List NoteD} (h : 0 < q.length) : [hdQ q] = (q.drop 0).take (1 - 0) := by cases q <;> simp_all [hdQ]
theorem hdQ_al {q : List NoteD} (h : ∀ x ∈ q, x.alerts.length < 1000000) : (hdQ q).alerts.length < 1000000 := by
  cases q with
  | nil => show 0 < 1000000; decide
  | cons a t => exact h a List.mem_cons_self
theorem tmod26 (m : Nat) : 0 ≤ (m : Int).tmod 26 ∧ (m : Int).tmod 26 < 26 := by
  rw [show (m : Int).tmod 26 = ((m % 26 : Nat) : Int) from Int.ofNat_tmod m 26 ▸ rfl]; omega

set_option maxHeartbeats 4000000 in
theorem plays_law (room : Int) (l : List AskM) (hl0 : l.length ≤ 9223372036854775807) : PFn C 4 [.int .i64 room, AL eQ l] (.bool true) := by
  refine fn_view rfl rfl (fn := Try.f4) rfl rfl rfl rfl rfl ?_
  refine wc_seq ?_
  refine wc_text ?_
  refine w_assign rfl rfl ?_
  refine ws_nil ?_
  refine wc_seq ?_
  refine wc_text ?_
  refine w_move rfl rfl ?_
  refine w_call rfl rfl (cw_fn rfl rfl (.cons fz (.cons fz (.cons fz .nil))) (clamp_fn _ _ _) ?_)
  refine w_assign rfl rfl ?_
  refine ws_nil ?_
  rw [show clampV room 1 8 = max 1 (min room 8) by unfold clampV; split <;> (try split) <;> omega]
  obtain ⟨R, hR⟩ : ∃ R : Nat, max 1 (min room 8) = R := ⟨(max 1 (min room 8)).toNat, by omega⟩
  rw [hR]
  have hR1 : 1 ≤ R := by omega
  have hR8 : R ≤ 8 := by omega
  refine wc_seq ?_
  refine wc_text ?_
  refine w_move rfl rfl ?_
  refine w_call rfl rfl (CallW.mono (new_fn _ _) ?_)
  rintro _ _ ⟨_, rfl, o21, c21, rfl, rfl⟩
  try simp only [List.cons_append, List.nil_append]
  refine w_assign rfl rfl ?_
  refine ws_nil ?_
  rw [hR, Int.toNat_natCast]
  refine wc_seq ?_
  refine wc_seq ?_
  refine wc_text ?_
  refine w_move rfl rfl ?_
  refine w_ceql u22 (by simp) (by simp) rfl rfl rfl (cmp_ptr u22 rfl rfl) ?_
  refine ws_nil ?_
  refine wc_cond rfl (fun h3 => ?_) (fun h3 => ?_)
  · first | replace h3 := of_decide_eq_true h3 | replace h3 := of_decide_eq_false h3 | replace h3 := of_decide_eq_false (nb_T h3) | replace h3 := of_decide_eq_true (nb_F h3) | replace h3 := nb_T h3 | replace h3 := nb_F h3 | skip
    first | replace h3 := Int.not_lt.mp h3 | replace h3 := Int.not_le.mp h3 | replace h3 := Decidable.not_not.mp h3 | skip
    cases h3
  · first | replace h3 := of_decide_eq_true h3 | replace h3 := of_decide_eq_false h3 | replace h3 := of_decide_eq_false (nb_T h3) | replace h3 := of_decide_eq_true (nb_F h3) | replace h3 := nb_T h3 | replace h3 := nb_F h3 | skip
    first | replace h3 := Int.not_lt.mp h3 | replace h3 := Int.not_le.mp h3 | replace h3 := Decidable.not_not.mp h3 | skip
    refine wc_stay ?_
    refine wc_seq ?_
    refine wc_text ?_
    refine w_assign rfl rfl ?_
    refine ws_nil ?_
    refine WC.weakSlot (t := 7) (v := nilSlice) (v' := AL eN []) rfl rfl (nil_le false true rfl) ?_
    refine wc_seq ?_
    refine wc_text ?_
    refine w_assign rfl rfl ?_
    refine w_assign rfl rfl ?_
    refine w_assign rfl rfl ?_
    refine ws_nil ?_
    refine wc_seq ?_
    refine wc_seq ?_
    refine wc_text ?_
    refine w_assign rfl rfl ?_
    refine ws_nil ?_
    refine wc_block ?_
    refine wc_loop (σ := { x : Nat × List NoteD × Nat × Nat × Nat × Nat × Nat // Inv R x.1 x.2 ∧ x.1 ≤ l.length ∧ x.1 ≤ 40 }) (fun u => [(1, AL eQ l), (5, .int .i64 (R : Nat)), (6, .ptr (some ⟨o21, 0⟩)), (7, AL eN u.1.2.1), (8, .int .i64 (u.1.2.2.1 : Nat)), (9, .int .i64 (u.1.2.2.2.1 : Nat)), (10, .int .i64 (u.1.2.2.2.2.1 : Nat)), (11, .int .i64 (u.1.1 : Nat))]) (fun u => [.obj o21 (.row 63 2 false (BK c21 (u.1.2.2.2.1 : Nat))), .obj c21 (.chan R ((u.1.2.1).map ag) u.1.2.2.2.2.2.1 u.1.2.2.2.2.2.2)]) (fun u => 40 - u.1.1) ?_ ⟨(0, [], 0, 0, 0, 0, 0), ⟨by simp, rfl, by simp, by simp⟩, Nat.zero_le _, Nat.zero_le _⟩ (.cons rfl (.cons rfl (.cons rfl (.cons rfl (.cons rfl (.cons rfl (.cons rfl (.cons rfl (.nil _))))))))) (Sel.weak (.cons tk (.cons tk .nil)))
    rintro ⟨⟨i, q, nx, dr, tk0, s1, r1⟩, hI, hi, hi4⟩
    dsimp only
    simp only at hi hi4
    obtain ⟨hq, hnx, hnb, hal⟩ := hI
    simp only at hq hnx hnb hal
    refine wc_seq ?_
    refine wc_seq ?_
    refine wc_cut [(1, AL eQ l), (5, .int .i64 (R : Nat)), (6, .ptr (some ⟨o21, 0⟩)), (7, AL eN q), (8, .int .i64 (nx : Nat)), (9, .int .i64 (dr : Nat)), (10, .int .i64 (tk0 : Nat)), (11, .int .i64 (i : Nat)), (31, .bool (decide (i < l.length ∧ i < 40)))] [.obj o21 (.row 63 2 false (BK c21 (dr : Nat))), .obj c21 (.chan R ((q).map ag) s1 r1)] ?_ ?_
    · skip
      refine wc_text ?_
      refine w_move rfl rfl ?_
      refine w_move rfl rfl ?_
      first | refine w_len rfl rfl (len_lst u32) ?_ | refine w_len rfl rfl (len_slice u32) ?_ | refine w_lenO rfl u32 rfl rfl tk ?_
      refine w_lss u3 rfl rfl rfl ?_
      refine w_move rfl rfl ?_
      refine ws_split (t := 28) rfl (fun g28 => ?_) (fun g28 => ?_)
      · first | replace g28 := of_decide_eq_true g28 | replace g28 := of_decide_eq_false g28 | replace g28 := of_decide_eq_false (nb_T g28) | replace g28 := of_decide_eq_true (nb_F g28) | replace g28 := nb_T g28 | replace g28 := nb_F g28 | skip
        first | replace g28 := Int.not_lt.mp g28 | replace g28 := Int.not_le.mp g28 | replace g28 := Decidable.not_not.mp g28 | skip
        refine ws_on rfl rfl ?_
        refine w_move rfl rfl ?_
        refine ws_on rfl rfl ?_
        refine w_lss u3 rfl rfl rfl ?_
        first | refine w_pickT rfl rfl rfl ⟨_, rfl⟩ ?_ | refine w_pickF rfl rfl ⟨_, rfl⟩ rfl ?_ | refine w_pick rfl rfl rfl rfl ?_
        exact ws_nil ⟨rfl, (.cons (by first | rfl | (refine congrArg some (congrArg AV.bool ?_); simp_all; first | omega | (intros; omega))) (.cons (by first | rfl | (refine congrArg some (congrArg AV.bool ?_); simp_all; first | omega | (intros; omega))) (.cons (by first | rfl | (refine congrArg some (congrArg AV.bool ?_); simp_all; first | omega | (intros; omega))) (.cons (by first | rfl | (refine congrArg some (congrArg AV.bool ?_); simp_all; first | omega | (intros; omega))) (.cons (by first | rfl | (refine congrArg some (congrArg AV.bool ?_); simp_all; first | omega | (intros; omega))) (.cons (by first | rfl | (refine congrArg some (congrArg AV.bool ?_); simp_all; first | omega | (intros; omega))) (.cons (by first | rfl | (refine congrArg some (congrArg AV.bool ?_); simp_all; first | omega | (intros; omega))) (.cons (by first | rfl | (refine congrArg some (congrArg AV.bool ?_); simp_all; first | omega | (intros; omega))) (.cons (by first | rfl | (refine congrArg some (congrArg AV.bool ?_); simp_all; first | omega | (intros; omega))) (.nil _)))))))))), (Sel.weak (.cons tk (.cons tk .nil)))⟩
      · first | replace g28 := of_decide_eq_true g28 | replace g28 := of_decide_eq_false g28 | replace g28 := of_decide_eq_false (nb_T g28) | replace g28 := of_decide_eq_true (nb_F g28) | replace g28 := nb_T g28 | replace g28 := nb_F g28 | skip
        first | replace g28 := Int.not_lt.mp g28 | replace g28 := Int.not_le.mp g28 | replace g28 := Decidable.not_not.mp g28 | skip
        refine ws_off rfl rfl rfl rfl ?_
        refine ws_off rfl rfl rfl rfl ?_
        first | refine w_pickT rfl rfl rfl ⟨_, rfl⟩ ?_ | refine w_pickF rfl rfl ⟨_, rfl⟩ rfl ?_ | refine w_pick rfl rfl rfl rfl ?_
        exact ws_nil ⟨rfl, (.cons (by first | rfl | (refine congrArg some (congrArg AV.bool ?_); simp_all; first | omega | (intros; omega))) (.cons (by first | rfl | (refine congrArg some (congrArg AV.bool ?_); simp_all; first | omega | (intros; omega))) (.cons (by first | rfl | (refine congrArg some (congrArg AV.bool ?_); simp_all; first | omega | (intros; omega))) (.cons (by first | rfl | (refine congrArg some (congrArg AV.bool ?_); simp_all; first | omega | (intros; omega))) (.cons (by first | rfl | (refine congrArg some (congrArg AV.bool ?_); simp_all; first | omega | (intros; omega))) (.cons (by first | rfl | (refine congrArg some (congrArg AV.bool ?_); simp_all; first | omega | (intros; omega))) (.cons (by first | rfl | (refine congrArg some (congrArg AV.bool ?_); simp_all; first | omega | (intros; omega))) (.cons (by first | rfl | (refine congrArg some (congrArg AV.bool ?_); simp_all; first | omega | (intros; omega))) (.cons (by first | rfl | (refine congrArg some (congrArg AV.bool ?_); simp_all; first | omega | (intros; omega))) (.nil _)))))))))), (Sel.weak (.cons tk (.cons tk .nil)))⟩
    refine wc_cond rfl (fun h8 => ?_) (fun h8 => ?_)
    · replace h8 := of_decide_eq_true h8
      refine wc_stay ?_
      refine wc_seq ?_
      refine wc_block ?_
      refine wc_seq ?_
      refine wc_seq ?_
      refine wc_text ?_
      obtain ⟨qq, hx⟩ := get_of_lt (l := l) (k := i) (by omega)
      refine w_move rfl rfl ?_
      refine w_move rfl rfl ?_
      first | refine w_lidx u32 s36 rfl rfl rfl (by omega) ?_ | refine w_slidx u32 s36 rfl rfl rfl (by omega) ?_
      first | refine w_faddrC O36_0 rfl rfl ?_ | refine w_faddrP O36_0 rfl rfl ?_
      first | refine w_ldC1 a3 rfl rfl rdc ?_ | refine w_ldP1 a3 rfl rfl tk rdp ?_
      refine ws_nil ?_
      refine wc_cutX (σ := { x : List NoteD × Nat × Nat × Nat × Nat × Nat // Inv R (i + 1) x }) (fun x => [(1, AL eQ l), (5, .int .i64 (R : Nat)), (6, .ptr (some ⟨o21, 0⟩)), (7, AL eN x.1.1), (8, .int .i64 (x.1.2.1 : Nat)), (9, .int .i64 (x.1.2.2.1 : Nat)), (10, .int .i64 (x.1.2.2.2.1 : Nat)), (11, .int .i64 (i : Nat))]) (fun x => [.obj o21 (.row 63 2 false (BK c21 (x.1.2.2.1 : Nat))), .obj c21 (.chan R ((x.1.1).map ag) x.1.2.2.2.2.1 x.1.2.2.2.2.2)]) ?_ ?_
      · skip
        refine wc_block ?_
        refine wc_seq ?_
        refine wc_text ?_
        refine w_eql u3 rfl rfl rfl ?_
        refine w_assign rfl rfl ?_
        refine ws_nil ?_
        refine wc_cond rfl (fun h11 => ?_) (fun h11 => ?_)
        · replace h11 := of_decide_eq_true h11
          have hw := withinV_in qq.n 0 11 (by omega)
          obtain ⟨W, hW⟩ : ∃ W : Nat, withinV qq.n 0 11 = W := ⟨(withinV qq.n 0 11).toNat, by omega⟩
          rw [hW] at hw
          refine wc_seq ?_
          refine wc_text ?_
          refine w_assign rfl rfl ?_
          refine ws_nil ?_
          refine WC.ownNil 27 3 ?_
          refine wc_seq ?_
          refine wc_text ?_
          refine w_assign rfl rfl ?_
          refine ws_nil ?_
          refine wc_seq ?_
          refine wc_seq ?_
          refine wc_text ?_
          refine w_assign rfl rfl ?_
          refine ws_nil ?_
          refine WC.fewer (E' := [(1, AL eQ l), (5, .int .i64 (R : Nat)), (6, .ptr (some ⟨o21, 0⟩)), (7, AL eN (lastN R (q ++ notesN nx 0))), (8, .int .i64 (nx + 0 : Nat)), (9, .int .i64 (dr : Nat)), (10, .int .i64 (tk0 : Nat)), (11, .int .i64 (i : Nat)), (12, nilSlice), (13, .int .i64 ((q.length + 0 - R : Nat) : Int)), (14, .int .i64 ((0 : Nat) : Int))]) ?_ ?_
          · exact (.cons rfl (.cons rfl (.cons rfl (.cons (by rw [show notesN nx 0 = [] from rfl, List.append_nil, lastN_all hq]; rfl) (.cons rfl (.cons rfl (.cons rfl (.cons rfl (.cons rfl (.cons (by rw [show q.length + 0 - R = 0 by omega]; rfl) (.cons rfl (.nil _))))))))))))
          refine wc_block ?_
          refine wc_loop (σ := { x : Nat × AV // x.1 ≤ W }) (fun u => [(1, AL eQ l), (5, .int .i64 (R : Nat)), (6, .ptr (some ⟨o21, 0⟩)), (7, AL eN (lastN R (q ++ notesN nx u.1.1))), (8, .int .i64 (nx + u.1.1 : Nat)), (9, .int .i64 (dr : Nat)), (10, .int .i64 (tk0 : Nat)), (11, .int .i64 (i : Nat)), (12, u.1.2), (13, .int .i64 ((q.length + u.1.1 - R : Nat) : Int)), (14, .int .i64 (u.1.1 : Nat))]) (fun u => [.own u.1.2 27 3 ((notesN nx u.1.1).flatMap eN) (notesN nx u.1.1).length, .obj o21 (.row 63 2 false (BK c21 (dr : Nat))), .obj c21 (.chan R ((q).map ag) s1 r1)]) (fun u => W - u.1.1) ?_ ⟨(0, nilSlice), Nat.zero_le _⟩ (.cons rfl (.cons rfl (.cons rfl (.cons rfl (.cons rfl (.cons rfl (.cons rfl (.cons rfl (.cons rfl (.cons rfl (.cons rfl (.nil _)))))))))))) (Sel.weak (.cons tk (.cons tk (.cons tk .nil))))
          rintro ⟨⟨j, v⟩, hj⟩
          dsimp only
          simp only at hj
          have hnl := notesN_len nx j
          have hQl := lastN_len R (q ++ notesN nx j)
          rw [List.length_append, hnl] at hQl
          refine wc_seq ?_
          refine wc_seq ?_
          refine wc_text ?_
          refine w_move rfl rfl ?_
          refine w_move rfl rfl ?_
          refine w_move rfl rfl ?_
          first | refine w_lidx u32 s36 rfl rfl rfl (by omega) ?_ | refine w_slidx u32 s36 rfl rfl rfl (by omega) ?_
          first | refine w_faddrC O36_1 rfl rfl ?_ | refine w_faddrP O36_1 rfl rfl ?_
          first | refine w_ldC1 a3 rfl rfl rdc ?_ | refine w_ldP1 a3 rfl rfl tk rdp ?_
          refine w_call rfl rfl (cw_fn rfl rfl (.cons fz (.cons fz (.cons fz .nil))) (within_fn _ _ _ (by omega) (by omega) (by omega)) ?_)
          rw [hW]
          refine w_lss u3 rfl rfl rfl ?_
          refine ws_nil ?_
          refine wc_cond rfl (fun h15 => ?_) (fun h15 => ?_)
          · first | replace h15 := of_decide_eq_true h15 | replace h15 := of_decide_eq_false h15 | replace h15 := of_decide_eq_false (nb_T h15) | replace h15 := of_decide_eq_true (nb_F h15) | replace h15 := nb_T h15 | replace h15 := nb_F h15 | skip
            first | replace h15 := Int.not_lt.mp h15 | replace h15 := Int.not_le.mp h15 | replace h15 := Decidable.not_not.mp h15 | skip
            refine wc_stay ?_
            refine wc_seq ?_
            refine wc_block ?_
            refine wc_seq ?_
            refine wc_text ?_
            have hm1 := tmod26 (nx + j)
            have hm2 := tmod26 ((nx + j) / 26)
            refine w_move rfl rfl ?_
            refine w_rem u3 rfl rfl rfl (by omega) ?_
            refine w_add u3 rfl rfl rfl (by omega) ?_
            refine w_conv rfl rfl (conv_int u3 u5) ?_
            rw [ch_wrap]
            refine w_buildSF (cs := [ch (nx + j)].flatMap eB) u37 s5 z5 (by decide) rfl rfl rfl (by decide) rfl rfl ?_
            refine w_text (l := [ch (nx + j)]) u9 u37 u5 rfl rfl ?_
            refine w_move rfl rfl ?_
            refine w_quo u3 rfl rfl rfl (by omega) ?_
            rw [quo_wrap _ (by omega)]
            refine w_rem u3 rfl rfl rfl (by omega) ?_
            refine w_add u3 rfl rfl rfl (by omega) ?_
            refine w_conv rfl rfl (conv_int u3 u5) ?_
            rw [ch_wrap]
            refine w_buildSF (cs := [ch ((nx + j) / 26)].flatMap eB) u37 s5 z5 (by decide) rfl rfl rfl (by decide) rfl rfl ?_
            refine w_text (l := [ch ((nx + j) / 26)]) u9 u37 u5 rfl rfl ?_
            refine w_buildSF (cs := [[ch ((nx + j) / 26)]].flatMap eS) u25 s9 z9 (by decide) rfl rfl rfl (by decide) rfl rfl ?_
            refine w_build (v := .agg [_, _, _]) B27 rfl rfl rfl ?_
            refine w_alloc z27 s27 rfl (fun o15 => ?_)
            refine w_st s27 rfl rfl rfl tk rfl rfl ovw ?_
            refine ws_nil ?_
            refine WC.freezePtr (t := 15) (cs := eN (noteN (nx + j))) rfl rfl .head rfl ?_
            refine wc_seq ?_
            refine wc_text ?_
            refine w_move rfl rfl ?_
            refine w_add u3 rfl rfl rfl (by omega) ?_
            refine w_assign rfl rfl ?_
            refine ws_nil ?_
            skip
            refine wc_seq ?_
            refine wc_cutX (σ := AV) (fun v2 => [(1, AL eQ l), (5, .int .i64 (R : Nat)), (6, .ptr (some ⟨o21, 0⟩)), (7, AL eN ((lastN R (q ++ notesN nx j)) ++ [noteN (nx + j)])), (8, .int .i64 (nx + j + 1 : Nat)), (9, .int .i64 (dr : Nat)), (10, .int .i64 (tk0 : Nat)), (11, .int .i64 (i : Nat)), (12, v2), (13, .int .i64 ((q.length + j - R : Nat) : Int)), (14, .int .i64 (j : Nat))]) (fun v2 => [.own v2 27 3 ((notesN nx j ++ [noteN (nx + j)]).flatMap eN) (notesN nx j ++ [noteN (nx + j)]).length, .obj o21 (.row 63 2 false (BK c21 (dr : Nat))), .obj c21 (.chan R ((q).map ag) s1 r1)]) ?_ ?_
            · skip
              refine wc_free [0, 0, 2, 7, 0, 0, 63, 0, 128, 511, 1023, 2047] (by kernel_rfl) (by kernel_rfl) (fun F => ?_)
              refine wr_float F 0 rfl (by kernel_rfl) (.inl (by kernel_rfl)) ?_
              refine w_move rfl rfl ?_
              refine ws_nil ?_
              refine wr_pure F 1 rfl (by kernel_rfl) rfl rfl (pf_ldC a27 s27 rfl agc) (.inl rfl) ?_
              refine wr_lazy F 2 rfl (by kernel_rfl) rfl rfl (lz_buildS (cs := [noteN (nx + j)].flatMap eN) u34 s27 z27 (by decide) rfl rfl (by decide) rfl rfl) (.inl rfl) ?_
              refine wr_lazy F 4 rfl (by kernel_rfl) rfl rfl (lz_empty u34 s27 z27) (.inl rfl) ?_
              refine wr_float F 5 rfl (by kernel_rfl) (.inl (by kernel_rfl)) ?_
              refine w_move rfl rfl ?_
              refine ws_nil ?_
              refine wr_pure F 7 rfl (by kernel_rfl) rfl rfl (pf_ldC a27 s27 rfl agc) (.inl rfl) ?_
              refine wr_lazy F 8 rfl (by kernel_rfl) rfl rfl (lz_buildS (cs := [noteN (nx + j)].flatMap eN) u34 s27 z27 (by decide) rfl rfl (by decide) rfl rfl) (.inl rfl) ?_
              refine wr_next F (l := [3]) (by kernel_rfl) (by simp) (.cons rfl ?_ (.nil))
              refine w_appO (enc := eN) (l := notesN nx j) (m := [noteN (nx + j)]) rfl u34 s27 b27 z27 u34 (by simp) rfl rfl rfl tk nw (by unfold bigBy; first | omega | (simp only [List.length_nil, List.length_cons, List.length_append, List.length_take, List.length_drop]; omega)) (by unfold bigBy; first | omega | (simp only [List.length_nil, List.length_cons, List.length_append, List.length_take, List.length_drop]; omega)) (fun v71 => ?_)
              refine ws_nil ?_
              refine wr_next F (l := [6]) (by kernel_rfl) (by simp) (.cons rfl ?_ (.nil))
              refine WS.ownEmpty (v := .lst [] 0 true true) (.inr rfl) 27 3 ?_
              refine w_appO (enc := eN) (l := []) (m := (lastN R (q ++ notesN nx j))) rfl u34 s27 b27 z27 u34 (by simp) rfl rfl rfl tk nw (by unfold bigBy; first | omega | (simp only [List.length_nil, List.length_cons, List.length_append, List.length_take, List.length_drop]; omega)) (by unfold bigBy; first | omega | (simp only [List.length_nil, List.length_cons, List.length_append, List.length_take, List.length_drop]; omega)) (fun v74 => ?_)
              refine ws_nil ?_
              refine wr_next F (l := [9]) (by kernel_rfl) (by simp) (.cons rfl ?_ (.nil))
              refine w_appL (enc := eN) (l := [] ++ (lastN R (q ++ notesN nx j))) (m := [noteN (nx + j)]) rfl u34 s27 b27 z27 u34 (by simp) rfl rfl rfl tk nw (by unfold bigBy; first | omega | (simp only [List.length_nil, List.length_cons, List.length_append, List.length_take, List.length_drop]; omega)) (by unfold bigBy; first | omega | (simp only [List.length_nil, List.length_cons, List.length_append, List.length_take, List.length_drop]; omega)) eN_done ?_
              rw [List.nil_append]
              refine ws_nil ?_
              refine wr_float F 10 rfl (by kernel_rfl) (.inl (by kernel_rfl)) ?_
              refine w_assign rfl rfl ?_
              refine ws_nil ?_
              refine wr_float F 11 rfl (by kernel_rfl) (.inl (by kernel_rfl)) ?_
              refine w_assign rfl rfl ?_
              refine ws_nil ?_
              refine wr_end F (by kernel_rfl) ?_
              exact ⟨rfl, v71, (.cons rfl (.cons rfl (.cons rfl (.cons rfl (.cons rfl (.cons rfl (.cons rfl (.cons rfl (.cons rfl (.cons rfl (.cons rfl (.nil _)))))))))))), (Sel.weak (.cons tk (.cons tk (.cons tk .nil))))⟩
            rintro v2
            try dsimp only
            rw [notesN_next]
            refine wc_seq ?_
            refine wc_text ?_
            refine w_move rfl rfl ?_
            first | refine w_len rfl rfl (len_lst u34) ?_ | refine w_len rfl rfl (len_slice u34) ?_ | refine w_lenO rfl u34 rfl rfl tk ?_
            refine w_move rfl rfl ?_
            refine w_gtr u3 rfl rfl rfl ?_
            refine ws_nil ?_
            refine wc_cond rfl (fun h20 => ?_) (fun h20 => ?_)
            · replace h20 := of_decide_eq_true h20
              refine wc_text ?_
              refine w_move rfl rfl ?_
              refine w_slice rfl rfl rfl rfl rfl (slice_al (i := 1) u34 s27 (by intro _; rfl) (by rfl) (by rfl) (by omega) (by omega)) ?_
              refine w_move rfl rfl ?_
              refine w_add u3 rfl rfl rfl (by omega) ?_
              refine w_assign rfl rfl ?_
              refine w_assign rfl rfl ?_
              refine ws_nil ?_
              rw [lastN_cut (by omega) (by omega), List.append_assoc, notesN_next]
              have hover : ((q.length + j - R : Nat) : Int) + 1 = ((q.length + (j + 1) - R : Nat) : Int) := by rw [List.length_append, List.length_singleton] at h20; omega
              rw [hover]
              refine wc_text ?_
              refine w_move rfl rfl ?_
              refine w_add u3 rfl rfl rfl (by omega) ?_
              refine w_assign rfl rfl ?_
              refine ws_nil ?_
              exact ⟨⟨(j + 1, _), (by omega : j + 1 ≤ W)⟩, by simp only; omega, (.cons rfl (.cons rfl (.cons rfl (.cons rfl (.cons rfl (.cons rfl (.cons rfl (.cons rfl (.cons rfl (.cons rfl (.cons rfl (.nil _)))))))))))), (Sel.weak (.cons tk (.cons tk (.cons tk .nil))))⟩
            · replace h20 := of_decide_eq_false h20
              rw [lastN_keep (by omega), List.append_assoc, notesN_next]
              have hunder : q.length + j - R = q.length + (j + 1) - R := by rw [List.length_append, List.length_singleton] at h20; omega
              rw [hunder]
              refine wc_stay ?_
              refine wc_text ?_
              refine w_move rfl rfl ?_
              refine w_add u3 rfl rfl rfl (by omega) ?_
              refine w_assign rfl rfl ?_
              refine ws_nil ?_
              exact ⟨⟨(j + 1, _), (by omega : j + 1 ≤ W)⟩, by simp only; omega, (.cons rfl (.cons rfl (.cons rfl (.cons rfl (.cons rfl (.cons rfl (.cons rfl (.cons rfl (.cons rfl (.cons rfl (.cons rfl (.nil _)))))))))))), (Sel.weak (.cons tk (.cons tk (.cons tk .nil))))⟩
          · first | replace h15 := of_decide_eq_true h15 | replace h15 := of_decide_eq_false h15 | replace h15 := of_decide_eq_false (nb_T h15) | replace h15 := of_decide_eq_true (nb_F h15) | replace h15 := nb_T h15 | replace h15 := nb_F h15 | skip
            first | replace h15 := Int.not_lt.mp h15 | replace h15 := Int.not_le.mp h15 | replace h15 := Decidable.not_not.mp h15 | skip
            refine wc_exit ?_
            refine wc_seq ?_
            refine wc_seq ?_
            refine wc_text ?_
            have hjW : W = j := by omega
            subst hjW
            have hal2 : ∀ y ∈ (lastN R (q ++ notesN nx W)), y.alerts.length < 1000000 := lastN_mem fun y hy => (List.mem_append.mp hy).elim (hal y) (notesN_alerts nx W y)
            refine w_move rfl rfl ?_
            refine w_move rfl rfl ?_
            refine w_call rfl rfl (CallW.args (.same (.frz (a' := AL eN (notesN nx W)) (.ownK rfl tk (flat_done eN_done _)) rfl .nil)) (CallW.weak (Sel.weak (.cons tk (.cons tk .rest))) (CallW.mono (putM_fn _ _ R q (dr : Nat) _ _ (notesN nx W) (by omega) hq (by rw [notesN_len]; omega) (by omega) (by omega) (by omega) (notesN_alerts nx W) _) ?_)))
            rintro _ _ ⟨_, rfl, s88, r88, rfl, rfl⟩
            simp only [List.cons_append, List.nil_append]
            rw [notesN_len]
            refine w_move rfl rfl ?_
            refine w_neq u3 rfl rfl rfl ?_
            refine ws_nil ?_
            skip
            refine wc_cond rfl (fun h22 => ?_) (fun h22 => ?_)
            · first | replace h22 := of_decide_eq_true h22 | replace h22 := of_decide_eq_false h22 | replace h22 := of_decide_eq_false (nb_T h22) | replace h22 := of_decide_eq_true (nb_F h22) | replace h22 := nb_T h22 | replace h22 := nb_F h22 | skip
              first | replace h22 := Int.not_lt.mp h22 | replace h22 := Int.not_le.mp h22 | replace h22 := Decidable.not_not.mp h22 | skip
              exact absurd rfl h22
            · first | replace h22 := of_decide_eq_true h22 | replace h22 := of_decide_eq_false h22 | replace h22 := of_decide_eq_false (nb_T h22) | replace h22 := of_decide_eq_true (nb_F h22) | replace h22 := nb_T h22 | replace h22 := nb_F h22 | skip
              first | replace h22 := Int.not_lt.mp h22 | replace h22 := Int.not_le.mp h22 | replace h22 := Decidable.not_not.mp h22 | skip
              refine wc_stay ?_
              refine wc_seq ?_
              refine wc_text ?_
              refine w_move rfl rfl ?_
              refine w_move rfl rfl ?_
              refine w_add u3 rfl rfl rfl (by omega) ?_
              refine w_assign rfl rfl ?_
              refine ws_nil ?_
              skip
              refine wc_seq ?_
              refine wc_text ?_
              refine w_move rfl rfl ?_
              refine w_call rfl rfl (CallW.mono (CallW.weak (Sel.weak (.cons tk (.cons tk .rest))) (all_fn _ _ R (lastN R (q ++ notesN nx W)) _ _ _ (by omega) (by rw [lastN_len]; omega) (by omega) hal2 _)) ?_)
              rintro v95 _ ⟨_, rfl, s95, r95, rfl⟩
              try simp only [List.cons_append, List.nil_append]
              refine w_move rfl rfl ?_
              refine w_call rfl rfl (cw_fn rfl rfl (.cons fz (.cons fz .nil)) (notes_fn _ _ (by rw [lastN_len]; omega) hal2) ?_)
              refine w_not rfl rfl ?_
              refine ws_nil ?_
              refine wc_cond rfl (fun h25 => ?_) (fun h25 => ?_)
              · first | replace h25 := of_decide_eq_true h25 | replace h25 := of_decide_eq_false h25 | replace h25 := of_decide_eq_false (nb_T h25) | replace h25 := of_decide_eq_true (nb_F h25) | replace h25 := nb_T h25 | replace h25 := nb_F h25 | skip
                first | replace h25 := Int.not_lt.mp h25 | replace h25 := Int.not_le.mp h25 | replace h25 := Decidable.not_not.mp h25 | skip
                simp at h25
              · first | replace h25 := of_decide_eq_true h25 | replace h25 := of_decide_eq_false h25 | replace h25 := of_decide_eq_false (nb_T h25) | replace h25 := of_decide_eq_true (nb_F h25) | replace h25 := nb_T h25 | replace h25 := nb_F h25 | skip
                first | replace h25 := Int.not_lt.mp h25 | replace h25 := Int.not_le.mp h25 | replace h25 := Decidable.not_not.mp h25 | skip
                refine wc_stay ?_
                have hfin : Inv R (i + 1) ((lastN R (q ++ notesN nx W)), nx + W, dr + (q.length + W - R), tk0, s95, r95) := ⟨by rw [lastN_len]; omega, by simp only; rw [lastN_len, List.length_append, notesN_len]; omega, by simp only; omega, hal2⟩
                exact ⟨rfl, ⟨((lastN R (q ++ notesN nx W)), nx + W, dr + (q.length + W - R), tk0, s95, r95), hfin⟩, (.cons rfl (.cons rfl (.cons rfl (.cons rfl (.cons rfl (.cons rfl (.cons rfl (.cons rfl (.nil _))))))))), (Sel.weak (.cons tk (.cons tk .nil)))⟩
        · skip
          refine wc_seq ?_
          refine wc_text ?_
          refine w_eql u3 rfl rfl rfl ?_
          refine w_assign rfl rfl ?_
          refine ws_nil ?_
          refine wc_cond rfl (fun h27 => ?_) (fun h27 => ?_)
          · first | replace h27 := of_decide_eq_true h27 | replace h27 := of_decide_eq_false h27 | replace h27 := of_decide_eq_false (nb_T h27) | replace h27 := of_decide_eq_true (nb_F h27) | replace h27 := nb_T h27 | replace h27 := nb_F h27 | skip
            first | replace h27 := Int.not_lt.mp h27 | replace h27 := Int.not_le.mp h27 | replace h27 := Decidable.not_not.mp h27 | skip
            refine wc_seq ?_
            refine wc_text ?_
            refine w_move rfl rfl ?_
            refine w_call rfl rfl (CallW.mono (CallW.weak (Sel.weak (.cons tk (.cons tk .rest))) (take_fn _ _ _ _ _ _ _ _)) ?_)
            rintro _ _ ⟨rfl, rfl⟩
            try simp only [List.cons_append, List.nil_append]
            refine w_move rfl rfl ?_
            refine w_extract rfl rfl rfl ?_
            refine w_extract rfl rfl rfl ?_
            refine w_alloc z27 s27 rfl (fun o16 => ?_)
            refine w_st s27 rfl rfl rfl tk rfl rfl ovw ?_
            refine w_assign rfl rfl ?_
            refine ws_nil ?_
            refine WC.freezePtr (t := 16) (cs := eN (hdQ q)) rfl rfl .head rfl ?_
            have hhd := hdQ_al hal
            generalize hob : okQ q = ob
            refine wc_seq ?_
            refine wc_seq ?_
            refine wc_free [0, 0, 2, 6, 15, 31, 63, 127, 255, 511, 255, 1279, 4095, 8191, 16383, 32767, 65535, 131071, 262143, 524287, 1048575, 2097151, 1048575, 5242879, 16777215, 33554431, 67108863, 134217727] (by kernel_rfl) (by kernel_rfl) (fun F => ?_)
            refine wr_float F 0 rfl (by kernel_rfl) (.inl (by kernel_rfl)) ?_
            refine w_move rfl rfl ?_
            refine ws_nil ?_
            refine wr_float F 1 rfl (by kernel_rfl) (.inl (by kernel_rfl)) ?_
            refine w_move rfl rfl ?_
            refine ws_nil ?_
            refine wr_float F 2 rfl (by kernel_rfl) (.inl (by kernel_rfl)) ?_
            first | refine w_len rfl rfl (len_lst u34) ?_ | refine w_len rfl rfl (len_slice u34) ?_ | refine w_lenO rfl u34 rfl rfl tk ?_
            refine ws_nil ?_
            refine wr_float F 3 rfl (by kernel_rfl) (.inl (by kernel_rfl)) ?_
            refine w_gtr u3 rfl rfl rfl ?_
            refine ws_nil ?_
            refine wr_float F 4 rfl (by kernel_rfl) (.inl (by kernel_rfl)) ?_
            refine w_bneq u4 rfl rfl rfl ?_
            refine ws_nil ?_
            refine wr_float F 5 rfl (by kernel_rfl) (.inl (by kernel_rfl)) ?_
            refine w_move rfl rfl ?_
            refine ws_nil ?_
            refine wr_split (t := 111) rfl (fun g111 => ?_) (fun g111 => ?_)
            · first | replace g111 := of_decide_eq_true g111 | replace g111 := of_decide_eq_false g111 | replace g111 := of_decide_eq_false (nb_T g111) | replace g111 := of_decide_eq_true (nb_F g111) | replace g111 := nb_T g111 | replace g111 := nb_F g111 | skip
              first | replace g111 := Int.not_lt.mp g111 | replace g111 := Int.not_le.mp g111 | replace g111 := Decidable.not_not.mp g111 | skip
              rw [← hob, okQ_pos] at g111; simp at g111
            · first | replace g111 := of_decide_eq_true g111 | replace g111 := of_decide_eq_false g111 | replace g111 := of_decide_eq_false (nb_T g111) | replace g111 := of_decide_eq_true (nb_F g111) | replace g111 := nb_T g111 | replace g111 := nb_F g111 | skip
              first | replace g111 := Int.not_lt.mp g111 | replace g111 := Int.not_le.mp g111 | replace g111 := Decidable.not_not.mp g111 | skip
              refine wr_float F 6 rfl (by kernel_rfl) (.inl (by kernel_rfl)) ?_
              refine ws_on rfl rfl ?_ (hn := rfl)
              refine w_move rfl rfl ?_
              refine ws_nil ?_
              refine wr_float F 7 rfl (by kernel_rfl) (.inl (by kernel_rfl)) ?_
              refine ws_on rfl rfl ?_ (hn := rfl)
              refine w_move rfl rfl ?_
              refine ws_nil ?_
              refine wr_split (t := 113) rfl (fun g113 => ?_) (fun g113 => ?_)
              · first | replace g113 := of_decide_eq_true g113 | replace g113 := of_decide_eq_false g113 | replace g113 := of_decide_eq_false (nb_T g113) | replace g113 := of_decide_eq_true (nb_F g113) | replace g113 := nb_T g113 | replace g113 := nb_F g113 | skip
                first | replace g113 := Int.not_lt.mp g113 | replace g113 := Int.not_le.mp g113 | replace g113 := Decidable.not_not.mp g113 | skip
                have hpos := okQ_T (hob.trans g113)
                refine wr_pure F 8 rfl (by kernel_rfl) rfl rfl (pf_ldC a27 s27 rfl agc) (.inr ⟨_, _, _, rfl, rfl, rfl⟩) ?_
                refine wr_lazy F 9 rfl (by kernel_rfl) rfl rfl (lz_buildS (cs := [hdQ q].flatMap eN) u34 s27 z27 (by decide) rfl rfl (by decide) rfl rfl) (.inr ⟨_, _, _, rfl, rfl, rfl⟩) ?_
                refine wr_float F 10 rfl (by kernel_rfl) (.inl (by kernel_rfl)) ?_
                refine ws_on rfl rfl ?_ (hn := rfl)
                refine w_move rfl rfl ?_
                refine ws_nil ?_
                refine wr_pure F 11 rfl (by kernel_rfl) rfl rfl (pf_slice rfl rfl rfl rfl (slice_al (i := 0) (j := 1) u34 s27 (by intro _; rfl) (by rfl) (by rfl) (by omega) (by omega))) (.inr ⟨_, _, _, rfl, rfl, rfl⟩) ?_
                refine wr_next F (l := [12]) (by kernel_rfl) (by simp) (.cons rfl ?_ (.nil))
                refine ws_on rfl rfl ?_ (hn := rfl)
                refine w_call rfl rfl (cw_fn rfl rfl (.cons fz (.cons fz .nil)) (notes_fn [hdQ q] _ (by simp) (by intro y hy; simp only [List.mem_singleton] at hy; subst hy; exact hhd)) ?_)
                refine ws_nil ?_
                refine wr_float F 13 rfl (by kernel_rfl) (.inl (by kernel_rfl)) ?_
                refine ws_on rfl rfl ?_ (hn := rfl)
                refine w_not rfl rfl ?_
                refine ws_nil ?_
                refine wr_float F 14 rfl (by kernel_rfl) (.inl (by kernel_rfl)) ?_
                refine ws_on rfl rfl ?_ (hn := rfl)
                first | refine w_pickT rfl rfl rfl ⟨_, rfl⟩ ?_ | refine w_pickF rfl rfl ⟨_, rfl⟩ rfl ?_ | refine w_pick rfl rfl rfl rfl ?_
                refine ws_nil ?_
                refine wr_float F 15 rfl (by kernel_rfl) (.inl (by kernel_rfl)) ?_
                first | refine w_pickT rfl rfl rfl ⟨_, rfl⟩ ?_ | refine w_pickF rfl rfl ⟨_, rfl⟩ rfl ?_ | refine w_pick rfl rfl rfl rfl ?_
                refine ws_nil ?_
                refine wr_float F 16 rfl (by kernel_rfl) (.inl (by kernel_rfl)) ?_
                refine w_move rfl rfl ?_
                refine ws_nil ?_
                refine wr_split (t := 122) rfl (fun g122 => ?_) (fun g122 => ?_)
                · first | replace g122 := of_decide_eq_true g122 | replace g122 := of_decide_eq_false g122 | replace g122 := of_decide_eq_false (nb_T g122) | replace g122 := of_decide_eq_true (nb_F g122) | replace g122 := nb_T g122 | replace g122 := nb_F g122 | skip
                  first | replace g122 := Int.not_lt.mp g122 | replace g122 := Int.not_le.mp g122 | replace g122 := Decidable.not_not.mp g122 | skip
                  exact absurd (hdQ_one (okQ_T (hob.trans g113))) g122
                · first | replace g122 := of_decide_eq_true g122 | replace g122 := of_decide_eq_false g122 | replace g122 := of_decide_eq_false (nb_T g122) | replace g122 := of_decide_eq_true (nb_F g122) | replace g122 := nb_T g122 | replace g122 := nb_F g122 | skip
                  first | replace g122 := Int.not_lt.mp g122 | replace g122 := Int.not_le.mp g122 | replace g122 := Decidable.not_not.mp g122 | skip
                  refine wr_float F 17 rfl (by kernel_rfl) (.inl (by kernel_rfl)) ?_
                  refine ws_on rfl rfl ?_ (hn := rfl)
                  refine w_move rfl rfl ?_
                  refine ws_nil ?_
                  refine wr_float F 18 rfl (by kernel_rfl) (.inl (by kernel_rfl)) ?_
                  refine ws_on rfl rfl ?_ (hn := rfl)
                  refine w_not rfl rfl ?_
                  refine ws_nil ?_
                  refine wr_float F 19 rfl (by kernel_rfl) (.inl (by kernel_rfl)) ?_
                  refine ws_on rfl rfl ?_ (hn := rfl)
                  refine w_move rfl rfl ?_
                  refine ws_nil ?_
                  refine wr_split (t := 125) rfl (fun g125 => ?_) (fun g125 => ?_)
                  · first | replace g125 := of_decide_eq_true g125 | replace g125 := of_decide_eq_false g125 | replace g125 := of_decide_eq_false (nb_T g125) | replace g125 := of_decide_eq_true (nb_F g125) | replace g125 := nb_T g125 | replace g125 := nb_F g125 | skip
                    first | replace g125 := Int.not_lt.mp g125 | replace g125 := Int.not_le.mp g125 | replace g125 := Decidable.not_not.mp g125 | skip
                    rw [g113] at g125; cases g125
                  · first | replace g125 := of_decide_eq_true g125 | replace g125 := of_decide_eq_false g125 | replace g125 := of_decide_eq_false (nb_T g125) | replace g125 := of_decide_eq_true (nb_F g125) | replace g125 := nb_T g125 | replace g125 := nb_F g125 | skip
                    first | replace g125 := Int.not_lt.mp g125 | replace g125 := Int.not_le.mp g125 | replace g125 := Decidable.not_not.mp g125 | skip
                    refine wr_float F 20 rfl (by kernel_rfl) (.inr (off_of rfl rfl rfl rfl)) ?_
                    refine ws_off rfl rfl rfl rfl ?_
                    refine ws_nil ?_
                    refine wr_float F 21 rfl (by kernel_rfl) (.inr (off_of rfl rfl rfl rfl)) ?_
                    refine ws_off rfl rfl rfl rfl ?_
                    refine ws_nil ?_
                    refine wr_float F 22 rfl (by kernel_rfl) (.inr (off_of rfl rfl rfl rfl)) ?_
                    refine ws_off rfl rfl rfl rfl ?_
                    refine ws_nil ?_
                    refine wr_float F 23 rfl (by kernel_rfl) (.inr (off_of rfl rfl rfl rfl)) ?_
                    refine ws_off rfl rfl rfl rfl ?_
                    refine ws_nil ?_
                    refine wr_float F 24 rfl (by kernel_rfl) (.inr (off_of rfl rfl rfl rfl)) ?_
                    refine ws_off rfl rfl rfl rfl ?_
                    refine ws_nil ?_
                    refine wr_float F 25 rfl (by kernel_rfl) (.inr (off_of rfl rfl rfl rfl)) ?_
                    refine ws_off rfl rfl rfl rfl ?_
                    refine ws_nil ?_
                    refine wr_float F 26 rfl (by kernel_rfl) (.inl (by kernel_rfl)) ?_
                    refine ws_on rfl rfl ?_ (hn := rfl)
                    first | refine w_pickT rfl rfl rfl ⟨_, rfl⟩ ?_ | refine w_pickF rfl rfl ⟨_, rfl⟩ rfl ?_ | refine w_pick rfl rfl rfl rfl ?_
                    refine ws_nil ?_
                    refine wr_float F 27 rfl (by kernel_rfl) (.inl (by kernel_rfl)) ?_
                    first | refine w_pickT rfl rfl rfl ⟨_, rfl⟩ ?_ | refine w_pickF rfl rfl ⟨_, rfl⟩ rfl ?_ | refine w_pick rfl rfl rfl rfl ?_
                    refine ws_nil ?_
                    refine wr_end F (by kernel_rfl) ?_
                    refine wc_condF rfl ?_
                    refine wc_stay ?_
                    refine wc_seq ?_
                    refine wc_text ?_
                    refine w_move rfl rfl ?_
                    refine ws_nil ?_
                    refine wc_cond rfl (fun h31 => ?_) (fun h31 => ?_)
                    · have hpos := okQ_T (hob.trans h31)
                      refine wc_text ?_
                      refine w_move rfl rfl ?_
                      refine w_slice rfl rfl rfl rfl rfl (slice_al (i := 1) u34 s27 (by intro _; rfl) (by rfl) (by rfl) (by omega) (by omega)) ?_
                      refine w_move rfl rfl ?_
                      refine w_add u3 rfl rfl rfl (by omega) ?_
                      refine w_assign rfl rfl ?_
                      refine w_assign rfl rfl ?_
                      refine ws_nil ?_
                      rw [show (q.drop 1).take (q.length - 1) = q.tail by rw [take_drop_last _ rfl]; exact List.drop_one]
                      have hfin : Inv R (i + 1) (q.tail, nx, dr, tk0 + 1, s1, takeR q r1) := ⟨by simp only [List.length_tail]; omega, by simp only [List.length_tail]; omega, by simp only; omega, fun y hy => hal y (List.mem_of_mem_tail hy)⟩
                      exact ⟨rfl, ⟨(q.tail, nx, dr, tk0 + 1, s1, takeR q r1), hfin⟩, (.cons rfl (.cons rfl (.cons rfl (.cons rfl (.cons rfl (.cons rfl (.cons rfl (.cons rfl (.nil _))))))))), (Sel.weak (.cons tk (.cons tk .nil)))⟩
                    · obtain rfl := List.eq_nil_of_length_eq_zero (okQ_F (hob.trans h31)).1
                      refine wc_stay ?_
                      have hfin : Inv R (i + 1) ([], nx, dr, tk0, s1, takeR [] r1) := ⟨hq, hnx, by simp only; omega, hal⟩
                      exact ⟨rfl, ⟨([], nx, dr, tk0, s1, takeR [] r1), hfin⟩, (.cons rfl (.cons rfl (.cons rfl (.cons rfl (.cons rfl (.cons rfl (.cons rfl (.cons rfl (.nil _))))))))), (Sel.weak (.cons tk (.cons tk .nil)))⟩
              · first | replace g113 := of_decide_eq_true g113 | replace g113 := of_decide_eq_false g113 | replace g113 := of_decide_eq_false (nb_T g113) | replace g113 := of_decide_eq_true (nb_F g113) | replace g113 := nb_T g113 | replace g113 := nb_F g113 | skip
                first | replace g113 := Int.not_lt.mp g113 | replace g113 := Int.not_le.mp g113 | replace g113 := Decidable.not_not.mp g113 | skip
                have hzero := (okQ_F (hob.trans g113)).2
                refine wr_float F 8 rfl (by kernel_rfl) (.inr (off_of rfl rfl rfl rfl)) ?_
                refine ws_off rfl rfl rfl rfl ?_
                refine ws_nil ?_
                refine wr_float F 9 rfl (by kernel_rfl) (.inr (off_of rfl rfl rfl rfl)) ?_
                refine ws_off rfl rfl rfl rfl ?_
                refine ws_nil ?_
                refine wr_float F 10 rfl (by kernel_rfl) (.inr (off_of rfl rfl rfl rfl)) ?_
                refine ws_off rfl rfl rfl rfl ?_
                refine ws_nil ?_
                refine wr_float F 11 rfl (by kernel_rfl) (.inr (off_of rfl rfl rfl rfl)) ?_
                refine ws_off rfl rfl rfl rfl ?_
                refine ws_nil ?_
                refine wr_float F 12 rfl (by kernel_rfl) (.inr (off_of rfl rfl rfl rfl)) ?_
                refine ws_off rfl rfl rfl rfl ?_
                refine ws_nil ?_
                refine wr_float F 13 rfl (by kernel_rfl) (.inr (off_of rfl rfl rfl rfl)) ?_
                refine ws_off rfl rfl rfl rfl ?_
                refine ws_nil ?_
                refine wr_float F 14 rfl (by kernel_rfl) (.inl (by kernel_rfl)) ?_
                refine ws_on rfl rfl ?_ (hn := rfl)
                first | refine w_pickT rfl rfl rfl ⟨_, rfl⟩ ?_ | refine w_pickF rfl rfl ⟨_, rfl⟩ rfl ?_ | refine w_pick rfl rfl rfl rfl ?_
                refine ws_nil ?_
                refine wr_float F 15 rfl (by kernel_rfl) (.inl (by kernel_rfl)) ?_
                first | refine w_pickT rfl rfl rfl ⟨_, rfl⟩ ?_ | refine w_pickF rfl rfl ⟨_, rfl⟩ rfl ?_ | refine w_pick rfl rfl rfl rfl ?_
                refine ws_nil ?_
                refine wr_float F 16 rfl (by kernel_rfl) (.inl (by kernel_rfl)) ?_
                refine w_move rfl rfl ?_
                refine ws_nil ?_
                refine wr_float F 17 rfl (by kernel_rfl) (.inl (by kernel_rfl)) ?_
                refine ws_on rfl rfl ?_ (hn := rfl)
                refine w_move rfl rfl ?_
                refine ws_nil ?_
                refine wr_float F 18 rfl (by kernel_rfl) (.inl (by kernel_rfl)) ?_
                refine ws_on rfl rfl ?_ (hn := rfl)
                refine w_not rfl rfl ?_
                refine ws_nil ?_
                refine wr_float F 19 rfl (by kernel_rfl) (.inl (by kernel_rfl)) ?_
                refine ws_on rfl rfl ?_ (hn := rfl)
                refine w_move rfl rfl ?_
                refine ws_nil ?_
                refine wr_split (t := 125) rfl (fun g125 => ?_) (fun g125 => ?_)
                · first | replace g125 := of_decide_eq_true g125 | replace g125 := of_decide_eq_false g125 | replace g125 := of_decide_eq_false (nb_T g125) | replace g125 := of_decide_eq_true (nb_F g125) | replace g125 := nb_T g125 | replace g125 := nb_F g125 | skip
                  first | replace g125 := Int.not_lt.mp g125 | replace g125 := Int.not_le.mp g125 | replace g125 := Decidable.not_not.mp g125 | skip
                  refine wr_pure F 20 rfl (by kernel_rfl) rfl rfl (pf_ldC a27 s27 rfl agc) (.inr ⟨_, _, _, rfl, rfl, rfl⟩) ?_
                  refine wr_lazy F 21 rfl (by kernel_rfl) rfl rfl (lz_buildS (cs := [hdQ q].flatMap eN) u34 s27 z27 (by decide) rfl rfl (by decide) rfl rfl) (.inr ⟨_, _, _, rfl, rfl, rfl⟩) ?_
                  refine wr_float F 22 rfl (by kernel_rfl) (.inl (by kernel_rfl)) ?_
                  refine ws_on rfl rfl ?_ (hn := rfl)
                  refine w_build (v := .agg [_, _, _]) B27 rfl rfl rfl ?_
                  refine ws_nil ?_
                  refine wr_lazy F 23 rfl (by kernel_rfl) rfl rfl (lz_buildW (cs := eN z0) u34 s27 z27 (by decide) rfl rfl (.cons (.refl _) (.cons (.refl _) (.cons (nil_le false true rfl) .nil))) (by decide) rfl rfl) (.inr ⟨_, _, _, rfl, rfl, rfl⟩) ?_
                  refine wr_next F (l := [24]) (by kernel_rfl) (by simp) (.cons rfl ?_ (.nil))
                  refine ws_on rfl rfl ?_ (hn := rfl)
                  refine w_call rfl rfl (cw_fn rfl rfl (.cons fz (.cons fz .nil)) (notes_fn [hdQ q] [z0] (by simp) (by intro y hy; simp only [List.mem_singleton] at hy; subst hy; exact hhd)) ?_)
                  refine ws_nil ?_
                  refine wr_float F 25 rfl (by kernel_rfl) (.inl (by kernel_rfl)) ?_
                  refine ws_on rfl rfl ?_ (hn := rfl)
                  refine w_not rfl rfl ?_
                  refine ws_nil ?_
                  refine wr_float F 26 rfl (by kernel_rfl) (.inl (by kernel_rfl)) ?_
                  refine ws_on rfl rfl ?_ (hn := rfl)
                  first | refine w_pickT rfl rfl rfl ⟨_, rfl⟩ ?_ | refine w_pickF rfl rfl ⟨_, rfl⟩ rfl ?_ | refine w_pick rfl rfl rfl rfl ?_
                  refine ws_nil ?_
                  refine wr_float F 27 rfl (by kernel_rfl) (.inl (by kernel_rfl)) ?_
                  first | refine w_pickT rfl rfl rfl ⟨_, rfl⟩ ?_ | refine w_pickF rfl rfl ⟨_, rfl⟩ rfl ?_ | refine w_pick rfl rfl rfl rfl ?_
                  refine ws_nil ?_
                  refine wr_end F (by kernel_rfl) ?_
                  refine wc_cond rfl (fun h29 => ?_) (fun h29 => ?_)
                  · first | replace h29 := of_decide_eq_true h29 | replace h29 := of_decide_eq_false h29 | replace h29 := of_decide_eq_false (nb_T h29) | replace h29 := of_decide_eq_true (nb_F h29) | replace h29 := nb_T h29 | replace h29 := nb_F h29 | skip
                    first | replace h29 := Int.not_lt.mp h29 | replace h29 := Int.not_le.mp h29 | replace h29 := Decidable.not_not.mp h29 | skip
                    rw [hzero] at h29; exact absurd rfl h29
                  · first | replace h29 := of_decide_eq_true h29 | replace h29 := of_decide_eq_false h29 | replace h29 := of_decide_eq_false (nb_T h29) | replace h29 := of_decide_eq_true (nb_F h29) | replace h29 := nb_T h29 | replace h29 := nb_F h29 | skip
                    first | replace h29 := Int.not_lt.mp h29 | replace h29 := Int.not_le.mp h29 | replace h29 := Decidable.not_not.mp h29 | skip
                    refine wc_stay ?_
                    refine wc_seq ?_
                    refine wc_text ?_
                    refine w_move rfl rfl ?_
                    refine ws_nil ?_
                    refine wc_cond rfl (fun h31 => ?_) (fun h31 => ?_)
                    · have hpos := okQ_T (hob.trans h31)
                      refine wc_text ?_
                      refine w_move rfl rfl ?_
                      refine w_slice rfl rfl rfl rfl rfl (slice_al (i := 1) u34 s27 (by intro _; rfl) (by rfl) (by rfl) (by omega) (by omega)) ?_
                      refine w_move rfl rfl ?_
                      refine w_add u3 rfl rfl rfl (by omega) ?_
                      refine w_assign rfl rfl ?_
                      refine w_assign rfl rfl ?_
                      refine ws_nil ?_
                      rw [show (q.drop 1).take (q.length - 1) = q.tail by rw [take_drop_last _ rfl]; exact List.drop_one]
                      have hfin : Inv R (i + 1) (q.tail, nx, dr, tk0 + 1, s1, takeR q r1) := ⟨by simp only [List.length_tail]; omega, by simp only [List.length_tail]; omega, by simp only; omega, fun y hy => hal y (List.mem_of_mem_tail hy)⟩
                      exact ⟨rfl, ⟨(q.tail, nx, dr, tk0 + 1, s1, takeR q r1), hfin⟩, (.cons rfl (.cons rfl (.cons rfl (.cons rfl (.cons rfl (.cons rfl (.cons rfl (.cons rfl (.nil _))))))))), (Sel.weak (.cons tk (.cons tk .nil)))⟩
                    · obtain rfl := List.eq_nil_of_length_eq_zero (okQ_F (hob.trans h31)).1
                      refine wc_stay ?_
                      have hfin : Inv R (i + 1) ([], nx, dr, tk0, s1, takeR [] r1) := ⟨hq, hnx, by simp only; omega, hal⟩
                      exact ⟨rfl, ⟨([], nx, dr, tk0, s1, takeR [] r1), hfin⟩, (.cons rfl (.cons rfl (.cons rfl (.cons rfl (.cons rfl (.cons rfl (.cons rfl (.cons rfl (.nil _))))))))), (Sel.weak (.cons tk (.cons tk .nil)))⟩
                · first | replace g125 := of_decide_eq_true g125 | replace g125 := of_decide_eq_false g125 | replace g125 := of_decide_eq_false (nb_T g125) | replace g125 := of_decide_eq_true (nb_F g125) | replace g125 := nb_T g125 | replace g125 := nb_F g125 | skip
                  first | replace g125 := Int.not_lt.mp g125 | replace g125 := Int.not_le.mp g125 | replace g125 := Decidable.not_not.mp g125 | skip
                  rw [g113] at g125; cases g125
          · first | replace h27 := of_decide_eq_true h27 | replace h27 := of_decide_eq_false h27 | replace h27 := of_decide_eq_false (nb_T h27) | replace h27 := of_decide_eq_true (nb_F h27) | replace h27 := nb_T h27 | replace h27 := nb_F h27 | skip
            first | replace h27 := Int.not_lt.mp h27 | replace h27 := Int.not_le.mp h27 | replace h27 := Decidable.not_not.mp h27 | skip
            refine wc_stay ?_
            have hfin : Inv R (i + 1) (q, nx, dr, tk0, s1, r1) := ⟨hq, hnx, by simp only; omega, hal⟩
            exact ⟨rfl, ⟨(q, nx, dr, tk0, s1, r1), hfin⟩, (.cons rfl (.cons rfl (.cons rfl (.cons rfl (.cons rfl (.cons rfl (.cons rfl (.cons rfl (.nil _))))))))), (Sel.weak (.cons tk (.cons tk .nil)))⟩
      rintro ⟨⟨q3, nx3, dr3, tk3, s3, r3⟩, hI3⟩
      try dsimp only
      have hI4 := hI3
      obtain ⟨hq3, hnx3, hnb3, hal3⟩ := hI4
      simp only at hq3 hnx3 hnb3 hal3
      refine wc_seq ?_
      refine wc_text ?_
      refine w_move rfl rfl ?_
      refine w_call rfl rfl (CallW.mono (CallW.weak (Sel.weak (.cons tk (.cons tk .rest))) (len_fn _ _ _ _ _ _ _ _)) ?_)
      rintro _ _ ⟨_, rfl, rfl, rfl⟩
      try simp only [List.cons_append, List.nil_append]
      refine w_move rfl rfl ?_
      first | refine w_len rfl rfl (len_lst u34) ?_ | refine w_len rfl rfl (len_slice u34) ?_ | refine w_lenO rfl u34 rfl rfl tk ?_
      refine w_neq u3 rfl rfl rfl ?_
      refine w_move rfl rfl ?_
      refine ws_split (t := 144) rfl (fun g144 => ?_) (fun g144 => ?_)
      · first | replace g144 := of_decide_eq_true g144 | replace g144 := of_decide_eq_false g144 | replace g144 := of_decide_eq_false (nb_T g144) | replace g144 := of_decide_eq_true (nb_F g144) | replace g144 := nb_T g144 | replace g144 := nb_F g144 | skip
        first | replace g144 := Int.not_lt.mp g144 | replace g144 := Int.not_le.mp g144 | replace g144 := Decidable.not_not.mp g144 | skip
        exact absurd rfl g144
      · first | replace g144 := of_decide_eq_true g144 | replace g144 := of_decide_eq_false g144 | replace g144 := of_decide_eq_false (nb_T g144) | replace g144 := of_decide_eq_true (nb_F g144) | replace g144 := nb_T g144 | replace g144 := nb_F g144 | skip
        first | replace g144 := Int.not_lt.mp g144 | replace g144 := Int.not_le.mp g144 | replace g144 := Decidable.not_not.mp g144 | skip
        refine ws_on rfl rfl ?_
        refine w_move rfl rfl ?_
        refine ws_on rfl rfl ?_
        refine w_call rfl rfl (CallW.mono (CallW.weak (Sel.weak (.cons tk (.cons tk .rest))) (dropped_fn _ _ _ _ _ _ _ _)) ?_)
        rintro _ _ ⟨_, rfl, rfl, rfl⟩
        try simp only [List.cons_append, List.nil_append]
        refine ws_on rfl rfl ?_
        refine w_move rfl rfl ?_
        refine ws_on rfl rfl ?_
        refine w_neq u3 rfl rfl rfl ?_
        first | refine w_pickT rfl rfl rfl ⟨_, rfl⟩ ?_ | refine w_pickF rfl rfl ⟨_, rfl⟩ rfl ?_ | refine w_pick rfl rfl rfl rfl ?_
        refine w_move rfl rfl ?_
        refine ws_split (t := 150) rfl (fun g150 => ?_) (fun g150 => ?_)
        · first | replace g150 := of_decide_eq_true g150 | replace g150 := of_decide_eq_false g150 | replace g150 := of_decide_eq_false (nb_T g150) | replace g150 := of_decide_eq_true (nb_F g150) | replace g150 := nb_T g150 | replace g150 := nb_F g150 | skip
          first | replace g150 := Int.not_lt.mp g150 | replace g150 := Int.not_le.mp g150 | replace g150 := Decidable.not_not.mp g150 | skip
          exact absurd rfl g150
        · first | replace g150 := of_decide_eq_true g150 | replace g150 := of_decide_eq_false g150 | replace g150 := of_decide_eq_false (nb_T g150) | replace g150 := of_decide_eq_true (nb_F g150) | replace g150 := nb_T g150 | replace g150 := nb_F g150 | skip
          first | replace g150 := Int.not_lt.mp g150 | replace g150 := Int.not_le.mp g150 | replace g150 := Decidable.not_not.mp g150 | skip
          refine ws_on rfl rfl ?_
          refine w_move rfl rfl ?_
          refine ws_on rfl rfl ?_
          refine w_move rfl rfl ?_
          refine ws_on rfl rfl ?_
          refine w_move rfl rfl ?_
          refine ws_on rfl rfl ?_
          refine w_add u3 rfl rfl rfl (by omega) ?_
          refine ws_on rfl rfl ?_
          refine w_move rfl rfl ?_
          refine ws_on rfl rfl ?_
          first | refine w_len rfl rfl (len_lst u34) ?_ | refine w_len rfl rfl (len_slice u34) ?_ | refine w_lenO rfl u34 rfl rfl tk ?_
          refine ws_on rfl rfl ?_
          refine w_add u3 rfl rfl rfl (by omega) ?_
          refine ws_on rfl rfl ?_
          refine w_neq u3 rfl rfl rfl ?_
          first | refine w_pickT rfl rfl rfl ⟨_, rfl⟩ ?_ | refine w_pickF rfl rfl ⟨_, rfl⟩ rfl ?_ | refine w_pick rfl rfl rfl rfl ?_
          refine ws_nil ?_
          refine wc_cond rfl (fun h33 => ?_) (fun h33 => ?_)
          · first | replace h33 := of_decide_eq_true h33 | replace h33 := of_decide_eq_false h33 | replace h33 := of_decide_eq_false (nb_T h33) | replace h33 := of_decide_eq_true (nb_F h33) | replace h33 := nb_T h33 | replace h33 := nb_F h33 | skip
            first | replace h33 := Int.not_lt.mp h33 | replace h33 := Int.not_le.mp h33 | replace h33 := Decidable.not_not.mp h33 | skip
            exact absurd (by omega) h33
          · first | replace h33 := of_decide_eq_true h33 | replace h33 := of_decide_eq_false h33 | replace h33 := of_decide_eq_false (nb_T h33) | replace h33 := of_decide_eq_true (nb_F h33) | replace h33 := nb_T h33 | replace h33 := nb_F h33 | skip
            first | replace h33 := Int.not_lt.mp h33 | replace h33 := Int.not_le.mp h33 | replace h33 := Decidable.not_not.mp h33 | skip
            refine wc_stay ?_
            refine wc_text ?_
            refine w_move rfl rfl ?_
            refine w_add u3 rfl rfl rfl (by omega) ?_
            refine w_assign rfl rfl ?_
            refine ws_nil ?_
            exact ⟨⟨(i + 1, q3, nx3, dr3, tk3, s3, r3), hI3, (by omega : i + 1 ≤ l.length), (by omega : i + 1 ≤ 40)⟩, by simp only; omega, (.cons rfl (.cons rfl (.cons rfl (.cons rfl (.cons rfl (.cons rfl (.cons rfl (.cons rfl (.nil _))))))))), (Sel.weak (.cons tk (.cons tk .nil)))⟩
    · skip
      refine wc_exit ?_
      refine wc_seq ?_
      refine wc_text ?_
      refine w_call rfl rfl (cw_fn rfl rfl .nil (runsM_fn) ?_)
      refine w_assign rfl rfl ?_
      refine ws_nil ?_
      refine wc_ret ?_
      refine ⟨_, (.cons (.tmp rfl) .nil), ?_, rfl⟩
      rfl
end Go.Proofs.Ytknpdigpendnjaa.ml
