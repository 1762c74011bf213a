/-
  Package disk, walked by facts (printed by gen_dk.py).
-/
import Derived.Test.YtknpdigpendnjaaBhDk4
namespace Go.Proofs.Ytknpdigpendnjaa.dk
open Go Go.Proofs Go.Proofs.Ytknpdigpendnjaa.BH Go.Proofs.Ytknpdigpendnjaa.BH.Dk
set_option maxRecDepth 100000
set_option maxHeartbeats 4000000 in
theorem plays_law (room : Int) (l : List AskD) (hl0 : l.length ≤ 9223372036854775807) (hl1 : ∀ q ∈ l, AskOk q) : PFn C 9 [.int .i64 room, AL eAsk l] (.bool true) := by
  refine fn_view rfl rfl (fn := Try.f9) rfl rfl rfl rfl rfl ?_
  refine wc_seq ?_
  refine wc_text ?_
  refine w_assign rfl rfl ?_
  refine ws_nil ?_
  refine wc_seq ?_
  refine wc_text ?_
  refine w_move rfl rfl ?_
  refine w_call rfl rfl (cw_fn rfl rfl (.cons fz (.cons fz (.cons fz .nil))) (clamp_fn _ _ _) ?_)
  refine w_assign rfl rfl ?_
  refine ws_nil ?_
  rw [clamp_new]
  refine wc_seq ?_
  refine wc_text ?_
  refine w_move rfl rfl ?_
  refine w_call rfl rfl (CallW.mono (new_fn _ _) ?_)
  rintro _ _ ⟨_, rfl, o25, rfl, rfl⟩
  try simp only [List.cons_append, List.nil_append]
  refine w_assign rfl rfl ?_
  refine ws_nil ?_
  refine wc_seq ?_
  refine wc_seq ?_
  refine wc_text ?_
  refine w_move rfl rfl ?_
  refine w_ceql u44 (by simp) (by simp) rfl rfl rfl (cmp_ptr u44 rfl rfl) ?_
  refine ws_nil ?_
  refine wc_cond rfl (fun h3 => ?_) (fun h3 => ?_)
  · first | replace h3 := of_decide_eq_true h3 | replace h3 := of_decide_eq_false h3 | replace h3 := of_decide_eq_false (nb_T h3) | replace h3 := of_decide_eq_true (nb_F h3) | replace h3 := nb_T h3 | replace h3 := nb_F h3 | skip
    first | replace h3 := Int.not_lt.mp h3 | replace h3 := Int.not_le.mp h3 | replace h3 := Decidable.not_not.mp h3 | skip
    cases h3
  · first | replace h3 := of_decide_eq_true h3 | replace h3 := of_decide_eq_false h3 | replace h3 := of_decide_eq_false (nb_T h3) | replace h3 := of_decide_eq_true (nb_F h3) | replace h3 := nb_T h3 | replace h3 := nb_F h3 | skip
    first | replace h3 := Int.not_lt.mp h3 | replace h3 := Int.not_le.mp h3 | replace h3 := Decidable.not_not.mp h3 | skip
    refine wc_stay ?_
    refine wc_seq ?_
    refine wc_text ?_
    refine w_assign rfl rfl ?_
    refine ws_nil ?_
    refine WC.weakSlot (t := 7) (v := nilSlice) rfl rfl (nil_le false true rfl) ?_
    refine wc_seq ?_
    refine wc_text ?_
    refine w_assign rfl rfl ?_
    refine w_assign rfl rfl ?_
    refine w_assign rfl rfl ?_
    refine ws_nil ?_
    refine wc_seq ?_
    refine wc_seq ?_
    refine wc_text ?_
    refine w_assign rfl rfl ?_
    refine ws_nil ?_
    refine wc_block ?_
    refine wc_loop (σ := { p : St × Nat // Ok p.1 ∧ p.2 ≤ l.length ∧ p.2 ≤ 40 }) (fun s => [(1, AL eAsk l), (5, .int .i64 s.1.1.room), (6, .ptr (some ⟨o25, 0⟩)), (7, AL eB s.1.1.b), (8, .int .i64 s.1.1.firm), (9, .int .i64 (fuz s.1.1)), (10, .bool s.1.1.off), (11, .int .i64 (s.1.2 : Nat))]) (fun s => [.obj o25 (.row 67 6 false (DK s.1.1))]) (fun s => 40 - s.1.2) ?_ ⟨(newS room, 0), newS_ok room, Nat.zero_le _, Nat.zero_le _⟩ (.cons rfl (.cons rfl (.cons rfl (.cons rfl (.cons rfl (.cons rfl (.cons rfl (.cons rfl (.nil _))))))))) (Sel.weak (.cons tk .nil))
    rintro ⟨⟨s, i⟩, k, hi, hi4⟩
    dsimp only
    simp only at k hi hi4
    have kb := k.b
    have kr := k.r1
    have kr0 := k.r0
    have kf0 := k.f0
    have kf1 := k.f1
    have kz := fz_le s k
    refine wc_seq ?_
    refine wc_seq ?_
    refine wc_cut [(1, AL eAsk l), (5, .int .i64 s.room), (6, .ptr (some ⟨o25, 0⟩)), (7, AL eB s.b), (8, .int .i64 s.firm), (9, .int .i64 (fuz s)), (10, .bool s.off), (11, .int .i64 (i : Nat)), (35, .bool (decide (i < l.length ∧ i < 40)))] [.obj o25 (.row 67 6 false (DK s))] ?_ ?_
    · skip
      refine wc_text ?_
      refine w_move rfl rfl ?_
      refine w_move rfl rfl ?_
      first | refine w_len rfl rfl (len_lst u54) ?_ | refine w_len rfl rfl (len_slice u54) ?_ | refine w_lenO rfl u54 rfl rfl tk ?_
      refine w_lss u3 rfl rfl rfl ?_
      refine w_move rfl rfl ?_
      refine ws_split (t := 32) rfl (fun g32 => ?_) (fun g32 => ?_)
      · first | replace g32 := of_decide_eq_true g32 | replace g32 := of_decide_eq_false g32 | replace g32 := of_decide_eq_false (nb_T g32) | replace g32 := of_decide_eq_true (nb_F g32) | replace g32 := nb_T g32 | replace g32 := nb_F g32 | skip
        first | replace g32 := Int.not_lt.mp g32 | replace g32 := Int.not_le.mp g32 | replace g32 := Decidable.not_not.mp g32 | skip
        refine ws_on rfl rfl ?_
        refine w_move rfl rfl ?_
        refine ws_on rfl rfl ?_
        refine w_lss u3 rfl rfl rfl ?_
        first | refine w_pickT rfl rfl rfl ⟨_, rfl⟩ ?_ | refine w_pickF rfl rfl ⟨_, rfl⟩ rfl ?_ | refine w_pick rfl rfl rfl rfl ?_
        exact ws_nil ⟨rfl, (.cons (by first | rfl | (refine congrArg some (congrArg AV.bool ?_); simp_all; first | omega | (intros; omega))) (.cons (by first | rfl | (refine congrArg some (congrArg AV.bool ?_); simp_all; first | omega | (intros; omega))) (.cons (by first | rfl | (refine congrArg some (congrArg AV.bool ?_); simp_all; first | omega | (intros; omega))) (.cons (by first | rfl | (refine congrArg some (congrArg AV.bool ?_); simp_all; first | omega | (intros; omega))) (.cons (by first | rfl | (refine congrArg some (congrArg AV.bool ?_); simp_all; first | omega | (intros; omega))) (.cons (by first | rfl | (refine congrArg some (congrArg AV.bool ?_); simp_all; first | omega | (intros; omega))) (.cons (by first | rfl | (refine congrArg some (congrArg AV.bool ?_); simp_all; first | omega | (intros; omega))) (.cons (by first | rfl | (refine congrArg some (congrArg AV.bool ?_); simp_all; first | omega | (intros; omega))) (.cons (by first | rfl | (refine congrArg some (congrArg AV.bool ?_); simp_all; first | omega | (intros; omega))) (.nil _)))))))))), (Sel.weak (.cons tk .nil))⟩
      · first | replace g32 := of_decide_eq_true g32 | replace g32 := of_decide_eq_false g32 | replace g32 := of_decide_eq_false (nb_T g32) | replace g32 := of_decide_eq_true (nb_F g32) | replace g32 := nb_T g32 | replace g32 := nb_F g32 | skip
        first | replace g32 := Int.not_lt.mp g32 | replace g32 := Int.not_le.mp g32 | replace g32 := Decidable.not_not.mp g32 | skip
        refine ws_off rfl rfl rfl rfl ?_
        refine ws_off rfl rfl rfl rfl ?_
        first | refine w_pickT rfl rfl rfl ⟨_, rfl⟩ ?_ | refine w_pickF rfl rfl ⟨_, rfl⟩ rfl ?_ | refine w_pick rfl rfl rfl rfl ?_
        exact ws_nil ⟨rfl, (.cons (by first | rfl | (refine congrArg some (congrArg AV.bool ?_); simp_all; first | omega | (intros; omega))) (.cons (by first | rfl | (refine congrArg some (congrArg AV.bool ?_); simp_all; first | omega | (intros; omega))) (.cons (by first | rfl | (refine congrArg some (congrArg AV.bool ?_); simp_all; first | omega | (intros; omega))) (.cons (by first | rfl | (refine congrArg some (congrArg AV.bool ?_); simp_all; first | omega | (intros; omega))) (.cons (by first | rfl | (refine congrArg some (congrArg AV.bool ?_); simp_all; first | omega | (intros; omega))) (.cons (by first | rfl | (refine congrArg some (congrArg AV.bool ?_); simp_all; first | omega | (intros; omega))) (.cons (by first | rfl | (refine congrArg some (congrArg AV.bool ?_); simp_all; first | omega | (intros; omega))) (.cons (by first | rfl | (refine congrArg some (congrArg AV.bool ?_); simp_all; first | omega | (intros; omega))) (.cons (by first | rfl | (refine congrArg some (congrArg AV.bool ?_); simp_all; first | omega | (intros; omega))) (.nil _)))))))))), (Sel.weak (.cons tk .nil))⟩
    refine wc_cond rfl (fun h8 => ?_) (fun h8 => ?_)
    · replace h8 := of_decide_eq_true h8
      refine wc_stay ?_
      refine wc_seq ?_
      refine wc_block ?_
      refine wc_seq ?_
      refine wc_text ?_
      obtain ⟨q, hx⟩ := get_of_lt (l := l) (k := i) (by omega)
      have hq := hl1 q (List.mem_of_getElem? hx)
      have hqa := hq.a
      have hqb := hq.b
      refine w_move rfl rfl ?_
      refine w_move rfl rfl ?_
      first | refine w_lidx u54 s56 rfl rfl rfl (by omega) ?_ | refine w_slidx u54 s56 rfl rfl rfl (by omega) ?_
      first | refine w_ldC a56 s56 rfl rfl agc ?_ | refine w_ldP a56 s56 rfl rfl tk agp ?_
      refine w_alloc z56 s56 rfl (fun o12 => ?_)
      refine w_st s56 rfl rfl rfl tk rfl rfl ovw ?_
      refine ws_nil ?_
      refine WC.freezePtr (t := 12) (cs := eAsk q) rfl rfl .head rfl ?_
      refine wc_seq ?_
      refine wc_text ?_
      refine w_assign rfl rfl ?_
      refine w_assign rfl rfl ?_
      refine ws_nil ?_
      refine wc_seq ?_
      refine wc_seq ?_
      refine wc_text ?_
      first | refine w_faddrC O56_0 rfl rfl ?_ | refine w_faddrP O56_0 rfl rfl ?_
      first | refine w_ldC1 a3 rfl rfl rdc ?_ | refine w_ldP1 a3 rfl rfl tk rdp ?_
      refine ws_nil ?_
      refine wc_cutX (σ := { x : St × Int // Ok x.1 }) (fun x => [(1, AL eAsk l), (5, .int .i64 x.1.1.room), (6, .ptr (some ⟨o25, 0⟩)), (7, AL eB x.1.1.b), (8, .int .i64 x.1.1.firm), (9, .int .i64 (fuz x.1.1)), (10, .bool x.1.1.off), (11, .int .i64 (i : Nat)), (13, .int .i64 x.1.2), (14, .int .i64 x.1.2)]) (fun x => [.obj o25 (.row 67 6 false (DK x.1.1))]) ?_ ?_
      · skip
        refine wc_block ?_
        refine wc_seq ?_
        refine wc_text ?_
        refine w_eql u3 rfl rfl rfl ?_
        refine w_assign rfl rfl ?_
        refine ws_nil ?_
        refine wc_cond rfl (fun h13 => ?_) (fun h13 => ?_)
        · replace h13 := of_decide_eq_true h13
          obtain ⟨A, hAe, hA⟩ : ∃ A, (q.a.drop 0).take (min q.a.length 12 - 0) = A ∧ A.length ≤ 12 := ⟨_, rfl, by simp; omega⟩
          obtain ⟨B, hBe, hB⟩ : ∃ B, (q.b.drop 0).take (min q.b.length 12 - 0) = B ∧ B.length ≤ 12 := ⟨_, rfl, by simp; omega⟩
          refine wc_seq ?_
          refine wc_cutX (σ := AV × AV) (fun v => [(1, AL eAsk l), (5, .int .i64 s.room), (6, .ptr (some ⟨o25, 0⟩)), (7, AL eB s.b), (8, .int .i64 s.firm), (9, .int .i64 (fuz s)), (10, .bool s.off), (11, .int .i64 (i : Nat)), (12, .cptr (eAsk q) 0), (13, .int .i64 0), (14, .int .i64 0), (15, v.1), (16, v.2)]) (fun v => [.own v.1 5 1 (A.flatMap eB) A.length, .own v.2 5 1 (B.flatMap eB) B.length, .obj o25 (.row 67 6 false (DK s))]) ?_ ?_
          · skip
            refine wc_free [0, 0, 2, 0, 8, 24, 56, 126, 255, 0, 0, 1024, 0, 4096, 12288, 28672, 64512, 131071, 262143, 524287] (by kernel_rfl) (by kernel_rfl) (fun F => ?_)
            refine wr_lazy F 0 rfl (by kernel_rfl) rfl rfl (lz_empty u37 s5 z5) (.inl rfl) ?_
            refine wr_float F 1 rfl (by kernel_rfl) (.inl (by kernel_rfl)) ?_
            first | refine w_faddrC O56_2 rfl rfl ?_ | refine w_faddrP O56_2 rfl rfl ?_
            refine ws_nil ?_
            refine wr_pure F 2 rfl (by kernel_rfl) rfl rfl (pf_ldC1 a37 rfl rdc) (.inl rfl) ?_
            refine wr_float F 3 rfl (by kernel_rfl) (.inl (by kernel_rfl)) ?_
            first | refine w_faddrC O56_2 rfl rfl ?_ | refine w_faddrP O56_2 rfl rfl ?_
            refine ws_nil ?_
            refine wr_pure F 4 rfl (by kernel_rfl) rfl rfl (pf_ldC1 a37 rfl rdc) (.inl rfl) ?_
            refine wr_float F 5 rfl (by kernel_rfl) (.inl (by kernel_rfl)) ?_
            first | refine w_len rfl rfl (len_lst u37) ?_ | refine w_len rfl rfl (len_slice u37) ?_ | refine w_lenO rfl u37 rfl rfl tk ?_
            refine ws_nil ?_
            refine wr_float F 6 rfl (by kernel_rfl) (.inl (by kernel_rfl)) ?_
            refine w_min rfl rfl rfl ?_
            refine ws_nil ?_
            refine wr_pure F 7 rfl (by kernel_rfl) rfl rfl (pf_slice rfl rfl rfl rfl (slice_al (i := 0) (j := min q.a.length 12) u37 s5 (by intro _; rfl) (by rfl) (natOr_of (by omega)) (by omega) (by omega))) (.inl rfl) ?_
            rw [hAe]
            refine wr_lazy F 9 rfl (by kernel_rfl) rfl rfl (lz_empty u37 s5 z5) (.inl rfl) ?_
            refine wr_float F 10 rfl (by kernel_rfl) (.inl (by kernel_rfl)) ?_
            first | refine w_faddrC O56_3 rfl rfl ?_ | refine w_faddrP O56_3 rfl rfl ?_
            refine ws_nil ?_
            refine wr_pure F 11 rfl (by kernel_rfl) rfl rfl (pf_ldC1 a37 rfl rdc) (.inl rfl) ?_
            refine wr_float F 12 rfl (by kernel_rfl) (.inl (by kernel_rfl)) ?_
            first | refine w_faddrC O56_3 rfl rfl ?_ | refine w_faddrP O56_3 rfl rfl ?_
            refine ws_nil ?_
            refine wr_pure F 13 rfl (by kernel_rfl) rfl rfl (pf_ldC1 a37 rfl rdc) (.inl rfl) ?_
            refine wr_float F 14 rfl (by kernel_rfl) (.inl (by kernel_rfl)) ?_
            first | refine w_len rfl rfl (len_lst u37) ?_ | refine w_len rfl rfl (len_slice u37) ?_ | refine w_lenO rfl u37 rfl rfl tk ?_
            refine ws_nil ?_
            refine wr_float F 15 rfl (by kernel_rfl) (.inl (by kernel_rfl)) ?_
            refine w_min rfl rfl rfl ?_
            refine ws_nil ?_
            refine wr_pure F 16 rfl (by kernel_rfl) rfl rfl (pf_slice rfl rfl rfl rfl (slice_al (i := 0) (j := min q.b.length 12) u37 s5 (by intro _; rfl) (by rfl) (natOr_of (by omega)) (by omega) (by omega))) (.inl rfl) ?_
            rw [hBe]
            refine wr_next F (l := [8]) (by kernel_rfl) (by simp) (.cons rfl ?_ (.nil))
            refine WS.ownEmpty (v := .lst [] 0 true true) (.inr rfl) 5 1 ?_
            refine w_appO (enc := eB) (l := []) rfl u37 s5 b5 z5 u37 (by simp) rfl rfl rfl tk nw (by unfold bigBy; first | omega | (simp only [List.length_nil, List.length_cons, List.length_append, List.length_take, List.length_drop]; omega)) (by unfold bigBy; first | omega | (simp only [List.length_nil, List.length_cons, List.length_append, List.length_take, List.length_drop]; omega)) (fun v54 => ?_)
            rw [List.nil_append]
            refine ws_nil ?_
            refine wr_next F (l := [17]) (by kernel_rfl) (by simp) (.cons rfl ?_ (.nil))
            refine WS.ownEmpty (v := .lst [] 0 true true) (.inr rfl) 5 1 ?_
            refine w_appO (enc := eB) (l := []) rfl u37 s5 b5 z5 u37 (by simp) rfl rfl rfl tk nw (by unfold bigBy; first | omega | (simp only [List.length_nil, List.length_cons, List.length_append, List.length_take, List.length_drop]; omega)) (by unfold bigBy; first | omega | (simp only [List.length_nil, List.length_cons, List.length_append, List.length_take, List.length_drop]; omega)) (fun v63 => ?_)
            rw [List.nil_append]
            refine ws_nil ?_
            refine wr_float F 18 rfl (by kernel_rfl) (.inl (by kernel_rfl)) ?_
            refine w_assign rfl rfl ?_
            refine ws_nil ?_
            refine wr_float F 19 rfl (by kernel_rfl) (.inl (by kernel_rfl)) ?_
            refine w_assign rfl rfl ?_
            refine ws_nil ?_
            refine wr_end F (by kernel_rfl) ?_
            exact ⟨rfl, (v54, v63), (.cons rfl (.cons rfl (.cons rfl (.cons rfl (.cons rfl (.cons rfl (.cons rfl (.cons rfl (.cons rfl (.cons rfl (.cons rfl (.cons rfl (.cons rfl (.nil _)))))))))))))), (Sel.weak (.cons tk (.cons tk (.cons tk .nil))))⟩
          rintro ⟨v15, v16⟩
          dsimp only
          refine wc_seq ?_
          refine wc_text ?_
          refine w_buildS (cs := []) u37 s5 z5 (by decide) rfl rfl rfl (fun o64 => ?_)
          refine w_move rfl rfl ?_
          refine WS.ownEmpty (v := .slice (some ⟨o64, 0⟩) 0 (.exact 0)) (.inl ⟨_, rfl⟩) 5 1 ?_
          refine w_appO (enc := eB) (l := []) (m := A) rfl u37 s5 b5 z5 u37 (by simp) rfl rfl rfl tk (new_own tk (flat_length eB_len _) (flat_scalar byte_scalar _)) (by unfold bigBy; first | omega | (simp only [List.length_nil, List.length_cons, List.length_append, List.length_take, List.length_drop]; omega)) (by unfold bigBy; first | omega | (simp only [List.length_nil, List.length_cons, List.length_append, List.length_take, List.length_drop]; omega)) (fun v66 => ?_)
          refine w_move rfl rfl ?_
          refine w_appL (enc := eB) (l := [] ++ A) (m := B) rfl u37 s5 b5 z5 u37 (by simp) rfl rfl rfl tk (new_own tk (flat_length eB_len _) (flat_scalar byte_scalar _)) (by unfold bigBy; first | omega | (simp only [List.length_nil, List.length_cons, List.length_append, List.length_take, List.length_drop]; omega)) (by unfold bigBy; first | omega | (simp only [List.length_nil, List.length_cons, List.length_append, List.length_take, List.length_drop]; omega)) (by intro _; rfl) ?_
          refine w_assign rfl rfl ?_
          refine ws_nil ?_
          rw [List.nil_append]
          have hab : (A ++ B).length = A.length + B.length := List.length_append
          refine wc_seq ?_
          refine wc_cutX (σ := Unit) (fun _ => [(1, AL eAsk l), (5, .int .i64 s.room), (6, .ptr (some ⟨o25, 0⟩)), (7, AL eB (writeS s (A ++ B)).b), (8, .int .i64 s.firm), (9, .int .i64 (fuz (writeS s (A ++ B)))), (10, .bool (writeS s (A ++ B)).off), (11, .int .i64 (i : Nat)), (13, .int .i64 0), (14, .int .i64 (writeV s (A ++ B))), (15, v15), (16, v16)]) (fun _ => [.own v15 5 1 (A.flatMap eB) A.length, .own v16 5 1 (B.flatMap eB) B.length, .obj o25 (.row 67 6 false (DK s))]) ?_ ?_
          · skip
            refine wc_block ?_
            refine wc_seq ?_
            refine wc_text ?_
            refine w_move rfl rfl ?_
            refine w_assign rfl rfl ?_
            refine ws_nil ?_
            refine wc_cond rfl (fun h19 => ?_) (fun h19 => ?_)
            · skip
              refine wc_text ?_
              refine w_assign rfl rfl ?_
              refine ws_nil ?_
              obtain ⟨wv, ws⟩ := wr_off (l := A ++ B) h19
              have e7 : (writeS s (A ++ B)).b = s.b := by rw [ws]
              have e9 : fuz (writeS s (A ++ B)) = fuz s := by rw [ws]
              have e10 : (writeS s (A ++ B)).off = s.off := by rw [ws]
              exact ⟨rfl, (), (.cons rfl (.cons rfl (.cons rfl (.cons (by first | rfl | (rw [e7]; done) | (rw [e7]; rfl)) (.cons rfl (.cons (by first | rfl | (rw [e9]; done) | (rw [e9]; rfl)) (.cons (by first | rfl | (rw [e10]; done) | (rw [e10]; rfl)) (.cons rfl (.cons rfl (.cons (by first | rfl | (rw [wv]; done) | (rw [wv]; rfl)) (.cons rfl (.cons rfl (.nil _))))))))))))), (Sel.weak (.cons tk (.cons tk (.cons tk .nil))))⟩
            · skip
              refine wc_seq ?_
              refine wc_text ?_
              refine w_move rfl rfl ?_
              first | refine w_len rfl rfl (len_lst u37) ?_ | refine w_len rfl rfl (len_slice u37) ?_ | refine w_lenO rfl u37 rfl rfl tk ?_
              refine w_move rfl rfl ?_
              first | refine w_len rfl rfl (len_lst u37) ?_ | refine w_len rfl rfl (len_slice u37) ?_ | refine w_lenO rfl u37 rfl rfl tk ?_
              refine w_add u3 rfl rfl rfl (by omega) ?_
              refine w_move rfl rfl ?_
              refine w_gtr u3 rfl rfl rfl ?_
              refine w_assign rfl rfl ?_
              refine ws_nil ?_
              refine wc_cond rfl (fun h21 => ?_) (fun h21 => ?_)
              · first | replace h21 := of_decide_eq_true h21 | replace h21 := of_decide_eq_false h21 | replace h21 := of_decide_eq_false (nb_T h21) | replace h21 := of_decide_eq_true (nb_F h21) | replace h21 := nb_T h21 | replace h21 := nb_F h21 | skip
                first | replace h21 := Int.not_lt.mp h21 | replace h21 := Int.not_le.mp h21 | replace h21 := Decidable.not_not.mp h21 | skip
                refine wc_text ?_
                refine w_assign rfl rfl ?_
                refine ws_nil ?_
                obtain ⟨wv, ws⟩ := writeF (l := A ++ B) h19 (by omega)
                have e7 : (writeS s (A ++ B)).b = s.b := by rw [ws]
                have e9 : fuz (writeS s (A ++ B)) = fuz s := by rw [ws]
                have e10 : (writeS s (A ++ B)).off = s.off := by rw [ws]
                exact ⟨rfl, (), (.cons rfl (.cons rfl (.cons rfl (.cons (by first | rfl | (rw [e7]; done) | (rw [e7]; rfl)) (.cons rfl (.cons (by first | rfl | (rw [e9]; done) | (rw [e9]; rfl)) (.cons (by first | rfl | (rw [e10]; done) | (rw [e10]; rfl)) (.cons rfl (.cons rfl (.cons (by first | rfl | (rw [wv]; done) | (rw [wv]; rfl)) (.cons rfl (.cons rfl (.nil _))))))))))))), (Sel.weak (.cons tk (.cons tk (.cons tk .nil))))⟩
              · first | replace h21 := of_decide_eq_true h21 | replace h21 := of_decide_eq_false h21 | replace h21 := of_decide_eq_false (nb_T h21) | replace h21 := of_decide_eq_true (nb_F h21) | replace h21 := nb_T h21 | replace h21 := nb_F h21 | skip
                first | replace h21 := Int.not_lt.mp h21 | replace h21 := Int.not_le.mp h21 | replace h21 := Decidable.not_not.mp h21 | skip
                refine wc_seq ?_
                refine wc_text ?_
                refine w_move rfl rfl ?_
                refine w_geq u3 rfl rfl rfl ?_
                refine w_move rfl rfl ?_
                refine ws_split (t := 93) rfl (fun g93 => ?_) (fun g93 => ?_)
                · first | replace g93 := of_decide_eq_true g93 | replace g93 := of_decide_eq_false g93 | replace g93 := of_decide_eq_false (nb_T g93) | replace g93 := of_decide_eq_true (nb_F g93) | replace g93 := nb_T g93 | replace g93 := nb_F g93 | skip
                  first | replace g93 := Int.not_lt.mp g93 | replace g93 := Int.not_le.mp g93 | replace g93 := Decidable.not_not.mp g93 | skip
                  obtain ⟨hl, hfz⟩ := fz_lit g93
                  rw [hfz]
                  refine ws_on rfl rfl ?_
                  refine w_move rfl rfl ?_
                  refine ws_on rfl rfl ?_
                  first | refine w_len rfl rfl (len_lst u37) ?_ | refine w_len rfl rfl (len_slice u37) ?_ | refine w_lenO rfl u37 rfl rfl tk ?_
                  refine ws_on rfl rfl ?_
                  refine w_move rfl rfl ?_
                  refine ws_on rfl rfl ?_
                  refine w_gtr u3 rfl rfl rfl ?_
                  first | refine w_pickT rfl rfl rfl ⟨_, rfl⟩ ?_ | refine w_pickF rfl rfl ⟨_, rfl⟩ rfl ?_ | refine w_pick rfl rfl rfl rfl ?_
                  refine w_assign rfl rfl ?_
                  refine ws_nil ?_
                  refine wc_cond rfl (fun h23 => ?_) (fun h23 => ?_)
                  · first | replace h23 := of_decide_eq_true h23 | replace h23 := of_decide_eq_false h23 | replace h23 := of_decide_eq_false (nb_T h23) | replace h23 := of_decide_eq_true (nb_F h23) | replace h23 := nb_T h23 | replace h23 := nb_F h23 | skip
                    first | replace h23 := Int.not_lt.mp h23 | replace h23 := Int.not_le.mp h23 | replace h23 := Decidable.not_not.mp h23 | skip
                    refine wc_seq ?_
                    refine wc_free [0, 0, 3, 0, 0, 24, 63, 127, 255, 511] (by kernel_rfl) (by kernel_rfl) (fun F => ?_)
                    refine wr_lazy F 0 rfl (by kernel_rfl) rfl rfl (lz_empty u37 s5 z5) (.inl rfl) ?_
                    refine wr_float F 1 rfl (by kernel_rfl) (.inl (by kernel_rfl)) ?_
                    refine w_move rfl rfl ?_
                    refine ws_nil ?_
                    refine wr_float F 3 rfl (by kernel_rfl) (.inl (by kernel_rfl)) ?_
                    refine w_move rfl rfl ?_
                    refine ws_nil ?_
                    refine wr_float F 4 rfl (by kernel_rfl) (.inl (by kernel_rfl)) ?_
                    refine w_move rfl rfl ?_
                    refine ws_nil ?_
                    refine wr_pure F 5 rfl (by kernel_rfl) rfl rfl (pf_slice rfl rfl rfl rfl (slice_al u37 s5 (by intro _; rfl) (by rfl) (nat_of (by omega) _) (by omega) (by omega))) (.inl rfl) ?_
                    refine wr_next F (l := [2]) (by kernel_rfl) (by simp) (.cons rfl ?_ (.nil))
                    refine WS.ownEmpty (v := .lst [] 0 true true) (.inr rfl) 5 1 ?_
                    refine w_appO (enc := eB) (l := []) (m := s.b) rfl u37 s5 b5 z5 u37 (by simp) rfl rfl rfl tk nw (by unfold bigBy; first | omega | (simp only [List.length_nil, List.length_cons, List.length_append, List.length_take, List.length_drop]; omega)) (by unfold bigBy; first | omega | (simp only [List.length_nil, List.length_cons, List.length_append, List.length_take, List.length_drop]; omega)) (fun v101 => ?_)
                    refine ws_nil ?_
                    refine wr_next F (l := [6]) (by kernel_rfl) (by simp) (.cons rfl ?_ (.nil))
                    refine w_appL (enc := eB) (l := [] ++ s.b) rfl u37 s5 b5 z5 u37 (by simp) rfl rfl rfl tk nw (by unfold bigBy; first | omega | (simp only [List.length_nil, List.length_cons, List.length_append, List.length_take, List.length_drop]; omega)) (by unfold bigBy; first | omega | (simp only [List.length_nil, List.length_cons, List.length_append, List.length_take, List.length_drop]; omega)) (by intro _; rfl) ?_
                    refine ws_nil ?_
                    refine wr_float F 7 rfl (by kernel_rfl) (.inl (by kernel_rfl)) ?_
                    refine w_assign rfl rfl ?_
                    refine ws_nil ?_
                    refine wr_float F 8 rfl (by kernel_rfl) (.inl (by kernel_rfl)) ?_
                    refine w_assign rfl rfl ?_
                    refine ws_nil ?_
                    refine wr_float F 9 rfl (by kernel_rfl) (.inl (by kernel_rfl)) ?_
                    refine w_assign rfl rfl ?_
                    refine ws_nil ?_
                    refine wr_end F (by kernel_rfl) ?_
                    simp only [List.nil_append, List.drop_zero, Nat.sub_zero]
                    refine wc_text ?_
                    refine w_assign rfl rfl ?_
                    refine ws_nil ?_
                    obtain ⟨wv, ws⟩ := wr_cut (l := A ++ B) h19 (by omega) hl (by omega)
                    have e7 : (writeS s (A ++ B)).b = s.b ++ (A ++ B).take s.fuse.toNat := by rw [ws]
                    have e9 : fuz (writeS s (A ++ B)) = 0 := by rw [ws]; try rfl
                    have e10 : (writeS s (A ++ B)).off = true := by rw [ws]
                    exact ⟨rfl, (), (.cons rfl (.cons rfl (.cons rfl (.cons (by first | rfl | (rw [e7]; done) | (rw [e7]; rfl)) (.cons rfl (.cons (by first | rfl | (rw [e9]; done) | (rw [e9]; rfl)) (.cons (by first | rfl | (rw [e10]; done) | (rw [e10]; rfl)) (.cons rfl (.cons rfl (.cons (by first | rfl | (rw [wv]; done) | (rw [wv]; rfl)) (.cons rfl (.cons rfl (.nil _))))))))))))), (Sel.weak (.cons tk (.cons tk (.cons tk .nil))))⟩
                  · first | replace h23 := of_decide_eq_true h23 | replace h23 := of_decide_eq_false h23 | replace h23 := of_decide_eq_false (nb_T h23) | replace h23 := of_decide_eq_true (nb_F h23) | replace h23 := nb_T h23 | replace h23 := nb_F h23 | skip
                    first | replace h23 := Int.not_lt.mp h23 | replace h23 := Int.not_le.mp h23 | replace h23 := Decidable.not_not.mp h23 | skip
                    refine wc_seq ?_
                    refine wc_text ?_
                    refine w_buildS (cs := []) u37 s5 z5 (by decide) rfl rfl rfl (fun o69 => ?_)
                    refine w_move rfl rfl ?_
                    refine WS.ownEmpty (v := .slice (some ⟨o69, 0⟩) 0 (.exact 0)) (.inl ⟨_, rfl⟩) 5 1 ?_
                    refine w_appO (enc := eB) (l := []) (m := s.b) rfl u37 s5 b5 z5 u37 (by simp) rfl rfl rfl tk nw (by unfold bigBy; first | omega | (simp only [List.length_nil, List.length_cons, List.length_append, List.length_take, List.length_drop]; omega)) (by unfold bigBy; first | omega | (simp only [List.length_nil, List.length_cons, List.length_append, List.length_take, List.length_drop]; omega)) (fun v71 => ?_)
                    refine w_move rfl rfl ?_
                    refine w_appL (enc := eB) (l := [] ++ s.b) (m := A ++ B) rfl u37 s5 b5 z5 u37 (by simp) rfl rfl rfl tk nw (by unfold bigBy; first | omega | (simp only [List.length_nil, List.length_cons, List.length_append, List.length_take, List.length_drop]; omega)) (by unfold bigBy; first | omega | (simp only [List.length_nil, List.length_cons, List.length_append, List.length_take, List.length_drop]; omega)) (by intro _; rfl) ?_
                    refine w_assign rfl rfl ?_
                    refine ws_nil ?_
                    rw [List.nil_append]
                    refine wc_seq ?_
                    refine wc_text ?_
                    refine w_move rfl rfl ?_
                    refine w_geq u3 rfl rfl rfl ?_
                    refine ws_nil ?_
                    refine wc_cond rfl (fun h17 => ?_) (fun h17 => ?_)
                    · first | replace h17 := of_decide_eq_true h17 | replace h17 := of_decide_eq_false h17 | replace h17 := of_decide_eq_false (nb_T h17) | replace h17 := of_decide_eq_true (nb_F h17) | replace h17 := nb_T h17 | replace h17 := nb_F h17 | skip
                      first | replace h17 := Int.not_lt.mp h17 | replace h17 := Int.not_le.mp h17 | replace h17 := Decidable.not_not.mp h17 | skip
                      refine wc_text ?_
                      refine w_move rfl rfl ?_
                      refine w_move rfl rfl ?_
                      first | refine w_len rfl rfl (len_lst u37) ?_ | refine w_len rfl rfl (len_slice u37) ?_ | refine w_lenO rfl u37 rfl rfl tk ?_
                      refine w_sub u3 rfl rfl rfl (by omega) ?_
                      refine w_assign rfl rfl ?_
                      refine ws_nil ?_
                      obtain ⟨wv, ws⟩ := wr_fuse (l := A ++ B) h19 (by omega) hl (by omega)
                      have e7 : (writeS s (A ++ B)).b = s.b ++ (A ++ B) := by rw [ws]
                      have e9 : fuz (writeS s (A ++ B)) = s.fuse - ((A ++ B).length : Nat) := by rw [ws]; try rfl
                      have e10 : (writeS s (A ++ B)).off = s.off := by rw [ws, h19]
                      exact ⟨rfl, (), (.cons rfl (.cons rfl (.cons rfl (.cons (by first | rfl | (rw [e7]; done) | (rw [e7]; rfl)) (.cons rfl (.cons (by first | rfl | (rw [e9]; done) | (rw [e9]; rfl)) (.cons (by first | rfl | (rw [e10]; done) | (rw [e10]; rfl)) (.cons rfl (.cons rfl (.cons (by first | rfl | (rw [wv]; done) | (rw [wv]; rfl)) (.cons rfl (.cons rfl (.nil _))))))))))))), (Sel.weak (.cons tk (.cons tk (.cons tk .nil))))⟩
                    · first | replace h17 := of_decide_eq_true h17 | replace h17 := of_decide_eq_false h17 | replace h17 := of_decide_eq_false (nb_T h17) | replace h17 := of_decide_eq_true (nb_F h17) | replace h17 := nb_T h17 | replace h17 := nb_F h17 | skip
                      first | replace h17 := Int.not_lt.mp h17 | replace h17 := Int.not_le.mp h17 | replace h17 := Decidable.not_not.mp h17 | skip
                      exact absurd (k.l0 hl) (by omega)
                · first | replace g93 := of_decide_eq_true g93 | replace g93 := of_decide_eq_false g93 | replace g93 := of_decide_eq_false (nb_T g93) | replace g93 := of_decide_eq_true (nb_F g93) | replace g93 := nb_T g93 | replace g93 := nb_F g93 | skip
                  first | replace g93 := Int.not_lt.mp g93 | replace g93 := Int.not_le.mp g93 | replace g93 := Decidable.not_not.mp g93 | skip
                  have hl := fz_un k (by omega)
                  refine ws_off rfl rfl rfl rfl ?_
                  refine ws_off rfl rfl rfl rfl ?_
                  refine ws_off rfl rfl rfl rfl ?_
                  refine ws_off rfl rfl rfl rfl ?_
                  first | refine w_pickT rfl rfl rfl ⟨_, rfl⟩ ?_ | refine w_pickF rfl rfl ⟨_, rfl⟩ rfl ?_ | refine w_pick rfl rfl rfl rfl ?_
                  refine w_assign rfl rfl ?_
                  refine ws_nil ?_
                  refine wc_condF rfl ?_
                  refine wc_seq ?_
                  refine wc_text ?_
                  refine w_buildS (cs := []) u37 s5 z5 (by decide) rfl rfl rfl (fun o69 => ?_)
                  refine w_move rfl rfl ?_
                  refine WS.ownEmpty (v := .slice (some ⟨o69, 0⟩) 0 (.exact 0)) (.inl ⟨_, rfl⟩) 5 1 ?_
                  refine w_appO (enc := eB) (l := []) (m := s.b) rfl u37 s5 b5 z5 u37 (by simp) rfl rfl rfl tk nw (by unfold bigBy; first | omega | (simp only [List.length_nil, List.length_cons, List.length_append, List.length_take, List.length_drop]; omega)) (by unfold bigBy; first | omega | (simp only [List.length_nil, List.length_cons, List.length_append, List.length_take, List.length_drop]; omega)) (fun v71 => ?_)
                  refine w_move rfl rfl ?_
                  refine w_appL (enc := eB) (l := [] ++ s.b) (m := A ++ B) rfl u37 s5 b5 z5 u37 (by simp) rfl rfl rfl tk nw (by unfold bigBy; first | omega | (simp only [List.length_nil, List.length_cons, List.length_append, List.length_take, List.length_drop]; omega)) (by unfold bigBy; first | omega | (simp only [List.length_nil, List.length_cons, List.length_append, List.length_take, List.length_drop]; omega)) (by intro _; rfl) ?_
                  refine w_assign rfl rfl ?_
                  refine ws_nil ?_
                  rw [List.nil_append]
                  refine wc_seq ?_
                  refine wc_text ?_
                  refine w_move rfl rfl ?_
                  refine w_geq u3 rfl rfl rfl ?_
                  refine ws_nil ?_
                  refine wc_cond rfl (fun h17 => ?_) (fun h17 => ?_)
                  · first | replace h17 := of_decide_eq_true h17 | replace h17 := of_decide_eq_false h17 | replace h17 := of_decide_eq_false (nb_T h17) | replace h17 := of_decide_eq_true (nb_F h17) | replace h17 := nb_T h17 | replace h17 := nb_F h17 | skip
                    first | replace h17 := Int.not_lt.mp h17 | replace h17 := Int.not_le.mp h17 | replace h17 := Decidable.not_not.mp h17 | skip
                    exact absurd h17 (by omega)
                  · first | replace h17 := of_decide_eq_true h17 | replace h17 := of_decide_eq_false h17 | replace h17 := of_decide_eq_false (nb_T h17) | replace h17 := of_decide_eq_true (nb_F h17) | replace h17 := nb_T h17 | replace h17 := nb_F h17 | skip
                    first | replace h17 := Int.not_lt.mp h17 | replace h17 := Int.not_le.mp h17 | replace h17 := Decidable.not_not.mp h17 | skip
                    refine wc_stay ?_
                    obtain ⟨wv, ws⟩ := wr_free (l := A ++ B) h19 (by omega) hl
                    have e7 : (writeS s (A ++ B)).b = s.b ++ (A ++ B) := by rw [ws]
                    have e9 : fuz (writeS s (A ++ B)) = fuz s := by rw [ws]; unfold fuz; rw [hl]; try rfl
                    have e10 : (writeS s (A ++ B)).off = s.off := by rw [ws, h19]
                    exact ⟨rfl, (), (.cons rfl (.cons rfl (.cons rfl (.cons (by first | rfl | (rw [e7]; done) | (rw [e7]; rfl)) (.cons rfl (.cons (by first | rfl | (rw [e9]; done) | (rw [e9]; rfl)) (.cons (by first | rfl | (rw [e10]; done) | (rw [e10]; rfl)) (.cons rfl (.cons rfl (.cons (by first | rfl | (rw [wv]; done) | (rw [wv]; rfl)) (.cons rfl (.cons rfl (.nil _))))))))))))), (Sel.weak (.cons tk (.cons tk (.cons tk .nil))))⟩
          rintro _
          try dsimp only
          refine wc_seq ?_
          refine wc_text ?_
          refine w_move rfl rfl ?_
          refine w_move rfl rfl ?_
          refine w_move rfl rfl ?_
          refine WS.ownCells (v := v15) tk (fun c15 s15 => WS.ownCells (v := v16) tk (fun c16 s16 => ?_))
          refine w_buildS (cs := [v15, v16]) u51 s37 z37 (by decide) rfl rfl (fill_two c15 s15 c16 s16) (fun o109 => ?_)
          refine w_call rfl rfl (CallW.weak (Sel.weak (.cons tk (.cons tk (.cons tk (.cons tk .nil))))) (CallW.mono (write_two o25 s k o109 v15 v16 A B (by omega) []) ?_))
          rintro _ _ ⟨rfl, rfl⟩
          simp only [List.append_nil]
          refine w_assign rfl rfl ?_
          refine ws_nil ?_
          refine wc_seq ?_
          refine wc_text ?_
          refine w_move rfl rfl ?_
          first | refine w_len rfl rfl (len_lst u37) ?_ | refine w_len rfl rfl (len_slice u37) ?_ | refine w_lenO rfl u37 rfl rfl tk ?_
          refine w_move rfl rfl ?_
          refine ws_nil ?_
          rw [bytes_nums]
          refine wc_block ?_
          refine wc_loop (σ := { p : Nat × List Int // p.2.length = A.length }) (fun u => [(1, AL eAsk l), (5, .int .i64 s.room), (6, .ptr (some ⟨o25, 0⟩)), (7, AL eB (writeS s (A ++ B)).b), (8, .int .i64 s.firm), (9, .int .i64 (fuz (writeS s (A ++ B)))), (10, .bool (writeS s (A ++ B)).off), (11, .int .i64 (i : Nat)), (13, .int .i64 (writeV s (A ++ B))), (14, .int .i64 (writeV s (A ++ B))), (15, v15), (112, .int .i64 (A.length : Nat)), (113, .int .i64 (u.1.1 : Nat))]) (fun u => [.own v15 5 1 (u.1.2.flatMap eU) A.length, .obj o25 (.row 67 6 false (DK (writeS s (A ++ B))))]) (fun u => A.length - u.1.1) ?_ ⟨(0, A.map fun b => (b.toNat : Int)), by simp⟩ (.cons rfl (.cons rfl (.cons rfl (.cons rfl (.cons rfl (.cons rfl (.cons rfl (.cons rfl (.cons rfl (.cons rfl (.cons rfl (.cons rfl (.cons rfl (.nil _)))))))))))))) (Sel.weak (.cons tk (.cons tk .nil)))
          rintro ⟨⟨j, cs⟩, hcs⟩
          dsimp only
          simp only at hcs
          refine wc_seq ?_
          refine wc_text ?_
          refine w_lss u3 rfl rfl rfl ?_
          refine ws_nil ?_
          refine wc_seq ?_
          refine wc_cond rfl (fun h28 => ?_) (fun h28 => ?_)
          · first | replace h28 := of_decide_eq_true h28 | replace h28 := of_decide_eq_false h28 | replace h28 := of_decide_eq_false (nb_T h28) | replace h28 := of_decide_eq_true (nb_F h28) | replace h28 := nb_T h28 | replace h28 := nb_F h28 | skip
            first | replace h28 := Int.not_lt.mp h28 | replace h28 := Int.not_le.mp h28 | replace h28 := Decidable.not_not.mp h28 | skip
            refine wc_stay ?_
            refine wc_seq ?_
            refine wc_block ?_
            refine wc_seq ?_
            refine wc_text ?_
            refine w_move rfl rfl ?_
            refine w_assign rfl rfl ?_
            refine ws_nil ?_
            refine wc_text ?_
            obtain ⟨z, hz⟩ := get_of_lt (l := cs) (k := j) (by omega)
            refine WS.openOwn tk (by omega) (fun oa ho => ?_)
            subst ho
            refine w_move rfl rfl ?_
            refine w_move rfl rfl ?_
            first | refine w_lidx u37 s5 rfl rfl rfl (by omega) ?_ | refine w_slidx u37 s5 rfl rfl rfl (by omega) ?_
            refine w_st s5 rfl rfl rfl tk rfl rfl (over_oneP (k := j) rfl (by rw [flat_length eU_len]; omega)) ?_
            refine ws_nil ?_
            refine WC.recell ((cs.set j 99).flatMap eU) tk (setU hz) ?_
            refine WC.closeOwn (e := 5) (s := 1) (m := A.length) tk (by rw [flat_length eU_len, List.length_set, hcs]) ?_
            refine wc_text ?_
            refine w_add u3 rfl rfl rfl (by omega) ?_
            refine w_move rfl rfl ?_
            refine ws_nil ?_
            exact ⟨⟨(j + 1, cs.set j 99), by simp [hcs]⟩, by simp only; omega, (.cons rfl (.cons rfl (.cons rfl (.cons rfl (.cons rfl (.cons rfl (.cons rfl (.cons rfl (.cons rfl (.cons rfl (.cons rfl (.cons rfl (.cons rfl (.nil _)))))))))))))), (Sel.weak (.cons tk (.cons tk .nil)))⟩
          · first | replace h28 := of_decide_eq_true h28 | replace h28 := of_decide_eq_false h28 | replace h28 := of_decide_eq_false (nb_T h28) | replace h28 := of_decide_eq_true (nb_F h28) | replace h28 := nb_T h28 | replace h28 := nb_F h28 | skip
            first | replace h28 := Int.not_lt.mp h28 | replace h28 := Int.not_le.mp h28 | replace h28 := Decidable.not_not.mp h28 | skip
            refine wc_exit ?_
            have e5 := writeS_room s (A ++ B)
            have e8 := writeS_firm s (A ++ B)
            have e9 : fuz (writeS s (A ++ B)) = fuz (writeS s (A ++ B)) := rfl
            have e13 : (0 : Int) = 0 := rfl
            exact ⟨rfl, ⟨((writeS s (A ++ B)), writeV s (A ++ B)), write_ok _ k⟩, (.cons rfl (.cons (by first | rfl | (rw [e5]; rfl)) (.cons rfl (.cons rfl (.cons (by first | rfl | (rw [e8]; rfl)) (.cons (by first | rfl | (rw [e9]; rfl)) (.cons rfl (.cons rfl (.cons rfl (.cons rfl (.nil _))))))))))), (Sel.weak (.cons tk .nil))⟩
        · replace h13 := of_decide_eq_false h13
          refine wc_seq ?_
          refine wc_seq ?_
          refine wc_text ?_
          refine w_eql u3 rfl rfl rfl ?_
          refine w_assign rfl rfl ?_
          refine ws_nil ?_
          refine wc_cond rfl (fun h32 => ?_) (fun h32 => ?_)
          · replace h32 := of_decide_eq_true h32
            have hk23 : q.kind = 2 ∨ q.kind = 3 := .inl h32
            refine wc_stay ?_
            refine wc_cond rfl (fun h32b => ?_) (fun h32b => ?_)
            · skip
              refine wc_seq ?_
              refine wc_cut [(1, AL eAsk l), (5, .int .i64 s.room), (6, .ptr (some ⟨o25, 0⟩)), (7, AL eB s.b), (8, .int .i64 s.firm), (9, .int .i64 (fuz s)), (10, .bool s.off), (11, .int .i64 (i : Nat)), (12, .cptr (eAsk q) 0), (13, .int .i64 0), (14, .int .i64 0), (19, .bool (badQ s q.kind q.n))] [.obj o25 (.row 67 6 false (DK s))] ?_ ?_
              · skip
                refine wc_text ?_
                first | refine w_faddrC O56_0 rfl rfl ?_ | refine w_faddrP O56_0 rfl rfl ?_
                first | refine w_ldC1 a3 rfl rfl rdc ?_ | refine w_ldP1 a3 rfl rfl tk rdp ?_
                refine w_eql u3 rfl rfl rfl ?_
                refine w_move rfl rfl ?_
                refine ws_split (t := 126) rfl (fun g126 => ?_) (fun g126 => ?_)
                · first | replace g126 := of_decide_eq_true g126 | replace g126 := of_decide_eq_false g126 | replace g126 := of_decide_eq_false (nb_T g126) | replace g126 := of_decide_eq_true (nb_F g126) | replace g126 := nb_T g126 | replace g126 := nb_F g126 | skip
                  first | replace g126 := Int.not_lt.mp g126 | replace g126 := Int.not_le.mp g126 | replace g126 := Decidable.not_not.mp g126 | skip
                  refine ws_on rfl rfl ?_
                  first | refine w_faddrC O56_1 rfl rfl ?_ | refine w_faddrP O56_1 rfl rfl ?_
                  refine ws_on rfl rfl ?_
                  first | refine w_ldC1 a3 rfl rfl rdc ?_ | refine w_ldP1 a3 rfl rfl tk rdp ?_
                  refine ws_on rfl rfl ?_
                  refine w_lss u3 rfl rfl rfl ?_
                  refine ws_on rfl rfl ?_
                  refine w_move rfl rfl ?_
                  refine ws_split (t := 130) rfl (fun g130 => ?_) (fun g130 => ?_)
                  · first | replace g130 := of_decide_eq_true g130 | replace g130 := of_decide_eq_false g130 | replace g130 := of_decide_eq_false (nb_T g130) | replace g130 := of_decide_eq_true (nb_F g130) | replace g130 := nb_T g130 | replace g130 := nb_F g130 | skip
                    first | replace g130 := Int.not_lt.mp g130 | replace g130 := Int.not_le.mp g130 | replace g130 := Decidable.not_not.mp g130 | skip
                    refine ws_off rfl rfl rfl rfl ?_
                    refine ws_off rfl rfl rfl rfl ?_
                    refine ws_off rfl rfl rfl rfl ?_
                    refine ws_off rfl rfl rfl rfl ?_
                    refine ws_off rfl rfl rfl rfl ?_
                    refine ws_on rfl rfl ?_
                    first | refine w_pickT rfl rfl rfl ⟨_, rfl⟩ ?_ | refine w_pickF rfl rfl ⟨_, rfl⟩ rfl ?_ | refine w_pick rfl rfl rfl rfl ?_
                    first | refine w_pickT rfl rfl rfl ⟨_, rfl⟩ ?_ | refine w_pickF rfl rfl ⟨_, rfl⟩ rfl ?_ | refine w_pick rfl rfl rfl rfl ?_
                    refine w_assign rfl rfl ?_
                    exact ws_nil ⟨rfl, (.cons (by first | rfl | (refine congrArg some (congrArg AV.bool ?_); unfold badQ; first | (simp [g126, g130]; done) | (simp [g126, show ¬ q.n < 0 by omega]; done) | (simp [g126]; done))) (.cons (by first | rfl | (refine congrArg some (congrArg AV.bool ?_); unfold badQ; first | (simp [g126, g130]; done) | (simp [g126, show ¬ q.n < 0 by omega]; done) | (simp [g126]; done))) (.cons (by first | rfl | (refine congrArg some (congrArg AV.bool ?_); unfold badQ; first | (simp [g126, g130]; done) | (simp [g126, show ¬ q.n < 0 by omega]; done) | (simp [g126]; done))) (.cons (by first | rfl | (refine congrArg some (congrArg AV.bool ?_); unfold badQ; first | (simp [g126, g130]; done) | (simp [g126, show ¬ q.n < 0 by omega]; done) | (simp [g126]; done))) (.cons (by first | rfl | (refine congrArg some (congrArg AV.bool ?_); unfold badQ; first | (simp [g126, g130]; done) | (simp [g126, show ¬ q.n < 0 by omega]; done) | (simp [g126]; done))) (.cons (by first | rfl | (refine congrArg some (congrArg AV.bool ?_); unfold badQ; first | (simp [g126, g130]; done) | (simp [g126, show ¬ q.n < 0 by omega]; done) | (simp [g126]; done))) (.cons (by first | rfl | (refine congrArg some (congrArg AV.bool ?_); unfold badQ; first | (simp [g126, g130]; done) | (simp [g126, show ¬ q.n < 0 by omega]; done) | (simp [g126]; done))) (.cons (by first | rfl | (refine congrArg some (congrArg AV.bool ?_); unfold badQ; first | (simp [g126, g130]; done) | (simp [g126, show ¬ q.n < 0 by omega]; done) | (simp [g126]; done))) (.cons (by first | rfl | (refine congrArg some (congrArg AV.bool ?_); unfold badQ; first | (simp [g126, g130]; done) | (simp [g126, show ¬ q.n < 0 by omega]; done) | (simp [g126]; done))) (.cons (by first | rfl | (refine congrArg some (congrArg AV.bool ?_); unfold badQ; first | (simp [g126, g130]; done) | (simp [g126, show ¬ q.n < 0 by omega]; done) | (simp [g126]; done))) (.cons (by first | rfl | (refine congrArg some (congrArg AV.bool ?_); unfold badQ; first | (simp [g126, g130]; done) | (simp [g126, show ¬ q.n < 0 by omega]; done) | (simp [g126]; done))) (.cons (by first | rfl | (refine congrArg some (congrArg AV.bool ?_); unfold badQ; first | (simp [g126, g130]; done) | (simp [g126, show ¬ q.n < 0 by omega]; done) | (simp [g126]; done))) (.nil _))))))))))))), (Sel.weak (.cons tk .nil))⟩
                  · first | replace g130 := of_decide_eq_true g130 | replace g130 := of_decide_eq_false g130 | replace g130 := of_decide_eq_false (nb_T g130) | replace g130 := of_decide_eq_true (nb_F g130) | replace g130 := nb_T g130 | replace g130 := nb_F g130 | skip
                    first | replace g130 := Int.not_lt.mp g130 | replace g130 := Int.not_le.mp g130 | replace g130 := Decidable.not_not.mp g130 | skip
                    refine ws_on rfl rfl ?_
                    first | refine w_faddrC O56_1 rfl rfl ?_ | refine w_faddrP O56_1 rfl rfl ?_
                    refine ws_on rfl rfl ?_
                    first | refine w_ldC1 a3 rfl rfl rdc ?_ | refine w_ldP1 a3 rfl rfl tk rdp ?_
                    refine ws_on rfl rfl ?_
                    refine w_move rfl rfl ?_
                    refine ws_on rfl rfl ?_
                    first | refine w_len rfl rfl (len_lst u37) ?_ | refine w_len rfl rfl (len_slice u37) ?_ | refine w_lenO rfl u37 rfl rfl tk ?_
                    refine ws_on rfl rfl ?_
                    refine w_gtr u3 rfl rfl rfl ?_
                    refine ws_on rfl rfl ?_
                    first | refine w_pickT rfl rfl rfl ⟨_, rfl⟩ ?_ | refine w_pickF rfl rfl ⟨_, rfl⟩ rfl ?_ | refine w_pick rfl rfl rfl rfl ?_
                    first | refine w_pickT rfl rfl rfl ⟨_, rfl⟩ ?_ | refine w_pickF rfl rfl ⟨_, rfl⟩ rfl ?_ | refine w_pick rfl rfl rfl rfl ?_
                    refine w_assign rfl rfl ?_
                    exact ws_nil ⟨rfl, (.cons (by first | rfl | (refine congrArg some (congrArg AV.bool ?_); unfold badQ; first | (simp [g126, g130]; done) | (simp [g126, show ¬ q.n < 0 by omega]; done) | (simp [g126]; done))) (.cons (by first | rfl | (refine congrArg some (congrArg AV.bool ?_); unfold badQ; first | (simp [g126, g130]; done) | (simp [g126, show ¬ q.n < 0 by omega]; done) | (simp [g126]; done))) (.cons (by first | rfl | (refine congrArg some (congrArg AV.bool ?_); unfold badQ; first | (simp [g126, g130]; done) | (simp [g126, show ¬ q.n < 0 by omega]; done) | (simp [g126]; done))) (.cons (by first | rfl | (refine congrArg some (congrArg AV.bool ?_); unfold badQ; first | (simp [g126, g130]; done) | (simp [g126, show ¬ q.n < 0 by omega]; done) | (simp [g126]; done))) (.cons (by first | rfl | (refine congrArg some (congrArg AV.bool ?_); unfold badQ; first | (simp [g126, g130]; done) | (simp [g126, show ¬ q.n < 0 by omega]; done) | (simp [g126]; done))) (.cons (by first | rfl | (refine congrArg some (congrArg AV.bool ?_); unfold badQ; first | (simp [g126, g130]; done) | (simp [g126, show ¬ q.n < 0 by omega]; done) | (simp [g126]; done))) (.cons (by first | rfl | (refine congrArg some (congrArg AV.bool ?_); unfold badQ; first | (simp [g126, g130]; done) | (simp [g126, show ¬ q.n < 0 by omega]; done) | (simp [g126]; done))) (.cons (by first | rfl | (refine congrArg some (congrArg AV.bool ?_); unfold badQ; first | (simp [g126, g130]; done) | (simp [g126, show ¬ q.n < 0 by omega]; done) | (simp [g126]; done))) (.cons (by first | rfl | (refine congrArg some (congrArg AV.bool ?_); unfold badQ; first | (simp [g126, g130]; done) | (simp [g126, show ¬ q.n < 0 by omega]; done) | (simp [g126]; done))) (.cons (by first | rfl | (refine congrArg some (congrArg AV.bool ?_); unfold badQ; first | (simp [g126, g130]; done) | (simp [g126, show ¬ q.n < 0 by omega]; done) | (simp [g126]; done))) (.cons (by first | rfl | (refine congrArg some (congrArg AV.bool ?_); unfold badQ; first | (simp [g126, g130]; done) | (simp [g126, show ¬ q.n < 0 by omega]; done) | (simp [g126]; done))) (.cons (by first | rfl | (refine congrArg some (congrArg AV.bool ?_); unfold badQ; first | (simp [g126, g130]; done) | (simp [g126, show ¬ q.n < 0 by omega]; done) | (simp [g126]; done))) (.nil _))))))))))))), (Sel.weak (.cons tk .nil))⟩
                · first | replace g126 := of_decide_eq_true g126 | replace g126 := of_decide_eq_false g126 | replace g126 := of_decide_eq_false (nb_T g126) | replace g126 := of_decide_eq_true (nb_F g126) | replace g126 := nb_T g126 | replace g126 := nb_F g126 | skip
                  first | replace g126 := Int.not_lt.mp g126 | replace g126 := Int.not_le.mp g126 | replace g126 := Decidable.not_not.mp g126 | skip
                  refine ws_off rfl rfl rfl rfl ?_
                  refine ws_off rfl rfl rfl rfl ?_
                  refine ws_off rfl rfl rfl rfl ?_
                  refine ws_off rfl rfl rfl rfl ?_
                  refine ws_offU rfl rfl rfl ?_
                  refine ws_offU rfl rfl rfl ?_
                  refine ws_offU rfl rfl rfl ?_
                  refine ws_offU rfl rfl rfl ?_
                  refine ws_offU rfl rfl rfl ?_
                  refine ws_off rfl rfl rfl rfl ?_
                  first | refine w_pickT rfl rfl rfl ⟨_, rfl⟩ ?_ | refine w_pickF rfl rfl ⟨_, rfl⟩ rfl ?_ | refine w_pick rfl rfl rfl rfl ?_
                  refine w_assign rfl rfl ?_
                  exact ws_nil ⟨rfl, (.cons (by first | rfl | (refine congrArg some (congrArg AV.bool ?_); unfold badQ; first | (simp [g126, g130]; done) | (simp [g126, show ¬ q.n < 0 by omega]; done) | (simp [g126]; done))) (.cons (by first | rfl | (refine congrArg some (congrArg AV.bool ?_); unfold badQ; first | (simp [g126, g130]; done) | (simp [g126, show ¬ q.n < 0 by omega]; done) | (simp [g126]; done))) (.cons (by first | rfl | (refine congrArg some (congrArg AV.bool ?_); unfold badQ; first | (simp [g126, g130]; done) | (simp [g126, show ¬ q.n < 0 by omega]; done) | (simp [g126]; done))) (.cons (by first | rfl | (refine congrArg some (congrArg AV.bool ?_); unfold badQ; first | (simp [g126, g130]; done) | (simp [g126, show ¬ q.n < 0 by omega]; done) | (simp [g126]; done))) (.cons (by first | rfl | (refine congrArg some (congrArg AV.bool ?_); unfold badQ; first | (simp [g126, g130]; done) | (simp [g126, show ¬ q.n < 0 by omega]; done) | (simp [g126]; done))) (.cons (by first | rfl | (refine congrArg some (congrArg AV.bool ?_); unfold badQ; first | (simp [g126, g130]; done) | (simp [g126, show ¬ q.n < 0 by omega]; done) | (simp [g126]; done))) (.cons (by first | rfl | (refine congrArg some (congrArg AV.bool ?_); unfold badQ; first | (simp [g126, g130]; done) | (simp [g126, show ¬ q.n < 0 by omega]; done) | (simp [g126]; done))) (.cons (by first | rfl | (refine congrArg some (congrArg AV.bool ?_); unfold badQ; first | (simp [g126, g130]; done) | (simp [g126, show ¬ q.n < 0 by omega]; done) | (simp [g126]; done))) (.cons (by first | rfl | (refine congrArg some (congrArg AV.bool ?_); unfold badQ; first | (simp [g126, g130]; done) | (simp [g126, show ¬ q.n < 0 by omega]; done) | (simp [g126]; done))) (.cons (by first | rfl | (refine congrArg some (congrArg AV.bool ?_); unfold badQ; first | (simp [g126, g130]; done) | (simp [g126, show ¬ q.n < 0 by omega]; done) | (simp [g126]; done))) (.cons (by first | rfl | (refine congrArg some (congrArg AV.bool ?_); unfold badQ; first | (simp [g126, g130]; done) | (simp [g126, show ¬ q.n < 0 by omega]; done) | (simp [g126]; done))) (.cons (by first | rfl | (refine congrArg some (congrArg AV.bool ?_); unfold badQ; first | (simp [g126, g130]; done) | (simp [g126, show ¬ q.n < 0 by omega]; done) | (simp [g126]; done))) (.nil _))))))))))))), (Sel.weak (.cons tk .nil))⟩
              refine wc_seq ?_
              refine wc_cutX (σ := Unit) (fun _ => [(1, AL eAsk l), (5, .int .i64 s.room), (6, .ptr (some ⟨o25, 0⟩)), (7, AL eB (opS s q.kind q.n).b), (8, .int .i64 (opS s q.kind q.n).firm), (9, .int .i64 (fuz (opS s q.kind q.n))), (10, .bool (opS s q.kind q.n).off), (11, .int .i64 (i : Nat)), (12, .cptr (eAsk q) 0), (13, .int .i64 0), (14, .int .i64 (opV s q.kind q.n))]) (fun _ => [.obj o25 (.row 67 6 false (DK s))]) ?_ ?_
              · skip
                refine wc_block ?_
                refine wc_seq ?_
                refine wc_text ?_
                refine w_move rfl rfl ?_
                refine w_assign rfl rfl ?_
                refine ws_nil ?_
                refine wc_cond rfl (fun h40 => ?_) (fun h40 => ?_)
                · skip
                  refine wc_text ?_
                  refine w_assign rfl rfl ?_
                  refine ws_nil ?_
                  obtain ⟨wv, ws⟩ := op_off (kind := q.kind) (n := q.n) h40
                  have e7 : (opS s q.kind q.n).b = s.b := by rw [ws]
                  have e8 : (opS s q.kind q.n).firm = s.firm := by rw [ws]
                  have e9 : fuz (opS s q.kind q.n) = fuz s := by rw [ws]
                  have e10 : (opS s q.kind q.n).off = s.off := by rw [ws]
                  exact ⟨rfl, (), (.cons rfl (.cons rfl (.cons rfl (.cons (by first | rfl | (rw [e7]; done) | (rw [e7]; rfl)) (.cons (by first | rfl | (rw [e8]; done) | (rw [e8]; rfl)) (.cons (by first | rfl | (rw [e9]; done) | (rw [e9]; rfl)) (.cons (by first | rfl | (rw [e10]; done) | (rw [e10]; rfl)) (.cons rfl (.cons rfl (.cons rfl (.cons (by first | rfl | (rw [wv]; done) | (rw [wv]; rfl)) (.nil _)))))))))))), (Sel.weak (.cons tk .nil))⟩
                · skip
                  refine wc_seq ?_
                  refine wc_text ?_
                  refine w_move rfl rfl ?_
                  refine w_assign rfl rfl ?_
                  refine ws_nil ?_
                  refine wc_cond rfl (fun h42 => ?_) (fun h42 => ?_)
                  · skip
                    refine wc_text ?_
                    refine w_assign rfl rfl ?_
                    refine ws_nil ?_
                    obtain ⟨wv, ws⟩ := op_bad hk23 h40 h42
                    have e7 : (opS s q.kind q.n).b = s.b := by rw [ws]
                    have e8 : (opS s q.kind q.n).firm = s.firm := by rw [ws]
                    have e9 : fuz (opS s q.kind q.n) = fuz s := by rw [ws]
                    have e10 : (opS s q.kind q.n).off = s.off := by rw [ws]
                    exact ⟨rfl, (), (.cons rfl (.cons rfl (.cons rfl (.cons (by first | rfl | (rw [e7]; done) | (rw [e7]; rfl)) (.cons (by first | rfl | (rw [e8]; done) | (rw [e8]; rfl)) (.cons (by first | rfl | (rw [e9]; done) | (rw [e9]; rfl)) (.cons (by first | rfl | (rw [e10]; done) | (rw [e10]; rfl)) (.cons rfl (.cons rfl (.cons rfl (.cons (by first | rfl | (rw [wv]; done) | (rw [wv]; rfl)) (.nil _)))))))))))), (Sel.weak (.cons tk .nil))⟩
                  · skip
                    refine wc_seq ?_
                    refine wc_text ?_
                    refine w_move rfl rfl ?_
                    refine w_eql u3 rfl rfl rfl ?_
                    refine w_assign rfl rfl ?_
                    refine ws_nil ?_
                    refine wc_cond rfl (fun h44 => ?_) (fun h44 => ?_)
                    · first | replace h44 := of_decide_eq_true h44 | replace h44 := of_decide_eq_false h44 | replace h44 := of_decide_eq_false (nb_T h44) | replace h44 := of_decide_eq_true (nb_F h44) | replace h44 := nb_T h44 | replace h44 := nb_F h44 | skip
                      first | replace h44 := Int.not_lt.mp h44 | replace h44 := Int.not_le.mp h44 | replace h44 := Decidable.not_not.mp h44 | skip
                      refine wc_text ?_
                      refine w_assign rfl rfl ?_
                      refine w_assign rfl rfl ?_
                      refine ws_nil ?_
                      obtain ⟨hl, hfz⟩ := fz_lit (s := s) (by omega)
                      obtain ⟨wv, ws⟩ := op_zero hk23 h40 h42 hl (by omega)
                      have e7 : (opS s q.kind q.n).b = s.b := by rw [ws]
                      have e8 : (opS s q.kind q.n).firm = s.firm := by rw [ws]
                      have e9 : fuz (opS s q.kind q.n) = fuz s := by rw [ws]; rw [h44]; try rfl
                      have e10 : (opS s q.kind q.n).off = true := by rw [ws]
                      exact ⟨rfl, (), (.cons rfl (.cons rfl (.cons rfl (.cons (by first | rfl | (rw [e7]; done) | (rw [e7]; rfl)) (.cons (by first | rfl | (rw [e8]; done) | (rw [e8]; rfl)) (.cons (by first | rfl | (rw [e9]; done) | (rw [e9]; rfl)) (.cons (by first | rfl | (rw [e10]; done) | (rw [e10]; rfl)) (.cons rfl (.cons rfl (.cons rfl (.cons (by first | rfl | (rw [wv]; done) | (rw [wv]; rfl)) (.nil _)))))))))))), (Sel.weak (.cons tk .nil))⟩
                    · first | replace h44 := of_decide_eq_true h44 | replace h44 := of_decide_eq_false h44 | replace h44 := of_decide_eq_false (nb_T h44) | replace h44 := of_decide_eq_true (nb_F h44) | replace h44 := nb_T h44 | replace h44 := nb_F h44 | skip
                      first | replace h44 := Int.not_lt.mp h44 | replace h44 := Int.not_le.mp h44 | replace h44 := Decidable.not_not.mp h44 | skip
                      refine wc_seq ?_
                      refine wc_seq ?_
                      refine wc_text ?_
                      refine w_move rfl rfl ?_
                      refine w_gtr u3 rfl rfl rfl ?_
                      refine ws_nil ?_
                      refine wc_cond rfl (fun h35 => ?_) (fun h35 => ?_)
                      · first | replace h35 := of_decide_eq_true h35 | replace h35 := of_decide_eq_false h35 | replace h35 := of_decide_eq_false (nb_T h35) | replace h35 := of_decide_eq_true (nb_F h35) | replace h35 := nb_T h35 | replace h35 := nb_F h35 | skip
                        first | replace h35 := Int.not_lt.mp h35 | replace h35 := Int.not_le.mp h35 | replace h35 := Decidable.not_not.mp h35 | skip
                        refine wc_text ?_
                        refine w_move rfl rfl ?_
                        refine w_sub u3 rfl rfl rfl (by omega) ?_
                        refine w_assign rfl rfl ?_
                        refine ws_nil ?_
                        refine wc_seq ?_
                        refine wc_text ?_
                        first | refine w_faddrC O56_0 rfl rfl ?_ | refine w_faddrP O56_0 rfl rfl ?_
                        first | refine w_ldC1 a3 rfl rfl rdc ?_ | refine w_ldP1 a3 rfl rfl tk rdp ?_
                        refine w_eql u3 rfl rfl rfl ?_
                        refine ws_nil ?_
                        refine wc_cond rfl (fun h37 => ?_) (fun h37 => ?_)
                        · first | replace h37 := of_decide_eq_true h37 | replace h37 := of_decide_eq_false h37 | replace h37 := of_decide_eq_false (nb_T h37) | replace h37 := of_decide_eq_true (nb_F h37) | replace h37 := nb_T h37 | replace h37 := nb_F h37 | skip
                          first | replace h37 := Int.not_lt.mp h37 | replace h37 := Int.not_le.mp h37 | replace h37 := Decidable.not_not.mp h37 | skip
                          refine wc_text ?_
                          refine w_move rfl rfl ?_
                          first | refine w_len rfl rfl (len_lst u37) ?_ | refine w_len rfl rfl (len_slice u37) ?_ | refine w_lenO rfl u37 rfl rfl tk ?_
                          refine w_assign rfl rfl ?_
                          refine ws_nil ?_
                          obtain ⟨hl, hfz⟩ := fz_lit (s := s) (by omega)
                          obtain ⟨wv, ws⟩ := op_fuse hk23 h40 h42 hl (by omega)
                          have e9 : fuz (opS s q.kind q.n) = fuz s - 1 := by rw [ws, hfz]; unfold goS fuz; split <;> (simp only [hl] <;> rfl)
                          have e10 : (opS s q.kind q.n).off = s.off := by rw [ws, h40]; unfold goS; split <;> try rfl
                          have e7 : (opS s q.kind q.n).b = s.b := by rw [ws]; unfold goS; rw [if_pos h37]
                          have e8 : (opS s q.kind q.n).firm = (s.b.length : Nat) := by rw [ws]; unfold goS; rw [if_pos h37]
                          exact ⟨rfl, (), (.cons rfl (.cons rfl (.cons rfl (.cons (by first | rfl | (rw [e7]; done) | (rw [e7]; rfl)) (.cons (by first | rfl | (rw [e8]; done) | (rw [e8]; rfl)) (.cons (by first | rfl | (rw [e9]; done) | (rw [e9]; rfl)) (.cons (by first | rfl | (rw [e10]; done) | (rw [e10]; rfl)) (.cons rfl (.cons rfl (.cons rfl (.cons (by first | rfl | (rw [wv]; done) | (rw [wv]; rfl)) (.nil _)))))))))))), (Sel.weak (.cons tk .nil))⟩
                        · first | replace h37 := of_decide_eq_true h37 | replace h37 := of_decide_eq_false h37 | replace h37 := of_decide_eq_false (nb_T h37) | replace h37 := of_decide_eq_true (nb_F h37) | replace h37 := nb_T h37 | replace h37 := nb_F h37 | skip
                          first | replace h37 := Int.not_lt.mp h37 | replace h37 := Int.not_le.mp h37 | replace h37 := Decidable.not_not.mp h37 | skip
                          refine wc_free [0, 0, 0, 4, 14, 31, 0, 0, 128, 448, 63, 2047] (by kernel_rfl) (by kernel_rfl) (fun F => ?_)
                          have hk3 : q.kind = 3 := by omega
                          obtain ⟨b0, b1⟩ := bad_not (s := s) (n := q.n) (by rw [← hk3]; exact h42)
                          refine wr_lazy F 0 rfl (by kernel_rfl) rfl rfl (lz_empty u37 s5 z5) (.inl rfl) ?_
                          refine wr_float F 1 rfl (by kernel_rfl) (.inl (by kernel_rfl)) ?_
                          refine w_move rfl rfl ?_
                          refine ws_nil ?_
                          refine wr_float F 2 rfl (by kernel_rfl) (.inl (by kernel_rfl)) ?_
                          first | refine w_faddrC O56_1 rfl rfl ?_ | refine w_faddrP O56_1 rfl rfl ?_
                          refine ws_nil ?_
                          refine wr_pure F 3 rfl (by kernel_rfl) rfl rfl (pf_ldC1 a3 rfl rdc) (.inl rfl) ?_
                          refine wr_pure F 4 rfl (by kernel_rfl) rfl rfl (pf_slice rfl rfl rfl rfl (slice_al u37 s5 (by intro _; rfl) (by rfl) (nat_of (by omega) _) (by omega) (by omega))) (.inl rfl) ?_
                          refine wr_float F 6 rfl (by kernel_rfl) (.inl (by kernel_rfl)) ?_
                          refine w_move rfl rfl ?_
                          refine ws_nil ?_
                          refine wr_float F 7 rfl (by kernel_rfl) (.inl (by kernel_rfl)) ?_
                          first | refine w_faddrC O56_1 rfl rfl ?_ | refine w_faddrP O56_1 rfl rfl ?_
                          refine ws_nil ?_
                          refine wr_pure F 8 rfl (by kernel_rfl) rfl rfl (pf_ldC1 a3 rfl rdc) (.inl rfl) ?_
                          refine wr_float F 9 rfl (by kernel_rfl) (.inl (by kernel_rfl)) ?_
                          refine w_min rfl rfl rfl ?_
                          refine ws_nil ?_
                          refine wr_next F (l := [5]) (by kernel_rfl) (by simp) (.cons rfl ?_ (.nil))
                          refine WS.ownEmpty (v := .lst [] 0 true true) (.inr rfl) 5 1 ?_
                          refine w_appL (enc := eB) (l := []) rfl u37 s5 b5 z5 u37 (by simp) rfl rfl rfl tk nw (by unfold bigBy; first | omega | (simp only [List.length_nil, List.length_cons, List.length_append, List.length_take, List.length_drop]; omega)) (by unfold bigBy; first | omega | (simp only [List.length_nil, List.length_cons, List.length_append, List.length_take, List.length_drop]; omega)) (by intro _; rfl) ?_
                          refine ws_nil ?_
                          refine wr_float F 10 rfl (by kernel_rfl) (.inl (by kernel_rfl)) ?_
                          refine w_assign rfl rfl ?_
                          refine ws_nil ?_
                          refine wr_float F 11 rfl (by kernel_rfl) (.inl (by kernel_rfl)) ?_
                          refine w_assign rfl rfl ?_
                          refine ws_nil ?_
                          refine wr_end F (by kernel_rfl) ?_
                          simp only [List.nil_append, List.drop_zero, Nat.sub_zero]
                          obtain ⟨hl, hfz⟩ := fz_lit (s := s) (by omega)
                          obtain ⟨wv, ws⟩ := op_fuse hk23 h40 h42 hl (by omega)
                          have e9 : fuz (opS s q.kind q.n) = fuz s - 1 := by rw [ws, hfz]; unfold goS fuz; split <;> (simp only [hl] <;> rfl)
                          have e10 : (opS s q.kind q.n).off = s.off := by rw [ws, h40]; unfold goS; split <;> try rfl
                          have e7 : (opS s q.kind q.n).b = s.b.take q.n.toNat := by rw [ws]; unfold goS; rw [if_neg h37]
                          have e8 : (opS s q.kind q.n).firm = min s.firm q.n := by rw [ws]; unfold goS; rw [if_neg h37]
                          exact ⟨rfl, (), (.cons rfl (.cons rfl (.cons rfl (.cons (by first | rfl | (rw [e7]; done) | (rw [e7]; rfl)) (.cons (by first | rfl | (rw [e8]; done) | (rw [e8]; rfl)) (.cons (by first | rfl | (rw [e9]; done) | (rw [e9]; rfl)) (.cons (by first | rfl | (rw [e10]; done) | (rw [e10]; rfl)) (.cons rfl (.cons rfl (.cons rfl (.cons (by first | rfl | (rw [wv]; done) | (rw [wv]; rfl)) (.nil _)))))))))))), (Sel.weak (.cons tk .nil))⟩
                      · first | replace h35 := of_decide_eq_true h35 | replace h35 := of_decide_eq_false h35 | replace h35 := of_decide_eq_false (nb_T h35) | replace h35 := of_decide_eq_true (nb_F h35) | replace h35 := nb_T h35 | replace h35 := nb_F h35 | skip
                        first | replace h35 := Int.not_lt.mp h35 | replace h35 := Int.not_le.mp h35 | replace h35 := Decidable.not_not.mp h35 | skip
                        refine wc_stay ?_
                        refine wc_seq ?_
                        refine wc_text ?_
                        first | refine w_faddrC O56_0 rfl rfl ?_ | refine w_faddrP O56_0 rfl rfl ?_
                        first | refine w_ldC1 a3 rfl rfl rdc ?_ | refine w_ldP1 a3 rfl rfl tk rdp ?_
                        refine w_eql u3 rfl rfl rfl ?_
                        refine ws_nil ?_
                        refine wc_cond rfl (fun h37 => ?_) (fun h37 => ?_)
                        · first | replace h37 := of_decide_eq_true h37 | replace h37 := of_decide_eq_false h37 | replace h37 := of_decide_eq_false (nb_T h37) | replace h37 := of_decide_eq_true (nb_F h37) | replace h37 := nb_T h37 | replace h37 := nb_F h37 | skip
                          first | replace h37 := Int.not_lt.mp h37 | replace h37 := Int.not_le.mp h37 | replace h37 := Decidable.not_not.mp h37 | skip
                          refine wc_text ?_
                          refine w_move rfl rfl ?_
                          first | refine w_len rfl rfl (len_lst u37) ?_ | refine w_len rfl rfl (len_slice u37) ?_ | refine w_lenO rfl u37 rfl rfl tk ?_
                          refine w_assign rfl rfl ?_
                          refine ws_nil ?_
                          have hl := fz_un k (by omega)
                          obtain ⟨wv, ws⟩ := op_free hk23 h40 h42 hl
                          have e9 : fuz (opS s q.kind q.n) = fuz s := by rw [ws]; unfold goS fuz; split <;> (simp only [hl] <;> rfl)
                          have e10 : (opS s q.kind q.n).off = s.off := by rw [ws, h40]; unfold goS; split <;> try rfl
                          have e7 : (opS s q.kind q.n).b = s.b := by rw [ws]; unfold goS; rw [if_pos h37]
                          have e8 : (opS s q.kind q.n).firm = (s.b.length : Nat) := by rw [ws]; unfold goS; rw [if_pos h37]
                          exact ⟨rfl, (), (.cons rfl (.cons rfl (.cons rfl (.cons (by first | rfl | (rw [e7]; done) | (rw [e7]; rfl)) (.cons (by first | rfl | (rw [e8]; done) | (rw [e8]; rfl)) (.cons (by first | rfl | (rw [e9]; done) | (rw [e9]; rfl)) (.cons (by first | rfl | (rw [e10]; done) | (rw [e10]; rfl)) (.cons rfl (.cons rfl (.cons rfl (.cons (by first | rfl | (rw [wv]; done) | (rw [wv]; rfl)) (.nil _)))))))))))), (Sel.weak (.cons tk .nil))⟩
                        · first | replace h37 := of_decide_eq_true h37 | replace h37 := of_decide_eq_false h37 | replace h37 := of_decide_eq_false (nb_T h37) | replace h37 := of_decide_eq_true (nb_F h37) | replace h37 := nb_T h37 | replace h37 := nb_F h37 | skip
                          first | replace h37 := Int.not_lt.mp h37 | replace h37 := Int.not_le.mp h37 | replace h37 := Decidable.not_not.mp h37 | skip
                          refine wc_free [0, 0, 0, 4, 14, 31, 0, 0, 128, 448, 63, 2047] (by kernel_rfl) (by kernel_rfl) (fun F => ?_)
                          have hk3 : q.kind = 3 := by omega
                          obtain ⟨b0, b1⟩ := bad_not (s := s) (n := q.n) (by rw [← hk3]; exact h42)
                          refine wr_lazy F 0 rfl (by kernel_rfl) rfl rfl (lz_empty u37 s5 z5) (.inl rfl) ?_
                          refine wr_float F 1 rfl (by kernel_rfl) (.inl (by kernel_rfl)) ?_
                          refine w_move rfl rfl ?_
                          refine ws_nil ?_
                          refine wr_float F 2 rfl (by kernel_rfl) (.inl (by kernel_rfl)) ?_
                          first | refine w_faddrC O56_1 rfl rfl ?_ | refine w_faddrP O56_1 rfl rfl ?_
                          refine ws_nil ?_
                          refine wr_pure F 3 rfl (by kernel_rfl) rfl rfl (pf_ldC1 a3 rfl rdc) (.inl rfl) ?_
                          refine wr_pure F 4 rfl (by kernel_rfl) rfl rfl (pf_slice rfl rfl rfl rfl (slice_al u37 s5 (by intro _; rfl) (by rfl) (nat_of (by omega) _) (by omega) (by omega))) (.inl rfl) ?_
                          refine wr_float F 6 rfl (by kernel_rfl) (.inl (by kernel_rfl)) ?_
                          refine w_move rfl rfl ?_
                          refine ws_nil ?_
                          refine wr_float F 7 rfl (by kernel_rfl) (.inl (by kernel_rfl)) ?_
                          first | refine w_faddrC O56_1 rfl rfl ?_ | refine w_faddrP O56_1 rfl rfl ?_
                          refine ws_nil ?_
                          refine wr_pure F 8 rfl (by kernel_rfl) rfl rfl (pf_ldC1 a3 rfl rdc) (.inl rfl) ?_
                          refine wr_float F 9 rfl (by kernel_rfl) (.inl (by kernel_rfl)) ?_
                          refine w_min rfl rfl rfl ?_
                          refine ws_nil ?_
                          refine wr_next F (l := [5]) (by kernel_rfl) (by simp) (.cons rfl ?_ (.nil))
                          refine WS.ownEmpty (v := .lst [] 0 true true) (.inr rfl) 5 1 ?_
                          refine w_appL (enc := eB) (l := []) rfl u37 s5 b5 z5 u37 (by simp) rfl rfl rfl tk nw (by unfold bigBy; first | omega | (simp only [List.length_nil, List.length_cons, List.length_append, List.length_take, List.length_drop]; omega)) (by unfold bigBy; first | omega | (simp only [List.length_nil, List.length_cons, List.length_append, List.length_take, List.length_drop]; omega)) (by intro _; rfl) ?_
                          refine ws_nil ?_
                          refine wr_float F 10 rfl (by kernel_rfl) (.inl (by kernel_rfl)) ?_
                          refine w_assign rfl rfl ?_
                          refine ws_nil ?_
                          refine wr_float F 11 rfl (by kernel_rfl) (.inl (by kernel_rfl)) ?_
                          refine w_assign rfl rfl ?_
                          refine ws_nil ?_
                          refine wr_end F (by kernel_rfl) ?_
                          simp only [List.nil_append, List.drop_zero, Nat.sub_zero]
                          have hl := fz_un k (by omega)
                          obtain ⟨wv, ws⟩ := op_free hk23 h40 h42 hl
                          have e9 : fuz (opS s q.kind q.n) = fuz s := by rw [ws]; unfold goS fuz; split <;> (simp only [hl] <;> rfl)
                          have e10 : (opS s q.kind q.n).off = s.off := by rw [ws, h40]; unfold goS; split <;> try rfl
                          have e7 : (opS s q.kind q.n).b = s.b.take q.n.toNat := by rw [ws]; unfold goS; rw [if_neg h37]
                          have e8 : (opS s q.kind q.n).firm = min s.firm q.n := by rw [ws]; unfold goS; rw [if_neg h37]
                          exact ⟨rfl, (), (.cons rfl (.cons rfl (.cons rfl (.cons (by first | rfl | (rw [e7]; done) | (rw [e7]; rfl)) (.cons (by first | rfl | (rw [e8]; done) | (rw [e8]; rfl)) (.cons (by first | rfl | (rw [e9]; done) | (rw [e9]; rfl)) (.cons (by first | rfl | (rw [e10]; done) | (rw [e10]; rfl)) (.cons rfl (.cons rfl (.cons rfl (.cons (by first | rfl | (rw [wv]; done) | (rw [wv]; rfl)) (.nil _)))))))))))), (Sel.weak (.cons tk .nil))⟩
              rintro _
              try dsimp only
              refine wc_seq ?_
              refine wc_text ?_
              first | refine w_faddrC O56_0 rfl rfl ?_ | refine w_faddrP O56_0 rfl rfl ?_
              first | refine w_ldC1 a3 rfl rfl rdc ?_ | refine w_ldP1 a3 rfl rfl tk rdp ?_
              refine w_eql u3 rfl rfl rfl ?_
              refine ws_nil ?_
              refine wc_cond rfl (fun h46 => ?_) (fun h46 => ?_)
              · first | replace h46 := of_decide_eq_true h46 | replace h46 := of_decide_eq_false h46 | replace h46 := of_decide_eq_false (nb_T h46) | replace h46 := of_decide_eq_true (nb_F h46) | replace h46 := nb_T h46 | replace h46 := nb_F h46 | skip
                first | replace h46 := Int.not_lt.mp h46 | replace h46 := Int.not_le.mp h46 | replace h46 := Decidable.not_not.mp h46 | skip
                refine wc_text ?_
                refine w_move rfl rfl ?_
                refine w_call rfl rfl (CallW.mono (CallW.take tk (sync_fn _ _ k _)) ?_)
                rintro _ _ ⟨_, rfl, rfl, rfl⟩
                try simp only [List.cons_append, List.nil_append]
                refine w_assign rfl rfl ?_
                refine ws_nil ?_
                rw [show syncV s = opV s q.kind q.n by unfold opV; rw [if_pos h46], show syncS s = (opS s q.kind q.n) by unfold opS; rw [if_pos h46]]
                have e5 := opS_room s q.kind q.n
                have e8 : (0 : Int) = 0 := rfl
                have e9 : (0 : Int) = 0 := rfl
                exact ⟨rfl, ⟨((opS s q.kind q.n), opV s q.kind q.n), op_ok _ hk23 k⟩, (.cons rfl (.cons (by first | rfl | (rw [e5]; rfl)) (.cons rfl (.cons rfl (.cons (by first | rfl | (rw [e8]; rfl)) (.cons (by first | rfl | (rw [e9]; rfl)) (.cons rfl (.cons rfl (.cons rfl (.cons rfl (.nil _))))))))))), (Sel.weak (.cons tk .nil))⟩
              · first | replace h46 := of_decide_eq_true h46 | replace h46 := of_decide_eq_false h46 | replace h46 := of_decide_eq_false (nb_T h46) | replace h46 := of_decide_eq_true (nb_F h46) | replace h46 := nb_T h46 | replace h46 := nb_F h46 | skip
                first | replace h46 := Int.not_lt.mp h46 | replace h46 := Int.not_le.mp h46 | replace h46 := Decidable.not_not.mp h46 | skip
                refine wc_text ?_
                refine w_move rfl rfl ?_
                first | refine w_faddrC O56_1 rfl rfl ?_ | refine w_faddrP O56_1 rfl rfl ?_
                first | refine w_ldC1 a3 rfl rfl rdc ?_ | refine w_ldP1 a3 rfl rfl tk rdp ?_
                refine w_call rfl rfl (CallW.mono (CallW.take tk (back_fn _ _ _ k _)) ?_)
                rintro _ _ ⟨_, rfl, rfl, rfl⟩
                try simp only [List.cons_append, List.nil_append]
                refine w_assign rfl rfl ?_
                refine ws_nil ?_
                rw [show backV s q.n = opV s q.kind q.n by unfold opV; rw [if_neg h46], show backS s q.n = (opS s q.kind q.n) by unfold opS; rw [if_neg h46]]
                have e5 := opS_room s q.kind q.n
                have e8 : (0 : Int) = 0 := rfl
                have e9 : (0 : Int) = 0 := rfl
                exact ⟨rfl, ⟨((opS s q.kind q.n), opV s q.kind q.n), op_ok _ hk23 k⟩, (.cons rfl (.cons (by first | rfl | (rw [e5]; rfl)) (.cons rfl (.cons rfl (.cons (by first | rfl | (rw [e8]; rfl)) (.cons (by first | rfl | (rw [e9]; rfl)) (.cons rfl (.cons rfl (.cons rfl (.cons rfl (.nil _))))))))))), (Sel.weak (.cons tk .nil))⟩
            · replace h32b := of_decide_eq_false h32b
              exact absurd h32 h32b
          · replace h32 := of_decide_eq_false h32
            refine wc_text ?_
            refine w_eql u3 rfl rfl rfl ?_
            refine w_assign rfl rfl ?_
            refine ws_nil ?_
            refine wc_cond rfl (fun h33 => ?_) (fun h33 => ?_)
            · replace h33 := of_decide_eq_true h33
              have hk23 : q.kind = 2 ∨ q.kind = 3 := .inr h33
              refine wc_seq ?_
              refine wc_cut [(1, AL eAsk l), (5, .int .i64 s.room), (6, .ptr (some ⟨o25, 0⟩)), (7, AL eB s.b), (8, .int .i64 s.firm), (9, .int .i64 (fuz s)), (10, .bool s.off), (11, .int .i64 (i : Nat)), (12, .cptr (eAsk q) 0), (13, .int .i64 0), (14, .int .i64 0), (19, .bool (badQ s q.kind q.n))] [.obj o25 (.row 67 6 false (DK s))] ?_ ?_
              · skip
                refine wc_text ?_
                first | refine w_faddrC O56_0 rfl rfl ?_ | refine w_faddrP O56_0 rfl rfl ?_
                first | refine w_ldC1 a3 rfl rfl rdc ?_ | refine w_ldP1 a3 rfl rfl tk rdp ?_
                refine w_eql u3 rfl rfl rfl ?_
                refine w_move rfl rfl ?_
                refine ws_split (t := 126) rfl (fun g126 => ?_) (fun g126 => ?_)
                · first | replace g126 := of_decide_eq_true g126 | replace g126 := of_decide_eq_false g126 | replace g126 := of_decide_eq_false (nb_T g126) | replace g126 := of_decide_eq_true (nb_F g126) | replace g126 := nb_T g126 | replace g126 := nb_F g126 | skip
                  first | replace g126 := Int.not_lt.mp g126 | replace g126 := Int.not_le.mp g126 | replace g126 := Decidable.not_not.mp g126 | skip
                  refine ws_on rfl rfl ?_
                  first | refine w_faddrC O56_1 rfl rfl ?_ | refine w_faddrP O56_1 rfl rfl ?_
                  refine ws_on rfl rfl ?_
                  first | refine w_ldC1 a3 rfl rfl rdc ?_ | refine w_ldP1 a3 rfl rfl tk rdp ?_
                  refine ws_on rfl rfl ?_
                  refine w_lss u3 rfl rfl rfl ?_
                  refine ws_on rfl rfl ?_
                  refine w_move rfl rfl ?_
                  refine ws_split (t := 130) rfl (fun g130 => ?_) (fun g130 => ?_)
                  · first | replace g130 := of_decide_eq_true g130 | replace g130 := of_decide_eq_false g130 | replace g130 := of_decide_eq_false (nb_T g130) | replace g130 := of_decide_eq_true (nb_F g130) | replace g130 := nb_T g130 | replace g130 := nb_F g130 | skip
                    first | replace g130 := Int.not_lt.mp g130 | replace g130 := Int.not_le.mp g130 | replace g130 := Decidable.not_not.mp g130 | skip
                    refine ws_off rfl rfl rfl rfl ?_
                    refine ws_off rfl rfl rfl rfl ?_
                    refine ws_off rfl rfl rfl rfl ?_
                    refine ws_off rfl rfl rfl rfl ?_
                    refine ws_off rfl rfl rfl rfl ?_
                    refine ws_on rfl rfl ?_
                    first | refine w_pickT rfl rfl rfl ⟨_, rfl⟩ ?_ | refine w_pickF rfl rfl ⟨_, rfl⟩ rfl ?_ | refine w_pick rfl rfl rfl rfl ?_
                    first | refine w_pickT rfl rfl rfl ⟨_, rfl⟩ ?_ | refine w_pickF rfl rfl ⟨_, rfl⟩ rfl ?_ | refine w_pick rfl rfl rfl rfl ?_
                    refine w_assign rfl rfl ?_
                    exact ws_nil ⟨rfl, (.cons (by first | rfl | (refine congrArg some (congrArg AV.bool ?_); unfold badQ; first | (simp [g126, g130]; done) | (simp [g126, show ¬ q.n < 0 by omega]; done) | (simp [g126]; done))) (.cons (by first | rfl | (refine congrArg some (congrArg AV.bool ?_); unfold badQ; first | (simp [g126, g130]; done) | (simp [g126, show ¬ q.n < 0 by omega]; done) | (simp [g126]; done))) (.cons (by first | rfl | (refine congrArg some (congrArg AV.bool ?_); unfold badQ; first | (simp [g126, g130]; done) | (simp [g126, show ¬ q.n < 0 by omega]; done) | (simp [g126]; done))) (.cons (by first | rfl | (refine congrArg some (congrArg AV.bool ?_); unfold badQ; first | (simp [g126, g130]; done) | (simp [g126, show ¬ q.n < 0 by omega]; done) | (simp [g126]; done))) (.cons (by first | rfl | (refine congrArg some (congrArg AV.bool ?_); unfold badQ; first | (simp [g126, g130]; done) | (simp [g126, show ¬ q.n < 0 by omega]; done) | (simp [g126]; done))) (.cons (by first | rfl | (refine congrArg some (congrArg AV.bool ?_); unfold badQ; first | (simp [g126, g130]; done) | (simp [g126, show ¬ q.n < 0 by omega]; done) | (simp [g126]; done))) (.cons (by first | rfl | (refine congrArg some (congrArg AV.bool ?_); unfold badQ; first | (simp [g126, g130]; done) | (simp [g126, show ¬ q.n < 0 by omega]; done) | (simp [g126]; done))) (.cons (by first | rfl | (refine congrArg some (congrArg AV.bool ?_); unfold badQ; first | (simp [g126, g130]; done) | (simp [g126, show ¬ q.n < 0 by omega]; done) | (simp [g126]; done))) (.cons (by first | rfl | (refine congrArg some (congrArg AV.bool ?_); unfold badQ; first | (simp [g126, g130]; done) | (simp [g126, show ¬ q.n < 0 by omega]; done) | (simp [g126]; done))) (.cons (by first | rfl | (refine congrArg some (congrArg AV.bool ?_); unfold badQ; first | (simp [g126, g130]; done) | (simp [g126, show ¬ q.n < 0 by omega]; done) | (simp [g126]; done))) (.cons (by first | rfl | (refine congrArg some (congrArg AV.bool ?_); unfold badQ; first | (simp [g126, g130]; done) | (simp [g126, show ¬ q.n < 0 by omega]; done) | (simp [g126]; done))) (.cons (by first | rfl | (refine congrArg some (congrArg AV.bool ?_); unfold badQ; first | (simp [g126, g130]; done) | (simp [g126, show ¬ q.n < 0 by omega]; done) | (simp [g126]; done))) (.nil _))))))))))))), (Sel.weak (.cons tk .nil))⟩
                  · first | replace g130 := of_decide_eq_true g130 | replace g130 := of_decide_eq_false g130 | replace g130 := of_decide_eq_false (nb_T g130) | replace g130 := of_decide_eq_true (nb_F g130) | replace g130 := nb_T g130 | replace g130 := nb_F g130 | skip
                    first | replace g130 := Int.not_lt.mp g130 | replace g130 := Int.not_le.mp g130 | replace g130 := Decidable.not_not.mp g130 | skip
                    refine ws_on rfl rfl ?_
                    first | refine w_faddrC O56_1 rfl rfl ?_ | refine w_faddrP O56_1 rfl rfl ?_
                    refine ws_on rfl rfl ?_
                    first | refine w_ldC1 a3 rfl rfl rdc ?_ | refine w_ldP1 a3 rfl rfl tk rdp ?_
                    refine ws_on rfl rfl ?_
                    refine w_move rfl rfl ?_
                    refine ws_on rfl rfl ?_
                    first | refine w_len rfl rfl (len_lst u37) ?_ | refine w_len rfl rfl (len_slice u37) ?_ | refine w_lenO rfl u37 rfl rfl tk ?_
                    refine ws_on rfl rfl ?_
                    refine w_gtr u3 rfl rfl rfl ?_
                    refine ws_on rfl rfl ?_
                    first | refine w_pickT rfl rfl rfl ⟨_, rfl⟩ ?_ | refine w_pickF rfl rfl ⟨_, rfl⟩ rfl ?_ | refine w_pick rfl rfl rfl rfl ?_
                    first | refine w_pickT rfl rfl rfl ⟨_, rfl⟩ ?_ | refine w_pickF rfl rfl ⟨_, rfl⟩ rfl ?_ | refine w_pick rfl rfl rfl rfl ?_
                    refine w_assign rfl rfl ?_
                    exact ws_nil ⟨rfl, (.cons (by first | rfl | (refine congrArg some (congrArg AV.bool ?_); unfold badQ; first | (simp [g126, g130]; done) | (simp [g126, show ¬ q.n < 0 by omega]; done) | (simp [g126]; done))) (.cons (by first | rfl | (refine congrArg some (congrArg AV.bool ?_); unfold badQ; first | (simp [g126, g130]; done) | (simp [g126, show ¬ q.n < 0 by omega]; done) | (simp [g126]; done))) (.cons (by first | rfl | (refine congrArg some (congrArg AV.bool ?_); unfold badQ; first | (simp [g126, g130]; done) | (simp [g126, show ¬ q.n < 0 by omega]; done) | (simp [g126]; done))) (.cons (by first | rfl | (refine congrArg some (congrArg AV.bool ?_); unfold badQ; first | (simp [g126, g130]; done) | (simp [g126, show ¬ q.n < 0 by omega]; done) | (simp [g126]; done))) (.cons (by first | rfl | (refine congrArg some (congrArg AV.bool ?_); unfold badQ; first | (simp [g126, g130]; done) | (simp [g126, show ¬ q.n < 0 by omega]; done) | (simp [g126]; done))) (.cons (by first | rfl | (refine congrArg some (congrArg AV.bool ?_); unfold badQ; first | (simp [g126, g130]; done) | (simp [g126, show ¬ q.n < 0 by omega]; done) | (simp [g126]; done))) (.cons (by first | rfl | (refine congrArg some (congrArg AV.bool ?_); unfold badQ; first | (simp [g126, g130]; done) | (simp [g126, show ¬ q.n < 0 by omega]; done) | (simp [g126]; done))) (.cons (by first | rfl | (refine congrArg some (congrArg AV.bool ?_); unfold badQ; first | (simp [g126, g130]; done) | (simp [g126, show ¬ q.n < 0 by omega]; done) | (simp [g126]; done))) (.cons (by first | rfl | (refine congrArg some (congrArg AV.bool ?_); unfold badQ; first | (simp [g126, g130]; done) | (simp [g126, show ¬ q.n < 0 by omega]; done) | (simp [g126]; done))) (.cons (by first | rfl | (refine congrArg some (congrArg AV.bool ?_); unfold badQ; first | (simp [g126, g130]; done) | (simp [g126, show ¬ q.n < 0 by omega]; done) | (simp [g126]; done))) (.cons (by first | rfl | (refine congrArg some (congrArg AV.bool ?_); unfold badQ; first | (simp [g126, g130]; done) | (simp [g126, show ¬ q.n < 0 by omega]; done) | (simp [g126]; done))) (.cons (by first | rfl | (refine congrArg some (congrArg AV.bool ?_); unfold badQ; first | (simp [g126, g130]; done) | (simp [g126, show ¬ q.n < 0 by omega]; done) | (simp [g126]; done))) (.nil _))))))))))))), (Sel.weak (.cons tk .nil))⟩
                · first | replace g126 := of_decide_eq_true g126 | replace g126 := of_decide_eq_false g126 | replace g126 := of_decide_eq_false (nb_T g126) | replace g126 := of_decide_eq_true (nb_F g126) | replace g126 := nb_T g126 | replace g126 := nb_F g126 | skip
                  first | replace g126 := Int.not_lt.mp g126 | replace g126 := Int.not_le.mp g126 | replace g126 := Decidable.not_not.mp g126 | skip
                  refine ws_off rfl rfl rfl rfl ?_
                  refine ws_off rfl rfl rfl rfl ?_
                  refine ws_off rfl rfl rfl rfl ?_
                  refine ws_off rfl rfl rfl rfl ?_
                  refine ws_offU rfl rfl rfl ?_
                  refine ws_offU rfl rfl rfl ?_
                  refine ws_offU rfl rfl rfl ?_
                  refine ws_offU rfl rfl rfl ?_
                  refine ws_offU rfl rfl rfl ?_
                  refine ws_off rfl rfl rfl rfl ?_
                  first | refine w_pickT rfl rfl rfl ⟨_, rfl⟩ ?_ | refine w_pickF rfl rfl ⟨_, rfl⟩ rfl ?_ | refine w_pick rfl rfl rfl rfl ?_
                  refine w_assign rfl rfl ?_
                  exact ws_nil ⟨rfl, (.cons (by first | rfl | (refine congrArg some (congrArg AV.bool ?_); unfold badQ; first | (simp [g126, g130]; done) | (simp [g126, show ¬ q.n < 0 by omega]; done) | (simp [g126]; done))) (.cons (by first | rfl | (refine congrArg some (congrArg AV.bool ?_); unfold badQ; first | (simp [g126, g130]; done) | (simp [g126, show ¬ q.n < 0 by omega]; done) | (simp [g126]; done))) (.cons (by first | rfl | (refine congrArg some (congrArg AV.bool ?_); unfold badQ; first | (simp [g126, g130]; done) | (simp [g126, show ¬ q.n < 0 by omega]; done) | (simp [g126]; done))) (.cons (by first | rfl | (refine congrArg some (congrArg AV.bool ?_); unfold badQ; first | (simp [g126, g130]; done) | (simp [g126, show ¬ q.n < 0 by omega]; done) | (simp [g126]; done))) (.cons (by first | rfl | (refine congrArg some (congrArg AV.bool ?_); unfold badQ; first | (simp [g126, g130]; done) | (simp [g126, show ¬ q.n < 0 by omega]; done) | (simp [g126]; done))) (.cons (by first | rfl | (refine congrArg some (congrArg AV.bool ?_); unfold badQ; first | (simp [g126, g130]; done) | (simp [g126, show ¬ q.n < 0 by omega]; done) | (simp [g126]; done))) (.cons (by first | rfl | (refine congrArg some (congrArg AV.bool ?_); unfold badQ; first | (simp [g126, g130]; done) | (simp [g126, show ¬ q.n < 0 by omega]; done) | (simp [g126]; done))) (.cons (by first | rfl | (refine congrArg some (congrArg AV.bool ?_); unfold badQ; first | (simp [g126, g130]; done) | (simp [g126, show ¬ q.n < 0 by omega]; done) | (simp [g126]; done))) (.cons (by first | rfl | (refine congrArg some (congrArg AV.bool ?_); unfold badQ; first | (simp [g126, g130]; done) | (simp [g126, show ¬ q.n < 0 by omega]; done) | (simp [g126]; done))) (.cons (by first | rfl | (refine congrArg some (congrArg AV.bool ?_); unfold badQ; first | (simp [g126, g130]; done) | (simp [g126, show ¬ q.n < 0 by omega]; done) | (simp [g126]; done))) (.cons (by first | rfl | (refine congrArg some (congrArg AV.bool ?_); unfold badQ; first | (simp [g126, g130]; done) | (simp [g126, show ¬ q.n < 0 by omega]; done) | (simp [g126]; done))) (.cons (by first | rfl | (refine congrArg some (congrArg AV.bool ?_); unfold badQ; first | (simp [g126, g130]; done) | (simp [g126, show ¬ q.n < 0 by omega]; done) | (simp [g126]; done))) (.nil _))))))))))))), (Sel.weak (.cons tk .nil))⟩
              refine wc_seq ?_
              refine wc_cutX (σ := Unit) (fun _ => [(1, AL eAsk l), (5, .int .i64 s.room), (6, .ptr (some ⟨o25, 0⟩)), (7, AL eB (opS s q.kind q.n).b), (8, .int .i64 (opS s q.kind q.n).firm), (9, .int .i64 (fuz (opS s q.kind q.n))), (10, .bool (opS s q.kind q.n).off), (11, .int .i64 (i : Nat)), (12, .cptr (eAsk q) 0), (13, .int .i64 0), (14, .int .i64 (opV s q.kind q.n))]) (fun _ => [.obj o25 (.row 67 6 false (DK s))]) ?_ ?_
              · skip
                refine wc_block ?_
                refine wc_seq ?_
                refine wc_text ?_
                refine w_move rfl rfl ?_
                refine w_assign rfl rfl ?_
                refine ws_nil ?_
                refine wc_cond rfl (fun h40 => ?_) (fun h40 => ?_)
                · skip
                  refine wc_text ?_
                  refine w_assign rfl rfl ?_
                  refine ws_nil ?_
                  obtain ⟨wv, ws⟩ := op_off (kind := q.kind) (n := q.n) h40
                  have e7 : (opS s q.kind q.n).b = s.b := by rw [ws]
                  have e8 : (opS s q.kind q.n).firm = s.firm := by rw [ws]
                  have e9 : fuz (opS s q.kind q.n) = fuz s := by rw [ws]
                  have e10 : (opS s q.kind q.n).off = s.off := by rw [ws]
                  exact ⟨rfl, (), (.cons rfl (.cons rfl (.cons rfl (.cons (by first | rfl | (rw [e7]; done) | (rw [e7]; rfl)) (.cons (by first | rfl | (rw [e8]; done) | (rw [e8]; rfl)) (.cons (by first | rfl | (rw [e9]; done) | (rw [e9]; rfl)) (.cons (by first | rfl | (rw [e10]; done) | (rw [e10]; rfl)) (.cons rfl (.cons rfl (.cons rfl (.cons (by first | rfl | (rw [wv]; done) | (rw [wv]; rfl)) (.nil _)))))))))))), (Sel.weak (.cons tk .nil))⟩
                · skip
                  refine wc_seq ?_
                  refine wc_text ?_
                  refine w_move rfl rfl ?_
                  refine w_assign rfl rfl ?_
                  refine ws_nil ?_
                  refine wc_cond rfl (fun h42 => ?_) (fun h42 => ?_)
                  · skip
                    refine wc_text ?_
                    refine w_assign rfl rfl ?_
                    refine ws_nil ?_
                    obtain ⟨wv, ws⟩ := op_bad hk23 h40 h42
                    have e7 : (opS s q.kind q.n).b = s.b := by rw [ws]
                    have e8 : (opS s q.kind q.n).firm = s.firm := by rw [ws]
                    have e9 : fuz (opS s q.kind q.n) = fuz s := by rw [ws]
                    have e10 : (opS s q.kind q.n).off = s.off := by rw [ws]
                    exact ⟨rfl, (), (.cons rfl (.cons rfl (.cons rfl (.cons (by first | rfl | (rw [e7]; done) | (rw [e7]; rfl)) (.cons (by first | rfl | (rw [e8]; done) | (rw [e8]; rfl)) (.cons (by first | rfl | (rw [e9]; done) | (rw [e9]; rfl)) (.cons (by first | rfl | (rw [e10]; done) | (rw [e10]; rfl)) (.cons rfl (.cons rfl (.cons rfl (.cons (by first | rfl | (rw [wv]; done) | (rw [wv]; rfl)) (.nil _)))))))))))), (Sel.weak (.cons tk .nil))⟩
                  · skip
                    refine wc_seq ?_
                    refine wc_text ?_
                    refine w_move rfl rfl ?_
                    refine w_eql u3 rfl rfl rfl ?_
                    refine w_assign rfl rfl ?_
                    refine ws_nil ?_
                    refine wc_cond rfl (fun h44 => ?_) (fun h44 => ?_)
                    · first | replace h44 := of_decide_eq_true h44 | replace h44 := of_decide_eq_false h44 | replace h44 := of_decide_eq_false (nb_T h44) | replace h44 := of_decide_eq_true (nb_F h44) | replace h44 := nb_T h44 | replace h44 := nb_F h44 | skip
                      first | replace h44 := Int.not_lt.mp h44 | replace h44 := Int.not_le.mp h44 | replace h44 := Decidable.not_not.mp h44 | skip
                      refine wc_text ?_
                      refine w_assign rfl rfl ?_
                      refine w_assign rfl rfl ?_
                      refine ws_nil ?_
                      obtain ⟨hl, hfz⟩ := fz_lit (s := s) (by omega)
                      obtain ⟨wv, ws⟩ := op_zero hk23 h40 h42 hl (by omega)
                      have e7 : (opS s q.kind q.n).b = s.b := by rw [ws]
                      have e8 : (opS s q.kind q.n).firm = s.firm := by rw [ws]
                      have e9 : fuz (opS s q.kind q.n) = fuz s := by rw [ws]; rw [h44]; try rfl
                      have e10 : (opS s q.kind q.n).off = true := by rw [ws]
                      exact ⟨rfl, (), (.cons rfl (.cons rfl (.cons rfl (.cons (by first | rfl | (rw [e7]; done) | (rw [e7]; rfl)) (.cons (by first | rfl | (rw [e8]; done) | (rw [e8]; rfl)) (.cons (by first | rfl | (rw [e9]; done) | (rw [e9]; rfl)) (.cons (by first | rfl | (rw [e10]; done) | (rw [e10]; rfl)) (.cons rfl (.cons rfl (.cons rfl (.cons (by first | rfl | (rw [wv]; done) | (rw [wv]; rfl)) (.nil _)))))))))))), (Sel.weak (.cons tk .nil))⟩
                    · first | replace h44 := of_decide_eq_true h44 | replace h44 := of_decide_eq_false h44 | replace h44 := of_decide_eq_false (nb_T h44) | replace h44 := of_decide_eq_true (nb_F h44) | replace h44 := nb_T h44 | replace h44 := nb_F h44 | skip
                      first | replace h44 := Int.not_lt.mp h44 | replace h44 := Int.not_le.mp h44 | replace h44 := Decidable.not_not.mp h44 | skip
                      refine wc_seq ?_
                      refine wc_seq ?_
                      refine wc_text ?_
                      refine w_move rfl rfl ?_
                      refine w_gtr u3 rfl rfl rfl ?_
                      refine ws_nil ?_
                      refine wc_cond rfl (fun h35 => ?_) (fun h35 => ?_)
                      · first | replace h35 := of_decide_eq_true h35 | replace h35 := of_decide_eq_false h35 | replace h35 := of_decide_eq_false (nb_T h35) | replace h35 := of_decide_eq_true (nb_F h35) | replace h35 := nb_T h35 | replace h35 := nb_F h35 | skip
                        first | replace h35 := Int.not_lt.mp h35 | replace h35 := Int.not_le.mp h35 | replace h35 := Decidable.not_not.mp h35 | skip
                        refine wc_text ?_
                        refine w_move rfl rfl ?_
                        refine w_sub u3 rfl rfl rfl (by omega) ?_
                        refine w_assign rfl rfl ?_
                        refine ws_nil ?_
                        refine wc_seq ?_
                        refine wc_text ?_
                        first | refine w_faddrC O56_0 rfl rfl ?_ | refine w_faddrP O56_0 rfl rfl ?_
                        first | refine w_ldC1 a3 rfl rfl rdc ?_ | refine w_ldP1 a3 rfl rfl tk rdp ?_
                        refine w_eql u3 rfl rfl rfl ?_
                        refine ws_nil ?_
                        refine wc_cond rfl (fun h37 => ?_) (fun h37 => ?_)
                        · first | replace h37 := of_decide_eq_true h37 | replace h37 := of_decide_eq_false h37 | replace h37 := of_decide_eq_false (nb_T h37) | replace h37 := of_decide_eq_true (nb_F h37) | replace h37 := nb_T h37 | replace h37 := nb_F h37 | skip
                          first | replace h37 := Int.not_lt.mp h37 | replace h37 := Int.not_le.mp h37 | replace h37 := Decidable.not_not.mp h37 | skip
                          refine wc_text ?_
                          refine w_move rfl rfl ?_
                          first | refine w_len rfl rfl (len_lst u37) ?_ | refine w_len rfl rfl (len_slice u37) ?_ | refine w_lenO rfl u37 rfl rfl tk ?_
                          refine w_assign rfl rfl ?_
                          refine ws_nil ?_
                          obtain ⟨hl, hfz⟩ := fz_lit (s := s) (by omega)
                          obtain ⟨wv, ws⟩ := op_fuse hk23 h40 h42 hl (by omega)
                          have e9 : fuz (opS s q.kind q.n) = fuz s - 1 := by rw [ws, hfz]; unfold goS fuz; split <;> (simp only [hl] <;> rfl)
                          have e10 : (opS s q.kind q.n).off = s.off := by rw [ws, h40]; unfold goS; split <;> try rfl
                          have e7 : (opS s q.kind q.n).b = s.b := by rw [ws]; unfold goS; rw [if_pos h37]
                          have e8 : (opS s q.kind q.n).firm = (s.b.length : Nat) := by rw [ws]; unfold goS; rw [if_pos h37]
                          exact ⟨rfl, (), (.cons rfl (.cons rfl (.cons rfl (.cons (by first | rfl | (rw [e7]; done) | (rw [e7]; rfl)) (.cons (by first | rfl | (rw [e8]; done) | (rw [e8]; rfl)) (.cons (by first | rfl | (rw [e9]; done) | (rw [e9]; rfl)) (.cons (by first | rfl | (rw [e10]; done) | (rw [e10]; rfl)) (.cons rfl (.cons rfl (.cons rfl (.cons (by first | rfl | (rw [wv]; done) | (rw [wv]; rfl)) (.nil _)))))))))))), (Sel.weak (.cons tk .nil))⟩
                        · first | replace h37 := of_decide_eq_true h37 | replace h37 := of_decide_eq_false h37 | replace h37 := of_decide_eq_false (nb_T h37) | replace h37 := of_decide_eq_true (nb_F h37) | replace h37 := nb_T h37 | replace h37 := nb_F h37 | skip
                          first | replace h37 := Int.not_lt.mp h37 | replace h37 := Int.not_le.mp h37 | replace h37 := Decidable.not_not.mp h37 | skip
                          refine wc_free [0, 0, 0, 4, 14, 31, 0, 0, 128, 448, 63, 2047] (by kernel_rfl) (by kernel_rfl) (fun F => ?_)
                          have hk3 : q.kind = 3 := by omega
                          obtain ⟨b0, b1⟩ := bad_not (s := s) (n := q.n) (by rw [← hk3]; exact h42)
                          refine wr_lazy F 0 rfl (by kernel_rfl) rfl rfl (lz_empty u37 s5 z5) (.inl rfl) ?_
                          refine wr_float F 1 rfl (by kernel_rfl) (.inl (by kernel_rfl)) ?_
                          refine w_move rfl rfl ?_
                          refine ws_nil ?_
                          refine wr_float F 2 rfl (by kernel_rfl) (.inl (by kernel_rfl)) ?_
                          first | refine w_faddrC O56_1 rfl rfl ?_ | refine w_faddrP O56_1 rfl rfl ?_
                          refine ws_nil ?_
                          refine wr_pure F 3 rfl (by kernel_rfl) rfl rfl (pf_ldC1 a3 rfl rdc) (.inl rfl) ?_
                          refine wr_pure F 4 rfl (by kernel_rfl) rfl rfl (pf_slice rfl rfl rfl rfl (slice_al u37 s5 (by intro _; rfl) (by rfl) (nat_of (by omega) _) (by omega) (by omega))) (.inl rfl) ?_
                          refine wr_float F 6 rfl (by kernel_rfl) (.inl (by kernel_rfl)) ?_
                          refine w_move rfl rfl ?_
                          refine ws_nil ?_
                          refine wr_float F 7 rfl (by kernel_rfl) (.inl (by kernel_rfl)) ?_
                          first | refine w_faddrC O56_1 rfl rfl ?_ | refine w_faddrP O56_1 rfl rfl ?_
                          refine ws_nil ?_
                          refine wr_pure F 8 rfl (by kernel_rfl) rfl rfl (pf_ldC1 a3 rfl rdc) (.inl rfl) ?_
                          refine wr_float F 9 rfl (by kernel_rfl) (.inl (by kernel_rfl)) ?_
                          refine w_min rfl rfl rfl ?_
                          refine ws_nil ?_
                          refine wr_next F (l := [5]) (by kernel_rfl) (by simp) (.cons rfl ?_ (.nil))
                          refine WS.ownEmpty (v := .lst [] 0 true true) (.inr rfl) 5 1 ?_
                          refine w_appL (enc := eB) (l := []) rfl u37 s5 b5 z5 u37 (by simp) rfl rfl rfl tk nw (by unfold bigBy; first | omega | (simp only [List.length_nil, List.length_cons, List.length_append, List.length_take, List.length_drop]; omega)) (by unfold bigBy; first | omega | (simp only [List.length_nil, List.length_cons, List.length_append, List.length_take, List.length_drop]; omega)) (by intro _; rfl) ?_
                          refine ws_nil ?_
                          refine wr_float F 10 rfl (by kernel_rfl) (.inl (by kernel_rfl)) ?_
                          refine w_assign rfl rfl ?_
                          refine ws_nil ?_
                          refine wr_float F 11 rfl (by kernel_rfl) (.inl (by kernel_rfl)) ?_
                          refine w_assign rfl rfl ?_
                          refine ws_nil ?_
                          refine wr_end F (by kernel_rfl) ?_
                          simp only [List.nil_append, List.drop_zero, Nat.sub_zero]
                          obtain ⟨hl, hfz⟩ := fz_lit (s := s) (by omega)
                          obtain ⟨wv, ws⟩ := op_fuse hk23 h40 h42 hl (by omega)
                          have e9 : fuz (opS s q.kind q.n) = fuz s - 1 := by rw [ws, hfz]; unfold goS fuz; split <;> (simp only [hl] <;> rfl)
                          have e10 : (opS s q.kind q.n).off = s.off := by rw [ws, h40]; unfold goS; split <;> try rfl
                          have e7 : (opS s q.kind q.n).b = s.b.take q.n.toNat := by rw [ws]; unfold goS; rw [if_neg h37]
                          have e8 : (opS s q.kind q.n).firm = min s.firm q.n := by rw [ws]; unfold goS; rw [if_neg h37]
                          exact ⟨rfl, (), (.cons rfl (.cons rfl (.cons rfl (.cons (by first | rfl | (rw [e7]; done) | (rw [e7]; rfl)) (.cons (by first | rfl | (rw [e8]; done) | (rw [e8]; rfl)) (.cons (by first | rfl | (rw [e9]; done) | (rw [e9]; rfl)) (.cons (by first | rfl | (rw [e10]; done) | (rw [e10]; rfl)) (.cons rfl (.cons rfl (.cons rfl (.cons (by first | rfl | (rw [wv]; done) | (rw [wv]; rfl)) (.nil _)))))))))))), (Sel.weak (.cons tk .nil))⟩
                      · first | replace h35 := of_decide_eq_true h35 | replace h35 := of_decide_eq_false h35 | replace h35 := of_decide_eq_false (nb_T h35) | replace h35 := of_decide_eq_true (nb_F h35) | replace h35 := nb_T h35 | replace h35 := nb_F h35 | skip
                        first | replace h35 := Int.not_lt.mp h35 | replace h35 := Int.not_le.mp h35 | replace h35 := Decidable.not_not.mp h35 | skip
                        refine wc_stay ?_
                        refine wc_seq ?_
                        refine wc_text ?_
                        first | refine w_faddrC O56_0 rfl rfl ?_ | refine w_faddrP O56_0 rfl rfl ?_
                        first | refine w_ldC1 a3 rfl rfl rdc ?_ | refine w_ldP1 a3 rfl rfl tk rdp ?_
                        refine w_eql u3 rfl rfl rfl ?_
                        refine ws_nil ?_
                        refine wc_cond rfl (fun h37 => ?_) (fun h37 => ?_)
                        · first | replace h37 := of_decide_eq_true h37 | replace h37 := of_decide_eq_false h37 | replace h37 := of_decide_eq_false (nb_T h37) | replace h37 := of_decide_eq_true (nb_F h37) | replace h37 := nb_T h37 | replace h37 := nb_F h37 | skip
                          first | replace h37 := Int.not_lt.mp h37 | replace h37 := Int.not_le.mp h37 | replace h37 := Decidable.not_not.mp h37 | skip
                          refine wc_text ?_
                          refine w_move rfl rfl ?_
                          first | refine w_len rfl rfl (len_lst u37) ?_ | refine w_len rfl rfl (len_slice u37) ?_ | refine w_lenO rfl u37 rfl rfl tk ?_
                          refine w_assign rfl rfl ?_
                          refine ws_nil ?_
                          have hl := fz_un k (by omega)
                          obtain ⟨wv, ws⟩ := op_free hk23 h40 h42 hl
                          have e9 : fuz (opS s q.kind q.n) = fuz s := by rw [ws]; unfold goS fuz; split <;> (simp only [hl] <;> rfl)
                          have e10 : (opS s q.kind q.n).off = s.off := by rw [ws, h40]; unfold goS; split <;> try rfl
                          have e7 : (opS s q.kind q.n).b = s.b := by rw [ws]; unfold goS; rw [if_pos h37]
                          have e8 : (opS s q.kind q.n).firm = (s.b.length : Nat) := by rw [ws]; unfold goS; rw [if_pos h37]
                          exact ⟨rfl, (), (.cons rfl (.cons rfl (.cons rfl (.cons (by first | rfl | (rw [e7]; done) | (rw [e7]; rfl)) (.cons (by first | rfl | (rw [e8]; done) | (rw [e8]; rfl)) (.cons (by first | rfl | (rw [e9]; done) | (rw [e9]; rfl)) (.cons (by first | rfl | (rw [e10]; done) | (rw [e10]; rfl)) (.cons rfl (.cons rfl (.cons rfl (.cons (by first | rfl | (rw [wv]; done) | (rw [wv]; rfl)) (.nil _)))))))))))), (Sel.weak (.cons tk .nil))⟩
                        · first | replace h37 := of_decide_eq_true h37 | replace h37 := of_decide_eq_false h37 | replace h37 := of_decide_eq_false (nb_T h37) | replace h37 := of_decide_eq_true (nb_F h37) | replace h37 := nb_T h37 | replace h37 := nb_F h37 | skip
                          first | replace h37 := Int.not_lt.mp h37 | replace h37 := Int.not_le.mp h37 | replace h37 := Decidable.not_not.mp h37 | skip
                          refine wc_free [0, 0, 0, 4, 14, 31, 0, 0, 128, 448, 63, 2047] (by kernel_rfl) (by kernel_rfl) (fun F => ?_)
                          have hk3 : q.kind = 3 := by omega
                          obtain ⟨b0, b1⟩ := bad_not (s := s) (n := q.n) (by rw [← hk3]; exact h42)
                          refine wr_lazy F 0 rfl (by kernel_rfl) rfl rfl (lz_empty u37 s5 z5) (.inl rfl) ?_
                          refine wr_float F 1 rfl (by kernel_rfl) (.inl (by kernel_rfl)) ?_
                          refine w_move rfl rfl ?_
                          refine ws_nil ?_
                          refine wr_float F 2 rfl (by kernel_rfl) (.inl (by kernel_rfl)) ?_
                          first | refine w_faddrC O56_1 rfl rfl ?_ | refine w_faddrP O56_1 rfl rfl ?_
                          refine ws_nil ?_
                          refine wr_pure F 3 rfl (by kernel_rfl) rfl rfl (pf_ldC1 a3 rfl rdc) (.inl rfl) ?_
                          refine wr_pure F 4 rfl (by kernel_rfl) rfl rfl (pf_slice rfl rfl rfl rfl (slice_al u37 s5 (by intro _; rfl) (by rfl) (nat_of (by omega) _) (by omega) (by omega))) (.inl rfl) ?_
                          refine wr_float F 6 rfl (by kernel_rfl) (.inl (by kernel_rfl)) ?_
                          refine w_move rfl rfl ?_
                          refine ws_nil ?_
                          refine wr_float F 7 rfl (by kernel_rfl) (.inl (by kernel_rfl)) ?_
                          first | refine w_faddrC O56_1 rfl rfl ?_ | refine w_faddrP O56_1 rfl rfl ?_
                          refine ws_nil ?_
                          refine wr_pure F 8 rfl (by kernel_rfl) rfl rfl (pf_ldC1 a3 rfl rdc) (.inl rfl) ?_
                          refine wr_float F 9 rfl (by kernel_rfl) (.inl (by kernel_rfl)) ?_
                          refine w_min rfl rfl rfl ?_
                          refine ws_nil ?_
                          refine wr_next F (l := [5]) (by kernel_rfl) (by simp) (.cons rfl ?_ (.nil))
                          refine WS.ownEmpty (v := .lst [] 0 true true) (.inr rfl) 5 1 ?_
                          refine w_appL (enc := eB) (l := []) rfl u37 s5 b5 z5 u37 (by simp) rfl rfl rfl tk nw (by unfold bigBy; first | omega | (simp only [List.length_nil, List.length_cons, List.length_append, List.length_take, List.length_drop]; omega)) (by unfold bigBy; first | omega | (simp only [List.length_nil, List.length_cons, List.length_append, List.length_take, List.length_drop]; omega)) (by intro _; rfl) ?_
                          refine ws_nil ?_
                          refine wr_float F 10 rfl (by kernel_rfl) (.inl (by kernel_rfl)) ?_
                          refine w_assign rfl rfl ?_
                          refine ws_nil ?_
                          refine wr_float F 11 rfl (by kernel_rfl) (.inl (by kernel_rfl)) ?_
                          refine w_assign rfl rfl ?_
                          refine ws_nil ?_
                          refine wr_end F (by kernel_rfl) ?_
                          simp only [List.nil_append, List.drop_zero, Nat.sub_zero]
                          have hl := fz_un k (by omega)
                          obtain ⟨wv, ws⟩ := op_free hk23 h40 h42 hl
                          have e9 : fuz (opS s q.kind q.n) = fuz s := by rw [ws]; unfold goS fuz; split <;> (simp only [hl] <;> rfl)
                          have e10 : (opS s q.kind q.n).off = s.off := by rw [ws, h40]; unfold goS; split <;> try rfl
                          have e7 : (opS s q.kind q.n).b = s.b.take q.n.toNat := by rw [ws]; unfold goS; rw [if_neg h37]
                          have e8 : (opS s q.kind q.n).firm = min s.firm q.n := by rw [ws]; unfold goS; rw [if_neg h37]
                          exact ⟨rfl, (), (.cons rfl (.cons rfl (.cons rfl (.cons (by first | rfl | (rw [e7]; done) | (rw [e7]; rfl)) (.cons (by first | rfl | (rw [e8]; done) | (rw [e8]; rfl)) (.cons (by first | rfl | (rw [e9]; done) | (rw [e9]; rfl)) (.cons (by first | rfl | (rw [e10]; done) | (rw [e10]; rfl)) (.cons rfl (.cons rfl (.cons rfl (.cons (by first | rfl | (rw [wv]; done) | (rw [wv]; rfl)) (.nil _)))))))))))), (Sel.weak (.cons tk .nil))⟩
              rintro _
              try dsimp only
              refine wc_seq ?_
              refine wc_text ?_
              first | refine w_faddrC O56_0 rfl rfl ?_ | refine w_faddrP O56_0 rfl rfl ?_
              first | refine w_ldC1 a3 rfl rfl rdc ?_ | refine w_ldP1 a3 rfl rfl tk rdp ?_
              refine w_eql u3 rfl rfl rfl ?_
              refine ws_nil ?_
              refine wc_cond rfl (fun h46 => ?_) (fun h46 => ?_)
              · first | replace h46 := of_decide_eq_true h46 | replace h46 := of_decide_eq_false h46 | replace h46 := of_decide_eq_false (nb_T h46) | replace h46 := of_decide_eq_true (nb_F h46) | replace h46 := nb_T h46 | replace h46 := nb_F h46 | skip
                first | replace h46 := Int.not_lt.mp h46 | replace h46 := Int.not_le.mp h46 | replace h46 := Decidable.not_not.mp h46 | skip
                refine wc_text ?_
                refine w_move rfl rfl ?_
                refine w_call rfl rfl (CallW.mono (CallW.take tk (sync_fn _ _ k _)) ?_)
                rintro _ _ ⟨_, rfl, rfl, rfl⟩
                try simp only [List.cons_append, List.nil_append]
                refine w_assign rfl rfl ?_
                refine ws_nil ?_
                rw [show syncV s = opV s q.kind q.n by unfold opV; rw [if_pos h46], show syncS s = (opS s q.kind q.n) by unfold opS; rw [if_pos h46]]
                have e5 := opS_room s q.kind q.n
                have e8 : (0 : Int) = 0 := rfl
                have e9 : (0 : Int) = 0 := rfl
                exact ⟨rfl, ⟨((opS s q.kind q.n), opV s q.kind q.n), op_ok _ hk23 k⟩, (.cons rfl (.cons (by first | rfl | (rw [e5]; rfl)) (.cons rfl (.cons rfl (.cons (by first | rfl | (rw [e8]; rfl)) (.cons (by first | rfl | (rw [e9]; rfl)) (.cons rfl (.cons rfl (.cons rfl (.cons rfl (.nil _))))))))))), (Sel.weak (.cons tk .nil))⟩
              · first | replace h46 := of_decide_eq_true h46 | replace h46 := of_decide_eq_false h46 | replace h46 := of_decide_eq_false (nb_T h46) | replace h46 := of_decide_eq_true (nb_F h46) | replace h46 := nb_T h46 | replace h46 := nb_F h46 | skip
                first | replace h46 := Int.not_lt.mp h46 | replace h46 := Int.not_le.mp h46 | replace h46 := Decidable.not_not.mp h46 | skip
                refine wc_text ?_
                refine w_move rfl rfl ?_
                first | refine w_faddrC O56_1 rfl rfl ?_ | refine w_faddrP O56_1 rfl rfl ?_
                first | refine w_ldC1 a3 rfl rfl rdc ?_ | refine w_ldP1 a3 rfl rfl tk rdp ?_
                refine w_call rfl rfl (CallW.mono (CallW.take tk (back_fn _ _ _ k _)) ?_)
                rintro _ _ ⟨_, rfl, rfl, rfl⟩
                try simp only [List.cons_append, List.nil_append]
                refine w_assign rfl rfl ?_
                refine ws_nil ?_
                rw [show backV s q.n = opV s q.kind q.n by unfold opV; rw [if_neg h46], show backS s q.n = (opS s q.kind q.n) by unfold opS; rw [if_neg h46]]
                have e5 := opS_room s q.kind q.n
                have e8 : (0 : Int) = 0 := rfl
                have e9 : (0 : Int) = 0 := rfl
                exact ⟨rfl, ⟨((opS s q.kind q.n), opV s q.kind q.n), op_ok _ hk23 k⟩, (.cons rfl (.cons (by first | rfl | (rw [e5]; rfl)) (.cons rfl (.cons rfl (.cons (by first | rfl | (rw [e8]; rfl)) (.cons (by first | rfl | (rw [e9]; rfl)) (.cons rfl (.cons rfl (.cons rfl (.cons rfl (.nil _))))))))))), (Sel.weak (.cons tk .nil))⟩
            · replace h33 := of_decide_eq_false h33
              refine wc_seq ?_
              refine wc_text ?_
              refine w_eql u3 rfl rfl rfl ?_
              refine w_assign rfl rfl ?_
              refine ws_nil ?_
              refine wc_cond rfl (fun h49 => ?_) (fun h49 => ?_)
              · first | replace h49 := of_decide_eq_true h49 | replace h49 := of_decide_eq_false h49 | replace h49 := of_decide_eq_false (nb_T h49) | replace h49 := of_decide_eq_true (nb_F h49) | replace h49 := nb_T h49 | replace h49 := nb_F h49 | skip
                first | replace h49 := Int.not_lt.mp h49 | replace h49 := Int.not_le.mp h49 | replace h49 := Decidable.not_not.mp h49 | skip
                refine wc_seq ?_
                refine wc_text ?_
                refine w_move rfl rfl ?_
                first | refine w_faddrC O56_1 rfl rfl ?_ | refine w_faddrP O56_1 rfl rfl ?_
                first | refine w_ldC1 a3 rfl rfl rdc ?_ | refine w_ldP1 a3 rfl rfl tk rdp ?_
                refine w_call rfl rfl (CallW.mono (CallW.take tk (arm_fn _ _ _ _)) ?_)
                rintro _ _ ⟨_, rfl, rfl⟩
                try simp only [List.cons_append, List.nil_append]
                refine ws_nil ?_
                refine wc_text ?_
                first | refine w_faddrC O56_1 rfl rfl ?_ | refine w_faddrP O56_1 rfl rfl ?_
                first | refine w_ldC1 a3 rfl rfl rdc ?_ | refine w_ldP1 a3 rfl rfl tk rdp ?_
                refine w_max rfl rfl rfl ?_
                refine w_assign rfl rfl ?_
                refine ws_nil ?_
                have e5 : (0 : Int) = 0 := rfl
                have e8 : (0 : Int) = 0 := rfl
                have e9 := fz_arm s q.n
                exact ⟨rfl, ⟨(armS s q.n, 0), arm_ok k hq.n0 hq.n1⟩, (.cons rfl (.cons (by first | rfl | (rw [e5]; rfl)) (.cons rfl (.cons rfl (.cons (by first | rfl | (rw [e8]; rfl)) (.cons (by first | rfl | (rw [e9]; rfl)) (.cons rfl (.cons rfl (.cons rfl (.cons rfl (.nil _))))))))))), (Sel.weak (.cons tk .nil))⟩
              · first | replace h49 := of_decide_eq_true h49 | replace h49 := of_decide_eq_false h49 | replace h49 := of_decide_eq_false (nb_T h49) | replace h49 := of_decide_eq_true (nb_F h49) | replace h49 := nb_T h49 | replace h49 := nb_F h49 | skip
                first | replace h49 := Int.not_lt.mp h49 | replace h49 := Int.not_le.mp h49 | replace h49 := Decidable.not_not.mp h49 | skip
                refine wc_seq ?_
                refine wc_text ?_
                refine w_eql u3 rfl rfl rfl ?_
                refine w_assign rfl rfl ?_
                refine ws_nil ?_
                refine wc_cond rfl (fun h52 => ?_) (fun h52 => ?_)
                · first | replace h52 := of_decide_eq_true h52 | replace h52 := of_decide_eq_false h52 | replace h52 := of_decide_eq_false (nb_T h52) | replace h52 := of_decide_eq_true (nb_F h52) | replace h52 := nb_T h52 | replace h52 := nb_F h52 | skip
                  first | replace h52 := Int.not_lt.mp h52 | replace h52 := Int.not_le.mp h52 | replace h52 := Decidable.not_not.mp h52 | skip
                  refine wc_seq ?_
                  refine wc_text ?_
                  refine w_move rfl rfl ?_
                  first | refine w_faddrC O56_1 rfl rfl ?_ | refine w_faddrP O56_1 rfl rfl ?_
                  first | refine w_ldC1 a3 rfl rfl rdc ?_ | refine w_ldP1 a3 rfl rfl tk rdp ?_
                  refine w_call rfl rfl (CallW.mono (CallW.take tk (boot_fn _ _ _ k _)) ?_)
                  rintro _ _ ⟨_, rfl, rfl⟩
                  try simp only [List.cons_append, List.nil_append]
                  refine ws_nil ?_
                  refine wc_seq ?_
                  refine wc_text ?_
                  have hcv := clampV_in q.n (lo := 0) (hi := (s.b.length : Int) - s.firm) (by omega)
                  refine w_buildS (cs := []) u37 s5 z5 (by decide) rfl rfl rfl (fun o188 => ?_)
                  refine w_move rfl rfl ?_
                  refine w_move rfl rfl ?_
                  first | refine w_faddrC O56_1 rfl rfl ?_ | refine w_faddrP O56_1 rfl rfl ?_
                  first | refine w_ldC1 a3 rfl rfl rdc ?_ | refine w_ldP1 a3 rfl rfl tk rdp ?_
                  refine w_move rfl rfl ?_
                  first | refine w_len rfl rfl (len_lst u37) ?_ | refine w_len rfl rfl (len_slice u37) ?_ | refine w_lenO rfl u37 rfl rfl tk ?_
                  refine w_move rfl rfl ?_
                  refine w_sub u3 rfl rfl rfl (by omega) ?_
                  refine w_call rfl rfl (cw_fn rfl rfl (.cons fz (.cons fz (.cons fz .nil))) (clamp_fn _ _ _) ?_)
                  refine w_add u3 rfl rfl rfl (by omega) ?_
                  refine w_slice rfl rfl rfl rfl rfl (slice_al u37 s5 (by intro _; rfl) (by rfl) (nat_of (by omega) _) (by omega) (by omega)) ?_
                  refine WS.ownEmpty (v := .slice (some ⟨o188, 0⟩) 0 (.exact 0)) (.inl ⟨_, rfl⟩) 5 1 ?_
                  refine w_appL (enc := eB) (l := []) rfl u37 s5 b5 z5 u37 (by simp) rfl rfl rfl tk nw (by unfold bigBy; first | omega | (simp only [List.length_nil, List.length_cons, List.length_append, List.length_take, List.length_drop]; omega)) (by unfold bigBy; first | omega | (simp only [List.length_nil, List.length_cons, List.length_append, List.length_take, List.length_drop]; omega)) (by intro _; rfl) ?_
                  refine w_assign rfl rfl ?_
                  refine ws_nil ?_
                  simp only [List.nil_append, List.drop_zero, Nat.sub_zero]
                  rw [boot_clamp s q.n k]
                  refine wc_text ?_
                  refine w_move rfl rfl ?_
                  first | refine w_len rfl rfl (len_lst u37) ?_ | refine w_len rfl rfl (len_slice u37) ?_ | refine w_lenO rfl u37 rfl rfl tk ?_
                  refine w_assign rfl rfl ?_
                  refine w_assign rfl rfl ?_
                  refine w_assign rfl rfl ?_
                  refine ws_nil ?_
                  have e5 : (0 : Int) = 0 := rfl
                  have e8 : (bootS s q.n).firm = ((s.b.take (bootN s q.n).toNat).length : Nat) := (boot_len q.n k).symm
                  have e9 : (0 : Int) = 0 := rfl
                  exact ⟨rfl, ⟨(bootS s q.n, 0), boot_ok _ k⟩, (.cons rfl (.cons (by first | rfl | (rw [e5]; rfl)) (.cons rfl (.cons rfl (.cons (by first | rfl | (rw [e8]; rfl)) (.cons (by first | rfl | (rw [e9]; rfl)) (.cons rfl (.cons rfl (.cons rfl (.cons rfl (.nil _))))))))))), (Sel.weak (.cons tk .nil))⟩
                · first | replace h52 := of_decide_eq_true h52 | replace h52 := of_decide_eq_false h52 | replace h52 := of_decide_eq_false (nb_T h52) | replace h52 := of_decide_eq_true (nb_F h52) | replace h52 := nb_T h52 | replace h52 := nb_F h52 | skip
                  first | replace h52 := Int.not_lt.mp h52 | replace h52 := Int.not_le.mp h52 | replace h52 := Decidable.not_not.mp h52 | skip
                  refine wc_stay ?_
                  have e5 : (0 : Int) = 0 := rfl
                  have e8 : (0 : Int) = 0 := rfl
                  have e9 : (0 : Int) = 0 := rfl
                  exact ⟨rfl, ⟨(s, 0), k⟩, (.cons rfl (.cons (by first | rfl | (rw [e5]; rfl)) (.cons rfl (.cons rfl (.cons (by first | rfl | (rw [e8]; rfl)) (.cons (by first | rfl | (rw [e9]; rfl)) (.cons rfl (.cons rfl (.cons rfl (.cons rfl (.nil _))))))))))), (Sel.weak (.cons tk .nil))⟩
      rintro ⟨⟨s2, e⟩, k2⟩
      try dsimp only
      simp only at k2
      have k2l := read_len k2
      refine wc_seq ?_
      refine wc_text ?_
      refine w_move rfl rfl ?_
      refine w_call rfl rfl (CallW.mono (CallW.take tk (read_fn _ _ k2 _)) ?_)
      rintro v204 _ ⟨_, rfl, rfl⟩
      try simp only [List.cons_append, List.nil_append]
      refine w_assign rfl rfl ?_
      refine ws_nil ?_
      refine wc_seq ?_
      refine wc_seq ?_
      refine wc_text ?_
      refine w_move rfl rfl ?_
      refine w_move rfl rfl ?_
      refine w_neq u47 rfl rfl rfl ?_
      refine w_move rfl rfl ?_
      refine ws_split (t := 208) rfl (fun g208 => ?_) (fun g208 => ?_)
      · first | replace g208 := of_decide_eq_true g208 | replace g208 := of_decide_eq_false g208 | replace g208 := of_decide_eq_false (nb_T g208) | replace g208 := of_decide_eq_true (nb_F g208) | replace g208 := nb_T g208 | replace g208 := nb_F g208 | skip
        first | replace g208 := Int.not_lt.mp g208 | replace g208 := Int.not_le.mp g208 | replace g208 := Decidable.not_not.mp g208 | skip
        exact absurd rfl g208
      · first | replace g208 := of_decide_eq_true g208 | replace g208 := of_decide_eq_false g208 | replace g208 := of_decide_eq_false (nb_T g208) | replace g208 := of_decide_eq_true (nb_F g208) | replace g208 := nb_T g208 | replace g208 := nb_F g208 | skip
        first | replace g208 := Int.not_lt.mp g208 | replace g208 := Int.not_le.mp g208 | replace g208 := Decidable.not_not.mp g208 | skip
        refine ws_on rfl rfl ?_
        refine w_move rfl rfl ?_
        refine ws_on rfl rfl ?_
        refine w_call rfl rfl (CallW.mono (CallW.take tk (off_fn _ _ _)) ?_)
        rintro _ _ ⟨_, rfl, rfl, rfl⟩
        try simp only [List.cons_append, List.nil_append]
        refine ws_on rfl rfl ?_
        refine w_move rfl rfl ?_
        refine ws_on rfl rfl ?_
        refine w_bneq u4 rfl rfl rfl ?_
        first | refine w_pickT rfl rfl rfl ⟨_, rfl⟩ ?_ | refine w_pickF rfl rfl ⟨_, rfl⟩ rfl ?_ | refine w_pick rfl rfl rfl rfl ?_
        refine w_move rfl rfl ?_
        refine ws_split (t := 214) rfl (fun g214 => ?_) (fun g214 => ?_)
        · first | replace g214 := of_decide_eq_true g214 | replace g214 := of_decide_eq_false g214 | replace g214 := of_decide_eq_false (nb_T g214) | replace g214 := of_decide_eq_true (nb_F g214) | replace g214 := nb_T g214 | replace g214 := nb_F g214 | skip
          first | replace g214 := Int.not_lt.mp g214 | replace g214 := Int.not_le.mp g214 | replace g214 := Decidable.not_not.mp g214 | skip
          simp at g214
        · first | replace g214 := of_decide_eq_true g214 | replace g214 := of_decide_eq_false g214 | replace g214 := of_decide_eq_false (nb_T g214) | replace g214 := of_decide_eq_true (nb_F g214) | replace g214 := nb_T g214 | replace g214 := nb_F g214 | skip
          first | replace g214 := Int.not_lt.mp g214 | replace g214 := Int.not_le.mp g214 | replace g214 := Decidable.not_not.mp g214 | skip
          refine ws_on rfl rfl ?_
          refine w_move rfl rfl ?_
          refine ws_on rfl rfl ?_
          refine w_call rfl rfl (CallW.mono (CallW.take tk (size_fn _ _ _)) ?_)
          rintro _ _ ⟨_, rfl, rfl, rfl⟩
          try simp only [List.cons_append, List.nil_append]
          refine ws_on rfl rfl ?_
          refine w_move rfl rfl ?_
          refine ws_on rfl rfl ?_
          first | refine w_len rfl rfl (len_lst u37) ?_ | refine w_len rfl rfl (len_slice u37) ?_ | refine w_lenO rfl u37 rfl rfl tk ?_
          refine ws_on rfl rfl ?_
          refine w_neq u3 rfl rfl rfl ?_
          first | refine w_pickT rfl rfl rfl ⟨_, rfl⟩ ?_ | refine w_pickF rfl rfl ⟨_, rfl⟩ rfl ?_ | refine w_pick rfl rfl rfl rfl ?_
          refine w_move rfl rfl ?_
          refine ws_split (t := 221) rfl (fun g221 => ?_) (fun g221 => ?_)
          · first | replace g221 := of_decide_eq_true g221 | replace g221 := of_decide_eq_false g221 | replace g221 := of_decide_eq_false (nb_T g221) | replace g221 := of_decide_eq_true (nb_F g221) | replace g221 := nb_T g221 | replace g221 := nb_F g221 | skip
            first | replace g221 := Int.not_lt.mp g221 | replace g221 := Int.not_le.mp g221 | replace g221 := Decidable.not_not.mp g221 | skip
            exact absurd rfl g221
          · first | replace g221 := of_decide_eq_true g221 | replace g221 := of_decide_eq_false g221 | replace g221 := of_decide_eq_false (nb_T g221) | replace g221 := of_decide_eq_true (nb_F g221) | replace g221 := nb_T g221 | replace g221 := nb_F g221 | skip
            first | replace g221 := Int.not_lt.mp g221 | replace g221 := Int.not_le.mp g221 | replace g221 := Decidable.not_not.mp g221 | skip
            refine ws_on rfl rfl ?_
            refine w_move rfl rfl ?_
            refine ws_on rfl rfl ?_
            refine w_call rfl rfl (CallW.mono (CallW.take tk (firm_fn _ _ _)) ?_)
            rintro _ _ ⟨_, rfl, rfl, rfl⟩
            try simp only [List.cons_append, List.nil_append]
            refine ws_on rfl rfl ?_
            refine w_move rfl rfl ?_
            refine ws_on rfl rfl ?_
            refine w_neq u3 rfl rfl rfl ?_
            first | refine w_pickT rfl rfl rfl ⟨_, rfl⟩ ?_ | refine w_pickF rfl rfl ⟨_, rfl⟩ rfl ?_ | refine w_pick rfl rfl rfl rfl ?_
            refine w_move rfl rfl ?_
            refine ws_split (t := 227) rfl (fun g227 => ?_) (fun g227 => ?_)
            · first | replace g227 := of_decide_eq_true g227 | replace g227 := of_decide_eq_false g227 | replace g227 := of_decide_eq_false (nb_T g227) | replace g227 := of_decide_eq_true (nb_F g227) | replace g227 := nb_T g227 | replace g227 := nb_F g227 | skip
              first | replace g227 := Int.not_lt.mp g227 | replace g227 := Int.not_le.mp g227 | replace g227 := Decidable.not_not.mp g227 | skip
              exact absurd rfl g227
            · first | replace g227 := of_decide_eq_true g227 | replace g227 := of_decide_eq_false g227 | replace g227 := of_decide_eq_false (nb_T g227) | replace g227 := of_decide_eq_true (nb_F g227) | replace g227 := nb_T g227 | replace g227 := nb_F g227 | skip
              first | replace g227 := Int.not_lt.mp g227 | replace g227 := Int.not_le.mp g227 | replace g227 := Decidable.not_not.mp g227 | skip
              refine ws_on rfl rfl ?_
              refine w_move rfl rfl ?_
              refine ws_on rfl rfl ?_
              refine w_move rfl rfl ?_
              refine ws_split (t := 229) rfl (fun g229 => ?_) (fun g229 => ?_)
              · first | replace g229 := of_decide_eq_true g229 | replace g229 := of_decide_eq_false g229 | replace g229 := of_decide_eq_false (nb_T g229) | replace g229 := of_decide_eq_true (nb_F g229) | replace g229 := nb_T g229 | replace g229 := nb_F g229 | skip
                first | replace g229 := Int.not_lt.mp g229 | replace g229 := Int.not_le.mp g229 | replace g229 := Decidable.not_not.mp g229 | skip
                refine ws_on rfl rfl ?_
                refine w_move rfl rfl ?_
                refine ws_on rfl rfl ?_
                first | refine w_len rfl rfl (len_lst u37) ?_ | refine w_len rfl rfl (len_slice u37) ?_ | refine w_lenO rfl u37 rfl rfl tk ?_
                refine ws_on rfl rfl ?_
                refine w_neq u3 rfl rfl rfl ?_
                refine ws_on rfl rfl ?_
                first | refine w_pickT rfl rfl rfl ⟨_, rfl⟩ ?_ | refine w_pickF rfl rfl ⟨_, rfl⟩ rfl ?_ | refine w_pick rfl rfl rfl rfl ?_
                first | refine w_pickT rfl rfl rfl ⟨_, rfl⟩ ?_ | refine w_pickF rfl rfl ⟨_, rfl⟩ rfl ?_ | refine w_pick rfl rfl rfl rfl ?_
                refine w_move rfl rfl ?_
                refine ws_split (t := 235) rfl (fun g235 => ?_) (fun g235 => ?_)
                · first | replace g235 := of_decide_eq_true g235 | replace g235 := of_decide_eq_false g235 | replace g235 := of_decide_eq_false (nb_T g235) | replace g235 := of_decide_eq_true (nb_F g235) | replace g235 := nb_T g235 | replace g235 := nb_F g235 | skip
                  first | replace g235 := Int.not_lt.mp g235 | replace g235 := Int.not_le.mp g235 | replace g235 := Decidable.not_not.mp g235 | skip
                  exact absurd (by first | (unfold readL; rw [g229]; rfl) | rfl) g235
                · first | replace g235 := of_decide_eq_true g235 | replace g235 := of_decide_eq_false g235 | replace g235 := of_decide_eq_false (nb_T g235) | replace g235 := of_decide_eq_true (nb_F g235) | replace g235 := nb_T g235 | replace g235 := nb_F g235 | skip
                  first | replace g235 := Int.not_lt.mp g235 | replace g235 := Int.not_le.mp g235 | replace g235 := Decidable.not_not.mp g235 | skip
                  refine ws_on rfl rfl ?_
                  refine w_move rfl rfl ?_
                  refine ws_on rfl rfl ?_
                  refine w_not rfl rfl ?_
                  refine ws_on rfl rfl ?_
                  refine w_move rfl rfl ?_
                  refine ws_split (t := 238) rfl (fun g238 => ?_) (fun g238 => ?_)
                  · first | replace g238 := of_decide_eq_true g238 | replace g238 := of_decide_eq_false g238 | replace g238 := of_decide_eq_false (nb_T g238) | replace g238 := of_decide_eq_true (nb_F g238) | replace g238 := nb_T g238 | replace g238 := nb_F g238 | skip
                    first | replace g238 := Int.not_lt.mp g238 | replace g238 := Int.not_le.mp g238 | replace g238 := Decidable.not_not.mp g238 | skip
                    rw [g229] at g238; cases g238
                  · first | replace g238 := of_decide_eq_true g238 | replace g238 := of_decide_eq_false g238 | replace g238 := of_decide_eq_false (nb_T g238) | replace g238 := of_decide_eq_true (nb_F g238) | replace g238 := nb_T g238 | replace g238 := nb_F g238 | skip
                    first | replace g238 := Int.not_lt.mp g238 | replace g238 := Int.not_le.mp g238 | replace g238 := Decidable.not_not.mp g238 | skip
                    refine ws_off rfl rfl rfl rfl ?_
                    refine ws_off rfl rfl rfl rfl ?_
                    refine ws_off rfl rfl rfl rfl ?_
                    refine ws_off rfl rfl rfl rfl ?_
                    refine ws_on rfl rfl ?_
                    first | refine w_pickT rfl rfl rfl ⟨_, rfl⟩ ?_ | refine w_pickF rfl rfl ⟨_, rfl⟩ rfl ?_ | refine w_pick rfl rfl rfl rfl ?_
                    first | refine w_pickT rfl rfl rfl ⟨_, rfl⟩ ?_ | refine w_pickF rfl rfl ⟨_, rfl⟩ rfl ?_ | refine w_pick rfl rfl rfl rfl ?_
                    refine ws_nil ?_
                    refine wc_condF rfl ?_
                    refine wc_stay ?_
                    refine wc_seq ?_
                    refine wc_text ?_
                    refine w_move rfl rfl ?_
                    first | refine w_len rfl rfl (len_lst u37) ?_ | refine w_len rfl rfl (len_slice u37) ?_ | refine w_lenO rfl u37 rfl rfl tk ?_
                    refine w_move rfl rfl ?_
                    refine ws_nil ?_
                    rw [bytes_nums]
                    refine wc_block ?_
                    refine wc_loop (σ := { p : Nat × List Int // p.2.length = (readL s2).length }) (fun u => [(1, AL eAsk l), (5, .int .i64 s2.room), (6, .ptr (some ⟨o25, 0⟩)), (7, AL eB s2.b), (8, .int .i64 s2.firm), (9, .int .i64 (fuz s2)), (10, .bool s2.off), (11, .int .i64 (i : Nat)), (20, v204), (246, .int .i64 ((readL s2).length : Nat)), (247, .int .i64 (u.1.1 : Nat))]) (fun u => [.own v204 5 1 (u.1.2.flatMap eU) (readL s2).length, .obj o25 (.row 67 6 false (DK s2))]) (fun u => (readL s2).length - u.1.1) ?_ ⟨(0, (readL s2).map fun b => (b.toNat : Int)), by simp⟩ (.cons rfl (.cons rfl (.cons rfl (.cons rfl (.cons rfl (.cons rfl (.cons rfl (.cons rfl (.cons rfl (.cons rfl (.cons rfl (.nil _)))))))))))) (Sel.weak (.cons tk (.cons tk .nil)))
                    rintro ⟨⟨j, cs⟩, hcs⟩
                    dsimp only
                    simp only at hcs
                    refine wc_seq ?_
                    refine wc_text ?_
                    refine w_lss u3 rfl rfl rfl ?_
                    refine ws_nil ?_
                    refine wc_seq ?_
                    refine wc_cond rfl (fun h60 => ?_) (fun h60 => ?_)
                    · first | replace h60 := of_decide_eq_true h60 | replace h60 := of_decide_eq_false h60 | replace h60 := of_decide_eq_false (nb_T h60) | replace h60 := of_decide_eq_true (nb_F h60) | replace h60 := nb_T h60 | replace h60 := nb_F h60 | skip
                      first | replace h60 := Int.not_lt.mp h60 | replace h60 := Int.not_le.mp h60 | replace h60 := Decidable.not_not.mp h60 | skip
                      refine wc_stay ?_
                      refine wc_seq ?_
                      refine wc_block ?_
                      refine wc_seq ?_
                      refine wc_text ?_
                      refine w_move rfl rfl ?_
                      refine w_assign rfl rfl ?_
                      refine ws_nil ?_
                      refine wc_text ?_
                      obtain ⟨z, hz⟩ := get_of_lt (l := cs) (k := j) (by omega)
                      refine WS.openOwn tk (by omega) (fun oa ho => ?_)
                      subst ho
                      refine w_move rfl rfl ?_
                      refine w_move rfl rfl ?_
                      refine w_move rfl rfl ?_
                      refine w_move rfl rfl ?_
                      first | refine w_lidx u37 s5 rfl rfl rfl (by omega) ?_ | refine w_slidx u37 s5 rfl rfl rfl (by omega) ?_
                      first | refine w_ldC1 a5 rfl rfl rdc ?_ | refine w_ldP1 a5 rfl rfl tk rdp ?_
                      refine w_addw u5 rfl rfl rfl ?_
                      first | refine w_lidx u37 s5 rfl rfl rfl (by omega) ?_ | refine w_slidx u37 s5 rfl rfl rfl (by omega) ?_
                      refine w_st s5 rfl rfl rfl tk rfl rfl (over_oneP (k := j) rfl (by rw [flat_length eU_len]; omega)) ?_
                      refine ws_nil ?_
                      refine WC.recell ((cs.set j (IntKind.u8.wrap (z + 1))).flatMap eU) tk (setU hz) ?_
                      refine WC.closeOwn (e := 5) (s := 1) (m := (readL s2).length) tk (by rw [flat_length eU_len, List.length_set, hcs]) ?_
                      refine wc_text ?_
                      refine w_add u3 rfl rfl rfl (by omega) ?_
                      refine w_move rfl rfl ?_
                      refine ws_nil ?_
                      exact ⟨⟨(j + 1, cs.set j (IntKind.u8.wrap (z + 1))), by simp [hcs]⟩, by simp only; omega, (.cons rfl (.cons rfl (.cons rfl (.cons rfl (.cons rfl (.cons rfl (.cons rfl (.cons rfl (.cons rfl (.cons rfl (.cons rfl (.nil _)))))))))))), (Sel.weak (.cons tk (.cons tk .nil)))⟩
                    · first | replace h60 := of_decide_eq_true h60 | replace h60 := of_decide_eq_false h60 | replace h60 := of_decide_eq_false (nb_T h60) | replace h60 := of_decide_eq_true (nb_F h60) | replace h60 := nb_T h60 | replace h60 := nb_F h60 | skip
                      first | replace h60 := Int.not_lt.mp h60 | replace h60 := Int.not_le.mp h60 | replace h60 := Decidable.not_not.mp h60 | skip
                      refine wc_exit ?_
                      refine wc_text ?_
                      refine w_move rfl rfl ?_
                      refine w_add u3 rfl rfl rfl (by omega) ?_
                      refine w_assign rfl rfl ?_
                      refine ws_nil ?_
                      exact ⟨⟨(s2, i + 1), k2, (by omega : i + 1 ≤ l.length), (by omega : i + 1 ≤ 40)⟩, by simp only; omega, (.cons rfl (.cons rfl (.cons rfl (.cons rfl (.cons rfl (.cons rfl (.cons rfl (.cons rfl (.nil _))))))))), (Sel.weak (.cons tk .nil))⟩
              · first | replace g229 := of_decide_eq_true g229 | replace g229 := of_decide_eq_false g229 | replace g229 := of_decide_eq_false (nb_T g229) | replace g229 := of_decide_eq_true (nb_F g229) | replace g229 := nb_T g229 | replace g229 := nb_F g229 | skip
                first | replace g229 := Int.not_lt.mp g229 | replace g229 := Int.not_le.mp g229 | replace g229 := Decidable.not_not.mp g229 | skip
                refine ws_off rfl rfl rfl rfl ?_
                refine ws_off rfl rfl rfl rfl ?_
                refine ws_off rfl rfl rfl rfl ?_
                refine ws_on rfl rfl ?_
                first | refine w_pickT rfl rfl rfl ⟨_, rfl⟩ ?_ | refine w_pickF rfl rfl ⟨_, rfl⟩ rfl ?_ | refine w_pick rfl rfl rfl rfl ?_
                first | refine w_pickT rfl rfl rfl ⟨_, rfl⟩ ?_ | refine w_pickF rfl rfl ⟨_, rfl⟩ rfl ?_ | refine w_pick rfl rfl rfl rfl ?_
                refine w_move rfl rfl ?_
                refine ws_on rfl rfl ?_
                refine w_move rfl rfl ?_
                refine ws_on rfl rfl ?_
                refine w_not rfl rfl ?_
                refine ws_on rfl rfl ?_
                refine w_move rfl rfl ?_
                refine ws_split (t := 238) rfl (fun g238 => ?_) (fun g238 => ?_)
                · first | replace g238 := of_decide_eq_true g238 | replace g238 := of_decide_eq_false g238 | replace g238 := of_decide_eq_false (nb_T g238) | replace g238 := of_decide_eq_true (nb_F g238) | replace g238 := nb_T g238 | replace g238 := nb_F g238 | skip
                  first | replace g238 := Int.not_lt.mp g238 | replace g238 := Int.not_le.mp g238 | replace g238 := Decidable.not_not.mp g238 | skip
                  refine ws_on rfl rfl ?_
                  refine w_move rfl rfl ?_
                  refine ws_on rfl rfl ?_
                  refine w_move rfl rfl ?_
                  refine ws_on rfl rfl ?_
                  refine w_call rfl rfl (cw_fn rfl rfl (.cons fz (.cons fz .nil)) (sameB_fn _ _ (by first | omega | (simp only [List.length_take, List.length_drop]; omega))) ?_)
                  refine ws_on rfl rfl ?_
                  refine w_not rfl rfl ?_
                  refine ws_on rfl rfl ?_
                  first | refine w_pickT rfl rfl rfl ⟨_, rfl⟩ ?_ | refine w_pickF rfl rfl ⟨_, rfl⟩ rfl ?_ | refine w_pick rfl rfl rfl rfl ?_
                  first | refine w_pickT rfl rfl rfl ⟨_, rfl⟩ ?_ | refine w_pickF rfl rfl ⟨_, rfl⟩ rfl ?_ | refine w_pick rfl rfl rfl rfl ?_
                  refine ws_nil ?_
                  refine wc_cond rfl (fun h57 => ?_) (fun h57 => ?_)
                  · first | replace h57 := of_decide_eq_true h57 | replace h57 := of_decide_eq_false h57 | replace h57 := of_decide_eq_false (nb_T h57) | replace h57 := of_decide_eq_true (nb_F h57) | replace h57 := nb_T h57 | replace h57 := nb_F h57 | skip
                    first | replace h57 := Int.not_lt.mp h57 | replace h57 := Int.not_le.mp h57 | replace h57 := Decidable.not_not.mp h57 | skip
                    first | exact absurd (by unfold readL; rw [g229]; rfl) h57 | exact absurd (by simp [readL, g229]) h57
                  · first | replace h57 := of_decide_eq_true h57 | replace h57 := of_decide_eq_false h57 | replace h57 := of_decide_eq_false (nb_T h57) | replace h57 := of_decide_eq_true (nb_F h57) | replace h57 := nb_T h57 | replace h57 := nb_F h57 | skip
                    first | replace h57 := Int.not_lt.mp h57 | replace h57 := Int.not_le.mp h57 | replace h57 := Decidable.not_not.mp h57 | skip
                    refine wc_stay ?_
                    refine wc_seq ?_
                    refine wc_text ?_
                    refine w_move rfl rfl ?_
                    first | refine w_len rfl rfl (len_lst u37) ?_ | refine w_len rfl rfl (len_slice u37) ?_ | refine w_lenO rfl u37 rfl rfl tk ?_
                    refine w_move rfl rfl ?_
                    refine ws_nil ?_
                    rw [bytes_nums]
                    refine wc_block ?_
                    refine wc_loop (σ := { p : Nat × List Int // p.2.length = (readL s2).length }) (fun u => [(1, AL eAsk l), (5, .int .i64 s2.room), (6, .ptr (some ⟨o25, 0⟩)), (7, AL eB s2.b), (8, .int .i64 s2.firm), (9, .int .i64 (fuz s2)), (10, .bool s2.off), (11, .int .i64 (i : Nat)), (20, v204), (246, .int .i64 ((readL s2).length : Nat)), (247, .int .i64 (u.1.1 : Nat))]) (fun u => [.own v204 5 1 (u.1.2.flatMap eU) (readL s2).length, .obj o25 (.row 67 6 false (DK s2))]) (fun u => (readL s2).length - u.1.1) ?_ ⟨(0, (readL s2).map fun b => (b.toNat : Int)), by simp⟩ (.cons rfl (.cons rfl (.cons rfl (.cons rfl (.cons rfl (.cons rfl (.cons rfl (.cons rfl (.cons rfl (.cons rfl (.cons rfl (.nil _)))))))))))) (Sel.weak (.cons tk (.cons tk .nil)))
                    rintro ⟨⟨j, cs⟩, hcs⟩
                    dsimp only
                    simp only at hcs
                    refine wc_seq ?_
                    refine wc_text ?_
                    refine w_lss u3 rfl rfl rfl ?_
                    refine ws_nil ?_
                    refine wc_seq ?_
                    refine wc_cond rfl (fun h60 => ?_) (fun h60 => ?_)
                    · first | replace h60 := of_decide_eq_true h60 | replace h60 := of_decide_eq_false h60 | replace h60 := of_decide_eq_false (nb_T h60) | replace h60 := of_decide_eq_true (nb_F h60) | replace h60 := nb_T h60 | replace h60 := nb_F h60 | skip
                      first | replace h60 := Int.not_lt.mp h60 | replace h60 := Int.not_le.mp h60 | replace h60 := Decidable.not_not.mp h60 | skip
                      refine wc_stay ?_
                      refine wc_seq ?_
                      refine wc_block ?_
                      refine wc_seq ?_
                      refine wc_text ?_
                      refine w_move rfl rfl ?_
                      refine w_assign rfl rfl ?_
                      refine ws_nil ?_
                      refine wc_text ?_
                      obtain ⟨z, hz⟩ := get_of_lt (l := cs) (k := j) (by omega)
                      refine WS.openOwn tk (by omega) (fun oa ho => ?_)
                      subst ho
                      refine w_move rfl rfl ?_
                      refine w_move rfl rfl ?_
                      refine w_move rfl rfl ?_
                      refine w_move rfl rfl ?_
                      first | refine w_lidx u37 s5 rfl rfl rfl (by omega) ?_ | refine w_slidx u37 s5 rfl rfl rfl (by omega) ?_
                      first | refine w_ldC1 a5 rfl rfl rdc ?_ | refine w_ldP1 a5 rfl rfl tk rdp ?_
                      refine w_addw u5 rfl rfl rfl ?_
                      first | refine w_lidx u37 s5 rfl rfl rfl (by omega) ?_ | refine w_slidx u37 s5 rfl rfl rfl (by omega) ?_
                      refine w_st s5 rfl rfl rfl tk rfl rfl (over_oneP (k := j) rfl (by rw [flat_length eU_len]; omega)) ?_
                      refine ws_nil ?_
                      refine WC.recell ((cs.set j (IntKind.u8.wrap (z + 1))).flatMap eU) tk (setU hz) ?_
                      refine WC.closeOwn (e := 5) (s := 1) (m := (readL s2).length) tk (by rw [flat_length eU_len, List.length_set, hcs]) ?_
                      refine wc_text ?_
                      refine w_add u3 rfl rfl rfl (by omega) ?_
                      refine w_move rfl rfl ?_
                      refine ws_nil ?_
                      exact ⟨⟨(j + 1, cs.set j (IntKind.u8.wrap (z + 1))), by simp [hcs]⟩, by simp only; omega, (.cons rfl (.cons rfl (.cons rfl (.cons rfl (.cons rfl (.cons rfl (.cons rfl (.cons rfl (.cons rfl (.cons rfl (.cons rfl (.nil _)))))))))))), (Sel.weak (.cons tk (.cons tk .nil)))⟩
                    · first | replace h60 := of_decide_eq_true h60 | replace h60 := of_decide_eq_false h60 | replace h60 := of_decide_eq_false (nb_T h60) | replace h60 := of_decide_eq_true (nb_F h60) | replace h60 := nb_T h60 | replace h60 := nb_F h60 | skip
                      first | replace h60 := Int.not_lt.mp h60 | replace h60 := Int.not_le.mp h60 | replace h60 := Decidable.not_not.mp h60 | skip
                      refine wc_exit ?_
                      refine wc_text ?_
                      refine w_move rfl rfl ?_
                      refine w_add u3 rfl rfl rfl (by omega) ?_
                      refine w_assign rfl rfl ?_
                      refine ws_nil ?_
                      exact ⟨⟨(s2, i + 1), k2, (by omega : i + 1 ≤ l.length), (by omega : i + 1 ≤ 40)⟩, by simp only; omega, (.cons rfl (.cons rfl (.cons rfl (.cons rfl (.cons rfl (.cons rfl (.cons rfl (.cons rfl (.nil _))))))))), (Sel.weak (.cons tk .nil))⟩
                · first | replace g238 := of_decide_eq_true g238 | replace g238 := of_decide_eq_false g238 | replace g238 := of_decide_eq_false (nb_T g238) | replace g238 := of_decide_eq_true (nb_F g238) | replace g238 := nb_T g238 | replace g238 := nb_F g238 | skip
                  first | replace g238 := Int.not_lt.mp g238 | replace g238 := Int.not_le.mp g238 | replace g238 := Decidable.not_not.mp g238 | skip
                  rw [g229] at g238; cases g238
    · skip
      refine wc_exit ?_
      refine wc_seq ?_
      refine wc_text ?_
      refine w_call rfl rfl (cw_fn rfl rfl .nil (runsD_fn) ?_)
      refine w_assign rfl rfl ?_
      refine ws_nil ?_
      refine wc_ret ?_
      refine ⟨_, (.cons (.tmp rfl) .nil), ?_, rfl⟩
      rfl
end Go.Proofs.Ytknpdigpendnjaa.dk
