/-
  Package mail, walked by facts (printed by gen_ml.py).
-/
import Derived.Test.YtknpdigpendnjaaBhMl2
namespace Go.Proofs.Ytknpdigpendnjaa.ml
open Go Go.Proofs Go.Proofs.Ytknpdigpendnjaa.BH Go.Proofs.Ytknpdigpendnjaa.BH.Ml
open Go.Proofs.Ytknpdigpendnjaa.BH.Dk (withinV withinV_in clampV clampV_in natOr_of)
set_option maxRecDepth 100000
theorem order_law (room n : Int) : PFn C 5 [.int .i64 room, .int .i64 n] (.bool true) := by
  refine fn_view rfl rfl (fn := Try.f5) rfl rfl rfl rfl rfl ?_
  refine wc_seq ?_
  refine wc_text ?_
  refine w_assign rfl rfl ?_
  refine ws_nil ?_
  refine wc_seq ?_
  refine wc_text ?_
  refine w_move rfl rfl ?_
  refine w_call rfl rfl (cw_fn rfl rfl (.cons fz (.cons fz (.cons fz .nil))) (within_fn _ _ _ (by omega) (by omega) (by omega)) ?_)
  refine w_assign rfl rfl ?_
  refine ws_nil ?_
  have hw := withinV_in room 1 8 (by omega)
  obtain ⟨R, hR⟩ : ∃ R : Nat, withinV room 1 8 = R := ⟨(withinV room 1 8).toNat, by omega⟩
  rw [hR] at hw ⊢
  refine wc_seq ?_
  refine wc_text ?_
  refine w_move rfl rfl ?_
  refine w_call rfl rfl (cw_fn rfl rfl (.cons fz (.cons fz (.cons fz .nil))) (within_fn _ _ _ (by omega) (by omega) (by omega)) ?_)
  refine w_assign rfl rfl ?_
  refine ws_nil ?_
  have hw2 := withinV_in n 0 30 (by omega)
  obtain ⟨K, hK⟩ : ∃ K : Nat, withinV n 0 30 = K := ⟨(withinV n 0 30).toNat, by omega⟩
  rw [hK] at hw2 ⊢
  refine wc_seq ?_
  refine wc_text ?_
  refine w_move rfl rfl ?_
  refine w_call rfl rfl (CallW.mono (new_fn _ _) ?_)
  rintro _ _ ⟨_, rfl, o23, c23, rfl, rfl⟩
  try simp only [List.cons_append, List.nil_append]
  refine w_move rfl rfl ?_
  refine w_call rfl rfl (CallW.mono (new_fn _ _) ?_)
  rintro _ _ ⟨_, rfl, o25, c25, rfl, rfl⟩
  try simp only [List.cons_append, List.nil_append]
  refine w_assign rfl rfl ?_
  refine w_assign rfl rfl ?_
  refine ws_nil ?_
  rw [show (max 1 (min (R : Int) 8)).toNat = R by omega]
  refine wc_seq ?_
  refine wc_seq ?_
  refine wc_text ?_
  refine w_move rfl rfl ?_
  refine w_ceql u22 (by simp) (by simp) rfl rfl rfl (cmp_ptr u22 rfl rfl) ?_
  refine w_move rfl rfl ?_
  refine ws_split (t := 28) rfl (fun g28 => ?_) (fun g28 => ?_)
  · first | replace g28 := of_decide_eq_true g28 | replace g28 := of_decide_eq_false g28 | replace g28 := of_decide_eq_false (nb_T g28) | replace g28 := of_decide_eq_true (nb_F g28) | replace g28 := nb_T g28 | replace g28 := nb_F g28 | skip
    first | replace g28 := Int.not_lt.mp g28 | replace g28 := Int.not_le.mp g28 | replace g28 := Decidable.not_not.mp g28 | skip
    cases g28
  · first | replace g28 := of_decide_eq_true g28 | replace g28 := of_decide_eq_false g28 | replace g28 := of_decide_eq_false (nb_T g28) | replace g28 := of_decide_eq_true (nb_F g28) | replace g28 := nb_T g28 | replace g28 := nb_F g28 | skip
    first | replace g28 := Int.not_lt.mp g28 | replace g28 := Int.not_le.mp g28 | replace g28 := Decidable.not_not.mp g28 | skip
    refine ws_on rfl rfl ?_
    refine w_move rfl rfl ?_
    refine ws_on rfl rfl ?_
    refine w_ceql u22 (by simp) (by simp) rfl rfl rfl (cmp_ptr u22 rfl rfl) ?_
    first | refine w_pickT rfl rfl rfl ⟨_, rfl⟩ ?_ | refine w_pickF rfl rfl ⟨_, rfl⟩ rfl ?_ | refine w_pick rfl rfl rfl rfl ?_
    refine ws_nil ?_
    refine wc_cond rfl (fun h4 => ?_) (fun h4 => ?_)
    · first | replace h4 := of_decide_eq_true h4 | replace h4 := of_decide_eq_false h4 | replace h4 := of_decide_eq_false (nb_T h4) | replace h4 := of_decide_eq_true (nb_F h4) | replace h4 := nb_T h4 | replace h4 := nb_F h4 | skip
      first | replace h4 := Int.not_lt.mp h4 | replace h4 := Int.not_le.mp h4 | replace h4 := Decidable.not_not.mp h4 | skip
      cases h4
    · first | replace h4 := of_decide_eq_true h4 | replace h4 := of_decide_eq_false h4 | replace h4 := of_decide_eq_false (nb_T h4) | replace h4 := of_decide_eq_true (nb_F h4) | replace h4 := nb_T h4 | replace h4 := nb_F h4 | skip
      first | replace h4 := Int.not_lt.mp h4 | replace h4 := Int.not_le.mp h4 | replace h4 := Decidable.not_not.mp h4 | skip
      refine wc_stay ?_
      refine wc_seq ?_
      refine wc_text ?_
      refine w_assign rfl rfl ?_
      refine ws_nil ?_
      refine WC.ownNil 27 3 ?_
      refine wc_seq ?_
      refine wc_seq ?_
      refine wc_text ?_
      refine w_assign rfl rfl ?_
      refine ws_nil ?_
      refine WC.recell (BK c25 ((0 - R : Nat) : Int)) (o := o25) tk (by rw [show (0 - R : Nat) = 0 by omega]; rfl) ?_
      refine WC.reobj (o := c25) (.chan R ((lastN R (notesI 0)).map ag) 0 0) tk (by simp [lastN, notesI]) ?_
      refine wc_block ?_
      refine wc_loop (σ := { x : Nat × AV × Nat × Nat // x.1 ≤ K }) (fun u => [(5, .int .i64 (R : Nat)), (6, .int .i64 (K : Nat)), (7, .ptr (some ⟨o23, 0⟩)), (8, .ptr (some ⟨o25, 0⟩)), (9, u.1.2.1), (10, .int .i64 (u.1.1 : Nat))]) (fun u => [.own u.1.2.1 27 3 ((notesI u.1.1).flatMap eN) (notesI u.1.1).length, .obj o23 (.row 63 2 false (BK c23 0)), .obj c23 (.chan R (([]).map ag) 0 0), .obj o25 (.row 63 2 false (BK c25 ((u.1.1 - R : Nat) : Int))), .obj c25 (.chan R ((lastN R (notesI u.1.1)).map ag) u.1.2.2.1 u.1.2.2.2)]) (fun u => K - u.1.1) ?_ ⟨(0, nilSlice, 0, 0), Nat.zero_le _⟩ (.cons rfl (.cons rfl (.cons rfl (.cons rfl (.cons rfl (.cons rfl (.nil _))))))) (Sel.weak (.cons tk (.cons tk (.cons tk (.cons tk (.cons tk .nil))))))
      rintro ⟨⟨i, v, s1, r1⟩, hi⟩
      dsimp only
      simp only at hi
      have hnl := notesI_len i
      have hal := notesI_alerts i
      refine wc_seq ?_
      refine wc_seq ?_
      refine wc_text ?_
      refine w_move rfl rfl ?_
      refine w_move rfl rfl ?_
      refine w_lss u3 rfl rfl rfl ?_
      refine ws_nil ?_
      refine wc_cond rfl (fun h8 => ?_) (fun h8 => ?_)
      · replace h8 := of_decide_eq_true h8
        refine wc_stay ?_
        refine wc_seq ?_
        refine wc_block ?_
        refine wc_seq ?_
        refine wc_text ?_
        have hb := letter i (by omega)
        refine w_move rfl rfl ?_
        refine w_add u3 rfl rfl rfl (by omega) ?_
        refine w_conv rfl rfl (conv_int u3 u5) ?_
        rw [hb]
        refine w_buildSF (cs := [UInt8.ofNat (65 + i)].flatMap eB) u37 s5 z5 (by decide) rfl rfl rfl (by decide) rfl rfl ?_
        refine w_text (l := [UInt8.ofNat (65 + i)]) u9 u37 u5 rfl rfl ?_
        refine w_buildSF (cs := [[120], [121]].flatMap eS) u25 s9 z9 (by decide) rfl rfl rfl (by decide) rfl rfl ?_
        refine w_build (v := .agg [_, _, _]) B27 rfl rfl rfl ?_
        refine w_alloc z27 s27 rfl (fun o11 => ?_)
        refine w_st s27 rfl rfl rfl tk rfl rfl ovw ?_
        refine ws_nil ?_
        refine WC.recell (eN (noteI i)) tk rfl ?_
        refine wc_seq ?_
        refine wc_text ?_
        refine w_move rfl rfl ?_
        first | refine w_ldC a27 s27 rfl rfl agc ?_ | refine w_ldP a27 s27 rfl rfl tk agp ?_
        refine w_buildSF (cs := [noteI i].flatMap eN) u34 s27 z27 (by decide) rfl rfl rfl (by decide) rfl rfl ?_
        refine w_appO (enc := eN) (l := notesI i) (m := [noteI i]) rfl u34 s27 b27 z27 u34 (by simp) rfl rfl rfl tk nw (by unfold bigBy; first | omega | (simp only [List.length_nil, List.length_cons, List.length_append, List.length_take, List.length_drop]; omega)) (by unfold bigBy; first | omega | (simp only [List.length_nil, List.length_cons, List.length_append, List.length_take, List.length_drop]; omega)) (fun v47 => ?_)
        refine w_assign rfl rfl ?_
        refine ws_nil ?_
        rw [notesI_next]
        refine wc_text ?_
        refine w_move rfl rfl ?_
        first | refine w_ldC a27 s27 rfl rfl agc ?_ | refine w_ldP a27 s27 rfl rfl tk agp ?_
        refine w_buildSF (cs := [noteI i].flatMap eN) u34 s27 z27 (by decide) rfl rfl rfl (by decide) rfl rfl ?_
        refine w_call rfl rfl (CallW.mono (CallW.weak (Sel.weak (.cons tk (.cons tk .rest))) (putM_fn _ _ R (lastN R (notesI i)) _ _ _ [noteI i] (by omega) (by first | omega | (rw [lastN_len]; omega) | simp) (by first | omega | (rw [notesI_len]; omega) | simp) (by omega) (by omega) (by omega) (by first | exact notesI_alerts _ | (intro y hy; simp only [List.mem_singleton] at hy; subst hy; exact (by decide : (2 : Nat) < 1000000))) _)) ?_)
        rintro _ _ ⟨_, rfl, s51, r51, rfl, rfl⟩
        try simp only [List.cons_append, List.nil_append]
        refine ws_nil ?_
        rw [lastN_lastN, notesI_next]
        refine WC.recell (BK c25 ((i + 1 - R : Nat) : Int)) (o := o25) tk (by rw [lastN_len, notesI_len, List.length_singleton]; congr 3; omega) ?_
        refine wc_text ?_
        refine w_move rfl rfl ?_
        refine w_add u3 rfl rfl rfl (by omega) ?_
        refine w_assign rfl rfl ?_
        refine ws_nil ?_
        exact ⟨⟨(i + 1, _, _, _), (by omega : i + 1 ≤ K)⟩, by simp only; omega, (.cons rfl (.cons rfl (.cons rfl (.cons rfl (.cons rfl (.cons rfl (.nil _))))))), (Sel.weak (.cons tk (.cons tk (.cons tk (.cons tk (.cons tk .nil))))))⟩
      · replace h8 := of_decide_eq_false h8
        have hiK : K = i := by omega
        subst hiK
        refine WC.freeze (t := 9) (v' := AL eN (notesI K)) rfl rfl (.ownK rfl .head (flat_done eN_done _)) rfl ?_
        refine wc_exit ?_
        refine wc_seq ?_
        refine wc_seq ?_
        refine wc_free [0, 0, 3, 0, 0, 24, 56, 127, 255, 511, 1023, 511, 511, 511, 12799, 29183, 63999, 131071, 262143, 524287, 1048575, 2097151, 4194303, 2097151, 16777215, 33554431, 67108863, 134217727, 268435455, 536870911, 1073741823, 536870911, 4294967295, 8589934591, 17179869183] (by kernel_rfl) (by kernel_rfl) (fun F => ?_)
        have hlK := notesI_len K
        have haK := notesI_alerts K
        have hLal := lastN_mem (cap := R) haK
        have hLl := lastN_len R (notesI K)
        rw [hlK] at hLl
        have hLs : lastN R (notesI K) = ((notesI K).drop (max ((K : Int) - R) 0).toNat).take ((notesI K).length - (max ((K : Int) - R) 0).toNat) := by rw [take_drop_last _ rfl]; unfold lastN; congr 1; rw [hlK]; omega
        refine wr_float F 0 rfl (by kernel_rfl) (.inl (by kernel_rfl)) ?_
        refine w_move rfl rfl ?_
        refine ws_nil ?_
        refine wr_float F 1 rfl (by kernel_rfl) (.inl (by kernel_rfl)) ?_
        refine w_move rfl rfl ?_
        refine ws_nil ?_
        refine wr_float F 3 rfl (by kernel_rfl) (.inl (by kernel_rfl)) ?_
        refine w_move rfl rfl ?_
        refine ws_nil ?_
        refine wr_float F 4 rfl (by kernel_rfl) (.inl (by kernel_rfl)) ?_
        refine w_move rfl rfl ?_
        refine ws_nil ?_
        refine wr_float F 5 rfl (by kernel_rfl) (.inl (by kernel_rfl)) ?_
        refine w_sub u3 rfl rfl rfl (by omega) ?_
        refine ws_nil ?_
        refine wr_float F 6 rfl (by kernel_rfl) (.inl (by kernel_rfl)) ?_
        refine w_max rfl rfl rfl ?_
        refine ws_nil ?_
        refine wr_next F (l := [2]) (by kernel_rfl) (by simp) (.cons rfl ?_ (.nil))
        refine w_call rfl rfl (CallW.mono (CallW.weak (Sel.weak (.cons tk (.cons tk .rest))) (putM_fn _ _ R [] _ _ _ (notesI K) (by omega) (by first | omega | (rw [lastN_len]; omega) | simp) (by first | omega | (rw [notesI_len]; omega) | simp) (by omega) (by omega) (by omega) (by first | exact notesI_alerts _ | (intro y hy; simp only [List.mem_singleton] at hy; subst hy; exact (by decide : (2 : Nat) < 1000000))) _)) ?_)
        rintro _ _ ⟨_, rfl, s54, r54, rfl, rfl⟩
        try simp only [List.cons_append, List.nil_append]
        refine ws_nil ?_
        refine wr_float F 7 rfl (by kernel_rfl) (.inl (by kernel_rfl)) ?_
        refine w_neq u3 rfl rfl rfl ?_
        refine ws_nil ?_
        refine wr_float F 8 rfl (by kernel_rfl) (.inl (by kernel_rfl)) ?_
        refine w_move rfl rfl ?_
        refine ws_nil ?_
        refine wr_split (t := 60) rfl (fun g60 => ?_) (fun g60 => ?_)
        · first | replace g60 := of_decide_eq_true g60 | replace g60 := of_decide_eq_false g60 | replace g60 := of_decide_eq_false (nb_T g60) | replace g60 := of_decide_eq_true (nb_F g60) | replace g60 := nb_T g60 | replace g60 := nb_F g60 | skip
          first | replace g60 := Int.not_lt.mp g60 | replace g60 := Int.not_le.mp g60 | replace g60 := Decidable.not_not.mp g60 | skip
          exact absurd (by simp only [List.length_nil, notesI_len]; omega) g60
        · first | replace g60 := of_decide_eq_true g60 | replace g60 := of_decide_eq_false g60 | replace g60 := of_decide_eq_false (nb_T g60) | replace g60 := of_decide_eq_true (nb_F g60) | replace g60 := nb_T g60 | replace g60 := nb_F g60 | skip
          first | replace g60 := Int.not_lt.mp g60 | replace g60 := Int.not_le.mp g60 | replace g60 := Decidable.not_not.mp g60 | skip
          refine wr_float F 9 rfl (by kernel_rfl) (.inl (by kernel_rfl)) ?_
          refine ws_on rfl rfl ?_ (hn := rfl)
          refine w_move rfl rfl ?_
          refine ws_nil ?_
          refine wr_float F 11 rfl (by kernel_rfl) (.inl (by kernel_rfl)) ?_
          refine ws_on rfl rfl ?_ (hn := rfl)
          refine w_move rfl rfl ?_
          refine ws_nil ?_
          refine wr_float F 12 rfl (by kernel_rfl) (.inl (by kernel_rfl)) ?_
          refine ws_on rfl rfl ?_ (hn := rfl)
          refine w_move rfl rfl ?_
          refine ws_nil ?_
          refine wr_float F 13 rfl (by kernel_rfl) (.inl (by kernel_rfl)) ?_
          refine ws_on rfl rfl ?_ (hn := rfl)
          refine w_move rfl rfl ?_
          refine ws_nil ?_
          refine wr_float F 14 rfl (by kernel_rfl) (.inl (by kernel_rfl)) ?_
          refine ws_on rfl rfl ?_ (hn := rfl)
          refine w_sub u3 rfl rfl rfl (by omega) ?_
          refine ws_nil ?_
          refine wr_float F 15 rfl (by kernel_rfl) (.inl (by kernel_rfl)) ?_
          refine ws_on rfl rfl ?_ (hn := rfl)
          refine w_max rfl rfl rfl ?_
          refine ws_nil ?_
          refine wr_pure F 16 rfl (by kernel_rfl) rfl rfl (pf_slice rfl rfl rfl rfl (slice_al u34 s27 (by intro _; rfl) (nat_of (by omega) _) (by rfl) (by omega) (by omega))) (.inr ⟨_, _, _, rfl, rfl, rfl⟩) ?_
          refine wr_next F (l := [10]) (by kernel_rfl) (by simp) (.cons rfl ?_ (.nil))
          refine ws_on rfl rfl ?_ (hn := rfl)
          refine w_call rfl rfl (CallW.mono (CallW.weak (Sel.weak (.cons tk (.cons tk .rest))) (all_fn _ _ R (lastN R (notesI K)) _ _ _ (by omega) (by rw [lastN_len]; omega) (by omega) hLal _)) ?_)
          rintro v62 _ ⟨_, rfl, s62, r62, rfl⟩
          try simp only [List.cons_append, List.nil_append]
          refine ws_nil ?_
          refine wr_next F (l := [17]) (by kernel_rfl) (by simp) (.cons rfl ?_ (.nil))
          refine ws_on rfl rfl ?_ (hn := rfl)
          refine w_call rfl rfl (cw_fn rfl rfl (.cons fz (.cons fz .nil)) (notes_fn _ _ (by first | (rw [List.nil_append, lastN_len]; omega) | (rw [lastN_len]; omega)) (by first | exact hLal | (rw [List.nil_append]; exact hLal))) ?_)
          refine ws_nil ?_
          refine wr_float F 18 rfl (by kernel_rfl) (.inl (by kernel_rfl)) ?_
          refine ws_on rfl rfl ?_ (hn := rfl)
          refine w_not rfl rfl ?_
          refine ws_nil ?_
          refine wr_float F 19 rfl (by kernel_rfl) (.inl (by kernel_rfl)) ?_
          first | refine w_pickT rfl rfl rfl ⟨_, rfl⟩ ?_ | refine w_pickF rfl rfl ⟨_, rfl⟩ rfl ?_ | refine w_pick rfl rfl rfl rfl ?_
          refine ws_nil ?_
          refine wr_float F 20 rfl (by kernel_rfl) (.inl (by kernel_rfl)) ?_
          refine w_move rfl rfl ?_
          refine ws_nil ?_
          refine wr_split (t := 72) rfl (fun g72 => ?_) (fun g72 => ?_)
          · first | replace g72 := of_decide_eq_true g72 | replace g72 := of_decide_eq_false g72 | replace g72 := of_decide_eq_false (nb_T g72) | replace g72 := of_decide_eq_true (nb_F g72) | replace g72 := nb_T g72 | replace g72 := nb_F g72 | skip
            first | replace g72 := Int.not_lt.mp g72 | replace g72 := Int.not_le.mp g72 | replace g72 := Decidable.not_not.mp g72 | skip
            exact absurd (by rw [hLs]) g72
          · first | replace g72 := of_decide_eq_true g72 | replace g72 := of_decide_eq_false g72 | replace g72 := of_decide_eq_false (nb_T g72) | replace g72 := of_decide_eq_true (nb_F g72) | replace g72 := nb_T g72 | replace g72 := nb_F g72 | skip
            first | replace g72 := Int.not_lt.mp g72 | replace g72 := Int.not_le.mp g72 | replace g72 := Decidable.not_not.mp g72 | skip
            refine wr_float F 21 rfl (by kernel_rfl) (.inl (by kernel_rfl)) ?_
            refine ws_on rfl rfl ?_ (hn := rfl)
            refine w_move rfl rfl ?_
            refine ws_nil ?_
            refine wr_float F 23 rfl (by kernel_rfl) (.inl (by kernel_rfl)) ?_
            refine ws_on rfl rfl ?_ (hn := rfl)
            refine w_move rfl rfl ?_
            refine ws_nil ?_
            refine wr_next F (l := [22]) (by kernel_rfl) (by simp) (.cons rfl ?_ (.nil))
            refine ws_on rfl rfl ?_ (hn := rfl)
            refine w_call rfl rfl (CallW.mono (CallW.weak (Sel.weak (.cons tk (.cons tk .rest))) (all_fn _ _ R (lastN R (notesI K)) _ _ _ (by omega) (by rw [lastN_len]; omega) (by omega) hLal _)) ?_)
            rintro v74 _ ⟨_, rfl, s74, r74, rfl⟩
            try simp only [List.cons_append, List.nil_append]
            refine ws_nil ?_
            refine wr_next F (l := [24]) (by kernel_rfl) (by simp) (.cons rfl ?_ (.nil))
            refine ws_on rfl rfl ?_ (hn := rfl)
            refine w_call rfl rfl (CallW.mono (CallW.weak (Sel.weak (.cons tk (.cons tk .rest))) (all_fn _ _ R (lastN R (notesI K)) _ _ _ (by omega) (by rw [lastN_len]; omega) (by omega) hLal _)) ?_)
            rintro v76 _ ⟨_, rfl, s76, r76, rfl⟩
            try simp only [List.cons_append, List.nil_append]
            refine ws_nil ?_
            refine wr_next F (l := [25]) (by kernel_rfl) (by simp) (.cons rfl ?_ (.nil))
            refine ws_on rfl rfl ?_ (hn := rfl)
            refine w_call rfl rfl (cw_fn rfl rfl (.cons fz (.cons fz .nil)) (notes_fn _ _ (by first | (rw [List.nil_append, lastN_len]; omega) | (rw [lastN_len]; omega)) (by first | exact hLal | (rw [List.nil_append]; exact hLal))) ?_)
            refine ws_nil ?_
            refine wr_float F 26 rfl (by kernel_rfl) (.inl (by kernel_rfl)) ?_
            refine ws_on rfl rfl ?_ (hn := rfl)
            refine w_not rfl rfl ?_
            refine ws_nil ?_
            refine wr_float F 27 rfl (by kernel_rfl) (.inl (by kernel_rfl)) ?_
            first | refine w_pickT rfl rfl rfl ⟨_, rfl⟩ ?_ | refine w_pickF rfl rfl ⟨_, rfl⟩ rfl ?_ | refine w_pick rfl rfl rfl rfl ?_
            refine ws_nil ?_
            refine wr_float F 28 rfl (by kernel_rfl) (.inl (by kernel_rfl)) ?_
            refine w_move rfl rfl ?_
            refine ws_nil ?_
            refine wr_split (t := 80) rfl (fun g80 => ?_) (fun g80 => ?_)
            · first | replace g80 := of_decide_eq_true g80 | replace g80 := of_decide_eq_false g80 | replace g80 := of_decide_eq_false (nb_T g80) | replace g80 := of_decide_eq_true (nb_F g80) | replace g80 := nb_T g80 | replace g80 := nb_F g80 | skip
              first | replace g80 := Int.not_lt.mp g80 | replace g80 := Int.not_le.mp g80 | replace g80 := Decidable.not_not.mp g80 | skip
              exact absurd rfl g80
            · first | replace g80 := of_decide_eq_true g80 | replace g80 := of_decide_eq_false g80 | replace g80 := of_decide_eq_false (nb_T g80) | replace g80 := of_decide_eq_true (nb_F g80) | replace g80 := nb_T g80 | replace g80 := nb_F g80 | skip
              first | replace g80 := Int.not_lt.mp g80 | replace g80 := Int.not_le.mp g80 | replace g80 := Decidable.not_not.mp g80 | skip
              refine wr_float F 29 rfl (by kernel_rfl) (.inl (by kernel_rfl)) ?_
              refine ws_on rfl rfl ?_ (hn := rfl)
              refine w_move rfl rfl ?_
              refine ws_nil ?_
              refine wr_float F 31 rfl (by kernel_rfl) (.inl (by kernel_rfl)) ?_
              refine ws_on rfl rfl ?_ (hn := rfl)
              refine w_move rfl rfl ?_
              refine ws_nil ?_
              refine wr_next F (l := [30]) (by kernel_rfl) (by simp) (.cons rfl ?_ (.nil))
              refine ws_on rfl rfl ?_ (hn := rfl)
              refine w_call rfl rfl (CallW.mono (CallW.weak (Sel.weak (.cons tk (.cons tk .rest))) (dropped_fn _ _ _ _ _ _ _ _)) ?_)
              rintro _ _ ⟨_, rfl, rfl, rfl⟩
              try simp only [List.cons_append, List.nil_append]
              refine ws_nil ?_
              refine wr_next F (l := [32]) (by kernel_rfl) (by simp) (.cons rfl ?_ (.nil))
              refine ws_on rfl rfl ?_ (hn := rfl)
              refine w_call rfl rfl (CallW.mono (CallW.weak (Sel.weak (.cons tk (.cons tk .rest))) (dropped_fn _ _ _ _ _ _ _ _)) ?_)
              rintro _ _ ⟨_, rfl, rfl, rfl⟩
              try simp only [List.cons_append, List.nil_append]
              refine ws_nil ?_
              refine wr_float F 33 rfl (by kernel_rfl) (.inl (by kernel_rfl)) ?_
              refine ws_on rfl rfl ?_ (hn := rfl)
              refine w_neq u3 rfl rfl rfl ?_
              refine ws_nil ?_
              refine wr_float F 34 rfl (by kernel_rfl) (.inl (by kernel_rfl)) ?_
              first | refine w_pickT rfl rfl rfl ⟨_, rfl⟩ ?_ | refine w_pickF rfl rfl ⟨_, rfl⟩ rfl ?_ | refine w_pick rfl rfl rfl rfl ?_
              refine ws_nil ?_
              refine wr_end F (by kernel_rfl) ?_
              skip
              refine wc_cond rfl (fun h13 => ?_) (fun h13 => ?_)
              · first | replace h13 := of_decide_eq_true h13 | replace h13 := of_decide_eq_false h13 | replace h13 := of_decide_eq_false (nb_T h13) | replace h13 := of_decide_eq_true (nb_F h13) | replace h13 := nb_T h13 | replace h13 := nb_F h13 | skip
                first | replace h13 := Int.not_lt.mp h13 | replace h13 := Int.not_le.mp h13 | replace h13 := Decidable.not_not.mp h13 | skip
                exact absurd (by simp only [List.length_nil, notesI_len]; omega) h13
              · first | replace h13 := of_decide_eq_true h13 | replace h13 := of_decide_eq_false h13 | replace h13 := of_decide_eq_false (nb_T h13) | replace h13 := of_decide_eq_true (nb_F h13) | replace h13 := nb_T h13 | replace h13 := nb_F h13 | skip
                first | replace h13 := Int.not_lt.mp h13 | replace h13 := Int.not_le.mp h13 | replace h13 := Decidable.not_not.mp h13 | skip
                refine wc_stay ?_
                refine wc_seq ?_
                refine wc_seq ?_
                refine wc_text ?_
                have hLs2 : ((notesI K).drop (max ((K : Int) - R) 0).toNat).take ((notesI K).length - (max ((K : Int) - R) 0).toNat) = lastN R (notesI K) := by rw [← hLs]
                refine w_move rfl rfl ?_
                refine w_move rfl rfl ?_
                refine w_move rfl rfl ?_
                refine w_sub u3 rfl rfl rfl (by omega) ?_
                refine w_max rfl rfl rfl ?_
                refine w_slice rfl rfl rfl rfl rfl (slice_al u34 s27 (by intro _; rfl) (nat_of (by omega) _) (by rfl) (by omega) (by omega)) ?_
                first | refine w_len rfl rfl (len_lst u34) ?_ | refine w_len rfl rfl (len_slice u34) ?_ | refine w_lenO rfl u34 rfl rfl tk ?_
                refine w_move rfl rfl ?_
                refine ws_nil ?_
                rw [hLs2]
                refine WC.recell (BK c23 ((K - R : Nat) : Int)) (o := o23) tk (by simp [notesI_len]) ?_
                generalize hLe : lastN R (notesI K) = L at hLal hLl ⊢
                refine wc_block ?_
                refine wc_loop (σ := { x : Nat × Nat // x.1 ≤ L.length }) (fun u => [(7, .ptr (some ⟨o23, 0⟩)), (92, AL eN L), (93, .int .i64 (L.length : Nat)), (94, .int .i64 (u.1.1 : Nat))]) (fun u => [.obj o23 (.row 63 2 false (BK c23 ((K - R : Nat) : Int))), .obj c23 (.chan R ((L.drop u.1.1).map ag) s76 u.1.2)]) (fun u => L.length - u.1.1) ?_ ⟨(0, _), Nat.zero_le _⟩ (.cons rfl (.cons rfl (.cons rfl (.cons rfl (.nil _))))) (Sel.weak (.cons tk (.cons tk .nil)))
                rintro ⟨⟨j, r2⟩, hj⟩
                dsimp only
                simp only at hj
                refine wc_seq ?_
                refine wc_text ?_
                refine w_lss u3 rfl rfl rfl ?_
                refine ws_nil ?_
                refine wc_seq ?_
                refine wc_cond rfl (fun h16 => ?_) (fun h16 => ?_)
                · replace h16 := of_decide_eq_true h16
                  refine wc_stay ?_
                  refine wc_seq ?_
                  refine wc_block ?_
                  refine wc_seq ?_
                  refine wc_text ?_
                  obtain ⟨x, hx⟩ := get_of_lt (l := L) (k := j) (by omega)
                  have hxa := hLal x (List.mem_of_getElem? hx)
                  first | refine w_lidx u34 s27 rfl rfl rfl (by omega) ?_ | refine w_slidx u34 s27 rfl rfl rfl (by omega) ?_
                  first | refine w_ldC a27 s27 rfl rfl agc ?_ | refine w_ldP a27 s27 rfl rfl tk agp ?_
                  refine w_alloc z27 s27 rfl (fun o13 => ?_)
                  refine w_st s27 rfl rfl rfl tk rfl rfl ovw ?_
                  refine ws_nil ?_
                  refine WC.recell (eN x) tk rfl ?_
                  refine wc_seq ?_
                  refine wc_text ?_
                  rw [drop_one hx]
                  refine w_move rfl rfl ?_
                  refine w_call rfl rfl (CallW.mono (CallW.weak (Sel.weak (.cons tk (.cons tk .rest))) (take_cons _ _ _ _ _ _ _ _ _)) ?_)
                  rintro _ _ ⟨_, rfl, rfl, rfl⟩
                  try simp only [List.cons_append, List.nil_append]
                  refine w_move rfl rfl ?_
                  refine w_extract rfl rfl rfl ?_
                  refine w_extract rfl rfl rfl ?_
                  refine w_alloc z27 s27 rfl (fun o14 => ?_)
                  refine w_st s27 rfl rfl rfl tk rfl rfl ovw ?_
                  refine w_assign rfl rfl ?_
                  refine ws_nil ?_
                  refine WC.recell (eN x) (o := o14) tk rfl ?_
                  refine wc_seq ?_
                  refine wc_text ?_
                  refine w_move rfl rfl ?_
                  refine w_not rfl rfl ?_
                  refine w_move rfl rfl ?_
                  refine ws_split (t := 105) rfl (fun g105 => ?_) (fun g105 => ?_)
                  · first | replace g105 := of_decide_eq_true g105 | replace g105 := of_decide_eq_false g105 | replace g105 := of_decide_eq_false (nb_T g105) | replace g105 := of_decide_eq_true (nb_F g105) | replace g105 := nb_T g105 | replace g105 := nb_F g105 | skip
                    first | replace g105 := Int.not_lt.mp g105 | replace g105 := Int.not_le.mp g105 | replace g105 := Decidable.not_not.mp g105 | skip
                    cases g105
                  · first | replace g105 := of_decide_eq_true g105 | replace g105 := of_decide_eq_false g105 | replace g105 := of_decide_eq_false (nb_T g105) | replace g105 := of_decide_eq_true (nb_F g105) | replace g105 := nb_T g105 | replace g105 := nb_F g105 | skip
                    first | replace g105 := Int.not_lt.mp g105 | replace g105 := Int.not_le.mp g105 | replace g105 := Decidable.not_not.mp g105 | skip
                    refine ws_on rfl rfl ?_
                    first | refine w_ldC a27 s27 rfl rfl agc ?_ | refine w_ldP a27 s27 rfl rfl tk agp ?_
                    refine ws_on rfl rfl ?_
                    refine w_buildSF (cs := [x].flatMap eN) u34 s27 z27 (by decide) rfl rfl rfl (by decide) rfl rfl ?_
                    refine ws_on rfl rfl ?_
                    first | refine w_ldC a27 s27 rfl rfl agc ?_ | refine w_ldP a27 s27 rfl rfl tk agp ?_
                    refine ws_on rfl rfl ?_
                    refine w_buildSF (cs := [x].flatMap eN) u34 s27 z27 (by decide) rfl rfl rfl (by decide) rfl rfl ?_
                    refine ws_on rfl rfl ?_
                    refine w_call rfl rfl (cw_fn rfl rfl (.cons fz (.cons fz .nil)) (notes_fn _ _ (by simp) (by intro y hy; simp only [List.mem_singleton] at hy; subst hy; exact hxa)) ?_)
                    refine ws_on rfl rfl ?_
                    refine w_not rfl rfl ?_
                    first | refine w_pickT rfl rfl rfl ⟨_, rfl⟩ ?_ | refine w_pickF rfl rfl ⟨_, rfl⟩ rfl ?_ | refine w_pick rfl rfl rfl rfl ?_
                    refine ws_nil ?_
                    refine wc_cond rfl (fun h19 => ?_) (fun h19 => ?_)
                    · first | replace h19 := of_decide_eq_true h19 | replace h19 := of_decide_eq_false h19 | replace h19 := of_decide_eq_false (nb_T h19) | replace h19 := of_decide_eq_true (nb_F h19) | replace h19 := nb_T h19 | replace h19 := nb_F h19 | skip
                      first | replace h19 := Int.not_lt.mp h19 | replace h19 := Int.not_le.mp h19 | replace h19 := Decidable.not_not.mp h19 | skip
                      exact absurd rfl h19
                    · first | replace h19 := of_decide_eq_true h19 | replace h19 := of_decide_eq_false h19 | replace h19 := of_decide_eq_false (nb_T h19) | replace h19 := of_decide_eq_true (nb_F h19) | replace h19 := nb_T h19 | replace h19 := nb_F h19 | skip
                      first | replace h19 := Int.not_lt.mp h19 | replace h19 := Int.not_le.mp h19 | replace h19 := Decidable.not_not.mp h19 | skip
                      refine wc_stay ?_
                      refine wc_text ?_
                      refine w_add u3 rfl rfl rfl (by omega) ?_
                      refine w_move rfl rfl ?_
                      refine ws_nil ?_
                      exact ⟨⟨(j + 1, _), (by omega : j + 1 ≤ L.length)⟩, by simp only; omega, (.cons rfl (.cons rfl (.cons rfl (.cons rfl (.nil _))))), (Sel.weak (.cons tk (.cons tk .nil)))⟩
                · replace h16 := of_decide_eq_false h16
                  rw [List.drop_eq_nil_of_le (by omega : L.length ≤ j)]
                  refine wc_exit ?_
                  refine wc_seq ?_
                  refine wc_text ?_
                  refine w_move rfl rfl ?_
                  refine w_call rfl rfl (CallW.mono (CallW.weak (Sel.weak (.cons tk (.cons tk .rest))) (take_nil _ _ _ z0 [] _ _ _ _)) ?_)
                  rintro _ _ ⟨_, rfl, rfl, rfl⟩
                  try simp only [List.cons_append, List.nil_append]
                  refine w_move rfl rfl ?_
                  refine w_extract rfl rfl rfl ?_
                  refine w_extract rfl rfl rfl ?_
                  refine w_alloc z27 s27 rfl (fun o16 => ?_)
                  refine w_st s27 rfl rfl rfl tk rfl rfl ovw ?_
                  refine w_assign rfl rfl ?_
                  refine ws_nil ?_
                  refine WC.recell (eN z0) (o := o16) tk rfl ?_
                  refine wc_seq ?_
                  refine wc_text ?_
                  refine w_move rfl rfl ?_
                  refine w_not rfl rfl ?_
                  refine w_move rfl rfl ?_
                  refine ws_split (t := 121) rfl (fun g121 => ?_) (fun g121 => ?_)
                  · first | replace g121 := of_decide_eq_true g121 | replace g121 := of_decide_eq_false g121 | replace g121 := of_decide_eq_false (nb_T g121) | replace g121 := of_decide_eq_true (nb_F g121) | replace g121 := nb_T g121 | replace g121 := nb_F g121 | skip
                    first | replace g121 := Int.not_lt.mp g121 | replace g121 := Int.not_le.mp g121 | replace g121 := Decidable.not_not.mp g121 | skip
                    refine ws_on rfl rfl ?_
                    refine w_move rfl rfl ?_
                    refine ws_on rfl rfl ?_
                    refine w_call rfl rfl (CallW.mono (CallW.weak (Sel.weak (.cons tk (.cons tk .rest))) (len_fn _ _ _ _ _ _ _ _)) ?_)
                    rintro _ _ ⟨_, rfl, rfl, rfl⟩
                    try simp only [List.cons_append, List.nil_append]
                    refine ws_on rfl rfl ?_
                    refine w_eql u3 rfl rfl rfl ?_
                    first | refine w_pickT rfl rfl rfl ⟨_, rfl⟩ ?_ | refine w_pickF rfl rfl ⟨_, rfl⟩ rfl ?_ | refine w_pick rfl rfl rfl rfl ?_
                    refine w_move rfl rfl ?_
                    refine ws_split (t := 126) rfl (fun g126 => ?_) (fun g126 => ?_)
                    · first | replace g126 := of_decide_eq_true g126 | replace g126 := of_decide_eq_false g126 | replace g126 := of_decide_eq_false (nb_T g126) | replace g126 := of_decide_eq_true (nb_F g126) | replace g126 := nb_T g126 | replace g126 := nb_F g126 | skip
                      first | replace g126 := Int.not_lt.mp g126 | replace g126 := Int.not_le.mp g126 | replace g126 := Decidable.not_not.mp g126 | skip
                      refine ws_on rfl rfl ?_
                      refine w_move rfl rfl ?_
                      refine ws_on rfl rfl ?_
                      refine w_call rfl rfl (CallW.mono (CallW.weak (Sel.weak (.cons tk (.cons tk .rest))) (all_fn _ _ R [] _ _ _ (by omega) (by simp) (by omega) (by intro y hy; cases hy) _)) ?_)
                      rintro v128 _ ⟨_, rfl, s128, r128, rfl⟩
                      try simp only [List.cons_append, List.nil_append]
                      refine ws_on rfl rfl ?_
                      first | refine w_len rfl rfl (len_lst u34) ?_ | refine w_len rfl rfl (len_slice u34) ?_ | refine w_lenO rfl u34 rfl rfl tk ?_
                      refine ws_on rfl rfl ?_
                      refine w_eql u3 rfl rfl rfl ?_
                      first | refine w_pickT rfl rfl rfl ⟨_, rfl⟩ ?_ | refine w_pickF rfl rfl ⟨_, rfl⟩ rfl ?_ | refine w_pick rfl rfl rfl rfl ?_
                      refine w_move rfl rfl ?_
                      refine ws_split (t := 132) rfl (fun g132 => ?_) (fun g132 => ?_)
                      · first | replace g132 := of_decide_eq_true g132 | replace g132 := of_decide_eq_false g132 | replace g132 := of_decide_eq_false (nb_T g132) | replace g132 := of_decide_eq_true (nb_F g132) | replace g132 := nb_T g132 | replace g132 := nb_F g132 | skip
                        first | replace g132 := Int.not_lt.mp g132 | replace g132 := Int.not_le.mp g132 | replace g132 := Decidable.not_not.mp g132 | skip
                        refine ws_on rfl rfl ?_
                        refine w_call rfl rfl (cw_fn rfl rfl .nil (runsM_fn) ?_)
                        first | refine w_pickT rfl rfl rfl ⟨_, rfl⟩ ?_ | refine w_pickF rfl rfl ⟨_, rfl⟩ rfl ?_ | refine w_pick rfl rfl rfl rfl ?_
                        refine w_assign rfl rfl ?_
                        refine ws_nil ?_
                        refine wc_ret ?_
                        refine ⟨_, (.cons (.tmp rfl) .nil), ?_, rfl⟩
                        rfl
                      · first | replace g132 := of_decide_eq_true g132 | replace g132 := of_decide_eq_false g132 | replace g132 := of_decide_eq_false (nb_T g132) | replace g132 := of_decide_eq_true (nb_F g132) | replace g132 := nb_T g132 | replace g132 := nb_F g132 | skip
                        first | replace g132 := Int.not_lt.mp g132 | replace g132 := Int.not_le.mp g132 | replace g132 := Decidable.not_not.mp g132 | skip
                        exact absurd rfl g132
                    · first | replace g126 := of_decide_eq_true g126 | replace g126 := of_decide_eq_false g126 | replace g126 := of_decide_eq_false (nb_T g126) | replace g126 := of_decide_eq_true (nb_F g126) | replace g126 := nb_T g126 | replace g126 := nb_F g126 | skip
                      first | replace g126 := Int.not_lt.mp g126 | replace g126 := Int.not_le.mp g126 | replace g126 := Decidable.not_not.mp g126 | skip
                      exact absurd rfl g126
                  · first | replace g121 := of_decide_eq_true g121 | replace g121 := of_decide_eq_false g121 | replace g121 := of_decide_eq_false (nb_T g121) | replace g121 := of_decide_eq_true (nb_F g121) | replace g121 := nb_T g121 | replace g121 := nb_F g121 | skip
                    first | replace g121 := Int.not_lt.mp g121 | replace g121 := Int.not_le.mp g121 | replace g121 := Decidable.not_not.mp g121 | skip
                    cases g121
end Go.Proofs.Ytknpdigpendnjaa.ml
