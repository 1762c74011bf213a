/-
  Package route, and what it calls, walked by facts (printed by gen_rt.py).
-/
import Derived.Test.YtonojkcnencodaaDoorBhRt3
import Derived.Test.YtonojkcnencodaaDoorBhRt5
import Derived.Test.YtonojkcnencodaaDoorBhRtG2
import Derived.Test.YtonojkcnencodaaDoorBhArg
import Derived.Test.YtonojkcnencodaaDoorBhRtG3
import Derived.Test.YtonojkcnencodaaDoorBhW16
namespace Go.Proofs.YtonojkcnencodaaDoor.rt
open Go Go.Proofs Go.Proofs.YtonojkcnencodaaDoor.BH Go.Proofs.YtonojkcnencodaaDoor.BH.Rt
open Go.Proofs.YtonojkcnencodaaDoor.BH.Dk (withinV withinV_in)
set_option maxRecDepth 100000
set_option maxHeartbeats 4000000 in
theorem goes_law (goes : List Bool) (deep : Int) (hl0 : goes.length ≤ 9223372036854775807) : PFn C 5 [AL eT goes, .int .i64 deep] (.bool true) := by
  refine fn_view rfl rfl (fn := Tryd.f5) rfl rfl rfl rfl rfl ?_
  refine wc_seq ?_
  refine wc_text ?_
  refine w_assign rfl rfl ?_
  refine ws_nil ?_
  refine wc_seq ?_
  refine wc_text ?_
  refine w_build (v := .agg [_, _, _, _]) B28 rfl rfl rfl ?_
  refine w_alloc z28 s28 rfl (fun o5 => ?_)
  refine w_st s28 rfl rfl rfl tk rfl rfl ovw ?_
  refine ws_nil ?_
  refine wc_seq ?_
  refine wc_text ?_
  refine w_assign rfl rfl ?_
  refine ws_nil ?_
  refine wc_seq ?_
  refine wc_text ?_
  refine w_assign rfl rfl ?_
  refine ws_nil ?_
  refine wc_seq ?_
  refine wc_seq ?_
  refine wc_text ?_
  refine w_assign rfl rfl ?_
  refine ws_nil ?_
  refine WC.ownNil 9 1 ?_
  refine WC.ownNil 28 4 ?_
  refine wc_block ?_
  refine wc_loop (σ := { u : Nat × AV × AV // u.1 ≤ goes.length ∧ u.1 ≤ 8 }) (fun u => [(0, AL eT goes), (1, .int .i64 deep), (5, .ptr (some ⟨o5, 0⟩)), (6, u.1.2.2), (7, .bool (wantG goes u.1.1).2), (8, .int .i64 (u.1.1 : Nat))]) (fun u => [.obj o5 (.row 28 4 false [nilSlice, .str [114, 111, 111, 116], .bool false, u.1.2.1]), .own u.1.2.1 28 4 ((kidsG goes u.1.1).flatMap eR) (kidsG goes u.1.1).length, .own u.1.2.2 9 1 ((wantG goes u.1.1).1.flatMap eS) (wantG goes u.1.1).1.length]) (fun u => 8 - u.1.1) ?_ ⟨(0, nilSlice, nilSlice), Nat.zero_le _, Nat.zero_le _⟩ (.cons rfl (.cons rfl (.cons rfl (.cons rfl (.cons rfl (.cons rfl (.nil _))))))) (Sel.weak (.cons tk (.cons tk (.cons tk .nil))))
  rintro ⟨⟨i, vk, vw⟩, hi, hi8⟩
  dsimp only
  simp only at hi hi8
  have hkl := kidsG_len goes i
  have hwl := wantG_len goes i
  refine wc_seq ?_
  refine wc_seq ?_
  refine wc_cut [(0, AL eT goes), (1, .int .i64 deep), (5, .ptr (some ⟨o5, 0⟩)), (6, vw), (7, .bool (wantG goes i).2), (8, .int .i64 (i : Nat)), (22, .bool (decide (i < goes.length ∧ i < 8)))] [.obj o5 (.row 28 4 false [nilSlice, .str [114, 111, 111, 116], .bool false, vk]), .own vk 28 4 ((kidsG goes i).flatMap eR) (kidsG goes i).length, .own vw 9 1 ((wantG goes i).1.flatMap eS) (wantG goes i).1.length] ?_ ?_
  · skip
    refine wc_text ?_
    refine w_move rfl rfl ?_
    refine w_move rfl rfl ?_
    first | refine w_len rfl rfl (len_lst u48) ?_ | refine w_len rfl rfl (len_slice u48) ?_ | refine w_lenO rfl u48 rfl rfl tk ?_
    refine w_lss u3 rfl rfl rfl ?_
    refine w_move rfl rfl ?_
    refine ws_split (t := 19) rfl (fun g19 => ?_) (fun g19 => ?_)
    · first | replace g19 := of_decide_eq_true g19 | replace g19 := of_decide_eq_false g19 | replace g19 := of_decide_eq_false (nb_T g19) | replace g19 := of_decide_eq_true (nb_F g19) | replace g19 := nb_T g19 | replace g19 := nb_F g19 | skip
      first | replace g19 := Int.not_lt.mp g19 | replace g19 := Int.not_le.mp g19 | replace g19 := Decidable.not_not.mp g19 | skip
      refine ws_on rfl rfl ?_
      refine w_move rfl rfl ?_
      refine ws_on rfl rfl ?_
      refine w_lss u3 rfl rfl rfl ?_
      first | refine w_pickT rfl rfl rfl ⟨_, rfl⟩ ?_ | refine w_pickF rfl rfl ⟨_, rfl⟩ rfl ?_ | refine w_pick rfl rfl rfl rfl ?_
      exact ws_nil ⟨rfl, (.cons (by first | rfl | (refine congrArg some (congrArg AV.bool ?_); simp_all; first | omega | (intros; omega))) (.cons (by first | rfl | (refine congrArg some (congrArg AV.bool ?_); simp_all; first | omega | (intros; omega))) (.cons (by first | rfl | (refine congrArg some (congrArg AV.bool ?_); simp_all; first | omega | (intros; omega))) (.cons (by first | rfl | (refine congrArg some (congrArg AV.bool ?_); simp_all; first | omega | (intros; omega))) (.cons (by first | rfl | (refine congrArg some (congrArg AV.bool ?_); simp_all; first | omega | (intros; omega))) (.cons (by first | rfl | (refine congrArg some (congrArg AV.bool ?_); simp_all; first | omega | (intros; omega))) (.cons (by first | rfl | (refine congrArg some (congrArg AV.bool ?_); simp_all; first | omega | (intros; omega))) (.nil _)))))))), (Sel.weak (.cons tk (.cons tk (.cons tk .nil))))⟩
    · first | replace g19 := of_decide_eq_true g19 | replace g19 := of_decide_eq_false g19 | replace g19 := of_decide_eq_false (nb_T g19) | replace g19 := of_decide_eq_true (nb_F g19) | replace g19 := nb_T g19 | replace g19 := nb_F g19 | skip
      first | replace g19 := Int.not_lt.mp g19 | replace g19 := Int.not_le.mp g19 | replace g19 := Decidable.not_not.mp g19 | skip
      refine ws_off rfl rfl rfl rfl ?_
      refine ws_off rfl rfl rfl rfl ?_
      first | refine w_pickT rfl rfl rfl ⟨_, rfl⟩ ?_ | refine w_pickF rfl rfl ⟨_, rfl⟩ rfl ?_ | refine w_pick rfl rfl rfl rfl ?_
      exact ws_nil ⟨rfl, (.cons (by first | rfl | (refine congrArg some (congrArg AV.bool ?_); simp_all; first | omega | (intros; omega))) (.cons (by first | rfl | (refine congrArg some (congrArg AV.bool ?_); simp_all; first | omega | (intros; omega))) (.cons (by first | rfl | (refine congrArg some (congrArg AV.bool ?_); simp_all; first | omega | (intros; omega))) (.cons (by first | rfl | (refine congrArg some (congrArg AV.bool ?_); simp_all; first | omega | (intros; omega))) (.cons (by first | rfl | (refine congrArg some (congrArg AV.bool ?_); simp_all; first | omega | (intros; omega))) (.cons (by first | rfl | (refine congrArg some (congrArg AV.bool ?_); simp_all; first | omega | (intros; omega))) (.cons (by first | rfl | (refine congrArg some (congrArg AV.bool ?_); simp_all; first | omega | (intros; omega))) (.nil _)))))))), (Sel.weak (.cons tk (.cons tk (.cons tk .nil))))⟩
  refine wc_cond rfl (fun h5 => ?_) (fun h5 => ?_)
  · replace h5 := of_decide_eq_true h5
    refine wc_stay ?_
    refine wc_seq ?_
    refine wc_block ?_
    refine wc_seq ?_
    refine wc_text ?_
    have hlet := letterG i (by omega)
    refine w_move rfl rfl ?_
    refine w_add u3 rfl rfl rfl (by omega) ?_
    refine w_conv rfl rfl (conv_int u3 u5) ?_
    rw [hlet]
    refine w_buildSF (cs := (toG i).flatMap eB) u49 s5 z5 (by decide) rfl rfl rfl (by decide) rfl rfl ?_
    refine w_text (l := toG i) u9 u49 u5 rfl rfl ?_
    refine w_assign rfl rfl ?_
    refine ws_nil ?_
    refine wc_seq ?_
    refine wc_free [0, 1, 0, 0, 0, 24, 56, 124, 252, 511, 1023, 2047] (by kernel_rfl) (by kernel_rfl) (fun F => ?_)
    obtain ⟨gb, hx⟩ := get_of_lt (l := goes) (k := i) (by omega)
    have hgd : goes.getD i false = gb := by rw [List.getD_eq_getElem?_getD, hx]; rfl
    have hkid : kidG goes i = .mk [] (toG i) gb [] := by unfold kidG; rw [hgd]
    refine wr_float F 0 rfl (by kernel_rfl) (.inl (by kernel_rfl)) ?_
    first | refine w_faddrC O28_3 rfl rfl ?_ | refine w_faddrP O28_3 rfl rfl ?_
    refine ws_nil ?_
    refine wr_float F 2 rfl (by kernel_rfl) (.inl (by kernel_rfl)) ?_
    refine w_move rfl rfl ?_
    refine ws_nil ?_
    refine wr_float F 3 rfl (by kernel_rfl) (.inl (by kernel_rfl)) ?_
    refine w_move rfl rfl ?_
    refine ws_nil ?_
    refine wr_float F 4 rfl (by kernel_rfl) (.inl (by kernel_rfl)) ?_
    refine w_move rfl rfl ?_
    refine ws_nil ?_
    refine wr_float F 5 rfl (by kernel_rfl) (.inl (by kernel_rfl)) ?_
    first | refine w_lidx u48 s4 rfl rfl rfl (by omega) ?_ | refine w_slidx u48 s4 rfl rfl rfl (by omega) ?_
    refine ws_nil ?_
    refine wr_pure F 6 rfl (by kernel_rfl) rfl rfl (pf_ldC1 a4 rfl rdc) (.inl rfl) ?_
    refine wr_float F 7 rfl (by kernel_rfl) (.inl (by kernel_rfl)) ?_
    refine w_build (v := .agg [_, _, _, _]) B28 rfl rfl rfl ?_
    refine ws_nil ?_
    refine wr_lazy F 8 rfl (by kernel_rfl) rfl rfl (lz_buildW (cs := [Rt.mk [] (toG i) gb []].flatMap eR) u26 s28 z28 (by decide) rfl rfl (by show LeL _ (eR (.mk [] (toG i) gb [])); exact leaf_le _ _) (by decide) rfl rfl) (.inl rfl) ?_
    refine wr_next F (l := [1]) (by kernel_rfl) (by simp) (.cons rfl ?_ (.nil))
    first | refine w_ldC1 a26 rfl rfl rdc ?_ | refine w_ldP1 a26 rfl rfl tk rdp ?_
    refine ws_nil ?_
    refine wr_next F (l := [9]) (by kernel_rfl) (by simp) (.cons rfl ?_ (.nil))
    refine w_appO (enc := eR) (l := kidsG goes i) (m := [.mk [] (toG i) gb []]) rfl u26 s28 b28 z28 u26 (by simp) rfl rfl rfl tk nw (by unfold bigBy; first | omega | (simp only [List.length_nil, List.length_cons, List.length_append, List.length_take, List.length_drop]; omega)) (by unfold bigBy; first | omega | (simp only [List.length_nil, List.length_cons, List.length_append, List.length_take, List.length_drop]; omega)) (fun v39 => ?_)
    refine ws_nil ?_
    refine wr_float F 10 rfl (by kernel_rfl) (.inl (by kernel_rfl)) ?_
    first | refine w_faddrC O28_3 rfl rfl ?_ | refine w_faddrP O28_3 rfl rfl ?_
    refine ws_nil ?_
    refine wr_next F (l := [11]) (by kernel_rfl) (by simp) (.cons rfl ?_ (.nil))
    refine WS.ownCells (v := v39) tk (fun c39 s39 => ?_)
    refine w_st s26 rfl rfl rfl tk (by rw [c39]; try rfl) (by rw [c39]; simpa using s39) (by rw [c39]; rfl) ?_
    refine ws_nil ?_
    refine wr_end F (by kernel_rfl) ?_
    rw [← hkid, kidsG_next]
    refine wc_seq ?_
    refine wc_text ?_
    refine w_move rfl rfl ?_
    refine w_not rfl rfl ?_
    refine ws_nil ?_
    refine wc_cond rfl (fun h9 => ?_) (fun h9 => ?_)
    · replace h9 := nb_T h9
      refine wc_seq ?_
      refine wc_text ?_
      refine w_move rfl rfl ?_
      refine w_move rfl rfl ?_
      refine w_buildSF (cs := [toG i].flatMap eS) u34 s9 z9 (by decide) rfl rfl rfl (by decide) rfl rfl ?_
      refine w_appO (enc := eS) (l := (wantG goes i).1) (m := [toG i]) rfl u34 s9 b9 z9 u34 (by simp) rfl rfl rfl tk nw (by unfold bigBy; first | omega | (simp only [List.length_nil, List.length_cons, List.length_append, List.length_take, List.length_drop]; omega)) (by unfold bigBy; first | omega | (simp only [List.length_nil, List.length_cons, List.length_append, List.length_take, List.length_drop]; omega)) (fun v46 => ?_)
      refine w_assign rfl rfl ?_
      refine ws_nil ?_
      refine wc_text ?_
      refine w_move rfl rfl ?_
      refine w_move rfl rfl ?_
      first | refine w_lidx u48 s4 rfl rfl rfl (by omega) ?_ | refine w_slidx u48 s4 rfl rfl rfl (by omega) ?_
      first | refine w_ldC1 a4 rfl rfl rdc ?_ | refine w_ldP1 a4 rfl rfl tk rdp ?_
      refine w_not rfl rfl ?_
      refine w_assign rfl rfl ?_
      refine ws_nil ?_
      rw [← hgd, show (wantG goes i).1 ++ [toG i] = (wantG goes (i + 1)).1 by rw [wantG_next h9], show (!goes.getD i false) = (wantG goes (i + 1)).2 by rw [wantG_next h9]]
      refine wc_text ?_
      refine w_move rfl rfl ?_
      refine w_add u3 rfl rfl rfl (by omega) ?_
      refine w_assign rfl rfl ?_
      refine ws_nil ?_
      exact ⟨⟨(i + 1, v39, v46), (by omega : i + 1 ≤ goes.length), (by omega : i + 1 ≤ 8)⟩, by simp only; omega, (.cons rfl (.cons rfl (.cons rfl (.cons rfl (.cons rfl (.cons rfl (.nil _))))))), (Sel.weak (.cons tk (.cons tk (.cons tk .nil))))⟩
    · replace h9 := nb_F h9
      rw [← wantG_stay h9]
      refine wc_stay ?_
      refine wc_text ?_
      refine w_move rfl rfl ?_
      refine w_add u3 rfl rfl rfl (by omega) ?_
      refine w_assign rfl rfl ?_
      refine ws_nil ?_
      exact ⟨⟨(i + 1, v39, vw), (by omega : i + 1 ≤ goes.length), (by omega : i + 1 ≤ 8)⟩, by simp only; omega, (.cons rfl (.cons rfl (.cons rfl (.cons rfl (.cons rfl (.cons rfl (.nil _))))))), (Sel.weak (.cons tk (.cons tk (.cons tk .nil))))⟩
  · refine WC.freeze (t := 6) (v' := AL eS (wantG goes i).1) rfl rfl (.ownK rfl tk (flat_done (by intro _; rfl) _)) rfl ?_
    refine WC.freezeCell (o := o5) (i := 3) tk rfl (.ownK rfl tk (flat_done eR_done _)) rfl rfl tk ?_
    refine WC.weakCells (o := o5) (cs' := eR (.mk [] [114, 111, 111, 116] false (kidsG goes i))) tk (node_le [114, 111, 111, 116] false (kidsG goes i)) ?_
    refine wc_exit ?_
    refine wc_seq ?_
    refine wc_seq ?_
    refine wc_text ?_
    refine w_move rfl rfl ?_
    first | refine w_len rfl rfl (len_lst u34) ?_ | refine w_len rfl rfl (len_slice u34) ?_ | refine w_lenO rfl u34 rfl rfl tk ?_
    refine w_eql u3 rfl rfl rfl ?_
    refine ws_nil ?_
    refine wc_cond rfl (fun h12 => ?_) (fun h12 => ?_)
    · skip
      refine wc_text ?_
      refine w_buildSF (cs := [([114, 111, 111, 116] : List UInt8)].flatMap eS) u34 s9 z9 (by decide) rfl rfl rfl (by decide) rfl rfl ?_
      refine w_assign rfl rfl ?_
      refine ws_nil ?_
      obtain ⟨W, hW⟩ : ∃ W : List (List UInt8), W = [([114, 111, 111, 116] : List UInt8)] := ⟨_, rfl⟩
      refine WC.weakSlot (t := 6) (v' := AL eS W) rfl rfl (by rw [hW]; exact .refl _) ?_
      refine wc_seq ?_
      refine wc_text ?_
      refine w_move rfl rfl ?_
      refine w_call rfl rfl (cw_fn rfl rfl (.cons fz (.cons fz (.cons fz .nil))) (within_fn _ _ _ (by omega) (by omega) (by omega)) ?_)
      refine w_assign rfl rfl ?_
      refine ws_nil ?_
      have hw6 := withinV_in deep 0 6 (by omega)
      obtain ⟨K, hK⟩ : ∃ K : Nat, withinV deep 0 6 = K := ⟨(withinV deep 0 6).toNat, by omega⟩
      rw [hK] at hw6 ⊢
      refine wc_seq ?_
      refine wc_seq ?_
      refine wc_text ?_
      refine w_move rfl rfl ?_
      refine w_move rfl rfl ?_
      refine ws_nil ?_
      refine wc_block ?_
      refine wc_loop (σ := { k : Nat // k ≤ K }) (fun u => [(5, .ptr (some ⟨o5, 0⟩)), (6, AL eS W), (58, .int .i64 (K : Nat)), (59, .int .i64 (u.1 : Nat))]) (fun u => [.obj o5 (.row 28 4 false (eR (upG (kidsG goes i) u.1)))]) (fun u => K - u.1) ?_ ⟨0, Nat.zero_le _⟩ (.cons rfl (.cons rfl (.cons rfl (.cons rfl (.nil _))))) (Sel.weak (.cons tk .nil))
      rintro ⟨k, hk⟩
      dsimp only
      refine wc_seq ?_
      refine wc_text ?_
      refine w_lss u3 rfl rfl rfl ?_
      refine ws_nil ?_
      refine wc_seq ?_
      refine wc_cond rfl (fun h16 => ?_) (fun h16 => ?_)
      · replace h16 := of_decide_eq_true h16
        refine wc_stay ?_
        refine wc_seq ?_
        refine wc_block ?_
        refine wc_text ?_
        first | refine w_ldC a28 s28 rfl rfl agc ?_ | refine w_ldP a28 s28 rfl rfl tk agp ?_
        refine w_buildSF (cs := [upG (kidsG goes i) k].flatMap eR) u26 s28 z28 (by decide) rfl rfl rfl (by decide) rfl rfl ?_
        refine w_build (v := .agg [_, _, _, _]) B28 rfl rfl rfl ?_
        refine w_st s28 rfl rfl rfl tk rfl rfl ovw ?_
        refine ws_nil ?_
        refine WC.weakCells (o := o5) (cs' := eR (upG (kidsG goes i) (k + 1))) tk (node_le [117, 112] false [upG (kidsG goes i) k]) ?_
        refine wc_text ?_
        refine w_add u3 rfl rfl rfl (by omega) ?_
        refine w_move rfl rfl ?_
        refine ws_nil ?_
        exact ⟨⟨k + 1, by omega⟩, by simp only; omega, (.cons rfl (.cons rfl (.cons rfl (.cons rfl (.nil _))))), (Sel.weak (.cons tk .nil))⟩
      · replace h16 := of_decide_eq_false h16
        have hkK : K = k := by omega
        subst hkK
        refine wc_exit ?_
        refine wc_seq ?_
        refine wc_text ?_
        refine w_build (v := .agg [_, _, _, _]) B28 rfl rfl rfl ?_
        refine w_alloc z28 s28 rfl (fun o11 => ?_)
        refine w_st s28 rfl rfl rfl tk rfl rfl ovw ?_
        refine ws_nil ?_
        refine WC.weakCells (o := o11) (cs' := eR (lowG 0)) tk (leaf_le [120] false) ?_
        refine wc_seq ?_
        refine wc_seq ?_
        refine wc_text ?_
        refine w_move rfl rfl ?_
        refine ws_nil ?_
        refine wc_block ?_
        refine wc_loop (σ := { k : Nat // k ≤ 8 }) (fun u => [(5, .ptr (some ⟨o5, 0⟩)), (6, AL eS W), (11, .ptr (some ⟨o11, 0⟩)), (66, .int .i64 (u.1 : Nat))]) (fun u => [.obj o5 (.row 28 4 false (eR (upG (kidsG goes i) K))), .obj o11 (.row 28 4 false (eR (lowG u.1)))]) (fun u => 8 - u.1) ?_ ⟨0, Nat.zero_le _⟩ (.cons rfl (.cons rfl (.cons rfl (.cons rfl (.nil _))))) (Sel.weak (.cons tk (.cons tk .nil)))
        rintro ⟨k, hk⟩
        dsimp only
        refine wc_seq ?_
        refine wc_text ?_
        refine w_lss u3 rfl rfl rfl ?_
        refine ws_nil ?_
        refine wc_seq ?_
        refine wc_cond rfl (fun h21 => ?_) (fun h21 => ?_)
        · replace h21 := of_decide_eq_true h21
          refine wc_stay ?_
          refine wc_seq ?_
          refine wc_block ?_
          refine wc_text ?_
          first | refine w_ldC a28 s28 rfl rfl agc ?_ | refine w_ldP a28 s28 rfl rfl tk agp ?_
          refine w_buildSF (cs := [lowG k].flatMap eR) u26 s28 z28 (by decide) rfl rfl rfl (by decide) rfl rfl ?_
          refine w_build (v := .agg [_, _, _, _]) B28 rfl rfl rfl ?_
          refine w_st s28 rfl rfl rfl tk rfl rfl ovw ?_
          refine ws_nil ?_
          refine WC.weakCells (o := o11) (cs' := eR (lowG (k + 1))) tk (node_le [120] false [lowG k]) ?_
          refine wc_text ?_
          refine w_add u3 rfl rfl rfl (by omega) ?_
          refine w_move rfl rfl ?_
          refine ws_nil ?_
          exact ⟨⟨k + 1, by omega⟩, by simp only; omega, (.cons rfl (.cons rfl (.cons rfl (.cons rfl (.nil _))))), (Sel.weak (.cons tk (.cons tk .nil)))⟩
        · replace h21 := of_decide_eq_false h21
          have hk8 : k = 8 := by omega
          subst hk8
          refine wc_exit ?_
          refine wc_seq ?_
          refine wc_text ?_
          refine w_makeS (l := 16) (c := 16) u26 b28 s28 z28 rfl rfl rfl (by decide) (by decide) (by decide) (fun o72 => ?_)
          refine w_build (v := .agg [_, _, _, _]) B28 rfl rfl rfl ?_
          refine w_alloc z28 s28 rfl (fun o12 => ?_)
          refine w_st s28 rfl rfl rfl tk rfl rfl ovw ?_
          refine ws_nil ?_
          refine WC.weakCells (o := o72) (cs' := (wideL 0).flatMap eR) tk wide_le ?_
          refine wc_seq ?_
          refine wc_seq ?_
          refine wc_text ?_
          first | refine w_faddrC O28_3 rfl rfl ?_ | refine w_faddrP O28_3 rfl rfl ?_
          first | refine w_ldC1 a26 rfl rfl rdc ?_ | refine w_ldP1 a26 rfl rfl tk rdp ?_
          first | refine w_len rfl rfl (len_lst u26) ?_ | refine w_len rfl rfl (len_slice u26) ?_ | refine w_lenO rfl u26 rfl rfl tk ?_
          refine w_move rfl rfl ?_
          refine ws_nil ?_
          refine wc_block ?_
          refine wc_loop (σ := { k : Nat // k ≤ 16 }) (fun u => [(5, .ptr (some ⟨o5, 0⟩)), (6, AL eS W), (11, .ptr (some ⟨o11, 0⟩)), (12, .ptr (some ⟨o12, 0⟩)), (76, .int .i64 ((16 : Nat) : Int)), (77, .int .i64 (u.1 : Nat))]) (fun u => [.obj o5 (.row 28 4 false (eR (upG (kidsG goes i) K))), .obj o11 (.row 28 4 false (eR (lowG 8))), .obj o12 (.row 28 4 false [nilSlice, .str [120], .bool false, .slice (some ⟨o72, 0⟩) 16 (.exact 16)]), .obj o72 (.row 28 4 false ((wideL u.1).flatMap eR))]) (fun u => 16 - u.1) ?_ ⟨0, Nat.zero_le _⟩ (.cons rfl (.cons rfl (.cons rfl (.cons rfl (.cons rfl (.cons rfl (.nil _))))))) (Sel.weak (.cons tk (.cons tk (.cons tk (.cons tk .nil)))))
          rintro ⟨k, hk⟩
          dsimp only
          refine wc_seq ?_
          refine wc_text ?_
          refine w_lss u3 rfl rfl rfl ?_
          refine ws_nil ?_
          refine wc_seq ?_
          refine wc_cond rfl (fun h26 => ?_) (fun h26 => ?_)
          · replace h26 := of_decide_eq_true h26
            refine wc_stay ?_
            refine wc_seq ?_
            refine wc_block ?_
            refine wc_seq ?_
            refine wc_text ?_
            refine w_move rfl rfl ?_
            refine w_assign rfl rfl ?_
            refine ws_nil ?_
            refine wc_text ?_
            first | refine w_faddrC O28_3 rfl rfl ?_ | refine w_faddrP O28_3 rfl rfl ?_
            first | refine w_ldC1 a26 rfl rfl rdc ?_ | refine w_ldP1 a26 rfl rfl tk rdp ?_
            refine w_move rfl rfl ?_
            first | refine w_lidx u26 s28 rfl rfl rfl (by omega) ?_ | refine w_slidx u26 s28 rfl rfl rfl (by omega) ?_
            first | refine w_faddrC O28_1 rfl rfl ?_ | refine w_faddrP O28_1 rfl rfl ?_
            refine w_st s9 rfl rfl rfl tk rfl rfl (wide_over k (by omega)) ?_
            refine ws_nil ?_
            refine wc_text ?_
            refine w_add u3 rfl rfl rfl (by omega) ?_
            refine w_move rfl rfl ?_
            refine ws_nil ?_
            exact ⟨⟨k + 1, by omega⟩, by simp only; omega, (.cons rfl (.cons rfl (.cons rfl (.cons rfl (.cons rfl (.cons rfl (.nil _))))))), (Sel.weak (.cons tk (.cons tk (.cons tk (.cons tk .nil)))))⟩
          · replace h26 := of_decide_eq_false h26
            have hk16 : k = 16 := by omega
            subst hk16
            refine WC.freezeCell (o := o12) (i := 3) (cs := [nilSlice, .str [120], .bool false, .slice (some ⟨o72, 0⟩) 16 (.exact 16)]) (v := .slice (some ⟨o72, 0⟩) 16 (.exact 16)) (v' := .lst ((wideL 16).flatMap eR) 16 false true) tk rfl (.objK (o := o72) (cs := (wideL 16).flatMap eR) (m := 16) (e := 28) (s := 4) rfl (by decide) tk (by rfl) (flat_done eR_done _)) rfl rfl tk ?_
            refine WC.weakCells (o := o12) (cs' := eR wideT) tk (node_le [120] false (wideL 16)) ?_
            refine wc_exit ?_
            refine wc_seq ?_
            refine wc_text ?_
            have hUb : blk (upG (kidsG goes i) K) ≤ 2000000 := by rw [blk_up, blkL_kids]; omega
            have hLb : blk (lowG 8) ≤ 2000000 := by rw [blk_low]; omega
            have hWb : blk wideT ≤ 2000000 := by rw [blk_wide]; omega
            have hTo := To_up (goes := goes) hi8 (show K ≤ 6 by omega)
            have hWF : W = wantF goes i := by
              rw [hW]; unfold wantF
              first | rw [if_pos (List.eq_nil_of_length_eq_zero (by have := of_decide_eq_true h12; omega))] | rw [if_neg (fun h => by have := of_decide_eq_false h12; rw [h] at this; exact this rfl)]
            rw [hWF]
            have hWl : 0 < (wantF goes i).length ∧ (wantF goes i).length ≤ 8 := by
              unfold wantF; split
              · simp
              · rename_i h; exact ⟨List.length_pos_iff.mpr h, by omega⟩
            have hOut : outV (upG (kidsG goes i) K) [[], []] = wantF goes i ++ wantF goes i := by unfold outV; simp [hTo]
            have hAll : Lib.compact (sortS (outV (upG (kidsG goes i) K) [[], []])) = wantF goes i := by rw [hOut]; exact all_want goes hi8
            have hol : ∀ k, (outV (upG (kidsG goes i) K) (([[], []] : List (List LD)).take k)).length ≤ 2000000 := by
              intro k
              match k with
              | 0 => simp [outV]
              | 1 => simp [outV, hTo]; omega
              | k + 2 => simp [outV, hTo]; omega
            have h0 : 0 < (outV (upG (kidsG goes i) K) [[], []]).length := by rw [hOut, List.length_append]; omega
            have hc0 : 0 < (Lib.compact (sortS (outV (upG (kidsG goes i) K) [[], []]))).length := by rw [hAll]; omega
            have hc1 : (Lib.compact (sortS (outV (upG (kidsG goes i) K) [[], []]))).length ≤ (outV (upG (kidsG goes i) K) [[], []]).length := by rw [hAll, hOut, List.length_append]; omega
            first | refine w_ldC a28 s28 rfl rfl agc ?_ | refine w_ldP a28 s28 rfl rfl tk agp ?_
            refine w_call rfl rfl (cw_fn rfl rfl (.cons fz (.cons fz .nil)) (To_fn [] (by simp) (upG (kidsG goes i) K) hUb) ?_)
            refine w_move rfl rfl ?_
            refine w_call rfl rfl (cw_fn rfl rfl (.cons fz (.cons fz .nil)) (sameS_fn _ (wantF goes i) (by rw [hTo]; omega)) ?_)
            refine w_move rfl rfl ?_
            refine ws_split (t := 90) rfl (fun g90 => ?_) (fun g90 => ?_)
            · first | replace g90 := of_decide_eq_true g90 | replace g90 := of_decide_eq_false g90 | replace g90 := of_decide_eq_false (nb_T g90) | replace g90 := of_decide_eq_true (nb_F g90) | replace g90 := nb_T g90 | replace g90 := nb_F g90 | skip
              first | replace g90 := Int.not_lt.mp g90 | replace g90 := Int.not_le.mp g90 | replace g90 := Decidable.not_not.mp g90 | skip
              refine ws_on rfl rfl ?_
              first | refine w_ldC a28 s28 rfl rfl agc ?_ | refine w_ldP a28 s28 rfl rfl tk agp ?_
              refine ws_on rfl rfl ?_
              refine w_lazy (lz_buildW (cs := ([[], []] : List (List LD)).flatMap eLL) u45 s36 z36 (by decide) rfl rfl (.cons (nil_le false true rfl) (.cons (nil_le false true rfl) .nil)) (by decide) rfl rfl) rfl rfl rfl (by decide) ?_
              refine ws_on rfl rfl ?_
              refine w_call rfl rfl (cw_fn rfl rfl (.cons fz (.cons fz .nil)) (All_fn (upG (kidsG goes i) K) hUb [[], []] (by decide) (by simp) hol h0 hc0 hc1) ?_)
              refine ws_on rfl rfl ?_
              refine w_move rfl rfl ?_
              refine ws_on rfl rfl ?_
              refine w_call rfl rfl (cw_fn rfl rfl (.cons fz (.cons fz .nil)) (sameS_fn _ (wantF goes i) (by rw [hAll]; omega)) ?_)
              first | refine w_pickT rfl rfl rfl ⟨_, rfl⟩ ?_ | refine w_pickF rfl rfl ⟨_, rfl⟩ rfl ?_ | refine w_pick rfl rfl rfl rfl ?_
              refine w_move rfl rfl ?_
              refine ws_split (t := 97) rfl (fun g97 => ?_) (fun g97 => ?_)
              · first | replace g97 := of_decide_eq_true g97 | replace g97 := of_decide_eq_false g97 | replace g97 := of_decide_eq_false (nb_T g97) | replace g97 := of_decide_eq_true (nb_F g97) | replace g97 := nb_T g97 | replace g97 := nb_F g97 | skip
                first | replace g97 := Int.not_lt.mp g97 | replace g97 := Int.not_le.mp g97 | replace g97 := Decidable.not_not.mp g97 | skip
                refine ws_on rfl rfl ?_
                first | refine w_ldC a28 s28 rfl rfl agc ?_ | refine w_ldP a28 s28 rfl rfl tk agp ?_
                refine ws_on rfl rfl ?_
                refine w_call rfl rfl (cw_fn rfl rfl (.cons fz .nil) (Right_fn (lowG 8) hLb) ?_)
                refine ws_on rfl rfl ?_
                refine w_not rfl rfl ?_
                first | refine w_pickT rfl rfl rfl ⟨_, rfl⟩ ?_ | refine w_pickF rfl rfl ⟨_, rfl⟩ rfl ?_ | refine w_pick rfl rfl rfl rfl ?_
                refine w_move rfl rfl ?_
                refine ws_split (t := 102) rfl (fun g102 => ?_) (fun g102 => ?_)
                · first | replace g102 := of_decide_eq_true g102 | replace g102 := of_decide_eq_false g102 | replace g102 := of_decide_eq_false (nb_T g102) | replace g102 := of_decide_eq_true (nb_F g102) | replace g102 := nb_T g102 | replace g102 := nb_F g102 | skip
                  first | replace g102 := Int.not_lt.mp g102 | replace g102 := Int.not_le.mp g102 | replace g102 := Decidable.not_not.mp g102 | skip
                  refine ws_on rfl rfl ?_
                  first | refine w_ldC a28 s28 rfl rfl agc ?_ | refine w_ldP a28 s28 rfl rfl tk agp ?_
                  refine ws_on rfl rfl ?_
                  refine w_call rfl rfl (cw_fn rfl rfl (.cons fz .nil) (Right_fn wideT hWb) ?_)
                  refine ws_on rfl rfl ?_
                  refine w_not rfl rfl ?_
                  first | refine w_pickT rfl rfl rfl ⟨_, rfl⟩ ?_ | refine w_pickF rfl rfl ⟨_, rfl⟩ rfl ?_ | refine w_pick rfl rfl rfl rfl ?_
                  refine w_move rfl rfl ?_
                  refine ws_split (t := 107) rfl (fun g107 => ?_) (fun g107 => ?_)
                  · first | replace g107 := of_decide_eq_true g107 | replace g107 := of_decide_eq_false g107 | replace g107 := of_decide_eq_false (nb_T g107) | replace g107 := of_decide_eq_true (nb_F g107) | replace g107 := nb_T g107 | replace g107 := nb_F g107 | skip
                    first | replace g107 := Int.not_lt.mp g107 | replace g107 := Int.not_le.mp g107 | replace g107 := Decidable.not_not.mp g107 | skip
                    refine ws_on rfl rfl ?_
                    first | refine w_ldC a28 s28 rfl rfl agc ?_ | refine w_ldP a28 s28 rfl rfl tk agp ?_
                    refine ws_on rfl rfl ?_
                    refine w_call rfl rfl (cw_fn rfl rfl (.cons fz (.cons fz .nil)) (To_fn [] (by simp) wideT hWb) ?_)
                    refine ws_on rfl rfl ?_
                    first | refine w_len rfl rfl (len_lst u34) ?_ | refine w_len rfl rfl (len_slice u34) ?_ | refine w_lenO rfl u34 rfl rfl tk ?_
                    refine ws_on rfl rfl ?_
                    refine w_eql u3 rfl rfl rfl ?_
                    first | refine w_pickT rfl rfl rfl ⟨_, rfl⟩ ?_ | refine w_pickF rfl rfl ⟨_, rfl⟩ rfl ?_ | refine w_pick rfl rfl rfl rfl ?_
                    refine w_move rfl rfl ?_
                    refine ws_split (t := 113) rfl (fun g113 => ?_) (fun g113 => ?_)
                    · first | replace g113 := of_decide_eq_true g113 | replace g113 := of_decide_eq_false g113 | replace g113 := of_decide_eq_false (nb_T g113) | replace g113 := of_decide_eq_true (nb_F g113) | replace g113 := nb_T g113 | replace g113 := nb_F g113 | skip
                      first | replace g113 := Int.not_lt.mp g113 | replace g113 := Int.not_le.mp g113 | replace g113 := Decidable.not_not.mp g113 | skip
                      refine ws_on rfl rfl ?_
                      first | refine w_ldC a28 s28 rfl rfl agc ?_ | refine w_ldP a28 s28 rfl rfl tk agp ?_
                      refine ws_on rfl rfl ?_
                      refine w_call rfl rfl (cw_fn rfl rfl (.cons fz .nil) (count_fn wideT hWb) ?_)
                      refine ws_on rfl rfl ?_
                      refine w_eql u3 rfl rfl rfl ?_
                      first | refine w_pickT rfl rfl rfl ⟨_, rfl⟩ ?_ | refine w_pickF rfl rfl ⟨_, rfl⟩ rfl ?_ | refine w_pick rfl rfl rfl rfl ?_
                      refine w_move rfl rfl ?_
                      refine ws_split (t := 118) rfl (fun g118 => ?_) (fun g118 => ?_)
                      · first | replace g118 := of_decide_eq_true g118 | replace g118 := of_decide_eq_false g118 | replace g118 := of_decide_eq_false (nb_T g118) | replace g118 := of_decide_eq_true (nb_F g118) | replace g118 := nb_T g118 | replace g118 := nb_F g118 | skip
                        first | replace g118 := Int.not_lt.mp g118 | replace g118 := Int.not_le.mp g118 | replace g118 := Decidable.not_not.mp g118 | skip
                        refine ws_on rfl rfl ?_
                        refine w_call rfl rfl (cw_fn rfl rfl .nil (runsR_fn) ?_)
                        first | refine w_pickT rfl rfl rfl ⟨_, rfl⟩ ?_ | refine w_pickF rfl rfl ⟨_, rfl⟩ rfl ?_ | refine w_pick rfl rfl rfl rfl ?_
                        refine w_assign rfl rfl ?_
                        refine ws_nil ?_
                        refine wc_ret ?_
                        refine ⟨_, (.cons (.tmp rfl) .nil), ?_, rfl⟩
                        rfl
                      · first | replace g118 := of_decide_eq_true g118 | replace g118 := of_decide_eq_false g118 | replace g118 := of_decide_eq_false (nb_T g118) | replace g118 := of_decide_eq_true (nb_F g118) | replace g118 := nb_T g118 | replace g118 := nb_F g118 | skip
                        first | replace g118 := Int.not_lt.mp g118 | replace g118 := Int.not_le.mp g118 | replace g118 := Decidable.not_not.mp g118 | skip
                        exact absurd (by rw [cnt_wide]; rfl) g118
                    · first | replace g113 := of_decide_eq_true g113 | replace g113 := of_decide_eq_false g113 | replace g113 := of_decide_eq_false (nb_T g113) | replace g113 := of_decide_eq_true (nb_F g113) | replace g113 := nb_T g113 | replace g113 := nb_F g113 | skip
                      first | replace g113 := Int.not_lt.mp g113 | replace g113 := Int.not_le.mp g113 | replace g113 := Decidable.not_not.mp g113 | skip
                      exact absurd (by rw [wide_To]; rfl) g113
                  · first | replace g107 := of_decide_eq_true g107 | replace g107 := of_decide_eq_false g107 | replace g107 := of_decide_eq_false (nb_T g107) | replace g107 := of_decide_eq_true (nb_F g107) | replace g107 := nb_T g107 | replace g107 := nb_F g107 | skip
                    first | replace g107 := Int.not_lt.mp g107 | replace g107 := Int.not_le.mp g107 | replace g107 := Decidable.not_not.mp g107 | skip
                    exact absurd g107 (by rw [cnt_wide]; decide)
                · first | replace g102 := of_decide_eq_true g102 | replace g102 := of_decide_eq_false g102 | replace g102 := of_decide_eq_false (nb_T g102) | replace g102 := of_decide_eq_true (nb_F g102) | replace g102 := nb_T g102 | replace g102 := nb_F g102 | skip
                  first | replace g102 := Int.not_lt.mp g102 | replace g102 := Int.not_le.mp g102 | replace g102 := Decidable.not_not.mp g102 | skip
                  first | cases g102 | exact absurd rfl g102
              · first | replace g97 := of_decide_eq_true g97 | replace g97 := of_decide_eq_false g97 | replace g97 := of_decide_eq_false (nb_T g97) | replace g97 := of_decide_eq_true (nb_F g97) | replace g97 := nb_T g97 | replace g97 := nb_F g97 | skip
                first | replace g97 := Int.not_lt.mp g97 | replace g97 := Int.not_le.mp g97 | replace g97 := Decidable.not_not.mp g97 | skip
                exact absurd hAll g97
            · first | replace g90 := of_decide_eq_true g90 | replace g90 := of_decide_eq_false g90 | replace g90 := of_decide_eq_false (nb_T g90) | replace g90 := of_decide_eq_true (nb_F g90) | replace g90 := nb_T g90 | replace g90 := nb_F g90 | skip
              first | replace g90 := Int.not_lt.mp g90 | replace g90 := Int.not_le.mp g90 | replace g90 := Decidable.not_not.mp g90 | skip
              exact absurd hTo g90
    · obtain ⟨W, hW⟩ : ∃ W : List (List UInt8), W = (wantG goes i).1 := ⟨_, rfl⟩
      refine WC.weakSlot (t := 6) (v' := AL eS W) rfl rfl (by rw [hW]; exact .refl _) ?_
      refine wc_stay ?_
      refine wc_seq ?_
      refine wc_text ?_
      refine w_move rfl rfl ?_
      refine w_call rfl rfl (cw_fn rfl rfl (.cons fz (.cons fz (.cons fz .nil))) (within_fn _ _ _ (by omega) (by omega) (by omega)) ?_)
      refine w_assign rfl rfl ?_
      refine ws_nil ?_
      have hw6 := withinV_in deep 0 6 (by omega)
      obtain ⟨K, hK⟩ : ∃ K : Nat, withinV deep 0 6 = K := ⟨(withinV deep 0 6).toNat, by omega⟩
      rw [hK] at hw6 ⊢
      refine wc_seq ?_
      refine wc_seq ?_
      refine wc_text ?_
      refine w_move rfl rfl ?_
      refine w_move rfl rfl ?_
      refine ws_nil ?_
      refine wc_block ?_
      refine wc_loop (σ := { k : Nat // k ≤ K }) (fun u => [(5, .ptr (some ⟨o5, 0⟩)), (6, AL eS W), (58, .int .i64 (K : Nat)), (59, .int .i64 (u.1 : Nat))]) (fun u => [.obj o5 (.row 28 4 false (eR (upG (kidsG goes i) u.1)))]) (fun u => K - u.1) ?_ ⟨0, Nat.zero_le _⟩ (.cons rfl (.cons rfl (.cons rfl (.cons rfl (.nil _))))) (Sel.weak (.cons tk .nil))
      rintro ⟨k, hk⟩
      dsimp only
      refine wc_seq ?_
      refine wc_text ?_
      refine w_lss u3 rfl rfl rfl ?_
      refine ws_nil ?_
      refine wc_seq ?_
      refine wc_cond rfl (fun h16 => ?_) (fun h16 => ?_)
      · replace h16 := of_decide_eq_true h16
        refine wc_stay ?_
        refine wc_seq ?_
        refine wc_block ?_
        refine wc_text ?_
        first | refine w_ldC a28 s28 rfl rfl agc ?_ | refine w_ldP a28 s28 rfl rfl tk agp ?_
        refine w_buildSF (cs := [upG (kidsG goes i) k].flatMap eR) u26 s28 z28 (by decide) rfl rfl rfl (by decide) rfl rfl ?_
        refine w_build (v := .agg [_, _, _, _]) B28 rfl rfl rfl ?_
        refine w_st s28 rfl rfl rfl tk rfl rfl ovw ?_
        refine ws_nil ?_
        refine WC.weakCells (o := o5) (cs' := eR (upG (kidsG goes i) (k + 1))) tk (node_le [117, 112] false [upG (kidsG goes i) k]) ?_
        refine wc_text ?_
        refine w_add u3 rfl rfl rfl (by omega) ?_
        refine w_move rfl rfl ?_
        refine ws_nil ?_
        exact ⟨⟨k + 1, by omega⟩, by simp only; omega, (.cons rfl (.cons rfl (.cons rfl (.cons rfl (.nil _))))), (Sel.weak (.cons tk .nil))⟩
      · replace h16 := of_decide_eq_false h16
        have hkK : K = k := by omega
        subst hkK
        refine wc_exit ?_
        refine wc_seq ?_
        refine wc_text ?_
        refine w_build (v := .agg [_, _, _, _]) B28 rfl rfl rfl ?_
        refine w_alloc z28 s28 rfl (fun o11 => ?_)
        refine w_st s28 rfl rfl rfl tk rfl rfl ovw ?_
        refine ws_nil ?_
        refine WC.weakCells (o := o11) (cs' := eR (lowG 0)) tk (leaf_le [120] false) ?_
        refine wc_seq ?_
        refine wc_seq ?_
        refine wc_text ?_
        refine w_move rfl rfl ?_
        refine ws_nil ?_
        refine wc_block ?_
        refine wc_loop (σ := { k : Nat // k ≤ 8 }) (fun u => [(5, .ptr (some ⟨o5, 0⟩)), (6, AL eS W), (11, .ptr (some ⟨o11, 0⟩)), (66, .int .i64 (u.1 : Nat))]) (fun u => [.obj o5 (.row 28 4 false (eR (upG (kidsG goes i) K))), .obj o11 (.row 28 4 false (eR (lowG u.1)))]) (fun u => 8 - u.1) ?_ ⟨0, Nat.zero_le _⟩ (.cons rfl (.cons rfl (.cons rfl (.cons rfl (.nil _))))) (Sel.weak (.cons tk (.cons tk .nil)))
        rintro ⟨k, hk⟩
        dsimp only
        refine wc_seq ?_
        refine wc_text ?_
        refine w_lss u3 rfl rfl rfl ?_
        refine ws_nil ?_
        refine wc_seq ?_
        refine wc_cond rfl (fun h21 => ?_) (fun h21 => ?_)
        · replace h21 := of_decide_eq_true h21
          refine wc_stay ?_
          refine wc_seq ?_
          refine wc_block ?_
          refine wc_text ?_
          first | refine w_ldC a28 s28 rfl rfl agc ?_ | refine w_ldP a28 s28 rfl rfl tk agp ?_
          refine w_buildSF (cs := [lowG k].flatMap eR) u26 s28 z28 (by decide) rfl rfl rfl (by decide) rfl rfl ?_
          refine w_build (v := .agg [_, _, _, _]) B28 rfl rfl rfl ?_
          refine w_st s28 rfl rfl rfl tk rfl rfl ovw ?_
          refine ws_nil ?_
          refine WC.weakCells (o := o11) (cs' := eR (lowG (k + 1))) tk (node_le [120] false [lowG k]) ?_
          refine wc_text ?_
          refine w_add u3 rfl rfl rfl (by omega) ?_
          refine w_move rfl rfl ?_
          refine ws_nil ?_
          exact ⟨⟨k + 1, by omega⟩, by simp only; omega, (.cons rfl (.cons rfl (.cons rfl (.cons rfl (.nil _))))), (Sel.weak (.cons tk (.cons tk .nil)))⟩
        · replace h21 := of_decide_eq_false h21
          have hk8 : k = 8 := by omega
          subst hk8
          refine wc_exit ?_
          refine wc_seq ?_
          refine wc_text ?_
          refine w_makeS (l := 16) (c := 16) u26 b28 s28 z28 rfl rfl rfl (by decide) (by decide) (by decide) (fun o72 => ?_)
          refine w_build (v := .agg [_, _, _, _]) B28 rfl rfl rfl ?_
          refine w_alloc z28 s28 rfl (fun o12 => ?_)
          refine w_st s28 rfl rfl rfl tk rfl rfl ovw ?_
          refine ws_nil ?_
          refine WC.weakCells (o := o72) (cs' := (wideL 0).flatMap eR) tk wide_le ?_
          refine wc_seq ?_
          refine wc_seq ?_
          refine wc_text ?_
          first | refine w_faddrC O28_3 rfl rfl ?_ | refine w_faddrP O28_3 rfl rfl ?_
          first | refine w_ldC1 a26 rfl rfl rdc ?_ | refine w_ldP1 a26 rfl rfl tk rdp ?_
          first | refine w_len rfl rfl (len_lst u26) ?_ | refine w_len rfl rfl (len_slice u26) ?_ | refine w_lenO rfl u26 rfl rfl tk ?_
          refine w_move rfl rfl ?_
          refine ws_nil ?_
          refine wc_block ?_
          refine wc_loop (σ := { k : Nat // k ≤ 16 }) (fun u => [(5, .ptr (some ⟨o5, 0⟩)), (6, AL eS W), (11, .ptr (some ⟨o11, 0⟩)), (12, .ptr (some ⟨o12, 0⟩)), (76, .int .i64 ((16 : Nat) : Int)), (77, .int .i64 (u.1 : Nat))]) (fun u => [.obj o5 (.row 28 4 false (eR (upG (kidsG goes i) K))), .obj o11 (.row 28 4 false (eR (lowG 8))), .obj o12 (.row 28 4 false [nilSlice, .str [120], .bool false, .slice (some ⟨o72, 0⟩) 16 (.exact 16)]), .obj o72 (.row 28 4 false ((wideL u.1).flatMap eR))]) (fun u => 16 - u.1) ?_ ⟨0, Nat.zero_le _⟩ (.cons rfl (.cons rfl (.cons rfl (.cons rfl (.cons rfl (.cons rfl (.nil _))))))) (Sel.weak (.cons tk (.cons tk (.cons tk (.cons tk .nil)))))
          rintro ⟨k, hk⟩
          dsimp only
          refine wc_seq ?_
          refine wc_text ?_
          refine w_lss u3 rfl rfl rfl ?_
          refine ws_nil ?_
          refine wc_seq ?_
          refine wc_cond rfl (fun h26 => ?_) (fun h26 => ?_)
          · replace h26 := of_decide_eq_true h26
            refine wc_stay ?_
            refine wc_seq ?_
            refine wc_block ?_
            refine wc_seq ?_
            refine wc_text ?_
            refine w_move rfl rfl ?_
            refine w_assign rfl rfl ?_
            refine ws_nil ?_
            refine wc_text ?_
            first | refine w_faddrC O28_3 rfl rfl ?_ | refine w_faddrP O28_3 rfl rfl ?_
            first | refine w_ldC1 a26 rfl rfl rdc ?_ | refine w_ldP1 a26 rfl rfl tk rdp ?_
            refine w_move rfl rfl ?_
            first | refine w_lidx u26 s28 rfl rfl rfl (by omega) ?_ | refine w_slidx u26 s28 rfl rfl rfl (by omega) ?_
            first | refine w_faddrC O28_1 rfl rfl ?_ | refine w_faddrP O28_1 rfl rfl ?_
            refine w_st s9 rfl rfl rfl tk rfl rfl (wide_over k (by omega)) ?_
            refine ws_nil ?_
            refine wc_text ?_
            refine w_add u3 rfl rfl rfl (by omega) ?_
            refine w_move rfl rfl ?_
            refine ws_nil ?_
            exact ⟨⟨k + 1, by omega⟩, by simp only; omega, (.cons rfl (.cons rfl (.cons rfl (.cons rfl (.cons rfl (.cons rfl (.nil _))))))), (Sel.weak (.cons tk (.cons tk (.cons tk (.cons tk .nil)))))⟩
          · replace h26 := of_decide_eq_false h26
            have hk16 : k = 16 := by omega
            subst hk16
            refine WC.freezeCell (o := o12) (i := 3) (cs := [nilSlice, .str [120], .bool false, .slice (some ⟨o72, 0⟩) 16 (.exact 16)]) (v := .slice (some ⟨o72, 0⟩) 16 (.exact 16)) (v' := .lst ((wideL 16).flatMap eR) 16 false true) tk rfl (.objK (o := o72) (cs := (wideL 16).flatMap eR) (m := 16) (e := 28) (s := 4) rfl (by decide) tk (by rfl) (flat_done eR_done _)) rfl rfl tk ?_
            refine WC.weakCells (o := o12) (cs' := eR wideT) tk (node_le [120] false (wideL 16)) ?_
            refine wc_exit ?_
            refine wc_seq ?_
            refine wc_text ?_
            have hUb : blk (upG (kidsG goes i) K) ≤ 2000000 := by rw [blk_up, blkL_kids]; omega
            have hLb : blk (lowG 8) ≤ 2000000 := by rw [blk_low]; omega
            have hWb : blk wideT ≤ 2000000 := by rw [blk_wide]; omega
            have hTo := To_up (goes := goes) hi8 (show K ≤ 6 by omega)
            have hWF : W = wantF goes i := by
              rw [hW]; unfold wantF
              first | rw [if_pos (List.eq_nil_of_length_eq_zero (by have := of_decide_eq_true h12; omega))] | rw [if_neg (fun h => by have := of_decide_eq_false h12; rw [h] at this; exact this rfl)]
            rw [hWF]
            have hWl : 0 < (wantF goes i).length ∧ (wantF goes i).length ≤ 8 := by
              unfold wantF; split
              · simp
              · rename_i h; exact ⟨List.length_pos_iff.mpr h, by omega⟩
            have hOut : outV (upG (kidsG goes i) K) [[], []] = wantF goes i ++ wantF goes i := by unfold outV; simp [hTo]
            have hAll : Lib.compact (sortS (outV (upG (kidsG goes i) K) [[], []])) = wantF goes i := by rw [hOut]; exact all_want goes hi8
            have hol : ∀ k, (outV (upG (kidsG goes i) K) (([[], []] : List (List LD)).take k)).length ≤ 2000000 := by
              intro k
              match k with
              | 0 => simp [outV]
              | 1 => simp [outV, hTo]; omega
              | k + 2 => simp [outV, hTo]; omega
            have h0 : 0 < (outV (upG (kidsG goes i) K) [[], []]).length := by rw [hOut, List.length_append]; omega
            have hc0 : 0 < (Lib.compact (sortS (outV (upG (kidsG goes i) K) [[], []]))).length := by rw [hAll]; omega
            have hc1 : (Lib.compact (sortS (outV (upG (kidsG goes i) K) [[], []]))).length ≤ (outV (upG (kidsG goes i) K) [[], []]).length := by rw [hAll, hOut, List.length_append]; omega
            first | refine w_ldC a28 s28 rfl rfl agc ?_ | refine w_ldP a28 s28 rfl rfl tk agp ?_
            refine w_call rfl rfl (cw_fn rfl rfl (.cons fz (.cons fz .nil)) (To_fn [] (by simp) (upG (kidsG goes i) K) hUb) ?_)
            refine w_move rfl rfl ?_
            refine w_call rfl rfl (cw_fn rfl rfl (.cons fz (.cons fz .nil)) (sameS_fn _ (wantF goes i) (by rw [hTo]; omega)) ?_)
            refine w_move rfl rfl ?_
            refine ws_split (t := 90) rfl (fun g90 => ?_) (fun g90 => ?_)
            · first | replace g90 := of_decide_eq_true g90 | replace g90 := of_decide_eq_false g90 | replace g90 := of_decide_eq_false (nb_T g90) | replace g90 := of_decide_eq_true (nb_F g90) | replace g90 := nb_T g90 | replace g90 := nb_F g90 | skip
              first | replace g90 := Int.not_lt.mp g90 | replace g90 := Int.not_le.mp g90 | replace g90 := Decidable.not_not.mp g90 | skip
              refine ws_on rfl rfl ?_
              first | refine w_ldC a28 s28 rfl rfl agc ?_ | refine w_ldP a28 s28 rfl rfl tk agp ?_
              refine ws_on rfl rfl ?_
              refine w_lazy (lz_buildW (cs := ([[], []] : List (List LD)).flatMap eLL) u45 s36 z36 (by decide) rfl rfl (.cons (nil_le false true rfl) (.cons (nil_le false true rfl) .nil)) (by decide) rfl rfl) rfl rfl rfl (by decide) ?_
              refine ws_on rfl rfl ?_
              refine w_call rfl rfl (cw_fn rfl rfl (.cons fz (.cons fz .nil)) (All_fn (upG (kidsG goes i) K) hUb [[], []] (by decide) (by simp) hol h0 hc0 hc1) ?_)
              refine ws_on rfl rfl ?_
              refine w_move rfl rfl ?_
              refine ws_on rfl rfl ?_
              refine w_call rfl rfl (cw_fn rfl rfl (.cons fz (.cons fz .nil)) (sameS_fn _ (wantF goes i) (by rw [hAll]; omega)) ?_)
              first | refine w_pickT rfl rfl rfl ⟨_, rfl⟩ ?_ | refine w_pickF rfl rfl ⟨_, rfl⟩ rfl ?_ | refine w_pick rfl rfl rfl rfl ?_
              refine w_move rfl rfl ?_
              refine ws_split (t := 97) rfl (fun g97 => ?_) (fun g97 => ?_)
              · first | replace g97 := of_decide_eq_true g97 | replace g97 := of_decide_eq_false g97 | replace g97 := of_decide_eq_false (nb_T g97) | replace g97 := of_decide_eq_true (nb_F g97) | replace g97 := nb_T g97 | replace g97 := nb_F g97 | skip
                first | replace g97 := Int.not_lt.mp g97 | replace g97 := Int.not_le.mp g97 | replace g97 := Decidable.not_not.mp g97 | skip
                refine ws_on rfl rfl ?_
                first | refine w_ldC a28 s28 rfl rfl agc ?_ | refine w_ldP a28 s28 rfl rfl tk agp ?_
                refine ws_on rfl rfl ?_
                refine w_call rfl rfl (cw_fn rfl rfl (.cons fz .nil) (Right_fn (lowG 8) hLb) ?_)
                refine ws_on rfl rfl ?_
                refine w_not rfl rfl ?_
                first | refine w_pickT rfl rfl rfl ⟨_, rfl⟩ ?_ | refine w_pickF rfl rfl ⟨_, rfl⟩ rfl ?_ | refine w_pick rfl rfl rfl rfl ?_
                refine w_move rfl rfl ?_
                refine ws_split (t := 102) rfl (fun g102 => ?_) (fun g102 => ?_)
                · first | replace g102 := of_decide_eq_true g102 | replace g102 := of_decide_eq_false g102 | replace g102 := of_decide_eq_false (nb_T g102) | replace g102 := of_decide_eq_true (nb_F g102) | replace g102 := nb_T g102 | replace g102 := nb_F g102 | skip
                  first | replace g102 := Int.not_lt.mp g102 | replace g102 := Int.not_le.mp g102 | replace g102 := Decidable.not_not.mp g102 | skip
                  refine ws_on rfl rfl ?_
                  first | refine w_ldC a28 s28 rfl rfl agc ?_ | refine w_ldP a28 s28 rfl rfl tk agp ?_
                  refine ws_on rfl rfl ?_
                  refine w_call rfl rfl (cw_fn rfl rfl (.cons fz .nil) (Right_fn wideT hWb) ?_)
                  refine ws_on rfl rfl ?_
                  refine w_not rfl rfl ?_
                  first | refine w_pickT rfl rfl rfl ⟨_, rfl⟩ ?_ | refine w_pickF rfl rfl ⟨_, rfl⟩ rfl ?_ | refine w_pick rfl rfl rfl rfl ?_
                  refine w_move rfl rfl ?_
                  refine ws_split (t := 107) rfl (fun g107 => ?_) (fun g107 => ?_)
                  · first | replace g107 := of_decide_eq_true g107 | replace g107 := of_decide_eq_false g107 | replace g107 := of_decide_eq_false (nb_T g107) | replace g107 := of_decide_eq_true (nb_F g107) | replace g107 := nb_T g107 | replace g107 := nb_F g107 | skip
                    first | replace g107 := Int.not_lt.mp g107 | replace g107 := Int.not_le.mp g107 | replace g107 := Decidable.not_not.mp g107 | skip
                    refine ws_on rfl rfl ?_
                    first | refine w_ldC a28 s28 rfl rfl agc ?_ | refine w_ldP a28 s28 rfl rfl tk agp ?_
                    refine ws_on rfl rfl ?_
                    refine w_call rfl rfl (cw_fn rfl rfl (.cons fz (.cons fz .nil)) (To_fn [] (by simp) wideT hWb) ?_)
                    refine ws_on rfl rfl ?_
                    first | refine w_len rfl rfl (len_lst u34) ?_ | refine w_len rfl rfl (len_slice u34) ?_ | refine w_lenO rfl u34 rfl rfl tk ?_
                    refine ws_on rfl rfl ?_
                    refine w_eql u3 rfl rfl rfl ?_
                    first | refine w_pickT rfl rfl rfl ⟨_, rfl⟩ ?_ | refine w_pickF rfl rfl ⟨_, rfl⟩ rfl ?_ | refine w_pick rfl rfl rfl rfl ?_
                    refine w_move rfl rfl ?_
                    refine ws_split (t := 113) rfl (fun g113 => ?_) (fun g113 => ?_)
                    · first | replace g113 := of_decide_eq_true g113 | replace g113 := of_decide_eq_false g113 | replace g113 := of_decide_eq_false (nb_T g113) | replace g113 := of_decide_eq_true (nb_F g113) | replace g113 := nb_T g113 | replace g113 := nb_F g113 | skip
                      first | replace g113 := Int.not_lt.mp g113 | replace g113 := Int.not_le.mp g113 | replace g113 := Decidable.not_not.mp g113 | skip
                      refine ws_on rfl rfl ?_
                      first | refine w_ldC a28 s28 rfl rfl agc ?_ | refine w_ldP a28 s28 rfl rfl tk agp ?_
                      refine ws_on rfl rfl ?_
                      refine w_call rfl rfl (cw_fn rfl rfl (.cons fz .nil) (count_fn wideT hWb) ?_)
                      refine ws_on rfl rfl ?_
                      refine w_eql u3 rfl rfl rfl ?_
                      first | refine w_pickT rfl rfl rfl ⟨_, rfl⟩ ?_ | refine w_pickF rfl rfl ⟨_, rfl⟩ rfl ?_ | refine w_pick rfl rfl rfl rfl ?_
                      refine w_move rfl rfl ?_
                      refine ws_split (t := 118) rfl (fun g118 => ?_) (fun g118 => ?_)
                      · first | replace g118 := of_decide_eq_true g118 | replace g118 := of_decide_eq_false g118 | replace g118 := of_decide_eq_false (nb_T g118) | replace g118 := of_decide_eq_true (nb_F g118) | replace g118 := nb_T g118 | replace g118 := nb_F g118 | skip
                        first | replace g118 := Int.not_lt.mp g118 | replace g118 := Int.not_le.mp g118 | replace g118 := Decidable.not_not.mp g118 | skip
                        refine ws_on rfl rfl ?_
                        refine w_call rfl rfl (cw_fn rfl rfl .nil (runsR_fn) ?_)
                        first | refine w_pickT rfl rfl rfl ⟨_, rfl⟩ ?_ | refine w_pickF rfl rfl ⟨_, rfl⟩ rfl ?_ | refine w_pick rfl rfl rfl rfl ?_
                        refine w_assign rfl rfl ?_
                        refine ws_nil ?_
                        refine wc_ret ?_
                        refine ⟨_, (.cons (.tmp rfl) .nil), ?_, rfl⟩
                        rfl
                      · first | replace g118 := of_decide_eq_true g118 | replace g118 := of_decide_eq_false g118 | replace g118 := of_decide_eq_false (nb_T g118) | replace g118 := of_decide_eq_true (nb_F g118) | replace g118 := nb_T g118 | replace g118 := nb_F g118 | skip
                        first | replace g118 := Int.not_lt.mp g118 | replace g118 := Int.not_le.mp g118 | replace g118 := Decidable.not_not.mp g118 | skip
                        exact absurd (by rw [cnt_wide]; rfl) g118
                    · first | replace g113 := of_decide_eq_true g113 | replace g113 := of_decide_eq_false g113 | replace g113 := of_decide_eq_false (nb_T g113) | replace g113 := of_decide_eq_true (nb_F g113) | replace g113 := nb_T g113 | replace g113 := nb_F g113 | skip
                      first | replace g113 := Int.not_lt.mp g113 | replace g113 := Int.not_le.mp g113 | replace g113 := Decidable.not_not.mp g113 | skip
                      exact absurd (by rw [wide_To]; rfl) g113
                  · first | replace g107 := of_decide_eq_true g107 | replace g107 := of_decide_eq_false g107 | replace g107 := of_decide_eq_false (nb_T g107) | replace g107 := of_decide_eq_true (nb_F g107) | replace g107 := nb_T g107 | replace g107 := nb_F g107 | skip
                    first | replace g107 := Int.not_lt.mp g107 | replace g107 := Int.not_le.mp g107 | replace g107 := Decidable.not_not.mp g107 | skip
                    exact absurd g107 (by rw [cnt_wide]; decide)
                · first | replace g102 := of_decide_eq_true g102 | replace g102 := of_decide_eq_false g102 | replace g102 := of_decide_eq_false (nb_T g102) | replace g102 := of_decide_eq_true (nb_F g102) | replace g102 := nb_T g102 | replace g102 := nb_F g102 | skip
                  first | replace g102 := Int.not_lt.mp g102 | replace g102 := Int.not_le.mp g102 | replace g102 := Decidable.not_not.mp g102 | skip
                  first | cases g102 | exact absurd rfl g102
              · first | replace g97 := of_decide_eq_true g97 | replace g97 := of_decide_eq_false g97 | replace g97 := of_decide_eq_false (nb_T g97) | replace g97 := of_decide_eq_true (nb_F g97) | replace g97 := nb_T g97 | replace g97 := nb_F g97 | skip
                first | replace g97 := Int.not_lt.mp g97 | replace g97 := Int.not_le.mp g97 | replace g97 := Decidable.not_not.mp g97 | skip
                exact absurd hAll g97
            · first | replace g90 := of_decide_eq_true g90 | replace g90 := of_decide_eq_false g90 | replace g90 := of_decide_eq_false (nb_T g90) | replace g90 := of_decide_eq_true (nb_F g90) | replace g90 := nb_T g90 | replace g90 := nb_F g90 | skip
              first | replace g90 := Int.not_lt.mp g90 | replace g90 := Int.not_le.mp g90 | replace g90 := Decidable.not_not.mp g90 | skip
              exact absurd hTo g90
end Go.Proofs.YtonojkcnencodaaDoor.rt
