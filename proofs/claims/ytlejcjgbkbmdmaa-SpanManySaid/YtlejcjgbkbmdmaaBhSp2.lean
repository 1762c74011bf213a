/-
  Package span, walked by facts (printed by gen_sp.py).
-/
import Derived.Test.YtlejcjgbkbmdmaaBhSp1
namespace Go.Proofs.Ytlejcjgbkbmdmaa.sp
open Go Go.Proofs Go.Proofs.Ytlejcjgbkbmdmaa.BH Go.Proofs.Ytlejcjgbkbmdmaa.BH.Sp
set_option maxRecDepth 100000
theorem right_fn (l : List (Int × Int)) (hl : l.length < 1000000) : PFn C 16 [AL eSp l] (.bool (rightL l none)) := by
  refine fn_view rfl rfl (fn := Try.f16) rfl rfl rfl rfl rfl ?_
  refine wc_seq ?_
  refine wc_text ?_
  refine w_assign rfl rfl ?_
  refine ws_nil ?_
  refine wc_seq ?_
  refine wc_seq ?_
  refine wc_text ?_
  refine w_move rfl rfl ?_
  first | refine w_len rfl rfl (len_lst u22) ?_ | refine w_len rfl rfl (len_slice u22) ?_ | refine w_lenO rfl u22 rfl rfl (by first | exact .head | exact .tail .head | exact .tail (.tail .head) | exact .tail (.tail (.tail .head)) | exact .tail (.tail (.tail (.tail .head)))) ?_
  refine w_move rfl rfl ?_
  refine ws_nil ?_
  refine wc_block ?_
  refine wc_loop (σ := { k : Nat // RInv l k }) (fun s => [(0, AL eSp l), (5, AL eSp l), (6, .int .i64 l.length), (7, .int .i64 (s.1 : Nat))]) (fun s => []) (fun s => l.length - s.1) ?_ ⟨0, rinv0 l⟩ (.cons rfl (.cons rfl (.cons rfl (.cons rfl (.nil _))))) (Sel.weak .nil)
  rintro ⟨k, hs⟩
  dsimp only
  have hk := hs.1
  refine wc_seq ?_
  refine wc_text ?_
  refine w_lss u3 rfl rfl rfl ?_
  refine ws_nil ?_
  refine wc_seq ?_
  refine wc_cond rfl (fun h2 => ?_) (fun h2 => ?_)
  · first | replace h2 := of_decide_eq_true h2 | replace h2 := of_decide_eq_false h2 | replace h2 := of_decide_eq_false (nb_T h2) | replace h2 := of_decide_eq_true (nb_F h2) | replace h2 := nb_T h2 | replace h2 := nb_F h2 | skip
    first | replace h2 := Int.not_lt.mp h2 | replace h2 := Int.not_le.mp h2 | replace h2 := Decidable.not_not.mp h2 | skip
    refine wc_stay ?_
    refine wc_seq ?_
    refine wc_block ?_
    refine wc_seq ?_
    refine wc_text ?_
    obtain ⟨x, hx⟩ := get_of_lt (l := l) (k := k) (by omega)
    refine w_move rfl rfl ?_
    first | refine w_lidx u22 s26 rfl rfl rfl (by omega) ?_ | refine w_slidx u22 s26 rfl rfl rfl (by omega) ?_
    first | refine w_ldC a26 s26 rfl rfl (by first | exact flat_aggs (by intro _; rfl) (by assumption) | exact flat_aggsI (by intro _; rfl) (by assumption) (by first | rfl | omega)) ?_ | refine w_ldP a26 s26 rfl rfl (by first | exact .head | exact .tail .head | exact .tail (.tail .head) | exact .tail (.tail (.tail .head)) | exact .tail (.tail (.tail (.tail .head)))) (by first | exact flat_aggsP (by intro _; rfl) (by assumption) (by first | rfl | omega) | rfl) ?_
    refine w_alloc z26 s26 rfl (fun o4 => ?_)
    refine w_assign rfl rfl ?_
    refine w_st s26 rfl rfl rfl (by first | exact .head | exact .tail .head | exact .tail (.tail .head) | exact .tail (.tail (.tail .head)) | exact .tail (.tail (.tail (.tail .head)))) rfl rfl (by first | exact tab_setP (by omega) | exact flat_setP (off := 0) (by intro _; rfl) (by assumption) (by first | rfl | omega) rfl | exact flat_setP (off := 1) (by intro _; rfl) (by assumption) (by first | rfl | omega) rfl | rfl) ?_
    refine ws_nil ?_
    refine wc_seq ?_
    refine wc_free [0, 1, 3, 7, 15, 31, 15, 79, 255, 511, 1023, 2047, 4095, 8191, 16383, 32767, 65535, 131071, 262143, 524287, 1048575, 524287, 524287, 4718591, 15204351, 31981567, 65535999, 132644863, 268435455, 536870911, 1073741823] (by kernel_rfl) (by kernel_rfl) (fun F => ?_)
    refine wr_float F 0 rfl (by kernel_rfl) (.inl (by kernel_rfl)) ?_
    first | refine w_faddrC O26_0 rfl rfl ?_ | refine w_faddrP O26_0 rfl rfl ?_
    refine ws_nil ?_
    refine wr_next F (l := [1]) (by kernel_rfl) (by simp) (.cons rfl ?_ (.nil))
    first | refine w_ldC1 a3 rfl rfl (by first | exact tab_getL (by omega) | exact tab_getP (by omega) | exact flat_getI0 (by intro _; rfl) (by assumption) (by first | rfl | omega) (by decide) rfl | exact flat_getI (by intro _; rfl) (by assumption) (by first | rfl | omega) (by decide) rfl | rfl) ?_ | refine w_ldP1 a3 rfl rfl (by first | exact .head | exact .tail .head | exact .tail (.tail .head) | exact .tail (.tail (.tail .head)) | exact .tail (.tail (.tail (.tail .head)))) (by first | exact tab_getP (by omega) | exact flat_getP0 (by intro _; rfl) (by assumption) (by first | rfl | omega) (by decide) rfl | exact flat_getP (by intro _; rfl) (by assumption) (by first | rfl | omega) (by decide) rfl | rfl) ?_
    refine ws_nil ?_
    refine wr_float F 2 rfl (by kernel_rfl) (.inl (by kernel_rfl)) ?_
    refine w_lss u3 rfl rfl rfl ?_
    refine ws_nil ?_
    refine wr_float F 3 rfl (by kernel_rfl) (.inl (by kernel_rfl)) ?_
    refine w_move rfl rfl ?_
    refine ws_nil ?_
    refine wr_split (t := 15) rfl (fun g15 => ?_) (fun g15 => ?_)
    · first | replace g15 := of_decide_eq_true g15 | replace g15 := of_decide_eq_false g15 | replace g15 := of_decide_eq_false (nb_T g15) | replace g15 := of_decide_eq_true (nb_F g15) | replace g15 := nb_T g15 | replace g15 := nb_F g15 | skip
      first | replace g15 := Int.not_lt.mp g15 | replace g15 := Int.not_le.mp g15 | replace g15 := Decidable.not_not.mp g15 | skip
      refine wr_float F 4 rfl (by kernel_rfl) (.inr (off_of rfl rfl rfl rfl)) ?_
      refine ws_off rfl rfl rfl rfl ?_
      refine ws_nil ?_
      refine wr_float F 5 rfl (by kernel_rfl) (.inr (off_of rfl rfl rfl rfl)) ?_
      refine ws_off rfl rfl rfl rfl ?_
      refine ws_nil ?_
      refine wr_float F 6 rfl (by kernel_rfl) (.inr (off_of rfl rfl rfl rfl)) ?_
      refine ws_off rfl rfl rfl rfl ?_
      refine ws_nil ?_
      refine wr_float F 7 rfl (by kernel_rfl) (.inr (off_of rfl rfl rfl rfl)) ?_
      refine ws_off rfl rfl rfl rfl ?_
      refine ws_nil ?_
      refine wr_float F 8 rfl (by kernel_rfl) (.inr (off_of rfl rfl rfl rfl)) ?_
      refine ws_off rfl rfl rfl rfl ?_
      refine ws_nil ?_
      refine wr_float F 9 rfl (by kernel_rfl) (.inl (by kernel_rfl)) ?_
      first | refine w_pickT rfl rfl rfl ⟨_, rfl⟩ ?_ | refine w_pickF rfl rfl ⟨_, rfl⟩ rfl ?_ | refine w_pick rfl rfl rfl rfl ?_
      refine ws_nil ?_
      refine wr_float F 10 rfl (by kernel_rfl) (.inl (by kernel_rfl)) ?_
      refine w_move rfl rfl ?_
      refine ws_nil ?_
      refine wr_float F 11 rfl (by kernel_rfl) (.inr (off_of rfl rfl rfl rfl)) ?_
      refine ws_off rfl rfl rfl rfl ?_
      refine ws_nil ?_
      refine wr_float F 12 rfl (by kernel_rfl) (.inr (off_of rfl rfl rfl rfl)) ?_
      refine ws_off rfl rfl rfl rfl ?_
      refine ws_nil ?_
      refine wr_float F 13 rfl (by kernel_rfl) (.inr (off_of rfl rfl rfl rfl)) ?_
      refine ws_off rfl rfl rfl rfl ?_
      refine ws_nil ?_
      refine wr_float F 14 rfl (by kernel_rfl) (.inl (by kernel_rfl)) ?_
      first | refine w_pickT rfl rfl rfl ⟨_, rfl⟩ ?_ | refine w_pickF rfl rfl ⟨_, rfl⟩ rfl ?_ | refine w_pick rfl rfl rfl rfl ?_
      refine ws_nil ?_
      refine wr_float F 15 rfl (by kernel_rfl) (.inl (by kernel_rfl)) ?_
      refine w_move rfl rfl ?_
      refine ws_nil ?_
      refine wr_float F 16 rfl (by kernel_rfl) (.inr (off_of rfl rfl rfl rfl)) ?_
      refine ws_off rfl rfl rfl rfl ?_
      refine ws_nil ?_
      refine wr_float F 17 rfl (by kernel_rfl) (.inr (off_of rfl rfl rfl rfl)) ?_
      refine ws_off rfl rfl rfl rfl ?_
      refine ws_nil ?_
      refine wr_float F 18 rfl (by kernel_rfl) (.inr (off_of rfl rfl rfl rfl)) ?_
      refine ws_off rfl rfl rfl rfl ?_
      refine ws_nil ?_
      refine wr_float F 19 rfl (by kernel_rfl) (.inr (off_undef rfl rfl rfl)) ?_
      refine ws_offU rfl rfl rfl ?_
      refine ws_nil ?_
      refine wr_float F 20 rfl (by kernel_rfl) (.inr (off_undef rfl rfl rfl)) ?_
      refine ws_offU rfl rfl rfl ?_
      refine ws_nil ?_
      refine wr_float F 21 rfl (by kernel_rfl) (.inr (off_undef rfl rfl rfl)) ?_
      refine ws_offU rfl rfl rfl ?_
      refine ws_nil ?_
      refine wr_float F 22 rfl (by kernel_rfl) (.inr (off_undef rfl rfl rfl)) ?_
      refine ws_offU rfl rfl rfl ?_
      refine ws_nil ?_
      refine wr_float F 23 rfl (by kernel_rfl) (.inr (off_undef rfl rfl rfl)) ?_
      refine ws_offU rfl rfl rfl ?_
      refine ws_nil ?_
      refine wr_float F 24 rfl (by kernel_rfl) (.inr (off_undef rfl rfl rfl)) ?_
      refine ws_offU rfl rfl rfl ?_
      refine ws_nil ?_
      refine wr_float F 25 rfl (by kernel_rfl) (.inr (off_undef rfl rfl rfl)) ?_
      refine ws_offU rfl rfl rfl ?_
      refine ws_nil ?_
      refine wr_float F 26 rfl (by kernel_rfl) (.inr (off_undef rfl rfl rfl)) ?_
      refine ws_offU rfl rfl rfl ?_
      refine ws_nil ?_
      refine wr_float F 27 rfl (by kernel_rfl) (.inr (off_undef rfl rfl rfl)) ?_
      refine ws_offU rfl rfl rfl ?_
      refine ws_nil ?_
      refine wr_float F 28 rfl (by kernel_rfl) (.inr (off_undef rfl rfl rfl)) ?_
      refine ws_offU rfl rfl rfl ?_
      refine ws_nil ?_
      refine wr_float F 29 rfl (by kernel_rfl) (.inr (off_of rfl rfl rfl rfl)) ?_
      refine ws_off rfl rfl rfl rfl ?_
      refine ws_nil ?_
      refine wr_float F 30 rfl (by kernel_rfl) (.inl (by kernel_rfl)) ?_
      first | refine w_pickT rfl rfl rfl ⟨_, rfl⟩ ?_ | refine w_pickF rfl rfl ⟨_, rfl⟩ rfl ?_ | refine w_pick rfl rfl rfl rfl ?_
      refine ws_nil ?_
      refine wr_end F (by kernel_rfl) ?_
      refine wc_condT rfl ?_
      refine wc_seq ?_
      refine wc_text ?_
      refine w_assign rfl rfl ?_
      refine ws_nil ?_
      refine wc_ret ?_
      refine ⟨_, (.cons (.tmp rfl) .nil), ?_, rfl⟩
      rw [right_bad hs hx (by first | exact bad1 _ (by omega) | exact bad2 _ (by omega) | exact bad3 _ (by omega) | exact bad4 (by omega) hy (by omega))]; rfl
    · first | replace g15 := of_decide_eq_true g15 | replace g15 := of_decide_eq_false g15 | replace g15 := of_decide_eq_false (nb_T g15) | replace g15 := of_decide_eq_true (nb_F g15) | replace g15 := nb_T g15 | replace g15 := nb_F g15 | skip
      first | replace g15 := Int.not_lt.mp g15 | replace g15 := Int.not_le.mp g15 | replace g15 := Decidable.not_not.mp g15 | skip
      refine wr_float F 4 rfl (by kernel_rfl) (.inl (by kernel_rfl)) ?_
      refine ws_on rfl rfl ?_ (hn := rfl)
      first | refine w_faddrC O26_1 rfl rfl ?_ | refine w_faddrP O26_1 rfl rfl ?_
      refine ws_nil ?_
      refine wr_float F 6 rfl (by kernel_rfl) (.inl (by kernel_rfl)) ?_
      refine ws_on rfl rfl ?_ (hn := rfl)
      first | refine w_faddrC O26_0 rfl rfl ?_ | refine w_faddrP O26_0 rfl rfl ?_
      refine ws_nil ?_
      refine wr_next F (l := [5, 7]) (by kernel_rfl) (by simp) (.cons rfl ?_ (.cons rfl ?_ (.nil)))
      · skip
        refine ws_on rfl rfl ?_ (hn := rfl)
        first | refine w_ldC1 a3 rfl rfl (by first | exact tab_getL (by omega) | exact tab_getP (by omega) | exact flat_getI0 (by intro _; rfl) (by assumption) (by first | rfl | omega) (by decide) rfl | exact flat_getI (by intro _; rfl) (by assumption) (by first | rfl | omega) (by decide) rfl | rfl) ?_ | refine w_ldP1 a3 rfl rfl (by first | exact .head | exact .tail .head | exact .tail (.tail .head) | exact .tail (.tail (.tail .head)) | exact .tail (.tail (.tail (.tail .head)))) (by first | exact tab_getP (by omega) | exact flat_getP0 (by intro _; rfl) (by assumption) (by first | rfl | omega) (by decide) rfl | exact flat_getP (by intro _; rfl) (by assumption) (by first | rfl | omega) (by decide) rfl | rfl) ?_
        refine ws_nil ?_
        refine wr_next F (l := [7]) (by kernel_rfl) (by simp) (.cons rfl ?_ (.nil))
        refine ws_on rfl rfl ?_ (hn := rfl)
        first | refine w_ldC1 a3 rfl rfl (by first | exact tab_getL (by omega) | exact tab_getP (by omega) | exact flat_getI0 (by intro _; rfl) (by assumption) (by first | rfl | omega) (by decide) rfl | exact flat_getI (by intro _; rfl) (by assumption) (by first | rfl | omega) (by decide) rfl | rfl) ?_ | refine w_ldP1 a3 rfl rfl (by first | exact .head | exact .tail .head | exact .tail (.tail .head) | exact .tail (.tail (.tail .head)) | exact .tail (.tail (.tail (.tail .head)))) (by first | exact tab_getP (by omega) | exact flat_getP0 (by intro _; rfl) (by assumption) (by first | rfl | omega) (by decide) rfl | exact flat_getP (by intro _; rfl) (by assumption) (by first | rfl | omega) (by decide) rfl | rfl) ?_
        refine ws_nil ?_
        refine wr_float F 8 rfl (by kernel_rfl) (.inl (by kernel_rfl)) ?_
        refine ws_on rfl rfl ?_ (hn := rfl)
        refine w_lss u3 rfl rfl rfl ?_
        refine ws_nil ?_
        refine wr_float F 9 rfl (by kernel_rfl) (.inl (by kernel_rfl)) ?_
        first | refine w_pickT rfl rfl rfl ⟨_, rfl⟩ ?_ | refine w_pickF rfl rfl ⟨_, rfl⟩ rfl ?_ | refine w_pick rfl rfl rfl rfl ?_
        refine ws_nil ?_
        refine wr_float F 10 rfl (by kernel_rfl) (.inl (by kernel_rfl)) ?_
        refine w_move rfl rfl ?_
        refine ws_nil ?_
        refine wr_split (t := 22) rfl (fun g22 => ?_) (fun g22 => ?_)
        · first | replace g22 := of_decide_eq_true g22 | replace g22 := of_decide_eq_false g22 | replace g22 := of_decide_eq_false (nb_T g22) | replace g22 := of_decide_eq_true (nb_F g22) | replace g22 := nb_T g22 | replace g22 := nb_F g22 | skip
          first | replace g22 := Int.not_lt.mp g22 | replace g22 := Int.not_le.mp g22 | replace g22 := Decidable.not_not.mp g22 | skip
          refine wr_float F 11 rfl (by kernel_rfl) (.inr (off_of rfl rfl rfl rfl)) ?_
          refine ws_off rfl rfl rfl rfl ?_
          refine ws_nil ?_
          refine wr_float F 12 rfl (by kernel_rfl) (.inr (off_of rfl rfl rfl rfl)) ?_
          refine ws_off rfl rfl rfl rfl ?_
          refine ws_nil ?_
          refine wr_float F 13 rfl (by kernel_rfl) (.inr (off_of rfl rfl rfl rfl)) ?_
          refine ws_off rfl rfl rfl rfl ?_
          refine ws_nil ?_
          refine wr_float F 14 rfl (by kernel_rfl) (.inl (by kernel_rfl)) ?_
          first | refine w_pickT rfl rfl rfl ⟨_, rfl⟩ ?_ | refine w_pickF rfl rfl ⟨_, rfl⟩ rfl ?_ | refine w_pick rfl rfl rfl rfl ?_
          refine ws_nil ?_
          refine wr_float F 15 rfl (by kernel_rfl) (.inl (by kernel_rfl)) ?_
          refine w_move rfl rfl ?_
          refine ws_nil ?_
          refine wr_float F 16 rfl (by kernel_rfl) (.inr (off_of rfl rfl rfl rfl)) ?_
          refine ws_off rfl rfl rfl rfl ?_
          refine ws_nil ?_
          refine wr_float F 17 rfl (by kernel_rfl) (.inr (off_of rfl rfl rfl rfl)) ?_
          refine ws_off rfl rfl rfl rfl ?_
          refine ws_nil ?_
          refine wr_float F 18 rfl (by kernel_rfl) (.inr (off_of rfl rfl rfl rfl)) ?_
          refine ws_off rfl rfl rfl rfl ?_
          refine ws_nil ?_
          refine wr_float F 19 rfl (by kernel_rfl) (.inr (off_undef rfl rfl rfl)) ?_
          refine ws_offU rfl rfl rfl ?_
          refine ws_nil ?_
          refine wr_float F 20 rfl (by kernel_rfl) (.inr (off_undef rfl rfl rfl)) ?_
          refine ws_offU rfl rfl rfl ?_
          refine ws_nil ?_
          refine wr_float F 21 rfl (by kernel_rfl) (.inr (off_undef rfl rfl rfl)) ?_
          refine ws_offU rfl rfl rfl ?_
          refine ws_nil ?_
          refine wr_float F 22 rfl (by kernel_rfl) (.inr (off_undef rfl rfl rfl)) ?_
          refine ws_offU rfl rfl rfl ?_
          refine ws_nil ?_
          refine wr_float F 23 rfl (by kernel_rfl) (.inr (off_undef rfl rfl rfl)) ?_
          refine ws_offU rfl rfl rfl ?_
          refine ws_nil ?_
          refine wr_float F 24 rfl (by kernel_rfl) (.inr (off_undef rfl rfl rfl)) ?_
          refine ws_offU rfl rfl rfl ?_
          refine ws_nil ?_
          refine wr_float F 25 rfl (by kernel_rfl) (.inr (off_undef rfl rfl rfl)) ?_
          refine ws_offU rfl rfl rfl ?_
          refine ws_nil ?_
          refine wr_float F 26 rfl (by kernel_rfl) (.inr (off_undef rfl rfl rfl)) ?_
          refine ws_offU rfl rfl rfl ?_
          refine ws_nil ?_
          refine wr_float F 27 rfl (by kernel_rfl) (.inr (off_undef rfl rfl rfl)) ?_
          refine ws_offU rfl rfl rfl ?_
          refine ws_nil ?_
          refine wr_float F 28 rfl (by kernel_rfl) (.inr (off_undef rfl rfl rfl)) ?_
          refine ws_offU rfl rfl rfl ?_
          refine ws_nil ?_
          refine wr_float F 29 rfl (by kernel_rfl) (.inr (off_of rfl rfl rfl rfl)) ?_
          refine ws_off rfl rfl rfl rfl ?_
          refine ws_nil ?_
          refine wr_float F 30 rfl (by kernel_rfl) (.inl (by kernel_rfl)) ?_
          first | refine w_pickT rfl rfl rfl ⟨_, rfl⟩ ?_ | refine w_pickF rfl rfl ⟨_, rfl⟩ rfl ?_ | refine w_pick rfl rfl rfl rfl ?_
          refine ws_nil ?_
          refine wr_end F (by kernel_rfl) ?_
          refine wc_condT rfl ?_
          refine wc_seq ?_
          refine wc_text ?_
          refine w_assign rfl rfl ?_
          refine ws_nil ?_
          refine wc_ret ?_
          refine ⟨_, (.cons (.tmp rfl) .nil), ?_, rfl⟩
          rw [right_bad hs hx (by first | exact bad1 _ (by omega) | exact bad2 _ (by omega) | exact bad3 _ (by omega) | exact bad4 (by omega) hy (by omega))]; rfl
        · first | replace g22 := of_decide_eq_true g22 | replace g22 := of_decide_eq_false g22 | replace g22 := of_decide_eq_false (nb_T g22) | replace g22 := of_decide_eq_true (nb_F g22) | replace g22 := nb_T g22 | replace g22 := nb_F g22 | skip
          first | replace g22 := Int.not_lt.mp g22 | replace g22 := Int.not_le.mp g22 | replace g22 := Decidable.not_not.mp g22 | skip
          refine wr_float F 11 rfl (by kernel_rfl) (.inl (by kernel_rfl)) ?_
          refine ws_on rfl rfl ?_ (hn := rfl)
          first | refine w_faddrC O26_1 rfl rfl ?_ | refine w_faddrP O26_1 rfl rfl ?_
          refine ws_nil ?_
          refine wr_next F (l := [12]) (by kernel_rfl) (by simp) (.cons rfl ?_ (.nil))
          refine ws_on rfl rfl ?_ (hn := rfl)
          first | refine w_ldC1 a3 rfl rfl (by first | exact tab_getL (by omega) | exact tab_getP (by omega) | exact flat_getI0 (by intro _; rfl) (by assumption) (by first | rfl | omega) (by decide) rfl | exact flat_getI (by intro _; rfl) (by assumption) (by first | rfl | omega) (by decide) rfl | rfl) ?_ | refine w_ldP1 a3 rfl rfl (by first | exact .head | exact .tail .head | exact .tail (.tail .head) | exact .tail (.tail (.tail .head)) | exact .tail (.tail (.tail (.tail .head)))) (by first | exact tab_getP (by omega) | exact flat_getP0 (by intro _; rfl) (by assumption) (by first | rfl | omega) (by decide) rfl | exact flat_getP (by intro _; rfl) (by assumption) (by first | rfl | omega) (by decide) rfl | rfl) ?_
          refine ws_nil ?_
          refine wr_float F 13 rfl (by kernel_rfl) (.inl (by kernel_rfl)) ?_
          refine ws_on rfl rfl ?_ (hn := rfl)
          refine w_geq u3 rfl rfl rfl ?_
          refine ws_nil ?_
          refine wr_float F 14 rfl (by kernel_rfl) (.inl (by kernel_rfl)) ?_
          first | refine w_pickT rfl rfl rfl ⟨_, rfl⟩ ?_ | refine w_pickF rfl rfl ⟨_, rfl⟩ rfl ?_ | refine w_pick rfl rfl rfl rfl ?_
          refine ws_nil ?_
          refine wr_float F 15 rfl (by kernel_rfl) (.inl (by kernel_rfl)) ?_
          refine w_move rfl rfl ?_
          refine ws_nil ?_
          refine wr_split (t := 27) rfl (fun g27 => ?_) (fun g27 => ?_)
          · first | replace g27 := of_decide_eq_true g27 | replace g27 := of_decide_eq_false g27 | replace g27 := of_decide_eq_false (nb_T g27) | replace g27 := of_decide_eq_true (nb_F g27) | replace g27 := nb_T g27 | replace g27 := nb_F g27 | skip
            first | replace g27 := Int.not_lt.mp g27 | replace g27 := Int.not_le.mp g27 | replace g27 := Decidable.not_not.mp g27 | skip
            refine wr_float F 16 rfl (by kernel_rfl) (.inr (off_of rfl rfl rfl rfl)) ?_
            refine ws_off rfl rfl rfl rfl ?_
            refine ws_nil ?_
            refine wr_float F 17 rfl (by kernel_rfl) (.inr (off_of rfl rfl rfl rfl)) ?_
            refine ws_off rfl rfl rfl rfl ?_
            refine ws_nil ?_
            refine wr_float F 18 rfl (by kernel_rfl) (.inr (off_of rfl rfl rfl rfl)) ?_
            refine ws_off rfl rfl rfl rfl ?_
            refine ws_nil ?_
            refine wr_float F 19 rfl (by kernel_rfl) (.inr (off_undef rfl rfl rfl)) ?_
            refine ws_offU rfl rfl rfl ?_
            refine ws_nil ?_
            refine wr_float F 20 rfl (by kernel_rfl) (.inr (off_undef rfl rfl rfl)) ?_
            refine ws_offU rfl rfl rfl ?_
            refine ws_nil ?_
            refine wr_float F 21 rfl (by kernel_rfl) (.inr (off_undef rfl rfl rfl)) ?_
            refine ws_offU rfl rfl rfl ?_
            refine ws_nil ?_
            refine wr_float F 22 rfl (by kernel_rfl) (.inr (off_undef rfl rfl rfl)) ?_
            refine ws_offU rfl rfl rfl ?_
            refine ws_nil ?_
            refine wr_float F 23 rfl (by kernel_rfl) (.inr (off_undef rfl rfl rfl)) ?_
            refine ws_offU rfl rfl rfl ?_
            refine ws_nil ?_
            refine wr_float F 24 rfl (by kernel_rfl) (.inr (off_undef rfl rfl rfl)) ?_
            refine ws_offU rfl rfl rfl ?_
            refine ws_nil ?_
            refine wr_float F 25 rfl (by kernel_rfl) (.inr (off_undef rfl rfl rfl)) ?_
            refine ws_offU rfl rfl rfl ?_
            refine ws_nil ?_
            refine wr_float F 26 rfl (by kernel_rfl) (.inr (off_undef rfl rfl rfl)) ?_
            refine ws_offU rfl rfl rfl ?_
            refine ws_nil ?_
            refine wr_float F 27 rfl (by kernel_rfl) (.inr (off_undef rfl rfl rfl)) ?_
            refine ws_offU rfl rfl rfl ?_
            refine ws_nil ?_
            refine wr_float F 28 rfl (by kernel_rfl) (.inr (off_undef rfl rfl rfl)) ?_
            refine ws_offU rfl rfl rfl ?_
            refine ws_nil ?_
            refine wr_float F 29 rfl (by kernel_rfl) (.inr (off_of rfl rfl rfl rfl)) ?_
            refine ws_off rfl rfl rfl rfl ?_
            refine ws_nil ?_
            refine wr_float F 30 rfl (by kernel_rfl) (.inl (by kernel_rfl)) ?_
            first | refine w_pickT rfl rfl rfl ⟨_, rfl⟩ ?_ | refine w_pickF rfl rfl ⟨_, rfl⟩ rfl ?_ | refine w_pick rfl rfl rfl rfl ?_
            refine ws_nil ?_
            refine wr_end F (by kernel_rfl) ?_
            refine wc_condT rfl ?_
            refine wc_seq ?_
            refine wc_text ?_
            refine w_assign rfl rfl ?_
            refine ws_nil ?_
            refine wc_ret ?_
            refine ⟨_, (.cons (.tmp rfl) .nil), ?_, rfl⟩
            rw [right_bad hs hx (by first | exact bad1 _ (by omega) | exact bad2 _ (by omega) | exact bad3 _ (by omega) | exact bad4 (by omega) hy (by omega))]; rfl
          · first | replace g27 := of_decide_eq_true g27 | replace g27 := of_decide_eq_false g27 | replace g27 := of_decide_eq_false (nb_T g27) | replace g27 := of_decide_eq_true (nb_F g27) | replace g27 := nb_T g27 | replace g27 := nb_F g27 | skip
            first | replace g27 := Int.not_lt.mp g27 | replace g27 := Int.not_le.mp g27 | replace g27 := Decidable.not_not.mp g27 | skip
            refine wr_float F 16 rfl (by kernel_rfl) (.inl (by kernel_rfl)) ?_
            refine ws_on rfl rfl ?_ (hn := rfl)
            refine w_move rfl rfl ?_
            refine ws_nil ?_
            refine wr_float F 17 rfl (by kernel_rfl) (.inl (by kernel_rfl)) ?_
            refine ws_on rfl rfl ?_ (hn := rfl)
            refine w_gtr u3 rfl rfl rfl ?_
            refine ws_nil ?_
            refine wr_float F 18 rfl (by kernel_rfl) (.inl (by kernel_rfl)) ?_
            refine ws_on rfl rfl ?_ (hn := rfl)
            refine w_move rfl rfl ?_
            refine ws_nil ?_
            refine wr_split (t := 30) rfl (fun g30 => ?_) (fun g30 => ?_)
            · first | replace g30 := of_decide_eq_true g30 | replace g30 := of_decide_eq_false g30 | replace g30 := of_decide_eq_false (nb_T g30) | replace g30 := of_decide_eq_true (nb_F g30) | replace g30 := nb_T g30 | replace g30 := nb_F g30 | skip
              first | replace g30 := Int.not_lt.mp g30 | replace g30 := Int.not_le.mp g30 | replace g30 := Decidable.not_not.mp g30 | skip
              obtain ⟨y, hy⟩ := get_of_lt (l := l) (k := k - 1) (by omega)
              have hyb := hs.2.2 y (List.mem_of_getElem? (by rw [List.getElem?_take_of_lt (show k - 1 < k by omega)]; exact hy))
              refine wr_float F 19 rfl (by kernel_rfl) (.inl (by kernel_rfl)) ?_
              refine ws_on rfl rfl ?_ (hn := rfl)
              first | refine w_faddrC O26_0 rfl rfl ?_ | refine w_faddrP O26_0 rfl rfl ?_
              refine ws_nil ?_
              refine wr_float F 21 rfl (by kernel_rfl) (.inl (by kernel_rfl)) ?_
              refine ws_on rfl rfl ?_ (hn := rfl)
              refine w_move rfl rfl ?_
              refine ws_nil ?_
              refine wr_float F 22 rfl (by kernel_rfl) (.inl (by kernel_rfl)) ?_
              refine ws_on rfl rfl ?_ (hn := rfl)
              refine w_move rfl rfl ?_
              refine ws_nil ?_
              refine wr_float F 23 rfl (by kernel_rfl) (.inl (by kernel_rfl)) ?_
              refine ws_on rfl rfl ?_ (hn := rfl)
              refine w_sub u3 rfl rfl rfl (by omega) ?_
              refine ws_nil ?_
              refine wr_float F 24 rfl (by kernel_rfl) (.inl (by kernel_rfl)) ?_
              refine ws_on rfl rfl ?_ (hn := rfl)
              first | refine w_lidx u22 s26 rfl rfl rfl (by omega) ?_ | refine w_slidx u22 s26 rfl rfl rfl (by omega) ?_
              refine ws_nil ?_
              refine wr_float F 25 rfl (by kernel_rfl) (.inl (by kernel_rfl)) ?_
              refine ws_on rfl rfl ?_ (hn := rfl)
              first | refine w_faddrC O26_1 rfl rfl ?_ | refine w_faddrP O26_1 rfl rfl ?_
              refine ws_nil ?_
              refine wr_pure F 26 rfl (by kernel_rfl) rfl rfl (pf_ldC1 a3 rfl (by first | exact tab_getL (by omega) | exact tab_getP (by omega) | exact flat_getI0 (by intro _; rfl) (by assumption) (by first | rfl | omega) (by decide) rfl | exact flat_getI (by intro _; rfl) (by assumption) (by first | rfl | omega) (by decide) rfl | rfl)) (.inr ⟨_, _, _, rfl, rfl, rfl⟩) ?_
              refine wr_float F 27 rfl (by kernel_rfl) (.inl (by kernel_rfl)) ?_
              refine ws_on rfl rfl ?_ (hn := rfl)
              refine w_add u3 rfl rfl rfl (by omega) ?_
              refine ws_nil ?_
              refine wr_next F (l := [20]) (by kernel_rfl) (by simp) (.cons rfl ?_ (.nil))
              refine ws_on rfl rfl ?_ (hn := rfl)
              first | refine w_ldC1 a3 rfl rfl (by first | exact tab_getL (by omega) | exact tab_getP (by omega) | exact flat_getI0 (by intro _; rfl) (by assumption) (by first | rfl | omega) (by decide) rfl | exact flat_getI (by intro _; rfl) (by assumption) (by first | rfl | omega) (by decide) rfl | rfl) ?_ | refine w_ldP1 a3 rfl rfl (by first | exact .head | exact .tail .head | exact .tail (.tail .head) | exact .tail (.tail (.tail .head)) | exact .tail (.tail (.tail (.tail .head)))) (by first | exact tab_getP (by omega) | exact flat_getP0 (by intro _; rfl) (by assumption) (by first | rfl | omega) (by decide) rfl | exact flat_getP (by intro _; rfl) (by assumption) (by first | rfl | omega) (by decide) rfl | rfl) ?_
              refine ws_nil ?_
              refine wr_float F 28 rfl (by kernel_rfl) (.inl (by kernel_rfl)) ?_
              refine ws_on rfl rfl ?_ (hn := rfl)
              refine w_lss u3 rfl rfl rfl ?_
              refine ws_nil ?_
              refine wr_float F 29 rfl (by kernel_rfl) (.inl (by kernel_rfl)) ?_
              refine ws_on rfl rfl ?_ (hn := rfl)
              first | refine w_pickT rfl rfl rfl ⟨_, rfl⟩ ?_ | refine w_pickF rfl rfl ⟨_, rfl⟩ rfl ?_ | refine w_pick rfl rfl rfl rfl ?_
              refine ws_nil ?_
              refine wr_float F 30 rfl (by kernel_rfl) (.inl (by kernel_rfl)) ?_
              first | refine w_pickT rfl rfl rfl ⟨_, rfl⟩ ?_ | refine w_pickF rfl rfl ⟨_, rfl⟩ rfl ?_ | refine w_pick rfl rfl rfl rfl ?_
              refine ws_nil ?_
              refine wr_end F (by kernel_rfl) ?_
              refine wc_cond rfl (fun h4 => ?_) (fun h4 => ?_)
              · first | replace h4 := of_decide_eq_true h4 | replace h4 := of_decide_eq_false h4 | replace h4 := of_decide_eq_false (nb_T h4) | replace h4 := of_decide_eq_true (nb_F h4) | replace h4 := nb_T h4 | replace h4 := nb_F h4 | skip
                first | replace h4 := Int.not_lt.mp h4 | replace h4 := Int.not_le.mp h4 | replace h4 := Decidable.not_not.mp h4 | skip
                refine wc_seq ?_
                refine wc_text ?_
                refine w_assign rfl rfl ?_
                refine ws_nil ?_
                refine wc_ret ?_
                refine ⟨_, (.cons (.tmp rfl) .nil), ?_, rfl⟩
                rw [right_bad hs hx (by first | exact bad1 _ (by omega) | exact bad2 _ (by omega) | exact bad3 _ (by omega) | exact bad4 (by omega) hy (by omega))]; rfl
              · first | replace h4 := of_decide_eq_true h4 | replace h4 := of_decide_eq_false h4 | replace h4 := of_decide_eq_false (nb_T h4) | replace h4 := of_decide_eq_true (nb_F h4) | replace h4 := nb_T h4 | replace h4 := nb_F h4 | skip
                first | replace h4 := Int.not_lt.mp h4 | replace h4 := Int.not_le.mp h4 | replace h4 := Decidable.not_not.mp h4 | skip
                refine wc_stay ?_
                refine wc_text ?_
                refine w_add u3 rfl rfl rfl (by omega) ?_
                refine w_move rfl rfl ?_
                refine ws_nil ?_
                exact ⟨⟨k + 1, right_next hs hx (by omega) (by omega) (by omega) (by first | exact .inl (by omega) | exact .inr ⟨by omega, y, hy, by omega⟩)⟩, by simp only; omega, (.cons rfl (.cons rfl (.cons rfl (.cons rfl (.nil _))))), (Sel.weak .nil)⟩
            · first | replace g30 := of_decide_eq_true g30 | replace g30 := of_decide_eq_false g30 | replace g30 := of_decide_eq_false (nb_T g30) | replace g30 := of_decide_eq_true (nb_F g30) | replace g30 := nb_T g30 | replace g30 := nb_F g30 | skip
              first | replace g30 := Int.not_lt.mp g30 | replace g30 := Int.not_le.mp g30 | replace g30 := Decidable.not_not.mp g30 | skip
              refine wr_float F 19 rfl (by kernel_rfl) (.inr (off_of rfl rfl rfl rfl)) ?_
              refine ws_off rfl rfl rfl rfl ?_
              refine ws_nil ?_
              refine wr_float F 20 rfl (by kernel_rfl) (.inr (off_of rfl rfl rfl rfl)) ?_
              refine ws_off rfl rfl rfl rfl ?_
              refine ws_nil ?_
              refine wr_float F 21 rfl (by kernel_rfl) (.inr (off_of rfl rfl rfl rfl)) ?_
              refine ws_off rfl rfl rfl rfl ?_
              refine ws_nil ?_
              refine wr_float F 22 rfl (by kernel_rfl) (.inr (off_of rfl rfl rfl rfl)) ?_
              refine ws_off rfl rfl rfl rfl ?_
              refine ws_nil ?_
              refine wr_float F 23 rfl (by kernel_rfl) (.inr (off_of rfl rfl rfl rfl)) ?_
              refine ws_off rfl rfl rfl rfl ?_
              refine ws_nil ?_
              refine wr_float F 24 rfl (by kernel_rfl) (.inr (off_of rfl rfl rfl rfl)) ?_
              refine ws_off rfl rfl rfl rfl ?_
              refine ws_nil ?_
              refine wr_float F 25 rfl (by kernel_rfl) (.inr (off_of rfl rfl rfl rfl)) ?_
              refine ws_off rfl rfl rfl rfl ?_
              refine ws_nil ?_
              refine wr_float F 26 rfl (by kernel_rfl) (.inr (off_of rfl rfl rfl rfl)) ?_
              refine ws_off rfl rfl rfl rfl ?_
              refine ws_nil ?_
              refine wr_float F 27 rfl (by kernel_rfl) (.inr (off_of rfl rfl rfl rfl)) ?_
              refine ws_off rfl rfl rfl rfl ?_
              refine ws_nil ?_
              refine wr_float F 28 rfl (by kernel_rfl) (.inr (off_of rfl rfl rfl rfl)) ?_
              refine ws_off rfl rfl rfl rfl ?_
              refine ws_nil ?_
              refine wr_float F 29 rfl (by kernel_rfl) (.inl (by kernel_rfl)) ?_
              refine ws_on rfl rfl ?_ (hn := rfl)
              first | refine w_pickT rfl rfl rfl ⟨_, rfl⟩ ?_ | refine w_pickF rfl rfl ⟨_, rfl⟩ rfl ?_ | refine w_pick rfl rfl rfl rfl ?_
              refine ws_nil ?_
              refine wr_float F 30 rfl (by kernel_rfl) (.inl (by kernel_rfl)) ?_
              first | refine w_pickT rfl rfl rfl ⟨_, rfl⟩ ?_ | refine w_pickF rfl rfl ⟨_, rfl⟩ rfl ?_ | refine w_pick rfl rfl rfl rfl ?_
              refine ws_nil ?_
              refine wr_end F (by kernel_rfl) ?_
              refine wc_condF rfl ?_
              refine wc_stay ?_
              refine wc_text ?_
              refine w_add u3 rfl rfl rfl (by omega) ?_
              refine w_move rfl rfl ?_
              refine ws_nil ?_
              exact ⟨⟨k + 1, right_next hs hx (by omega) (by omega) (by omega) (by first | exact .inl (by omega) | exact .inr ⟨by omega, y, hy, by omega⟩)⟩, by simp only; omega, (.cons rfl (.cons rfl (.cons rfl (.cons rfl (.nil _))))), (Sel.weak .nil)⟩
      · skip
        refine ws_on rfl rfl ?_ (hn := rfl)
        first | refine w_ldC1 a3 rfl rfl (by first | exact tab_getL (by omega) | exact tab_getP (by omega) | exact flat_getI0 (by intro _; rfl) (by assumption) (by first | rfl | omega) (by decide) rfl | exact flat_getI (by intro _; rfl) (by assumption) (by first | rfl | omega) (by decide) rfl | rfl) ?_ | refine w_ldP1 a3 rfl rfl (by first | exact .head | exact .tail .head | exact .tail (.tail .head) | exact .tail (.tail (.tail .head)) | exact .tail (.tail (.tail (.tail .head)))) (by first | exact tab_getP (by omega) | exact flat_getP0 (by intro _; rfl) (by assumption) (by first | rfl | omega) (by decide) rfl | exact flat_getP (by intro _; rfl) (by assumption) (by first | rfl | omega) (by decide) rfl | rfl) ?_
        refine ws_nil ?_
        refine wr_next F (l := [5]) (by kernel_rfl) (by simp) (.cons rfl ?_ (.nil))
        refine ws_on rfl rfl ?_ (hn := rfl)
        first | refine w_ldC1 a3 rfl rfl (by first | exact tab_getL (by omega) | exact tab_getP (by omega) | exact flat_getI0 (by intro _; rfl) (by assumption) (by first | rfl | omega) (by decide) rfl | exact flat_getI (by intro _; rfl) (by assumption) (by first | rfl | omega) (by decide) rfl | rfl) ?_ | refine w_ldP1 a3 rfl rfl (by first | exact .head | exact .tail .head | exact .tail (.tail .head) | exact .tail (.tail (.tail .head)) | exact .tail (.tail (.tail (.tail .head)))) (by first | exact tab_getP (by omega) | exact flat_getP0 (by intro _; rfl) (by assumption) (by first | rfl | omega) (by decide) rfl | exact flat_getP (by intro _; rfl) (by assumption) (by first | rfl | omega) (by decide) rfl | rfl) ?_
        refine ws_nil ?_
        refine wr_float F 8 rfl (by kernel_rfl) (.inl (by kernel_rfl)) ?_
        refine ws_on rfl rfl ?_ (hn := rfl)
        refine w_lss u3 rfl rfl rfl ?_
        refine ws_nil ?_
        refine wr_float F 9 rfl (by kernel_rfl) (.inl (by kernel_rfl)) ?_
        first | refine w_pickT rfl rfl rfl ⟨_, rfl⟩ ?_ | refine w_pickF rfl rfl ⟨_, rfl⟩ rfl ?_ | refine w_pick rfl rfl rfl rfl ?_
        refine ws_nil ?_
        refine wr_float F 10 rfl (by kernel_rfl) (.inl (by kernel_rfl)) ?_
        refine w_move rfl rfl ?_
        refine ws_nil ?_
        refine wr_split (t := 22) rfl (fun g22 => ?_) (fun g22 => ?_)
        · first | replace g22 := of_decide_eq_true g22 | replace g22 := of_decide_eq_false g22 | replace g22 := of_decide_eq_false (nb_T g22) | replace g22 := of_decide_eq_true (nb_F g22) | replace g22 := nb_T g22 | replace g22 := nb_F g22 | skip
          first | replace g22 := Int.not_lt.mp g22 | replace g22 := Int.not_le.mp g22 | replace g22 := Decidable.not_not.mp g22 | skip
          refine wr_float F 11 rfl (by kernel_rfl) (.inr (off_of rfl rfl rfl rfl)) ?_
          refine ws_off rfl rfl rfl rfl ?_
          refine ws_nil ?_
          refine wr_float F 12 rfl (by kernel_rfl) (.inr (off_of rfl rfl rfl rfl)) ?_
          refine ws_off rfl rfl rfl rfl ?_
          refine ws_nil ?_
          refine wr_float F 13 rfl (by kernel_rfl) (.inr (off_of rfl rfl rfl rfl)) ?_
          refine ws_off rfl rfl rfl rfl ?_
          refine ws_nil ?_
          refine wr_float F 14 rfl (by kernel_rfl) (.inl (by kernel_rfl)) ?_
          first | refine w_pickT rfl rfl rfl ⟨_, rfl⟩ ?_ | refine w_pickF rfl rfl ⟨_, rfl⟩ rfl ?_ | refine w_pick rfl rfl rfl rfl ?_
          refine ws_nil ?_
          refine wr_float F 15 rfl (by kernel_rfl) (.inl (by kernel_rfl)) ?_
          refine w_move rfl rfl ?_
          refine ws_nil ?_
          refine wr_float F 16 rfl (by kernel_rfl) (.inr (off_of rfl rfl rfl rfl)) ?_
          refine ws_off rfl rfl rfl rfl ?_
          refine ws_nil ?_
          refine wr_float F 17 rfl (by kernel_rfl) (.inr (off_of rfl rfl rfl rfl)) ?_
          refine ws_off rfl rfl rfl rfl ?_
          refine ws_nil ?_
          refine wr_float F 18 rfl (by kernel_rfl) (.inr (off_of rfl rfl rfl rfl)) ?_
          refine ws_off rfl rfl rfl rfl ?_
          refine ws_nil ?_
          refine wr_float F 19 rfl (by kernel_rfl) (.inr (off_undef rfl rfl rfl)) ?_
          refine ws_offU rfl rfl rfl ?_
          refine ws_nil ?_
          refine wr_float F 20 rfl (by kernel_rfl) (.inr (off_undef rfl rfl rfl)) ?_
          refine ws_offU rfl rfl rfl ?_
          refine ws_nil ?_
          refine wr_float F 21 rfl (by kernel_rfl) (.inr (off_undef rfl rfl rfl)) ?_
          refine ws_offU rfl rfl rfl ?_
          refine ws_nil ?_
          refine wr_float F 22 rfl (by kernel_rfl) (.inr (off_undef rfl rfl rfl)) ?_
          refine ws_offU rfl rfl rfl ?_
          refine ws_nil ?_
          refine wr_float F 23 rfl (by kernel_rfl) (.inr (off_undef rfl rfl rfl)) ?_
          refine ws_offU rfl rfl rfl ?_
          refine ws_nil ?_
          refine wr_float F 24 rfl (by kernel_rfl) (.inr (off_undef rfl rfl rfl)) ?_
          refine ws_offU rfl rfl rfl ?_
          refine ws_nil ?_
          refine wr_float F 25 rfl (by kernel_rfl) (.inr (off_undef rfl rfl rfl)) ?_
          refine ws_offU rfl rfl rfl ?_
          refine ws_nil ?_
          refine wr_float F 26 rfl (by kernel_rfl) (.inr (off_undef rfl rfl rfl)) ?_
          refine ws_offU rfl rfl rfl ?_
          refine ws_nil ?_
          refine wr_float F 27 rfl (by kernel_rfl) (.inr (off_undef rfl rfl rfl)) ?_
          refine ws_offU rfl rfl rfl ?_
          refine ws_nil ?_
          refine wr_float F 28 rfl (by kernel_rfl) (.inr (off_undef rfl rfl rfl)) ?_
          refine ws_offU rfl rfl rfl ?_
          refine ws_nil ?_
          refine wr_float F 29 rfl (by kernel_rfl) (.inr (off_of rfl rfl rfl rfl)) ?_
          refine ws_off rfl rfl rfl rfl ?_
          refine ws_nil ?_
          refine wr_float F 30 rfl (by kernel_rfl) (.inl (by kernel_rfl)) ?_
          first | refine w_pickT rfl rfl rfl ⟨_, rfl⟩ ?_ | refine w_pickF rfl rfl ⟨_, rfl⟩ rfl ?_ | refine w_pick rfl rfl rfl rfl ?_
          refine ws_nil ?_
          refine wr_end F (by kernel_rfl) ?_
          refine wc_condT rfl ?_
          refine wc_seq ?_
          refine wc_text ?_
          refine w_assign rfl rfl ?_
          refine ws_nil ?_
          refine wc_ret ?_
          refine ⟨_, (.cons (.tmp rfl) .nil), ?_, rfl⟩
          rw [right_bad hs hx (by first | exact bad1 _ (by omega) | exact bad2 _ (by omega) | exact bad3 _ (by omega) | exact bad4 (by omega) hy (by omega))]; rfl
        · first | replace g22 := of_decide_eq_true g22 | replace g22 := of_decide_eq_false g22 | replace g22 := of_decide_eq_false (nb_T g22) | replace g22 := of_decide_eq_true (nb_F g22) | replace g22 := nb_T g22 | replace g22 := nb_F g22 | skip
          first | replace g22 := Int.not_lt.mp g22 | replace g22 := Int.not_le.mp g22 | replace g22 := Decidable.not_not.mp g22 | skip
          refine wr_float F 11 rfl (by kernel_rfl) (.inl (by kernel_rfl)) ?_
          refine ws_on rfl rfl ?_ (hn := rfl)
          first | refine w_faddrC O26_1 rfl rfl ?_ | refine w_faddrP O26_1 rfl rfl ?_
          refine ws_nil ?_
          refine wr_next F (l := [12]) (by kernel_rfl) (by simp) (.cons rfl ?_ (.nil))
          refine ws_on rfl rfl ?_ (hn := rfl)
          first | refine w_ldC1 a3 rfl rfl (by first | exact tab_getL (by omega) | exact tab_getP (by omega) | exact flat_getI0 (by intro _; rfl) (by assumption) (by first | rfl | omega) (by decide) rfl | exact flat_getI (by intro _; rfl) (by assumption) (by first | rfl | omega) (by decide) rfl | rfl) ?_ | refine w_ldP1 a3 rfl rfl (by first | exact .head | exact .tail .head | exact .tail (.tail .head) | exact .tail (.tail (.tail .head)) | exact .tail (.tail (.tail (.tail .head)))) (by first | exact tab_getP (by omega) | exact flat_getP0 (by intro _; rfl) (by assumption) (by first | rfl | omega) (by decide) rfl | exact flat_getP (by intro _; rfl) (by assumption) (by first | rfl | omega) (by decide) rfl | rfl) ?_
          refine ws_nil ?_
          refine wr_float F 13 rfl (by kernel_rfl) (.inl (by kernel_rfl)) ?_
          refine ws_on rfl rfl ?_ (hn := rfl)
          refine w_geq u3 rfl rfl rfl ?_
          refine ws_nil ?_
          refine wr_float F 14 rfl (by kernel_rfl) (.inl (by kernel_rfl)) ?_
          first | refine w_pickT rfl rfl rfl ⟨_, rfl⟩ ?_ | refine w_pickF rfl rfl ⟨_, rfl⟩ rfl ?_ | refine w_pick rfl rfl rfl rfl ?_
          refine ws_nil ?_
          refine wr_float F 15 rfl (by kernel_rfl) (.inl (by kernel_rfl)) ?_
          refine w_move rfl rfl ?_
          refine ws_nil ?_
          refine wr_split (t := 27) rfl (fun g27 => ?_) (fun g27 => ?_)
          · first | replace g27 := of_decide_eq_true g27 | replace g27 := of_decide_eq_false g27 | replace g27 := of_decide_eq_false (nb_T g27) | replace g27 := of_decide_eq_true (nb_F g27) | replace g27 := nb_T g27 | replace g27 := nb_F g27 | skip
            first | replace g27 := Int.not_lt.mp g27 | replace g27 := Int.not_le.mp g27 | replace g27 := Decidable.not_not.mp g27 | skip
            refine wr_float F 16 rfl (by kernel_rfl) (.inr (off_of rfl rfl rfl rfl)) ?_
            refine ws_off rfl rfl rfl rfl ?_
            refine ws_nil ?_
            refine wr_float F 17 rfl (by kernel_rfl) (.inr (off_of rfl rfl rfl rfl)) ?_
            refine ws_off rfl rfl rfl rfl ?_
            refine ws_nil ?_
            refine wr_float F 18 rfl (by kernel_rfl) (.inr (off_of rfl rfl rfl rfl)) ?_
            refine ws_off rfl rfl rfl rfl ?_
            refine ws_nil ?_
            refine wr_float F 19 rfl (by kernel_rfl) (.inr (off_undef rfl rfl rfl)) ?_
            refine ws_offU rfl rfl rfl ?_
            refine ws_nil ?_
            refine wr_float F 20 rfl (by kernel_rfl) (.inr (off_undef rfl rfl rfl)) ?_
            refine ws_offU rfl rfl rfl ?_
            refine ws_nil ?_
            refine wr_float F 21 rfl (by kernel_rfl) (.inr (off_undef rfl rfl rfl)) ?_
            refine ws_offU rfl rfl rfl ?_
            refine ws_nil ?_
            refine wr_float F 22 rfl (by kernel_rfl) (.inr (off_undef rfl rfl rfl)) ?_
            refine ws_offU rfl rfl rfl ?_
            refine ws_nil ?_
            refine wr_float F 23 rfl (by kernel_rfl) (.inr (off_undef rfl rfl rfl)) ?_
            refine ws_offU rfl rfl rfl ?_
            refine ws_nil ?_
            refine wr_float F 24 rfl (by kernel_rfl) (.inr (off_undef rfl rfl rfl)) ?_
            refine ws_offU rfl rfl rfl ?_
            refine ws_nil ?_
            refine wr_float F 25 rfl (by kernel_rfl) (.inr (off_undef rfl rfl rfl)) ?_
            refine ws_offU rfl rfl rfl ?_
            refine ws_nil ?_
            refine wr_float F 26 rfl (by kernel_rfl) (.inr (off_undef rfl rfl rfl)) ?_
            refine ws_offU rfl rfl rfl ?_
            refine ws_nil ?_
            refine wr_float F 27 rfl (by kernel_rfl) (.inr (off_undef rfl rfl rfl)) ?_
            refine ws_offU rfl rfl rfl ?_
            refine ws_nil ?_
            refine wr_float F 28 rfl (by kernel_rfl) (.inr (off_undef rfl rfl rfl)) ?_
            refine ws_offU rfl rfl rfl ?_
            refine ws_nil ?_
            refine wr_float F 29 rfl (by kernel_rfl) (.inr (off_of rfl rfl rfl rfl)) ?_
            refine ws_off rfl rfl rfl rfl ?_
            refine ws_nil ?_
            refine wr_float F 30 rfl (by kernel_rfl) (.inl (by kernel_rfl)) ?_
            first | refine w_pickT rfl rfl rfl ⟨_, rfl⟩ ?_ | refine w_pickF rfl rfl ⟨_, rfl⟩ rfl ?_ | refine w_pick rfl rfl rfl rfl ?_
            refine ws_nil ?_
            refine wr_end F (by kernel_rfl) ?_
            refine wc_condT rfl ?_
            refine wc_seq ?_
            refine wc_text ?_
            refine w_assign rfl rfl ?_
            refine ws_nil ?_
            refine wc_ret ?_
            refine ⟨_, (.cons (.tmp rfl) .nil), ?_, rfl⟩
            rw [right_bad hs hx (by first | exact bad1 _ (by omega) | exact bad2 _ (by omega) | exact bad3 _ (by omega) | exact bad4 (by omega) hy (by omega))]; rfl
          · first | replace g27 := of_decide_eq_true g27 | replace g27 := of_decide_eq_false g27 | replace g27 := of_decide_eq_false (nb_T g27) | replace g27 := of_decide_eq_true (nb_F g27) | replace g27 := nb_T g27 | replace g27 := nb_F g27 | skip
            first | replace g27 := Int.not_lt.mp g27 | replace g27 := Int.not_le.mp g27 | replace g27 := Decidable.not_not.mp g27 | skip
            refine wr_float F 16 rfl (by kernel_rfl) (.inl (by kernel_rfl)) ?_
            refine ws_on rfl rfl ?_ (hn := rfl)
            refine w_move rfl rfl ?_
            refine ws_nil ?_
            refine wr_float F 17 rfl (by kernel_rfl) (.inl (by kernel_rfl)) ?_
            refine ws_on rfl rfl ?_ (hn := rfl)
            refine w_gtr u3 rfl rfl rfl ?_
            refine ws_nil ?_
            refine wr_float F 18 rfl (by kernel_rfl) (.inl (by kernel_rfl)) ?_
            refine ws_on rfl rfl ?_ (hn := rfl)
            refine w_move rfl rfl ?_
            refine ws_nil ?_
            refine wr_split (t := 30) rfl (fun g30 => ?_) (fun g30 => ?_)
            · first | replace g30 := of_decide_eq_true g30 | replace g30 := of_decide_eq_false g30 | replace g30 := of_decide_eq_false (nb_T g30) | replace g30 := of_decide_eq_true (nb_F g30) | replace g30 := nb_T g30 | replace g30 := nb_F g30 | skip
              first | replace g30 := Int.not_lt.mp g30 | replace g30 := Int.not_le.mp g30 | replace g30 := Decidable.not_not.mp g30 | skip
              obtain ⟨y, hy⟩ := get_of_lt (l := l) (k := k - 1) (by omega)
              have hyb := hs.2.2 y (List.mem_of_getElem? (by rw [List.getElem?_take_of_lt (show k - 1 < k by omega)]; exact hy))
              refine wr_float F 19 rfl (by kernel_rfl) (.inl (by kernel_rfl)) ?_
              refine ws_on rfl rfl ?_ (hn := rfl)
              first | refine w_faddrC O26_0 rfl rfl ?_ | refine w_faddrP O26_0 rfl rfl ?_
              refine ws_nil ?_
              refine wr_float F 21 rfl (by kernel_rfl) (.inl (by kernel_rfl)) ?_
              refine ws_on rfl rfl ?_ (hn := rfl)
              refine w_move rfl rfl ?_
              refine ws_nil ?_
              refine wr_float F 22 rfl (by kernel_rfl) (.inl (by kernel_rfl)) ?_
              refine ws_on rfl rfl ?_ (hn := rfl)
              refine w_move rfl rfl ?_
              refine ws_nil ?_
              refine wr_float F 23 rfl (by kernel_rfl) (.inl (by kernel_rfl)) ?_
              refine ws_on rfl rfl ?_ (hn := rfl)
              refine w_sub u3 rfl rfl rfl (by omega) ?_
              refine ws_nil ?_
              refine wr_float F 24 rfl (by kernel_rfl) (.inl (by kernel_rfl)) ?_
              refine ws_on rfl rfl ?_ (hn := rfl)
              first | refine w_lidx u22 s26 rfl rfl rfl (by omega) ?_ | refine w_slidx u22 s26 rfl rfl rfl (by omega) ?_
              refine ws_nil ?_
              refine wr_float F 25 rfl (by kernel_rfl) (.inl (by kernel_rfl)) ?_
              refine ws_on rfl rfl ?_ (hn := rfl)
              first | refine w_faddrC O26_1 rfl rfl ?_ | refine w_faddrP O26_1 rfl rfl ?_
              refine ws_nil ?_
              refine wr_pure F 26 rfl (by kernel_rfl) rfl rfl (pf_ldC1 a3 rfl (by first | exact tab_getL (by omega) | exact tab_getP (by omega) | exact flat_getI0 (by intro _; rfl) (by assumption) (by first | rfl | omega) (by decide) rfl | exact flat_getI (by intro _; rfl) (by assumption) (by first | rfl | omega) (by decide) rfl | rfl)) (.inr ⟨_, _, _, rfl, rfl, rfl⟩) ?_
              refine wr_float F 27 rfl (by kernel_rfl) (.inl (by kernel_rfl)) ?_
              refine ws_on rfl rfl ?_ (hn := rfl)
              refine w_add u3 rfl rfl rfl (by omega) ?_
              refine ws_nil ?_
              refine wr_next F (l := [20]) (by kernel_rfl) (by simp) (.cons rfl ?_ (.nil))
              refine ws_on rfl rfl ?_ (hn := rfl)
              first | refine w_ldC1 a3 rfl rfl (by first | exact tab_getL (by omega) | exact tab_getP (by omega) | exact flat_getI0 (by intro _; rfl) (by assumption) (by first | rfl | omega) (by decide) rfl | exact flat_getI (by intro _; rfl) (by assumption) (by first | rfl | omega) (by decide) rfl | rfl) ?_ | refine w_ldP1 a3 rfl rfl (by first | exact .head | exact .tail .head | exact .tail (.tail .head) | exact .tail (.tail (.tail .head)) | exact .tail (.tail (.tail (.tail .head)))) (by first | exact tab_getP (by omega) | exact flat_getP0 (by intro _; rfl) (by assumption) (by first | rfl | omega) (by decide) rfl | exact flat_getP (by intro _; rfl) (by assumption) (by first | rfl | omega) (by decide) rfl | rfl) ?_
              refine ws_nil ?_
              refine wr_float F 28 rfl (by kernel_rfl) (.inl (by kernel_rfl)) ?_
              refine ws_on rfl rfl ?_ (hn := rfl)
              refine w_lss u3 rfl rfl rfl ?_
              refine ws_nil ?_
              refine wr_float F 29 rfl (by kernel_rfl) (.inl (by kernel_rfl)) ?_
              refine ws_on rfl rfl ?_ (hn := rfl)
              first | refine w_pickT rfl rfl rfl ⟨_, rfl⟩ ?_ | refine w_pickF rfl rfl ⟨_, rfl⟩ rfl ?_ | refine w_pick rfl rfl rfl rfl ?_
              refine ws_nil ?_
              refine wr_float F 30 rfl (by kernel_rfl) (.inl (by kernel_rfl)) ?_
              first | refine w_pickT rfl rfl rfl ⟨_, rfl⟩ ?_ | refine w_pickF rfl rfl ⟨_, rfl⟩ rfl ?_ | refine w_pick rfl rfl rfl rfl ?_
              refine ws_nil ?_
              refine wr_end F (by kernel_rfl) ?_
              refine wc_cond rfl (fun h4 => ?_) (fun h4 => ?_)
              · first | replace h4 := of_decide_eq_true h4 | replace h4 := of_decide_eq_false h4 | replace h4 := of_decide_eq_false (nb_T h4) | replace h4 := of_decide_eq_true (nb_F h4) | replace h4 := nb_T h4 | replace h4 := nb_F h4 | skip
                first | replace h4 := Int.not_lt.mp h4 | replace h4 := Int.not_le.mp h4 | replace h4 := Decidable.not_not.mp h4 | skip
                refine wc_seq ?_
                refine wc_text ?_
                refine w_assign rfl rfl ?_
                refine ws_nil ?_
                refine wc_ret ?_
                refine ⟨_, (.cons (.tmp rfl) .nil), ?_, rfl⟩
                rw [right_bad hs hx (by first | exact bad1 _ (by omega) | exact bad2 _ (by omega) | exact bad3 _ (by omega) | exact bad4 (by omega) hy (by omega))]; rfl
              · first | replace h4 := of_decide_eq_true h4 | replace h4 := of_decide_eq_false h4 | replace h4 := of_decide_eq_false (nb_T h4) | replace h4 := of_decide_eq_true (nb_F h4) | replace h4 := nb_T h4 | replace h4 := nb_F h4 | skip
                first | replace h4 := Int.not_lt.mp h4 | replace h4 := Int.not_le.mp h4 | replace h4 := Decidable.not_not.mp h4 | skip
                refine wc_stay ?_
                refine wc_text ?_
                refine w_add u3 rfl rfl rfl (by omega) ?_
                refine w_move rfl rfl ?_
                refine ws_nil ?_
                exact ⟨⟨k + 1, right_next hs hx (by omega) (by omega) (by omega) (by first | exact .inl (by omega) | exact .inr ⟨by omega, y, hy, by omega⟩)⟩, by simp only; omega, (.cons rfl (.cons rfl (.cons rfl (.cons rfl (.nil _))))), (Sel.weak .nil)⟩
            · first | replace g30 := of_decide_eq_true g30 | replace g30 := of_decide_eq_false g30 | replace g30 := of_decide_eq_false (nb_T g30) | replace g30 := of_decide_eq_true (nb_F g30) | replace g30 := nb_T g30 | replace g30 := nb_F g30 | skip
              first | replace g30 := Int.not_lt.mp g30 | replace g30 := Int.not_le.mp g30 | replace g30 := Decidable.not_not.mp g30 | skip
              refine wr_float F 19 rfl (by kernel_rfl) (.inr (off_of rfl rfl rfl rfl)) ?_
              refine ws_off rfl rfl rfl rfl ?_
              refine ws_nil ?_
              refine wr_float F 20 rfl (by kernel_rfl) (.inr (off_of rfl rfl rfl rfl)) ?_
              refine ws_off rfl rfl rfl rfl ?_
              refine ws_nil ?_
              refine wr_float F 21 rfl (by kernel_rfl) (.inr (off_of rfl rfl rfl rfl)) ?_
              refine ws_off rfl rfl rfl rfl ?_
              refine ws_nil ?_
              refine wr_float F 22 rfl (by kernel_rfl) (.inr (off_of rfl rfl rfl rfl)) ?_
              refine ws_off rfl rfl rfl rfl ?_
              refine ws_nil ?_
              refine wr_float F 23 rfl (by kernel_rfl) (.inr (off_of rfl rfl rfl rfl)) ?_
              refine ws_off rfl rfl rfl rfl ?_
              refine ws_nil ?_
              refine wr_float F 24 rfl (by kernel_rfl) (.inr (off_of rfl rfl rfl rfl)) ?_
              refine ws_off rfl rfl rfl rfl ?_
              refine ws_nil ?_
              refine wr_float F 25 rfl (by kernel_rfl) (.inr (off_of rfl rfl rfl rfl)) ?_
              refine ws_off rfl rfl rfl rfl ?_
              refine ws_nil ?_
              refine wr_float F 26 rfl (by kernel_rfl) (.inr (off_of rfl rfl rfl rfl)) ?_
              refine ws_off rfl rfl rfl rfl ?_
              refine ws_nil ?_
              refine wr_float F 27 rfl (by kernel_rfl) (.inr (off_of rfl rfl rfl rfl)) ?_
              refine ws_off rfl rfl rfl rfl ?_
              refine ws_nil ?_
              refine wr_float F 28 rfl (by kernel_rfl) (.inr (off_of rfl rfl rfl rfl)) ?_
              refine ws_off rfl rfl rfl rfl ?_
              refine ws_nil ?_
              refine wr_float F 29 rfl (by kernel_rfl) (.inl (by kernel_rfl)) ?_
              refine ws_on rfl rfl ?_ (hn := rfl)
              first | refine w_pickT rfl rfl rfl ⟨_, rfl⟩ ?_ | refine w_pickF rfl rfl ⟨_, rfl⟩ rfl ?_ | refine w_pick rfl rfl rfl rfl ?_
              refine ws_nil ?_
              refine wr_float F 30 rfl (by kernel_rfl) (.inl (by kernel_rfl)) ?_
              first | refine w_pickT rfl rfl rfl ⟨_, rfl⟩ ?_ | refine w_pickF rfl rfl ⟨_, rfl⟩ rfl ?_ | refine w_pick rfl rfl rfl rfl ?_
              refine ws_nil ?_
              refine wr_end F (by kernel_rfl) ?_
              refine wc_condF rfl ?_
              refine wc_stay ?_
              refine wc_text ?_
              refine w_add u3 rfl rfl rfl (by omega) ?_
              refine w_move rfl rfl ?_
              refine ws_nil ?_
              exact ⟨⟨k + 1, right_next hs hx (by omega) (by omega) (by omega) (by first | exact .inl (by omega) | exact .inr ⟨by omega, y, hy, by omega⟩)⟩, by simp only; omega, (.cons rfl (.cons rfl (.cons rfl (.cons rfl (.nil _))))), (Sel.weak .nil)⟩
  · first | replace h2 := of_decide_eq_true h2 | replace h2 := of_decide_eq_false h2 | replace h2 := of_decide_eq_false (nb_T h2) | replace h2 := of_decide_eq_true (nb_F h2) | replace h2 := nb_T h2 | replace h2 := nb_F h2 | skip
    first | replace h2 := Int.not_lt.mp h2 | replace h2 := Int.not_le.mp h2 | replace h2 := Decidable.not_not.mp h2 | skip
    refine wc_exit ?_
    refine wc_seq ?_
    refine wc_text ?_
    refine w_assign rfl rfl ?_
    refine ws_nil ?_
    refine wc_ret ?_
    refine ⟨_, (.cons (.tmp rfl) .nil), ?_, rfl⟩
    rw [right_end hs (by omega)]; rfl

theorem ref_fn (T : Nat → Bool) (n : Nat) (hn : n ≤ 1000) : PFn C 20 [.lst (tab n T) n false true] (AL eSp (spansTo T n)) := by
  refine fn_keep rfl rfl (fn := Try.f20) rfl rfl rfl rfl rfl ?_
  refine wc_seq ?_
  refine wc_text ?_
  refine w_assign rfl rfl ?_
  refine ws_nil ?_
  refine wc_seq ?_
  refine wc_text ?_
  refine w_assign rfl rfl ?_
  refine ws_nil ?_
  refine WC.ownNil 26 2 ?_
  refine wc_seq ?_
  refine wc_seq ?_
  refine wc_text ?_
  refine w_move rfl rfl ?_
  first | refine w_len rfl rfl (len_lst u31) ?_ | refine w_len rfl rfl (len_slice u31) ?_ | refine w_lenO rfl u31 rfl rfl (by first | exact .head | exact .tail .head | exact .tail (.tail .head) | exact .tail (.tail (.tail .head)) | exact .tail (.tail (.tail (.tail .head)))) ?_
  refine w_move rfl rfl ?_
  refine ws_nil ?_
  refine wc_block ?_
  refine wc_loop (σ := { p : Nat × AV // p.1 ≤ n }) (fun s => [(0, .lst (tab n T) n false true), (3, s.1.2), (6, .lst (tab n T) n false true), (7, .int .i64 (n : Nat)), (8, .int .i64 (s.1.1 : Nat))]) (fun s => [.own s.1.2 26 2 ((spansTo T s.1.1).flatMap eSp) (spansTo T s.1.1).length]) (fun s => n - s.1.1) ?_ ⟨(0, nilSlice), Nat.zero_le _⟩ (.cons rfl (.cons rfl (.cons rfl (.cons rfl (.cons rfl (.nil _)))))) (Sel.weak (.cons (by first | exact .head | exact .tail .head | exact .tail (.tail .head) | exact .tail (.tail (.tail .head)) | exact .tail (.tail (.tail (.tail .head)))) .nil))
  rintro ⟨⟨k, v⟩, hk⟩
  dsimp only
  have hb := (spansTo_bound T k).1
  refine wc_seq ?_
  refine wc_text ?_
  refine w_lss u3 rfl rfl rfl ?_
  refine ws_nil ?_
  refine wc_seq ?_
  refine wc_cond rfl (fun h3 => ?_) (fun h3 => ?_)
  · first | replace h3 := of_decide_eq_true h3 | replace h3 := of_decide_eq_false h3 | replace h3 := of_decide_eq_false (nb_T h3) | replace h3 := of_decide_eq_true (nb_F h3) | replace h3 := nb_T h3 | replace h3 := nb_F h3 | skip
    first | replace h3 := Int.not_lt.mp h3 | replace h3 := Int.not_le.mp h3 | replace h3 := Decidable.not_not.mp h3 | skip
    refine wc_stay ?_
    refine wc_seq ?_
    refine wc_block ?_
    refine wc_seq ?_
    refine wc_text ?_
    refine w_move rfl rfl ?_
    first | refine w_lidx u31 s4 rfl rfl rfl (by omega) ?_ | refine w_slidx u31 s4 rfl rfl rfl (by omega) ?_
    first | refine w_ldC1 a4 rfl rfl (by first | exact tab_getL (by omega) | exact tab_getP (by omega) | exact flat_getI0 (by intro _; rfl) (by assumption) (by first | rfl | omega) (by decide) rfl | exact flat_getI (by intro _; rfl) (by assumption) (by first | rfl | omega) (by decide) rfl | rfl) ?_ | refine w_ldP1 a4 rfl rfl (by first | exact .head | exact .tail .head | exact .tail (.tail .head) | exact .tail (.tail (.tail .head)) | exact .tail (.tail (.tail (.tail .head)))) (by first | exact tab_getP (by omega) | exact flat_getP0 (by intro _; rfl) (by assumption) (by first | rfl | omega) (by decide) rfl | exact flat_getP (by intro _; rfl) (by assumption) (by first | rfl | omega) (by decide) rfl | rfl) ?_
    refine w_assign rfl rfl ?_
    refine w_assign rfl rfl ?_
    refine ws_nil ?_
    simp only [Int.toNat_natCast]
    refine wc_seq ?_
    refine wc_text ?_
    refine w_move rfl rfl ?_
    refine w_move rfl rfl ?_
    refine ws_split (t := 14) rfl (fun g14 => ?_) (fun g14 => ?_)
    · first | replace g14 := of_decide_eq_true g14 | replace g14 := of_decide_eq_false g14 | replace g14 := of_decide_eq_false (nb_T g14) | replace g14 := of_decide_eq_true (nb_F g14) | replace g14 := nb_T g14 | replace g14 := nb_F g14 | skip
      first | replace g14 := Int.not_lt.mp g14 | replace g14 := Int.not_le.mp g14 | replace g14 := Decidable.not_not.mp g14 | skip
      rw [g14]
      refine ws_on rfl rfl ?_
      refine w_move rfl rfl ?_
      refine ws_on rfl rfl ?_
      refine w_gtr u3 rfl rfl rfl ?_
      first | refine w_pickT rfl rfl rfl ⟨_, rfl⟩ ?_ | refine w_pickF rfl rfl ⟨_, rfl⟩ rfl ?_ | refine w_pick rfl rfl rfl rfl ?_
      refine w_move rfl rfl ?_
      refine ws_split (t := 18) rfl (fun g18 => ?_) (fun g18 => ?_)
      · first | replace g18 := of_decide_eq_true g18 | replace g18 := of_decide_eq_false g18 | replace g18 := of_decide_eq_false (nb_T g18) | replace g18 := of_decide_eq_true (nb_F g18) | replace g18 := nb_T g18 | replace g18 := nb_F g18 | skip
        first | replace g18 := Int.not_lt.mp g18 | replace g18 := Int.not_le.mp g18 | replace g18 := Decidable.not_not.mp g18 | skip
        have hk1 : ((k : Int) - 1).toNat = k - 1 := by omega
        refine ws_on rfl rfl ?_
        refine w_move rfl rfl ?_
        refine ws_on rfl rfl ?_
        refine w_move rfl rfl ?_
        refine ws_on rfl rfl ?_
        refine w_sub u3 rfl rfl rfl (by omega) ?_
        refine ws_on rfl rfl ?_
        first | refine w_lidx u31 s4 rfl rfl rfl (by omega) ?_ | refine w_slidx u31 s4 rfl rfl rfl (by omega) ?_
        refine ws_on rfl rfl ?_
        first | refine w_ldC1 a4 rfl rfl (by first | exact tab_getL (by omega) | exact tab_getP (by omega) | exact flat_getI0 (by intro _; rfl) (by assumption) (by first | rfl | omega) (by decide) rfl | exact flat_getI (by intro _; rfl) (by assumption) (by first | rfl | omega) (by decide) rfl | rfl) ?_ | refine w_ldP1 a4 rfl rfl (by first | exact .head | exact .tail .head | exact .tail (.tail .head) | exact .tail (.tail (.tail .head)) | exact .tail (.tail (.tail (.tail .head)))) (by first | exact tab_getP (by omega) | exact flat_getP0 (by intro _; rfl) (by assumption) (by first | rfl | omega) (by decide) rfl | exact flat_getP (by intro _; rfl) (by assumption) (by first | rfl | omega) (by decide) rfl | rfl) ?_
        first | refine w_pickT rfl rfl rfl ⟨_, rfl⟩ ?_ | refine w_pickF rfl rfl ⟨_, rfl⟩ rfl ?_ | refine w_pick rfl rfl rfl rfl ?_
        refine ws_nil ?_
        refine wc_cond rfl (fun h5 => ?_) (fun h5 => ?_)
        · simp only [hk1] at h5
          refine wc_text ?_
          obtain ⟨hp, q, hx, hq⟩ := spans_prev (T := T) (k := k) (by omega) h5
          refine WS.openOwn (by first | exact .head | exact .tail .head | exact .tail (.tail .head) | exact .tail (.tail (.tail .head)) | exact .tail (.tail (.tail (.tail .head)))) hp (fun oo ho => ?_)
          subst ho
          refine w_move rfl rfl ?_
          refine w_move rfl rfl ?_
          first | refine w_len rfl rfl (len_lst u22) ?_ | refine w_len rfl rfl (len_slice u22) ?_ | refine w_lenO rfl u22 rfl rfl (by first | exact .head | exact .tail .head | exact .tail (.tail .head) | exact .tail (.tail (.tail .head)) | exact .tail (.tail (.tail (.tail .head)))) ?_
          refine w_sub u3 rfl rfl rfl (by omega) ?_
          refine w_move rfl rfl ?_
          first | refine w_lidx u22 s26 rfl rfl rfl (by omega) ?_ | refine w_slidx u22 s26 rfl rfl rfl (by omega) ?_
          first | refine w_faddrC O26_1 rfl rfl ?_ | refine w_faddrP O26_1 rfl rfl ?_
          refine w_st s3 rfl rfl rfl (by first | exact .head | exact .tail .head | exact .tail (.tail .head) | exact .tail (.tail (.tail .head)) | exact .tail (.tail (.tail (.tail .head)))) rfl rfl (flat_setP (off := 1) (y := (q.1, (k : Int))) (by intro _; rfl) hx (by omega) rfl) ?_
          refine ws_nil ?_
          refine WC.closeOwn (e := 26) (s := 2) (m := (spansTo T k).length) (by first | exact .head | exact .tail .head | exact .tail (.tail .head) | exact .tail (.tail (.tail .head)) | exact .tail (.tail (.tail (.tail .head)))) (by rw [flat_length (s := 2) (by intro _; rfl), List.length_set]) ?_
          have hs := spans_ext g14 hx hq
          refine WC.reown ((spansTo T (k + 1)).flatMap eSp) (spansTo T (k + 1)).length (by first | exact .head | exact .tail .head | exact .tail (.tail .head) | exact .tail (.tail (.tail .head)) | exact .tail (.tail (.tail (.tail .head)))) (by rw [hs]) (by rw [hs, List.length_set]) ?_
          refine wc_text ?_
          refine w_add u3 rfl rfl rfl (by omega) ?_
          refine w_move rfl rfl ?_
          refine ws_nil ?_
          exact ⟨⟨(k + 1, _), (by omega : k + 1 ≤ n)⟩, by simp only; omega, (.cons rfl (.cons rfl (.cons rfl (.cons rfl (.cons rfl (.nil _)))))), (Sel.weak (.cons (by first | exact .head | exact .tail .head | exact .tail (.tail .head) | exact .tail (.tail (.tail .head)) | exact .tail (.tail (.tail (.tail .head)))) .nil))⟩
        · simp only [hk1] at h5
          refine wc_seq ?_
          refine wc_text ?_
          refine w_move rfl rfl ?_
          refine ws_nil ?_
          refine wc_condT rfl ?_
          refine wc_text ?_
          refine w_move rfl rfl ?_
          refine w_move rfl rfl ?_
          refine w_move rfl rfl ?_
          refine w_build (v := .agg [_, _]) B26 rfl rfl rfl ?_
          refine w_buildS (cs := [_, _]) u22 s26 z26 (by decide) rfl rfl rfl (fun o37 => ?_)
          refine w_app rfl u22 s26 b26 z26 u22 (by simp) rfl rfl rfl (by first | exact .head | exact .tail .head | exact .tail (.tail .head) | exact .tail (.tail (.tail .head)) | exact .tail (.tail (.tail (.tail .head)))) (by first | exact new_obj (by first | exact .head | exact .tail .head | exact .tail (.tail .head) | exact .tail (.tail (.tail .head)) | exact .tail (.tail (.tail (.tail .head)))) rfl rfl | exact new_flat (by intro _; rfl) (by intro _; rfl) | exact new_lst rfl rfl) (by unfold bigBy; omega) (by unfold bigBy; omega) (fun v38 => ?_)
          refine w_assign rfl rfl ?_
          refine ws_nil ?_
          have hs : spansTo T (k + 1) = spansTo T k ++ [((k : Int), (k : Int))] := spans_new g14 (fun q hq => spans_gap (by first | exact .inl (by omega) | exact .inr h5) hq)
          refine WC.reown ((spansTo T (k + 1)).flatMap eSp) (spansTo T (k + 1)).length (by first | exact .head | exact .tail .head | exact .tail (.tail .head) | exact .tail (.tail (.tail .head)) | exact .tail (.tail (.tail (.tail .head)))) (by rw [hs, ← flat_one_more]) (by rw [hs, List.length_append]; simp only [List.length_cons, List.length_nil]) ?_
          refine wc_text ?_
          refine w_add u3 rfl rfl rfl (by omega) ?_
          refine w_move rfl rfl ?_
          refine ws_nil ?_
          exact ⟨⟨(k + 1, _), (by omega : k + 1 ≤ n)⟩, by simp only; omega, (.cons rfl (.cons rfl (.cons rfl (.cons rfl (.cons rfl (.nil _)))))), (Sel.weak (.cons (by first | exact .head | exact .tail .head | exact .tail (.tail .head) | exact .tail (.tail (.tail .head)) | exact .tail (.tail (.tail (.tail .head)))) .nil))⟩
      · first | replace g18 := of_decide_eq_true g18 | replace g18 := of_decide_eq_false g18 | replace g18 := of_decide_eq_false (nb_T g18) | replace g18 := of_decide_eq_true (nb_F g18) | replace g18 := nb_T g18 | replace g18 := nb_F g18 | skip
        first | replace g18 := Int.not_lt.mp g18 | replace g18 := Int.not_le.mp g18 | replace g18 := Decidable.not_not.mp g18 | skip
        refine ws_off rfl rfl rfl rfl ?_
        refine ws_off rfl rfl rfl rfl ?_
        refine ws_off rfl rfl rfl rfl ?_
        refine ws_off rfl rfl rfl rfl ?_
        refine ws_off rfl rfl rfl rfl ?_
        first | refine w_pickT rfl rfl rfl ⟨_, rfl⟩ ?_ | refine w_pickF rfl rfl ⟨_, rfl⟩ rfl ?_ | refine w_pick rfl rfl rfl rfl ?_
        refine ws_nil ?_
        refine wc_condF rfl ?_
        refine wc_seq ?_
        refine wc_text ?_
        refine w_move rfl rfl ?_
        refine ws_nil ?_
        refine wc_condT rfl ?_
        refine wc_text ?_
        refine w_move rfl rfl ?_
        refine w_move rfl rfl ?_
        refine w_move rfl rfl ?_
        refine w_build (v := .agg [_, _]) B26 rfl rfl rfl ?_
        refine w_buildS (cs := [_, _]) u22 s26 z26 (by decide) rfl rfl rfl (fun o37 => ?_)
        refine w_app rfl u22 s26 b26 z26 u22 (by simp) rfl rfl rfl (by first | exact .head | exact .tail .head | exact .tail (.tail .head) | exact .tail (.tail (.tail .head)) | exact .tail (.tail (.tail (.tail .head)))) (by first | exact new_obj (by first | exact .head | exact .tail .head | exact .tail (.tail .head) | exact .tail (.tail (.tail .head)) | exact .tail (.tail (.tail (.tail .head)))) rfl rfl | exact new_flat (by intro _; rfl) (by intro _; rfl) | exact new_lst rfl rfl) (by unfold bigBy; omega) (by unfold bigBy; omega) (fun v38 => ?_)
        refine w_assign rfl rfl ?_
        refine ws_nil ?_
        have hs : spansTo T (k + 1) = spansTo T k ++ [((k : Int), (k : Int))] := spans_new g14 (fun q hq => spans_gap (by first | exact .inl (by omega) | exact .inr h5) hq)
        refine WC.reown ((spansTo T (k + 1)).flatMap eSp) (spansTo T (k + 1)).length (by first | exact .head | exact .tail .head | exact .tail (.tail .head) | exact .tail (.tail (.tail .head)) | exact .tail (.tail (.tail (.tail .head)))) (by rw [hs, ← flat_one_more]) (by rw [hs, List.length_append]; simp only [List.length_cons, List.length_nil]) ?_
        refine wc_text ?_
        refine w_add u3 rfl rfl rfl (by omega) ?_
        refine w_move rfl rfl ?_
        refine ws_nil ?_
        exact ⟨⟨(k + 1, _), (by omega : k + 1 ≤ n)⟩, by simp only; omega, (.cons rfl (.cons rfl (.cons rfl (.cons rfl (.cons rfl (.nil _)))))), (Sel.weak (.cons (by first | exact .head | exact .tail .head | exact .tail (.tail .head) | exact .tail (.tail (.tail .head)) | exact .tail (.tail (.tail (.tail .head)))) .nil))⟩
    · first | replace g14 := of_decide_eq_true g14 | replace g14 := of_decide_eq_false g14 | replace g14 := of_decide_eq_false (nb_T g14) | replace g14 := of_decide_eq_true (nb_F g14) | replace g14 := nb_T g14 | replace g14 := nb_F g14 | skip
      first | replace g14 := Int.not_lt.mp g14 | replace g14 := Int.not_le.mp g14 | replace g14 := Decidable.not_not.mp g14 | skip
      rw [g14]
      refine ws_off rfl rfl rfl rfl ?_
      refine ws_off rfl rfl rfl rfl ?_
      first | refine w_pickT rfl rfl rfl ⟨_, rfl⟩ ?_ | refine w_pickF rfl rfl ⟨_, rfl⟩ rfl ?_ | refine w_pick rfl rfl rfl rfl ?_
      refine w_move rfl rfl ?_
      refine ws_off rfl rfl rfl rfl ?_
      refine ws_off rfl rfl rfl rfl ?_
      refine ws_off rfl rfl rfl rfl ?_
      refine ws_off rfl rfl rfl rfl ?_
      refine ws_off rfl rfl rfl rfl ?_
      first | refine w_pickT rfl rfl rfl ⟨_, rfl⟩ ?_ | refine w_pickF rfl rfl ⟨_, rfl⟩ rfl ?_ | refine w_pick rfl rfl rfl rfl ?_
      refine ws_nil ?_
      refine wc_condF rfl ?_
      refine wc_seq ?_
      refine wc_text ?_
      refine w_move rfl rfl ?_
      refine ws_nil ?_
      refine wc_condF rfl ?_
      have hs := spans_off g14
      refine WC.reown ((spansTo T (k + 1)).flatMap eSp) (spansTo T (k + 1)).length (by first | exact .head | exact .tail .head | exact .tail (.tail .head) | exact .tail (.tail (.tail .head)) | exact .tail (.tail (.tail (.tail .head)))) (by rw [hs]) (by rw [hs]) ?_
      refine wc_stay ?_
      refine wc_text ?_
      refine w_add u3 rfl rfl rfl (by omega) ?_
      refine w_move rfl rfl ?_
      refine ws_nil ?_
      exact ⟨⟨(k + 1, _), (by omega : k + 1 ≤ n)⟩, by simp only; omega, (.cons rfl (.cons rfl (.cons rfl (.cons rfl (.cons rfl (.nil _)))))), (Sel.weak (.cons (by first | exact .head | exact .tail .head | exact .tail (.tail .head) | exact .tail (.tail (.tail .head)) | exact .tail (.tail (.tail (.tail .head)))) .nil))⟩
  · first | replace h3 := of_decide_eq_true h3 | replace h3 := of_decide_eq_false h3 | replace h3 := of_decide_eq_false (nb_T h3) | replace h3 := of_decide_eq_true (nb_F h3) | replace h3 := nb_T h3 | replace h3 := nb_F h3 | skip
    first | replace h3 := Int.not_lt.mp h3 | replace h3 := Int.not_le.mp h3 | replace h3 := Decidable.not_not.mp h3 | skip
    refine wc_exit ?_
    refine wc_seq ?_
    refine wc_text ?_
    refine w_move rfl rfl ?_
    refine w_assign rfl rfl ?_
    refine ws_nil ?_
    refine wc_ret ?_
    have hk2 : k = n := by simp only at hk; omega
    subst hk2
    refine ⟨_, _, _, (.cons (.tmp rfl) .nil), (.cons (by first | exact .closed rfl | exact .nil | exact .ownK rfl (by first | exact .head | exact .tail .head | exact .tail (.tail .head) | exact .tail (.tail (.tail .head)) | exact .tail (.tail (.tail (.tail .head)))) (by first | exact tab_done _ _ | exact flat_done (by intro _; rfl) _ | rfl | assumption) | exact .objK rfl (by omega) (by first | exact .head | exact .tail .head | exact .tail (.tail .head) | exact .tail (.tail (.tail .head)) | exact .tail (.tail (.tail (.tail .head)))) (by first | exact tab_length _ _ | exact flat_length (by intro _; rfl) _ | exact (flat_length (s := 1) (by intro _; rfl) _).trans (by simp only [*]) | exact (flat_length (s := 2) (by intro _; rfl) _).trans (by simp only [*]) | exact (flat_length (s := 3) (by intro _; rfl) _).trans (by simp only [*]) | exact (flat_length (s := 4) (by intro _; rfl) _).trans (by simp only [*]) | exact (flat_length (s := 5) (by intro _; rfl) _).trans (by simp only [*]) | exact (flat_length (s := 6) (by intro _; rfl) _).trans (by simp only [*]) | rfl) (by first | exact tab_done _ _ | exact flat_done (by intro _; rfl) _ | rfl | assumption)) .nil), ?_, ?_⟩
    · first | rfl | simp [doneV]
    rfl

theorem flags_fn (l : List Int) (hl : l.length ≤ 9223372036854775807) : PFn C 13 [AL eI l] (.tuple [.lst (tab 60 (flagsT l)) 60 false true, AL eSp (spansTo (flagsT l) 60)]) := by
  refine fn_keep rfl rfl (fn := Try.f13) rfl rfl rfl rfl rfl ?_
  refine wc_seq ?_
  refine wc_text ?_
  refine w_assign rfl rfl ?_
  refine w_assign rfl rfl ?_
  refine ws_nil ?_
  refine wc_seq ?_
  refine wc_text ?_
  refine w_makeS (l := 60) (c := 60) u31 b4 s4 z4 rfl rfl rfl (by omega) (by decide) (by decide) (fun o6 => ?_)
  refine w_assign rfl rfl ?_
  refine ws_nil ?_
  refine WC.recell (tab 60 (flagT (l.take 0))) (by first | exact .head | exact .tail .head | exact .tail (.tail .head) | exact .tail (.tail (.tail .head)) | exact .tail (.tail (.tail (.tail .head)))) ((repl_tab 60 false).trans (tab_congr fun i _ => rfl)) ?_
  refine wc_seq ?_
  refine wc_seq ?_
  refine wc_text ?_
  refine w_assign rfl rfl ?_
  refine ws_nil ?_
  refine wc_block ?_
  refine wc_loop (σ := { k : Nat // k ≤ l.length ∧ k ≤ 40 }) (fun s => [(0, AL eI l), (4, .slice (some ⟨o6, 0⟩) 60 (.exact 60)), (5, .int .i64 (s.1 : Nat))]) (fun s => [.obj o6 (.row 4 1 false (tab 60 (flagT (l.take s.1))))]) (fun s => 40 - s.1) ?_ ⟨0, Nat.zero_le _, Nat.zero_le _⟩ (.cons rfl (.cons rfl (.cons rfl (.nil _)))) (Sel.weak (.cons (by first | exact .head | exact .tail .head | exact .tail (.tail .head) | exact .tail (.tail (.tail .head)) | exact .tail (.tail (.tail (.tail .head)))) .nil))
  rintro ⟨k, hk, hk4⟩
  dsimp only
  refine wc_seq ?_
  refine wc_seq ?_
  refine wc_text ?_
  refine w_move rfl rfl ?_
  refine w_move rfl rfl ?_
  first | refine w_len rfl rfl (len_lst u30) ?_ | refine w_len rfl rfl (len_slice u30) ?_ | refine w_lenO rfl u30 rfl rfl (by first | exact .head | exact .tail .head | exact .tail (.tail .head) | exact .tail (.tail (.tail .head)) | exact .tail (.tail (.tail (.tail .head)))) ?_
  refine w_lss u3 rfl rfl rfl ?_
  refine w_move rfl rfl ?_
  refine ws_split (t := 11) rfl (fun g11 => ?_) (fun g11 => ?_)
  · first | replace g11 := of_decide_eq_true g11 | replace g11 := of_decide_eq_false g11 | replace g11 := of_decide_eq_false (nb_T g11) | replace g11 := of_decide_eq_true (nb_F g11) | replace g11 := nb_T g11 | replace g11 := nb_F g11 | skip
    first | replace g11 := Int.not_lt.mp g11 | replace g11 := Int.not_le.mp g11 | replace g11 := Decidable.not_not.mp g11 | skip
    refine ws_on rfl rfl ?_
    refine w_move rfl rfl ?_
    refine ws_on rfl rfl ?_
    refine w_lss u3 rfl rfl rfl ?_
    first | refine w_pickT rfl rfl rfl ⟨_, rfl⟩ ?_ | refine w_pickF rfl rfl ⟨_, rfl⟩ rfl ?_ | refine w_pick rfl rfl rfl rfl ?_
    refine ws_nil ?_
    refine wc_cond rfl (fun h3 => ?_) (fun h3 => ?_)
    · first | replace h3 := of_decide_eq_true h3 | replace h3 := of_decide_eq_false h3 | replace h3 := of_decide_eq_false (nb_T h3) | replace h3 := of_decide_eq_true (nb_F h3) | replace h3 := nb_T h3 | replace h3 := nb_F h3 | skip
      first | replace h3 := Int.not_lt.mp h3 | replace h3 := Int.not_le.mp h3 | replace h3 := Decidable.not_not.mp h3 | skip
      refine wc_stay ?_
      refine wc_seq ?_
      refine wc_block ?_
      refine wc_text ?_
      obtain ⟨x, hx⟩ := get_of_lt (l := l) (k := k) (by omega)
      have hw := withinV_in x 0 59 (by omega)
      refine w_move rfl rfl ?_
      refine w_move rfl rfl ?_
      refine w_move rfl rfl ?_
      first | refine w_lidx u30 s3 rfl rfl rfl (by omega) ?_ | refine w_slidx u30 s3 rfl rfl rfl (by omega) ?_
      first | refine w_ldC1 a3 rfl rfl (by first | exact tab_getL (by omega) | exact tab_getP (by omega) | exact flat_getI0 (by intro _; rfl) (by assumption) (by first | rfl | omega) (by decide) rfl | exact flat_getI (by intro _; rfl) (by assumption) (by first | rfl | omega) (by decide) rfl | rfl) ?_ | refine w_ldP1 a3 rfl rfl (by first | exact .head | exact .tail .head | exact .tail (.tail .head) | exact .tail (.tail (.tail .head)) | exact .tail (.tail (.tail (.tail .head)))) (by first | exact tab_getP (by omega) | exact flat_getP0 (by intro _; rfl) (by assumption) (by first | rfl | omega) (by decide) rfl | exact flat_getP (by intro _; rfl) (by assumption) (by first | rfl | omega) (by decide) rfl | rfl) ?_
      refine w_call rfl rfl (cw_fn rfl rfl (.cons (by first | exact .closed rfl | exact .nil | exact .ownV rfl (by first | exact .head | exact .tail .head | exact .tail (.tail .head) | exact .tail (.tail (.tail .head)) | exact .tail (.tail (.tail (.tail .head)))) (by first | exact tab_done _ _ | exact flat_done (by intro _; rfl) _ | rfl | assumption) | exact .objV rfl (by first | exact .head | exact .tail .head | exact .tail (.tail .head) | exact .tail (.tail (.tail .head)) | exact .tail (.tail (.tail (.tail .head)))) (by first | exact tab_length _ _ | exact flat_length (by intro _; rfl) _ | exact (flat_length (s := 1) (by intro _; rfl) _).trans (by simp only [*]) | exact (flat_length (s := 2) (by intro _; rfl) _).trans (by simp only [*]) | exact (flat_length (s := 3) (by intro _; rfl) _).trans (by simp only [*]) | exact (flat_length (s := 4) (by intro _; rfl) _).trans (by simp only [*]) | exact (flat_length (s := 5) (by intro _; rfl) _).trans (by simp only [*]) | exact (flat_length (s := 6) (by intro _; rfl) _).trans (by simp only [*]) | rfl) (by first | exact tab_done _ _ | exact flat_done (by intro _; rfl) _ | rfl | assumption) | exact .ownK rfl (by first | exact .head | exact .tail .head | exact .tail (.tail .head) | exact .tail (.tail (.tail .head)) | exact .tail (.tail (.tail (.tail .head)))) (by first | exact tab_done _ _ | exact flat_done (by intro _; rfl) _ | rfl | assumption) | exact .objK rfl (by omega) (by first | exact .head | exact .tail .head | exact .tail (.tail .head) | exact .tail (.tail (.tail .head)) | exact .tail (.tail (.tail (.tail .head)))) (by first | exact tab_length _ _ | exact flat_length (by intro _; rfl) _ | exact (flat_length (s := 1) (by intro _; rfl) _).trans (by simp only [*]) | exact (flat_length (s := 2) (by intro _; rfl) _).trans (by simp only [*]) | exact (flat_length (s := 3) (by intro _; rfl) _).trans (by simp only [*]) | exact (flat_length (s := 4) (by intro _; rfl) _).trans (by simp only [*]) | exact (flat_length (s := 5) (by intro _; rfl) _).trans (by simp only [*]) | exact (flat_length (s := 6) (by intro _; rfl) _).trans (by simp only [*]) | rfl) (by first | exact tab_done _ _ | exact flat_done (by intro _; rfl) _ | rfl | assumption) | exact .ptr (by first | exact .head | exact .tail .head | exact .tail (.tail .head) | exact .tail (.tail (.tail .head)) | exact .tail (.tail (.tail (.tail .head)))) (by first | exact tab_done _ _ | exact flat_done (by intro _; rfl) _ | rfl | assumption)) (.cons (by first | exact .closed rfl | exact .nil | exact .ownV rfl (by first | exact .head | exact .tail .head | exact .tail (.tail .head) | exact .tail (.tail (.tail .head)) | exact .tail (.tail (.tail (.tail .head)))) (by first | exact tab_done _ _ | exact flat_done (by intro _; rfl) _ | rfl | assumption) | exact .objV rfl (by first | exact .head | exact .tail .head | exact .tail (.tail .head) | exact .tail (.tail (.tail .head)) | exact .tail (.tail (.tail (.tail .head)))) (by first | exact tab_length _ _ | exact flat_length (by intro _; rfl) _ | exact (flat_length (s := 1) (by intro _; rfl) _).trans (by simp only [*]) | exact (flat_length (s := 2) (by intro _; rfl) _).trans (by simp only [*]) | exact (flat_length (s := 3) (by intro _; rfl) _).trans (by simp only [*]) | exact (flat_length (s := 4) (by intro _; rfl) _).trans (by simp only [*]) | exact (flat_length (s := 5) (by intro _; rfl) _).trans (by simp only [*]) | exact (flat_length (s := 6) (by intro _; rfl) _).trans (by simp only [*]) | rfl) (by first | exact tab_done _ _ | exact flat_done (by intro _; rfl) _ | rfl | assumption) | exact .ownK rfl (by first | exact .head | exact .tail .head | exact .tail (.tail .head) | exact .tail (.tail (.tail .head)) | exact .tail (.tail (.tail (.tail .head)))) (by first | exact tab_done _ _ | exact flat_done (by intro _; rfl) _ | rfl | assumption) | exact .objK rfl (by omega) (by first | exact .head | exact .tail .head | exact .tail (.tail .head) | exact .tail (.tail (.tail .head)) | exact .tail (.tail (.tail (.tail .head)))) (by first | exact tab_length _ _ | exact flat_length (by intro _; rfl) _ | exact (flat_length (s := 1) (by intro _; rfl) _).trans (by simp only [*]) | exact (flat_length (s := 2) (by intro _; rfl) _).trans (by simp only [*]) | exact (flat_length (s := 3) (by intro _; rfl) _).trans (by simp only [*]) | exact (flat_length (s := 4) (by intro _; rfl) _).trans (by simp only [*]) | exact (flat_length (s := 5) (by intro _; rfl) _).trans (by simp only [*]) | exact (flat_length (s := 6) (by intro _; rfl) _).trans (by simp only [*]) | rfl) (by first | exact tab_done _ _ | exact flat_done (by intro _; rfl) _ | rfl | assumption) | exact .ptr (by first | exact .head | exact .tail .head | exact .tail (.tail .head) | exact .tail (.tail (.tail .head)) | exact .tail (.tail (.tail (.tail .head)))) (by first | exact tab_done _ _ | exact flat_done (by intro _; rfl) _ | rfl | assumption)) (.cons (by first | exact .closed rfl | exact .nil | exact .ownV rfl (by first | exact .head | exact .tail .head | exact .tail (.tail .head) | exact .tail (.tail (.tail .head)) | exact .tail (.tail (.tail (.tail .head)))) (by first | exact tab_done _ _ | exact flat_done (by intro _; rfl) _ | rfl | assumption) | exact .objV rfl (by first | exact .head | exact .tail .head | exact .tail (.tail .head) | exact .tail (.tail (.tail .head)) | exact .tail (.tail (.tail (.tail .head)))) (by first | exact tab_length _ _ | exact flat_length (by intro _; rfl) _ | exact (flat_length (s := 1) (by intro _; rfl) _).trans (by simp only [*]) | exact (flat_length (s := 2) (by intro _; rfl) _).trans (by simp only [*]) | exact (flat_length (s := 3) (by intro _; rfl) _).trans (by simp only [*]) | exact (flat_length (s := 4) (by intro _; rfl) _).trans (by simp only [*]) | exact (flat_length (s := 5) (by intro _; rfl) _).trans (by simp only [*]) | exact (flat_length (s := 6) (by intro _; rfl) _).trans (by simp only [*]) | rfl) (by first | exact tab_done _ _ | exact flat_done (by intro _; rfl) _ | rfl | assumption) | exact .ownK rfl (by first | exact .head | exact .tail .head | exact .tail (.tail .head) | exact .tail (.tail (.tail .head)) | exact .tail (.tail (.tail (.tail .head)))) (by first | exact tab_done _ _ | exact flat_done (by intro _; rfl) _ | rfl | assumption) | exact .objK rfl (by omega) (by first | exact .head | exact .tail .head | exact .tail (.tail .head) | exact .tail (.tail (.tail .head)) | exact .tail (.tail (.tail (.tail .head)))) (by first | exact tab_length _ _ | exact flat_length (by intro _; rfl) _ | exact (flat_length (s := 1) (by intro _; rfl) _).trans (by simp only [*]) | exact (flat_length (s := 2) (by intro _; rfl) _).trans (by simp only [*]) | exact (flat_length (s := 3) (by intro _; rfl) _).trans (by simp only [*]) | exact (flat_length (s := 4) (by intro _; rfl) _).trans (by simp only [*]) | exact (flat_length (s := 5) (by intro _; rfl) _).trans (by simp only [*]) | exact (flat_length (s := 6) (by intro _; rfl) _).trans (by simp only [*]) | rfl) (by first | exact tab_done _ _ | exact flat_done (by intro _; rfl) _ | rfl | assumption) | exact .ptr (by first | exact .head | exact .tail .head | exact .tail (.tail .head) | exact .tail (.tail (.tail .head)) | exact .tail (.tail (.tail (.tail .head)))) (by first | exact tab_done _ _ | exact flat_done (by intro _; rfl) _ | rfl | assumption)) .nil))) (within_fn _ _ _ (by omega) (by omega) (by omega)) ?_)
      first | refine w_lidx u31 s4 rfl rfl rfl (by omega) ?_ | refine w_slidx u31 s4 rfl rfl rfl (by omega) ?_
      refine w_st s4 rfl rfl rfl (by first | exact .head | exact .tail .head | exact .tail (.tail .head) | exact .tail (.tail (.tail .head)) | exact .tail (.tail (.tail (.tail .head)))) rfl rfl (by first | exact tab_setP (by omega) | exact flat_setP (off := 0) (by intro _; rfl) (by assumption) (by first | rfl | omega) rfl | exact flat_setP (off := 1) (by intro _; rfl) (by assumption) (by first | rfl | omega) rfl | rfl) ?_
      refine ws_nil ?_
      refine WC.retab (o := o6) (flagT (l.take (k + 1))) (by first | exact .head | exact .tail .head | exact .tail (.tail .head) | exact .tail (.tail (.tail .head)) | exact .tail (.tail (.tail (.tail .head)))) (fun j _ => flag_step (x := (withinV x 0 59).toNat) hx (by omega)) ?_
      refine wc_text ?_
      refine w_move rfl rfl ?_
      refine w_add u3 rfl rfl rfl (by omega) ?_
      refine w_assign rfl rfl ?_
      refine ws_nil ?_
      exact ⟨⟨k + 1, by omega, by omega⟩, by simp only; omega, (.cons rfl (.cons rfl (.cons rfl (.nil _)))), (Sel.weak (.cons (by first | exact .head | exact .tail .head | exact .tail (.tail .head) | exact .tail (.tail (.tail .head)) | exact .tail (.tail (.tail (.tail .head)))) .nil))⟩
    · first | replace h3 := of_decide_eq_true h3 | replace h3 := of_decide_eq_false h3 | replace h3 := of_decide_eq_false (nb_T h3) | replace h3 := of_decide_eq_true (nb_F h3) | replace h3 := nb_T h3 | replace h3 := nb_F h3 | skip
      first | replace h3 := Int.not_lt.mp h3 | replace h3 := Int.not_le.mp h3 | replace h3 := Decidable.not_not.mp h3 | skip
      refine wc_exit ?_
      refine wc_seq ?_
      refine wc_text ?_
      have he : l.take k = l.take 40 := by first | (rw [List.take_of_length_le (by omega), List.take_of_length_le (by omega)]) | (congr 1; omega)
      refine w_move rfl rfl ?_
      refine w_move rfl rfl ?_
      refine w_call rfl rfl (cw_fn rfl rfl (.cons (by first | exact .closed rfl | exact .nil | exact .ownV rfl (by first | exact .head | exact .tail .head | exact .tail (.tail .head) | exact .tail (.tail (.tail .head)) | exact .tail (.tail (.tail (.tail .head)))) (by first | exact tab_done _ _ | exact flat_done (by intro _; rfl) _ | rfl | assumption) | exact .objV rfl (by first | exact .head | exact .tail .head | exact .tail (.tail .head) | exact .tail (.tail (.tail .head)) | exact .tail (.tail (.tail (.tail .head)))) (by first | exact tab_length _ _ | exact flat_length (by intro _; rfl) _ | exact (flat_length (s := 1) (by intro _; rfl) _).trans (by simp only [*]) | exact (flat_length (s := 2) (by intro _; rfl) _).trans (by simp only [*]) | exact (flat_length (s := 3) (by intro _; rfl) _).trans (by simp only [*]) | exact (flat_length (s := 4) (by intro _; rfl) _).trans (by simp only [*]) | exact (flat_length (s := 5) (by intro _; rfl) _).trans (by simp only [*]) | exact (flat_length (s := 6) (by intro _; rfl) _).trans (by simp only [*]) | rfl) (by first | exact tab_done _ _ | exact flat_done (by intro _; rfl) _ | rfl | assumption) | exact .ownK rfl (by first | exact .head | exact .tail .head | exact .tail (.tail .head) | exact .tail (.tail (.tail .head)) | exact .tail (.tail (.tail (.tail .head)))) (by first | exact tab_done _ _ | exact flat_done (by intro _; rfl) _ | rfl | assumption) | exact .objK rfl (by omega) (by first | exact .head | exact .tail .head | exact .tail (.tail .head) | exact .tail (.tail (.tail .head)) | exact .tail (.tail (.tail (.tail .head)))) (by first | exact tab_length _ _ | exact flat_length (by intro _; rfl) _ | exact (flat_length (s := 1) (by intro _; rfl) _).trans (by simp only [*]) | exact (flat_length (s := 2) (by intro _; rfl) _).trans (by simp only [*]) | exact (flat_length (s := 3) (by intro _; rfl) _).trans (by simp only [*]) | exact (flat_length (s := 4) (by intro _; rfl) _).trans (by simp only [*]) | exact (flat_length (s := 5) (by intro _; rfl) _).trans (by simp only [*]) | exact (flat_length (s := 6) (by intro _; rfl) _).trans (by simp only [*]) | rfl) (by first | exact tab_done _ _ | exact flat_done (by intro _; rfl) _ | rfl | assumption) | exact .ptr (by first | exact .head | exact .tail .head | exact .tail (.tail .head) | exact .tail (.tail (.tail .head)) | exact .tail (.tail (.tail (.tail .head)))) (by first | exact tab_done _ _ | exact flat_done (by intro _; rfl) _ | rfl | assumption)) .nil) (ref_fn _ _ (by omega)) ?_)
      refine w_assign rfl rfl ?_
      refine w_assign rfl rfl ?_
      refine ws_nil ?_
      refine wc_ret ?_
      refine ⟨_, _, _, (.cons (.tmp rfl) (.cons (.tmp rfl) .nil)), (.cons (by first | exact .closed rfl | exact .nil | exact .ownK rfl (by first | exact .head | exact .tail .head | exact .tail (.tail .head) | exact .tail (.tail (.tail .head)) | exact .tail (.tail (.tail (.tail .head)))) (by first | exact tab_done _ _ | exact flat_done (by intro _; rfl) _ | rfl | assumption) | exact .objK rfl (by omega) (by first | exact .head | exact .tail .head | exact .tail (.tail .head) | exact .tail (.tail (.tail .head)) | exact .tail (.tail (.tail (.tail .head)))) (by first | exact tab_length _ _ | exact flat_length (by intro _; rfl) _ | exact (flat_length (s := 1) (by intro _; rfl) _).trans (by simp only [*]) | exact (flat_length (s := 2) (by intro _; rfl) _).trans (by simp only [*]) | exact (flat_length (s := 3) (by intro _; rfl) _).trans (by simp only [*]) | exact (flat_length (s := 4) (by intro _; rfl) _).trans (by simp only [*]) | exact (flat_length (s := 5) (by intro _; rfl) _).trans (by simp only [*]) | exact (flat_length (s := 6) (by intro _; rfl) _).trans (by simp only [*]) | rfl) (by first | exact tab_done _ _ | exact flat_done (by intro _; rfl) _ | rfl | assumption)) (.cons (by first | exact .closed rfl | exact .nil | exact .ownK rfl (by first | exact .head | exact .tail .head | exact .tail (.tail .head) | exact .tail (.tail (.tail .head)) | exact .tail (.tail (.tail (.tail .head)))) (by first | exact tab_done _ _ | exact flat_done (by intro _; rfl) _ | rfl | assumption) | exact .objK rfl (by omega) (by first | exact .head | exact .tail .head | exact .tail (.tail .head) | exact .tail (.tail (.tail .head)) | exact .tail (.tail (.tail (.tail .head)))) (by first | exact tab_length _ _ | exact flat_length (by intro _; rfl) _ | exact (flat_length (s := 1) (by intro _; rfl) _).trans (by simp only [*]) | exact (flat_length (s := 2) (by intro _; rfl) _).trans (by simp only [*]) | exact (flat_length (s := 3) (by intro _; rfl) _).trans (by simp only [*]) | exact (flat_length (s := 4) (by intro _; rfl) _).trans (by simp only [*]) | exact (flat_length (s := 5) (by intro _; rfl) _).trans (by simp only [*]) | exact (flat_length (s := 6) (by intro _; rfl) _).trans (by simp only [*]) | rfl) (by first | exact tab_done _ _ | exact flat_done (by intro _; rfl) _ | rfl | assumption)) .nil)), ?_, ?_⟩
      · first | rfl | simp [doneV]
      rw [he]; rfl
  · first | replace g11 := of_decide_eq_true g11 | replace g11 := of_decide_eq_false g11 | replace g11 := of_decide_eq_false (nb_T g11) | replace g11 := of_decide_eq_true (nb_F g11) | replace g11 := nb_T g11 | replace g11 := nb_F g11 | skip
    first | replace g11 := Int.not_lt.mp g11 | replace g11 := Int.not_le.mp g11 | replace g11 := Decidable.not_not.mp g11 | skip
    refine ws_off rfl rfl rfl rfl ?_
    refine ws_off rfl rfl rfl rfl ?_
    first | refine w_pickT rfl rfl rfl ⟨_, rfl⟩ ?_ | refine w_pickF rfl rfl ⟨_, rfl⟩ rfl ?_ | refine w_pick rfl rfl rfl rfl ?_
    refine ws_nil ?_
    refine wc_condF rfl ?_
    refine wc_exit ?_
    refine wc_seq ?_
    refine wc_text ?_
    have he : l.take k = l.take 40 := by first | (rw [List.take_of_length_le (by omega), List.take_of_length_le (by omega)]) | (congr 1; omega)
    refine w_move rfl rfl ?_
    refine w_move rfl rfl ?_
    refine w_call rfl rfl (cw_fn rfl rfl (.cons (by first | exact .closed rfl | exact .nil | exact .ownV rfl (by first | exact .head | exact .tail .head | exact .tail (.tail .head) | exact .tail (.tail (.tail .head)) | exact .tail (.tail (.tail (.tail .head)))) (by first | exact tab_done _ _ | exact flat_done (by intro _; rfl) _ | rfl | assumption) | exact .objV rfl (by first | exact .head | exact .tail .head | exact .tail (.tail .head) | exact .tail (.tail (.tail .head)) | exact .tail (.tail (.tail (.tail .head)))) (by first | exact tab_length _ _ | exact flat_length (by intro _; rfl) _ | exact (flat_length (s := 1) (by intro _; rfl) _).trans (by simp only [*]) | exact (flat_length (s := 2) (by intro _; rfl) _).trans (by simp only [*]) | exact (flat_length (s := 3) (by intro _; rfl) _).trans (by simp only [*]) | exact (flat_length (s := 4) (by intro _; rfl) _).trans (by simp only [*]) | exact (flat_length (s := 5) (by intro _; rfl) _).trans (by simp only [*]) | exact (flat_length (s := 6) (by intro _; rfl) _).trans (by simp only [*]) | rfl) (by first | exact tab_done _ _ | exact flat_done (by intro _; rfl) _ | rfl | assumption) | exact .ownK rfl (by first | exact .head | exact .tail .head | exact .tail (.tail .head) | exact .tail (.tail (.tail .head)) | exact .tail (.tail (.tail (.tail .head)))) (by first | exact tab_done _ _ | exact flat_done (by intro _; rfl) _ | rfl | assumption) | exact .objK rfl (by omega) (by first | exact .head | exact .tail .head | exact .tail (.tail .head) | exact .tail (.tail (.tail .head)) | exact .tail (.tail (.tail (.tail .head)))) (by first | exact tab_length _ _ | exact flat_length (by intro _; rfl) _ | exact (flat_length (s := 1) (by intro _; rfl) _).trans (by simp only [*]) | exact (flat_length (s := 2) (by intro _; rfl) _).trans (by simp only [*]) | exact (flat_length (s := 3) (by intro _; rfl) _).trans (by simp only [*]) | exact (flat_length (s := 4) (by intro _; rfl) _).trans (by simp only [*]) | exact (flat_length (s := 5) (by intro _; rfl) _).trans (by simp only [*]) | exact (flat_length (s := 6) (by intro _; rfl) _).trans (by simp only [*]) | rfl) (by first | exact tab_done _ _ | exact flat_done (by intro _; rfl) _ | rfl | assumption) | exact .ptr (by first | exact .head | exact .tail .head | exact .tail (.tail .head) | exact .tail (.tail (.tail .head)) | exact .tail (.tail (.tail (.tail .head)))) (by first | exact tab_done _ _ | exact flat_done (by intro _; rfl) _ | rfl | assumption)) .nil) (ref_fn _ _ (by omega)) ?_)
    refine w_assign rfl rfl ?_
    refine w_assign rfl rfl ?_
    refine ws_nil ?_
    refine wc_ret ?_
    refine ⟨_, _, _, (.cons (.tmp rfl) (.cons (.tmp rfl) .nil)), (.cons (by first | exact .closed rfl | exact .nil | exact .ownK rfl (by first | exact .head | exact .tail .head | exact .tail (.tail .head) | exact .tail (.tail (.tail .head)) | exact .tail (.tail (.tail (.tail .head)))) (by first | exact tab_done _ _ | exact flat_done (by intro _; rfl) _ | rfl | assumption) | exact .objK rfl (by omega) (by first | exact .head | exact .tail .head | exact .tail (.tail .head) | exact .tail (.tail (.tail .head)) | exact .tail (.tail (.tail (.tail .head)))) (by first | exact tab_length _ _ | exact flat_length (by intro _; rfl) _ | exact (flat_length (s := 1) (by intro _; rfl) _).trans (by simp only [*]) | exact (flat_length (s := 2) (by intro _; rfl) _).trans (by simp only [*]) | exact (flat_length (s := 3) (by intro _; rfl) _).trans (by simp only [*]) | exact (flat_length (s := 4) (by intro _; rfl) _).trans (by simp only [*]) | exact (flat_length (s := 5) (by intro _; rfl) _).trans (by simp only [*]) | exact (flat_length (s := 6) (by intro _; rfl) _).trans (by simp only [*]) | rfl) (by first | exact tab_done _ _ | exact flat_done (by intro _; rfl) _ | rfl | assumption)) (.cons (by first | exact .closed rfl | exact .nil | exact .ownK rfl (by first | exact .head | exact .tail .head | exact .tail (.tail .head) | exact .tail (.tail (.tail .head)) | exact .tail (.tail (.tail (.tail .head)))) (by first | exact tab_done _ _ | exact flat_done (by intro _; rfl) _ | rfl | assumption) | exact .objK rfl (by omega) (by first | exact .head | exact .tail .head | exact .tail (.tail .head) | exact .tail (.tail (.tail .head)) | exact .tail (.tail (.tail (.tail .head)))) (by first | exact tab_length _ _ | exact flat_length (by intro _; rfl) _ | exact (flat_length (s := 1) (by intro _; rfl) _).trans (by simp only [*]) | exact (flat_length (s := 2) (by intro _; rfl) _).trans (by simp only [*]) | exact (flat_length (s := 3) (by intro _; rfl) _).trans (by simp only [*]) | exact (flat_length (s := 4) (by intro _; rfl) _).trans (by simp only [*]) | exact (flat_length (s := 5) (by intro _; rfl) _).trans (by simp only [*]) | exact (flat_length (s := 6) (by intro _; rfl) _).trans (by simp only [*]) | rfl) (by first | exact tab_done _ _ | exact flat_done (by intro _; rfl) _ | rfl | assumption)) .nil)), ?_, ?_⟩
    · first | rfl | simp [doneV]
    rw [he]; rfl

theorem roomy_fn (l : List (Int × Int)) (a b : Int) (hl : l.length < 1000000) : PFn C 19 [AL eSp l, .agg [.int .i64 a, .int .i64 b]] (AL eSp (roomL l (a, b) 80)) := by
  refine fn_keep rfl rfl (fn := Try.f19) rfl rfl rfl rfl rfl ?_
  refine wc_seq ?_
  refine wc_text ?_
  refine w_box s26 rfl rfl rfl (by first | exact tab_length _ _ | rfl) (by first | exact tab_scalar _ _ | rfl) (fun o3 => ?_)
  refine w_assign rfl rfl ?_
  refine ws_nil ?_
  refine wc_seq ?_
  refine wc_text ?_
  refine w_move rfl rfl ?_
  first | refine w_len rfl rfl (len_lst u22) ?_ | refine w_len rfl rfl (len_slice u22) ?_ | refine w_lenO rfl u22 rfl rfl (by first | exact .head | exact .tail .head | exact .tail (.tail .head) | exact .tail (.tail (.tail .head)) | exact .tail (.tail (.tail (.tail .head)))) ?_
  refine w_add u3 rfl rfl rfl (by omega) ?_
  refine w_makeS (l := l.length + 80) (c := l.length + 80) u22 b26 s26 z26 rfl rfl rfl (by omega) (by unfold bigBy; omega) (by unfold bigBy; omega) (fun o10 => ?_)
  refine w_assign rfl rfl ?_
  refine ws_nil ?_
  refine wc_seq ?_
  refine wc_text ?_
  refine w_move rfl rfl ?_
  refine w_move rfl rfl ?_
  refine w_copy rfl u22 s26 rfl rfl rfl (by first | exact .head | exact .tail .head | exact .tail (.tail .head) | exact .tail (.tail (.tail .head)) | exact .tail (.tail (.tail (.tail .head)))) (by first | exact new_obj (by first | exact .head | exact .tail .head | exact .tail (.tail .head) | exact .tail (.tail (.tail .head)) | exact .tail (.tail (.tail (.tail .head)))) rfl rfl | exact new_flat (by intro _; rfl) (by intro _; rfl) | exact new_lst rfl rfl) (by rw [repl_len]; rfl) (by decide) rfl ?_
  refine ws_nil ?_
  refine WC.recell (o := o10) ((roomL l (a, b) 0).flatMap eSp) (by first | exact .head | exact .tail .head | exact .tail (.tail .head) | exact .tail (.tail (.tail .head)) | exact .tail (.tail (.tail (.tail .head)))) (room_start l a b) ?_
  refine wc_seq ?_
  refine wc_seq ?_
  refine wc_text ?_
  refine w_move rfl rfl ?_
  first | refine w_len rfl rfl (len_lst u22) ?_ | refine w_len rfl rfl (len_slice u22) ?_ | refine w_lenO rfl u22 rfl rfl (by first | exact .head | exact .tail .head | exact .tail (.tail .head) | exact .tail (.tail (.tail .head)) | exact .tail (.tail (.tail (.tail .head)))) ?_
  refine w_assign rfl rfl ?_
  refine ws_nil ?_
  refine wc_block ?_
  refine wc_loop (σ := { j : Nat // j ≤ 80 }) (fun s => [(3, .ptr (some ⟨o3, 0⟩)), (5, .slice (some ⟨o10, 0⟩) (l.length + 80) (.exact (l.length + 80))), (6, .int .i64 ((l.length + s.1 : Nat) : Int))]) (fun s => [.obj o10 (.row 26 2 false ((roomL l (a, b) s.1).flatMap eSp)), .obj o3 (.row 26 2 false [.int .i64 a, .int .i64 b])]) (fun s => 80 - s.1) ?_ ⟨0, Nat.zero_le _⟩ (.cons rfl (.cons rfl (.cons rfl (.nil _)))) (Sel.weak (.cons (by first | exact .head | exact .tail .head | exact .tail (.tail .head) | exact .tail (.tail (.tail .head)) | exact .tail (.tail (.tail (.tail .head)))) (.cons (by first | exact .head | exact .tail .head | exact .tail (.tail .head) | exact .tail (.tail (.tail .head)) | exact .tail (.tail (.tail (.tail .head)))) .nil)))
  rintro ⟨j, hj⟩
  dsimp only
  refine wc_seq ?_
  refine wc_seq ?_
  refine wc_text ?_
  refine w_move rfl rfl ?_
  refine w_move rfl rfl ?_
  first | refine w_len rfl rfl (len_lst u22) ?_ | refine w_len rfl rfl (len_slice u22) ?_ | refine w_lenO rfl u22 rfl rfl (by first | exact .head | exact .tail .head | exact .tail (.tail .head) | exact .tail (.tail (.tail .head)) | exact .tail (.tail (.tail (.tail .head)))) ?_
  refine w_lss u3 rfl rfl rfl ?_
  refine ws_nil ?_
  refine wc_cond rfl (fun h4 => ?_) (fun h4 => ?_)
  · first | replace h4 := of_decide_eq_true h4 | replace h4 := of_decide_eq_false h4 | replace h4 := of_decide_eq_false (nb_T h4) | replace h4 := of_decide_eq_true (nb_F h4) | replace h4 := nb_T h4 | replace h4 := nb_F h4 | skip
    first | replace h4 := Int.not_lt.mp h4 | replace h4 := Int.not_le.mp h4 | replace h4 := Decidable.not_not.mp h4 | skip
    refine wc_stay ?_
    refine wc_seq ?_
    refine wc_block ?_
    refine wc_text ?_
    have hx := roomL_get l (a, b) (j := j) (by omega)
    have hlen := roomL_length l (a, b) (j := j) (by omega)
    refine w_move rfl rfl ?_
    refine w_move rfl rfl ?_
    first | refine w_ldC a26 s26 rfl rfl (by first | exact flat_aggs (by intro _; rfl) (by assumption) | exact flat_aggsI (by intro _; rfl) (by assumption) (by first | rfl | omega)) ?_ | refine w_ldP a26 s26 rfl rfl (by first | exact .head | exact .tail .head | exact .tail (.tail .head) | exact .tail (.tail (.tail .head)) | exact .tail (.tail (.tail (.tail .head)))) (by first | exact flat_aggsP (by intro _; rfl) (by assumption) (by first | rfl | omega) | rfl) ?_
    first | refine w_lidx u22 s26 rfl rfl rfl (by omega) ?_ | refine w_slidx u22 s26 rfl rfl rfl (by omega) ?_
    refine w_st s26 rfl rfl rfl (by first | exact .head | exact .tail .head | exact .tail (.tail .head) | exact .tail (.tail (.tail .head)) | exact .tail (.tail (.tail (.tail .head)))) rfl rfl (flat_setP0 (y := (a, b)) (by intro _; rfl) hx (by omega) rfl) ?_
    refine ws_nil ?_
    refine WC.recell (o := o10) ((roomL l (a, b) (j + 1)).flatMap eSp) (by first | exact .head | exact .tail .head | exact .tail (.tail .head) | exact .tail (.tail (.tail .head)) | exact .tail (.tail (.tail (.tail .head)))) (by rw [roomL_set l (a, b) (by omega)]) ?_
    refine wc_text ?_
    refine w_move rfl rfl ?_
    refine w_add u3 rfl rfl rfl (by omega) ?_
    refine w_assign rfl rfl ?_
    refine ws_nil ?_
    exact ⟨⟨j + 1, by omega⟩, by simp only; omega, (.cons rfl (.cons rfl (.cons rfl (.nil _)))), (Sel.weak (.cons (by first | exact .head | exact .tail .head | exact .tail (.tail .head) | exact .tail (.tail (.tail .head)) | exact .tail (.tail (.tail (.tail .head)))) (.cons (by first | exact .head | exact .tail .head | exact .tail (.tail .head) | exact .tail (.tail (.tail .head)) | exact .tail (.tail (.tail (.tail .head)))) .nil)))⟩
  · first | replace h4 := of_decide_eq_true h4 | replace h4 := of_decide_eq_false h4 | replace h4 := of_decide_eq_false (nb_T h4) | replace h4 := of_decide_eq_true (nb_F h4) | replace h4 := nb_T h4 | replace h4 := nb_F h4 | skip
    first | replace h4 := Int.not_lt.mp h4 | replace h4 := Int.not_le.mp h4 | replace h4 := Decidable.not_not.mp h4 | skip
    refine wc_exit ?_
    refine wc_seq ?_
    refine wc_text ?_
    refine w_move rfl rfl ?_
    refine w_assign rfl rfl ?_
    refine ws_nil ?_
    refine wc_ret ?_
    have hk2 : j = 80 := by omega
    subst hk2
    have hlen := roomL_length l (a, b) (j := 80) (by omega)
    refine ⟨_, _, _, (.cons (.tmp rfl) .nil), (.cons (by first | exact .closed rfl | exact .nil | exact .ownK rfl (by first | exact .head | exact .tail .head | exact .tail (.tail .head) | exact .tail (.tail (.tail .head)) | exact .tail (.tail (.tail (.tail .head)))) (by first | exact tab_done _ _ | exact flat_done (by intro _; rfl) _ | rfl | assumption) | exact .objK rfl (by omega) (by first | exact .head | exact .tail .head | exact .tail (.tail .head) | exact .tail (.tail (.tail .head)) | exact .tail (.tail (.tail (.tail .head)))) (by first | exact tab_length _ _ | exact flat_length (by intro _; rfl) _ | exact (flat_length (s := 1) (by intro _; rfl) _).trans (by simp only [*]) | exact (flat_length (s := 2) (by intro _; rfl) _).trans (by simp only [*]) | exact (flat_length (s := 3) (by intro _; rfl) _).trans (by simp only [*]) | exact (flat_length (s := 4) (by intro _; rfl) _).trans (by simp only [*]) | exact (flat_length (s := 5) (by intro _; rfl) _).trans (by simp only [*]) | exact (flat_length (s := 6) (by intro _; rfl) _).trans (by simp only [*]) | rfl) (by first | exact tab_done _ _ | exact flat_done (by intro _; rfl) _ | rfl | assumption)) .nil), ?_, ?_⟩
    · first | rfl | simp [doneV]
    unfold AL; rw [hlen]; rfl

theorem intact_fn (l m : List (Int × Int)) (a b : Int) (hl : l.length < 1000000) (hm : m.length < 1000000) : PFn C 21 [AL eSp l, AL eSp m, .agg [.int .i64 a, .int .i64 b]] (.bool (decide (l = m ++ List.replicate 80 (a, b)))) := by
  refine fn_view rfl rfl (fn := Try.f21) rfl rfl rfl rfl rfl ?_
  refine wc_seq ?_
  refine wc_text ?_
  refine w_box s26 rfl rfl rfl (by first | exact tab_length _ _ | rfl) (by first | exact tab_scalar _ _ | rfl) (fun o5 => ?_)
  refine w_assign rfl rfl ?_
  refine ws_nil ?_
  refine wc_seq ?_
  refine wc_seq ?_
  refine wc_text ?_
  refine w_move rfl rfl ?_
  first | refine w_len rfl rfl (len_lst u22) ?_ | refine w_len rfl rfl (len_slice u22) ?_ | refine w_lenO rfl u22 rfl rfl (by first | exact .head | exact .tail .head | exact .tail (.tail .head) | exact .tail (.tail (.tail .head)) | exact .tail (.tail (.tail (.tail .head)))) ?_
  refine w_move rfl rfl ?_
  first | refine w_len rfl rfl (len_lst u22) ?_ | refine w_len rfl rfl (len_slice u22) ?_ | refine w_lenO rfl u22 rfl rfl (by first | exact .head | exact .tail .head | exact .tail (.tail .head) | exact .tail (.tail (.tail .head)) | exact .tail (.tail (.tail (.tail .head)))) ?_
  refine w_add u3 rfl rfl rfl (by omega) ?_
  refine w_neq u3 rfl rfl rfl ?_
  refine w_move rfl rfl ?_
  refine ws_split (t := 14) rfl (fun g14 => ?_) (fun g14 => ?_)
  · first | replace g14 := of_decide_eq_true g14 | replace g14 := of_decide_eq_false g14 | replace g14 := of_decide_eq_false (nb_T g14) | replace g14 := of_decide_eq_true (nb_F g14) | replace g14 := nb_T g14 | replace g14 := nb_F g14 | skip
    first | replace g14 := Int.not_lt.mp g14 | replace g14 := Int.not_le.mp g14 | replace g14 := Decidable.not_not.mp g14 | skip
    refine ws_off rfl rfl rfl rfl ?_
    refine ws_off rfl rfl rfl rfl ?_
    refine ws_off rfl rfl rfl rfl ?_
    refine ws_off rfl rfl rfl rfl ?_
    refine ws_off rfl rfl rfl rfl ?_
    refine ws_off rfl rfl rfl rfl ?_
    refine ws_off rfl rfl rfl rfl ?_
    first | refine w_pickT rfl rfl rfl ⟨_, rfl⟩ ?_ | refine w_pickF rfl rfl ⟨_, rfl⟩ rfl ?_ | refine w_pick rfl rfl rfl rfl ?_
    refine ws_nil ?_
    refine wc_condT rfl ?_
    refine wc_seq ?_
    refine wc_text ?_
    refine w_assign rfl rfl ?_
    refine ws_nil ?_
    refine wc_ret ?_
    refine ⟨_, (.cons (.tmp rfl) .nil), ?_, rfl⟩
    refine congrArg AV.bool ?_; exact decide_eq_false (fun e => by subst e; first | exact h1 (by simp) | (simp at *; done) | (simp at g14; omega))
  · first | replace g14 := of_decide_eq_true g14 | replace g14 := of_decide_eq_false g14 | replace g14 := of_decide_eq_false (nb_T g14) | replace g14 := of_decide_eq_true (nb_F g14) | replace g14 := nb_T g14 | replace g14 := nb_F g14 | skip
    first | replace g14 := Int.not_lt.mp g14 | replace g14 := Int.not_le.mp g14 | replace g14 := Decidable.not_not.mp g14 | skip
    refine ws_on rfl rfl ?_
    refine w_move rfl rfl ?_
    refine ws_on rfl rfl ?_
    refine w_move rfl rfl ?_
    refine ws_on rfl rfl ?_
    first | refine w_len rfl rfl (len_lst u22) ?_ | refine w_len rfl rfl (len_slice u22) ?_ | refine w_lenO rfl u22 rfl rfl (by first | exact .head | exact .tail .head | exact .tail (.tail .head) | exact .tail (.tail (.tail .head)) | exact .tail (.tail (.tail (.tail .head)))) ?_
    refine ws_on rfl rfl ?_
    refine w_slice rfl rfl rfl rfl rfl (slice_al u22 s26 (by intro _; rfl) (by rfl) (by rfl) (by omega) (by omega)) ?_
    refine ws_on rfl rfl ?_
    refine w_move rfl rfl ?_
    refine ws_on rfl rfl ?_
    refine w_call rfl rfl (cw_fn rfl rfl (.cons (by first | exact .closed rfl | exact .nil | exact .ownV rfl (by first | exact .head | exact .tail .head | exact .tail (.tail .head) | exact .tail (.tail (.tail .head)) | exact .tail (.tail (.tail (.tail .head)))) (by first | exact tab_done _ _ | exact flat_done (by intro _; rfl) _ | rfl | assumption) | exact .objV rfl (by first | exact .head | exact .tail .head | exact .tail (.tail .head) | exact .tail (.tail (.tail .head)) | exact .tail (.tail (.tail (.tail .head)))) (by first | exact tab_length _ _ | exact flat_length (by intro _; rfl) _ | exact (flat_length (s := 1) (by intro _; rfl) _).trans (by simp only [*]) | exact (flat_length (s := 2) (by intro _; rfl) _).trans (by simp only [*]) | exact (flat_length (s := 3) (by intro _; rfl) _).trans (by simp only [*]) | exact (flat_length (s := 4) (by intro _; rfl) _).trans (by simp only [*]) | exact (flat_length (s := 5) (by intro _; rfl) _).trans (by simp only [*]) | exact (flat_length (s := 6) (by intro _; rfl) _).trans (by simp only [*]) | rfl) (by first | exact tab_done _ _ | exact flat_done (by intro _; rfl) _ | rfl | assumption) | exact .ownK rfl (by first | exact .head | exact .tail .head | exact .tail (.tail .head) | exact .tail (.tail (.tail .head)) | exact .tail (.tail (.tail (.tail .head)))) (by first | exact tab_done _ _ | exact flat_done (by intro _; rfl) _ | rfl | assumption) | exact .objK rfl (by omega) (by first | exact .head | exact .tail .head | exact .tail (.tail .head) | exact .tail (.tail (.tail .head)) | exact .tail (.tail (.tail (.tail .head)))) (by first | exact tab_length _ _ | exact flat_length (by intro _; rfl) _ | exact (flat_length (s := 1) (by intro _; rfl) _).trans (by simp only [*]) | exact (flat_length (s := 2) (by intro _; rfl) _).trans (by simp only [*]) | exact (flat_length (s := 3) (by intro _; rfl) _).trans (by simp only [*]) | exact (flat_length (s := 4) (by intro _; rfl) _).trans (by simp only [*]) | exact (flat_length (s := 5) (by intro _; rfl) _).trans (by simp only [*]) | exact (flat_length (s := 6) (by intro _; rfl) _).trans (by simp only [*]) | rfl) (by first | exact tab_done _ _ | exact flat_done (by intro _; rfl) _ | rfl | assumption) | exact .ptr (by first | exact .head | exact .tail .head | exact .tail (.tail .head) | exact .tail (.tail (.tail .head)) | exact .tail (.tail (.tail (.tail .head)))) (by first | exact tab_done _ _ | exact flat_done (by intro _; rfl) _ | rfl | assumption)) (.cons (by first | exact .closed rfl | exact .nil | exact .ownV rfl (by first | exact .head | exact .tail .head | exact .tail (.tail .head) | exact .tail (.tail (.tail .head)) | exact .tail (.tail (.tail (.tail .head)))) (by first | exact tab_done _ _ | exact flat_done (by intro _; rfl) _ | rfl | assumption) | exact .objV rfl (by first | exact .head | exact .tail .head | exact .tail (.tail .head) | exact .tail (.tail (.tail .head)) | exact .tail (.tail (.tail (.tail .head)))) (by first | exact tab_length _ _ | exact flat_length (by intro _; rfl) _ | exact (flat_length (s := 1) (by intro _; rfl) _).trans (by simp only [*]) | exact (flat_length (s := 2) (by intro _; rfl) _).trans (by simp only [*]) | exact (flat_length (s := 3) (by intro _; rfl) _).trans (by simp only [*]) | exact (flat_length (s := 4) (by intro _; rfl) _).trans (by simp only [*]) | exact (flat_length (s := 5) (by intro _; rfl) _).trans (by simp only [*]) | exact (flat_length (s := 6) (by intro _; rfl) _).trans (by simp only [*]) | rfl) (by first | exact tab_done _ _ | exact flat_done (by intro _; rfl) _ | rfl | assumption) | exact .ownK rfl (by first | exact .head | exact .tail .head | exact .tail (.tail .head) | exact .tail (.tail (.tail .head)) | exact .tail (.tail (.tail (.tail .head)))) (by first | exact tab_done _ _ | exact flat_done (by intro _; rfl) _ | rfl | assumption) | exact .objK rfl (by omega) (by first | exact .head | exact .tail .head | exact .tail (.tail .head) | exact .tail (.tail (.tail .head)) | exact .tail (.tail (.tail (.tail .head)))) (by first | exact tab_length _ _ | exact flat_length (by intro _; rfl) _ | exact (flat_length (s := 1) (by intro _; rfl) _).trans (by simp only [*]) | exact (flat_length (s := 2) (by intro _; rfl) _).trans (by simp only [*]) | exact (flat_length (s := 3) (by intro _; rfl) _).trans (by simp only [*]) | exact (flat_length (s := 4) (by intro _; rfl) _).trans (by simp only [*]) | exact (flat_length (s := 5) (by intro _; rfl) _).trans (by simp only [*]) | exact (flat_length (s := 6) (by intro _; rfl) _).trans (by simp only [*]) | rfl) (by first | exact tab_done _ _ | exact flat_done (by intro _; rfl) _ | rfl | assumption) | exact .ptr (by first | exact .head | exact .tail .head | exact .tail (.tail .head) | exact .tail (.tail (.tail .head)) | exact .tail (.tail (.tail (.tail .head)))) (by first | exact tab_done _ _ | exact flat_done (by intro _; rfl) _ | rfl | assumption)) .nil)) (sameSp_fn _ _ (by first | omega | exact Nat.lt_of_le_of_lt (spansTo_bound _ 200).1 (by decide) | (simp only [List.length_take, List.length_drop]; omega))) ?_)
    refine ws_on rfl rfl ?_
    refine w_not rfl rfl ?_
    first | refine w_pickT rfl rfl rfl ⟨_, rfl⟩ ?_ | refine w_pickF rfl rfl ⟨_, rfl⟩ rfl ?_ | refine w_pick rfl rfl rfl rfl ?_
    refine ws_nil ?_
    refine wc_cond rfl (fun h1 => ?_) (fun h1 => ?_)
    · first | replace h1 := of_decide_eq_true h1 | replace h1 := of_decide_eq_false h1 | replace h1 := of_decide_eq_false (nb_T h1) | replace h1 := of_decide_eq_true (nb_F h1) | replace h1 := nb_T h1 | replace h1 := nb_F h1 | skip
      first | replace h1 := Int.not_lt.mp h1 | replace h1 := Int.not_le.mp h1 | replace h1 := Decidable.not_not.mp h1 | skip
      refine wc_seq ?_
      refine wc_text ?_
      refine w_assign rfl rfl ?_
      refine ws_nil ?_
      refine wc_ret ?_
      refine ⟨_, (.cons (.tmp rfl) .nil), ?_, rfl⟩
      refine congrArg AV.bool ?_; exact decide_eq_false (fun e => by subst e; first | exact h1 (by simp) | (simp at *; done) | (simp at g14; omega))
    · first | replace h1 := of_decide_eq_true h1 | replace h1 := of_decide_eq_false h1 | replace h1 := of_decide_eq_false (nb_T h1) | replace h1 := of_decide_eq_true (nb_F h1) | replace h1 := nb_T h1 | replace h1 := nb_F h1 | skip
      first | replace h1 := Int.not_lt.mp h1 | replace h1 := Int.not_le.mp h1 | replace h1 := Decidable.not_not.mp h1 | skip
      refine wc_stay ?_
      refine wc_seq ?_
      refine wc_seq ?_
      refine wc_text ?_
      refine w_move rfl rfl ?_
      first | refine w_len rfl rfl (len_lst u22) ?_ | refine w_len rfl rfl (len_slice u22) ?_ | refine w_lenO rfl u22 rfl rfl (by first | exact .head | exact .tail .head | exact .tail (.tail .head) | exact .tail (.tail (.tail .head)) | exact .tail (.tail (.tail (.tail .head)))) ?_
      refine w_assign rfl rfl ?_
      refine ws_nil ?_
      refine wc_block ?_
      refine wc_loop (σ := { j : Nat // j ≤ 80 ∧ l.take (m.length + j) = m ++ List.replicate j (a, b) }) (fun s => [(0, AL eSp l), (5, .ptr (some ⟨o5, 0⟩)), (7, .int .i64 ((m.length + s.1 : Nat) : Int))]) (fun s => [.obj o5 (.row 26 2 false [.int .i64 a, .int .i64 b])]) (fun s => 80 - s.1) ?_ ⟨0, Nat.zero_le _, by simpa using h1⟩ (.cons rfl (.cons rfl (.cons rfl (.nil _)))) (Sel.weak (.cons (by first | exact .head | exact .tail .head | exact .tail (.tail .head) | exact .tail (.tail (.tail .head)) | exact .tail (.tail (.tail (.tail .head)))) .nil))
      rintro ⟨j, hj, hs⟩
      dsimp only
      refine wc_seq ?_
      refine wc_seq ?_
      refine wc_text ?_
      refine w_move rfl rfl ?_
      refine w_move rfl rfl ?_
      first | refine w_len rfl rfl (len_lst u22) ?_ | refine w_len rfl rfl (len_slice u22) ?_ | refine w_lenO rfl u22 rfl rfl (by first | exact .head | exact .tail .head | exact .tail (.tail .head) | exact .tail (.tail (.tail .head)) | exact .tail (.tail (.tail (.tail .head)))) ?_
      refine w_lss u3 rfl rfl rfl ?_
      refine ws_nil ?_
      refine wc_cond rfl (fun h4 => ?_) (fun h4 => ?_)
      · first | replace h4 := of_decide_eq_true h4 | replace h4 := of_decide_eq_false h4 | replace h4 := of_decide_eq_false (nb_T h4) | replace h4 := of_decide_eq_true (nb_F h4) | replace h4 := nb_T h4 | replace h4 := nb_F h4 | skip
        first | replace h4 := Int.not_lt.mp h4 | replace h4 := Int.not_le.mp h4 | replace h4 := Decidable.not_not.mp h4 | skip
        refine wc_stay ?_
        refine wc_seq ?_
        refine wc_block ?_
        refine wc_seq ?_
        refine wc_free [0, 0, 3, 7, 0, 31] (by kernel_rfl) (by kernel_rfl) (fun F => ?_)
        obtain ⟨x, hx⟩ := get_of_lt (l := l) (k := m.length + j) (by omega)
        refine wr_float F 0 rfl (by kernel_rfl) (.inl (by kernel_rfl)) ?_
        refine w_move rfl rfl ?_
        refine ws_nil ?_
        refine wr_float F 1 rfl (by kernel_rfl) (.inl (by kernel_rfl)) ?_
        refine w_move rfl rfl ?_
        refine ws_nil ?_
        refine wr_float F 2 rfl (by kernel_rfl) (.inl (by kernel_rfl)) ?_
        first | refine w_lidx u22 s26 rfl rfl rfl (by omega) ?_ | refine w_slidx u22 s26 rfl rfl rfl (by omega) ?_
        refine ws_nil ?_
        refine wr_pure F 3 rfl (by kernel_rfl) rfl rfl (pf_ldC a26 s26 rfl (by first | exact flat_aggs (by intro _; rfl) (by assumption) | exact flat_aggsI (by intro _; rfl) (by assumption) (by first | rfl | omega))) (.inl rfl) ?_
        refine wr_next F (l := [4]) (by kernel_rfl) (by simp) (.cons rfl ?_ (.nil))
        first | refine w_ldC a26 s26 rfl rfl (by first | exact flat_aggs (by intro _; rfl) (by assumption) | exact flat_aggsI (by intro _; rfl) (by assumption) (by first | rfl | omega)) ?_ | refine w_ldP a26 s26 rfl rfl (by first | exact .head | exact .tail .head | exact .tail (.tail .head) | exact .tail (.tail (.tail .head)) | exact .tail (.tail (.tail (.tail .head)))) (by first | exact flat_aggsP (by intro _; rfl) (by assumption) (by first | rfl | omega) | rfl) ?_
        refine ws_nil ?_
        refine wr_float F 5 rfl (by kernel_rfl) (.inl (by kernel_rfl)) ?_
        refine w_cneq u26 (by simp) (by simp) rfl rfl rfl (cmp_sp _ x (a, b)) ?_
        refine ws_nil ?_
        refine wr_end F (by kernel_rfl) ?_
        refine wc_cond rfl (fun h6 => ?_) (fun h6 => ?_)
        · first | replace h6 := of_decide_eq_true h6 | replace h6 := of_decide_eq_false h6 | replace h6 := of_decide_eq_false (nb_T h6) | replace h6 := of_decide_eq_true (nb_F h6) | replace h6 := nb_T h6 | replace h6 := nb_F h6 | skip
          first | replace h6 := Int.not_lt.mp h6 | replace h6 := Int.not_le.mp h6 | replace h6 := Decidable.not_not.mp h6 | skip
          refine wc_seq ?_
          refine wc_text ?_
          refine w_assign rfl rfl ?_
          refine ws_nil ?_
          refine wc_ret ?_
          refine ⟨_, (.cons (.tmp rfl) .nil), ?_, rfl⟩
          refine congrArg AV.bool ?_; exact decide_eq_false (fun e => by subst e; rw [List.getElem?_append_right (by omega)] at hx; exact h6 (rep_get hx))
        · first | replace h6 := of_decide_eq_true h6 | replace h6 := of_decide_eq_false h6 | replace h6 := of_decide_eq_false (nb_T h6) | replace h6 := of_decide_eq_true (nb_F h6) | replace h6 := nb_T h6 | replace h6 := nb_F h6 | skip
          first | replace h6 := Int.not_lt.mp h6 | replace h6 := Int.not_le.mp h6 | replace h6 := Decidable.not_not.mp h6 | skip
          refine wc_stay ?_
          refine wc_text ?_
          refine w_move rfl rfl ?_
          refine w_add u3 rfl rfl rfl (by omega) ?_
          refine w_assign rfl rfl ?_
          refine ws_nil ?_
          exact ⟨⟨j + 1, by omega, by rw [← Nat.add_assoc, take_one hx, hs, h6, List.replicate_succ', List.append_assoc]⟩, by simp only; omega, (.cons rfl (.cons rfl (.cons rfl (.nil _)))), (Sel.weak (.cons (by first | exact .head | exact .tail .head | exact .tail (.tail .head) | exact .tail (.tail (.tail .head)) | exact .tail (.tail (.tail (.tail .head)))) .nil))⟩
      · first | replace h4 := of_decide_eq_true h4 | replace h4 := of_decide_eq_false h4 | replace h4 := of_decide_eq_false (nb_T h4) | replace h4 := of_decide_eq_true (nb_F h4) | replace h4 := nb_T h4 | replace h4 := nb_F h4 | skip
        first | replace h4 := Int.not_lt.mp h4 | replace h4 := Int.not_le.mp h4 | replace h4 := Decidable.not_not.mp h4 | skip
        refine wc_exit ?_
        refine wc_seq ?_
        refine wc_text ?_
        refine w_assign rfl rfl ?_
        refine ws_nil ?_
        refine wc_ret ?_
        refine ⟨_, (.cons (.tmp rfl) .nil), ?_, rfl⟩
        refine congrArg AV.bool ?_; refine decide_eq_true ?_
        rw [List.take_of_length_le (by omega)] at hs
        rw [hs]; congr 2; omega

theorem runs_fn  : PFn C 3 [] (.bool true) := by
  refine fn_view rfl rfl (fn := Try.f3) rfl rfl rfl rfl rfl ?_
  refine wc_seq ?_
  refine wc_text ?_
  refine w_assign rfl rfl ?_
  refine ws_nil ?_
  refine wc_seq ?_
  refine wc_text ?_
  refine w_buildS (cs := [_, _, _, _]) u30 s3 z3 (by decide) rfl rfl rfl (fun o2 => ?_)
  refine w_call rfl rfl (cw_fn rfl rfl (.cons (by first | exact .closed rfl | exact .nil | exact .ownV rfl (by first | exact .head | exact .tail .head | exact .tail (.tail .head) | exact .tail (.tail (.tail .head)) | exact .tail (.tail (.tail (.tail .head)))) (by first | exact tab_done _ _ | exact flat_done (by intro _; rfl) _ | rfl | assumption) | exact .objV rfl (by first | exact .head | exact .tail .head | exact .tail (.tail .head) | exact .tail (.tail (.tail .head)) | exact .tail (.tail (.tail (.tail .head)))) (by first | exact tab_length _ _ | exact flat_length (by intro _; rfl) _ | exact (flat_length (s := 1) (by intro _; rfl) _).trans (by simp only [*]) | exact (flat_length (s := 2) (by intro _; rfl) _).trans (by simp only [*]) | exact (flat_length (s := 3) (by intro _; rfl) _).trans (by simp only [*]) | exact (flat_length (s := 4) (by intro _; rfl) _).trans (by simp only [*]) | exact (flat_length (s := 5) (by intro _; rfl) _).trans (by simp only [*]) | exact (flat_length (s := 6) (by intro _; rfl) _).trans (by simp only [*]) | rfl) (by first | exact tab_done _ _ | exact flat_done (by intro _; rfl) _ | rfl | assumption) | exact .ownK rfl (by first | exact .head | exact .tail .head | exact .tail (.tail .head) | exact .tail (.tail (.tail .head)) | exact .tail (.tail (.tail (.tail .head)))) (by first | exact tab_done _ _ | exact flat_done (by intro _; rfl) _ | rfl | assumption) | exact .objK rfl (by omega) (by first | exact .head | exact .tail .head | exact .tail (.tail .head) | exact .tail (.tail (.tail .head)) | exact .tail (.tail (.tail (.tail .head)))) (by first | exact tab_length _ _ | exact flat_length (by intro _; rfl) _ | exact (flat_length (s := 1) (by intro _; rfl) _).trans (by simp only [*]) | exact (flat_length (s := 2) (by intro _; rfl) _).trans (by simp only [*]) | exact (flat_length (s := 3) (by intro _; rfl) _).trans (by simp only [*]) | exact (flat_length (s := 4) (by intro _; rfl) _).trans (by simp only [*]) | exact (flat_length (s := 5) (by intro _; rfl) _).trans (by simp only [*]) | exact (flat_length (s := 6) (by intro _; rfl) _).trans (by simp only [*]) | rfl) (by first | exact tab_done _ _ | exact flat_done (by intro _; rfl) _ | rfl | assumption) | exact .ptr (by first | exact .head | exact .tail .head | exact .tail (.tail .head) | exact .tail (.tail (.tail .head)) | exact .tail (.tail (.tail (.tail .head)))) (by first | exact tab_done _ _ | exact flat_done (by intro _; rfl) _ | rfl | assumption)) .nil) (ofs_fn [3, 1, 2, 7] (by decide)) ?_)
  refine w_assign rfl rfl ?_
  refine ws_nil ?_
  refine wc_seq ?_
  refine wc_text ?_
  refine w_move rfl rfl ?_
  refine w_build (v := .agg [_, _]) B26 rfl rfl rfl ?_
  refine w_build (v := .agg [_, _]) B26 rfl rfl rfl ?_
  refine w_buildS (cs := [_, _, _, _]) u22 s26 z26 (by decide) rfl rfl rfl (fun o7 => ?_)
  refine w_call rfl rfl (cw_fn rfl rfl (.cons (by first | exact .closed rfl | exact .nil | exact .ownV rfl (by first | exact .head | exact .tail .head | exact .tail (.tail .head) | exact .tail (.tail (.tail .head)) | exact .tail (.tail (.tail (.tail .head)))) (by first | exact tab_done _ _ | exact flat_done (by intro _; rfl) _ | rfl | assumption) | exact .objV rfl (by first | exact .head | exact .tail .head | exact .tail (.tail .head) | exact .tail (.tail (.tail .head)) | exact .tail (.tail (.tail (.tail .head)))) (by first | exact tab_length _ _ | exact flat_length (by intro _; rfl) _ | exact (flat_length (s := 1) (by intro _; rfl) _).trans (by simp only [*]) | exact (flat_length (s := 2) (by intro _; rfl) _).trans (by simp only [*]) | exact (flat_length (s := 3) (by intro _; rfl) _).trans (by simp only [*]) | exact (flat_length (s := 4) (by intro _; rfl) _).trans (by simp only [*]) | exact (flat_length (s := 5) (by intro _; rfl) _).trans (by simp only [*]) | exact (flat_length (s := 6) (by intro _; rfl) _).trans (by simp only [*]) | rfl) (by first | exact tab_done _ _ | exact flat_done (by intro _; rfl) _ | rfl | assumption) | exact .ownK rfl (by first | exact .head | exact .tail .head | exact .tail (.tail .head) | exact .tail (.tail (.tail .head)) | exact .tail (.tail (.tail (.tail .head)))) (by first | exact tab_done _ _ | exact flat_done (by intro _; rfl) _ | rfl | assumption) | exact .objK rfl (by omega) (by first | exact .head | exact .tail .head | exact .tail (.tail .head) | exact .tail (.tail (.tail .head)) | exact .tail (.tail (.tail (.tail .head)))) (by first | exact tab_length _ _ | exact flat_length (by intro _; rfl) _ | exact (flat_length (s := 1) (by intro _; rfl) _).trans (by simp only [*]) | exact (flat_length (s := 2) (by intro _; rfl) _).trans (by simp only [*]) | exact (flat_length (s := 3) (by intro _; rfl) _).trans (by simp only [*]) | exact (flat_length (s := 4) (by intro _; rfl) _).trans (by simp only [*]) | exact (flat_length (s := 5) (by intro _; rfl) _).trans (by simp only [*]) | exact (flat_length (s := 6) (by intro _; rfl) _).trans (by simp only [*]) | rfl) (by first | exact tab_done _ _ | exact flat_done (by intro _; rfl) _ | rfl | assumption) | exact .ptr (by first | exact .head | exact .tail .head | exact .tail (.tail .head) | exact .tail (.tail (.tail .head)) | exact .tail (.tail (.tail (.tail .head)))) (by first | exact tab_done _ _ | exact flat_done (by intro _; rfl) _ | rfl | assumption)) (.cons (by first | exact .closed rfl | exact .nil | exact .ownV rfl (by first | exact .head | exact .tail .head | exact .tail (.tail .head) | exact .tail (.tail (.tail .head)) | exact .tail (.tail (.tail (.tail .head)))) (by first | exact tab_done _ _ | exact flat_done (by intro _; rfl) _ | rfl | assumption) | exact .objV rfl (by first | exact .head | exact .tail .head | exact .tail (.tail .head) | exact .tail (.tail (.tail .head)) | exact .tail (.tail (.tail (.tail .head)))) (by first | exact tab_length _ _ | exact flat_length (by intro _; rfl) _ | exact (flat_length (s := 1) (by intro _; rfl) _).trans (by simp only [*]) | exact (flat_length (s := 2) (by intro _; rfl) _).trans (by simp only [*]) | exact (flat_length (s := 3) (by intro _; rfl) _).trans (by simp only [*]) | exact (flat_length (s := 4) (by intro _; rfl) _).trans (by simp only [*]) | exact (flat_length (s := 5) (by intro _; rfl) _).trans (by simp only [*]) | exact (flat_length (s := 6) (by intro _; rfl) _).trans (by simp only [*]) | rfl) (by first | exact tab_done _ _ | exact flat_done (by intro _; rfl) _ | rfl | assumption) | exact .ownK rfl (by first | exact .head | exact .tail .head | exact .tail (.tail .head) | exact .tail (.tail (.tail .head)) | exact .tail (.tail (.tail (.tail .head)))) (by first | exact tab_done _ _ | exact flat_done (by intro _; rfl) _ | rfl | assumption) | exact .objK rfl (by omega) (by first | exact .head | exact .tail .head | exact .tail (.tail .head) | exact .tail (.tail (.tail .head)) | exact .tail (.tail (.tail (.tail .head)))) (by first | exact tab_length _ _ | exact flat_length (by intro _; rfl) _ | exact (flat_length (s := 1) (by intro _; rfl) _).trans (by simp only [*]) | exact (flat_length (s := 2) (by intro _; rfl) _).trans (by simp only [*]) | exact (flat_length (s := 3) (by intro _; rfl) _).trans (by simp only [*]) | exact (flat_length (s := 4) (by intro _; rfl) _).trans (by simp only [*]) | exact (flat_length (s := 5) (by intro _; rfl) _).trans (by simp only [*]) | exact (flat_length (s := 6) (by intro _; rfl) _).trans (by simp only [*]) | rfl) (by first | exact tab_done _ _ | exact flat_done (by intro _; rfl) _ | rfl | assumption) | exact .ptr (by first | exact .head | exact .tail .head | exact .tail (.tail .head) | exact .tail (.tail (.tail .head)) | exact .tail (.tail (.tail (.tail .head)))) (by first | exact tab_done _ _ | exact flat_done (by intro _; rfl) _ | rfl | assumption)) .nil)) (sameSp_fn _ [(1, 3), (7, 7)] (by decide +kernel)) ?_)
  refine w_move rfl rfl ?_
  refine ws_split (t := 9) rfl (fun g9 => ?_) (fun g9 => ?_)
  · first | replace g9 := of_decide_eq_true g9 | replace g9 := of_decide_eq_false g9 | replace g9 := of_decide_eq_false (nb_T g9) | replace g9 := of_decide_eq_true (nb_F g9) | replace g9 := nb_T g9 | replace g9 := nb_F g9 | skip
    first | replace g9 := Int.not_lt.mp g9 | replace g9 := Int.not_le.mp g9 | replace g9 := Decidable.not_not.mp g9 | skip
    refine ws_on rfl rfl ?_
    refine w_move rfl rfl ?_
    refine ws_on rfl rfl ?_
    refine w_buildS (cs := [_]) u30 s3 z3 (by decide) rfl rfl rfl (fun o11 => ?_)
    refine ws_on rfl rfl ?_
    refine w_call rfl rfl (cw_fn rfl rfl (.cons (by first | exact .closed rfl | exact .nil | exact .ownV rfl (by first | exact .head | exact .tail .head | exact .tail (.tail .head) | exact .tail (.tail (.tail .head)) | exact .tail (.tail (.tail (.tail .head)))) (by first | exact tab_done _ _ | exact flat_done (by intro _; rfl) _ | rfl | assumption) | exact .objV rfl (by first | exact .head | exact .tail .head | exact .tail (.tail .head) | exact .tail (.tail (.tail .head)) | exact .tail (.tail (.tail (.tail .head)))) (by first | exact tab_length _ _ | exact flat_length (by intro _; rfl) _ | exact (flat_length (s := 1) (by intro _; rfl) _).trans (by simp only [*]) | exact (flat_length (s := 2) (by intro _; rfl) _).trans (by simp only [*]) | exact (flat_length (s := 3) (by intro _; rfl) _).trans (by simp only [*]) | exact (flat_length (s := 4) (by intro _; rfl) _).trans (by simp only [*]) | exact (flat_length (s := 5) (by intro _; rfl) _).trans (by simp only [*]) | exact (flat_length (s := 6) (by intro _; rfl) _).trans (by simp only [*]) | rfl) (by first | exact tab_done _ _ | exact flat_done (by intro _; rfl) _ | rfl | assumption) | exact .ownK rfl (by first | exact .head | exact .tail .head | exact .tail (.tail .head) | exact .tail (.tail (.tail .head)) | exact .tail (.tail (.tail (.tail .head)))) (by first | exact tab_done _ _ | exact flat_done (by intro _; rfl) _ | rfl | assumption) | exact .objK rfl (by omega) (by first | exact .head | exact .tail .head | exact .tail (.tail .head) | exact .tail (.tail (.tail .head)) | exact .tail (.tail (.tail (.tail .head)))) (by first | exact tab_length _ _ | exact flat_length (by intro _; rfl) _ | exact (flat_length (s := 1) (by intro _; rfl) _).trans (by simp only [*]) | exact (flat_length (s := 2) (by intro _; rfl) _).trans (by simp only [*]) | exact (flat_length (s := 3) (by intro _; rfl) _).trans (by simp only [*]) | exact (flat_length (s := 4) (by intro _; rfl) _).trans (by simp only [*]) | exact (flat_length (s := 5) (by intro _; rfl) _).trans (by simp only [*]) | exact (flat_length (s := 6) (by intro _; rfl) _).trans (by simp only [*]) | rfl) (by first | exact tab_done _ _ | exact flat_done (by intro _; rfl) _ | rfl | assumption) | exact .ptr (by first | exact .head | exact .tail .head | exact .tail (.tail .head) | exact .tail (.tail (.tail .head)) | exact .tail (.tail (.tail (.tail .head)))) (by first | exact tab_done _ _ | exact flat_done (by intro _; rfl) _ | rfl | assumption)) .nil) (ofs_fn [2] (by decide)) ?_)
    refine ws_on rfl rfl ?_
    refine w_call rfl rfl (cw_fn rfl rfl (.cons (by first | exact .closed rfl | exact .nil | exact .ownV rfl (by first | exact .head | exact .tail .head | exact .tail (.tail .head) | exact .tail (.tail (.tail .head)) | exact .tail (.tail (.tail (.tail .head)))) (by first | exact tab_done _ _ | exact flat_done (by intro _; rfl) _ | rfl | assumption) | exact .objV rfl (by first | exact .head | exact .tail .head | exact .tail (.tail .head) | exact .tail (.tail (.tail .head)) | exact .tail (.tail (.tail (.tail .head)))) (by first | exact tab_length _ _ | exact flat_length (by intro _; rfl) _ | exact (flat_length (s := 1) (by intro _; rfl) _).trans (by simp only [*]) | exact (flat_length (s := 2) (by intro _; rfl) _).trans (by simp only [*]) | exact (flat_length (s := 3) (by intro _; rfl) _).trans (by simp only [*]) | exact (flat_length (s := 4) (by intro _; rfl) _).trans (by simp only [*]) | exact (flat_length (s := 5) (by intro _; rfl) _).trans (by simp only [*]) | exact (flat_length (s := 6) (by intro _; rfl) _).trans (by simp only [*]) | rfl) (by first | exact tab_done _ _ | exact flat_done (by intro _; rfl) _ | rfl | assumption) | exact .ownK rfl (by first | exact .head | exact .tail .head | exact .tail (.tail .head) | exact .tail (.tail (.tail .head)) | exact .tail (.tail (.tail (.tail .head)))) (by first | exact tab_done _ _ | exact flat_done (by intro _; rfl) _ | rfl | assumption) | exact .objK rfl (by omega) (by first | exact .head | exact .tail .head | exact .tail (.tail .head) | exact .tail (.tail (.tail .head)) | exact .tail (.tail (.tail (.tail .head)))) (by first | exact tab_length _ _ | exact flat_length (by intro _; rfl) _ | exact (flat_length (s := 1) (by intro _; rfl) _).trans (by simp only [*]) | exact (flat_length (s := 2) (by intro _; rfl) _).trans (by simp only [*]) | exact (flat_length (s := 3) (by intro _; rfl) _).trans (by simp only [*]) | exact (flat_length (s := 4) (by intro _; rfl) _).trans (by simp only [*]) | exact (flat_length (s := 5) (by intro _; rfl) _).trans (by simp only [*]) | exact (flat_length (s := 6) (by intro _; rfl) _).trans (by simp only [*]) | rfl) (by first | exact tab_done _ _ | exact flat_done (by intro _; rfl) _ | rfl | assumption) | exact .ptr (by first | exact .head | exact .tail .head | exact .tail (.tail .head) | exact .tail (.tail (.tail .head)) | exact .tail (.tail (.tail (.tail .head)))) (by first | exact tab_done _ _ | exact flat_done (by intro _; rfl) _ | rfl | assumption)) (.cons (by first | exact .closed rfl | exact .nil | exact .ownV rfl (by first | exact .head | exact .tail .head | exact .tail (.tail .head) | exact .tail (.tail (.tail .head)) | exact .tail (.tail (.tail (.tail .head)))) (by first | exact tab_done _ _ | exact flat_done (by intro _; rfl) _ | rfl | assumption) | exact .objV rfl (by first | exact .head | exact .tail .head | exact .tail (.tail .head) | exact .tail (.tail (.tail .head)) | exact .tail (.tail (.tail (.tail .head)))) (by first | exact tab_length _ _ | exact flat_length (by intro _; rfl) _ | exact (flat_length (s := 1) (by intro _; rfl) _).trans (by simp only [*]) | exact (flat_length (s := 2) (by intro _; rfl) _).trans (by simp only [*]) | exact (flat_length (s := 3) (by intro _; rfl) _).trans (by simp only [*]) | exact (flat_length (s := 4) (by intro _; rfl) _).trans (by simp only [*]) | exact (flat_length (s := 5) (by intro _; rfl) _).trans (by simp only [*]) | exact (flat_length (s := 6) (by intro _; rfl) _).trans (by simp only [*]) | rfl) (by first | exact tab_done _ _ | exact flat_done (by intro _; rfl) _ | rfl | assumption) | exact .ownK rfl (by first | exact .head | exact .tail .head | exact .tail (.tail .head) | exact .tail (.tail (.tail .head)) | exact .tail (.tail (.tail (.tail .head)))) (by first | exact tab_done _ _ | exact flat_done (by intro _; rfl) _ | rfl | assumption) | exact .objK rfl (by omega) (by first | exact .head | exact .tail .head | exact .tail (.tail .head) | exact .tail (.tail (.tail .head)) | exact .tail (.tail (.tail (.tail .head)))) (by first | exact tab_length _ _ | exact flat_length (by intro _; rfl) _ | exact (flat_length (s := 1) (by intro _; rfl) _).trans (by simp only [*]) | exact (flat_length (s := 2) (by intro _; rfl) _).trans (by simp only [*]) | exact (flat_length (s := 3) (by intro _; rfl) _).trans (by simp only [*]) | exact (flat_length (s := 4) (by intro _; rfl) _).trans (by simp only [*]) | exact (flat_length (s := 5) (by intro _; rfl) _).trans (by simp only [*]) | exact (flat_length (s := 6) (by intro _; rfl) _).trans (by simp only [*]) | rfl) (by first | exact tab_done _ _ | exact flat_done (by intro _; rfl) _ | rfl | assumption) | exact .ptr (by first | exact .head | exact .tail .head | exact .tail (.tail .head) | exact .tail (.tail (.tail .head)) | exact .tail (.tail (.tail (.tail .head)))) (by first | exact tab_done _ _ | exact flat_done (by intro _; rfl) _ | rfl | assumption)) .nil)) (less_fn _ _ (by decide +kernel) (by decide +kernel)) ?_)
    refine ws_on rfl rfl ?_
    refine w_build (v := .agg [_, _]) B26 rfl rfl rfl ?_
    refine ws_on rfl rfl ?_
    refine w_build (v := .agg [_, _]) B26 rfl rfl rfl ?_
    refine ws_on rfl rfl ?_
    refine w_build (v := .agg [_, _]) B26 rfl rfl rfl ?_
    refine ws_on rfl rfl ?_
    refine w_buildS (cs := [_, _, _, _, _, _]) u22 s26 z26 (by decide) rfl rfl rfl (fun o17 => ?_)
    refine ws_on rfl rfl ?_
    refine w_call rfl rfl (cw_fn rfl rfl (.cons (by first | exact .closed rfl | exact .nil | exact .ownV rfl (by first | exact .head | exact .tail .head | exact .tail (.tail .head) | exact .tail (.tail (.tail .head)) | exact .tail (.tail (.tail (.tail .head)))) (by first | exact tab_done _ _ | exact flat_done (by intro _; rfl) _ | rfl | assumption) | exact .objV rfl (by first | exact .head | exact .tail .head | exact .tail (.tail .head) | exact .tail (.tail (.tail .head)) | exact .tail (.tail (.tail (.tail .head)))) (by first | exact tab_length _ _ | exact flat_length (by intro _; rfl) _ | exact (flat_length (s := 1) (by intro _; rfl) _).trans (by simp only [*]) | exact (flat_length (s := 2) (by intro _; rfl) _).trans (by simp only [*]) | exact (flat_length (s := 3) (by intro _; rfl) _).trans (by simp only [*]) | exact (flat_length (s := 4) (by intro _; rfl) _).trans (by simp only [*]) | exact (flat_length (s := 5) (by intro _; rfl) _).trans (by simp only [*]) | exact (flat_length (s := 6) (by intro _; rfl) _).trans (by simp only [*]) | rfl) (by first | exact tab_done _ _ | exact flat_done (by intro _; rfl) _ | rfl | assumption) | exact .ownK rfl (by first | exact .head | exact .tail .head | exact .tail (.tail .head) | exact .tail (.tail (.tail .head)) | exact .tail (.tail (.tail (.tail .head)))) (by first | exact tab_done _ _ | exact flat_done (by intro _; rfl) _ | rfl | assumption) | exact .objK rfl (by omega) (by first | exact .head | exact .tail .head | exact .tail (.tail .head) | exact .tail (.tail (.tail .head)) | exact .tail (.tail (.tail (.tail .head)))) (by first | exact tab_length _ _ | exact flat_length (by intro _; rfl) _ | exact (flat_length (s := 1) (by intro _; rfl) _).trans (by simp only [*]) | exact (flat_length (s := 2) (by intro _; rfl) _).trans (by simp only [*]) | exact (flat_length (s := 3) (by intro _; rfl) _).trans (by simp only [*]) | exact (flat_length (s := 4) (by intro _; rfl) _).trans (by simp only [*]) | exact (flat_length (s := 5) (by intro _; rfl) _).trans (by simp only [*]) | exact (flat_length (s := 6) (by intro _; rfl) _).trans (by simp only [*]) | rfl) (by first | exact tab_done _ _ | exact flat_done (by intro _; rfl) _ | rfl | assumption) | exact .ptr (by first | exact .head | exact .tail .head | exact .tail (.tail .head) | exact .tail (.tail (.tail .head)) | exact .tail (.tail (.tail (.tail .head)))) (by first | exact tab_done _ _ | exact flat_done (by intro _; rfl) _ | rfl | assumption)) (.cons (by first | exact .closed rfl | exact .nil | exact .ownV rfl (by first | exact .head | exact .tail .head | exact .tail (.tail .head) | exact .tail (.tail (.tail .head)) | exact .tail (.tail (.tail (.tail .head)))) (by first | exact tab_done _ _ | exact flat_done (by intro _; rfl) _ | rfl | assumption) | exact .objV rfl (by first | exact .head | exact .tail .head | exact .tail (.tail .head) | exact .tail (.tail (.tail .head)) | exact .tail (.tail (.tail (.tail .head)))) (by first | exact tab_length _ _ | exact flat_length (by intro _; rfl) _ | exact (flat_length (s := 1) (by intro _; rfl) _).trans (by simp only [*]) | exact (flat_length (s := 2) (by intro _; rfl) _).trans (by simp only [*]) | exact (flat_length (s := 3) (by intro _; rfl) _).trans (by simp only [*]) | exact (flat_length (s := 4) (by intro _; rfl) _).trans (by simp only [*]) | exact (flat_length (s := 5) (by intro _; rfl) _).trans (by simp only [*]) | exact (flat_length (s := 6) (by intro _; rfl) _).trans (by simp only [*]) | rfl) (by first | exact tab_done _ _ | exact flat_done (by intro _; rfl) _ | rfl | assumption) | exact .ownK rfl (by first | exact .head | exact .tail .head | exact .tail (.tail .head) | exact .tail (.tail (.tail .head)) | exact .tail (.tail (.tail (.tail .head)))) (by first | exact tab_done _ _ | exact flat_done (by intro _; rfl) _ | rfl | assumption) | exact .objK rfl (by omega) (by first | exact .head | exact .tail .head | exact .tail (.tail .head) | exact .tail (.tail (.tail .head)) | exact .tail (.tail (.tail (.tail .head)))) (by first | exact tab_length _ _ | exact flat_length (by intro _; rfl) _ | exact (flat_length (s := 1) (by intro _; rfl) _).trans (by simp only [*]) | exact (flat_length (s := 2) (by intro _; rfl) _).trans (by simp only [*]) | exact (flat_length (s := 3) (by intro _; rfl) _).trans (by simp only [*]) | exact (flat_length (s := 4) (by intro _; rfl) _).trans (by simp only [*]) | exact (flat_length (s := 5) (by intro _; rfl) _).trans (by simp only [*]) | exact (flat_length (s := 6) (by intro _; rfl) _).trans (by simp only [*]) | rfl) (by first | exact tab_done _ _ | exact flat_done (by intro _; rfl) _ | rfl | assumption) | exact .ptr (by first | exact .head | exact .tail .head | exact .tail (.tail .head) | exact .tail (.tail (.tail .head)) | exact .tail (.tail (.tail (.tail .head)))) (by first | exact tab_done _ _ | exact flat_done (by intro _; rfl) _ | rfl | assumption)) .nil)) (sameSp_fn _ [(1, 1), (3, 3), (7, 7)] (by decide +kernel)) ?_)
    first | refine w_pickT rfl rfl rfl ⟨_, rfl⟩ ?_ | refine w_pickF rfl rfl ⟨_, rfl⟩ rfl ?_ | refine w_pick rfl rfl rfl rfl ?_
    refine w_move rfl rfl ?_
    refine ws_split (t := 20) rfl (fun g20 => ?_) (fun g20 => ?_)
    · first | replace g20 := of_decide_eq_true g20 | replace g20 := of_decide_eq_false g20 | replace g20 := of_decide_eq_false (nb_T g20) | replace g20 := of_decide_eq_true (nb_F g20) | replace g20 := nb_T g20 | replace g20 := nb_F g20 | skip
      first | replace g20 := Int.not_lt.mp g20 | replace g20 := Int.not_le.mp g20 | replace g20 := Decidable.not_not.mp g20 | skip
      refine ws_on rfl rfl ?_
      refine w_move rfl rfl ?_
      refine ws_on rfl rfl ?_
      refine w_call rfl rfl (cw_fn rfl rfl (.cons (by first | exact .closed rfl | exact .nil | exact .ownV rfl (by first | exact .head | exact .tail .head | exact .tail (.tail .head) | exact .tail (.tail (.tail .head)) | exact .tail (.tail (.tail (.tail .head)))) (by first | exact tab_done _ _ | exact flat_done (by intro _; rfl) _ | rfl | assumption) | exact .objV rfl (by first | exact .head | exact .tail .head | exact .tail (.tail .head) | exact .tail (.tail (.tail .head)) | exact .tail (.tail (.tail (.tail .head)))) (by first | exact tab_length _ _ | exact flat_length (by intro _; rfl) _ | exact (flat_length (s := 1) (by intro _; rfl) _).trans (by simp only [*]) | exact (flat_length (s := 2) (by intro _; rfl) _).trans (by simp only [*]) | exact (flat_length (s := 3) (by intro _; rfl) _).trans (by simp only [*]) | exact (flat_length (s := 4) (by intro _; rfl) _).trans (by simp only [*]) | exact (flat_length (s := 5) (by intro _; rfl) _).trans (by simp only [*]) | exact (flat_length (s := 6) (by intro _; rfl) _).trans (by simp only [*]) | rfl) (by first | exact tab_done _ _ | exact flat_done (by intro _; rfl) _ | rfl | assumption) | exact .ownK rfl (by first | exact .head | exact .tail .head | exact .tail (.tail .head) | exact .tail (.tail (.tail .head)) | exact .tail (.tail (.tail (.tail .head)))) (by first | exact tab_done _ _ | exact flat_done (by intro _; rfl) _ | rfl | assumption) | exact .objK rfl (by omega) (by first | exact .head | exact .tail .head | exact .tail (.tail .head) | exact .tail (.tail (.tail .head)) | exact .tail (.tail (.tail (.tail .head)))) (by first | exact tab_length _ _ | exact flat_length (by intro _; rfl) _ | exact (flat_length (s := 1) (by intro _; rfl) _).trans (by simp only [*]) | exact (flat_length (s := 2) (by intro _; rfl) _).trans (by simp only [*]) | exact (flat_length (s := 3) (by intro _; rfl) _).trans (by simp only [*]) | exact (flat_length (s := 4) (by intro _; rfl) _).trans (by simp only [*]) | exact (flat_length (s := 5) (by intro _; rfl) _).trans (by simp only [*]) | exact (flat_length (s := 6) (by intro _; rfl) _).trans (by simp only [*]) | rfl) (by first | exact tab_done _ _ | exact flat_done (by intro _; rfl) _ | rfl | assumption) | exact .ptr (by first | exact .head | exact .tail .head | exact .tail (.tail .head) | exact .tail (.tail (.tail .head)) | exact .tail (.tail (.tail (.tail .head)))) (by first | exact tab_done _ _ | exact flat_done (by intro _; rfl) _ | rfl | assumption)) .nil) (count_fn _ (by decide +kernel)) ?_)
      refine ws_on rfl rfl ?_
      refine w_eql u3 rfl rfl rfl ?_
      first | refine w_pickT rfl rfl rfl ⟨_, rfl⟩ ?_ | refine w_pickF rfl rfl ⟨_, rfl⟩ rfl ?_ | refine w_pick rfl rfl rfl rfl ?_
      refine w_assign rfl rfl ?_
      refine ws_nil ?_
      refine wc_ret ?_
      refine ⟨_, (.cons (.tmp rfl) .nil), ?_, rfl⟩
      refine congrArg AV.bool ?_; exact (decide_eq_true (by decide +kernel)).symm
    · first | replace g20 := of_decide_eq_true g20 | replace g20 := of_decide_eq_false g20 | replace g20 := of_decide_eq_false (nb_T g20) | replace g20 := of_decide_eq_true (nb_F g20) | replace g20 := nb_T g20 | replace g20 := nb_F g20 | skip
      first | replace g20 := Int.not_lt.mp g20 | replace g20 := Int.not_le.mp g20 | replace g20 := Decidable.not_not.mp g20 | skip
      exact absurd g20 (by decide +kernel)
  · first | replace g9 := of_decide_eq_true g9 | replace g9 := of_decide_eq_false g9 | replace g9 := of_decide_eq_false (nb_T g9) | replace g9 := of_decide_eq_true (nb_F g9) | replace g9 := nb_T g9 | replace g9 := nb_F g9 | skip
    first | replace g9 := Int.not_lt.mp g9 | replace g9 := Int.not_le.mp g9 | replace g9 := Decidable.not_not.mp g9 | skip
    exact absurd g9 (by decide +kernel)
end Go.Proofs.Ytlejcjgbkbmdmaa.sp
