/-
  The program walked by facts (printed by kx.py).
-/
import Derived.Test.YtlgofplbbmjdjaaGreatDoorKx6zBase
import Derived.Test.YtlgofplbbmjdjaaGreatDoorKx6zKeep
import Derived.Test.YtlgofplbbmjdjaaGreatDoorKx6zKeep
import Derived.Test.YtlgofplbbmjdjaaGreatDoorKxCp
namespace Go.Proofs.YtlgofplbbmjdjaaGreatDoor.kx
open Go Go.Proofs Go.Proofs.YtlgofplbbmjdjaaGreatDoor.BH
open Go.Proofs.YtlgofplbbmjdjaaGreatDoor.BH.Rt
open Go.Proofs.YtlgofplbbmjdjaaGreatDoor.BH.Dk (withinV withinV_in)
open Go.Proofs.YtlgofplbbmjdjaaGreatDoor.BH.Kx
set_option maxRecDepth 100000
set_option maxHeartbeats 4000000 in
theorem limits_law (ks : List KS) (ls : List (List Int)) (tt lk : Int) (nm vl : List UInt8) (hks : ks.length ≤ 9223372036854775807) (hls : ls.length ≤ 9223372036854775807) (hk : ∀ k ∈ ks, k.has.length ≤ 9223372036854775807 ∧ k.vals.length ≤ 9223372036854775807) (hl : ∀ l ∈ ls, l.length ≤ 9223372036854775807) (hnm : nm.length ≤ 9223372036854775807) (hvl : vl.length ≤ 9223372036854775807) : PFn C 4 [.agg [AL eKS ks, AL eLL ls], .int .i64 tt, .int .i64 lk, .str nm, .str vl] (.bool true) := by
  refine fn_view rfl rfl (fn := Tryz.f4) rfl rfl rfl rfl rfl ?_
  have hS := fill_sane ks ls
  have hn := withinV_in lk 1 40 (by decide)
  have ha := withinV_in tt 0 260 (by decide)
  have hW : ((limS 35).map fun x => x.1).length = 32 := by rw [List.length_map]; exact (lim_inv 35 (by omega)).2.1
  have hYN := pick_parts (fillW ks ls) (withinV tt 0 260) (withinV lk 1 40) nm (vl.take (min vl.length 4))
  have hNo := pick_nobody ks ls (withinV tt 0 260) (withinV lk 1 40)
  have hMo := pick_more (fillW ks ls) (withinV tt 0 260) (withinV lk 1 40)
  have hLs := (pick_small hS (withinV tt 0 260) (withinV lk 1 40) []).1
  refine wc_seq ?_
  refine wc_text ?_
  refine w_box (cs := [AL eKS ks, AL eLL ls]) s25 rfl rfl rfl rfl rfl (fun o5 => ?_)
  refine w_assign rfl rfl ?_
  refine ws_nil ?_
  refine WC.freezePtr (t := 5) (cs := [AL eKS ks, AL eLL ls]) rfl rfl .head rfl ?_
  refine wc_seq ?_
  refine wc_text ?_
  refine w_call rfl rfl (CallW.mono (new_fn _) ?_)
  rintro v23 _ ⟨_, rfl, o1, rfl, rfl⟩
  try simp only [List.cons_append, List.nil_append]
  refine w_call rfl rfl (CallW.mono (new_fn _) ?_)
  rintro v24 _ ⟨_, rfl, o2, rfl, rfl⟩
  try simp only [List.cons_append, List.nil_append]
  refine w_assign rfl rfl ?_
  refine w_assign rfl rfl ?_
  refine ws_nil ?_
  refine wc_seq ?_
  refine wc_seq ?_
  refine wc_text ?_
  refine w_move rfl rfl ?_
  refine w_ceql u27 (by simp) (by simp) rfl rfl rfl (cmp_ptr u27 rfl rfl) ?_
  refine w_move rfl rfl ?_
  refine ws_split (t := 27) rfl (fun g27 => ?_) (fun g27 => ?_)
  · first | replace g27 := of_decide_eq_true g27 | replace g27 := of_decide_eq_false g27 | replace g27 := of_decide_eq_false (nb_T g27) | replace g27 := of_decide_eq_true (nb_F g27) | replace g27 := nb_T g27 | replace g27 := nb_F g27 | skip
    first | replace g27 := Int.not_lt.mp g27 | replace g27 := Int.not_le.mp g27 | replace g27 := Decidable.not_not.mp g27 | skip
    first | (exact absurd g27 (by decide)) | (simp at g27)
  · first | replace g27 := of_decide_eq_true g27 | replace g27 := of_decide_eq_false g27 | replace g27 := of_decide_eq_false (nb_T g27) | replace g27 := of_decide_eq_true (nb_F g27) | replace g27 := nb_T g27 | replace g27 := nb_F g27 | skip
    first | replace g27 := Int.not_lt.mp g27 | replace g27 := Int.not_le.mp g27 | replace g27 := Decidable.not_not.mp g27 | skip
    refine ws_on rfl rfl ?_
    refine w_move rfl rfl ?_
    refine ws_on rfl rfl ?_
    refine w_ceql u27 (by simp) (by simp) rfl rfl rfl (cmp_ptr u27 rfl rfl) ?_
    first | refine w_pickT rfl rfl rfl ⟨_, rfl⟩ ?_ | refine w_pickF rfl rfl ⟨_, rfl⟩ rfl ?_ | refine w_pick rfl rfl rfl rfl ?_
    refine w_move rfl rfl ?_
    refine ws_split (t := 31) rfl (fun g31 => ?_) (fun g31 => ?_)
    · first | replace g31 := of_decide_eq_true g31 | replace g31 := of_decide_eq_false g31 | replace g31 := of_decide_eq_false (nb_T g31) | replace g31 := of_decide_eq_true (nb_F g31) | replace g31 := nb_T g31 | replace g31 := nb_F g31 | skip
      first | replace g31 := Int.not_lt.mp g31 | replace g31 := Int.not_le.mp g31 | replace g31 := Decidable.not_not.mp g31 | skip
      first | (exact absurd g31 (by decide)) | (simp at g31)
    · first | replace g31 := of_decide_eq_true g31 | replace g31 := of_decide_eq_false g31 | replace g31 := of_decide_eq_false (nb_T g31) | replace g31 := of_decide_eq_true (nb_F g31) | replace g31 := nb_T g31 | replace g31 := nb_F g31 | skip
      first | replace g31 := Int.not_lt.mp g31 | replace g31 := Int.not_le.mp g31 | replace g31 := Decidable.not_not.mp g31 | skip
      refine ws_on rfl rfl ?_
      first | refine w_ldC a25 s25 rfl rfl agc ?_ | refine w_ldP a25 s25 rfl rfl tk agp ?_
      refine ws_on rfl rfl ?_
      refine w_move rfl rfl ?_
      refine ws_on rfl rfl ?_
      refine w_func rfl rfl rfl ?_
      refine ws_on rfl rfl ?_
      refine w_call rfl rfl (CallW.mono (CallW.take tk (fillS_in o1 ks ls hks hls hk hl _)) ?_)
      rintro _ _ ⟨_, rfl, rfl, rfl⟩
      try simp only [List.cons_append, List.nil_append]
      try simp only [List.cons_append, List.nil_append]
      refine ws_on rfl rfl ?_
      refine w_not rfl rfl ?_
      first | refine w_pickT rfl rfl rfl ⟨_, rfl⟩ ?_ | refine w_pickF rfl rfl ⟨_, rfl⟩ rfl ?_ | refine w_pick rfl rfl rfl rfl ?_
      refine ws_nil ?_
      refine wc_cond rfl (fun h2 => ?_) (fun h2 => ?_)
      · first | replace h2 := of_decide_eq_true h2 | replace h2 := of_decide_eq_false h2 | replace h2 := of_decide_eq_false (nb_T h2) | replace h2 := of_decide_eq_true (nb_F h2) | replace h2 := nb_T h2 | replace h2 := nb_F h2 | skip
        first | replace h2 := Int.not_lt.mp h2 | replace h2 := Int.not_le.mp h2 | replace h2 := Decidable.not_not.mp h2 | skip
        first | (exact absurd h2 (by decide)) | (simp at h2)
      · skip
        refine wc_stay ?_
        refine wc_seq ?_
        refine wc_seq ?_
        refine wc_text ?_
        refine w_move rfl rfl ?_
        refine ws_nil ?_
        refine wc_block ?_
        refine wc_loop (σ := { i : Nat // i ≤ 35 }) (fun u => [(1, .int .i64 tt), (2, .int .i64 lk), (3, .str nm), (4, .str vl), (11, .ptr (some ⟨o1, 0⟩)), (12, .ptr (some ⟨o2, 0⟩)), (38, .int .i64 (u.1 : Nat))]) (fun u => [hiS o1 (fillW ks ls), hiS o2 (limS u.1)]) (fun u => 35 - u.1) ?_ ⟨0, Nat.zero_le _⟩ (.cons rfl (.cons rfl (.cons rfl (.cons rfl (.cons rfl (.cons rfl (.cons rfl (.nil _)))))))) (Sel.weak (.cons tk (.cons tk .nil)))
        rintro ⟨i, hi⟩
        try dsimp only
        refine wc_seq ?_
        refine wc_text ?_
        refine w_lss u3 rfl rfl rfl ?_
        refine ws_nil ?_
        refine wc_seq ?_
        refine wc_cond rfl (fun h5 => ?_) (fun h5 => ?_)
        · replace h5 := of_decide_eq_true h5
          refine wc_stay ?_
          refine wc_seq ?_
          refine wc_block ?_
          refine wc_seq ?_
          refine wc_text ?_
          refine w_move rfl rfl ?_
          refine w_assign rfl rfl ?_
          refine ws_nil ?_
          refine wc_seq ?_
          refine wc_text ?_
          refine w_move rfl rfl ?_
          refine w_add u3 rfl rfl rfl (by omega) ?_
          refine w_conv rfl rfl (conv_int u3 u5) ?_
          rw [lb_wrap (by omega)]
          refine w_buildSF (cs := [lb i].flatMap eB) u40 s5 z5 (by decide) rfl rfl rfl (by decide) rfl rfl ?_
          refine w_text (l := [lb i]) u9 u40 u5 rfl rfl ?_
          refine w_build (v := .agg [_, _]) B42 rfl rfl rfl ?_
          refine w_buildSF (cs := (setL i).flatMap eL) u43 s42 z42 (by decide) rfl rfl rfl (by decide) rfl rfl ?_
          refine w_assign rfl rfl ?_
          refine ws_nil ?_
          refine wc_seq ?_
          refine wc_text ?_
          refine w_assign rfl rfl ?_
          refine ws_nil ?_
          refine wc_seq ?_
          refine wc_seq ?_
          refine wc_text ?_
          refine w_move rfl rfl ?_
          refine w_geq u3 rfl rfl rfl ?_
          refine ws_nil ?_
          refine wc_cond rfl (fun h9 => ?_) (fun h9 => ?_)
          · replace h9 := of_decide_eq_true h9
            refine wc_text ?_
            refine w_assign rfl rfl ?_
            refine ws_nil ?_
            refine wc_seq ?_
            refine wc_text ?_
            refine w_move rfl rfl ?_
            refine w_move rfl rfl ?_
            refine w_move rfl rfl ?_
            refine w_build (v := .agg [_, _]) B46 rfl rfl rfl ?_
            refine w_call rfl rfl (CallW.mono (CallW.take tk (put_fn o2 (limS i) (lim_inv i (by omega)).1 (setL i) ⟨i, 0⟩ (show 1 ≤ 100000 by decide) _)) ?_)
            rintro _ _ ⟨rfl, rfl⟩
            rw [(lim_inv i (by omega)).2.2.2 (by omega)]
            try simp only [List.cons_append, List.nil_append]
            refine w_move rfl rfl ?_
            refine w_neq u44 rfl rfl rfl ?_
            refine ws_nil ?_
            refine wc_cond rfl (fun h11 => ?_) (fun h11 => ?_)
            · first | replace h11 := of_decide_eq_true h11 | replace h11 := of_decide_eq_false h11 | replace h11 := of_decide_eq_false (nb_T h11) | replace h11 := of_decide_eq_true (nb_F h11) | replace h11 := nb_T h11 | replace h11 := nb_F h11 | skip
              first | replace h11 := Int.not_lt.mp h11 | replace h11 := Int.not_le.mp h11 | replace h11 := Decidable.not_not.mp h11 | skip
              first | exact absurd (if_pos (by omega)) h11 | exact absurd (if_neg (by omega)) h11
            · skip
              refine wc_stay ?_
              refine wc_text ?_
              refine w_add u3 rfl rfl rfl (by omega) ?_
              refine w_move rfl rfl ?_
              refine ws_nil ?_
              exact ⟨⟨i + 1, by omega⟩, by simp only; omega, (.cons rfl (.cons rfl (.cons rfl (.cons rfl (.cons rfl (.cons rfl (.cons rfl (.nil _)))))))), (Sel.weak (.cons tk (.cons tk .nil)))⟩
          · replace h9 := of_decide_eq_false h9
            refine wc_stay ?_
            refine wc_seq ?_
            refine wc_text ?_
            refine w_move rfl rfl ?_
            refine w_move rfl rfl ?_
            refine w_move rfl rfl ?_
            refine w_build (v := .agg [_, _]) B46 rfl rfl rfl ?_
            refine w_call rfl rfl (CallW.mono (CallW.take tk (put_fn o2 (limS i) (lim_inv i (by omega)).1 (setL i) ⟨i, 0⟩ (show 1 ≤ 100000 by decide) _)) ?_)
            rintro _ _ ⟨rfl, rfl⟩
            rw [(lim_inv i (by omega)).2.2.2 (by omega)]
            try simp only [List.cons_append, List.nil_append]
            refine w_move rfl rfl ?_
            refine w_neq u44 rfl rfl rfl ?_
            refine ws_nil ?_
            refine wc_cond rfl (fun h11 => ?_) (fun h11 => ?_)
            · first | replace h11 := of_decide_eq_true h11 | replace h11 := of_decide_eq_false h11 | replace h11 := of_decide_eq_false (nb_T h11) | replace h11 := of_decide_eq_true (nb_F h11) | replace h11 := nb_T h11 | replace h11 := nb_F h11 | skip
              first | replace h11 := Int.not_lt.mp h11 | replace h11 := Int.not_le.mp h11 | replace h11 := Decidable.not_not.mp h11 | skip
              first | exact absurd (if_pos (by omega)) h11 | exact absurd (if_neg (by omega)) h11
            · skip
              refine wc_stay ?_
              refine wc_text ?_
              refine w_add u3 rfl rfl rfl (by omega) ?_
              refine w_move rfl rfl ?_
              refine ws_nil ?_
              exact ⟨⟨i + 1, by omega⟩, by simp only; omega, (.cons rfl (.cons rfl (.cons rfl (.cons rfl (.cons rfl (.cons rfl (.cons rfl (.nil _)))))))), (Sel.weak (.cons tk (.cons tk .nil)))⟩
        · replace h5 := of_decide_eq_false h5
          obtain rfl : i = 35 := by omega
          refine wc_exit ?_
          refine wc_seq ?_
          refine wc_text ?_
          refine w_move rfl rfl ?_
          refine w_call rfl rfl (cw_fn rfl rfl (.cons fz (.cons fz (.cons fz .nil))) (within_fn tt 0 260 (by omega) (by omega) (by omega)) ?_)
          refine w_move rfl rfl ?_
          refine w_call rfl rfl (cw_fn rfl rfl (.cons fz (.cons fz (.cons fz .nil))) (within_fn lk 1 40 (by omega) (by omega) (by omega)) ?_)
          refine w_assign rfl rfl ?_
          refine w_assign rfl rfl ?_
          refine ws_nil ?_
          refine wc_seq ?_
          refine wc_text ?_
          refine w_move rfl rfl ?_
          refine w_move rfl rfl ?_
          refine w_len rfl rfl (len_str u9) ?_
          refine w_min rfl rfl rfl ?_
          rw [show min (vl.length : Int) 4 = ((min vl.length 4 : Nat) : Int) by omega]
          refine w_slice rfl rfl rfl rfl rfl (slice_str (i := 0) (j := min vl.length 4) u9 (by rfl) (by rfl) (by omega) (by omega)) ?_
          simp only [List.drop_zero, Nat.sub_zero]
          refine w_assign rfl rfl ?_
          refine ws_nil ?_
          refine wc_seq ?_
          refine wc_text ?_
          refine w_move rfl rfl ?_
          refine w_move rfl rfl ?_
          refine w_move rfl rfl ?_
          refine w_call rfl rfl (CallW.mono (CallW.take tk (CallW.leArgs (.cons (VRLe.refl _) (.cons (VRLe.refl _) (.cons (VRLe.refl _) (.cons (nil_le false true rfl) .nil)))) (pick_fn o1 (fillW ks ls) hS (withinV tt 0 260) (withinV lk 1 40) [] (by omega) (by omega) (by first | decide | (simp only [List.length_cons, List.length_nil]; omega)) _))) ?_)
          rintro _ _ ⟨rfl, rfl⟩
          try simp only [List.cons_append, List.nil_append]
          refine w_assign rfl rfl ?_
          refine ws_nil ?_
          refine wc_seq ?_
          refine wc_text ?_
          refine w_move rfl rfl ?_
          refine w_move rfl rfl ?_
          refine w_move rfl rfl ?_
          refine w_move rfl rfl ?_
          refine w_move rfl rfl ?_
          refine w_build (v := .agg [_, _, _]) B48 rfl rfl rfl ?_
          refine w_buildSF (cs := ([⟨nm, (vl.take (min vl.length 4)), 1⟩] : List MD).flatMap eM) u26 s48 z48 (by decide) rfl rfl rfl (by decide) rfl rfl ?_
          refine w_call rfl rfl (CallW.mono (CallW.take tk (pick_fn o1 (fillW ks ls) hS (withinV tt 0 260) (withinV lk 1 40) [⟨nm, (vl.take (min vl.length 4)), 1⟩] (by omega) (by omega) (by first | decide | (simp only [List.length_cons, List.length_nil]; omega)) _)) ?_)
          rintro _ _ ⟨rfl, rfl⟩
          try simp only [List.cons_append, List.nil_append]
          refine w_move rfl rfl ?_
          refine w_move rfl rfl ?_
          refine w_move rfl rfl ?_
          refine w_move rfl rfl ?_
          refine w_move rfl rfl ?_
          refine w_build (v := .agg [_, _, _]) B48 rfl rfl rfl ?_
          refine w_buildSF (cs := ([⟨nm, (vl.take (min vl.length 4)), 2⟩] : List MD).flatMap eM) u26 s48 z48 (by decide) rfl rfl rfl (by decide) rfl rfl ?_
          refine w_call rfl rfl (CallW.mono (CallW.take tk (pick_fn o1 (fillW ks ls) hS (withinV tt 0 260) (withinV lk 1 40) [⟨nm, (vl.take (min vl.length 4)), 2⟩] (by omega) (by omega) (by first | decide | (simp only [List.length_cons, List.length_nil]; omega)) _)) ?_)
          rintro _ _ ⟨rfl, rfl⟩
          try simp only [List.cons_append, List.nil_append]
          refine w_assign rfl rfl ?_
          refine w_assign rfl rfl ?_
          refine ws_nil ?_
          refine wc_seq ?_
          refine wc_text ?_
          refine w_move rfl rfl ?_
          refine w_move rfl rfl ?_
          refine w_move rfl rfl ?_
          refine w_build (v := .agg [_, _, _]) B48 rfl rfl rfl ?_
          refine w_buildSF (cs := ([⟨[110, 97, 109, 101], [110, 111, 98, 111, 100, 121], 1⟩] : List MD).flatMap eM) u26 s48 z48 (by decide) rfl rfl rfl (by decide) rfl rfl ?_
          refine w_call rfl rfl (CallW.mono (CallW.take tk (pick_fn o1 (fillW ks ls) hS (withinV tt 0 260) (withinV lk 1 40) [⟨[110, 97, 109, 101], [110, 111, 98, 111, 100, 121], 1⟩] (by omega) (by omega) (by first | decide | (simp only [List.length_cons, List.length_nil]; omega)) _)) ?_)
          rintro _ _ ⟨rfl, rfl⟩
          try simp only [List.cons_append, List.nil_append]
          refine w_assign rfl rfl ?_
          refine ws_nil ?_
          refine wc_seq ?_
          refine wc_text ?_
          refine w_move rfl rfl ?_
          refine w_call rfl rfl (CallW.mono (CallW.take tk (sets_fn o2 (limS 35) (lim_inv 35 (by omega)).1 _)) ?_)
          rintro _ _ ⟨rfl, rfl⟩
          try simp only [List.cons_append, List.nil_append]
          first | refine w_len rfl rfl (len_lst u49) ?_ | refine w_len rfl rfl (len_slice u49) ?_ | refine w_lenO rfl u49 rfl rfl tk ?_
          refine w_eql u3 rfl rfl rfl ?_
          refine w_move rfl rfl ?_
          refine ws_split (t := 97) rfl (fun g97 => ?_) (fun g97 => ?_)
          · first | replace g97 := of_decide_eq_true g97 | replace g97 := of_decide_eq_false g97 | replace g97 := of_decide_eq_false (nb_T g97) | replace g97 := of_decide_eq_true (nb_F g97) | replace g97 := nb_T g97 | replace g97 := nb_F g97 | skip
            first | replace g97 := Int.not_lt.mp g97 | replace g97 := Int.not_le.mp g97 | replace g97 := Decidable.not_not.mp g97 | skip
            refine ws_on rfl rfl ?_
            refine w_move rfl rfl ?_
            refine ws_on rfl rfl ?_
            first | refine w_len rfl rfl (len_lst u36) ?_ | refine w_len rfl rfl (len_slice u36) ?_ | refine w_lenO rfl u36 rfl rfl tk ?_
            refine ws_on rfl rfl ?_
            refine w_move rfl rfl ?_
            refine ws_on rfl rfl ?_
            first | refine w_len rfl rfl (len_lst u36) ?_ | refine w_len rfl rfl (len_slice u36) ?_ | refine w_lenO rfl u36 rfl rfl tk ?_
            refine ws_on rfl rfl ?_
            refine w_add u3 rfl rfl rfl (by omega) ?_
            refine ws_on rfl rfl ?_
            refine w_move rfl rfl ?_
            refine ws_on rfl rfl ?_
            first | refine w_len rfl rfl (len_lst u36) ?_ | refine w_len rfl rfl (len_slice u36) ?_ | refine w_lenO rfl u36 rfl rfl tk ?_
            refine ws_on rfl rfl ?_
            refine w_eql u3 rfl rfl rfl ?_
            first | refine w_pickT rfl rfl rfl ⟨_, rfl⟩ ?_ | refine w_pickF rfl rfl ⟨_, rfl⟩ rfl ?_ | refine w_pick rfl rfl rfl rfl ?_
            refine w_move rfl rfl ?_
            refine ws_split (t := 107) rfl (fun g107 => ?_) (fun g107 => ?_)
            · first | replace g107 := of_decide_eq_true g107 | replace g107 := of_decide_eq_false g107 | replace g107 := of_decide_eq_false (nb_T g107) | replace g107 := of_decide_eq_true (nb_F g107) | replace g107 := nb_T g107 | replace g107 := nb_F g107 | skip
              first | replace g107 := Int.not_lt.mp g107 | replace g107 := Int.not_le.mp g107 | replace g107 := Decidable.not_not.mp g107 | skip
              refine ws_on rfl rfl ?_
              refine w_move rfl rfl ?_
              refine ws_on rfl rfl ?_
              first | refine w_len rfl rfl (len_lst u36) ?_ | refine w_len rfl rfl (len_slice u36) ?_ | refine w_lenO rfl u36 rfl rfl tk ?_
              refine ws_on rfl rfl ?_
              refine w_eql u3 rfl rfl rfl ?_
              first | refine w_pickT rfl rfl rfl ⟨_, rfl⟩ ?_ | refine w_pickF rfl rfl ⟨_, rfl⟩ rfl ?_ | refine w_pick rfl rfl rfl rfl ?_
              refine w_move rfl rfl ?_
              refine ws_split (t := 112) rfl (fun g112 => ?_) (fun g112 => ?_)
              · first | replace g112 := of_decide_eq_true g112 | replace g112 := of_decide_eq_false g112 | replace g112 := of_decide_eq_false (nb_T g112) | replace g112 := of_decide_eq_true (nb_F g112) | replace g112 := nb_T g112 | replace g112 := nb_F g112 | skip
                first | replace g112 := Int.not_lt.mp g112 | replace g112 := Int.not_le.mp g112 | replace g112 := Decidable.not_not.mp g112 | skip
                refine ws_on rfl rfl ?_
                refine w_move rfl rfl ?_
                refine ws_on rfl rfl ?_
                refine w_move rfl rfl ?_
                refine ws_on rfl rfl ?_
                refine w_move rfl rfl ?_
                refine ws_on rfl rfl ?_
                refine w_add u3 rfl rfl rfl (by omega) ?_
                refine ws_on rfl rfl ?_
                refine w_call rfl rfl (CallW.mono (CallW.take tk (CallW.leArgs (.cons (VRLe.refl _) (.cons (VRLe.refl _) (.cons (VRLe.refl _) (.cons (nil_le false true rfl) .nil)))) (pick_fn o1 (fillW ks ls) hS (withinV tt 0 260) ((withinV lk 1 40) + 40) [] (by omega) (by omega) (by first | decide | (simp only [List.length_cons, List.length_nil]; omega)) _))) ?_)
                rintro _ _ ⟨rfl, rfl⟩
                try simp only [List.cons_append, List.nil_append]
                refine ws_on rfl rfl ?_
                first | refine w_len rfl rfl (len_lst u36) ?_ | refine w_len rfl rfl (len_slice u36) ?_ | refine w_lenO rfl u36 rfl rfl tk ?_
                refine ws_on rfl rfl ?_
                refine w_move rfl rfl ?_
                refine ws_on rfl rfl ?_
                first | refine w_len rfl rfl (len_lst u36) ?_ | refine w_len rfl rfl (len_slice u36) ?_ | refine w_lenO rfl u36 rfl rfl tk ?_
                refine ws_on rfl rfl ?_
                refine w_geq u3 rfl rfl rfl ?_
                first | refine w_pickT rfl rfl rfl ⟨_, rfl⟩ ?_ | refine w_pickF rfl rfl ⟨_, rfl⟩ rfl ?_ | refine w_pick rfl rfl rfl rfl ?_
                refine w_move rfl rfl ?_
                refine ws_split (t := 123) rfl (fun g123 => ?_) (fun g123 => ?_)
                · first | replace g123 := of_decide_eq_true g123 | replace g123 := of_decide_eq_false g123 | replace g123 := of_decide_eq_false (nb_T g123) | replace g123 := of_decide_eq_true (nb_F g123) | replace g123 := nb_T g123 | replace g123 := nb_F g123 | skip
                  first | replace g123 := Int.not_lt.mp g123 | replace g123 := Int.not_le.mp g123 | replace g123 := Decidable.not_not.mp g123 | skip
                  refine ws_on rfl rfl ?_
                  refine w_call rfl rfl (cw_fn rfl rfl .nil (runs_law) ?_)
                  first | refine w_pickT rfl rfl rfl ⟨_, rfl⟩ ?_ | refine w_pickF rfl rfl ⟨_, rfl⟩ rfl ?_ | refine w_pick rfl rfl rfl rfl ?_
                  refine w_assign rfl rfl ?_
                  refine ws_nil ?_
                  refine wc_ret ?_
                  refine ⟨_, (.cons (.tmp rfl) .nil), ?_, rfl⟩
                  rfl
                · first | replace g123 := of_decide_eq_true g123 | replace g123 := of_decide_eq_false g123 | replace g123 := of_decide_eq_false (nb_T g123) | replace g123 := of_decide_eq_true (nb_F g123) | replace g123 := nb_T g123 | replace g123 := nb_F g123 | skip
                  first | replace g123 := Int.not_lt.mp g123 | replace g123 := Int.not_le.mp g123 | replace g123 := Decidable.not_not.mp g123 | skip
                  omega
              · first | replace g112 := of_decide_eq_true g112 | replace g112 := of_decide_eq_false g112 | replace g112 := of_decide_eq_false (nb_T g112) | replace g112 := of_decide_eq_true (nb_F g112) | replace g112 := nb_T g112 | replace g112 := nb_F g112 | skip
                first | replace g112 := Int.not_lt.mp g112 | replace g112 := Int.not_le.mp g112 | replace g112 := Decidable.not_not.mp g112 | skip
                omega
            · first | replace g107 := of_decide_eq_true g107 | replace g107 := of_decide_eq_false g107 | replace g107 := of_decide_eq_false (nb_T g107) | replace g107 := of_decide_eq_true (nb_F g107) | replace g107 := nb_T g107 | replace g107 := nb_F g107 | skip
              first | replace g107 := Int.not_lt.mp g107 | replace g107 := Int.not_le.mp g107 | replace g107 := Decidable.not_not.mp g107 | skip
              omega
          · first | replace g97 := of_decide_eq_true g97 | replace g97 := of_decide_eq_false g97 | replace g97 := of_decide_eq_false (nb_T g97) | replace g97 := of_decide_eq_true (nb_F g97) | replace g97 := nb_T g97 | replace g97 := nb_F g97 | skip
            first | replace g97 := Int.not_lt.mp g97 | replace g97 := Int.not_le.mp g97 | replace g97 := Decidable.not_not.mp g97 | skip
            omega
end Go.Proofs.YtlgofplbbmjdjaaGreatDoor.kx
