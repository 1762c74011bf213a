/-
  The program walked by facts (printed by kx.py).
-/
import Derived.Test.YtlgofplbbmjdjaaGreatDoorKx6zBase
import Derived.Test.YtlgofplbbmjdjaaGreatDoorKx6zKeep
import Derived.Test.YtlgofplbbmjdjaaGreatDoorKx6zKeep
import Derived.Test.YtlgofplbbmjdjaaGreatDoorKxC
namespace Go.Proofs.YtlgofplbbmjdjaaGreatDoor.kx
open Go Go.Proofs Go.Proofs.YtlgofplbbmjdjaaGreatDoor.BH
open Go.Proofs.YtlgofplbbmjdjaaGreatDoor.BH.Rt
open Go.Proofs.YtlgofplbbmjdjaaGreatDoor.BH.Dk (withinV withinV_in)
open Go.Proofs.YtlgofplbbmjdjaaGreatDoor.BH.Kx
set_option maxRecDepth 100000
set_option maxHeartbeats 4000000 in
theorem changes_law (ks : List KS) (ls : List (List Int)) (lk fr tt : Int) (ms : List MD) (hks : ks.length ≤ 9223372036854775807) (hls : ls.length ≤ 9223372036854775807) (hk : ∀ k ∈ ks, k.has.length ≤ 9223372036854775807 ∧ k.vals.length ≤ 9223372036854775807) (hl : ∀ l ∈ ls, l.length ≤ 9223372036854775807) (hm : ms.length ≤ 9223372036854775807) : PFn C 3 [.agg [AL eKS ks, AL eLL ls], .int .i64 lk, .int .i64 fr, .int .i64 tt, AL eM ms] (.bool true) := by
  refine fn_view rfl rfl (fn := Tryz.f3) rfl rfl rfl rfl rfl ?_
  have hS := fill_sane ks ls
  have hn := withinV_in lk 1 40 (by decide)
  have ha := withinV_in fr 0 200 (by decide)
  have hb := withinV_in tt (withinV fr 0 200) 260 (by omega)
  have hml : (ms.take (min ms.length 3)).length ≤ 3 := by rw [List.length_take]; omega
  have hcl := chgS_len hS (withinV lk 1 40) (withinV fr 0 200) (withinV tt (withinV fr 0 200) 260) (ms.take (min ms.length 3))
  refine wc_seq ?_
  refine wc_text ?_
  refine w_box (cs := [AL eKS ks, AL eLL ls]) s25 rfl rfl rfl rfl rfl (fun o5 => ?_)
  refine w_assign rfl rfl ?_
  refine ws_nil ?_
  refine WC.freezePtr (t := 5) (cs := [AL eKS ks, AL eLL ls]) rfl rfl .head rfl ?_
  refine wc_seq ?_
  refine wc_text ?_
  refine w_call rfl rfl (CallW.mono (new_fn _) ?_)
  rintro v21 _ ⟨_, rfl, o1, rfl, rfl⟩
  try simp only [List.cons_append, List.nil_append]
  refine w_assign rfl rfl ?_
  refine ws_nil ?_
  refine wc_seq ?_
  refine wc_seq ?_
  refine wc_text ?_
  refine w_move rfl rfl ?_
  refine w_ceql u27 (by simp) (by simp) rfl rfl rfl (cmp_ptr u27 rfl rfl) ?_
  refine w_move rfl rfl ?_
  refine ws_split (t := 24) rfl (fun g24 => ?_) (fun g24 => ?_)
  · first | replace g24 := of_decide_eq_true g24 | replace g24 := of_decide_eq_false g24 | replace g24 := of_decide_eq_false (nb_T g24) | replace g24 := of_decide_eq_true (nb_F g24) | replace g24 := nb_T g24 | replace g24 := nb_F g24 | skip
    first | replace g24 := Int.not_lt.mp g24 | replace g24 := Int.not_le.mp g24 | replace g24 := Decidable.not_not.mp g24 | skip
    first | (exact absurd g24 (by decide)) | (simp at g24)
  · first | replace g24 := of_decide_eq_true g24 | replace g24 := of_decide_eq_false g24 | replace g24 := of_decide_eq_false (nb_T g24) | replace g24 := of_decide_eq_true (nb_F g24) | replace g24 := nb_T g24 | replace g24 := nb_F g24 | skip
    first | replace g24 := Int.not_lt.mp g24 | replace g24 := Int.not_le.mp g24 | replace g24 := Decidable.not_not.mp g24 | skip
    refine ws_on rfl rfl ?_
    first | refine w_ldC a25 s25 rfl rfl agc ?_ | refine w_ldP a25 s25 rfl rfl tk agp ?_
    refine ws_on rfl rfl ?_
    refine w_move rfl rfl ?_
    refine ws_on rfl rfl ?_
    refine w_func rfl rfl rfl ?_
    refine ws_on rfl rfl ?_
    refine w_call rfl rfl (CallW.mono (fillS_in o1 ks ls hks hls hk hl _) ?_)
    rintro _ _ ⟨_, rfl, rfl, rfl⟩
    try simp only [List.cons_append, List.nil_append]
    try simp only [List.cons_append, List.nil_append]
    refine ws_on rfl rfl ?_
    refine w_not rfl rfl ?_
    first | refine w_pickT rfl rfl rfl ⟨_, rfl⟩ ?_ | refine w_pickF rfl rfl ⟨_, rfl⟩ rfl ?_ | refine w_pick rfl rfl rfl rfl ?_
    refine ws_nil ?_
    refine wc_cond rfl (fun h2 => ?_) (fun h2 => ?_)
    · first | replace h2 := of_decide_eq_true h2 | replace h2 := of_decide_eq_false h2 | replace h2 := of_decide_eq_false (nb_T h2) | replace h2 := of_decide_eq_true (nb_F h2) | replace h2 := nb_T h2 | replace h2 := nb_F h2 | skip
      first | replace h2 := Int.not_lt.mp h2 | replace h2 := Int.not_le.mp h2 | replace h2 := Decidable.not_not.mp h2 | skip
      first | (exact absurd h2 (by decide)) | (simp at h2)
    · skip
      refine wc_stay ?_
      refine wc_seq ?_
      refine wc_text ?_
      refine w_buildS (cs := []) u26 s48 z48 (by decide) rfl rfl rfl (fun o31 => ?_)
      refine w_move rfl rfl ?_
      refine w_move rfl rfl ?_
      first | refine w_len rfl rfl (len_lst u26) ?_ | refine w_len rfl rfl (len_slice u26) ?_ | refine w_lenO rfl u26 rfl rfl tk ?_
      refine w_min rfl rfl rfl ?_
      rw [show min (ms.length : Int) 3 = ((min ms.length 3 : Nat) : Int) by omega]
      refine w_slice rfl rfl rfl rfl rfl (slice_al (i := 0) (j := min ms.length 3) u26 s48 (by intro _; rfl) (by rfl) (by rfl) (by omega) (by omega)) ?_
      simp only [List.drop_zero, Nat.sub_zero]
      refine WS.ownEmpty (v := .slice (some ⟨o31, 0⟩) 0 (.exact 0)) (.inl ⟨_, rfl⟩) 48 3 ?_
      refine w_appO (enc := eM) (l := []) (m := (ms.take (min ms.length 3))) rfl u26 s48 b48 z48 u26 (by simp) rfl rfl rfl tk nw (by unfold bigBy; first | omega | (simp only [List.length_nil, List.length_cons, List.length_append, List.length_take, List.length_drop]; omega)) (by unfold bigBy; first | omega | (simp only [List.length_nil, List.length_cons, List.length_append, List.length_take, List.length_drop]; omega)) (fun v37 => ?_)
      refine w_assign rfl rfl ?_
      refine ws_nil ?_
      refine WC.freeze (t := 12) (v' := AL eM (ms.take (min ms.length 3))) rfl rfl (.ownK rfl tk (flat_done (by intro _; rfl) _)) rfl ?_
      refine wc_seq ?_
      refine wc_text ?_
      refine w_move rfl rfl ?_
      refine w_call rfl rfl (cw_fn rfl rfl (.cons fz (.cons fz (.cons fz .nil))) (within_fn lk 1 40 (by omega) (by omega) (by omega)) ?_)
      refine w_assign rfl rfl ?_
      refine ws_nil ?_
      refine wc_seq ?_
      refine wc_text ?_
      refine w_move rfl rfl ?_
      refine w_call rfl rfl (cw_fn rfl rfl (.cons fz (.cons fz (.cons fz .nil))) (within_fn fr 0 200 (by omega) (by omega) (by omega)) ?_)
      refine w_assign rfl rfl ?_
      refine ws_nil ?_
      refine wc_seq ?_
      refine wc_text ?_
      refine w_move rfl rfl ?_
      refine w_move rfl rfl ?_
      refine w_call rfl rfl (cw_fn rfl rfl (.cons fz (.cons fz (.cons fz .nil))) (within_fn tt (withinV fr 0 200) 260 (by omega) (by omega) (by omega)) ?_)
      refine w_assign rfl rfl ?_
      refine ws_nil ?_
      refine wc_seq ?_
      refine wc_text ?_
      refine w_makeMap rfl (fun o45 => ?_)
      refine w_assign rfl rfl ?_
      refine ws_nil ?_
      refine WC.mapA (AV.int .i64) AV.bool tk ?_
      refine wc_seq ?_
      refine wc_text ?_
      refine w_move rfl rfl ?_
      refine w_sub u3 rfl rfl rfl (by omega) ?_
      refine w_assign rfl rfl ?_
      refine ws_nil ?_
      refine wc_seq ?_
      refine wc_seq ?_
      refine wc_text ?_
      refine w_move rfl rfl ?_
      refine w_move rfl rfl ?_
      refine w_move rfl rfl ?_
      refine w_move rfl rfl ?_
      refine w_move rfl rfl ?_
      refine w_call rfl rfl (CallW.mono (CallW.take tk (changes_fn o1 (fillW ks ls) hS (withinV lk 1 40) (withinV fr 0 200) (withinV tt (withinV fr 0 200) 260) (ms.take (min ms.length 3)) (by omega) (by omega) _)) ?_)
      rintro _ _ ⟨rfl, rfl⟩
      try simp only [List.cons_append, List.nil_append]
      first | refine w_len rfl rfl (len_lst u33) ?_ | refine w_len rfl rfl (len_slice u33) ?_ | refine w_lenO rfl u33 rfl rfl tk ?_
      refine w_move rfl rfl ?_
      refine ws_nil ?_
      refine wc_block ?_
      refine wc_loop (σ := { j : Nat // j ≤ (chgS (fillW ks ls) (withinV lk 1 40) (withinV fr 0 200) (withinV tt (withinV fr 0 200) 260) (ms.take (min ms.length 3))).length }) (fun u => [(11, .ptr (some ⟨o1, 0⟩)), (12, AL eM (ms.take (min ms.length 3))), (13, .int .i64 (withinV lk 1 40)), (14, .int .i64 (withinV fr 0 200)), (15, .int .i64 (withinV tt (withinV fr 0 200) 260)), (16, .map (some o45)), (17, .int .i64 (lastC (withinV fr 0 200) (chgS (fillW ks ls) (withinV lk 1 40) (withinV fr 0 200) (withinV tt (withinV fr 0 200) 260) (ms.take (min ms.length 3))) u.1)), (53, AL eI (chgS (fillW ks ls) (withinV lk 1 40) (withinV fr 0 200) (withinV tt (withinV fr 0 200) 260) (ms.take (min ms.length 3)))), (54, .int .i64 ((chgS (fillW ks ls) (withinV lk 1 40) (withinV fr 0 200) (withinV tt (withinV fr 0 200) 260) (ms.take (min ms.length 3))).length : Nat)), (55, .int .i64 (u.1 : Nat))]) (fun u => [.obj o45 (.map (entsA (AV.int .i64) AV.bool (atN ((chgS (fillW ks ls) (withinV lk 1 40) (withinV fr 0 200) (withinV tt (withinV fr 0 200) 260) (ms.take (min ms.length 3))).take u.1)) 0) (atN ((chgS (fillW ks ls) (withinV lk 1 40) (withinV fr 0 200) (withinV tt (withinV fr 0 200) 260) (ms.take (min ms.length 3))).take u.1)).length), hiS o1 (fillW ks ls)]) (fun u => (chgS (fillW ks ls) (withinV lk 1 40) (withinV fr 0 200) (withinV tt (withinV fr 0 200) 260) (ms.take (min ms.length 3))).length - u.1) ?_ ⟨0, Nat.zero_le _⟩ (.cons rfl (.cons rfl (.cons rfl (.cons rfl (.cons rfl (.cons rfl (.cons rfl (.cons rfl (.cons rfl (.cons rfl (.nil _))))))))))) (Sel.weak (.cons tk (.cons tk .nil)))
      rintro ⟨j, hj⟩
      try dsimp only
      refine wc_seq ?_
      refine wc_text ?_
      refine w_lss u3 rfl rfl rfl ?_
      refine ws_nil ?_
      refine wc_seq ?_
      refine wc_cond rfl (fun h11 => ?_) (fun h11 => ?_)
      · replace h11 := of_decide_eq_true h11
        obtain ⟨x, hx⟩ := get_of_lt (l := (chgS (fillW ks ls) (withinV lk 1 40) (withinV fr 0 200) (withinV tt (withinV fr 0 200) 260) (ms.take (min ms.length 3)))) (k := j) (by omega)
        have hxi := chg_in (List.mem_of_getElem? hx)
        refine wc_stay ?_
        refine wc_seq ?_
        refine wc_block ?_
        refine wc_seq ?_
        refine wc_text ?_
        first | refine w_lidx u33 s3 rfl rfl rfl (by omega) ?_ | refine w_slidx u33 s3 rfl rfl rfl (by omega) ?_
        first | refine w_ldC1 a3 rfl rfl rdc ?_ | refine w_ldP1 a3 rfl rfl tk rdp ?_
        refine w_assign rfl rfl ?_
        refine ws_nil ?_
        refine wc_seq ?_
        refine wc_seq ?_
        refine wc_text ?_
        refine w_move rfl rfl ?_
        refine w_move rfl rfl ?_
        refine w_leq u3 rfl rfl rfl ?_
        refine w_move rfl rfl ?_
        refine ws_split (t := 62) rfl (fun g62 => ?_) (fun g62 => ?_)
        · first | replace g62 := of_decide_eq_true g62 | replace g62 := of_decide_eq_false g62 | replace g62 := of_decide_eq_false (nb_T g62) | replace g62 := of_decide_eq_true (nb_F g62) | replace g62 := nb_T g62 | replace g62 := nb_F g62 | skip
          first | replace g62 := Int.not_lt.mp g62 | replace g62 := Int.not_le.mp g62 | replace g62 := Decidable.not_not.mp g62 | skip
          exact absurd g62 (by have := chg_up hx; omega)
        · first | replace g62 := of_decide_eq_true g62 | replace g62 := of_decide_eq_false g62 | replace g62 := of_decide_eq_false (nb_T g62) | replace g62 := of_decide_eq_true (nb_F g62) | replace g62 := nb_T g62 | replace g62 := nb_F g62 | skip
          first | replace g62 := Int.not_lt.mp g62 | replace g62 := Int.not_le.mp g62 | replace g62 := Decidable.not_not.mp g62 | skip
          refine ws_on rfl rfl ?_
          refine w_move rfl rfl ?_
          refine ws_on rfl rfl ?_
          refine w_move rfl rfl ?_
          refine ws_on rfl rfl ?_
          refine w_gtr u3 rfl rfl rfl ?_
          first | refine w_pickT rfl rfl rfl ⟨_, rfl⟩ ?_ | refine w_pickF rfl rfl ⟨_, rfl⟩ rfl ?_ | refine w_pick rfl rfl rfl rfl ?_
          refine ws_nil ?_
          refine wc_cond rfl (fun h13 => ?_) (fun h13 => ?_)
          · first | replace h13 := of_decide_eq_true h13 | replace h13 := of_decide_eq_false h13 | replace h13 := of_decide_eq_false (nb_T h13) | replace h13 := of_decide_eq_true (nb_F h13) | replace h13 := nb_T h13 | replace h13 := nb_F h13 | skip
            first | replace h13 := Int.not_lt.mp h13 | replace h13 := Int.not_le.mp h13 | replace h13 := Decidable.not_not.mp h13 | skip
            exact absurd h13 (by first | omega | (simp; omega))
          · skip
            refine wc_stay ?_
            refine wc_text ?_
            refine w_move rfl rfl ?_
            refine w_move rfl rfl ?_
            refine w_move rfl rfl ?_
            refine w_mapUpdA u32 (key_int u3) rfl rfl rfl rfl tk ?_
            refine w_assign rfl rfl ?_
            refine ws_nil ?_
            refine wc_text ?_
            rw [at_one hx, last_one (a := (withinV fr 0 200)) hx]
            refine w_add u3 rfl rfl rfl (by omega) ?_
            refine w_move rfl rfl ?_
            refine ws_nil ?_
            exact ⟨⟨j + 1, by omega⟩, by simp only; omega, (.cons rfl (.cons rfl (.cons rfl (.cons rfl (.cons rfl (.cons rfl (.cons rfl (.cons rfl (.cons rfl (.cons rfl (.nil _))))))))))), (Sel.weak (.cons tk (.cons tk .nil)))⟩
      · replace h11 := of_decide_eq_false h11
        obtain rfl : j = (chgS (fillW ks ls) (withinV lk 1 40) (withinV fr 0 200) (withinV tt (withinV fr 0 200) 260) (ms.take (min ms.length 3))).length := by omega
        rw [List.take_length]
        refine wc_exit ?_
        refine wc_seq ?_
        refine wc_seq ?_
        refine wc_text ?_
        refine w_move rfl rfl ?_
        refine w_assign rfl rfl ?_
        refine ws_nil ?_
        refine wc_block ?_
        refine wc_loop (σ := { t : Int // (withinV fr 0 200) ≤ t ∧ t ≤ (withinV tt (withinV fr 0 200) 260) + 1 }) (fun u => [(11, .ptr (some ⟨o1, 0⟩)), (12, AL eM (ms.take (min ms.length 3))), (13, .int .i64 (withinV lk 1 40)), (14, .int .i64 (withinV fr 0 200)), (15, .int .i64 (withinV tt (withinV fr 0 200) 260)), (16, .map (some o45)), (20, .int .i64 u.1)]) (fun u => [.obj o45 (.map (entsA (AV.int .i64) AV.bool (atN (chgS (fillW ks ls) (withinV lk 1 40) (withinV fr 0 200) (withinV tt (withinV fr 0 200) 260) (ms.take (min ms.length 3)))) 0) (atN (chgS (fillW ks ls) (withinV lk 1 40) (withinV fr 0 200) (withinV tt (withinV fr 0 200) 260) (ms.take (min ms.length 3)))).length), hiS o1 (fillW ks ls)]) (fun u => ((withinV tt (withinV fr 0 200) 260) + 1 - u.1).toNat) ?_ ⟨(withinV fr 0 200), by omega, by omega⟩ (.cons rfl (.cons rfl (.cons rfl (.cons rfl (.cons rfl (.cons rfl (.cons rfl (.nil _)))))))) (Sel.weak (.cons tk (.cons tk .nil)))
        rintro ⟨t, ht1, ht2⟩
        try dsimp only
        refine wc_seq ?_
        refine wc_seq ?_
        refine wc_text ?_
        refine w_move rfl rfl ?_
        refine w_move rfl rfl ?_
        refine w_leq u3 rfl rfl rfl ?_
        refine ws_nil ?_
        refine wc_cond rfl (fun h18 => ?_) (fun h18 => ?_)
        · replace h18 := of_decide_eq_true h18
          refine wc_stay ?_
          refine wc_seq ?_
          refine wc_block ?_
          refine wc_seq ?_
          refine wc_text ?_
          refine w_move rfl rfl ?_
          refine w_move rfl rfl ?_
          refine w_lookA u32 (key_int u3) y4 rfl rfl rfl rfl tk ?_
          dsimp only [okV]
          refine w_not rfl rfl ?_
          refine w_move rfl rfl ?_
          refine ws_split (t := 81) rfl (fun g81 => ?_) (fun g81 => ?_)
          · first | replace g81 := of_decide_eq_true g81 | replace g81 := of_decide_eq_false g81 | replace g81 := of_decide_eq_false (nb_T g81) | replace g81 := of_decide_eq_true (nb_F g81) | replace g81 := nb_T g81 | replace g81 := nb_F g81 | skip
            first | replace g81 := Int.not_lt.mp g81 | replace g81 := Int.not_le.mp g81 | replace g81 := Decidable.not_not.mp g81 | skip
            refine ws_on rfl rfl ?_
            refine w_move rfl rfl ?_
            refine ws_on rfl rfl ?_
            refine w_move rfl rfl ?_
            refine ws_on rfl rfl ?_
            refine w_move rfl rfl ?_
            refine ws_on rfl rfl ?_
            refine w_move rfl rfl ?_
            refine ws_on rfl rfl ?_
            refine w_call rfl rfl (CallW.mono (CallW.take tk (pick_fn o1 (fillW ks ls) hS t (withinV lk 1 40) (ms.take (min ms.length 3)) (by omega) (by omega) (by omega) _)) ?_)
            rintro _ _ ⟨rfl, rfl⟩
            try simp only [List.cons_append, List.nil_append]
            refine ws_on rfl rfl ?_
            refine w_move rfl rfl ?_
            refine ws_on rfl rfl ?_
            refine w_move rfl rfl ?_
            refine ws_on rfl rfl ?_
            refine w_sub u3 rfl rfl rfl (by omega) ?_
            refine ws_on rfl rfl ?_
            refine w_move rfl rfl ?_
            refine ws_on rfl rfl ?_
            refine w_move rfl rfl ?_
            refine ws_on rfl rfl ?_
            refine w_call rfl rfl (CallW.mono (pick_fn o1 (fillW ks ls) hS (t - 1) (withinV lk 1 40) (ms.take (min ms.length 3)) (by omega) (by omega) (by omega) _) ?_)
            rintro _ _ ⟨rfl, rfl⟩
            try simp only [List.cons_append, List.nil_append]
            refine ws_on rfl rfl ?_
            refine w_call rfl rfl (cw_fn rfl rfl (.cons fz (.cons fz .nil)) (points_fn _ _ (by have := (pick_small hS t (withinV lk 1 40) (ms.take (min ms.length 3))).1; omega) (fun p hp => by have := (pick_small hS t (withinV lk 1 40) (ms.take (min ms.length 3))).2 p hp; omega)) ?_)
            refine ws_on rfl rfl ?_
            refine w_not rfl rfl ?_
            first | refine w_pickT rfl rfl rfl ⟨_, rfl⟩ ?_ | refine w_pickF rfl rfl ⟨_, rfl⟩ rfl ?_ | refine w_pick rfl rfl rfl rfl ?_
            refine ws_nil ?_
            refine wc_cond rfl (fun h20 => ?_) (fun h20 => ?_)
            · first | replace h20 := of_decide_eq_true h20 | replace h20 := of_decide_eq_false h20 | replace h20 := of_decide_eq_false (nb_T h20) | replace h20 := of_decide_eq_true (nb_F h20) | replace h20 := nb_T h20 | replace h20 := nb_F h20 | skip
              first | replace h20 := Int.not_lt.mp h20 | replace h20 := Int.not_le.mp h20 | replace h20 := Decidable.not_not.mp h20 | skip
              exact absurd (pick_same ht1 h18 (fun hm => at_met g81 (chgS_mem.mpr hm))) (by simpa using h20)
            · skip
              refine wc_stay ?_
              refine wc_text ?_
              refine w_move rfl rfl ?_
              refine w_add u3 rfl rfl rfl (by omega) ?_
              refine w_assign rfl rfl ?_
              refine ws_nil ?_
              exact ⟨⟨t + 1, by omega, by omega⟩, by simp only; omega, (.cons rfl (.cons rfl (.cons rfl (.cons rfl (.cons rfl (.cons rfl (.cons rfl (.nil _)))))))), (Sel.weak (.cons tk (.cons tk .nil)))⟩
          · first | replace g81 := of_decide_eq_true g81 | replace g81 := of_decide_eq_false g81 | replace g81 := of_decide_eq_false (nb_T g81) | replace g81 := of_decide_eq_true (nb_F g81) | replace g81 := nb_T g81 | replace g81 := nb_F g81 | skip
            first | replace g81 := Int.not_lt.mp g81 | replace g81 := Int.not_le.mp g81 | replace g81 := Decidable.not_not.mp g81 | skip
            refine ws_off rfl rfl rfl rfl ?_
            refine ws_off rfl rfl rfl rfl ?_
            refine ws_off rfl rfl rfl rfl ?_
            refine ws_off rfl rfl rfl rfl ?_
            refine ws_off rfl rfl rfl rfl ?_
            refine ws_off rfl rfl rfl rfl ?_
            refine ws_off rfl rfl rfl rfl ?_
            refine ws_off rfl rfl rfl rfl ?_
            refine ws_off rfl rfl rfl rfl ?_
            refine ws_off rfl rfl rfl rfl ?_
            refine ws_off rfl rfl rfl rfl ?_
            refine ws_off rfl rfl rfl rfl ?_
            refine ws_off rfl rfl rfl rfl ?_
            first | refine w_pickT rfl rfl rfl ⟨_, rfl⟩ ?_ | refine w_pickF rfl rfl ⟨_, rfl⟩ rfl ?_ | refine w_pick rfl rfl rfl rfl ?_
            refine ws_nil ?_
            refine wc_condF rfl ?_
            refine wc_stay ?_
            refine wc_text ?_
            refine w_move rfl rfl ?_
            refine w_add u3 rfl rfl rfl (by omega) ?_
            refine w_assign rfl rfl ?_
            refine ws_nil ?_
            exact ⟨⟨t + 1, by omega, by omega⟩, by simp only; omega, (.cons rfl (.cons rfl (.cons rfl (.cons rfl (.cons rfl (.cons rfl (.cons rfl (.nil _)))))))), (Sel.weak (.cons tk (.cons tk .nil)))⟩
        · skip
          refine wc_exit ?_
          refine wc_seq ?_
          refine wc_text ?_
          refine w_call rfl rfl (cw_fn rfl rfl .nil (runs_law) ?_)
          refine w_assign rfl rfl ?_
          refine ws_nil ?_
          refine wc_ret ?_
          refine ⟨_, (.cons (.tmp rfl) .nil), ?_, rfl⟩
          rfl
end Go.Proofs.YtlgofplbbmjdjaaGreatDoor.kx
