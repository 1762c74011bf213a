/-
  Package disk, walked by facts (printed by gen_dk.py).
-/
import Derived.Test.YtknpdigpendnjaaBhDk2
namespace Go.Proofs.Ytknpdigpendnjaa.dk
open Go Go.Proofs Go.Proofs.Ytknpdigpendnjaa.BH Go.Proofs.Ytknpdigpendnjaa.BH.Dk
set_option maxRecDepth 100000
set_option maxHeartbeats 4000000 in
theorem back_law (a b : List UInt8) (cut keep room : Int) (ha : a.length ≤ 9223372036854775807) (hb : b.length ≤ 9223372036854775807) : PFn C 10 [AL eB a, AL eB b, .int .i64 cut, .int .i64 keep, .int .i64 room] (.bool true) := by
  refine fn_view rfl rfl (fn := Try.f10) rfl rfl rfl rfl rfl ?_
  refine wc_seq ?_
  refine wc_text ?_
  refine w_assign rfl rfl ?_
  refine ws_nil ?_
  refine wc_seq ?_
  refine wc_free [0, 0, 2, 6, 15, 0, 0, 64, 192, 480, 31, 2047] (by kernel_rfl) (by kernel_rfl) (fun F => ?_)
  refine wr_float F 0 rfl (by kernel_rfl) (.inl (by kernel_rfl)) ?_
  refine w_move rfl rfl ?_
  refine ws_nil ?_
  refine wr_float F 1 rfl (by kernel_rfl) (.inl (by kernel_rfl)) ?_
  refine w_move rfl rfl ?_
  refine ws_nil ?_
  refine wr_float F 2 rfl (by kernel_rfl) (.inl (by kernel_rfl)) ?_
  first | refine w_len rfl rfl (len_lst u37) ?_ | refine w_len rfl rfl (len_slice u37) ?_ | refine w_lenO rfl u37 rfl rfl tk ?_
  refine ws_nil ?_
  refine wr_float F 3 rfl (by kernel_rfl) (.inl (by kernel_rfl)) ?_
  refine w_min rfl rfl rfl ?_
  refine ws_nil ?_
  refine wr_pure F 4 rfl (by kernel_rfl) rfl rfl (pf_slice rfl rfl rfl rfl (slice_al (i := 0) (j := min a.length 40) u37 s5 (by intro _; rfl) (by rfl) (natOr_of (by omega)) (by omega) (by omega))) (.inl rfl) ?_
  refine wr_float F 5 rfl (by kernel_rfl) (.inl (by kernel_rfl)) ?_
  refine w_move rfl rfl ?_
  refine ws_nil ?_
  refine wr_float F 6 rfl (by kernel_rfl) (.inl (by kernel_rfl)) ?_
  refine w_move rfl rfl ?_
  refine ws_nil ?_
  refine wr_float F 7 rfl (by kernel_rfl) (.inl (by kernel_rfl)) ?_
  first | refine w_len rfl rfl (len_lst u37) ?_ | refine w_len rfl rfl (len_slice u37) ?_ | refine w_lenO rfl u37 rfl rfl tk ?_
  refine ws_nil ?_
  refine wr_float F 8 rfl (by kernel_rfl) (.inl (by kernel_rfl)) ?_
  refine w_min rfl rfl rfl ?_
  refine ws_nil ?_
  refine wr_pure F 9 rfl (by kernel_rfl) rfl rfl (pf_slice rfl rfl rfl rfl (slice_al (i := 0) (j := min b.length 40) u37 s5 (by intro _; rfl) (by rfl) (natOr_of (by omega)) (by omega) (by omega))) (.inl rfl) ?_
  refine wr_float F 10 rfl (by kernel_rfl) (.inl (by kernel_rfl)) ?_
  refine w_assign rfl rfl ?_
  refine ws_nil ?_
  refine wr_float F 11 rfl (by kernel_rfl) (.inl (by kernel_rfl)) ?_
  refine w_assign rfl rfl ?_
  refine ws_nil ?_
  refine wr_end F (by kernel_rfl) ?_
  have hx : ((a.drop 0).take (min a.length 40 - 0)).length ≤ 40 := by simp; omega
  have hy : ((b.drop 0).take (min b.length 40 - 0)).length ≤ 40 := by simp; omega
  generalize (a.drop 0).take (min a.length 40 - 0) = X at hx ⊢
  generalize (b.drop 0).take (min b.length 40 - 0) = Y at hy ⊢
  refine wc_seq ?_
  refine wc_text ?_
  refine w_move rfl rfl ?_
  first | refine w_len rfl rfl (len_lst u37) ?_ | refine w_len rfl rfl (len_slice u37) ?_ | refine w_lenO rfl u37 rfl rfl tk ?_
  refine w_move rfl rfl ?_
  first | refine w_len rfl rfl (len_lst u37) ?_ | refine w_len rfl rfl (len_slice u37) ?_ | refine w_lenO rfl u37 rfl rfl tk ?_
  refine w_add u3 rfl rfl rfl (by omega) ?_
  refine w_call rfl rfl (CallW.mono (new_fn _ _) ?_)
  rintro _ _ ⟨_, rfl, o32, rfl, rfl⟩
  try simp only [List.cons_append, List.nil_append]
  refine w_assign rfl rfl ?_
  refine ws_nil ?_
  have e0 := newA (x := (X.length : Int) + Y.length) (r := (X.length + Y.length)) (by omega) (by omega)
  rw [e0]
  have k0 : Ok (sA (X.length + Y.length) 0 []) := sA_ok (by omega) (by simp) (by omega) (by simp)
  refine wc_seq ?_
  refine wc_seq ?_
  refine wc_text ?_
  have hl1 : (X ++ Y).length = X.length + Y.length := List.length_append
  obtain ⟨w1, w1s⟩ := writeA (r := (X.length + Y.length)) (f := 0) (b := []) (l := X) (by simp)
  rw [List.nil_append] at w1s
  have k1 : Ok (sA (X.length + Y.length) 0 X) := sA_ok (by omega) (by omega) (by omega) (by omega)
  obtain ⟨w2, w2s⟩ := syncA (r := (X.length + Y.length)) (f := 0) (b := X)
  have k2 : Ok (sA (X.length + Y.length) X.length X) := sA_ok (by omega) (by omega) (by omega) (by omega)
  obtain ⟨w3, w3s⟩ := writeA (r := (X.length + Y.length)) (f := X.length) (b := X) (l := Y) (by omega)
  have k3 : Ok (sA (X.length + Y.length) X.length (X ++ Y)) := sA_ok (by omega) (by omega) (by omega) (by omega)
  refine w_move rfl rfl ?_
  refine w_ceql u44 (by simp) (by simp) rfl rfl rfl (cmp_ptr u44 rfl rfl) ?_
  refine w_move rfl rfl ?_
  refine ws_split (t := 35) rfl (fun g35 => ?_) (fun g35 => ?_)
  · first | replace g35 := of_decide_eq_true g35 | replace g35 := of_decide_eq_false g35 | replace g35 := of_decide_eq_false (nb_T g35) | replace g35 := of_decide_eq_true (nb_F g35) | replace g35 := nb_T g35 | replace g35 := nb_F g35 | skip
    first | replace g35 := Int.not_lt.mp g35 | replace g35 := Int.not_le.mp g35 | replace g35 := Decidable.not_not.mp g35 | skip
    cases g35
  · first | replace g35 := of_decide_eq_true g35 | replace g35 := of_decide_eq_false g35 | replace g35 := of_decide_eq_false (nb_T g35) | replace g35 := of_decide_eq_true (nb_F g35) | replace g35 := nb_T g35 | replace g35 := nb_F g35 | skip
    first | replace g35 := Int.not_lt.mp g35 | replace g35 := Int.not_le.mp g35 | replace g35 := Decidable.not_not.mp g35 | skip
    refine ws_on rfl rfl ?_
    refine w_move rfl rfl ?_
    refine ws_on rfl rfl ?_
    refine w_move rfl rfl ?_
    refine ws_on rfl rfl ?_
    refine w_buildSF (cs := [X].flatMap eL) u51 s37 z37 (by decide) rfl rfl rfl (by decide) rfl rfl ?_
    refine ws_on rfl rfl ?_
    refine w_call rfl rfl (CallW.mono (CallW.take tk (write_at _ _ k0 [X] X (by simp) (by simp) (by first | omega | simp) _)) ?_)
    rintro _ _ ⟨rfl, rfl⟩
    try simp only [List.cons_append, List.nil_append]
    rw [w1, w1s]
    refine ws_on rfl rfl ?_
    refine w_neq u47 rfl rfl rfl ?_
    first | refine w_pickT rfl rfl rfl ⟨_, rfl⟩ ?_ | refine w_pickF rfl rfl ⟨_, rfl⟩ rfl ?_ | refine w_pick rfl rfl rfl rfl ?_
    refine w_move rfl rfl ?_
    refine ws_split (t := 42) rfl (fun g42 => ?_) (fun g42 => ?_)
    · first | replace g42 := of_decide_eq_true g42 | replace g42 := of_decide_eq_false g42 | replace g42 := of_decide_eq_false (nb_T g42) | replace g42 := of_decide_eq_true (nb_F g42) | replace g42 := nb_T g42 | replace g42 := nb_F g42 | skip
      first | replace g42 := Int.not_lt.mp g42 | replace g42 := Int.not_le.mp g42 | replace g42 := Decidable.not_not.mp g42 | skip
      exact absurd rfl g42
    · first | replace g42 := of_decide_eq_true g42 | replace g42 := of_decide_eq_false g42 | replace g42 := of_decide_eq_false (nb_T g42) | replace g42 := of_decide_eq_true (nb_F g42) | replace g42 := nb_T g42 | replace g42 := nb_F g42 | skip
      first | replace g42 := Int.not_lt.mp g42 | replace g42 := Int.not_le.mp g42 | replace g42 := Decidable.not_not.mp g42 | skip
      refine ws_on rfl rfl ?_
      refine w_move rfl rfl ?_
      refine ws_on rfl rfl ?_
      refine w_call rfl rfl (CallW.mono (CallW.take tk (sync_fn _ _ k1 _)) ?_)
      rintro _ _ ⟨_, rfl, rfl, rfl⟩
      try simp only [List.cons_append, List.nil_append]
      rw [w2, w2s]
      refine ws_on rfl rfl ?_
      refine w_neq u47 rfl rfl rfl ?_
      first | refine w_pickT rfl rfl rfl ⟨_, rfl⟩ ?_ | refine w_pickF rfl rfl ⟨_, rfl⟩ rfl ?_ | refine w_pick rfl rfl rfl rfl ?_
      refine w_move rfl rfl ?_
      refine ws_split (t := 47) rfl (fun g47 => ?_) (fun g47 => ?_)
      · first | replace g47 := of_decide_eq_true g47 | replace g47 := of_decide_eq_false g47 | replace g47 := of_decide_eq_false (nb_T g47) | replace g47 := of_decide_eq_true (nb_F g47) | replace g47 := nb_T g47 | replace g47 := nb_F g47 | skip
        first | replace g47 := Int.not_lt.mp g47 | replace g47 := Int.not_le.mp g47 | replace g47 := Decidable.not_not.mp g47 | skip
        exact absurd rfl g47
      · first | replace g47 := of_decide_eq_true g47 | replace g47 := of_decide_eq_false g47 | replace g47 := of_decide_eq_false (nb_T g47) | replace g47 := of_decide_eq_true (nb_F g47) | replace g47 := nb_T g47 | replace g47 := nb_F g47 | skip
        first | replace g47 := Int.not_lt.mp g47 | replace g47 := Int.not_le.mp g47 | replace g47 := Decidable.not_not.mp g47 | skip
        refine ws_on rfl rfl ?_
        refine w_move rfl rfl ?_
        refine ws_on rfl rfl ?_
        refine w_move rfl rfl ?_
        refine ws_on rfl rfl ?_
        refine w_buildSF (cs := [Y].flatMap eL) u51 s37 z37 (by decide) rfl rfl rfl (by decide) rfl rfl ?_
        refine ws_on rfl rfl ?_
        refine w_call rfl rfl (CallW.mono (CallW.take tk (write_at _ _ k2 [Y] Y (by simp) (by simp) (by first | omega | simp) _)) ?_)
        rintro _ _ ⟨rfl, rfl⟩
        try simp only [List.cons_append, List.nil_append]
        rw [w3, w3s]
        refine ws_on rfl rfl ?_
        refine w_neq u47 rfl rfl rfl ?_
        first | refine w_pickT rfl rfl rfl ⟨_, rfl⟩ ?_ | refine w_pickF rfl rfl ⟨_, rfl⟩ rfl ?_ | refine w_pick rfl rfl rfl rfl ?_
        refine ws_nil ?_
        skip
        refine wc_cond rfl (fun h3 => ?_) (fun h3 => ?_)
        · first | replace h3 := of_decide_eq_true h3 | replace h3 := of_decide_eq_false h3 | replace h3 := of_decide_eq_false (nb_T h3) | replace h3 := of_decide_eq_true (nb_F h3) | replace h3 := nb_T h3 | replace h3 := nb_F h3 | skip
          first | replace h3 := Int.not_lt.mp h3 | replace h3 := Int.not_le.mp h3 | replace h3 := Decidable.not_not.mp h3 | skip
          exact absurd rfl h3
        · first | replace h3 := of_decide_eq_true h3 | replace h3 := of_decide_eq_false h3 | replace h3 := of_decide_eq_false (nb_T h3) | replace h3 := of_decide_eq_true (nb_F h3) | replace h3 := nb_T h3 | replace h3 := nb_F h3 | skip
          first | replace h3 := Int.not_lt.mp h3 | replace h3 := Int.not_le.mp h3 | replace h3 := Decidable.not_not.mp h3 | skip
          refine wc_stay ?_
          refine wc_seq ?_
          refine wc_seq ?_
          refine wc_text ?_
          obtain ⟨w4, w4s⟩ := writeF (s := sA (X.length + Y.length) X.length (X ++ Y)) (l := [1]) rfl (by show (((X.length + Y.length) : Nat) : Int) < ((X ++ Y).length : Int) + 1; omega)
          obtain ⟨w5, w5s⟩ := writeA (r := (X.length + Y.length)) (f := X.length) (b := X ++ Y) (l := []) (by simp)
          rw [List.append_nil] at w5s
          refine w_move rfl rfl ?_
          refine w_buildSF (cs := [1].flatMap eB) u37 s5 z5 (by decide) rfl rfl rfl (by decide) rfl rfl ?_
          refine w_buildSF (cs := [[1]].flatMap eL) u51 s37 z37 (by decide) rfl rfl rfl (by decide) rfl rfl ?_
          refine w_call rfl rfl (CallW.mono (CallW.take tk (write_at _ _ k3 [[1]] [1] (by simp) (by simp) (by first | omega | simp) _)) ?_)
          rintro _ _ ⟨rfl, rfl⟩
          try simp only [List.cons_append, List.nil_append]
          rw [w4, w4s]
          refine w_neq u47 rfl rfl rfl ?_
          refine w_move rfl rfl ?_
          refine ws_split (t := 59) rfl (fun g59 => ?_) (fun g59 => ?_)
          · first | replace g59 := of_decide_eq_true g59 | replace g59 := of_decide_eq_false g59 | replace g59 := of_decide_eq_false (nb_T g59) | replace g59 := of_decide_eq_true (nb_F g59) | replace g59 := nb_T g59 | replace g59 := nb_F g59 | skip
            first | replace g59 := Int.not_lt.mp g59 | replace g59 := Int.not_le.mp g59 | replace g59 := Decidable.not_not.mp g59 | skip
            exact absurd rfl g59
          · first | replace g59 := of_decide_eq_true g59 | replace g59 := of_decide_eq_false g59 | replace g59 := of_decide_eq_false (nb_T g59) | replace g59 := of_decide_eq_true (nb_F g59) | replace g59 := nb_T g59 | replace g59 := nb_F g59 | skip
            first | replace g59 := Int.not_lt.mp g59 | replace g59 := Int.not_le.mp g59 | replace g59 := Decidable.not_not.mp g59 | skip
            refine ws_on rfl rfl ?_
            refine w_move rfl rfl ?_
            refine ws_on rfl rfl ?_
            refine w_call rfl rfl (CallW.mono (CallW.take tk (size_fn _ _ _)) ?_)
            rintro _ _ ⟨_, rfl, rfl, rfl⟩
            try simp only [List.cons_append, List.nil_append]
            refine ws_on rfl rfl ?_
            refine w_move rfl rfl ?_
            refine ws_on rfl rfl ?_
            first | refine w_len rfl rfl (len_lst u37) ?_ | refine w_len rfl rfl (len_slice u37) ?_ | refine w_lenO rfl u37 rfl rfl tk ?_
            refine ws_on rfl rfl ?_
            refine w_move rfl rfl ?_
            refine ws_on rfl rfl ?_
            first | refine w_len rfl rfl (len_lst u37) ?_ | refine w_len rfl rfl (len_slice u37) ?_ | refine w_lenO rfl u37 rfl rfl tk ?_
            refine ws_on rfl rfl ?_
            refine w_add u3 rfl rfl rfl (by omega) ?_
            refine ws_on rfl rfl ?_
            refine w_neq u3 rfl rfl rfl ?_
            first | refine w_pickT rfl rfl rfl ⟨_, rfl⟩ ?_ | refine w_pickF rfl rfl ⟨_, rfl⟩ rfl ?_ | refine w_pick rfl rfl rfl rfl ?_
            refine w_move rfl rfl ?_
            refine ws_split (t := 69) rfl (fun g69 => ?_) (fun g69 => ?_)
            · first | replace g69 := of_decide_eq_true g69 | replace g69 := of_decide_eq_false g69 | replace g69 := of_decide_eq_false (nb_T g69) | replace g69 := of_decide_eq_true (nb_F g69) | replace g69 := nb_T g69 | replace g69 := nb_F g69 | skip
              first | replace g69 := Int.not_lt.mp g69 | replace g69 := Int.not_le.mp g69 | replace g69 := Decidable.not_not.mp g69 | skip
              exact absurd (by show ((X ++ Y).length : Int) = _; omega) g69
            · first | replace g69 := of_decide_eq_true g69 | replace g69 := of_decide_eq_false g69 | replace g69 := of_decide_eq_false (nb_T g69) | replace g69 := of_decide_eq_true (nb_F g69) | replace g69 := nb_T g69 | replace g69 := nb_F g69 | skip
              first | replace g69 := Int.not_lt.mp g69 | replace g69 := Int.not_le.mp g69 | replace g69 := Decidable.not_not.mp g69 | skip
              refine ws_on rfl rfl ?_
              refine w_move rfl rfl ?_
              refine ws_on rfl rfl ?_
              refine w_call rfl rfl (CallW.mono (CallW.take tk (CallW.args (.same (.frz .nil rfl .nil)) (write_at _ _ k3 [] [] rfl (by simp) (by simp) _))) ?_)
              rintro _ _ ⟨rfl, rfl⟩
              try simp only [List.cons_append, List.nil_append]
              rw [w5, w5s]
              refine ws_on rfl rfl ?_
              refine w_neq u47 rfl rfl rfl ?_
              first | refine w_pickT rfl rfl rfl ⟨_, rfl⟩ ?_ | refine w_pickF rfl rfl ⟨_, rfl⟩ rfl ?_ | refine w_pick rfl rfl rfl rfl ?_
              refine ws_nil ?_
              refine wc_cond rfl (fun h5 => ?_) (fun h5 => ?_)
              · first | replace h5 := of_decide_eq_true h5 | replace h5 := of_decide_eq_false h5 | replace h5 := of_decide_eq_false (nb_T h5) | replace h5 := of_decide_eq_true (nb_F h5) | replace h5 := nb_T h5 | replace h5 := nb_F h5 | skip
                first | replace h5 := Int.not_lt.mp h5 | replace h5 := Int.not_le.mp h5 | replace h5 := Decidable.not_not.mp h5 | skip
                exact absurd rfl h5
              · first | replace h5 := of_decide_eq_true h5 | replace h5 := of_decide_eq_false h5 | replace h5 := of_decide_eq_false (nb_T h5) | replace h5 := of_decide_eq_true (nb_F h5) | replace h5 := nb_T h5 | replace h5 := nb_F h5 | skip
                first | replace h5 := Int.not_lt.mp h5 | replace h5 := Int.not_le.mp h5 | replace h5 := Decidable.not_not.mp h5 | skip
                refine wc_stay ?_
                refine wc_seq ?_
                refine wc_text ?_
                refine w_move rfl rfl ?_
                refine w_move rfl rfl ?_
                first | refine w_len rfl rfl (len_lst u37) ?_ | refine w_len rfl rfl (len_slice u37) ?_ | refine w_lenO rfl u37 rfl rfl tk ?_
                refine w_move rfl rfl ?_
                first | refine w_len rfl rfl (len_lst u37) ?_ | refine w_len rfl rfl (len_slice u37) ?_ | refine w_lenO rfl u37 rfl rfl tk ?_
                refine w_add u3 rfl rfl rfl (by omega) ?_
                refine w_call rfl rfl (cw_fn rfl rfl (.cons fz (.cons fz (.cons fz .nil))) (within_fn _ _ _ (by omega) (by omega) (by omega)) ?_)
                refine w_assign rfl rfl ?_
                refine ws_nil ?_
                have hw := withinV_in cut 0 ((X.length : Int) + Y.length) (by omega)
                obtain ⟨c, hc⟩ : ∃ c : Nat, withinV cut 0 ((X.length : Int) + Y.length) = c := ⟨(withinV cut 0 ((X.length : Int) + Y.length)).toNat, by omega⟩
                rw [hc] at hw ⊢
                have hcl : c ≤ (X ++ Y).length := by rw [List.length_append]; omega
                refine wc_seq ?_
                refine wc_text ?_
                refine w_buildS (cs := []) u37 s5 z5 (by decide) rfl rfl rfl (fun o81 => ?_)
                refine w_move rfl rfl ?_
                refine WS.ownEmpty (v := .slice (some ⟨o81, 0⟩) 0 (.exact 0)) (.inl ⟨_, rfl⟩) 5 1 ?_
                refine w_appO (enc := eB) (l := []) (m := X) rfl u37 s5 b5 z5 u37 (by simp) rfl rfl rfl tk nw (by unfold bigBy; first | omega | (simp only [List.length_nil, List.length_cons, List.length_append, List.length_take, List.length_drop]; omega)) (by unfold bigBy; first | omega | (simp only [List.length_nil, List.length_cons, List.length_append, List.length_take, List.length_drop]; omega)) (fun v83 => ?_)
                refine w_move rfl rfl ?_
                refine w_appL (enc := eB) (l := [] ++ X) (m := Y) rfl u37 s5 b5 z5 u37 (by simp) rfl rfl rfl tk nw (by unfold bigBy; first | omega | (simp only [List.length_nil, List.length_cons, List.length_append, List.length_take, List.length_drop]; omega)) (by unfold bigBy; first | omega | (simp only [List.length_nil, List.length_cons, List.length_append, List.length_take, List.length_drop]; omega)) (by intro _; rfl) ?_
                refine w_assign rfl rfl ?_
                refine ws_nil ?_
                rw [List.nil_append]
                refine wc_seq ?_
                refine wc_seq ?_
                refine wc_free [0, 0, 3, 7, 15, 31, 31, 95, 255, 511, 1023, 2047, 4095, 8191, 16383, 32767, 65535, 131071, 262143, 131071, 131071, 1179647, 3801087, 8388607, 16777215, 33554431, 67108863, 134217727, 67108863, 67108863, 872415231, 2147483647, 4294967295, 8589934591] (by kernel_rfl) (by kernel_rfl) (fun F => ?_)
                obtain ⟨b1, b1s⟩ := backA (r := (X.length + Y.length)) (f := X.length) (b := X ++ Y) (n := c) hcl
                have k4 : Ok (sA (X.length + Y.length) (min (X.length : Int) c) ((X ++ Y).take c)) := sA_ok (by omega) (by rw [List.length_take]; omega) (by omega) (by rw [List.length_take]; omega)
                obtain ⟨b2, b2s⟩ := backF (s := (sA (X.length + Y.length) (min (X.length : Int) c) ((X ++ Y).take c))) (n := (c : Int) + 1) rfl (.inr (by show (((X ++ Y).take c).length : Int) < _; rw [List.length_take]; omega))
                obtain ⟨b3, b3s⟩ := backF (s := (sA (X.length + Y.length) (min (X.length : Int) c) ((X ++ Y).take c))) (n := -1) rfl (.inl (by omega))
                refine wr_float F 0 rfl (by kernel_rfl) (.inl (by kernel_rfl)) ?_
                refine w_move rfl rfl ?_
                refine ws_nil ?_
                refine wr_float F 1 rfl (by kernel_rfl) (.inl (by kernel_rfl)) ?_
                refine w_move rfl rfl ?_
                refine ws_nil ?_
                refine wr_next F (l := [2]) (by kernel_rfl) (by simp) (.cons rfl ?_ (.nil))
                refine w_call rfl rfl (CallW.mono (CallW.take tk (back_fn _ _ _ k3 _)) ?_)
                rintro _ _ ⟨_, rfl, rfl, rfl⟩
                try simp only [List.cons_append, List.nil_append]
                refine ws_nil ?_
                refine wr_float F 3 rfl (by kernel_rfl) (.inl (by kernel_rfl)) ?_
                rw [b1, b1s]
                refine w_neq u47 rfl rfl rfl ?_
                refine ws_nil ?_
                refine wr_float F 4 rfl (by kernel_rfl) (.inl (by kernel_rfl)) ?_
                refine w_move rfl rfl ?_
                refine ws_nil ?_
                refine wr_split (t := 90) rfl (fun g90 => ?_) (fun g90 => ?_)
                · first | replace g90 := of_decide_eq_true g90 | replace g90 := of_decide_eq_false g90 | replace g90 := of_decide_eq_false (nb_T g90) | replace g90 := of_decide_eq_true (nb_F g90) | replace g90 := nb_T g90 | replace g90 := nb_F g90 | skip
                  first | replace g90 := Int.not_lt.mp g90 | replace g90 := Int.not_le.mp g90 | replace g90 := Decidable.not_not.mp g90 | skip
                  exact absurd rfl g90
                · first | replace g90 := of_decide_eq_true g90 | replace g90 := of_decide_eq_false g90 | replace g90 := of_decide_eq_false (nb_T g90) | replace g90 := of_decide_eq_true (nb_F g90) | replace g90 := nb_T g90 | replace g90 := nb_F g90 | skip
                  first | replace g90 := Int.not_lt.mp g90 | replace g90 := Int.not_le.mp g90 | replace g90 := Decidable.not_not.mp g90 | skip
                  refine wr_float F 5 rfl (by kernel_rfl) (.inl (by kernel_rfl)) ?_
                  refine ws_on rfl rfl ?_ (hn := rfl)
                  refine w_move rfl rfl ?_
                  refine ws_nil ?_
                  refine wr_float F 6 rfl (by kernel_rfl) (.inl (by kernel_rfl)) ?_
                  refine ws_on rfl rfl ?_ (hn := rfl)
                  refine w_move rfl rfl ?_
                  refine ws_nil ?_
                  refine wr_float F 7 rfl (by kernel_rfl) (.inl (by kernel_rfl)) ?_
                  refine ws_on rfl rfl ?_ (hn := rfl)
                  refine w_add u3 rfl rfl rfl (by omega) ?_
                  refine ws_nil ?_
                  refine wr_next F (l := [8]) (by kernel_rfl) (by simp) (.cons rfl ?_ (.nil))
                  refine ws_on rfl rfl ?_ (hn := rfl)
                  refine w_call rfl rfl (CallW.mono (CallW.take tk (back_fn _ _ _ k4 _)) ?_)
                  rintro _ _ ⟨_, rfl, rfl, rfl⟩
                  try simp only [List.cons_append, List.nil_append]
                  refine ws_nil ?_
                  refine wr_float F 9 rfl (by kernel_rfl) (.inl (by kernel_rfl)) ?_
                  rw [b2, b2s]
                  refine ws_on rfl rfl ?_ (hn := rfl)
                  refine w_neq u47 rfl rfl rfl ?_
                  refine ws_nil ?_
                  refine wr_float F 10 rfl (by kernel_rfl) (.inl (by kernel_rfl)) ?_
                  first | refine w_pickT rfl rfl rfl ⟨_, rfl⟩ ?_ | refine w_pickF rfl rfl ⟨_, rfl⟩ rfl ?_ | refine w_pick rfl rfl rfl rfl ?_
                  refine ws_nil ?_
                  refine wr_float F 11 rfl (by kernel_rfl) (.inl (by kernel_rfl)) ?_
                  refine w_move rfl rfl ?_
                  refine ws_nil ?_
                  refine wr_split (t := 97) rfl (fun g97 => ?_) (fun g97 => ?_)
                  · first | replace g97 := of_decide_eq_true g97 | replace g97 := of_decide_eq_false g97 | replace g97 := of_decide_eq_false (nb_T g97) | replace g97 := of_decide_eq_true (nb_F g97) | replace g97 := nb_T g97 | replace g97 := nb_F g97 | skip
                    first | replace g97 := Int.not_lt.mp g97 | replace g97 := Int.not_le.mp g97 | replace g97 := Decidable.not_not.mp g97 | skip
                    exact absurd rfl g97
                  · first | replace g97 := of_decide_eq_true g97 | replace g97 := of_decide_eq_false g97 | replace g97 := of_decide_eq_false (nb_T g97) | replace g97 := of_decide_eq_true (nb_F g97) | replace g97 := nb_T g97 | replace g97 := nb_F g97 | skip
                    first | replace g97 := Int.not_lt.mp g97 | replace g97 := Int.not_le.mp g97 | replace g97 := Decidable.not_not.mp g97 | skip
                    refine wr_float F 12 rfl (by kernel_rfl) (.inl (by kernel_rfl)) ?_
                    refine ws_on rfl rfl ?_ (hn := rfl)
                    refine w_move rfl rfl ?_
                    refine ws_nil ?_
                    refine wr_next F (l := [13]) (by kernel_rfl) (by simp) (.cons rfl ?_ (.nil))
                    refine ws_on rfl rfl ?_ (hn := rfl)
                    refine w_call rfl rfl (CallW.mono (CallW.take tk (back_fn _ _ _ k4 _)) ?_)
                    rintro _ _ ⟨_, rfl, rfl, rfl⟩
                    try simp only [List.cons_append, List.nil_append]
                    refine ws_nil ?_
                    refine wr_float F 14 rfl (by kernel_rfl) (.inl (by kernel_rfl)) ?_
                    rw [b3, b3s]
                    refine ws_on rfl rfl ?_ (hn := rfl)
                    refine w_neq u47 rfl rfl rfl ?_
                    refine ws_nil ?_
                    refine wr_float F 15 rfl (by kernel_rfl) (.inl (by kernel_rfl)) ?_
                    first | refine w_pickT rfl rfl rfl ⟨_, rfl⟩ ?_ | refine w_pickF rfl rfl ⟨_, rfl⟩ rfl ?_ | refine w_pick rfl rfl rfl rfl ?_
                    refine ws_nil ?_
                    refine wr_float F 16 rfl (by kernel_rfl) (.inl (by kernel_rfl)) ?_
                    refine w_move rfl rfl ?_
                    refine ws_nil ?_
                    refine wr_split (t := 102) rfl (fun g102 => ?_) (fun g102 => ?_)
                    · first | replace g102 := of_decide_eq_true g102 | replace g102 := of_decide_eq_false g102 | replace g102 := of_decide_eq_false (nb_T g102) | replace g102 := of_decide_eq_true (nb_F g102) | replace g102 := nb_T g102 | replace g102 := nb_F g102 | skip
                      first | replace g102 := Int.not_lt.mp g102 | replace g102 := Int.not_le.mp g102 | replace g102 := Decidable.not_not.mp g102 | skip
                      exact absurd rfl g102
                    · first | replace g102 := of_decide_eq_true g102 | replace g102 := of_decide_eq_false g102 | replace g102 := of_decide_eq_false (nb_T g102) | replace g102 := of_decide_eq_true (nb_F g102) | replace g102 := nb_T g102 | replace g102 := nb_F g102 | skip
                      first | replace g102 := Int.not_lt.mp g102 | replace g102 := Int.not_le.mp g102 | replace g102 := Decidable.not_not.mp g102 | skip
                      refine wr_float F 17 rfl (by kernel_rfl) (.inl (by kernel_rfl)) ?_
                      refine ws_on rfl rfl ?_ (hn := rfl)
                      refine w_move rfl rfl ?_
                      refine ws_nil ?_
                      refine wr_float F 19 rfl (by kernel_rfl) (.inl (by kernel_rfl)) ?_
                      refine ws_on rfl rfl ?_ (hn := rfl)
                      refine w_move rfl rfl ?_
                      refine ws_nil ?_
                      refine wr_float F 20 rfl (by kernel_rfl) (.inl (by kernel_rfl)) ?_
                      refine ws_on rfl rfl ?_ (hn := rfl)
                      refine w_move rfl rfl ?_
                      refine ws_nil ?_
                      refine wr_float F 21 rfl (by kernel_rfl) (.inl (by kernel_rfl)) ?_
                      refine ws_on rfl rfl ?_ (hn := rfl)
                      first | refine w_len rfl rfl (len_lst u37) ?_ | refine w_len rfl rfl (len_slice u37) ?_ | refine w_lenO rfl u37 rfl rfl tk ?_
                      refine ws_nil ?_
                      refine wr_float F 22 rfl (by kernel_rfl) (.inl (by kernel_rfl)) ?_
                      refine ws_on rfl rfl ?_ (hn := rfl)
                      refine w_min rfl rfl rfl ?_
                      refine ws_nil ?_
                      refine wr_next F (l := [18]) (by kernel_rfl) (by simp) (.cons rfl ?_ (.nil))
                      refine ws_on rfl rfl ?_ (hn := rfl)
                      refine w_call rfl rfl (CallW.mono (CallW.take tk (firm_fn _ _ _)) ?_)
                      rintro _ _ ⟨_, rfl, rfl, rfl⟩
                      try simp only [List.cons_append, List.nil_append]
                      refine ws_nil ?_
                      refine wr_float F 23 rfl (by kernel_rfl) (.inl (by kernel_rfl)) ?_
                      refine ws_on rfl rfl ?_ (hn := rfl)
                      refine w_neq u3 rfl rfl rfl ?_
                      refine ws_nil ?_
                      refine wr_float F 24 rfl (by kernel_rfl) (.inl (by kernel_rfl)) ?_
                      first | refine w_pickT rfl rfl rfl ⟨_, rfl⟩ ?_ | refine w_pickF rfl rfl ⟨_, rfl⟩ rfl ?_ | refine w_pick rfl rfl rfl rfl ?_
                      refine ws_nil ?_
                      refine wr_float F 25 rfl (by kernel_rfl) (.inl (by kernel_rfl)) ?_
                      refine w_move rfl rfl ?_
                      refine ws_nil ?_
                      refine wr_split (t := 111) rfl (fun g111 => ?_) (fun g111 => ?_)
                      · first | replace g111 := of_decide_eq_true g111 | replace g111 := of_decide_eq_false g111 | replace g111 := of_decide_eq_false (nb_T g111) | replace g111 := of_decide_eq_true (nb_F g111) | replace g111 := nb_T g111 | replace g111 := nb_F g111 | skip
                        first | replace g111 := Int.not_lt.mp g111 | replace g111 := Int.not_le.mp g111 | replace g111 := Decidable.not_not.mp g111 | skip
                        exact absurd (by show min (X.length : Int) c = _; omega) g111
                      · first | replace g111 := of_decide_eq_true g111 | replace g111 := of_decide_eq_false g111 | replace g111 := of_decide_eq_false (nb_T g111) | replace g111 := of_decide_eq_true (nb_F g111) | replace g111 := nb_T g111 | replace g111 := nb_F g111 | skip
                        first | replace g111 := Int.not_lt.mp g111 | replace g111 := Int.not_le.mp g111 | replace g111 := Decidable.not_not.mp g111 | skip
                        refine wr_float F 26 rfl (by kernel_rfl) (.inl (by kernel_rfl)) ?_
                        refine ws_on rfl rfl ?_ (hn := rfl)
                        refine w_move rfl rfl ?_
                        refine ws_nil ?_
                        refine wr_float F 28 rfl (by kernel_rfl) (.inl (by kernel_rfl)) ?_
                        refine ws_on rfl rfl ?_ (hn := rfl)
                        refine w_move rfl rfl ?_
                        refine ws_nil ?_
                        refine wr_float F 29 rfl (by kernel_rfl) (.inl (by kernel_rfl)) ?_
                        refine ws_on rfl rfl ?_ (hn := rfl)
                        refine w_move rfl rfl ?_
                        refine ws_nil ?_
                        refine wr_next F (l := [27, 30]) (by kernel_rfl) (by simp) (.cons rfl ?_ (.cons rfl ?_ (.nil)))
                        · skip
                          refine ws_on rfl rfl ?_ (hn := rfl)
                          refine w_call rfl rfl (CallW.mono (CallW.take tk (read_fn _ _ k4 _)) ?_)
                          rintro v113 _ ⟨_, rfl, rfl⟩
                          try simp only [List.cons_append, List.nil_append]
                          refine ws_nil ?_
                          refine wr_next F (l := [30]) (by kernel_rfl) (by simp) (.cons rfl ?_ (.nil))
                          refine ws_on rfl rfl ?_ (hn := rfl)
                          refine w_slice rfl rfl rfl rfl rfl (slice_al u37 s5 (by intro _; rfl) (by rfl) (by rfl) (by omega) (by omega)) ?_
                          refine ws_nil ?_
                          refine wr_next F (l := [31]) (by kernel_rfl) (by simp) (.cons rfl ?_ (.nil))
                          refine ws_on rfl rfl ?_ (hn := rfl)
                          refine w_call rfl rfl (cw_fn rfl rfl (.cons fz (.cons fz .nil)) (sameB_fn (readL (sA (X.length + Y.length) (min (X.length : Int) c) ((X ++ Y).take c))) _ (by show ((X ++ Y).take c).length < 1000000; rw [List.length_take]; omega)) ?_)
                          refine ws_nil ?_
                          refine wr_float F 32 rfl (by kernel_rfl) (.inl (by kernel_rfl)) ?_
                          refine ws_on rfl rfl ?_ (hn := rfl)
                          refine w_not rfl rfl ?_
                          refine ws_nil ?_
                          refine wr_float F 33 rfl (by kernel_rfl) (.inl (by kernel_rfl)) ?_
                          first | refine w_pickT rfl rfl rfl ⟨_, rfl⟩ ?_ | refine w_pickF rfl rfl ⟨_, rfl⟩ rfl ?_ | refine w_pick rfl rfl rfl rfl ?_
                          refine ws_nil ?_
                          refine wr_end F (by kernel_rfl) ?_
                          refine wc_cond rfl (fun h9 => ?_) (fun h9 => ?_)
                          · first | replace h9 := of_decide_eq_true h9 | replace h9 := of_decide_eq_false h9 | replace h9 := of_decide_eq_false (nb_T h9) | replace h9 := of_decide_eq_true (nb_F h9) | replace h9 := nb_T h9 | replace h9 := nb_F h9 | skip
                            first | replace h9 := Int.not_lt.mp h9 | replace h9 := Int.not_le.mp h9 | replace h9 := Decidable.not_not.mp h9 | skip
                            exact absurd (by simp [readA]) h9
                          · first | replace h9 := of_decide_eq_true h9 | replace h9 := of_decide_eq_false h9 | replace h9 := of_decide_eq_false (nb_T h9) | replace h9 := of_decide_eq_true (nb_F h9) | replace h9 := nb_T h9 | replace h9 := nb_F h9 | skip
                            first | replace h9 := Int.not_lt.mp h9 | replace h9 := Int.not_le.mp h9 | replace h9 := Decidable.not_not.mp h9 | skip
                            refine wc_stay ?_
                            refine wc_seq ?_
                            refine wc_text ?_
                            refine w_move rfl rfl ?_
                            refine w_move rfl rfl ?_
                            refine w_call rfl rfl (CallW.mono (CallW.take tk (boot_fn _ _ _ k4 _)) ?_)
                            rintro _ _ ⟨_, rfl, rfl⟩
                            try simp only [List.cons_append, List.nil_append]
                            refine ws_nil ?_
                            rw [bootA]
                            have hbt : (((X ++ Y).take c).length : Int) = c := by rw [List.length_take]; omega
                            rw [hbt]
                            refine wc_seq ?_
                            refine wc_text ?_
                            have hcv := clampV_in keep (lo := 0) (hi := (c : Int) - min (c : Int) X.length) (by omega)
                            refine w_move rfl rfl ?_
                            refine w_move rfl rfl ?_
                            first | refine w_len rfl rfl (len_lst u37) ?_ | refine w_len rfl rfl (len_slice u37) ?_ | refine w_lenO rfl u37 rfl rfl tk ?_
                            refine w_min rfl rfl rfl ?_
                            refine w_move rfl rfl ?_
                            refine w_move rfl rfl ?_
                            refine w_move rfl rfl ?_
                            refine w_move rfl rfl ?_
                            first | refine w_len rfl rfl (len_lst u37) ?_ | refine w_len rfl rfl (len_slice u37) ?_ | refine w_lenO rfl u37 rfl rfl tk ?_
                            refine w_min rfl rfl rfl ?_
                            refine w_sub u3 rfl rfl rfl (by omega) ?_
                            refine w_call rfl rfl (cw_fn rfl rfl (.cons fz (.cons fz (.cons fz .nil))) (clamp_fn _ _ _) ?_)
                            refine w_add u3 rfl rfl rfl (by omega) ?_
                            refine w_assign rfl rfl ?_
                            refine ws_nil ?_
                            rw [show min (c : Int) X.length + clampV keep 0 ((c : Int) - min (c : Int) X.length) = min (X.length : Int) c + max 0 (min keep (c - min (X.length : Int) c)) by unfold clampV; split <;> (try split) <;> omega]
                            obtain ⟨q, hq⟩ : ∃ q : Nat, min (X.length : Int) c + max 0 (min keep (c - min (X.length : Int) c)) = q := ⟨(min (X.length : Int) c + max 0 (min keep (c - min (X.length : Int) c))).toNat, by omega⟩
                            rw [hq]
                            have hq2 : q ≤ c := by omega
                            rw [Int.toNat_natCast]
                            refine wc_seq ?_
                            refine wc_free [0, 1, 0, 0, 12, 31, 63, 127, 255, 127, 1023, 2047, 4095, 8191, 8191, 24575, 65535, 131071, 262143, 524287, 1048575, 2097151, 4194303, 8388607, 1048575, 17825791, 67108863, 134217727, 268435455, 536870911, 1073741823, 2147483647, 4294967295] (by kernel_rfl) (by kernel_rfl) (fun F => ?_)
                            have hwr := withinV_in room 0 9 (by decide)
                            obtain ⟨Z, hZA, hZl⟩ : ∃ Z : List UInt8, AV.lst (repl 20001 [.int .u8 0]) 20001 false true = AL eB Z ∧ Z.length = 20001 := ⟨List.replicate 20001 0, by rw [rep_eB]; unfold AL; rw [List.length_replicate], List.length_replicate ..⟩
                            have w7 : writeV (newS (-5)) [1] = 8 := (writeF rfl (by decide)).1
                            have w8 : writeV (newS (1073741824 + withinV room 0 9)) Z = 8 := (writeF rfl (by show max 0 (min _ 20000) < ((0 : Nat) : Int) + Z.length; rw [hZl]; omega)).1
                            have hqt : ((X ++ Y).take c).take q = (X ++ Y).take q := by rw [List.take_take, Nat.min_eq_left hq2]
                            rw [hqt]
                            have k5 : Ok (sA (X.length + Y.length) q ((X ++ Y).take q)) := sA_ok (by omega) (by rw [List.length_take]; omega) (by omega) (by rw [List.length_take]; omega)
                            refine wr_float F 0 rfl (by kernel_rfl) (.inl (by kernel_rfl)) ?_
                            refine w_move rfl rfl ?_
                            refine ws_nil ?_
                            refine wr_float F 2 rfl (by kernel_rfl) (.inl (by kernel_rfl)) ?_
                            refine w_move rfl rfl ?_
                            refine ws_nil ?_
                            refine wr_float F 3 rfl (by kernel_rfl) (.inl (by kernel_rfl)) ?_
                            refine w_move rfl rfl ?_
                            refine ws_nil ?_
                            refine wr_next F (l := [1, 4]) (by kernel_rfl) (by simp) (.cons rfl ?_ (.cons rfl ?_ (.nil)))
                            · skip
                              refine w_call rfl rfl (CallW.mono (CallW.take tk (read_fn _ _ k5 _)) ?_)
                              rintro v137 _ ⟨_, rfl, rfl⟩
                              try simp only [List.cons_append, List.nil_append]
                              refine ws_nil ?_
                              refine wr_next F (l := [4]) (by kernel_rfl) (by simp) (.cons rfl ?_ (.nil))
                              refine w_slice rfl rfl rfl rfl rfl (slice_al u37 s5 (by intro _; rfl) (by rfl) (by rfl) (by omega) (by omega)) ?_
                              refine ws_nil ?_
                              refine wr_next F (l := [5]) (by kernel_rfl) (by simp) (.cons rfl ?_ (.nil))
                              refine w_call rfl rfl (cw_fn rfl rfl (.cons fz (.cons fz .nil)) (sameB_fn (readL (sA (X.length + Y.length) q ((X ++ Y).take q))) _ (by show ((X ++ Y).take q).length < 1000000; rw [List.length_take]; omega)) ?_)
                              refine ws_nil ?_
                              refine wr_float F 6 rfl (by kernel_rfl) (.inl (by kernel_rfl)) ?_
                              refine w_move rfl rfl ?_
                              refine ws_nil ?_
                              refine wr_split (t := 142) rfl (fun g142 => ?_) (fun g142 => ?_)
                              · first | replace g142 := of_decide_eq_true g142 | replace g142 := of_decide_eq_false g142 | replace g142 := of_decide_eq_false (nb_T g142) | replace g142 := of_decide_eq_true (nb_F g142) | replace g142 := nb_T g142 | replace g142 := nb_F g142 | skip
                                first | replace g142 := Int.not_lt.mp g142 | replace g142 := Int.not_le.mp g142 | replace g142 := Decidable.not_not.mp g142 | skip
                                refine wr_float F 7 rfl (by kernel_rfl) (.inl (by kernel_rfl)) ?_
                                refine ws_on rfl rfl ?_ (hn := rfl)
                                refine w_move rfl rfl ?_
                                refine ws_nil ?_
                                refine wr_float F 9 rfl (by kernel_rfl) (.inl (by kernel_rfl)) ?_
                                refine ws_on rfl rfl ?_ (hn := rfl)
                                refine w_move rfl rfl ?_
                                refine ws_nil ?_
                                refine wr_next F (l := [8]) (by kernel_rfl) (by simp) (.cons rfl ?_ (.nil))
                                refine ws_on rfl rfl ?_ (hn := rfl)
                                refine w_call rfl rfl (CallW.mono (CallW.take tk (firm_fn _ _ _)) ?_)
                                rintro _ _ ⟨_, rfl, rfl, rfl⟩
                                try simp only [List.cons_append, List.nil_append]
                                refine ws_nil ?_
                                refine wr_float F 10 rfl (by kernel_rfl) (.inl (by kernel_rfl)) ?_
                                refine ws_on rfl rfl ?_ (hn := rfl)
                                refine w_eql u3 rfl rfl rfl ?_
                                refine ws_nil ?_
                                refine wr_float F 11 rfl (by kernel_rfl) (.inl (by kernel_rfl)) ?_
                                first | refine w_pickT rfl rfl rfl ⟨_, rfl⟩ ?_ | refine w_pickF rfl rfl ⟨_, rfl⟩ rfl ?_ | refine w_pick rfl rfl rfl rfl ?_
                                refine ws_nil ?_
                                refine wr_float F 12 rfl (by kernel_rfl) (.inl (by kernel_rfl)) ?_
                                refine w_move rfl rfl ?_
                                refine ws_nil ?_
                                refine wr_split (t := 148) rfl (fun g148 => ?_) (fun g148 => ?_)
                                · first | replace g148 := of_decide_eq_true g148 | replace g148 := of_decide_eq_false g148 | replace g148 := of_decide_eq_false (nb_T g148) | replace g148 := of_decide_eq_true (nb_F g148) | replace g148 := nb_T g148 | replace g148 := nb_F g148 | skip
                                  first | replace g148 := Int.not_lt.mp g148 | replace g148 := Int.not_le.mp g148 | replace g148 := Decidable.not_not.mp g148 | skip
                                  refine wr_lazy F 14 rfl (by kernel_rfl) rfl rfl (lz_buildS (cs := [1].flatMap eB) u37 s5 z5 (by decide) rfl rfl (by decide) rfl rfl) (.inr ⟨_, _, _, rfl, rfl, rfl⟩) ?_
                                  refine wr_lazy F 15 rfl (by kernel_rfl) rfl rfl (lz_buildS (cs := [[1]].flatMap eL) u51 s37 z37 (by decide) rfl rfl (by decide) rfl rfl) (.inr ⟨_, _, _, rfl, rfl, rfl⟩) ?_
                                  refine wr_next F (l := [13]) (by kernel_rfl) (by simp) (.cons rfl ?_ (.nil))
                                  refine ws_on rfl rfl ?_ (hn := rfl)
                                  refine w_call rfl rfl (CallW.mono (new_fn _ _) ?_)
                                  rintro _ _ ⟨_, rfl, o149, rfl, rfl⟩
                                  try simp only [List.cons_append, List.nil_append]
                                  refine ws_nil ?_
                                  refine wr_next F (l := [16]) (by kernel_rfl) (by simp) (.cons rfl ?_ (.nil))
                                  refine ws_on rfl rfl ?_ (hn := rfl)
                                  refine w_call rfl rfl (CallW.mono (CallW.take tk (write_at _ _ (newS_ok _) [[1]] [1] (by simp) (by simp) (by first | omega | simp) _)) ?_)
                                  rintro _ _ ⟨rfl, rfl⟩
                                  try simp only [List.cons_append, List.nil_append]
                                  refine ws_nil ?_
                                  refine wr_float F 17 rfl (by kernel_rfl) (.inl (by kernel_rfl)) ?_
                                  refine ws_on rfl rfl ?_ (hn := rfl)
                                  refine w_eql u47 rfl rfl rfl ?_
                                  refine ws_nil ?_
                                  refine wr_float F 18 rfl (by kernel_rfl) (.inl (by kernel_rfl)) ?_
                                  first | refine w_pickT rfl rfl rfl ⟨_, rfl⟩ ?_ | refine w_pickF rfl rfl ⟨_, rfl⟩ rfl ?_ | refine w_pick rfl rfl rfl rfl ?_
                                  refine ws_nil ?_
                                  refine wr_float F 19 rfl (by kernel_rfl) (.inl (by kernel_rfl)) ?_
                                  refine w_move rfl rfl ?_
                                  refine ws_nil ?_
                                  refine wr_split (t := 155) rfl (fun g155 => ?_) (fun g155 => ?_)
                                  · first | replace g155 := of_decide_eq_true g155 | replace g155 := of_decide_eq_false g155 | replace g155 := of_decide_eq_false (nb_T g155) | replace g155 := of_decide_eq_true (nb_F g155) | replace g155 := nb_T g155 | replace g155 := nb_F g155 | skip
                                    first | replace g155 := Int.not_lt.mp g155 | replace g155 := Int.not_le.mp g155 | replace g155 := Decidable.not_not.mp g155 | skip
                                    refine wr_float F 20 rfl (by kernel_rfl) (.inl (by kernel_rfl)) ?_
                                    refine ws_on rfl rfl ?_ (hn := rfl)
                                    refine w_move rfl rfl ?_
                                    refine ws_nil ?_
                                    refine wr_lazy F 24 rfl (by kernel_rfl) rfl rfl (lz_makeS (m := 20001) u37 b5 s5 z5 rfl rfl (by decide) (by decide) (by decide) (rep_len _) (rep_done _)) (.inr ⟨_, _, _, rfl, rfl, rfl⟩) ?_
                                    rw [hZA]
                                    refine wr_lazy F 25 rfl (by kernel_rfl) rfl rfl (lz_buildS (cs := [Z].flatMap eL) u51 s37 z37 (by decide) rfl rfl (by decide) rfl rfl) (.inr ⟨_, _, _, rfl, rfl, rfl⟩) ?_
                                    refine wr_next F (l := [21]) (by kernel_rfl) (by simp) (.cons rfl ?_ (.nil))
                                    refine ws_on rfl rfl ?_ (hn := rfl)
                                    refine w_call rfl rfl (cw_fn rfl rfl (.cons fz (.cons fz (.cons fz .nil))) (within_fn _ _ _ (by omega) (by omega) (by omega)) ?_)
                                    refine ws_nil ?_
                                    refine wr_float F 22 rfl (by kernel_rfl) (.inl (by kernel_rfl)) ?_
                                    refine ws_on rfl rfl ?_ (hn := rfl)
                                    refine w_add u3 rfl rfl rfl (by omega) ?_
                                    refine ws_nil ?_
                                    refine wr_next F (l := [23]) (by kernel_rfl) (by simp) (.cons rfl ?_ (.nil))
                                    refine ws_on rfl rfl ?_ (hn := rfl)
                                    refine w_call rfl rfl (CallW.mono (new_fn _ _) ?_)
                                    rintro _ _ ⟨_, rfl, o159, rfl, rfl⟩
                                    try simp only [List.cons_append, List.nil_append]
                                    refine ws_nil ?_
                                    refine wr_next F (l := [26]) (by kernel_rfl) (by simp) (.cons rfl ?_ (.nil))
                                    refine ws_on rfl rfl ?_ (hn := rfl)
                                    refine w_call rfl rfl (CallW.mono (CallW.take tk (write_at _ _ (newS_ok _) [Z] Z (by simp) (by simp) (by rw [hZl]; decide) _)) ?_)
                                    rintro _ _ ⟨rfl, rfl⟩
                                    try simp only [List.cons_append, List.nil_append]
                                    refine ws_nil ?_
                                    refine wr_float F 27 rfl (by kernel_rfl) (.inl (by kernel_rfl)) ?_
                                    refine ws_on rfl rfl ?_ (hn := rfl)
                                    refine w_eql u47 rfl rfl rfl ?_
                                    refine ws_nil ?_
                                    refine wr_float F 28 rfl (by kernel_rfl) (.inl (by kernel_rfl)) ?_
                                    first | refine w_pickT rfl rfl rfl ⟨_, rfl⟩ ?_ | refine w_pickF rfl rfl ⟨_, rfl⟩ rfl ?_ | refine w_pick rfl rfl rfl rfl ?_
                                    refine ws_nil ?_
                                    refine wr_float F 29 rfl (by kernel_rfl) (.inl (by kernel_rfl)) ?_
                                    refine w_move rfl rfl ?_
                                    refine ws_nil ?_
                                    refine wr_split (t := 165) rfl (fun g165 => ?_) (fun g165 => ?_)
                                    · first | replace g165 := of_decide_eq_true g165 | replace g165 := of_decide_eq_false g165 | replace g165 := of_decide_eq_false (nb_T g165) | replace g165 := of_decide_eq_true (nb_F g165) | replace g165 := nb_T g165 | replace g165 := nb_F g165 | skip
                                      first | replace g165 := Int.not_lt.mp g165 | replace g165 := Int.not_le.mp g165 | replace g165 := Decidable.not_not.mp g165 | skip
                                      refine wr_next F (l := [30]) (by kernel_rfl) (by simp) (.cons rfl ?_ (.nil))
                                      refine ws_on rfl rfl ?_ (hn := rfl)
                                      refine w_call rfl rfl (cw_fn rfl rfl .nil (runsD_fn) ?_)
                                      refine ws_nil ?_
                                      refine wr_float F 31 rfl (by kernel_rfl) (.inl (by kernel_rfl)) ?_
                                      first | refine w_pickT rfl rfl rfl ⟨_, rfl⟩ ?_ | refine w_pickF rfl rfl ⟨_, rfl⟩ rfl ?_ | refine w_pick rfl rfl rfl rfl ?_
                                      refine ws_nil ?_
                                      refine wr_float F 32 rfl (by kernel_rfl) (.inl (by kernel_rfl)) ?_
                                      refine w_assign rfl rfl ?_
                                      refine ws_nil ?_
                                      refine wr_end F (by kernel_rfl) ?_
                                      refine wc_ret ?_
                                      refine ⟨_, (.cons (.tmp rfl) .nil), ?_, rfl⟩
                                      rfl
                                    · first | replace g165 := of_decide_eq_true g165 | replace g165 := of_decide_eq_false g165 | replace g165 := of_decide_eq_false (nb_T g165) | replace g165 := of_decide_eq_true (nb_F g165) | replace g165 := nb_T g165 | replace g165 := nb_F g165 | skip
                                      first | replace g165 := Int.not_lt.mp g165 | replace g165 := Int.not_le.mp g165 | replace g165 := Decidable.not_not.mp g165 | skip
                                      exact absurd w8 g165
                                  · first | replace g155 := of_decide_eq_true g155 | replace g155 := of_decide_eq_false g155 | replace g155 := of_decide_eq_false (nb_T g155) | replace g155 := of_decide_eq_true (nb_F g155) | replace g155 := nb_T g155 | replace g155 := nb_F g155 | skip
                                    first | replace g155 := Int.not_lt.mp g155 | replace g155 := Int.not_le.mp g155 | replace g155 := Decidable.not_not.mp g155 | skip
                                    exact absurd w7 g155
                                · first | replace g148 := of_decide_eq_true g148 | replace g148 := of_decide_eq_false g148 | replace g148 := of_decide_eq_false (nb_T g148) | replace g148 := of_decide_eq_true (nb_F g148) | replace g148 := nb_T g148 | replace g148 := nb_F g148 | skip
                                  first | replace g148 := Int.not_lt.mp g148 | replace g148 := Int.not_le.mp g148 | replace g148 := Decidable.not_not.mp g148 | skip
                                  exact absurd rfl g148
                              · first | replace g142 := of_decide_eq_true g142 | replace g142 := of_decide_eq_false g142 | replace g142 := of_decide_eq_false (nb_T g142) | replace g142 := of_decide_eq_true (nb_F g142) | replace g142 := nb_T g142 | replace g142 := nb_F g142 | skip
                                first | replace g142 := Int.not_lt.mp g142 | replace g142 := Int.not_le.mp g142 | replace g142 := Decidable.not_not.mp g142 | skip
                                exact absurd (by simp [readA]) g142
                            · skip
                              refine w_slice rfl rfl rfl rfl rfl (slice_al u37 s5 (by intro _; rfl) (by rfl) (by rfl) (by omega) (by omega)) ?_
                              refine ws_nil ?_
                              refine wr_next F (l := [1]) (by kernel_rfl) (by simp) (.cons rfl ?_ (.nil))
                              refine w_call rfl rfl (CallW.mono (CallW.take tk (read_fn _ _ k5 _)) ?_)
                              rintro v137 _ ⟨_, rfl, rfl⟩
                              try simp only [List.cons_append, List.nil_append]
                              refine ws_nil ?_
                              refine wr_next F (l := [5]) (by kernel_rfl) (by simp) (.cons rfl ?_ (.nil))
                              refine w_call rfl rfl (cw_fn rfl rfl (.cons fz (.cons fz .nil)) (sameB_fn (readL (sA (X.length + Y.length) q ((X ++ Y).take q))) _ (by show ((X ++ Y).take q).length < 1000000; rw [List.length_take]; omega)) ?_)
                              refine ws_nil ?_
                              refine wr_float F 6 rfl (by kernel_rfl) (.inl (by kernel_rfl)) ?_
                              refine w_move rfl rfl ?_
                              refine ws_nil ?_
                              refine wr_split (t := 142) rfl (fun g142 => ?_) (fun g142 => ?_)
                              · first | replace g142 := of_decide_eq_true g142 | replace g142 := of_decide_eq_false g142 | replace g142 := of_decide_eq_false (nb_T g142) | replace g142 := of_decide_eq_true (nb_F g142) | replace g142 := nb_T g142 | replace g142 := nb_F g142 | skip
                                first | replace g142 := Int.not_lt.mp g142 | replace g142 := Int.not_le.mp g142 | replace g142 := Decidable.not_not.mp g142 | skip
                                refine wr_float F 7 rfl (by kernel_rfl) (.inl (by kernel_rfl)) ?_
                                refine ws_on rfl rfl ?_ (hn := rfl)
                                refine w_move rfl rfl ?_
                                refine ws_nil ?_
                                refine wr_float F 9 rfl (by kernel_rfl) (.inl (by kernel_rfl)) ?_
                                refine ws_on rfl rfl ?_ (hn := rfl)
                                refine w_move rfl rfl ?_
                                refine ws_nil ?_
                                refine wr_next F (l := [8]) (by kernel_rfl) (by simp) (.cons rfl ?_ (.nil))
                                refine ws_on rfl rfl ?_ (hn := rfl)
                                refine w_call rfl rfl (CallW.mono (CallW.take tk (firm_fn _ _ _)) ?_)
                                rintro _ _ ⟨_, rfl, rfl, rfl⟩
                                try simp only [List.cons_append, List.nil_append]
                                refine ws_nil ?_
                                refine wr_float F 10 rfl (by kernel_rfl) (.inl (by kernel_rfl)) ?_
                                refine ws_on rfl rfl ?_ (hn := rfl)
                                refine w_eql u3 rfl rfl rfl ?_
                                refine ws_nil ?_
                                refine wr_float F 11 rfl (by kernel_rfl) (.inl (by kernel_rfl)) ?_
                                first | refine w_pickT rfl rfl rfl ⟨_, rfl⟩ ?_ | refine w_pickF rfl rfl ⟨_, rfl⟩ rfl ?_ | refine w_pick rfl rfl rfl rfl ?_
                                refine ws_nil ?_
                                refine wr_float F 12 rfl (by kernel_rfl) (.inl (by kernel_rfl)) ?_
                                refine w_move rfl rfl ?_
                                refine ws_nil ?_
                                refine wr_split (t := 148) rfl (fun g148 => ?_) (fun g148 => ?_)
                                · first | replace g148 := of_decide_eq_true g148 | replace g148 := of_decide_eq_false g148 | replace g148 := of_decide_eq_false (nb_T g148) | replace g148 := of_decide_eq_true (nb_F g148) | replace g148 := nb_T g148 | replace g148 := nb_F g148 | skip
                                  first | replace g148 := Int.not_lt.mp g148 | replace g148 := Int.not_le.mp g148 | replace g148 := Decidable.not_not.mp g148 | skip
                                  refine wr_lazy F 14 rfl (by kernel_rfl) rfl rfl (lz_buildS (cs := [1].flatMap eB) u37 s5 z5 (by decide) rfl rfl (by decide) rfl rfl) (.inr ⟨_, _, _, rfl, rfl, rfl⟩) ?_
                                  refine wr_lazy F 15 rfl (by kernel_rfl) rfl rfl (lz_buildS (cs := [[1]].flatMap eL) u51 s37 z37 (by decide) rfl rfl (by decide) rfl rfl) (.inr ⟨_, _, _, rfl, rfl, rfl⟩) ?_
                                  refine wr_next F (l := [13]) (by kernel_rfl) (by simp) (.cons rfl ?_ (.nil))
                                  refine ws_on rfl rfl ?_ (hn := rfl)
                                  refine w_call rfl rfl (CallW.mono (new_fn _ _) ?_)
                                  rintro _ _ ⟨_, rfl, o149, rfl, rfl⟩
                                  try simp only [List.cons_append, List.nil_append]
                                  refine ws_nil ?_
                                  refine wr_next F (l := [16]) (by kernel_rfl) (by simp) (.cons rfl ?_ (.nil))
                                  refine ws_on rfl rfl ?_ (hn := rfl)
                                  refine w_call rfl rfl (CallW.mono (CallW.take tk (write_at _ _ (newS_ok _) [[1]] [1] (by simp) (by simp) (by first | omega | simp) _)) ?_)
                                  rintro _ _ ⟨rfl, rfl⟩
                                  try simp only [List.cons_append, List.nil_append]
                                  refine ws_nil ?_
                                  refine wr_float F 17 rfl (by kernel_rfl) (.inl (by kernel_rfl)) ?_
                                  refine ws_on rfl rfl ?_ (hn := rfl)
                                  refine w_eql u47 rfl rfl rfl ?_
                                  refine ws_nil ?_
                                  refine wr_float F 18 rfl (by kernel_rfl) (.inl (by kernel_rfl)) ?_
                                  first | refine w_pickT rfl rfl rfl ⟨_, rfl⟩ ?_ | refine w_pickF rfl rfl ⟨_, rfl⟩ rfl ?_ | refine w_pick rfl rfl rfl rfl ?_
                                  refine ws_nil ?_
                                  refine wr_float F 19 rfl (by kernel_rfl) (.inl (by kernel_rfl)) ?_
                                  refine w_move rfl rfl ?_
                                  refine ws_nil ?_
                                  refine wr_split (t := 155) rfl (fun g155 => ?_) (fun g155 => ?_)
                                  · first | replace g155 := of_decide_eq_true g155 | replace g155 := of_decide_eq_false g155 | replace g155 := of_decide_eq_false (nb_T g155) | replace g155 := of_decide_eq_true (nb_F g155) | replace g155 := nb_T g155 | replace g155 := nb_F g155 | skip
                                    first | replace g155 := Int.not_lt.mp g155 | replace g155 := Int.not_le.mp g155 | replace g155 := Decidable.not_not.mp g155 | skip
                                    refine wr_float F 20 rfl (by kernel_rfl) (.inl (by kernel_rfl)) ?_
                                    refine ws_on rfl rfl ?_ (hn := rfl)
                                    refine w_move rfl rfl ?_
                                    refine ws_nil ?_
                                    refine wr_lazy F 24 rfl (by kernel_rfl) rfl rfl (lz_makeS (m := 20001) u37 b5 s5 z5 rfl rfl (by decide) (by decide) (by decide) (rep_len _) (rep_done _)) (.inr ⟨_, _, _, rfl, rfl, rfl⟩) ?_
                                    rw [hZA]
                                    refine wr_lazy F 25 rfl (by kernel_rfl) rfl rfl (lz_buildS (cs := [Z].flatMap eL) u51 s37 z37 (by decide) rfl rfl (by decide) rfl rfl) (.inr ⟨_, _, _, rfl, rfl, rfl⟩) ?_
                                    refine wr_next F (l := [21]) (by kernel_rfl) (by simp) (.cons rfl ?_ (.nil))
                                    refine ws_on rfl rfl ?_ (hn := rfl)
                                    refine w_call rfl rfl (cw_fn rfl rfl (.cons fz (.cons fz (.cons fz .nil))) (within_fn _ _ _ (by omega) (by omega) (by omega)) ?_)
                                    refine ws_nil ?_
                                    refine wr_float F 22 rfl (by kernel_rfl) (.inl (by kernel_rfl)) ?_
                                    refine ws_on rfl rfl ?_ (hn := rfl)
                                    refine w_add u3 rfl rfl rfl (by omega) ?_
                                    refine ws_nil ?_
                                    refine wr_next F (l := [23]) (by kernel_rfl) (by simp) (.cons rfl ?_ (.nil))
                                    refine ws_on rfl rfl ?_ (hn := rfl)
                                    refine w_call rfl rfl (CallW.mono (new_fn _ _) ?_)
                                    rintro _ _ ⟨_, rfl, o159, rfl, rfl⟩
                                    try simp only [List.cons_append, List.nil_append]
                                    refine ws_nil ?_
                                    refine wr_next F (l := [26]) (by kernel_rfl) (by simp) (.cons rfl ?_ (.nil))
                                    refine ws_on rfl rfl ?_ (hn := rfl)
                                    refine w_call rfl rfl (CallW.mono (CallW.take tk (write_at _ _ (newS_ok _) [Z] Z (by simp) (by simp) (by rw [hZl]; decide) _)) ?_)
                                    rintro _ _ ⟨rfl, rfl⟩
                                    try simp only [List.cons_append, List.nil_append]
                                    refine ws_nil ?_
                                    refine wr_float F 27 rfl (by kernel_rfl) (.inl (by kernel_rfl)) ?_
                                    refine ws_on rfl rfl ?_ (hn := rfl)
                                    refine w_eql u47 rfl rfl rfl ?_
                                    refine ws_nil ?_
                                    refine wr_float F 28 rfl (by kernel_rfl) (.inl (by kernel_rfl)) ?_
                                    first | refine w_pickT rfl rfl rfl ⟨_, rfl⟩ ?_ | refine w_pickF rfl rfl ⟨_, rfl⟩ rfl ?_ | refine w_pick rfl rfl rfl rfl ?_
                                    refine ws_nil ?_
                                    refine wr_float F 29 rfl (by kernel_rfl) (.inl (by kernel_rfl)) ?_
                                    refine w_move rfl rfl ?_
                                    refine ws_nil ?_
                                    refine wr_split (t := 165) rfl (fun g165 => ?_) (fun g165 => ?_)
                                    · first | replace g165 := of_decide_eq_true g165 | replace g165 := of_decide_eq_false g165 | replace g165 := of_decide_eq_false (nb_T g165) | replace g165 := of_decide_eq_true (nb_F g165) | replace g165 := nb_T g165 | replace g165 := nb_F g165 | skip
                                      first | replace g165 := Int.not_lt.mp g165 | replace g165 := Int.not_le.mp g165 | replace g165 := Decidable.not_not.mp g165 | skip
                                      refine wr_next F (l := [30]) (by kernel_rfl) (by simp) (.cons rfl ?_ (.nil))
                                      refine ws_on rfl rfl ?_ (hn := rfl)
                                      refine w_call rfl rfl (cw_fn rfl rfl .nil (runsD_fn) ?_)
                                      refine ws_nil ?_
                                      refine wr_float F 31 rfl (by kernel_rfl) (.inl (by kernel_rfl)) ?_
                                      first | refine w_pickT rfl rfl rfl ⟨_, rfl⟩ ?_ | refine w_pickF rfl rfl ⟨_, rfl⟩ rfl ?_ | refine w_pick rfl rfl rfl rfl ?_
                                      refine ws_nil ?_
                                      refine wr_float F 32 rfl (by kernel_rfl) (.inl (by kernel_rfl)) ?_
                                      refine w_assign rfl rfl ?_
                                      refine ws_nil ?_
                                      refine wr_end F (by kernel_rfl) ?_
                                      refine wc_ret ?_
                                      refine ⟨_, (.cons (.tmp rfl) .nil), ?_, rfl⟩
                                      rfl
                                    · first | replace g165 := of_decide_eq_true g165 | replace g165 := of_decide_eq_false g165 | replace g165 := of_decide_eq_false (nb_T g165) | replace g165 := of_decide_eq_true (nb_F g165) | replace g165 := nb_T g165 | replace g165 := nb_F g165 | skip
                                      first | replace g165 := Int.not_lt.mp g165 | replace g165 := Int.not_le.mp g165 | replace g165 := Decidable.not_not.mp g165 | skip
                                      exact absurd w8 g165
                                  · first | replace g155 := of_decide_eq_true g155 | replace g155 := of_decide_eq_false g155 | replace g155 := of_decide_eq_false (nb_T g155) | replace g155 := of_decide_eq_true (nb_F g155) | replace g155 := nb_T g155 | replace g155 := nb_F g155 | skip
                                    first | replace g155 := Int.not_lt.mp g155 | replace g155 := Int.not_le.mp g155 | replace g155 := Decidable.not_not.mp g155 | skip
                                    exact absurd w7 g155
                                · first | replace g148 := of_decide_eq_true g148 | replace g148 := of_decide_eq_false g148 | replace g148 := of_decide_eq_false (nb_T g148) | replace g148 := of_decide_eq_true (nb_F g148) | replace g148 := nb_T g148 | replace g148 := nb_F g148 | skip
                                  first | replace g148 := Int.not_lt.mp g148 | replace g148 := Int.not_le.mp g148 | replace g148 := Decidable.not_not.mp g148 | skip
                                  exact absurd rfl g148
                              · first | replace g142 := of_decide_eq_true g142 | replace g142 := of_decide_eq_false g142 | replace g142 := of_decide_eq_false (nb_T g142) | replace g142 := of_decide_eq_true (nb_F g142) | replace g142 := nb_T g142 | replace g142 := nb_F g142 | skip
                                first | replace g142 := Int.not_lt.mp g142 | replace g142 := Int.not_le.mp g142 | replace g142 := Decidable.not_not.mp g142 | skip
                                exact absurd (by simp [readA]) g142
                        · skip
                          refine ws_on rfl rfl ?_ (hn := rfl)
                          refine w_slice rfl rfl rfl rfl rfl (slice_al u37 s5 (by intro _; rfl) (by rfl) (by rfl) (by omega) (by omega)) ?_
                          refine ws_nil ?_
                          refine wr_next F (l := [27]) (by kernel_rfl) (by simp) (.cons rfl ?_ (.nil))
                          refine ws_on rfl rfl ?_ (hn := rfl)
                          refine w_call rfl rfl (CallW.mono (CallW.take tk (read_fn _ _ k4 _)) ?_)
                          rintro v113 _ ⟨_, rfl, rfl⟩
                          try simp only [List.cons_append, List.nil_append]
                          refine ws_nil ?_
                          refine wr_next F (l := [31]) (by kernel_rfl) (by simp) (.cons rfl ?_ (.nil))
                          refine ws_on rfl rfl ?_ (hn := rfl)
                          refine w_call rfl rfl (cw_fn rfl rfl (.cons fz (.cons fz .nil)) (sameB_fn (readL (sA (X.length + Y.length) (min (X.length : Int) c) ((X ++ Y).take c))) _ (by show ((X ++ Y).take c).length < 1000000; rw [List.length_take]; omega)) ?_)
                          refine ws_nil ?_
                          refine wr_float F 32 rfl (by kernel_rfl) (.inl (by kernel_rfl)) ?_
                          refine ws_on rfl rfl ?_ (hn := rfl)
                          refine w_not rfl rfl ?_
                          refine ws_nil ?_
                          refine wr_float F 33 rfl (by kernel_rfl) (.inl (by kernel_rfl)) ?_
                          first | refine w_pickT rfl rfl rfl ⟨_, rfl⟩ ?_ | refine w_pickF rfl rfl ⟨_, rfl⟩ rfl ?_ | refine w_pick rfl rfl rfl rfl ?_
                          refine ws_nil ?_
                          refine wr_end F (by kernel_rfl) ?_
                          refine wc_cond rfl (fun h9 => ?_) (fun h9 => ?_)
                          · first | replace h9 := of_decide_eq_true h9 | replace h9 := of_decide_eq_false h9 | replace h9 := of_decide_eq_false (nb_T h9) | replace h9 := of_decide_eq_true (nb_F h9) | replace h9 := nb_T h9 | replace h9 := nb_F h9 | skip
                            first | replace h9 := Int.not_lt.mp h9 | replace h9 := Int.not_le.mp h9 | replace h9 := Decidable.not_not.mp h9 | skip
                            exact absurd (by simp [readA]) h9
                          · first | replace h9 := of_decide_eq_true h9 | replace h9 := of_decide_eq_false h9 | replace h9 := of_decide_eq_false (nb_T h9) | replace h9 := of_decide_eq_true (nb_F h9) | replace h9 := nb_T h9 | replace h9 := nb_F h9 | skip
                            first | replace h9 := Int.not_lt.mp h9 | replace h9 := Int.not_le.mp h9 | replace h9 := Decidable.not_not.mp h9 | skip
                            refine wc_stay ?_
                            refine wc_seq ?_
                            refine wc_text ?_
                            refine w_move rfl rfl ?_
                            refine w_move rfl rfl ?_
                            refine w_call rfl rfl (CallW.mono (CallW.take tk (boot_fn _ _ _ k4 _)) ?_)
                            rintro _ _ ⟨_, rfl, rfl⟩
                            try simp only [List.cons_append, List.nil_append]
                            refine ws_nil ?_
                            rw [bootA]
                            have hbt : (((X ++ Y).take c).length : Int) = c := by rw [List.length_take]; omega
                            rw [hbt]
                            refine wc_seq ?_
                            refine wc_text ?_
                            have hcv := clampV_in keep (lo := 0) (hi := (c : Int) - min (c : Int) X.length) (by omega)
                            refine w_move rfl rfl ?_
                            refine w_move rfl rfl ?_
                            first | refine w_len rfl rfl (len_lst u37) ?_ | refine w_len rfl rfl (len_slice u37) ?_ | refine w_lenO rfl u37 rfl rfl tk ?_
                            refine w_min rfl rfl rfl ?_
                            refine w_move rfl rfl ?_
                            refine w_move rfl rfl ?_
                            refine w_move rfl rfl ?_
                            refine w_move rfl rfl ?_
                            first | refine w_len rfl rfl (len_lst u37) ?_ | refine w_len rfl rfl (len_slice u37) ?_ | refine w_lenO rfl u37 rfl rfl tk ?_
                            refine w_min rfl rfl rfl ?_
                            refine w_sub u3 rfl rfl rfl (by omega) ?_
                            refine w_call rfl rfl (cw_fn rfl rfl (.cons fz (.cons fz (.cons fz .nil))) (clamp_fn _ _ _) ?_)
                            refine w_add u3 rfl rfl rfl (by omega) ?_
                            refine w_assign rfl rfl ?_
                            refine ws_nil ?_
                            rw [show min (c : Int) X.length + clampV keep 0 ((c : Int) - min (c : Int) X.length) = min (X.length : Int) c + max 0 (min keep (c - min (X.length : Int) c)) by unfold clampV; split <;> (try split) <;> omega]
                            obtain ⟨q, hq⟩ : ∃ q : Nat, min (X.length : Int) c + max 0 (min keep (c - min (X.length : Int) c)) = q := ⟨(min (X.length : Int) c + max 0 (min keep (c - min (X.length : Int) c))).toNat, by omega⟩
                            rw [hq]
                            have hq2 : q ≤ c := by omega
                            rw [Int.toNat_natCast]
                            refine wc_seq ?_
                            refine wc_free [0, 1, 0, 0, 12, 31, 63, 127, 255, 127, 1023, 2047, 4095, 8191, 8191, 24575, 65535, 131071, 262143, 524287, 1048575, 2097151, 4194303, 8388607, 1048575, 17825791, 67108863, 134217727, 268435455, 536870911, 1073741823, 2147483647, 4294967295] (by kernel_rfl) (by kernel_rfl) (fun F => ?_)
                            have hwr := withinV_in room 0 9 (by decide)
                            obtain ⟨Z, hZA, hZl⟩ : ∃ Z : List UInt8, AV.lst (repl 20001 [.int .u8 0]) 20001 false true = AL eB Z ∧ Z.length = 20001 := ⟨List.replicate 20001 0, by rw [rep_eB]; unfold AL; rw [List.length_replicate], List.length_replicate ..⟩
                            have w7 : writeV (newS (-5)) [1] = 8 := (writeF rfl (by decide)).1
                            have w8 : writeV (newS (1073741824 + withinV room 0 9)) Z = 8 := (writeF rfl (by show max 0 (min _ 20000) < ((0 : Nat) : Int) + Z.length; rw [hZl]; omega)).1
                            have hqt : ((X ++ Y).take c).take q = (X ++ Y).take q := by rw [List.take_take, Nat.min_eq_left hq2]
                            rw [hqt]
                            have k5 : Ok (sA (X.length + Y.length) q ((X ++ Y).take q)) := sA_ok (by omega) (by rw [List.length_take]; omega) (by omega) (by rw [List.length_take]; omega)
                            refine wr_float F 0 rfl (by kernel_rfl) (.inl (by kernel_rfl)) ?_
                            refine w_move rfl rfl ?_
                            refine ws_nil ?_
                            refine wr_float F 2 rfl (by kernel_rfl) (.inl (by kernel_rfl)) ?_
                            refine w_move rfl rfl ?_
                            refine ws_nil ?_
                            refine wr_float F 3 rfl (by kernel_rfl) (.inl (by kernel_rfl)) ?_
                            refine w_move rfl rfl ?_
                            refine ws_nil ?_
                            refine wr_next F (l := [1, 4]) (by kernel_rfl) (by simp) (.cons rfl ?_ (.cons rfl ?_ (.nil)))
                            · skip
                              refine w_call rfl rfl (CallW.mono (CallW.take tk (read_fn _ _ k5 _)) ?_)
                              rintro v137 _ ⟨_, rfl, rfl⟩
                              try simp only [List.cons_append, List.nil_append]
                              refine ws_nil ?_
                              refine wr_next F (l := [4]) (by kernel_rfl) (by simp) (.cons rfl ?_ (.nil))
                              refine w_slice rfl rfl rfl rfl rfl (slice_al u37 s5 (by intro _; rfl) (by rfl) (by rfl) (by omega) (by omega)) ?_
                              refine ws_nil ?_
                              refine wr_next F (l := [5]) (by kernel_rfl) (by simp) (.cons rfl ?_ (.nil))
                              refine w_call rfl rfl (cw_fn rfl rfl (.cons fz (.cons fz .nil)) (sameB_fn (readL (sA (X.length + Y.length) q ((X ++ Y).take q))) _ (by show ((X ++ Y).take q).length < 1000000; rw [List.length_take]; omega)) ?_)
                              refine ws_nil ?_
                              refine wr_float F 6 rfl (by kernel_rfl) (.inl (by kernel_rfl)) ?_
                              refine w_move rfl rfl ?_
                              refine ws_nil ?_
                              refine wr_split (t := 142) rfl (fun g142 => ?_) (fun g142 => ?_)
                              · first | replace g142 := of_decide_eq_true g142 | replace g142 := of_decide_eq_false g142 | replace g142 := of_decide_eq_false (nb_T g142) | replace g142 := of_decide_eq_true (nb_F g142) | replace g142 := nb_T g142 | replace g142 := nb_F g142 | skip
                                first | replace g142 := Int.not_lt.mp g142 | replace g142 := Int.not_le.mp g142 | replace g142 := Decidable.not_not.mp g142 | skip
                                refine wr_float F 7 rfl (by kernel_rfl) (.inl (by kernel_rfl)) ?_
                                refine ws_on rfl rfl ?_ (hn := rfl)
                                refine w_move rfl rfl ?_
                                refine ws_nil ?_
                                refine wr_float F 9 rfl (by kernel_rfl) (.inl (by kernel_rfl)) ?_
                                refine ws_on rfl rfl ?_ (hn := rfl)
                                refine w_move rfl rfl ?_
                                refine ws_nil ?_
                                refine wr_next F (l := [8]) (by kernel_rfl) (by simp) (.cons rfl ?_ (.nil))
                                refine ws_on rfl rfl ?_ (hn := rfl)
                                refine w_call rfl rfl (CallW.mono (CallW.take tk (firm_fn _ _ _)) ?_)
                                rintro _ _ ⟨_, rfl, rfl, rfl⟩
                                try simp only [List.cons_append, List.nil_append]
                                refine ws_nil ?_
                                refine wr_float F 10 rfl (by kernel_rfl) (.inl (by kernel_rfl)) ?_
                                refine ws_on rfl rfl ?_ (hn := rfl)
                                refine w_eql u3 rfl rfl rfl ?_
                                refine ws_nil ?_
                                refine wr_float F 11 rfl (by kernel_rfl) (.inl (by kernel_rfl)) ?_
                                first | refine w_pickT rfl rfl rfl ⟨_, rfl⟩ ?_ | refine w_pickF rfl rfl ⟨_, rfl⟩ rfl ?_ | refine w_pick rfl rfl rfl rfl ?_
                                refine ws_nil ?_
                                refine wr_float F 12 rfl (by kernel_rfl) (.inl (by kernel_rfl)) ?_
                                refine w_move rfl rfl ?_
                                refine ws_nil ?_
                                refine wr_split (t := 148) rfl (fun g148 => ?_) (fun g148 => ?_)
                                · first | replace g148 := of_decide_eq_true g148 | replace g148 := of_decide_eq_false g148 | replace g148 := of_decide_eq_false (nb_T g148) | replace g148 := of_decide_eq_true (nb_F g148) | replace g148 := nb_T g148 | replace g148 := nb_F g148 | skip
                                  first | replace g148 := Int.not_lt.mp g148 | replace g148 := Int.not_le.mp g148 | replace g148 := Decidable.not_not.mp g148 | skip
                                  refine wr_lazy F 14 rfl (by kernel_rfl) rfl rfl (lz_buildS (cs := [1].flatMap eB) u37 s5 z5 (by decide) rfl rfl (by decide) rfl rfl) (.inr ⟨_, _, _, rfl, rfl, rfl⟩) ?_
                                  refine wr_lazy F 15 rfl (by kernel_rfl) rfl rfl (lz_buildS (cs := [[1]].flatMap eL) u51 s37 z37 (by decide) rfl rfl (by decide) rfl rfl) (.inr ⟨_, _, _, rfl, rfl, rfl⟩) ?_
                                  refine wr_next F (l := [13]) (by kernel_rfl) (by simp) (.cons rfl ?_ (.nil))
                                  refine ws_on rfl rfl ?_ (hn := rfl)
                                  refine w_call rfl rfl (CallW.mono (new_fn _ _) ?_)
                                  rintro _ _ ⟨_, rfl, o149, rfl, rfl⟩
                                  try simp only [List.cons_append, List.nil_append]
                                  refine ws_nil ?_
                                  refine wr_next F (l := [16]) (by kernel_rfl) (by simp) (.cons rfl ?_ (.nil))
                                  refine ws_on rfl rfl ?_ (hn := rfl)
                                  refine w_call rfl rfl (CallW.mono (CallW.take tk (write_at _ _ (newS_ok _) [[1]] [1] (by simp) (by simp) (by first | omega | simp) _)) ?_)
                                  rintro _ _ ⟨rfl, rfl⟩
                                  try simp only [List.cons_append, List.nil_append]
                                  refine ws_nil ?_
                                  refine wr_float F 17 rfl (by kernel_rfl) (.inl (by kernel_rfl)) ?_
                                  refine ws_on rfl rfl ?_ (hn := rfl)
                                  refine w_eql u47 rfl rfl rfl ?_
                                  refine ws_nil ?_
                                  refine wr_float F 18 rfl (by kernel_rfl) (.inl (by kernel_rfl)) ?_
                                  first | refine w_pickT rfl rfl rfl ⟨_, rfl⟩ ?_ | refine w_pickF rfl rfl ⟨_, rfl⟩ rfl ?_ | refine w_pick rfl rfl rfl rfl ?_
                                  refine ws_nil ?_
                                  refine wr_float F 19 rfl (by kernel_rfl) (.inl (by kernel_rfl)) ?_
                                  refine w_move rfl rfl ?_
                                  refine ws_nil ?_
                                  refine wr_split (t := 155) rfl (fun g155 => ?_) (fun g155 => ?_)
                                  · first | replace g155 := of_decide_eq_true g155 | replace g155 := of_decide_eq_false g155 | replace g155 := of_decide_eq_false (nb_T g155) | replace g155 := of_decide_eq_true (nb_F g155) | replace g155 := nb_T g155 | replace g155 := nb_F g155 | skip
                                    first | replace g155 := Int.not_lt.mp g155 | replace g155 := Int.not_le.mp g155 | replace g155 := Decidable.not_not.mp g155 | skip
                                    refine wr_float F 20 rfl (by kernel_rfl) (.inl (by kernel_rfl)) ?_
                                    refine ws_on rfl rfl ?_ (hn := rfl)
                                    refine w_move rfl rfl ?_
                                    refine ws_nil ?_
                                    refine wr_lazy F 24 rfl (by kernel_rfl) rfl rfl (lz_makeS (m := 20001) u37 b5 s5 z5 rfl rfl (by decide) (by decide) (by decide) (rep_len _) (rep_done _)) (.inr ⟨_, _, _, rfl, rfl, rfl⟩) ?_
                                    rw [hZA]
                                    refine wr_lazy F 25 rfl (by kernel_rfl) rfl rfl (lz_buildS (cs := [Z].flatMap eL) u51 s37 z37 (by decide) rfl rfl (by decide) rfl rfl) (.inr ⟨_, _, _, rfl, rfl, rfl⟩) ?_
                                    refine wr_next F (l := [21]) (by kernel_rfl) (by simp) (.cons rfl ?_ (.nil))
                                    refine ws_on rfl rfl ?_ (hn := rfl)
                                    refine w_call rfl rfl (cw_fn rfl rfl (.cons fz (.cons fz (.cons fz .nil))) (within_fn _ _ _ (by omega) (by omega) (by omega)) ?_)
                                    refine ws_nil ?_
                                    refine wr_float F 22 rfl (by kernel_rfl) (.inl (by kernel_rfl)) ?_
                                    refine ws_on rfl rfl ?_ (hn := rfl)
                                    refine w_add u3 rfl rfl rfl (by omega) ?_
                                    refine ws_nil ?_
                                    refine wr_next F (l := [23]) (by kernel_rfl) (by simp) (.cons rfl ?_ (.nil))
                                    refine ws_on rfl rfl ?_ (hn := rfl)
                                    refine w_call rfl rfl (CallW.mono (new_fn _ _) ?_)
                                    rintro _ _ ⟨_, rfl, o159, rfl, rfl⟩
                                    try simp only [List.cons_append, List.nil_append]
                                    refine ws_nil ?_
                                    refine wr_next F (l := [26]) (by kernel_rfl) (by simp) (.cons rfl ?_ (.nil))
                                    refine ws_on rfl rfl ?_ (hn := rfl)
                                    refine w_call rfl rfl (CallW.mono (CallW.take tk (write_at _ _ (newS_ok _) [Z] Z (by simp) (by simp) (by rw [hZl]; decide) _)) ?_)
                                    rintro _ _ ⟨rfl, rfl⟩
                                    try simp only [List.cons_append, List.nil_append]
                                    refine ws_nil ?_
                                    refine wr_float F 27 rfl (by kernel_rfl) (.inl (by kernel_rfl)) ?_
                                    refine ws_on rfl rfl ?_ (hn := rfl)
                                    refine w_eql u47 rfl rfl rfl ?_
                                    refine ws_nil ?_
                                    refine wr_float F 28 rfl (by kernel_rfl) (.inl (by kernel_rfl)) ?_
                                    first | refine w_pickT rfl rfl rfl ⟨_, rfl⟩ ?_ | refine w_pickF rfl rfl ⟨_, rfl⟩ rfl ?_ | refine w_pick rfl rfl rfl rfl ?_
                                    refine ws_nil ?_
                                    refine wr_float F 29 rfl (by kernel_rfl) (.inl (by kernel_rfl)) ?_
                                    refine w_move rfl rfl ?_
                                    refine ws_nil ?_
                                    refine wr_split (t := 165) rfl (fun g165 => ?_) (fun g165 => ?_)
                                    · first | replace g165 := of_decide_eq_true g165 | replace g165 := of_decide_eq_false g165 | replace g165 := of_decide_eq_false (nb_T g165) | replace g165 := of_decide_eq_true (nb_F g165) | replace g165 := nb_T g165 | replace g165 := nb_F g165 | skip
                                      first | replace g165 := Int.not_lt.mp g165 | replace g165 := Int.not_le.mp g165 | replace g165 := Decidable.not_not.mp g165 | skip
                                      refine wr_next F (l := [30]) (by kernel_rfl) (by simp) (.cons rfl ?_ (.nil))
                                      refine ws_on rfl rfl ?_ (hn := rfl)
                                      refine w_call rfl rfl (cw_fn rfl rfl .nil (runsD_fn) ?_)
                                      refine ws_nil ?_
                                      refine wr_float F 31 rfl (by kernel_rfl) (.inl (by kernel_rfl)) ?_
                                      first | refine w_pickT rfl rfl rfl ⟨_, rfl⟩ ?_ | refine w_pickF rfl rfl ⟨_, rfl⟩ rfl ?_ | refine w_pick rfl rfl rfl rfl ?_
                                      refine ws_nil ?_
                                      refine wr_float F 32 rfl (by kernel_rfl) (.inl (by kernel_rfl)) ?_
                                      refine w_assign rfl rfl ?_
                                      refine ws_nil ?_
                                      refine wr_end F (by kernel_rfl) ?_
                                      refine wc_ret ?_
                                      refine ⟨_, (.cons (.tmp rfl) .nil), ?_, rfl⟩
                                      rfl
                                    · first | replace g165 := of_decide_eq_true g165 | replace g165 := of_decide_eq_false g165 | replace g165 := of_decide_eq_false (nb_T g165) | replace g165 := of_decide_eq_true (nb_F g165) | replace g165 := nb_T g165 | replace g165 := nb_F g165 | skip
                                      first | replace g165 := Int.not_lt.mp g165 | replace g165 := Int.not_le.mp g165 | replace g165 := Decidable.not_not.mp g165 | skip
                                      exact absurd w8 g165
                                  · first | replace g155 := of_decide_eq_true g155 | replace g155 := of_decide_eq_false g155 | replace g155 := of_decide_eq_false (nb_T g155) | replace g155 := of_decide_eq_true (nb_F g155) | replace g155 := nb_T g155 | replace g155 := nb_F g155 | skip
                                    first | replace g155 := Int.not_lt.mp g155 | replace g155 := Int.not_le.mp g155 | replace g155 := Decidable.not_not.mp g155 | skip
                                    exact absurd w7 g155
                                · first | replace g148 := of_decide_eq_true g148 | replace g148 := of_decide_eq_false g148 | replace g148 := of_decide_eq_false (nb_T g148) | replace g148 := of_decide_eq_true (nb_F g148) | replace g148 := nb_T g148 | replace g148 := nb_F g148 | skip
                                  first | replace g148 := Int.not_lt.mp g148 | replace g148 := Int.not_le.mp g148 | replace g148 := Decidable.not_not.mp g148 | skip
                                  exact absurd rfl g148
                              · first | replace g142 := of_decide_eq_true g142 | replace g142 := of_decide_eq_false g142 | replace g142 := of_decide_eq_false (nb_T g142) | replace g142 := of_decide_eq_true (nb_F g142) | replace g142 := nb_T g142 | replace g142 := nb_F g142 | skip
                                first | replace g142 := Int.not_lt.mp g142 | replace g142 := Int.not_le.mp g142 | replace g142 := Decidable.not_not.mp g142 | skip
                                exact absurd (by simp [readA]) g142
                            · skip
                              refine w_slice rfl rfl rfl rfl rfl (slice_al u37 s5 (by intro _; rfl) (by rfl) (by rfl) (by omega) (by omega)) ?_
                              refine ws_nil ?_
                              refine wr_next F (l := [1]) (by kernel_rfl) (by simp) (.cons rfl ?_ (.nil))
                              refine w_call rfl rfl (CallW.mono (CallW.take tk (read_fn _ _ k5 _)) ?_)
                              rintro v137 _ ⟨_, rfl, rfl⟩
                              try simp only [List.cons_append, List.nil_append]
                              refine ws_nil ?_
                              refine wr_next F (l := [5]) (by kernel_rfl) (by simp) (.cons rfl ?_ (.nil))
                              refine w_call rfl rfl (cw_fn rfl rfl (.cons fz (.cons fz .nil)) (sameB_fn (readL (sA (X.length + Y.length) q ((X ++ Y).take q))) _ (by show ((X ++ Y).take q).length < 1000000; rw [List.length_take]; omega)) ?_)
                              refine ws_nil ?_
                              refine wr_float F 6 rfl (by kernel_rfl) (.inl (by kernel_rfl)) ?_
                              refine w_move rfl rfl ?_
                              refine ws_nil ?_
                              refine wr_split (t := 142) rfl (fun g142 => ?_) (fun g142 => ?_)
                              · first | replace g142 := of_decide_eq_true g142 | replace g142 := of_decide_eq_false g142 | replace g142 := of_decide_eq_false (nb_T g142) | replace g142 := of_decide_eq_true (nb_F g142) | replace g142 := nb_T g142 | replace g142 := nb_F g142 | skip
                                first | replace g142 := Int.not_lt.mp g142 | replace g142 := Int.not_le.mp g142 | replace g142 := Decidable.not_not.mp g142 | skip
                                refine wr_float F 7 rfl (by kernel_rfl) (.inl (by kernel_rfl)) ?_
                                refine ws_on rfl rfl ?_ (hn := rfl)
                                refine w_move rfl rfl ?_
                                refine ws_nil ?_
                                refine wr_float F 9 rfl (by kernel_rfl) (.inl (by kernel_rfl)) ?_
                                refine ws_on rfl rfl ?_ (hn := rfl)
                                refine w_move rfl rfl ?_
                                refine ws_nil ?_
                                refine wr_next F (l := [8]) (by kernel_rfl) (by simp) (.cons rfl ?_ (.nil))
                                refine ws_on rfl rfl ?_ (hn := rfl)
                                refine w_call rfl rfl (CallW.mono (CallW.take tk (firm_fn _ _ _)) ?_)
                                rintro _ _ ⟨_, rfl, rfl, rfl⟩
                                try simp only [List.cons_append, List.nil_append]
                                refine ws_nil ?_
                                refine wr_float F 10 rfl (by kernel_rfl) (.inl (by kernel_rfl)) ?_
                                refine ws_on rfl rfl ?_ (hn := rfl)
                                refine w_eql u3 rfl rfl rfl ?_
                                refine ws_nil ?_
                                refine wr_float F 11 rfl (by kernel_rfl) (.inl (by kernel_rfl)) ?_
                                first | refine w_pickT rfl rfl rfl ⟨_, rfl⟩ ?_ | refine w_pickF rfl rfl ⟨_, rfl⟩ rfl ?_ | refine w_pick rfl rfl rfl rfl ?_
                                refine ws_nil ?_
                                refine wr_float F 12 rfl (by kernel_rfl) (.inl (by kernel_rfl)) ?_
                                refine w_move rfl rfl ?_
                                refine ws_nil ?_
                                refine wr_split (t := 148) rfl (fun g148 => ?_) (fun g148 => ?_)
                                · first | replace g148 := of_decide_eq_true g148 | replace g148 := of_decide_eq_false g148 | replace g148 := of_decide_eq_false (nb_T g148) | replace g148 := of_decide_eq_true (nb_F g148) | replace g148 := nb_T g148 | replace g148 := nb_F g148 | skip
                                  first | replace g148 := Int.not_lt.mp g148 | replace g148 := Int.not_le.mp g148 | replace g148 := Decidable.not_not.mp g148 | skip
                                  refine wr_lazy F 14 rfl (by kernel_rfl) rfl rfl (lz_buildS (cs := [1].flatMap eB) u37 s5 z5 (by decide) rfl rfl (by decide) rfl rfl) (.inr ⟨_, _, _, rfl, rfl, rfl⟩) ?_
                                  refine wr_lazy F 15 rfl (by kernel_rfl) rfl rfl (lz_buildS (cs := [[1]].flatMap eL) u51 s37 z37 (by decide) rfl rfl (by decide) rfl rfl) (.inr ⟨_, _, _, rfl, rfl, rfl⟩) ?_
                                  refine wr_next F (l := [13]) (by kernel_rfl) (by simp) (.cons rfl ?_ (.nil))
                                  refine ws_on rfl rfl ?_ (hn := rfl)
                                  refine w_call rfl rfl (CallW.mono (new_fn _ _) ?_)
                                  rintro _ _ ⟨_, rfl, o149, rfl, rfl⟩
                                  try simp only [List.cons_append, List.nil_append]
                                  refine ws_nil ?_
                                  refine wr_next F (l := [16]) (by kernel_rfl) (by simp) (.cons rfl ?_ (.nil))
                                  refine ws_on rfl rfl ?_ (hn := rfl)
                                  refine w_call rfl rfl (CallW.mono (CallW.take tk (write_at _ _ (newS_ok _) [[1]] [1] (by simp) (by simp) (by first | omega | simp) _)) ?_)
                                  rintro _ _ ⟨rfl, rfl⟩
                                  try simp only [List.cons_append, List.nil_append]
                                  refine ws_nil ?_
                                  refine wr_float F 17 rfl (by kernel_rfl) (.inl (by kernel_rfl)) ?_
                                  refine ws_on rfl rfl ?_ (hn := rfl)
                                  refine w_eql u47 rfl rfl rfl ?_
                                  refine ws_nil ?_
                                  refine wr_float F 18 rfl (by kernel_rfl) (.inl (by kernel_rfl)) ?_
                                  first | refine w_pickT rfl rfl rfl ⟨_, rfl⟩ ?_ | refine w_pickF rfl rfl ⟨_, rfl⟩ rfl ?_ | refine w_pick rfl rfl rfl rfl ?_
                                  refine ws_nil ?_
                                  refine wr_float F 19 rfl (by kernel_rfl) (.inl (by kernel_rfl)) ?_
                                  refine w_move rfl rfl ?_
                                  refine ws_nil ?_
                                  refine wr_split (t := 155) rfl (fun g155 => ?_) (fun g155 => ?_)
                                  · first | replace g155 := of_decide_eq_true g155 | replace g155 := of_decide_eq_false g155 | replace g155 := of_decide_eq_false (nb_T g155) | replace g155 := of_decide_eq_true (nb_F g155) | replace g155 := nb_T g155 | replace g155 := nb_F g155 | skip
                                    first | replace g155 := Int.not_lt.mp g155 | replace g155 := Int.not_le.mp g155 | replace g155 := Decidable.not_not.mp g155 | skip
                                    refine wr_float F 20 rfl (by kernel_rfl) (.inl (by kernel_rfl)) ?_
                                    refine ws_on rfl rfl ?_ (hn := rfl)
                                    refine w_move rfl rfl ?_
                                    refine ws_nil ?_
                                    refine wr_lazy F 24 rfl (by kernel_rfl) rfl rfl (lz_makeS (m := 20001) u37 b5 s5 z5 rfl rfl (by decide) (by decide) (by decide) (rep_len _) (rep_done _)) (.inr ⟨_, _, _, rfl, rfl, rfl⟩) ?_
                                    rw [hZA]
                                    refine wr_lazy F 25 rfl (by kernel_rfl) rfl rfl (lz_buildS (cs := [Z].flatMap eL) u51 s37 z37 (by decide) rfl rfl (by decide) rfl rfl) (.inr ⟨_, _, _, rfl, rfl, rfl⟩) ?_
                                    refine wr_next F (l := [21]) (by kernel_rfl) (by simp) (.cons rfl ?_ (.nil))
                                    refine ws_on rfl rfl ?_ (hn := rfl)
                                    refine w_call rfl rfl (cw_fn rfl rfl (.cons fz (.cons fz (.cons fz .nil))) (within_fn _ _ _ (by omega) (by omega) (by omega)) ?_)
                                    refine ws_nil ?_
                                    refine wr_float F 22 rfl (by kernel_rfl) (.inl (by kernel_rfl)) ?_
                                    refine ws_on rfl rfl ?_ (hn := rfl)
                                    refine w_add u3 rfl rfl rfl (by omega) ?_
                                    refine ws_nil ?_
                                    refine wr_next F (l := [23]) (by kernel_rfl) (by simp) (.cons rfl ?_ (.nil))
                                    refine ws_on rfl rfl ?_ (hn := rfl)
                                    refine w_call rfl rfl (CallW.mono (new_fn _ _) ?_)
                                    rintro _ _ ⟨_, rfl, o159, rfl, rfl⟩
                                    try simp only [List.cons_append, List.nil_append]
                                    refine ws_nil ?_
                                    refine wr_next F (l := [26]) (by kernel_rfl) (by simp) (.cons rfl ?_ (.nil))
                                    refine ws_on rfl rfl ?_ (hn := rfl)
                                    refine w_call rfl rfl (CallW.mono (CallW.take tk (write_at _ _ (newS_ok _) [Z] Z (by simp) (by simp) (by rw [hZl]; decide) _)) ?_)
                                    rintro _ _ ⟨rfl, rfl⟩
                                    try simp only [List.cons_append, List.nil_append]
                                    refine ws_nil ?_
                                    refine wr_float F 27 rfl (by kernel_rfl) (.inl (by kernel_rfl)) ?_
                                    refine ws_on rfl rfl ?_ (hn := rfl)
                                    refine w_eql u47 rfl rfl rfl ?_
                                    refine ws_nil ?_
                                    refine wr_float F 28 rfl (by kernel_rfl) (.inl (by kernel_rfl)) ?_
                                    first | refine w_pickT rfl rfl rfl ⟨_, rfl⟩ ?_ | refine w_pickF rfl rfl ⟨_, rfl⟩ rfl ?_ | refine w_pick rfl rfl rfl rfl ?_
                                    refine ws_nil ?_
                                    refine wr_float F 29 rfl (by kernel_rfl) (.inl (by kernel_rfl)) ?_
                                    refine w_move rfl rfl ?_
                                    refine ws_nil ?_
                                    refine wr_split (t := 165) rfl (fun g165 => ?_) (fun g165 => ?_)
                                    · first | replace g165 := of_decide_eq_true g165 | replace g165 := of_decide_eq_false g165 | replace g165 := of_decide_eq_false (nb_T g165) | replace g165 := of_decide_eq_true (nb_F g165) | replace g165 := nb_T g165 | replace g165 := nb_F g165 | skip
                                      first | replace g165 := Int.not_lt.mp g165 | replace g165 := Int.not_le.mp g165 | replace g165 := Decidable.not_not.mp g165 | skip
                                      refine wr_next F (l := [30]) (by kernel_rfl) (by simp) (.cons rfl ?_ (.nil))
                                      refine ws_on rfl rfl ?_ (hn := rfl)
                                      refine w_call rfl rfl (cw_fn rfl rfl .nil (runsD_fn) ?_)
                                      refine ws_nil ?_
                                      refine wr_float F 31 rfl (by kernel_rfl) (.inl (by kernel_rfl)) ?_
                                      first | refine w_pickT rfl rfl rfl ⟨_, rfl⟩ ?_ | refine w_pickF rfl rfl ⟨_, rfl⟩ rfl ?_ | refine w_pick rfl rfl rfl rfl ?_
                                      refine ws_nil ?_
                                      refine wr_float F 32 rfl (by kernel_rfl) (.inl (by kernel_rfl)) ?_
                                      refine w_assign rfl rfl ?_
                                      refine ws_nil ?_
                                      refine wr_end F (by kernel_rfl) ?_
                                      refine wc_ret ?_
                                      refine ⟨_, (.cons (.tmp rfl) .nil), ?_, rfl⟩
                                      rfl
                                    · first | replace g165 := of_decide_eq_true g165 | replace g165 := of_decide_eq_false g165 | replace g165 := of_decide_eq_false (nb_T g165) | replace g165 := of_decide_eq_true (nb_F g165) | replace g165 := nb_T g165 | replace g165 := nb_F g165 | skip
                                      first | replace g165 := Int.not_lt.mp g165 | replace g165 := Int.not_le.mp g165 | replace g165 := Decidable.not_not.mp g165 | skip
                                      exact absurd w8 g165
                                  · first | replace g155 := of_decide_eq_true g155 | replace g155 := of_decide_eq_false g155 | replace g155 := of_decide_eq_false (nb_T g155) | replace g155 := of_decide_eq_true (nb_F g155) | replace g155 := nb_T g155 | replace g155 := nb_F g155 | skip
                                    first | replace g155 := Int.not_lt.mp g155 | replace g155 := Int.not_le.mp g155 | replace g155 := Decidable.not_not.mp g155 | skip
                                    exact absurd w7 g155
                                · first | replace g148 := of_decide_eq_true g148 | replace g148 := of_decide_eq_false g148 | replace g148 := of_decide_eq_false (nb_T g148) | replace g148 := of_decide_eq_true (nb_F g148) | replace g148 := nb_T g148 | replace g148 := nb_F g148 | skip
                                  first | replace g148 := Int.not_lt.mp g148 | replace g148 := Int.not_le.mp g148 | replace g148 := Decidable.not_not.mp g148 | skip
                                  exact absurd rfl g148
                              · first | replace g142 := of_decide_eq_true g142 | replace g142 := of_decide_eq_false g142 | replace g142 := of_decide_eq_false (nb_T g142) | replace g142 := of_decide_eq_true (nb_F g142) | replace g142 := nb_T g142 | replace g142 := nb_F g142 | skip
                                first | replace g142 := Int.not_lt.mp g142 | replace g142 := Int.not_le.mp g142 | replace g142 := Decidable.not_not.mp g142 | skip
                                exact absurd (by simp [readA]) g142
end Go.Proofs.Ytknpdigpendnjaa.dk
