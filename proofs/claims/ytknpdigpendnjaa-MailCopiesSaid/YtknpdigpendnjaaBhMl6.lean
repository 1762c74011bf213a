/-
  Package mail, walked by facts (printed by gen_ml.py).
-/
import Derived.Test.YtknpdigpendnjaaBhMl5
namespace Go.Proofs.Ytknpdigpendnjaa.ml
open Go Go.Proofs Go.Proofs.Ytknpdigpendnjaa.BH Go.Proofs.Ytknpdigpendnjaa.BH.Ml
open Go.Proofs.Ytknpdigpendnjaa.BH.Dk (withinV withinV_in clampV clampV_in natOr_of)
set_option maxRecDepth 100000
/-- The note that is put. -/
abbrev nC (A : List (List UInt8)) : NoteD := ⟨[116], [103], A⟩
theorem setS {l : List (List UInt8)} {k : Nat} {x y : List UInt8} (_ : l[k]? = some x) : (l.flatMap eS).set k (.str y) = (l.set k y).flatMap eS := by
  have e : ∀ l : List (List UInt8), l.flatMap eS = l.map fun z => AV.str z := by
    intro l
    induction l with
    | nil => rfl
    | cons a r ih => rw [List.flatMap_cons, ih]; rfl
  rw [e, e, List.map_set]
theorem over_oneP {cs : List AV} {i : Int} {k : Nat} {v : AV} (hi : i = (k : Nat)) (h : k < cs.length) : over cs (0 + i.toNat * 1) [v] = some (cs.set k v) := by
  subst hi
  rw [Nat.zero_add, Nat.mul_one, Int.toNat_natCast]; exact over_one h
theorem z0_alerts (i : Nat) : ∀ y ∈ List.replicate i z0, y.alerts.length < 1000000 := fun y hy => by rw [List.eq_of_mem_replicate hy]; decide

set_option maxHeartbeats 4000000 in
theorem copies_nil (texts : List (List UInt8)) (room : Int) (hl0 : texts.length ≤ 9223372036854775807) (A : List (List UInt8)) (hAe : (texts.drop 0).take (min texts.length 5 - 0) = A) (hA0 : A.length = 0) : PFn C 6 [AL eS texts, .int .i64 room] (.bool true) := by
  refine fn_view rfl rfl (fn := Try.f6) rfl rfl rfl rfl rfl ?_
  have hA5 : A.length ≤ 5 := by rw [← hAe]; simp; omega
  have hA6 : (nC A).alerts.length < 1000000 := by show A.length < 1000000; omega
  refine wc_seq ?_
  refine wc_text ?_
  refine w_assign rfl rfl ?_
  refine ws_nil ?_
  refine wc_seq ?_
  refine wc_text ?_
  refine w_call rfl rfl (CallW.mono (new_fn _ _) ?_)
  rintro _ _ ⟨_, rfl, o16, c16, rfl, rfl⟩
  try simp only [List.cons_append, List.nil_append]
  refine w_assign rfl rfl ?_
  refine ws_nil ?_
  rw [show (max 1 (min (8 : Int) 8)).toNat = 8 by decide]
  refine wc_seq ?_
  refine wc_seq ?_
  refine wc_text ?_
  refine w_move rfl rfl ?_
  refine w_ceql u22 (by simp) (by simp) rfl rfl rfl (cmp_ptr u22 rfl rfl) ?_
  refine ws_nil ?_
  refine wc_cond rfl (fun h2 => ?_) (fun h2 => ?_)
  · first | replace h2 := of_decide_eq_true h2 | replace h2 := of_decide_eq_false h2 | replace h2 := of_decide_eq_false (nb_T h2) | replace h2 := of_decide_eq_true (nb_F h2) | replace h2 := nb_T h2 | replace h2 := nb_F h2 | skip
    first | replace h2 := Int.not_lt.mp h2 | replace h2 := Int.not_le.mp h2 | replace h2 := Decidable.not_not.mp h2 | skip
    cases h2
  · first | replace h2 := of_decide_eq_true h2 | replace h2 := of_decide_eq_false h2 | replace h2 := of_decide_eq_false (nb_T h2) | replace h2 := of_decide_eq_true (nb_F h2) | replace h2 := nb_T h2 | replace h2 := nb_F h2 | skip
    first | replace h2 := Int.not_lt.mp h2 | replace h2 := Int.not_le.mp h2 | replace h2 := Decidable.not_not.mp h2 | skip
    refine wc_stay ?_
    refine wc_seq ?_
    refine wc_text ?_
    refine w_buildS (cs := []) u25 s9 z9 (by decide) rfl rfl rfl (fun o19 => ?_)
    refine w_move rfl rfl ?_
    refine w_move rfl rfl ?_
    first | refine w_len rfl rfl (len_lst u25) ?_ | refine w_len rfl rfl (len_slice u25) ?_ | refine w_lenO rfl u25 rfl rfl tk ?_
    refine w_min rfl rfl rfl ?_
    refine w_slice rfl rfl rfl rfl rfl (slice_al (i := 0) (j := min texts.length 5) u25 s9 (by intro _; rfl) (by rfl) (natOr_of (by omega)) (by omega) (by omega)) ?_
    rw [hAe]
    refine WS.ownEmpty (v := .slice (some ⟨o19, 0⟩) 0 (.exact 0)) (.inl ⟨_, rfl⟩) 9 1 ?_
    refine w_appO (enc := eS) (l := []) (m := A) rfl u25 s9 b9 z9 u25 (by simp) rfl rfl rfl tk nw (by unfold bigBy; first | omega | (simp only [List.length_nil, List.length_cons, List.length_append, List.length_take, List.length_drop]; omega)) (by unfold bigBy; first | omega | (simp only [List.length_nil, List.length_cons, List.length_append, List.length_take, List.length_drop]; omega)) (fun v25 => ?_)
    refine w_assign rfl rfl ?_
    refine ws_nil ?_
    rw [List.nil_append]
    refine WC.freeze (t := 6) (v' := AL eS A) rfl rfl (.ownK rfl .head (flat_done (by intro _; rfl) _)) rfl ?_
    refine wc_seq ?_
    refine wc_text ?_
    refine w_buildS (cs := []) u25 s9 z9 (by decide) rfl rfl rfl (fun o26 => ?_)
    refine w_move rfl rfl ?_
    refine WS.ownEmpty (v := .slice (some ⟨o26, 0⟩) 0 (.exact 0)) (.inl ⟨_, rfl⟩) 9 1 ?_
    refine w_appO (enc := eS) (l := []) (m := A) rfl u25 s9 b9 z9 u25 (by simp) rfl rfl rfl tk nw (by unfold bigBy; first | omega | (simp only [List.length_nil, List.length_cons, List.length_append, List.length_take, List.length_drop]; omega)) (by unfold bigBy; first | omega | (simp only [List.length_nil, List.length_cons, List.length_append, List.length_take, List.length_drop]; omega)) (fun v28 => ?_)
    refine w_assign rfl rfl ?_
    refine ws_nil ?_
    rw [List.nil_append]
    refine WC.freeze (t := 7) (v' := AL eS A) rfl rfl (.ownK rfl .head (flat_done (by intro _; rfl) _)) rfl ?_
    refine wc_seq ?_
    refine wc_seq ?_
    refine wc_text ?_
    refine w_move rfl rfl ?_
    refine w_move rfl rfl ?_
    refine w_build (v := .agg [_, _, _]) B27 rfl rfl rfl ?_
    refine w_buildSF (cs := [nC A].flatMap eN) u34 s27 z27 (by decide) rfl rfl rfl (by decide) rfl rfl ?_
    refine w_call rfl rfl (CallW.mono (CallW.weak (Sel.weak (.cons tk (.cons tk .rest))) (putM_fn _ _ 8 [] _ _ _ [nC A] (by omega) (by simp) (by simp) (by omega) (by omega) (by omega) (by intro y hy; simp only [List.mem_singleton] at hy; subst hy; exact hA6) _)) ?_)
    rintro _ _ ⟨_, rfl, s33, r33, rfl, rfl⟩
    try simp only [List.cons_append, List.nil_append]
    refine w_neq u3 rfl rfl rfl ?_
    refine ws_nil ?_
    refine WC.recell (BK c16 0) (o := o16) tk rfl ?_
    refine WC.reobj (o := c16) (.chan 8 ([nC A].map ag) s33 r33) tk rfl ?_
    refine wc_cond rfl (fun h6 => ?_) (fun h6 => ?_)
    · first | replace h6 := of_decide_eq_true h6 | replace h6 := of_decide_eq_false h6 | replace h6 := of_decide_eq_false (nb_T h6) | replace h6 := of_decide_eq_true (nb_F h6) | replace h6 := nb_T h6 | replace h6 := nb_F h6 | skip
      first | replace h6 := Int.not_lt.mp h6 | replace h6 := Int.not_le.mp h6 | replace h6 := Decidable.not_not.mp h6 | skip
      exact absurd rfl h6
    · first | replace h6 := of_decide_eq_true h6 | replace h6 := of_decide_eq_false h6 | replace h6 := of_decide_eq_false (nb_T h6) | replace h6 := of_decide_eq_true (nb_F h6) | replace h6 := nb_T h6 | replace h6 := nb_F h6 | skip
      first | replace h6 := Int.not_lt.mp h6 | replace h6 := Int.not_le.mp h6 | replace h6 := Decidable.not_not.mp h6 | skip
      refine wc_stay ?_
      refine wc_seq ?_
      refine wc_seq ?_
      refine wc_text ?_
      refine w_move rfl rfl ?_
      first | refine w_len rfl rfl (len_lst u25) ?_ | refine w_len rfl rfl (len_slice u25) ?_ | refine w_lenO rfl u25 rfl rfl tk ?_
      refine w_move rfl rfl ?_
      refine ws_nil ?_
      refine wc_block ?_
      refine wc_loop (σ := { j : Nat // j = 0 }) (fun u => [(5, .ptr (some ⟨o16, 0⟩)), (6, AL eS A), (7, AL eS A), (36, .int .i64 (A.length : Nat)), (37, .int .i64 (u.1 : Nat))]) (fun u => [.obj o16 (.row 63 2 false (BK c16 0)), .obj c16 (.chan 8 (([nC A]).map ag) s33 r33)]) (fun u => A.length - u.1) ?_ ⟨0, rfl⟩ (.cons rfl (.cons rfl (.cons rfl (.cons rfl (.cons rfl (.nil _)))))) (Sel.weak (.cons tk (.cons tk .nil)))
      rintro ⟨j, hj⟩
      dsimp only
      skip
      refine wc_seq ?_
      refine wc_text ?_
      refine w_lss u3 rfl rfl rfl ?_
      refine ws_nil ?_
      refine wc_seq ?_
      refine wc_cond rfl (fun h9 => ?_) (fun h9 => ?_)
      · replace h9 := of_decide_eq_true h9
        exact absurd h9 (by omega)
      · skip
        refine wc_exit ?_
        refine wc_seq ?_
        refine wc_text ?_
        refine w_move rfl rfl ?_
        refine w_call rfl rfl (CallW.mono (CallW.weak (Sel.weak (.cons tk (.cons tk .rest))) (all_fn _ _ 8 [nC A] _ _ _ (by omega) (by simp) (by omega) (by intro y hy; simp only [List.mem_singleton] at hy; subst hy; exact hA6) _)) ?_)
        rintro v45 _ ⟨_, rfl, s45, r45, rfl⟩
        try simp only [List.cons_append, List.nil_append]
        refine w_assign rfl rfl ?_
        refine ws_nil ?_
        refine WC.freeze (t := 9) (v' := AL eN [nC A]) rfl rfl (.ownK rfl tk (flat_done eN_done _)) rfl ?_
        refine wc_seq ?_
        refine wc_seq ?_
        refine wc_text ?_
        refine w_move rfl rfl ?_
        first | refine w_len rfl rfl (len_lst u34) ?_ | refine w_len rfl rfl (len_slice u34) ?_ | refine w_lenO rfl u34 rfl rfl tk ?_
        refine w_neq u3 rfl rfl rfl ?_
        refine w_move rfl rfl ?_
        refine ws_split (t := 49) rfl (fun g49 => ?_) (fun g49 => ?_)
        · first | replace g49 := of_decide_eq_true g49 | replace g49 := of_decide_eq_false g49 | replace g49 := of_decide_eq_false (nb_T g49) | replace g49 := of_decide_eq_true (nb_F g49) | replace g49 := nb_T g49 | replace g49 := nb_F g49 | skip
          first | replace g49 := Int.not_lt.mp g49 | replace g49 := Int.not_le.mp g49 | replace g49 := Decidable.not_not.mp g49 | skip
          first | cases g49 | exact absurd rfl g49 | simp at g49
        · first | replace g49 := of_decide_eq_true g49 | replace g49 := of_decide_eq_false g49 | replace g49 := of_decide_eq_false (nb_T g49) | replace g49 := of_decide_eq_true (nb_F g49) | replace g49 := nb_T g49 | replace g49 := nb_F g49 | skip
          first | replace g49 := Int.not_lt.mp g49 | replace g49 := Int.not_le.mp g49 | replace g49 := Decidable.not_not.mp g49 | skip
          refine ws_on rfl rfl ?_
          refine w_move rfl rfl ?_
          refine ws_on rfl rfl ?_
          first | refine w_lidx u34 s27 rfl rfl rfl (by omega) ?_ | refine w_slidx u34 s27 rfl rfl rfl (by omega) ?_
          refine ws_on rfl rfl ?_
          first | refine w_faddrC O27_2 rfl rfl ?_ | refine w_faddrP O27_2 rfl rfl ?_
          refine ws_on rfl rfl ?_
          first | refine w_ldC1 a25 rfl rfl rdc ?_ | refine w_ldP1 a25 rfl rfl tk rdp ?_
          refine ws_on rfl rfl ?_
          refine w_move rfl rfl ?_
          refine ws_on rfl rfl ?_
          refine w_call rfl rfl (cw_fn rfl rfl (.cons fz (.cons fz .nil)) (sameS_fn A A (by omega)) ?_)
          refine ws_on rfl rfl ?_
          refine w_not rfl rfl ?_
          first | refine w_pickT rfl rfl rfl ⟨_, rfl⟩ ?_ | refine w_pickF rfl rfl ⟨_, rfl⟩ rfl ?_ | refine w_pick rfl rfl rfl rfl ?_
          refine ws_nil ?_
          refine wc_cond rfl (fun h14 => ?_) (fun h14 => ?_)
          · first | replace h14 := of_decide_eq_true h14 | replace h14 := of_decide_eq_false h14 | replace h14 := of_decide_eq_false (nb_T h14) | replace h14 := of_decide_eq_true (nb_F h14) | replace h14 := nb_T h14 | replace h14 := nb_F h14 | skip
            first | replace h14 := Int.not_lt.mp h14 | replace h14 := Int.not_le.mp h14 | replace h14 := Decidable.not_not.mp h14 | skip
            first | cases h14 | exact absurd rfl h14 | simp at h14
          · first | replace h14 := of_decide_eq_true h14 | replace h14 := of_decide_eq_false h14 | replace h14 := of_decide_eq_false (nb_T h14) | replace h14 := of_decide_eq_true (nb_F h14) | replace h14 := nb_T h14 | replace h14 := nb_F h14 | skip
            first | replace h14 := Int.not_lt.mp h14 | replace h14 := Int.not_le.mp h14 | replace h14 := Decidable.not_not.mp h14 | skip
            refine wc_stay ?_
            refine wc_seq ?_
            refine wc_seq ?_
            refine wc_text ?_
            refine w_move rfl rfl ?_
            first | refine w_lidx u34 s27 rfl rfl rfl (by omega) ?_ | refine w_slidx u34 s27 rfl rfl rfl (by omega) ?_
            first | refine w_faddrC O27_2 rfl rfl ?_ | refine w_faddrP O27_2 rfl rfl ?_
            first | refine w_ldC1 a25 rfl rfl rdc ?_ | refine w_ldP1 a25 rfl rfl tk rdp ?_
            first | refine w_len rfl rfl (len_lst u25) ?_ | refine w_len rfl rfl (len_slice u25) ?_ | refine w_lenO rfl u25 rfl rfl tk ?_
            refine w_move rfl rfl ?_
            refine ws_nil ?_
            refine wc_block ?_
            refine wc_loop (σ := { j : Nat // j = 0 }) (fun u => [(5, .ptr (some ⟨o16, 0⟩)), (6, AL eS A), (62, .int .i64 (A.length : Nat)), (63, .int .i64 (u.1 : Nat))]) (fun u => [.obj o16 (.row 63 2 false (BK c16 0)), .obj c16 (.chan 8 (([nC A]).map ag) s45 r45)]) (fun u => A.length - u.1) ?_ ⟨0, rfl⟩ (.cons rfl (.cons rfl (.cons rfl (.cons rfl (.nil _))))) (Sel.weak (.cons tk (.cons tk .nil)))
            rintro ⟨j, hj⟩
            dsimp only
            skip
            refine wc_seq ?_
            refine wc_text ?_
            refine w_lss u3 rfl rfl rfl ?_
            refine ws_nil ?_
            refine wc_seq ?_
            refine wc_cond rfl (fun h17 => ?_) (fun h17 => ?_)
            · replace h17 := of_decide_eq_true h17
              exact absurd h17 (by omega)
            · skip
              refine wc_exit ?_
              refine wc_seq ?_
              refine wc_text ?_
              refine w_move rfl rfl ?_
              refine w_call rfl rfl (CallW.mono (CallW.weak (Sel.weak (.cons tk (.cons tk .rest))) (take_cons _ _ _ (nC A) [] _ _ _ _)) ?_)
              rintro _ _ ⟨_, rfl, rfl, rfl⟩
              try simp only [List.cons_append, List.nil_append]
              refine w_move rfl rfl ?_
              refine w_extract rfl rfl rfl ?_
              refine w_extract rfl rfl rfl ?_
              refine w_alloc z27 s27 rfl (fun o11 => ?_)
              refine w_st s27 rfl rfl rfl tk rfl rfl ovw ?_
              refine w_assign rfl rfl ?_
              refine ws_nil ?_
              refine WC.freezePtr (t := 11) (cs := eN (nC A)) rfl rfl .head rfl ?_
              refine wc_seq ?_
              refine wc_text ?_
              refine w_call rfl rfl (CallW.mono (new_fn _ _) ?_)
              rintro _ _ ⟨_, rfl, o78, c78, rfl, rfl⟩
              try simp only [List.cons_append, List.nil_append]
              refine w_call rfl rfl (CallW.mono (new_fn _ _) ?_)
              rintro _ _ ⟨_, rfl, o79, c79, rfl, rfl⟩
              try simp only [List.cons_append, List.nil_append]
              refine w_assign rfl rfl ?_
              refine w_assign rfl rfl ?_
              refine ws_nil ?_
              rw [show (max 1 (min (-5 : Int) 8)).toNat = 1 by decide, show (max 1 (min (1099511627776 : Int) 8)).toNat = 8 by decide]
              refine wc_seq ?_
              refine wc_seq ?_
              refine wc_text ?_
              refine w_move rfl rfl ?_
              refine w_ceql u22 (by simp) (by simp) rfl rfl rfl (cmp_ptr u22 rfl rfl) ?_
              refine w_move rfl rfl ?_
              refine ws_split (t := 82) rfl (fun g82 => ?_) (fun g82 => ?_)
              · first | replace g82 := of_decide_eq_true g82 | replace g82 := of_decide_eq_false g82 | replace g82 := of_decide_eq_false (nb_T g82) | replace g82 := of_decide_eq_true (nb_F g82) | replace g82 := nb_T g82 | replace g82 := nb_F g82 | skip
                first | replace g82 := Int.not_lt.mp g82 | replace g82 := Int.not_le.mp g82 | replace g82 := Decidable.not_not.mp g82 | skip
                first | cases g82 | exact absurd rfl g82 | simp at g82
              · first | replace g82 := of_decide_eq_true g82 | replace g82 := of_decide_eq_false g82 | replace g82 := of_decide_eq_false (nb_T g82) | replace g82 := of_decide_eq_true (nb_F g82) | replace g82 := nb_T g82 | replace g82 := nb_F g82 | skip
                first | replace g82 := Int.not_lt.mp g82 | replace g82 := Int.not_le.mp g82 | replace g82 := Decidable.not_not.mp g82 | skip
                refine ws_on rfl rfl ?_
                refine w_move rfl rfl ?_
                refine ws_on rfl rfl ?_
                refine w_ceql u22 (by simp) (by simp) rfl rfl rfl (cmp_ptr u22 rfl rfl) ?_
                first | refine w_pickT rfl rfl rfl ⟨_, rfl⟩ ?_ | refine w_pickF rfl rfl ⟨_, rfl⟩ rfl ?_ | refine w_pick rfl rfl rfl rfl ?_
                refine w_move rfl rfl ?_
                refine ws_split (t := 86) rfl (fun g86 => ?_) (fun g86 => ?_)
                · first | replace g86 := of_decide_eq_true g86 | replace g86 := of_decide_eq_false g86 | replace g86 := of_decide_eq_false (nb_T g86) | replace g86 := of_decide_eq_true (nb_F g86) | replace g86 := nb_T g86 | replace g86 := nb_F g86 | skip
                  first | replace g86 := Int.not_lt.mp g86 | replace g86 := Int.not_le.mp g86 | replace g86 := Decidable.not_not.mp g86 | skip
                  first | cases g86 | exact absurd rfl g86 | simp at g86
                · first | replace g86 := of_decide_eq_true g86 | replace g86 := of_decide_eq_false g86 | replace g86 := of_decide_eq_false (nb_T g86) | replace g86 := of_decide_eq_true (nb_F g86) | replace g86 := nb_T g86 | replace g86 := nb_F g86 | skip
                  first | replace g86 := Int.not_lt.mp g86 | replace g86 := Int.not_le.mp g86 | replace g86 := Decidable.not_not.mp g86 | skip
                  refine ws_on rfl rfl ?_
                  refine w_move rfl rfl ?_
                  refine ws_on rfl rfl ?_
                  refine w_not rfl rfl ?_
                  first | refine w_pickT rfl rfl rfl ⟨_, rfl⟩ ?_ | refine w_pickF rfl rfl ⟨_, rfl⟩ rfl ?_ | refine w_pick rfl rfl rfl rfl ?_
                  refine w_move rfl rfl ?_
                  refine ws_split (t := 90) rfl (fun g90 => ?_) (fun g90 => ?_)
                  · first | replace g90 := of_decide_eq_true g90 | replace g90 := of_decide_eq_false g90 | replace g90 := of_decide_eq_false (nb_T g90) | replace g90 := of_decide_eq_true (nb_F g90) | replace g90 := nb_T g90 | replace g90 := nb_F g90 | skip
                    first | replace g90 := Int.not_lt.mp g90 | replace g90 := Int.not_le.mp g90 | replace g90 := Decidable.not_not.mp g90 | skip
                    first | cases g90 | exact absurd rfl g90 | simp at g90
                  · first | replace g90 := of_decide_eq_true g90 | replace g90 := of_decide_eq_false g90 | replace g90 := of_decide_eq_false (nb_T g90) | replace g90 := of_decide_eq_true (nb_F g90) | replace g90 := nb_T g90 | replace g90 := nb_F g90 | skip
                    first | replace g90 := Int.not_lt.mp g90 | replace g90 := Int.not_le.mp g90 | replace g90 := Decidable.not_not.mp g90 | skip
                    refine ws_on rfl rfl ?_
                    first | refine w_faddrC O27_2 rfl rfl ?_ | refine w_faddrP O27_2 rfl rfl ?_
                    refine ws_on rfl rfl ?_
                    first | refine w_ldC1 a25 rfl rfl rdc ?_ | refine w_ldP1 a25 rfl rfl tk rdp ?_
                    refine ws_on rfl rfl ?_
                    refine w_move rfl rfl ?_
                    refine ws_on rfl rfl ?_
                    refine w_call rfl rfl (cw_fn rfl rfl (.cons fz (.cons fz .nil)) (sameS_fn A A (by omega)) ?_)
                    refine ws_on rfl rfl ?_
                    refine w_not rfl rfl ?_
                    first | refine w_pickT rfl rfl rfl ⟨_, rfl⟩ ?_ | refine w_pickF rfl rfl ⟨_, rfl⟩ rfl ?_ | refine w_pick rfl rfl rfl rfl ?_
                    refine w_move rfl rfl ?_
                    refine ws_split (t := 97) rfl (fun g97 => ?_) (fun g97 => ?_)
                    · first | replace g97 := of_decide_eq_true g97 | replace g97 := of_decide_eq_false g97 | replace g97 := of_decide_eq_false (nb_T g97) | replace g97 := of_decide_eq_true (nb_F g97) | replace g97 := nb_T g97 | replace g97 := nb_F g97 | skip
                      first | replace g97 := Int.not_lt.mp g97 | replace g97 := Int.not_le.mp g97 | replace g97 := Decidable.not_not.mp g97 | skip
                      first | cases g97 | exact absurd rfl g97 | simp at g97
                    · first | replace g97 := of_decide_eq_true g97 | replace g97 := of_decide_eq_false g97 | replace g97 := of_decide_eq_false (nb_T g97) | replace g97 := of_decide_eq_true (nb_F g97) | replace g97 := nb_T g97 | replace g97 := nb_F g97 | skip
                      first | replace g97 := Int.not_lt.mp g97 | replace g97 := Int.not_le.mp g97 | replace g97 := Decidable.not_not.mp g97 | skip
                      refine ws_on rfl rfl ?_
                      refine w_move rfl rfl ?_
                      refine ws_on rfl rfl ?_
                      refine w_call rfl rfl (CallW.mono (CallW.weak (Sel.weak (.cons tk (.cons tk .rest))) (len_fn _ _ _ _ _ _ _ _)) ?_)
                      rintro _ _ ⟨_, rfl, rfl, rfl⟩
                      try simp only [List.cons_append, List.nil_append]
                      refine ws_on rfl rfl ?_
                      refine w_neq u3 rfl rfl rfl ?_
                      first | refine w_pickT rfl rfl rfl ⟨_, rfl⟩ ?_ | refine w_pickF rfl rfl ⟨_, rfl⟩ rfl ?_ | refine w_pick rfl rfl rfl rfl ?_
                      refine ws_nil ?_
                      refine wc_cond rfl (fun h23 => ?_) (fun h23 => ?_)
                      · first | replace h23 := of_decide_eq_true h23 | replace h23 := of_decide_eq_false h23 | replace h23 := of_decide_eq_false (nb_T h23) | replace h23 := of_decide_eq_true (nb_F h23) | replace h23 := nb_T h23 | replace h23 := nb_F h23 | skip
                        first | replace h23 := Int.not_lt.mp h23 | replace h23 := Int.not_le.mp h23 | replace h23 := Decidable.not_not.mp h23 | skip
                        first | cases h23 | exact absurd rfl h23 | simp at h23
                      · first | replace h23 := of_decide_eq_true h23 | replace h23 := of_decide_eq_false h23 | replace h23 := of_decide_eq_false (nb_T h23) | replace h23 := of_decide_eq_true (nb_F h23) | replace h23 := nb_T h23 | replace h23 := nb_F h23 | skip
                        first | replace h23 := Int.not_lt.mp h23 | replace h23 := Int.not_le.mp h23 | replace h23 := Decidable.not_not.mp h23 | skip
                        refine wc_stay ?_
                        refine wc_seq ?_
                        refine wc_seq ?_
                        refine wc_text ?_
                        refine w_assign rfl rfl ?_
                        refine ws_nil ?_
                        refine WC.recell (BK c78 ((0 - 1 : Nat) : Int)) (o := o78) tk rfl ?_
                        refine WC.reobj (o := c78) (.chan 1 ((lastN 1 (List.replicate 0 z0)).map ag) 0 0) tk rfl ?_
                        refine WC.recell (BK c79 ((0 - 8 : Nat) : Int)) (o := o79) tk rfl ?_
                        refine WC.reobj (o := c79) (.chan 8 ((lastN 8 (List.replicate 0 z0)).map ag) 0 0) tk rfl ?_
                        refine wc_block ?_
                        refine wc_loop (σ := { x : Nat × Nat × Nat × Nat × Nat // x.1 ≤ 10 }) (fun u => [(13, .ptr (some ⟨o78, 0⟩)), (14, .ptr (some ⟨o79, 0⟩)), (15, .int .i64 (u.1.1 : Nat))]) (fun u => [.obj o78 (.row 63 2 false (BK c78 ((u.1.1 - 1 : Nat) : Int))), .obj c78 (.chan 1 ((lastN 1 (List.replicate u.1.1 z0)).map ag) u.1.2.1 u.1.2.2.1), .obj o79 (.row 63 2 false (BK c79 ((u.1.1 - 8 : Nat) : Int))), .obj c79 (.chan 8 ((lastN 8 (List.replicate u.1.1 z0)).map ag) u.1.2.2.2.1 u.1.2.2.2.2)]) (fun u => 10 - u.1.1) ?_ ⟨(0, 0, 0, 0, 0), Nat.zero_le _⟩ (.cons rfl (.cons rfl (.cons rfl (.nil _)))) (Sel.weak (.cons tk (.cons tk (.cons tk (.cons tk .nil)))))
                        rintro ⟨⟨i, s1, r1, s2, r2⟩, hi⟩
                        dsimp only
                        simp only at hi
                        refine wc_seq ?_
                        refine wc_seq ?_
                        refine wc_text ?_
                        refine w_move rfl rfl ?_
                        refine w_lss u3 rfl rfl rfl ?_
                        refine ws_nil ?_
                        refine wc_cond rfl (fun h26 => ?_) (fun h26 => ?_)
                        · replace h26 := of_decide_eq_true h26
                          refine wc_stay ?_
                          refine wc_seq ?_
                          refine wc_block ?_
                          refine wc_seq ?_
                          refine wc_text ?_
                          refine w_move rfl rfl ?_
                          refine w_build (v := .agg [_, _, _]) B27 rfl rfl rfl ?_
                          refine w_buildS (cs := [.str [], .str [], .slice none 0 (.exact 0)]) u34 s27 z27 (by decide) rfl rfl rfl (fun o108 => ?_)
                          refine w_call rfl rfl (CallW.mono (CallW.weak (Sel.weak (.cons tk (.cons tk (.cons tk .rest)))) (putZ_fn _ _ 1 (lastN 1 (List.replicate i z0)) ((i - 1 : Nat) : Int) _ _ _ (by omega) (by rw [lastN_len]; omega) (by omega) (by omega) (by omega) _)) ?_)
                          rintro _ _ ⟨_, rfl, s109, r109, rfl, rfl⟩
                          try simp only [List.cons_append, List.nil_append]
                          refine ws_nil ?_
                          rw [lastN_lastN, ← List.replicate_succ']
                          refine WC.recell (BK c78 ((i + 1 - 1 : Nat) : Int)) (o := o78) tk (by rw [lastN_len, List.length_replicate, ← Int.natCast_add]; congr 3; omega) ?_
                          refine wc_text ?_
                          refine w_move rfl rfl ?_
                          refine w_build (v := .agg [_, _, _]) B27 rfl rfl rfl ?_
                          refine w_buildS (cs := [.str [], .str [], .slice none 0 (.exact 0)]) u34 s27 z27 (by decide) rfl rfl rfl (fun o112 => ?_)
                          refine w_call rfl rfl (CallW.mono (CallW.weak (Sel.weak (.cons tk (.cons tk (.cons tk .rest)))) (putZ_fn _ _ 8 (lastN 8 (List.replicate i z0)) ((i - 8 : Nat) : Int) _ _ _ (by omega) (by rw [lastN_len]; omega) (by omega) (by omega) (by omega) _)) ?_)
                          rintro _ _ ⟨_, rfl, s113, r113, rfl, rfl⟩
                          try simp only [List.cons_append, List.nil_append]
                          refine ws_nil ?_
                          rw [lastN_lastN, ← List.replicate_succ']
                          refine WC.recell (BK c79 ((i + 1 - 8 : Nat) : Int)) (o := o79) tk (by rw [lastN_len, List.length_replicate, ← Int.natCast_add]; congr 3; omega) ?_
                          refine wc_text ?_
                          refine w_move rfl rfl ?_
                          refine w_add u3 rfl rfl rfl (by omega) ?_
                          refine w_assign rfl rfl ?_
                          refine ws_nil ?_
                          exact ⟨⟨(i + 1, _, _, _, _), (by omega : i + 1 ≤ 10)⟩, by simp only; omega, (.cons rfl (.cons rfl (.cons rfl (.nil _)))), (Sel.weak (.cons tk (.cons tk (.cons tk (.cons tk .nil)))))⟩
                        · replace h26 := of_decide_eq_false h26
                          have hi2 : i = 10 := by omega
                          subst hi2
                          refine wc_exit ?_
                          refine wc_seq ?_
                          refine wc_text ?_
                          refine w_move rfl rfl ?_
                          refine w_call rfl rfl (CallW.mono (CallW.weak (Sel.weak (.cons tk (.cons tk .rest))) (len_fn _ _ _ _ _ _ _ _)) ?_)
                          rintro _ _ ⟨_, rfl, rfl, rfl⟩
                          try simp only [List.cons_append, List.nil_append]
                          refine w_eql u3 rfl rfl rfl ?_
                          refine w_move rfl rfl ?_
                          refine ws_split (t := 117) rfl (fun g117 => ?_) (fun g117 => ?_)
                          · first | replace g117 := of_decide_eq_true g117 | replace g117 := of_decide_eq_false g117 | replace g117 := of_decide_eq_false (nb_T g117) | replace g117 := of_decide_eq_true (nb_F g117) | replace g117 := nb_T g117 | replace g117 := nb_F g117 | skip
                            first | replace g117 := Int.not_lt.mp g117 | replace g117 := Int.not_le.mp g117 | replace g117 := Decidable.not_not.mp g117 | skip
                            refine ws_on rfl rfl ?_
                            refine w_move rfl rfl ?_
                            refine ws_on rfl rfl ?_
                            refine w_call rfl rfl (CallW.mono (CallW.weak (Sel.weak (.cons tk (.cons tk .rest))) (len_fn _ _ _ _ _ _ _ _)) ?_)
                            rintro _ _ ⟨_, rfl, rfl, rfl⟩
                            try simp only [List.cons_append, List.nil_append]
                            refine ws_on rfl rfl ?_
                            refine w_eql u3 rfl rfl rfl ?_
                            first | refine w_pickT rfl rfl rfl ⟨_, rfl⟩ ?_ | refine w_pickF rfl rfl ⟨_, rfl⟩ rfl ?_ | refine w_pick rfl rfl rfl rfl ?_
                            refine w_move rfl rfl ?_
                            refine ws_split (t := 122) rfl (fun g122 => ?_) (fun g122 => ?_)
                            · first | replace g122 := of_decide_eq_true g122 | replace g122 := of_decide_eq_false g122 | replace g122 := of_decide_eq_false (nb_T g122) | replace g122 := of_decide_eq_true (nb_F g122) | replace g122 := nb_T g122 | replace g122 := nb_F g122 | skip
                              first | replace g122 := Int.not_lt.mp g122 | replace g122 := Int.not_le.mp g122 | replace g122 := Decidable.not_not.mp g122 | skip
                              refine ws_on rfl rfl ?_
                              refine w_move rfl rfl ?_
                              refine ws_on rfl rfl ?_
                              refine w_call rfl rfl (CallW.mono (CallW.weak (Sel.weak (.cons tk (.cons tk .rest))) (dropped_fn _ _ _ _ _ _ _ _)) ?_)
                              rintro _ _ ⟨_, rfl, rfl, rfl⟩
                              try simp only [List.cons_append, List.nil_append]
                              refine ws_on rfl rfl ?_
                              refine w_eql u3 rfl rfl rfl ?_
                              first | refine w_pickT rfl rfl rfl ⟨_, rfl⟩ ?_ | refine w_pickF rfl rfl ⟨_, rfl⟩ rfl ?_ | refine w_pick rfl rfl rfl rfl ?_
                              refine w_move rfl rfl ?_
                              refine ws_split (t := 127) rfl (fun g127 => ?_) (fun g127 => ?_)
                              · first | replace g127 := of_decide_eq_true g127 | replace g127 := of_decide_eq_false g127 | replace g127 := of_decide_eq_false (nb_T g127) | replace g127 := of_decide_eq_true (nb_F g127) | replace g127 := nb_T g127 | replace g127 := nb_F g127 | skip
                                first | replace g127 := Int.not_lt.mp g127 | replace g127 := Int.not_le.mp g127 | replace g127 := Decidable.not_not.mp g127 | skip
                                refine ws_on rfl rfl ?_
                                refine w_move rfl rfl ?_
                                refine ws_on rfl rfl ?_
                                refine w_call rfl rfl (CallW.mono (CallW.weak (Sel.weak (.cons tk (.cons tk .rest))) (all_fn _ _ 8 (lastN 8 (List.replicate 10 z0)) _ _ _ (by omega) (by rw [lastN_len]; omega) (by omega) (lastN_mem (z0_alerts 10)) _)) ?_)
                                rintro v129 _ ⟨_, rfl, s129, r129, rfl⟩
                                try simp only [List.cons_append, List.nil_append]
                                refine ws_on rfl rfl ?_
                                first | refine w_len rfl rfl (len_lst u34) ?_ | refine w_len rfl rfl (len_slice u34) ?_ | refine w_lenO rfl u34 rfl rfl tk ?_
                                refine ws_on rfl rfl ?_
                                refine w_move rfl rfl ?_
                                refine ws_on rfl rfl ?_
                                refine w_call rfl rfl (CallW.mono (CallW.weak (Sel.weak (.cons tk (.cons tk .rest))) (len_fn _ _ _ _ _ _ _ _)) ?_)
                                rintro _ _ ⟨_, rfl, rfl, rfl⟩
                                try simp only [List.cons_append, List.nil_append]
                                refine ws_on rfl rfl ?_
                                refine w_eql u3 rfl rfl rfl ?_
                                first | refine w_pickT rfl rfl rfl ⟨_, rfl⟩ ?_ | refine w_pickF rfl rfl ⟨_, rfl⟩ rfl ?_ | refine w_pick rfl rfl rfl rfl ?_
                                refine w_move rfl rfl ?_
                                refine ws_split (t := 135) rfl (fun g135 => ?_) (fun g135 => ?_)
                                · first | replace g135 := of_decide_eq_true g135 | replace g135 := of_decide_eq_false g135 | replace g135 := of_decide_eq_false (nb_T g135) | replace g135 := of_decide_eq_true (nb_F g135) | replace g135 := nb_T g135 | replace g135 := nb_F g135 | skip
                                  first | replace g135 := Int.not_lt.mp g135 | replace g135 := Int.not_le.mp g135 | replace g135 := Decidable.not_not.mp g135 | skip
                                  refine ws_on rfl rfl ?_
                                  refine w_call rfl rfl (cw_fn rfl rfl .nil (runsM_fn) ?_)
                                  first | refine w_pickT rfl rfl rfl ⟨_, rfl⟩ ?_ | refine w_pickF rfl rfl ⟨_, rfl⟩ rfl ?_ | refine w_pick rfl rfl rfl rfl ?_
                                  refine w_assign rfl rfl ?_
                                  refine ws_nil ?_
                                  refine wc_ret ?_
                                  refine ⟨_, (.cons (.tmp rfl) .nil), ?_, rfl⟩
                                  rfl
                                · first | replace g135 := of_decide_eq_true g135 | replace g135 := of_decide_eq_false g135 | replace g135 := of_decide_eq_false (nb_T g135) | replace g135 := of_decide_eq_true (nb_F g135) | replace g135 := nb_T g135 | replace g135 := nb_F g135 | skip
                                  first | replace g135 := Int.not_lt.mp g135 | replace g135 := Int.not_le.mp g135 | replace g135 := Decidable.not_not.mp g135 | skip
                                  first | cases g135 | exact absurd rfl g135 | simp at g135
                              · first | replace g127 := of_decide_eq_true g127 | replace g127 := of_decide_eq_false g127 | replace g127 := of_decide_eq_false (nb_T g127) | replace g127 := of_decide_eq_true (nb_F g127) | replace g127 := nb_T g127 | replace g127 := nb_F g127 | skip
                                first | replace g127 := Int.not_lt.mp g127 | replace g127 := Int.not_le.mp g127 | replace g127 := Decidable.not_not.mp g127 | skip
                                first | cases g127 | exact absurd rfl g127 | simp at g127
                            · first | replace g122 := of_decide_eq_true g122 | replace g122 := of_decide_eq_false g122 | replace g122 := of_decide_eq_false (nb_T g122) | replace g122 := of_decide_eq_true (nb_F g122) | replace g122 := nb_T g122 | replace g122 := nb_F g122 | skip
                              first | replace g122 := Int.not_lt.mp g122 | replace g122 := Int.not_le.mp g122 | replace g122 := Decidable.not_not.mp g122 | skip
                              first | cases g122 | exact absurd rfl g122 | simp at g122
                          · first | replace g117 := of_decide_eq_true g117 | replace g117 := of_decide_eq_false g117 | replace g117 := of_decide_eq_false (nb_T g117) | replace g117 := of_decide_eq_true (nb_F g117) | replace g117 := nb_T g117 | replace g117 := nb_F g117 | skip
                            first | replace g117 := Int.not_lt.mp g117 | replace g117 := Int.not_le.mp g117 | replace g117 := Decidable.not_not.mp g117 | skip
                            first | cases g117 | exact absurd rfl g117 | simp at g117

set_option maxHeartbeats 4000000 in
theorem copies_cons (texts : List (List UInt8)) (room : Int) (hl0 : texts.length ≤ 9223372036854775807) (A : List (List UInt8)) (hAe : (texts.drop 0).take (min texts.length 5 - 0) = A) (hA0 : 0 < A.length) : PFn C 6 [AL eS texts, .int .i64 room] (.bool true) := by
  refine fn_view rfl rfl (fn := Try.f6) rfl rfl rfl rfl rfl ?_
  have hA5 : A.length ≤ 5 := by rw [← hAe]; simp; omega
  have hA6 : (nC A).alerts.length < 1000000 := by show A.length < 1000000; omega
  refine wc_seq ?_
  refine wc_text ?_
  refine w_assign rfl rfl ?_
  refine ws_nil ?_
  refine wc_seq ?_
  refine wc_text ?_
  refine w_call rfl rfl (CallW.mono (new_fn _ _) ?_)
  rintro _ _ ⟨_, rfl, o16, c16, rfl, rfl⟩
  try simp only [List.cons_append, List.nil_append]
  refine w_assign rfl rfl ?_
  refine ws_nil ?_
  rw [show (max 1 (min (8 : Int) 8)).toNat = 8 by decide]
  refine wc_seq ?_
  refine wc_seq ?_
  refine wc_text ?_
  refine w_move rfl rfl ?_
  refine w_ceql u22 (by simp) (by simp) rfl rfl rfl (cmp_ptr u22 rfl rfl) ?_
  refine ws_nil ?_
  refine wc_cond rfl (fun h2 => ?_) (fun h2 => ?_)
  · first | replace h2 := of_decide_eq_true h2 | replace h2 := of_decide_eq_false h2 | replace h2 := of_decide_eq_false (nb_T h2) | replace h2 := of_decide_eq_true (nb_F h2) | replace h2 := nb_T h2 | replace h2 := nb_F h2 | skip
    first | replace h2 := Int.not_lt.mp h2 | replace h2 := Int.not_le.mp h2 | replace h2 := Decidable.not_not.mp h2 | skip
    cases h2
  · first | replace h2 := of_decide_eq_true h2 | replace h2 := of_decide_eq_false h2 | replace h2 := of_decide_eq_false (nb_T h2) | replace h2 := of_decide_eq_true (nb_F h2) | replace h2 := nb_T h2 | replace h2 := nb_F h2 | skip
    first | replace h2 := Int.not_lt.mp h2 | replace h2 := Int.not_le.mp h2 | replace h2 := Decidable.not_not.mp h2 | skip
    refine wc_stay ?_
    refine wc_seq ?_
    refine wc_text ?_
    refine w_buildS (cs := []) u25 s9 z9 (by decide) rfl rfl rfl (fun o19 => ?_)
    refine w_move rfl rfl ?_
    refine w_move rfl rfl ?_
    first | refine w_len rfl rfl (len_lst u25) ?_ | refine w_len rfl rfl (len_slice u25) ?_ | refine w_lenO rfl u25 rfl rfl tk ?_
    refine w_min rfl rfl rfl ?_
    refine w_slice rfl rfl rfl rfl rfl (slice_al (i := 0) (j := min texts.length 5) u25 s9 (by intro _; rfl) (by rfl) (natOr_of (by omega)) (by omega) (by omega)) ?_
    rw [hAe]
    refine WS.ownEmpty (v := .slice (some ⟨o19, 0⟩) 0 (.exact 0)) (.inl ⟨_, rfl⟩) 9 1 ?_
    refine w_appO (enc := eS) (l := []) (m := A) rfl u25 s9 b9 z9 u25 (by simp) rfl rfl rfl tk nw (by unfold bigBy; first | omega | (simp only [List.length_nil, List.length_cons, List.length_append, List.length_take, List.length_drop]; omega)) (by unfold bigBy; first | omega | (simp only [List.length_nil, List.length_cons, List.length_append, List.length_take, List.length_drop]; omega)) (fun v25 => ?_)
    refine w_assign rfl rfl ?_
    refine ws_nil ?_
    rw [List.nil_append]
    refine WC.freeze (t := 6) (v' := AL eS A) rfl rfl (.ownK rfl .head (flat_done (by intro _; rfl) _)) rfl ?_
    refine wc_seq ?_
    refine wc_text ?_
    refine w_buildS (cs := []) u25 s9 z9 (by decide) rfl rfl rfl (fun o26 => ?_)
    refine w_move rfl rfl ?_
    refine WS.ownEmpty (v := .slice (some ⟨o26, 0⟩) 0 (.exact 0)) (.inl ⟨_, rfl⟩) 9 1 ?_
    refine w_appO (enc := eS) (l := []) (m := A) rfl u25 s9 b9 z9 u25 (by simp) rfl rfl rfl tk nw (by unfold bigBy; first | omega | (simp only [List.length_nil, List.length_cons, List.length_append, List.length_take, List.length_drop]; omega)) (by unfold bigBy; first | omega | (simp only [List.length_nil, List.length_cons, List.length_append, List.length_take, List.length_drop]; omega)) (fun v28 => ?_)
    refine w_assign rfl rfl ?_
    refine ws_nil ?_
    rw [List.nil_append]
    refine WC.openOwn (v := v28) .head hA0 (fun oh hoh => ?_)
    subst hoh
    refine wc_seq ?_
    refine wc_seq ?_
    refine wc_text ?_
    refine w_move rfl rfl ?_
    refine w_move rfl rfl ?_
    refine w_build (v := .agg [_, _, _]) B27 rfl rfl rfl ?_
    refine w_buildS (cs := [.str [116], .str [103], .slice (some ⟨oh, 0⟩) A.length (.op 0)]) u34 s27 z27 (by decide) rfl rfl rfl (fun o32 => ?_)
    refine w_call rfl rfl (CallW.mono (CallW.weak (Sel.weak (.cons tk (.cons tk (.cons tk (.cons tk .rest))))) (putP_fn _ _ 8 [] _ _ _ _ _ (nC A) (by omega) (by simp) (by omega) (by omega) (by omega) hA6 _)) ?_)
    rintro _ _ ⟨_, rfl, s33, r33, rfl, rfl⟩
    try simp only [List.cons_append, List.nil_append]
    refine w_neq u3 rfl rfl rfl ?_
    refine ws_nil ?_
    refine WC.recell (BK c16 0) (o := o16) tk rfl ?_
    refine WC.reobj (o := c16) (.chan 8 ([nC A].map ag) s33 r33) tk rfl ?_
    refine wc_cond rfl (fun h6 => ?_) (fun h6 => ?_)
    · first | replace h6 := of_decide_eq_true h6 | replace h6 := of_decide_eq_false h6 | replace h6 := of_decide_eq_false (nb_T h6) | replace h6 := of_decide_eq_true (nb_F h6) | replace h6 := nb_T h6 | replace h6 := nb_F h6 | skip
      first | replace h6 := Int.not_lt.mp h6 | replace h6 := Int.not_le.mp h6 | replace h6 := Decidable.not_not.mp h6 | skip
      exact absurd rfl h6
    · first | replace h6 := of_decide_eq_true h6 | replace h6 := of_decide_eq_false h6 | replace h6 := of_decide_eq_false (nb_T h6) | replace h6 := of_decide_eq_true (nb_F h6) | replace h6 := nb_T h6 | replace h6 := nb_F h6 | skip
      first | replace h6 := Int.not_lt.mp h6 | replace h6 := Int.not_le.mp h6 | replace h6 := Decidable.not_not.mp h6 | skip
      refine wc_stay ?_
      refine wc_seq ?_
      refine wc_seq ?_
      refine wc_text ?_
      refine w_move rfl rfl ?_
      first | refine w_len rfl rfl (len_lst u25) ?_ | refine w_len rfl rfl (len_slice u25) ?_ | refine w_lenO rfl u25 rfl rfl tk ?_
      refine w_move rfl rfl ?_
      refine ws_nil ?_
      refine wc_block ?_
      refine wc_loop (σ := { p : Nat × List (List UInt8) // p.2.length = A.length }) (fun u => [(5, .ptr (some ⟨o16, 0⟩)), (6, AL eS A), (7, .slice (some ⟨oh, 0⟩) A.length (.op 0)), (36, .int .i64 (A.length : Nat)), (37, .int .i64 (u.1.1 : Nat))]) (fun u => [.obj oh (.row 9 1 false (u.1.2.flatMap eS)), .obj o16 (.row 63 2 false (BK c16 0)), .obj c16 (.chan 8 (([nC A]).map ag) s33 r33)]) (fun u => A.length - u.1.1) ?_ ⟨(0, A), rfl⟩ (.cons rfl (.cons rfl (.cons rfl (.cons rfl (.cons rfl (.nil _)))))) (Sel.weak (.cons tk (.cons tk (.cons tk .nil))))
      rintro ⟨⟨j, cs⟩, hcs⟩
      dsimp only
      simp only at hcs
      refine wc_seq ?_
      refine wc_text ?_
      refine w_lss u3 rfl rfl rfl ?_
      refine ws_nil ?_
      refine wc_seq ?_
      refine wc_cond rfl (fun h9 => ?_) (fun h9 => ?_)
      · replace h9 := of_decide_eq_true h9
        refine wc_stay ?_
        refine wc_seq ?_
        refine wc_block ?_
        refine wc_seq ?_
        refine wc_text ?_
        refine w_move rfl rfl ?_
        refine w_assign rfl rfl ?_
        refine ws_nil ?_
        refine wc_text ?_
        obtain ⟨z, hz⟩ := get_of_lt (l := cs) (k := j) (by omega)
        refine w_move rfl rfl ?_
        refine w_move rfl rfl ?_
        first | refine w_lidx u25 s9 rfl rfl rfl (by omega) ?_ | refine w_slidx u25 s9 rfl rfl rfl (by omega) ?_
        refine w_st s9 rfl rfl rfl tk rfl rfl (over_oneP (k := j) rfl (by rw [flat_length eS_len]; omega)) ?_
        refine ws_nil ?_
        refine WC.recell ((cs.set j [116, 117, 114, 110, 101, 100]).flatMap eS) (o := oh) tk (setS hz) ?_
        refine wc_text ?_
        refine w_add u3 rfl rfl rfl (by omega) ?_
        refine w_move rfl rfl ?_
        refine ws_nil ?_
        exact ⟨⟨(j + 1, cs.set j [116, 117, 114, 110, 101, 100]), by simp [hcs]⟩, by simp only; omega, (.cons rfl (.cons rfl (.cons rfl (.cons rfl (.cons rfl (.nil _)))))), (Sel.weak (.cons tk (.cons tk (.cons tk .nil))))⟩
      · skip
        refine wc_exit ?_
        refine wc_seq ?_
        refine wc_text ?_
        refine w_move rfl rfl ?_
        refine w_call rfl rfl (CallW.mono (CallW.weak (Sel.weak (.cons tk (.cons tk .rest))) (allP_fn _ _ 8 (nC A) _ _ _ (by omega) (by omega) hA0 hA6 _)) ?_)
        rintro v45 _ ⟨_, rfl, pa, s45, r45, rfl⟩
        try simp only [List.cons_append, List.nil_append]
        refine w_assign rfl rfl ?_
        refine ws_nil ?_
        refine WC.openOwn (v := v45) tk (by omega) (fun ol hol => ?_)
        subst hol
        refine wc_seq ?_
        refine wc_seq ?_
        refine wc_text ?_
        refine w_move rfl rfl ?_
        first | refine w_len rfl rfl (len_lst u34) ?_ | refine w_len rfl rfl (len_slice u34) ?_ | refine w_lenO rfl u34 rfl rfl tk ?_
        refine w_neq u3 rfl rfl rfl ?_
        refine w_move rfl rfl ?_
        refine ws_split (t := 49) rfl (fun g49 => ?_) (fun g49 => ?_)
        · first | replace g49 := of_decide_eq_true g49 | replace g49 := of_decide_eq_false g49 | replace g49 := of_decide_eq_false (nb_T g49) | replace g49 := of_decide_eq_true (nb_F g49) | replace g49 := nb_T g49 | replace g49 := nb_F g49 | skip
          first | replace g49 := Int.not_lt.mp g49 | replace g49 := Int.not_le.mp g49 | replace g49 := Decidable.not_not.mp g49 | skip
          first | cases g49 | exact absurd rfl g49 | simp at g49
        · first | replace g49 := of_decide_eq_true g49 | replace g49 := of_decide_eq_false g49 | replace g49 := of_decide_eq_false (nb_T g49) | replace g49 := of_decide_eq_true (nb_F g49) | replace g49 := nb_T g49 | replace g49 := nb_F g49 | skip
          first | replace g49 := Int.not_lt.mp g49 | replace g49 := Int.not_le.mp g49 | replace g49 := Decidable.not_not.mp g49 | skip
          refine ws_on rfl rfl ?_
          refine w_move rfl rfl ?_
          refine ws_on rfl rfl ?_
          first | refine w_lidx u34 s27 rfl rfl rfl (by omega) ?_ | refine w_slidx u34 s27 rfl rfl rfl (by omega) ?_
          refine ws_on rfl rfl ?_
          first | refine w_faddrC O27_2 rfl rfl ?_ | refine w_faddrP O27_2 rfl rfl ?_
          refine ws_on rfl rfl ?_
          first | refine w_ldC1 a25 rfl rfl rdc ?_ | refine w_ldP1 a25 rfl rfl tk rdp ?_
          refine ws_on rfl rfl ?_
          refine w_move rfl rfl ?_
          refine ws_on rfl rfl ?_
          refine w_call rfl rfl (cw_fn rfl rfl (.cons fz (.cons fz .nil)) (sameS_fn A A (by omega)) ?_)
          refine ws_on rfl rfl ?_
          refine w_not rfl rfl ?_
          first | refine w_pickT rfl rfl rfl ⟨_, rfl⟩ ?_ | refine w_pickF rfl rfl ⟨_, rfl⟩ rfl ?_ | refine w_pick rfl rfl rfl rfl ?_
          refine ws_nil ?_
          refine wc_cond rfl (fun h14 => ?_) (fun h14 => ?_)
          · first | replace h14 := of_decide_eq_true h14 | replace h14 := of_decide_eq_false h14 | replace h14 := of_decide_eq_false (nb_T h14) | replace h14 := of_decide_eq_true (nb_F h14) | replace h14 := nb_T h14 | replace h14 := nb_F h14 | skip
            first | replace h14 := Int.not_lt.mp h14 | replace h14 := Int.not_le.mp h14 | replace h14 := Decidable.not_not.mp h14 | skip
            first | cases h14 | exact absurd rfl h14 | simp at h14
          · first | replace h14 := of_decide_eq_true h14 | replace h14 := of_decide_eq_false h14 | replace h14 := of_decide_eq_false (nb_T h14) | replace h14 := of_decide_eq_true (nb_F h14) | replace h14 := nb_T h14 | replace h14 := nb_F h14 | skip
            first | replace h14 := Int.not_lt.mp h14 | replace h14 := Int.not_le.mp h14 | replace h14 := Decidable.not_not.mp h14 | skip
            refine wc_stay ?_
            refine wc_seq ?_
            refine wc_seq ?_
            refine wc_text ?_
            refine w_move rfl rfl ?_
            first | refine w_lidx u34 s27 rfl rfl rfl (by omega) ?_ | refine w_slidx u34 s27 rfl rfl rfl (by omega) ?_
            first | refine w_faddrC O27_2 rfl rfl ?_ | refine w_faddrP O27_2 rfl rfl ?_
            first | refine w_ldC1 a25 rfl rfl rdc ?_ | refine w_ldP1 a25 rfl rfl tk rdp ?_
            first | refine w_len rfl rfl (len_lst u25) ?_ | refine w_len rfl rfl (len_slice u25) ?_ | refine w_lenO rfl u25 rfl rfl tk ?_
            refine w_move rfl rfl ?_
            refine ws_nil ?_
            refine wc_block ?_
            refine wc_loop (σ := { p : Nat × List (List UInt8) // p.2.length = A.length }) (fun u => [(5, .ptr (some ⟨o16, 0⟩)), (6, AL eS A), (9, .slice (some ⟨ol, 0⟩) 1 (.op 0)), (62, .int .i64 (A.length : Nat)), (63, .int .i64 (u.1.1 : Nat))]) (fun u => [.obj pa (.row 9 1 false (u.1.2.flatMap eS)), .obj ol (.row 27 3 false [.str [116], .str [103], .slice (some ⟨pa, 0⟩) A.length (.op 0)]), .obj o16 (.row 63 2 false (BK c16 0)), .obj c16 (.chan 8 (([nC A]).map ag) s45 r45)]) (fun u => A.length - u.1.1) ?_ ⟨(0, A), rfl⟩ (.cons rfl (.cons rfl (.cons rfl (.cons rfl (.cons rfl (.nil _)))))) (Sel.weak (.cons tk (.cons tk (.cons tk (.cons tk .nil)))))
            rintro ⟨⟨j, cs⟩, hcs⟩
            dsimp only
            simp only at hcs
            refine wc_seq ?_
            refine wc_text ?_
            refine w_lss u3 rfl rfl rfl ?_
            refine ws_nil ?_
            refine wc_seq ?_
            refine wc_cond rfl (fun h17 => ?_) (fun h17 => ?_)
            · replace h17 := of_decide_eq_true h17
              refine wc_stay ?_
              refine wc_seq ?_
              refine wc_block ?_
              refine wc_seq ?_
              refine wc_text ?_
              refine w_move rfl rfl ?_
              refine w_assign rfl rfl ?_
              refine ws_nil ?_
              refine wc_text ?_
              obtain ⟨z, hz⟩ := get_of_lt (l := cs) (k := j) (by omega)
              refine w_move rfl rfl ?_
              first | refine w_lidx u34 s27 rfl rfl rfl (by omega) ?_ | refine w_slidx u34 s27 rfl rfl rfl (by omega) ?_
              first | refine w_faddrC O27_2 rfl rfl ?_ | refine w_faddrP O27_2 rfl rfl ?_
              first | refine w_ldC1 a25 rfl rfl rdc ?_ | refine w_ldP1 a25 rfl rfl tk rdp ?_
              refine w_move rfl rfl ?_
              first | refine w_lidx u25 s9 rfl rfl rfl (by omega) ?_ | refine w_slidx u25 s9 rfl rfl rfl (by omega) ?_
              refine w_st s9 rfl rfl rfl tk rfl rfl (over_oneP (k := j) rfl (by rw [flat_length eS_len]; omega)) ?_
              refine ws_nil ?_
              refine WC.recell ((cs.set j [116, 117, 114, 110, 101, 100]).flatMap eS) (o := pa) tk (setS hz) ?_
              refine wc_text ?_
              refine w_add u3 rfl rfl rfl (by omega) ?_
              refine w_move rfl rfl ?_
              refine ws_nil ?_
              exact ⟨⟨(j + 1, cs.set j [116, 117, 114, 110, 101, 100]), by simp [hcs]⟩, by simp only; omega, (.cons rfl (.cons rfl (.cons rfl (.cons rfl (.cons rfl (.nil _)))))), (Sel.weak (.cons tk (.cons tk (.cons tk (.cons tk .nil)))))⟩
            · skip
              refine wc_exit ?_
              refine wc_seq ?_
              refine wc_text ?_
              refine w_move rfl rfl ?_
              refine w_call rfl rfl (CallW.mono (CallW.weak (Sel.weak (.cons tk (.cons tk .rest))) (take_cons _ _ _ (nC A) [] _ _ _ _)) ?_)
              rintro _ _ ⟨_, rfl, rfl, rfl⟩
              try simp only [List.cons_append, List.nil_append]
              refine w_move rfl rfl ?_
              refine w_extract rfl rfl rfl ?_
              refine w_extract rfl rfl rfl ?_
              refine w_alloc z27 s27 rfl (fun o11 => ?_)
              refine w_st s27 rfl rfl rfl tk rfl rfl ovw ?_
              refine w_assign rfl rfl ?_
              refine ws_nil ?_
              refine WC.freezePtr (t := 11) (cs := eN (nC A)) rfl rfl .head rfl ?_
              refine wc_seq ?_
              refine wc_text ?_
              refine w_call rfl rfl (CallW.mono (new_fn _ _) ?_)
              rintro _ _ ⟨_, rfl, o78, c78, rfl, rfl⟩
              try simp only [List.cons_append, List.nil_append]
              refine w_call rfl rfl (CallW.mono (new_fn _ _) ?_)
              rintro _ _ ⟨_, rfl, o79, c79, rfl, rfl⟩
              try simp only [List.cons_append, List.nil_append]
              refine w_assign rfl rfl ?_
              refine w_assign rfl rfl ?_
              refine ws_nil ?_
              rw [show (max 1 (min (-5 : Int) 8)).toNat = 1 by decide, show (max 1 (min (1099511627776 : Int) 8)).toNat = 8 by decide]
              refine wc_seq ?_
              refine wc_seq ?_
              refine wc_text ?_
              refine w_move rfl rfl ?_
              refine w_ceql u22 (by simp) (by simp) rfl rfl rfl (cmp_ptr u22 rfl rfl) ?_
              refine w_move rfl rfl ?_
              refine ws_split (t := 82) rfl (fun g82 => ?_) (fun g82 => ?_)
              · first | replace g82 := of_decide_eq_true g82 | replace g82 := of_decide_eq_false g82 | replace g82 := of_decide_eq_false (nb_T g82) | replace g82 := of_decide_eq_true (nb_F g82) | replace g82 := nb_T g82 | replace g82 := nb_F g82 | skip
                first | replace g82 := Int.not_lt.mp g82 | replace g82 := Int.not_le.mp g82 | replace g82 := Decidable.not_not.mp g82 | skip
                first | cases g82 | exact absurd rfl g82 | simp at g82
              · first | replace g82 := of_decide_eq_true g82 | replace g82 := of_decide_eq_false g82 | replace g82 := of_decide_eq_false (nb_T g82) | replace g82 := of_decide_eq_true (nb_F g82) | replace g82 := nb_T g82 | replace g82 := nb_F g82 | skip
                first | replace g82 := Int.not_lt.mp g82 | replace g82 := Int.not_le.mp g82 | replace g82 := Decidable.not_not.mp g82 | skip
                refine ws_on rfl rfl ?_
                refine w_move rfl rfl ?_
                refine ws_on rfl rfl ?_
                refine w_ceql u22 (by simp) (by simp) rfl rfl rfl (cmp_ptr u22 rfl rfl) ?_
                first | refine w_pickT rfl rfl rfl ⟨_, rfl⟩ ?_ | refine w_pickF rfl rfl ⟨_, rfl⟩ rfl ?_ | refine w_pick rfl rfl rfl rfl ?_
                refine w_move rfl rfl ?_
                refine ws_split (t := 86) rfl (fun g86 => ?_) (fun g86 => ?_)
                · first | replace g86 := of_decide_eq_true g86 | replace g86 := of_decide_eq_false g86 | replace g86 := of_decide_eq_false (nb_T g86) | replace g86 := of_decide_eq_true (nb_F g86) | replace g86 := nb_T g86 | replace g86 := nb_F g86 | skip
                  first | replace g86 := Int.not_lt.mp g86 | replace g86 := Int.not_le.mp g86 | replace g86 := Decidable.not_not.mp g86 | skip
                  first | cases g86 | exact absurd rfl g86 | simp at g86
                · first | replace g86 := of_decide_eq_true g86 | replace g86 := of_decide_eq_false g86 | replace g86 := of_decide_eq_false (nb_T g86) | replace g86 := of_decide_eq_true (nb_F g86) | replace g86 := nb_T g86 | replace g86 := nb_F g86 | skip
                  first | replace g86 := Int.not_lt.mp g86 | replace g86 := Int.not_le.mp g86 | replace g86 := Decidable.not_not.mp g86 | skip
                  refine ws_on rfl rfl ?_
                  refine w_move rfl rfl ?_
                  refine ws_on rfl rfl ?_
                  refine w_not rfl rfl ?_
                  first | refine w_pickT rfl rfl rfl ⟨_, rfl⟩ ?_ | refine w_pickF rfl rfl ⟨_, rfl⟩ rfl ?_ | refine w_pick rfl rfl rfl rfl ?_
                  refine w_move rfl rfl ?_
                  refine ws_split (t := 90) rfl (fun g90 => ?_) (fun g90 => ?_)
                  · first | replace g90 := of_decide_eq_true g90 | replace g90 := of_decide_eq_false g90 | replace g90 := of_decide_eq_false (nb_T g90) | replace g90 := of_decide_eq_true (nb_F g90) | replace g90 := nb_T g90 | replace g90 := nb_F g90 | skip
                    first | replace g90 := Int.not_lt.mp g90 | replace g90 := Int.not_le.mp g90 | replace g90 := Decidable.not_not.mp g90 | skip
                    first | cases g90 | exact absurd rfl g90 | simp at g90
                  · first | replace g90 := of_decide_eq_true g90 | replace g90 := of_decide_eq_false g90 | replace g90 := of_decide_eq_false (nb_T g90) | replace g90 := of_decide_eq_true (nb_F g90) | replace g90 := nb_T g90 | replace g90 := nb_F g90 | skip
                    first | replace g90 := Int.not_lt.mp g90 | replace g90 := Int.not_le.mp g90 | replace g90 := Decidable.not_not.mp g90 | skip
                    refine ws_on rfl rfl ?_
                    first | refine w_faddrC O27_2 rfl rfl ?_ | refine w_faddrP O27_2 rfl rfl ?_
                    refine ws_on rfl rfl ?_
                    first | refine w_ldC1 a25 rfl rfl rdc ?_ | refine w_ldP1 a25 rfl rfl tk rdp ?_
                    refine ws_on rfl rfl ?_
                    refine w_move rfl rfl ?_
                    refine ws_on rfl rfl ?_
                    refine w_call rfl rfl (cw_fn rfl rfl (.cons fz (.cons fz .nil)) (sameS_fn A A (by omega)) ?_)
                    refine ws_on rfl rfl ?_
                    refine w_not rfl rfl ?_
                    first | refine w_pickT rfl rfl rfl ⟨_, rfl⟩ ?_ | refine w_pickF rfl rfl ⟨_, rfl⟩ rfl ?_ | refine w_pick rfl rfl rfl rfl ?_
                    refine w_move rfl rfl ?_
                    refine ws_split (t := 97) rfl (fun g97 => ?_) (fun g97 => ?_)
                    · first | replace g97 := of_decide_eq_true g97 | replace g97 := of_decide_eq_false g97 | replace g97 := of_decide_eq_false (nb_T g97) | replace g97 := of_decide_eq_true (nb_F g97) | replace g97 := nb_T g97 | replace g97 := nb_F g97 | skip
                      first | replace g97 := Int.not_lt.mp g97 | replace g97 := Int.not_le.mp g97 | replace g97 := Decidable.not_not.mp g97 | skip
                      first | cases g97 | exact absurd rfl g97 | simp at g97
                    · first | replace g97 := of_decide_eq_true g97 | replace g97 := of_decide_eq_false g97 | replace g97 := of_decide_eq_false (nb_T g97) | replace g97 := of_decide_eq_true (nb_F g97) | replace g97 := nb_T g97 | replace g97 := nb_F g97 | skip
                      first | replace g97 := Int.not_lt.mp g97 | replace g97 := Int.not_le.mp g97 | replace g97 := Decidable.not_not.mp g97 | skip
                      refine ws_on rfl rfl ?_
                      refine w_move rfl rfl ?_
                      refine ws_on rfl rfl ?_
                      refine w_call rfl rfl (CallW.mono (CallW.weak (Sel.weak (.cons tk (.cons tk .rest))) (len_fn _ _ _ _ _ _ _ _)) ?_)
                      rintro _ _ ⟨_, rfl, rfl, rfl⟩
                      try simp only [List.cons_append, List.nil_append]
                      refine ws_on rfl rfl ?_
                      refine w_neq u3 rfl rfl rfl ?_
                      first | refine w_pickT rfl rfl rfl ⟨_, rfl⟩ ?_ | refine w_pickF rfl rfl ⟨_, rfl⟩ rfl ?_ | refine w_pick rfl rfl rfl rfl ?_
                      refine ws_nil ?_
                      refine wc_cond rfl (fun h23 => ?_) (fun h23 => ?_)
                      · first | replace h23 := of_decide_eq_true h23 | replace h23 := of_decide_eq_false h23 | replace h23 := of_decide_eq_false (nb_T h23) | replace h23 := of_decide_eq_true (nb_F h23) | replace h23 := nb_T h23 | replace h23 := nb_F h23 | skip
                        first | replace h23 := Int.not_lt.mp h23 | replace h23 := Int.not_le.mp h23 | replace h23 := Decidable.not_not.mp h23 | skip
                        first | cases h23 | exact absurd rfl h23 | simp at h23
                      · first | replace h23 := of_decide_eq_true h23 | replace h23 := of_decide_eq_false h23 | replace h23 := of_decide_eq_false (nb_T h23) | replace h23 := of_decide_eq_true (nb_F h23) | replace h23 := nb_T h23 | replace h23 := nb_F h23 | skip
                        first | replace h23 := Int.not_lt.mp h23 | replace h23 := Int.not_le.mp h23 | replace h23 := Decidable.not_not.mp h23 | skip
                        refine wc_stay ?_
                        refine wc_seq ?_
                        refine wc_seq ?_
                        refine wc_text ?_
                        refine w_assign rfl rfl ?_
                        refine ws_nil ?_
                        refine WC.recell (BK c78 ((0 - 1 : Nat) : Int)) (o := o78) tk rfl ?_
                        refine WC.reobj (o := c78) (.chan 1 ((lastN 1 (List.replicate 0 z0)).map ag) 0 0) tk rfl ?_
                        refine WC.recell (BK c79 ((0 - 8 : Nat) : Int)) (o := o79) tk rfl ?_
                        refine WC.reobj (o := c79) (.chan 8 ((lastN 8 (List.replicate 0 z0)).map ag) 0 0) tk rfl ?_
                        refine wc_block ?_
                        refine wc_loop (σ := { x : Nat × Nat × Nat × Nat × Nat // x.1 ≤ 10 }) (fun u => [(13, .ptr (some ⟨o78, 0⟩)), (14, .ptr (some ⟨o79, 0⟩)), (15, .int .i64 (u.1.1 : Nat))]) (fun u => [.obj o78 (.row 63 2 false (BK c78 ((u.1.1 - 1 : Nat) : Int))), .obj c78 (.chan 1 ((lastN 1 (List.replicate u.1.1 z0)).map ag) u.1.2.1 u.1.2.2.1), .obj o79 (.row 63 2 false (BK c79 ((u.1.1 - 8 : Nat) : Int))), .obj c79 (.chan 8 ((lastN 8 (List.replicate u.1.1 z0)).map ag) u.1.2.2.2.1 u.1.2.2.2.2)]) (fun u => 10 - u.1.1) ?_ ⟨(0, 0, 0, 0, 0), Nat.zero_le _⟩ (.cons rfl (.cons rfl (.cons rfl (.nil _)))) (Sel.weak (.cons tk (.cons tk (.cons tk (.cons tk .nil)))))
                        rintro ⟨⟨i, s1, r1, s2, r2⟩, hi⟩
                        dsimp only
                        simp only at hi
                        refine wc_seq ?_
                        refine wc_seq ?_
                        refine wc_text ?_
                        refine w_move rfl rfl ?_
                        refine w_lss u3 rfl rfl rfl ?_
                        refine ws_nil ?_
                        refine wc_cond rfl (fun h26 => ?_) (fun h26 => ?_)
                        · replace h26 := of_decide_eq_true h26
                          refine wc_stay ?_
                          refine wc_seq ?_
                          refine wc_block ?_
                          refine wc_seq ?_
                          refine wc_text ?_
                          refine w_move rfl rfl ?_
                          refine w_build (v := .agg [_, _, _]) B27 rfl rfl rfl ?_
                          refine w_buildS (cs := [.str [], .str [], .slice none 0 (.exact 0)]) u34 s27 z27 (by decide) rfl rfl rfl (fun o108 => ?_)
                          refine w_call rfl rfl (CallW.mono (CallW.weak (Sel.weak (.cons tk (.cons tk (.cons tk .rest)))) (putZ_fn _ _ 1 (lastN 1 (List.replicate i z0)) ((i - 1 : Nat) : Int) _ _ _ (by omega) (by rw [lastN_len]; omega) (by omega) (by omega) (by omega) _)) ?_)
                          rintro _ _ ⟨_, rfl, s109, r109, rfl, rfl⟩
                          try simp only [List.cons_append, List.nil_append]
                          refine ws_nil ?_
                          rw [lastN_lastN, ← List.replicate_succ']
                          refine WC.recell (BK c78 ((i + 1 - 1 : Nat) : Int)) (o := o78) tk (by rw [lastN_len, List.length_replicate, ← Int.natCast_add]; congr 3; omega) ?_
                          refine wc_text ?_
                          refine w_move rfl rfl ?_
                          refine w_build (v := .agg [_, _, _]) B27 rfl rfl rfl ?_
                          refine w_buildS (cs := [.str [], .str [], .slice none 0 (.exact 0)]) u34 s27 z27 (by decide) rfl rfl rfl (fun o112 => ?_)
                          refine w_call rfl rfl (CallW.mono (CallW.weak (Sel.weak (.cons tk (.cons tk (.cons tk .rest)))) (putZ_fn _ _ 8 (lastN 8 (List.replicate i z0)) ((i - 8 : Nat) : Int) _ _ _ (by omega) (by rw [lastN_len]; omega) (by omega) (by omega) (by omega) _)) ?_)
                          rintro _ _ ⟨_, rfl, s113, r113, rfl, rfl⟩
                          try simp only [List.cons_append, List.nil_append]
                          refine ws_nil ?_
                          rw [lastN_lastN, ← List.replicate_succ']
                          refine WC.recell (BK c79 ((i + 1 - 8 : Nat) : Int)) (o := o79) tk (by rw [lastN_len, List.length_replicate, ← Int.natCast_add]; congr 3; omega) ?_
                          refine wc_text ?_
                          refine w_move rfl rfl ?_
                          refine w_add u3 rfl rfl rfl (by omega) ?_
                          refine w_assign rfl rfl ?_
                          refine ws_nil ?_
                          exact ⟨⟨(i + 1, _, _, _, _), (by omega : i + 1 ≤ 10)⟩, by simp only; omega, (.cons rfl (.cons rfl (.cons rfl (.nil _)))), (Sel.weak (.cons tk (.cons tk (.cons tk (.cons tk .nil)))))⟩
                        · replace h26 := of_decide_eq_false h26
                          have hi2 : i = 10 := by omega
                          subst hi2
                          refine wc_exit ?_
                          refine wc_seq ?_
                          refine wc_text ?_
                          refine w_move rfl rfl ?_
                          refine w_call rfl rfl (CallW.mono (CallW.weak (Sel.weak (.cons tk (.cons tk .rest))) (len_fn _ _ _ _ _ _ _ _)) ?_)
                          rintro _ _ ⟨_, rfl, rfl, rfl⟩
                          try simp only [List.cons_append, List.nil_append]
                          refine w_eql u3 rfl rfl rfl ?_
                          refine w_move rfl rfl ?_
                          refine ws_split (t := 117) rfl (fun g117 => ?_) (fun g117 => ?_)
                          · first | replace g117 := of_decide_eq_true g117 | replace g117 := of_decide_eq_false g117 | replace g117 := of_decide_eq_false (nb_T g117) | replace g117 := of_decide_eq_true (nb_F g117) | replace g117 := nb_T g117 | replace g117 := nb_F g117 | skip
                            first | replace g117 := Int.not_lt.mp g117 | replace g117 := Int.not_le.mp g117 | replace g117 := Decidable.not_not.mp g117 | skip
                            refine ws_on rfl rfl ?_
                            refine w_move rfl rfl ?_
                            refine ws_on rfl rfl ?_
                            refine w_call rfl rfl (CallW.mono (CallW.weak (Sel.weak (.cons tk (.cons tk .rest))) (len_fn _ _ _ _ _ _ _ _)) ?_)
                            rintro _ _ ⟨_, rfl, rfl, rfl⟩
                            try simp only [List.cons_append, List.nil_append]
                            refine ws_on rfl rfl ?_
                            refine w_eql u3 rfl rfl rfl ?_
                            first | refine w_pickT rfl rfl rfl ⟨_, rfl⟩ ?_ | refine w_pickF rfl rfl ⟨_, rfl⟩ rfl ?_ | refine w_pick rfl rfl rfl rfl ?_
                            refine w_move rfl rfl ?_
                            refine ws_split (t := 122) rfl (fun g122 => ?_) (fun g122 => ?_)
                            · first | replace g122 := of_decide_eq_true g122 | replace g122 := of_decide_eq_false g122 | replace g122 := of_decide_eq_false (nb_T g122) | replace g122 := of_decide_eq_true (nb_F g122) | replace g122 := nb_T g122 | replace g122 := nb_F g122 | skip
                              first | replace g122 := Int.not_lt.mp g122 | replace g122 := Int.not_le.mp g122 | replace g122 := Decidable.not_not.mp g122 | skip
                              refine ws_on rfl rfl ?_
                              refine w_move rfl rfl ?_
                              refine ws_on rfl rfl ?_
                              refine w_call rfl rfl (CallW.mono (CallW.weak (Sel.weak (.cons tk (.cons tk .rest))) (dropped_fn _ _ _ _ _ _ _ _)) ?_)
                              rintro _ _ ⟨_, rfl, rfl, rfl⟩
                              try simp only [List.cons_append, List.nil_append]
                              refine ws_on rfl rfl ?_
                              refine w_eql u3 rfl rfl rfl ?_
                              first | refine w_pickT rfl rfl rfl ⟨_, rfl⟩ ?_ | refine w_pickF rfl rfl ⟨_, rfl⟩ rfl ?_ | refine w_pick rfl rfl rfl rfl ?_
                              refine w_move rfl rfl ?_
                              refine ws_split (t := 127) rfl (fun g127 => ?_) (fun g127 => ?_)
                              · first | replace g127 := of_decide_eq_true g127 | replace g127 := of_decide_eq_false g127 | replace g127 := of_decide_eq_false (nb_T g127) | replace g127 := of_decide_eq_true (nb_F g127) | replace g127 := nb_T g127 | replace g127 := nb_F g127 | skip
                                first | replace g127 := Int.not_lt.mp g127 | replace g127 := Int.not_le.mp g127 | replace g127 := Decidable.not_not.mp g127 | skip
                                refine ws_on rfl rfl ?_
                                refine w_move rfl rfl ?_
                                refine ws_on rfl rfl ?_
                                refine w_call rfl rfl (CallW.mono (CallW.weak (Sel.weak (.cons tk (.cons tk .rest))) (all_fn _ _ 8 (lastN 8 (List.replicate 10 z0)) _ _ _ (by omega) (by rw [lastN_len]; omega) (by omega) (lastN_mem (z0_alerts 10)) _)) ?_)
                                rintro v129 _ ⟨_, rfl, s129, r129, rfl⟩
                                try simp only [List.cons_append, List.nil_append]
                                refine ws_on rfl rfl ?_
                                first | refine w_len rfl rfl (len_lst u34) ?_ | refine w_len rfl rfl (len_slice u34) ?_ | refine w_lenO rfl u34 rfl rfl tk ?_
                                refine ws_on rfl rfl ?_
                                refine w_move rfl rfl ?_
                                refine ws_on rfl rfl ?_
                                refine w_call rfl rfl (CallW.mono (CallW.weak (Sel.weak (.cons tk (.cons tk .rest))) (len_fn _ _ _ _ _ _ _ _)) ?_)
                                rintro _ _ ⟨_, rfl, rfl, rfl⟩
                                try simp only [List.cons_append, List.nil_append]
                                refine ws_on rfl rfl ?_
                                refine w_eql u3 rfl rfl rfl ?_
                                first | refine w_pickT rfl rfl rfl ⟨_, rfl⟩ ?_ | refine w_pickF rfl rfl ⟨_, rfl⟩ rfl ?_ | refine w_pick rfl rfl rfl rfl ?_
                                refine w_move rfl rfl ?_
                                refine ws_split (t := 135) rfl (fun g135 => ?_) (fun g135 => ?_)
                                · first | replace g135 := of_decide_eq_true g135 | replace g135 := of_decide_eq_false g135 | replace g135 := of_decide_eq_false (nb_T g135) | replace g135 := of_decide_eq_true (nb_F g135) | replace g135 := nb_T g135 | replace g135 := nb_F g135 | skip
                                  first | replace g135 := Int.not_lt.mp g135 | replace g135 := Int.not_le.mp g135 | replace g135 := Decidable.not_not.mp g135 | skip
                                  refine ws_on rfl rfl ?_
                                  refine w_call rfl rfl (cw_fn rfl rfl .nil (runsM_fn) ?_)
                                  first | refine w_pickT rfl rfl rfl ⟨_, rfl⟩ ?_ | refine w_pickF rfl rfl ⟨_, rfl⟩ rfl ?_ | refine w_pick rfl rfl rfl rfl ?_
                                  refine w_assign rfl rfl ?_
                                  refine ws_nil ?_
                                  refine wc_ret ?_
                                  refine ⟨_, (.cons (.tmp rfl) .nil), ?_, rfl⟩
                                  rfl
                                · first | replace g135 := of_decide_eq_true g135 | replace g135 := of_decide_eq_false g135 | replace g135 := of_decide_eq_false (nb_T g135) | replace g135 := of_decide_eq_true (nb_F g135) | replace g135 := nb_T g135 | replace g135 := nb_F g135 | skip
                                  first | replace g135 := Int.not_lt.mp g135 | replace g135 := Int.not_le.mp g135 | replace g135 := Decidable.not_not.mp g135 | skip
                                  first | cases g135 | exact absurd rfl g135 | simp at g135
                              · first | replace g127 := of_decide_eq_true g127 | replace g127 := of_decide_eq_false g127 | replace g127 := of_decide_eq_false (nb_T g127) | replace g127 := of_decide_eq_true (nb_F g127) | replace g127 := nb_T g127 | replace g127 := nb_F g127 | skip
                                first | replace g127 := Int.not_lt.mp g127 | replace g127 := Int.not_le.mp g127 | replace g127 := Decidable.not_not.mp g127 | skip
                                first | cases g127 | exact absurd rfl g127 | simp at g127
                            · first | replace g122 := of_decide_eq_true g122 | replace g122 := of_decide_eq_false g122 | replace g122 := of_decide_eq_false (nb_T g122) | replace g122 := of_decide_eq_true (nb_F g122) | replace g122 := nb_T g122 | replace g122 := nb_F g122 | skip
                              first | replace g122 := Int.not_lt.mp g122 | replace g122 := Int.not_le.mp g122 | replace g122 := Decidable.not_not.mp g122 | skip
                              first | cases g122 | exact absurd rfl g122 | simp at g122
                          · first | replace g117 := of_decide_eq_true g117 | replace g117 := of_decide_eq_false g117 | replace g117 := of_decide_eq_false (nb_T g117) | replace g117 := of_decide_eq_true (nb_F g117) | replace g117 := nb_T g117 | replace g117 := nb_F g117 | skip
                            first | replace g117 := Int.not_lt.mp g117 | replace g117 := Int.not_le.mp g117 | replace g117 := Decidable.not_not.mp g117 | skip
                            first | cases g117 | exact absurd rfl g117 | simp at g117

theorem copies_law (texts : List (List UInt8)) (room : Int) (hl0 : texts.length ≤ 9223372036854775807) : PFn C 6 [AL eS texts, .int .i64 room] (.bool true) := by
  by_cases h : ((texts.drop 0).take (min texts.length 5 - 0)).length = 0
  · exact copies_nil texts room hl0 _ rfl h
  · exact copies_cons texts room hl0 _ rfl (by omega)
end Go.Proofs.Ytknpdigpendnjaa.ml
