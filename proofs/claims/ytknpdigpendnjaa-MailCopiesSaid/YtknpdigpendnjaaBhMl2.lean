/-
  Package mail, walked by facts (printed by gen_ml.py).
-/
import Derived.Test.YtknpdigpendnjaaBhMl1
namespace Go.Proofs.Ytknpdigpendnjaa.ml
open Go Go.Proofs Go.Proofs.Ytknpdigpendnjaa.BH Go.Proofs.Ytknpdigpendnjaa.BH.Ml
open Go.Proofs.Ytknpdigpendnjaa.BH.Dk (withinV withinV_in clampV clampV_in natOr_of)
set_option maxRecDepth 100000
theorem putM_fn (o c cap : Nat) (q : List NoteD) (d : Int) (s r : Nat) (ns : List NoteD) (h0 : 0 < cap) (hq : q.length ≤ cap) (hn : ns.length < 1000000) (hc1 : cap < 1000000) (hd0 : 0 ≤ d) (hd1 : d < 1000000000) (ha : ∀ x ∈ ns, x.alerts.length < 1000000) (R : List HI) : CallW C 13 [.ptr (some ⟨o, 0⟩), AL eN ns] ([.obj o (.row 63 2 false (BK c d)), .obj c (.chan cap ((q).map ag) s r)] ++ R) fun v H => ∃ H', H = H' ++ R ∧ ∃ s2 r2, v = .int .i64 ((q.length + ns.length - cap : Nat) : Int) ∧ H' = [.obj o (.row 63 2 false (BK c (d + ((q.length + ns.length - cap : Nat) : Int)))), .obj c (.chan cap ((lastN cap (q ++ ns)).map ag) s2 r2)] := by
  refine cw_sharedA (fn := Try.f13) rfl rfl rfl rfl (K := fun v H' => ∃ s2 r2, v = .int .i64 ((q.length + ns.length - cap : Nat) : Int) ∧ H' = [.obj o (.row 63 2 false (BK c (d + ((q.length + ns.length - cap : Nat) : Int)))), .obj c (.chan cap ((lastN cap (q ++ ns)).map ag) s2 r2)]) ?_ R
  refine wc_seq ?_
  refine wc_text ?_
  refine w_assign rfl rfl ?_
  refine ws_nil ?_
  refine wc_seq ?_
  refine wc_text ?_
  refine w_move rfl rfl ?_
  refine w_nil rfl rfl rfl ?_
  first | refine w_faddrC O63_1 rfl rfl ?_ | refine w_faddrP O63_1 rfl rfl ?_
  first | refine w_ldC1 a3 rfl rfl rdc ?_ | refine w_ldP1 a3 rfl rfl tk rdp ?_
  refine w_assign rfl rfl ?_
  refine ws_nil ?_
  refine wc_seq ?_
  refine wc_seq ?_
  refine wc_text ?_
  refine w_move rfl rfl ?_
  first | refine w_len rfl rfl (len_lst u34) ?_ | refine w_len rfl rfl (len_slice u34) ?_ | refine w_lenO rfl u34 rfl rfl tk ?_
  refine w_move rfl rfl ?_
  refine ws_nil ?_
  refine WC.recell (BK c (d + ((q.length + 0 - cap : Nat) : Int))) tk (by rw [show q.length + 0 - cap = 0 by omega]; simp) ?_
  refine WC.reobj (o := c) (.chan cap ((lastN cap (q ++ ns.take 0)).map ag) s r) tk (by rw [List.take_zero, List.append_nil, lastN_all hq]) ?_
  refine wc_block ?_
  refine wc_loop (σ := { x : Nat × Nat × Nat // x.1 ≤ ns.length }) (fun u => [(0, .ptr (some ⟨o, 0⟩)), (5, .int .i64 d), (12, AL eN ns), (13, .int .i64 (ns.length : Nat)), (14, .int .i64 (u.1.1 : Nat))]) (fun u => [.obj o (.row 63 2 false (BK c (d + ((q.length + u.1.1 - cap : Nat) : Int)))), .obj c (.chan cap ((lastN cap (q ++ ns.take u.1.1)).map ag) u.1.2.1 u.1.2.2)]) (fun u => ns.length - u.1.1) ?_ ⟨(0, s, r), Nat.zero_le _⟩ (.cons rfl (.cons rfl (.cons rfl (.cons rfl (.cons rfl (.nil _)))))) (Sel.weak (.cons tk (.cons tk .nil)))
  rintro ⟨⟨k, s1, r1⟩, hk⟩
  dsimp only
  simp only at hk
  refine wc_seq ?_
  refine wc_text ?_
  refine w_lss u3 rfl rfl rfl ?_
  refine ws_nil ?_
  refine wc_seq ?_
  refine wc_cond rfl (fun h3 => ?_) (fun h3 => ?_)
  · replace h3 := of_decide_eq_true h3
    refine wc_stay ?_
    refine wc_seq ?_
    refine wc_block ?_
    refine wc_seq ?_
    refine wc_text ?_
    obtain ⟨x, hx⟩ := get_of_lt (l := ns) (k := k) (by omega)
    have hxa := ha x (List.mem_of_getElem? hx)
    first | refine w_lidx u34 s27 rfl rfl rfl (by omega) ?_ | refine w_slidx u34 s27 rfl rfl rfl (by omega) ?_
    first | refine w_ldC a27 s27 rfl rfl agc ?_ | refine w_ldP a27 s27 rfl rfl tk agp ?_
    refine w_alloc z27 s27 rfl (fun o7 => ?_)
    refine w_st s27 rfl rfl rfl tk rfl rfl ovw ?_
    refine ws_nil ?_
    refine WC.recell (eN x) tk rfl ?_
    refine wc_seq ?_
    refine wc_text ?_
    first | refine w_faddrC O27_2 rfl rfl ?_ | refine w_faddrP O27_2 rfl rfl ?_
    first | refine w_ldC1 a25 rfl rfl rdc ?_ | refine w_ldP1 a25 rfl rfl tk rdp ?_
    refine w_call rfl rfl (CallW.mono (clone_frz _ hxa _) ?_)
    rintro _ _ ⟨rfl, rfl⟩
    try simp only [List.cons_append, List.nil_append]
    first | refine w_faddrC O27_2 rfl rfl ?_ | refine w_faddrP O27_2 rfl rfl ?_
    refine w_st s25 rfl rfl rfl tk rfl rfl ovw ?_
    refine ws_nil ?_
    refine WC.recell (eN x) tk rfl ?_
    refine wc_block ?_
    refine wc_loop (σ := { x : List NoteD × Int × Nat × Nat // (x.1 = lastN cap (q ++ ns.take k) ∧ x.2.1 = (d + ((q.length + k - cap : Nat) : Int))) ∨ (x.1 = (lastN cap (q ++ ns.take k)).tail ∧ x.2.1 = (d + ((q.length + k - cap : Nat) : Int)) + 1 ∧ cap ≤ (lastN cap (q ++ ns.take k)).length) }) (fun u => [(0, .ptr (some ⟨o, 0⟩)), (5, .int .i64 d), (7, .ptr (some ⟨o7, 0⟩)), (12, AL eN ns), (13, .int .i64 (ns.length : Nat)), (14, .int .i64 (k : Nat))]) (fun u => [.obj o7 (.row 27 3 false (eN x)), .obj o (.row 63 2 false (BK c u.1.2.1)), .obj c (.chan cap ((u.1.1).map ag) u.1.2.2.1 u.1.2.2.2)]) (fun u => u.1.1.length) ?_ ⟨(lastN cap (q ++ ns.take k), (d + ((q.length + k - cap : Nat) : Int)), s1, r1), .inl ⟨rfl, rfl⟩⟩ (.cons rfl (.cons rfl (.cons rfl (.cons rfl (.cons rfl (.cons rfl (.nil _))))))) (Sel.weak (.cons tk (.cons tk (.cons tk .nil))))
    rintro ⟨⟨q1, d1, s2, r2⟩, hs⟩
    dsimp only
    simp only at hs
    have hQl := lastN_len cap (q ++ ns.take k)
    have hQl2 : (q ++ ns.take k).length = q.length + k := by rw [List.length_append, List.length_take]; omega
    rw [hQl2] at hQl
    refine wc_seq ?_
    refine wc_seq ?_
    refine wc_text ?_
    refine w_move rfl rfl ?_
    first | refine w_ldC a27 s27 rfl rfl agc ?_ | refine w_ldP a27 s27 rfl rfl tk agp ?_
    refine w_call rfl rfl (CallW.mono (CallW.weak (Sel.weak (.cons tk (.cons tk .rest))) (put_fn _ _ _ _ _ _ _ x _)) ?_)
    rintro _ _ ⟨rfl, rfl⟩
    try simp only [List.cons_append, List.nil_append]
    refine w_not rfl rfl ?_
    refine ws_nil ?_
    refine wc_cond rfl (fun h6 => ?_) (fun h6 => ?_)
    · replace h6 := of_decide_eq_false (nb_T h6)
      unfold addQ addN
      rw [if_neg h6, if_neg h6]
      have hs2 : q1 = lastN cap (q ++ ns.take k) ∧ d1 = (d + ((q.length + k - cap : Nat) : Int)) := by
        rcases hs with hs | ⟨e1, e2, e3⟩
        · exact hs
        · exact absurd (by rw [e1]; exact lastN_tail h0 e3) h6
      obtain ⟨n0, q2, hq2⟩ : ∃ n0 q2, q1 = n0 :: q2 := by
        cases q1 with
        | nil => exact absurd h0 (by simp at h6; omega)
        | cons a b => exact ⟨a, b, rfl⟩
      have hql : q1.length = q2.length + 1 := by rw [hq2]; rfl
      have hd2 : d1 = (d + ((q.length + k - cap : Nat) : Int)) := hs2.2
      refine wc_stay ?_
      refine wc_block ?_
      refine wc_seq ?_
      refine wc_text ?_
      rw [hq2]
      refine w_move rfl rfl ?_
      refine w_call rfl rfl (CallW.mono (CallW.weak (Sel.weak (.cons tk (.cons tk .rest))) (take_cons _ _ _ _ _ _ _ _ _)) ?_)
      rintro _ _ ⟨_, rfl, rfl, rfl⟩
      try simp only [List.cons_append, List.nil_append]
      refine ws_nil ?_
      refine wc_text ?_
      refine w_move rfl rfl ?_
      refine w_nil rfl rfl rfl ?_
      first | refine w_faddrC O63_1 rfl rfl ?_ | refine w_faddrP O63_1 rfl rfl ?_
      first | refine w_ldC1 a3 rfl rfl rdc ?_ | refine w_ldP1 a3 rfl rfl tk rdp ?_
      refine w_add u3 rfl rfl rfl (by omega) ?_
      refine w_nil rfl rfl rfl ?_
      first | refine w_faddrC O63_1 rfl rfl ?_ | refine w_faddrP O63_1 rfl rfl ?_
      refine w_st s3 rfl rfl rfl tk rfl rfl ovw ?_
      refine ws_nil ?_
      have f1 : q2 = (lastN cap (q ++ ns.take k)).tail := by rw [← hs2.1, hq2]; rfl
      have f2 : d1 + 1 = (d + ((q.length + k - cap : Nat) : Int)) + 1 := by rw [hs2.2]
      have f3 : cap ≤ (lastN cap (q ++ ns.take k)).length := by rw [← hs2.1]; omega
      exact ⟨⟨(q2, d1 + 1, s2, _), .inr ⟨f1, f2, f3⟩⟩, by simp only [List.length_cons]; omega, (.cons rfl (.cons rfl (.cons rfl (.cons rfl (.cons rfl (.cons rfl (.nil _))))))), (Sel.weak (.cons tk (.cons tk (.cons tk .nil))))⟩
    · replace h6 := of_decide_eq_true (nb_F h6)
      unfold addQ addN
      rw [if_pos h6, if_pos h6]
      obtain ⟨e1, e2⟩ : q1 ++ [x] = lastN cap (q ++ ns.take (k + 1)) ∧ d1 = d + ((q.length + (k + 1) - cap : Nat) : Int) := by
        rw [take_one hx, ← List.append_assoc]
        rcases hs with ⟨e1, e2⟩ | ⟨e1, e2, e3⟩
        · rw [e1] at h6 ⊢
          exact ⟨lastN_push h6, by rw [e2]; omega⟩
        · exact ⟨by rw [e1]; exact lastN_over h0 e3, by rw [e2]; omega⟩
      rw [e1, e2]
      refine wc_exit ?_
      refine wc_text ?_
      refine w_add u3 rfl rfl rfl (by omega) ?_
      refine w_move rfl rfl ?_
      refine ws_nil ?_
      exact ⟨⟨(k + 1, _, _), (by omega : k + 1 ≤ ns.length)⟩, by simp only; omega, (.cons rfl (.cons rfl (.cons rfl (.cons rfl (.cons rfl (.nil _)))))), (Sel.weak (.cons tk (.cons tk .nil)))⟩
  · replace h3 := of_decide_eq_false h3
    have hk2 : k = ns.length := by omega
    subst hk2
    rw [List.take_length]
    refine wc_exit ?_
    refine wc_seq ?_
    refine wc_text ?_
    refine w_move rfl rfl ?_
    refine w_nil rfl rfl rfl ?_
    first | refine w_faddrC O63_1 rfl rfl ?_ | refine w_faddrP O63_1 rfl rfl ?_
    first | refine w_ldC1 a3 rfl rfl rdc ?_ | refine w_ldP1 a3 rfl rfl tk rdp ?_
    refine w_move rfl rfl ?_
    refine w_sub u3 rfl rfl rfl (by omega) ?_
    refine w_assign rfl rfl ?_
    refine ws_nil ?_
    refine wc_ret ?_
    skip
    refine ⟨_, [.obj o _, .obj c _], (.cons (.tmp rfl) .nil), (Sel.weak (.cons tk (.cons tk .nil))), ?_⟩
    refine ⟨_, _, ?_, rfl⟩; exact congrArg (AV.int .i64) (by omega)

theorem all_fn (o c cap : Nat) (q : List NoteD) (d : Int) (s r : Nat) (h0 : 0 < cap) (hq : q.length ≤ cap) (hc1 : cap < 1000000) (ha : ∀ x ∈ q, x.alerts.length < 1000000) (R : List HI) : CallW C 20 [.ptr (some ⟨o, 0⟩)] ([.obj o (.row 63 2 false (BK c d)), .obj c (.chan cap ((q).map ag) s r)] ++ R) fun v H => ∃ H', H = H' ++ R ∧ ∃ s2 r2, H' = [.own v 27 3 (q.flatMap eN) q.length, .obj o (.row 63 2 false (BK c d)), .obj c (.chan cap ((q).map ag) s2 r2)] := by
  refine cw_sharedA (fn := Try.f20) rfl rfl rfl rfl (K := fun v H' => ∃ s2 r2, H' = [.own v 27 3 (q.flatMap eN) q.length, .obj o (.row 63 2 false (BK c d)), .obj c (.chan cap ((q).map ag) s2 r2)]) ?_ R
  refine wc_seq ?_
  refine wc_text ?_
  refine w_assign rfl rfl ?_
  refine ws_nil ?_
  refine wc_seq ?_
  refine wc_text ?_
  refine w_assign rfl rfl ?_
  refine ws_nil ?_
  refine wc_seq ?_
  refine wc_seq ?_
  refine wc_text ?_
  refine w_move rfl rfl ?_
  refine w_call rfl rfl (CallW.mono (CallW.weak (Sel.weak (.cons tk (.cons tk .rest))) (len_fn _ _ _ _ _ _ _ _)) ?_)
  rintro _ _ ⟨_, rfl, rfl, rfl⟩
  try simp only [List.cons_append, List.nil_append]
  refine w_move rfl rfl ?_
  refine ws_nil ?_
  refine WC.ownNil 27 3 ?_
  refine WC.reobj (o := c) (.chan cap ((q.drop 0 ++ q.take 0).map ag) s r) tk (by simp) ?_
  refine wc_block ?_
  refine wc_loop (σ := { x : Nat × AV × Nat × Nat // x.1 ≤ q.length }) (fun u => [(0, .ptr (some ⟨o, 0⟩)), (3, u.1.2.1), (7, .int .i64 (q.length : Nat)), (8, .int .i64 (u.1.1 : Nat))]) (fun u => [.own u.1.2.1 27 3 ((q.take u.1.1).flatMap eN) (q.take u.1.1).length, .obj o (.row 63 2 false (BK c d)), .obj c (.chan cap ((q.drop u.1.1 ++ q.take u.1.1).map ag) u.1.2.2.1 u.1.2.2.2)]) (fun u => q.length - u.1.1) ?_ ⟨(0, nilSlice, s, r), Nat.zero_le _⟩ (.cons rfl (.cons rfl (.cons rfl (.cons rfl (.nil _))))) (Sel.weak (.cons tk (.cons tk (.cons tk .nil))))
  rintro ⟨⟨k, v, s1, r1⟩, hk⟩
  dsimp only
  simp only at hk
  refine wc_seq ?_
  refine wc_text ?_
  refine w_lss u3 rfl rfl rfl ?_
  refine ws_nil ?_
  refine wc_seq ?_
  refine wc_cond rfl (fun h3 => ?_) (fun h3 => ?_)
  · replace h3 := of_decide_eq_true h3
    refine wc_stay ?_
    refine wc_seq ?_
    refine wc_block ?_
    refine wc_seq ?_
    refine wc_text ?_
    obtain ⟨x, hx⟩ := get_of_lt (l := q) (k := k) (by omega)
    have hxa := ha x (List.mem_of_getElem? hx)
    rw [drop_one hx, List.cons_append]
    refine w_move rfl rfl ?_
    refine w_call rfl rfl (CallW.mono (CallW.weak (Sel.weak (.cons tk (.cons tk .rest))) (take_cons _ _ _ _ _ _ _ _ _)) ?_)
    rintro _ _ ⟨_, rfl, rfl, rfl⟩
    try simp only [List.cons_append, List.nil_append]
    refine w_move rfl rfl ?_
    refine w_extract rfl rfl rfl ?_
    refine w_extract rfl rfl rfl ?_
    refine w_alloc z27 s27 rfl (fun o4 => ?_)
    refine w_st s27 rfl rfl rfl tk rfl rfl ovw ?_
    refine w_assign rfl rfl ?_
    refine ws_nil ?_
    refine WC.recell (eN x) tk rfl ?_
    refine wc_seq ?_
    refine wc_text ?_
    refine w_move rfl rfl ?_
    first | refine w_ldC a27 s27 rfl rfl agc ?_ | refine w_ldP a27 s27 rfl rfl tk agp ?_
    refine w_call rfl rfl (CallW.mono (CallW.weak (Sel.weak (.cons tk (.cons tk .rest))) (put_fn _ _ _ _ _ _ _ x _)) ?_)
    rintro _ _ ⟨rfl, rfl⟩
    try simp only [List.cons_append, List.nil_append]
    refine ws_nil ?_
    unfold addQ addN
    rw [if_pos (by rw [List.length_append, List.length_drop, List.length_take]; omega), if_pos (by rw [List.length_append, List.length_drop, List.length_take]; omega), rot hx]
    refine wc_seq ?_
    refine wc_text ?_
    first | refine w_faddrC O27_2 rfl rfl ?_ | refine w_faddrP O27_2 rfl rfl ?_
    first | refine w_ldC1 a25 rfl rfl rdc ?_ | refine w_ldP1 a25 rfl rfl tk rdp ?_
    refine w_call rfl rfl (CallW.mono (clone_frz _ hxa _) ?_)
    rintro _ _ ⟨rfl, rfl⟩
    try simp only [List.cons_append, List.nil_append]
    first | refine w_faddrC O27_2 rfl rfl ?_ | refine w_faddrP O27_2 rfl rfl ?_
    refine w_st s25 rfl rfl rfl tk rfl rfl ovw ?_
    refine ws_nil ?_
    refine WC.recell (eN x) tk rfl ?_
    refine wc_text ?_
    refine w_move rfl rfl ?_
    first | refine w_ldC a27 s27 rfl rfl agc ?_ | refine w_ldP a27 s27 rfl rfl tk agp ?_
    refine w_buildSF (cs := [x].flatMap eN) u34 s27 z27 (by decide) rfl rfl rfl (by decide) rfl rfl ?_
    refine w_appO (enc := eN) (m := [x]) rfl u34 s27 b27 z27 u34 (by simp) rfl rfl rfl tk nw (by unfold bigBy; first | omega | (simp only [List.length_nil, List.length_cons, List.length_append, List.length_take, List.length_drop]; omega)) (by unfold bigBy; first | omega | (simp only [List.length_nil, List.length_cons, List.length_append, List.length_take, List.length_drop]; omega)) (fun v25 => ?_)
    refine w_assign rfl rfl ?_
    refine ws_nil ?_
    rw [← take_one hx]
    refine wc_text ?_
    refine w_add u3 rfl rfl rfl (by omega) ?_
    refine w_move rfl rfl ?_
    refine ws_nil ?_
    exact ⟨⟨(k + 1, _, _, _), (by omega : k + 1 ≤ q.length)⟩, by simp only; omega, (.cons rfl (.cons rfl (.cons rfl (.cons rfl (.nil _))))), (Sel.weak (.cons tk (.cons tk (.cons tk .nil))))⟩
  · replace h3 := of_decide_eq_false h3
    have hk2 : k = q.length := by omega
    subst hk2
    rw [List.take_length, List.drop_length, List.nil_append]
    refine wc_exit ?_
    refine wc_seq ?_
    refine wc_text ?_
    refine w_move rfl rfl ?_
    refine w_assign rfl rfl ?_
    refine ws_nil ?_
    refine wc_ret ?_
    refine ⟨_, [.own _ 27 3 _ _, .obj o _, .obj c _], (.cons (.tmp rfl) .nil), (Sel.weak (.cons tk (.cons tk (.cons tk .nil)))), ?_⟩
    exact ⟨_, _, rfl⟩

theorem clamp_fn (n lo hi : Int) : PFn C 17 [.int .i64 n, .int .i64 lo, .int .i64 hi] (.int .i64 (clampV n lo hi)) := by
  refine fn_view rfl rfl (fn := Try.f17) rfl rfl rfl rfl rfl ?_
  refine wc_seq ?_
  refine wc_text ?_
  refine w_assign rfl rfl ?_
  refine ws_nil ?_
  refine wc_seq ?_
  refine wc_seq ?_
  refine wc_text ?_
  refine w_move rfl rfl ?_
  refine w_move rfl rfl ?_
  refine w_lss u3 rfl rfl rfl ?_
  refine ws_nil ?_
  refine wc_cond rfl (fun h1 => ?_) (fun h1 => ?_)
  · first | replace h1 := of_decide_eq_true h1 | replace h1 := of_decide_eq_false h1 | replace h1 := of_decide_eq_false (nb_T h1) | replace h1 := of_decide_eq_true (nb_F h1) | replace h1 := nb_T h1 | replace h1 := nb_F h1 | skip
    first | replace h1 := Int.not_lt.mp h1 | replace h1 := Int.not_le.mp h1 | replace h1 := Decidable.not_not.mp h1 | skip
    refine wc_seq ?_
    refine wc_text ?_
    refine w_move rfl rfl ?_
    refine w_assign rfl rfl ?_
    refine ws_nil ?_
    refine wc_ret ?_
    refine ⟨_, (.cons (.tmp rfl) .nil), ?_, rfl⟩
    refine congrArg (AV.int .i64) ?_; unfold clampV; rw [if_pos h1]
  · first | replace h1 := of_decide_eq_true h1 | replace h1 := of_decide_eq_false h1 | replace h1 := of_decide_eq_false (nb_T h1) | replace h1 := of_decide_eq_true (nb_F h1) | replace h1 := nb_T h1 | replace h1 := nb_F h1 | skip
    first | replace h1 := Int.not_lt.mp h1 | replace h1 := Int.not_le.mp h1 | replace h1 := Decidable.not_not.mp h1 | skip
    refine wc_stay ?_
    refine wc_seq ?_
    refine wc_seq ?_
    refine wc_text ?_
    refine w_move rfl rfl ?_
    refine w_move rfl rfl ?_
    refine w_gtr u3 rfl rfl rfl ?_
    refine ws_nil ?_
    refine wc_cond rfl (fun h3 => ?_) (fun h3 => ?_)
    · first | replace h3 := of_decide_eq_true h3 | replace h3 := of_decide_eq_false h3 | replace h3 := of_decide_eq_false (nb_T h3) | replace h3 := of_decide_eq_true (nb_F h3) | replace h3 := nb_T h3 | replace h3 := nb_F h3 | skip
      first | replace h3 := Int.not_lt.mp h3 | replace h3 := Int.not_le.mp h3 | replace h3 := Decidable.not_not.mp h3 | skip
      refine wc_seq ?_
      refine wc_text ?_
      refine w_move rfl rfl ?_
      refine w_assign rfl rfl ?_
      refine ws_nil ?_
      refine wc_ret ?_
      refine ⟨_, (.cons (.tmp rfl) .nil), ?_, rfl⟩
      refine congrArg (AV.int .i64) ?_; unfold clampV; rw [if_neg (by omega), if_pos (by omega)]
    · first | replace h3 := of_decide_eq_true h3 | replace h3 := of_decide_eq_false h3 | replace h3 := of_decide_eq_false (nb_T h3) | replace h3 := of_decide_eq_true (nb_F h3) | replace h3 := nb_T h3 | replace h3 := nb_F h3 | skip
      first | replace h3 := Int.not_lt.mp h3 | replace h3 := Int.not_le.mp h3 | replace h3 := Decidable.not_not.mp h3 | skip
      refine wc_stay ?_
      refine wc_seq ?_
      refine wc_text ?_
      refine w_move rfl rfl ?_
      refine w_assign rfl rfl ?_
      refine ws_nil ?_
      refine wc_ret ?_
      refine ⟨_, (.cons (.tmp rfl) .nil), ?_, rfl⟩
      refine congrArg (AV.int .i64) ?_; unfold clampV; rw [if_neg (by omega), if_neg (by omega)]

theorem within_fn (n lo hi : Int) (h0 : 0 ≤ lo) (h1 : lo ≤ hi) (h2 : hi ≤ 1000000000) : PFn C 18 [.int .i64 n, .int .i64 lo, .int .i64 hi] (.int .i64 (withinV n lo hi)) := by
  refine fn_view rfl rfl (fn := Try.f18) rfl rfl rfl rfl rfl ?_
  have hlo : -(hi - lo + 1) < n.tmod (hi - lo + 1) := Int.lt_tmod_of_pos n (show 0 < hi - lo + 1 by omega)
  have hhi : n.tmod (hi - lo + 1) < hi - lo + 1 := Int.tmod_lt_of_pos n (by omega)
  refine wc_seq ?_
  refine wc_text ?_
  refine w_assign rfl rfl ?_
  refine ws_nil ?_
  refine wc_seq ?_
  refine wc_text ?_
  refine w_move rfl rfl ?_
  refine w_move rfl rfl ?_
  refine w_move rfl rfl ?_
  refine w_sub u3 rfl rfl rfl (by omega) ?_
  refine w_add u3 rfl rfl rfl (by omega) ?_
  refine w_rem u3 rfl rfl rfl (by omega) ?_
  refine w_assign rfl rfl ?_
  refine ws_nil ?_
  refine wc_seq ?_
  refine wc_seq ?_
  refine wc_text ?_
  refine w_move rfl rfl ?_
  refine w_lss u3 rfl rfl rfl ?_
  refine ws_nil ?_
  refine wc_cond rfl (fun h2 => ?_) (fun h2 => ?_)
  · first | replace h2 := of_decide_eq_true h2 | replace h2 := of_decide_eq_false h2 | replace h2 := of_decide_eq_false (nb_T h2) | replace h2 := of_decide_eq_true (nb_F h2) | replace h2 := nb_T h2 | replace h2 := nb_F h2 | skip
    first | replace h2 := Int.not_lt.mp h2 | replace h2 := Int.not_le.mp h2 | replace h2 := Decidable.not_not.mp h2 | skip
    refine wc_text ?_
    refine w_move rfl rfl ?_
    refine w_move rfl rfl ?_
    refine w_add u3 rfl rfl rfl (by omega) ?_
    refine w_move rfl rfl ?_
    refine w_sub u3 rfl rfl rfl (by omega) ?_
    refine w_add u3 rfl rfl rfl (by omega) ?_
    refine w_assign rfl rfl ?_
    refine ws_nil ?_
    refine wc_seq ?_
    refine wc_text ?_
    refine w_move rfl rfl ?_
    refine w_move rfl rfl ?_
    refine w_add u3 rfl rfl rfl (by omega) ?_
    refine w_assign rfl rfl ?_
    refine ws_nil ?_
    refine wc_ret ?_
    refine ⟨_, (.cons (.tmp rfl) .nil), ?_, rfl⟩
    refine congrArg (AV.int .i64) ?_; unfold withinV; first | rw [if_pos h2] | rw [if_neg (by omega)]
  · first | replace h2 := of_decide_eq_true h2 | replace h2 := of_decide_eq_false h2 | replace h2 := of_decide_eq_false (nb_T h2) | replace h2 := of_decide_eq_true (nb_F h2) | replace h2 := nb_T h2 | replace h2 := nb_F h2 | skip
    first | replace h2 := Int.not_lt.mp h2 | replace h2 := Int.not_le.mp h2 | replace h2 := Decidable.not_not.mp h2 | skip
    refine wc_stay ?_
    refine wc_seq ?_
    refine wc_text ?_
    refine w_move rfl rfl ?_
    refine w_move rfl rfl ?_
    refine w_add u3 rfl rfl rfl (by omega) ?_
    refine w_assign rfl rfl ?_
    refine ws_nil ?_
    refine wc_ret ?_
    refine ⟨_, (.cons (.tmp rfl) .nil), ?_, rfl⟩
    refine congrArg (AV.int .i64) ?_; unfold withinV; first | rw [if_pos h2] | rw [if_neg (by omega)]

theorem runsM_fn : PFn C 3 [] (.bool true) := pfn_true (N := 1000) rfl (by kernel_rfl)

theorem take_fn (o c cap : Nat) (q : List NoteD) (d : Int) (s r : Nat) (R : List HI) : CallW C 14 [.ptr (some ⟨o, 0⟩)] ([.obj o (.row 63 2 false (BK c d)), .obj c (.chan cap ((q).map ag) s r)] ++ R) fun v H => v = .tuple [ag (hdQ q), .bool (okQ q)] ∧ H = [.obj o (.row 63 2 false (BK c d)), .obj c (.chan cap ((q.tail).map ag) s (takeR q r))] ++ R := by
  cases q with
  | nil => exact CallW.mono (take_nil o c cap z0 [] d s r R) fun v H ⟨H', h1, h2, h3⟩ => ⟨h2, by rw [h1, h3]; rfl⟩
  | cons n q => exact CallW.mono (take_cons o c cap n q d s r R) fun v H ⟨H', h1, h2, h3⟩ => ⟨h2, by rw [h1, h3]; rfl⟩
end Go.Proofs.Ytknpdigpendnjaa.ml
