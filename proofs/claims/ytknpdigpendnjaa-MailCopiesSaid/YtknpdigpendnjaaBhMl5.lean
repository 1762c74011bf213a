/-
  Package mail, walked by facts (printed by gen_ml.py).
-/
import Derived.Test.YtknpdigpendnjaaBhMl2
import Derived.Test.YtknpdigpendnjaaBhW13
namespace Go.Proofs.Ytknpdigpendnjaa.ml
open Go Go.Proofs Go.Proofs.Ytknpdigpendnjaa.BH Go.Proofs.Ytknpdigpendnjaa.BH.Ml
open Go.Proofs.Ytknpdigpendnjaa.BH.Dk (withinV withinV_in clampV clampV_in natOr_of)
set_option maxRecDepth 100000
/-- What All has told, of one note. -/
def outC (x : NoteD) (k : Nat) (va : AV) : List AV := match k with | 0 => [] | _ + 1 => [.str x.to, .str x.group, va]
def altC (x : NoteD) (k : Nat) : List (List UInt8) := match k with | 0 => [] | _ + 1 => x.alerts

theorem clone_obj (p : Nat) (l : List (List UInt8)) (hl : l.length < 1000000) (R : List HI) : CallW C 33 [.slice (some ⟨p, 0⟩) l.length (.op 0)] ([.obj p (.row 9 1 false (l.flatMap eS))] ++ R) fun v H => ∃ H', H = H' ++ R ∧ H' = [.own v 9 1 (l.flatMap eS) l.length, .obj p (.row 9 1 false (l.flatMap eS))] := by
  refine cw_sharedA (fn := Try.f33) rfl rfl rfl rfl (K := fun v H' => H' = [.own v 9 1 (l.flatMap eS) l.length, .obj p (.row 9 1 false (l.flatMap eS))]) ?_ R
  refine wc_seq ?_
  refine wc_text ?_
  refine w_assign rfl rfl ?_
  refine ws_nil ?_
  refine wc_seq ?_
  refine wc_seq ?_
  refine wc_text ?_
  refine w_move rfl rfl ?_
  refine w_ceql u25 (by simp) (by simp) rfl rfl rfl (cmp_sl u25 rfl rfl) ?_
  refine ws_nil ?_
  refine wc_cond rfl (fun h1 => ?_) (fun h1 => ?_)
  · skip
    cases h1
  · skip
    refine wc_stay ?_
    refine wc_seq ?_
    refine wc_text ?_
    refine w_buildS (cs := []) u25 s9 z9 (by decide) rfl rfl rfl (fun o5 => ?_)
    refine w_move rfl rfl ?_
    refine WS.ownEmpty (v := .slice (some ⟨o5, 0⟩) 0 (.exact 0)) (.inl ⟨_, rfl⟩) 9 1 ?_
    refine w_appO (enc := eS) (l := []) (m := l) rfl u25 s9 b9 z9 u25 (by simp) rfl rfl rfl tk (new_obj tk (flat_length (by intro _; rfl) _) (flat_scalar (by intro _; rfl) _)) (by unfold bigBy; first | omega | (simp only [List.length_nil, List.length_cons, List.length_append, List.length_take, List.length_drop]; omega)) (by unfold bigBy; first | omega | (simp only [List.length_nil, List.length_cons, List.length_append, List.length_take, List.length_drop]; omega)) (fun v7 => ?_)
    refine w_assign rfl rfl ?_
    refine ws_nil ?_
    refine wc_ret ?_
    refine ⟨_, [.own _ 9 1 _ _, .obj p _], (.cons (.tmp rfl) .nil), (Sel.weak (.cons tk (.cons tk .nil))), ?_⟩
    rfl

theorem clone_objf (p : Nat) (l : List (List UInt8)) (hl : l.length < 1000000) (R : List HI) : CallW C 33 [.slice (some ⟨p, 0⟩) l.length (.op 0)] (.obj p (.row 9 1 false (l.flatMap eS)) :: R) fun v H => v = AL eS l ∧ H = .obj p (.row 9 1 false (l.flatMap eS)) :: R :=
  CallW.frz (K := fun v H => H = .own v 9 1 (l.flatMap eS) l.length :: .obj p (.row 9 1 false (l.flatMap eS)) :: R) (CallW.mono (clone_obj p l hl R) fun v H ⟨H', h1, h2⟩ => by rw [h1, h2]; rfl) fun v H h => by subst h; exact ⟨_, _, .ownK rfl .head (flat_done (fun _ => rfl) l), rfl, rfl, rfl⟩
theorem clone_nilf (R : List HI) : CallW C 33 [nilSlice] R fun v H => v = AL eS [] ∧ H = R :=
  CallW.frz (K := fun v H => H = .own v 9 1 (([] : List (List UInt8)).flatMap eS) ([] : List (List UInt8)).length :: R) (CallW.mono (clone_nil R) fun v H ⟨H', h1, h2⟩ => by rw [h1, h2]; rfl) fun v H h => by subst h; exact ⟨_, _, .ownK rfl .head rfl, rfl, rfl, rfl⟩

theorem putP_fn (o c cap : Nat) (q : List NoteD) (d : Int) (s r : Nat) (p : Nat) (p2 : Nat) (n : NoteD) (h0 : 0 < cap) (hq : q.length ≤ cap) (hc1 : cap < 1000000) (hd0 : 0 ≤ d) (hd1 : d < 1000000000) (ha : n.alerts.length < 1000000) (R : List HI) : CallW C 13 [.ptr (some ⟨o, 0⟩), .slice (some ⟨p, 0⟩) 1 (.exact 1)] ([.obj o (.row 63 2 false (BK c d)), .obj c (.chan cap ((q).map ag) s r), .obj p (.row 27 3 false [.str (n).to, .str (n).group, .slice (some ⟨p2, 0⟩) n.alerts.length (.op 0)]), .obj p2 (.row 9 1 false (n.alerts.flatMap eS))] ++ R) fun v H => ∃ H', H = H' ++ R ∧ ∃ s2 r2, v = .int .i64 ((q.length + 1 - cap : Nat) : Int) ∧ H' = [.obj o (.row 63 2 false (BK c (d + ((q.length + 1 - cap : Nat) : Int)))), .obj c (.chan cap ((lastN cap (q ++ [n])).map ag) s2 r2), .obj p (.row 27 3 false [.str (n).to, .str (n).group, .slice (some ⟨p2, 0⟩) n.alerts.length (.op 0)]), .obj p2 (.row 9 1 false (n.alerts.flatMap eS))] := by
  refine cw_sharedA (fn := Try.f13) rfl rfl rfl rfl (K := fun v H' => ∃ s2 r2, v = .int .i64 ((q.length + 1 - cap : Nat) : Int) ∧ H' = [.obj o (.row 63 2 false (BK c (d + ((q.length + 1 - cap : Nat) : Int)))), .obj c (.chan cap ((lastN cap (q ++ [n])).map ag) s2 r2), .obj p (.row 27 3 false [.str (n).to, .str (n).group, .slice (some ⟨p2, 0⟩) n.alerts.length (.op 0)]), .obj p2 (.row 9 1 false (n.alerts.flatMap eS))]) ?_ R
  refine wc_seq ?_
  refine wc_text ?_
  refine w_assign rfl rfl ?_
  refine ws_nil ?_
  refine wc_seq ?_
  refine wc_text ?_
  refine w_move rfl rfl ?_
  refine w_nil rfl rfl rfl ?_
  first | refine w_faddrC O63_1 rfl rfl ?_ | refine w_faddrP O63_1 rfl rfl ?_
  first | refine w_ldC1 a3 rfl rfl rdc ?_ | refine w_ldP1 a3 rfl rfl tk rdp ?_
  refine w_assign rfl rfl ?_
  refine ws_nil ?_
  refine wc_seq ?_
  refine wc_seq ?_
  refine wc_text ?_
  refine w_move rfl rfl ?_
  first | refine w_len rfl rfl (len_lst u34) ?_ | refine w_len rfl rfl (len_slice u34) ?_ | refine w_lenO rfl u34 rfl rfl tk ?_
  refine w_move rfl rfl ?_
  refine ws_nil ?_
  refine WC.recell (BK c (d + ((q.length + 0 - cap : Nat) : Int))) tk (by rw [show q.length + 0 - cap = 0 by omega]; simp) ?_
  refine WC.reobj (o := c) (.chan cap ((lastN cap (q ++ [n].take 0)).map ag) s r) tk (by rw [List.take_zero, List.append_nil, lastN_all hq]) ?_
  refine wc_block ?_
  refine wc_loop (σ := { x : Nat × Nat × Nat // x.1 ≤ 1 }) (fun u => [(0, .ptr (some ⟨o, 0⟩)), (5, .int .i64 d), (12, .slice (some ⟨p, 0⟩) 1 (.exact 1)), (13, .int .i64 (1 : Nat)), (14, .int .i64 (u.1.1 : Nat))]) (fun u => [.obj o (.row 63 2 false (BK c (d + ((q.length + u.1.1 - cap : Nat) : Int)))), .obj c (.chan cap ((lastN cap (q ++ [n].take u.1.1)).map ag) u.1.2.1 u.1.2.2), .obj p (.row 27 3 false [.str (n).to, .str (n).group, .slice (some ⟨p2, 0⟩) n.alerts.length (.op 0)]), .obj p2 (.row 9 1 false (n.alerts.flatMap eS))]) (fun u => 1 - u.1.1) ?_ ⟨(0, s, r), Nat.zero_le _⟩ (.cons rfl (.cons rfl (.cons rfl (.cons rfl (.cons rfl (.nil _)))))) (Sel.weak (.cons tk (.cons tk (.cons tk (.cons tk .nil)))))
  rintro ⟨⟨k, s1, r1⟩, hk⟩
  dsimp only
  simp only at hk
  refine wc_seq ?_
  refine wc_text ?_
  refine w_lss u3 rfl rfl rfl ?_
  refine ws_nil ?_
  refine wc_seq ?_
  refine wc_cond rfl (fun h3 => ?_) (fun h3 => ?_)
  · replace h3 := of_decide_eq_true h3
    refine wc_stay ?_
    refine wc_seq ?_
    refine wc_block ?_
    refine wc_seq ?_
    refine wc_text ?_
    have hk0 : k = 0 := by omega
    subst hk0
    have hx : [n][0]? = some n := rfl
    first | refine w_lidx u34 s27 rfl rfl rfl (by omega) ?_ | refine w_slidx u34 s27 rfl rfl rfl (by omega) ?_
    first | refine w_ldC a27 s27 rfl rfl agc ?_ | refine w_ldP a27 s27 rfl rfl tk agp ?_
    refine w_alloc z27 s27 rfl (fun o7 => ?_)
    refine w_st s27 rfl rfl rfl tk rfl rfl ovw ?_
    refine ws_nil ?_
    refine wc_seq ?_
    refine wc_text ?_
    first | refine w_faddrC O27_2 rfl rfl ?_ | refine w_faddrP O27_2 rfl rfl ?_
    first | refine w_ldC1 a25 rfl rfl rdc ?_ | refine w_ldP1 a25 rfl rfl tk rdp ?_
    refine w_call rfl rfl (CallW.mono (CallW.weak (Sel.weak (.cons tk .rest)) (clone_objf _ _ ha _)) ?_)
    rintro _ _ ⟨rfl, rfl⟩
    try simp only [List.cons_append, List.nil_append]
    first | refine w_faddrC O27_2 rfl rfl ?_ | refine w_faddrP O27_2 rfl rfl ?_
    refine w_st s25 rfl rfl rfl tk rfl rfl ovw ?_
    refine ws_nil ?_
    refine WC.recell (eN n) tk rfl ?_
    refine wc_block ?_
    refine wc_loop (σ := { x : List NoteD × Int × Nat × Nat // (x.1 = lastN cap (q ++ [n].take 0) ∧ x.2.1 = (d + ((q.length + 0 - cap : Nat) : Int))) ∨ (x.1 = (lastN cap (q ++ [n].take 0)).tail ∧ x.2.1 = (d + ((q.length + 0 - cap : Nat) : Int)) + 1 ∧ cap ≤ (lastN cap (q ++ [n].take 0)).length) }) (fun u => [(0, .ptr (some ⟨o, 0⟩)), (5, .int .i64 d), (7, .ptr (some ⟨o7, 0⟩)), (12, .slice (some ⟨p, 0⟩) 1 (.exact 1)), (13, .int .i64 (1 : Nat)), (14, .int .i64 ((0 : Nat) : Int))]) (fun u => [.obj o7 (.row 27 3 false (eN n)), .obj o (.row 63 2 false (BK c u.1.2.1)), .obj c (.chan cap ((u.1.1).map ag) u.1.2.2.1 u.1.2.2.2), .obj p (.row 27 3 false [.str (n).to, .str (n).group, .slice (some ⟨p2, 0⟩) n.alerts.length (.op 0)]), .obj p2 (.row 9 1 false (n.alerts.flatMap eS))]) (fun u => u.1.1.length) ?_ ⟨(lastN cap (q ++ [n].take 0), (d + ((q.length + 0 - cap : Nat) : Int)), s1, r1), .inl ⟨rfl, rfl⟩⟩ (.cons rfl (.cons rfl (.cons rfl (.cons rfl (.cons rfl (.cons rfl (.nil _))))))) (Sel.weak (.cons tk (.cons tk (.cons tk (.cons tk (.cons tk .nil))))))
    rintro ⟨⟨q1, d1, s2, r2⟩, hs⟩
    dsimp only
    simp only at hs
    have hQl := lastN_len cap (q ++ [n].take 0)
    have hQl2 : (q ++ [n].take 0).length = q.length + 0 := by rw [List.take_zero, List.append_nil]; rfl
    rw [hQl2] at hQl
    refine wc_seq ?_
    refine wc_seq ?_
    refine wc_text ?_
    refine w_move rfl rfl ?_
    first | refine w_ldC a27 s27 rfl rfl agc ?_ | refine w_ldP a27 s27 rfl rfl tk agp ?_
    refine w_call rfl rfl (CallW.mono (CallW.weak (Sel.weak (.cons tk (.cons tk .rest))) (put_fn _ _ _ _ _ _ _ n _)) ?_)
    rintro _ _ ⟨rfl, rfl⟩
    try simp only [List.cons_append, List.nil_append]
    refine w_not rfl rfl ?_
    refine ws_nil ?_
    refine wc_cond rfl (fun h6 => ?_) (fun h6 => ?_)
    · replace h6 := of_decide_eq_false (nb_T h6)
      unfold addQ addN
      rw [if_neg h6, if_neg h6]
      have hs2 : q1 = lastN cap (q ++ [n].take 0) ∧ d1 = (d + ((q.length + 0 - cap : Nat) : Int)) := by
        rcases hs with hs | ⟨e1, e2, e3⟩
        · exact hs
        · exact absurd (by rw [e1]; exact lastN_tail h0 e3) h6
      obtain ⟨n0, q2, hq2⟩ : ∃ n0 q2, q1 = n0 :: q2 := by
        cases q1 with
        | nil => exact absurd h0 (by simp at h6; omega)
        | cons a b => exact ⟨a, b, rfl⟩
      have hql : q1.length = q2.length + 1 := by rw [hq2]; rfl
      have hd2 : d1 = (d + ((q.length + 0 - cap : Nat) : Int)) := hs2.2
      refine wc_stay ?_
      refine wc_block ?_
      refine wc_seq ?_
      refine wc_text ?_
      rw [hq2]
      refine w_move rfl rfl ?_
      refine w_call rfl rfl (CallW.mono (CallW.weak (Sel.weak (.cons tk (.cons tk .rest))) (take_cons _ _ _ _ _ _ _ _ _)) ?_)
      rintro _ _ ⟨_, rfl, rfl, rfl⟩
      try simp only [List.cons_append, List.nil_append]
      refine ws_nil ?_
      refine wc_text ?_
      refine w_move rfl rfl ?_
      refine w_nil rfl rfl rfl ?_
      first | refine w_faddrC O63_1 rfl rfl ?_ | refine w_faddrP O63_1 rfl rfl ?_
      first | refine w_ldC1 a3 rfl rfl rdc ?_ | refine w_ldP1 a3 rfl rfl tk rdp ?_
      refine w_add u3 rfl rfl rfl (by omega) ?_
      refine w_nil rfl rfl rfl ?_
      first | refine w_faddrC O63_1 rfl rfl ?_ | refine w_faddrP O63_1 rfl rfl ?_
      refine w_st s3 rfl rfl rfl tk rfl rfl ovw ?_
      refine ws_nil ?_
      have f1 : q2 = (lastN cap (q ++ [n].take 0)).tail := by rw [← hs2.1, hq2]; rfl
      have f2 : d1 + 1 = (d + ((q.length + 0 - cap : Nat) : Int)) + 1 := by rw [hs2.2]
      have f3 : cap ≤ (lastN cap (q ++ [n].take 0)).length := by rw [← hs2.1]; omega
      exact ⟨⟨(q2, d1 + 1, s2, _), .inr ⟨f1, f2, f3⟩⟩, by simp only [List.length_cons]; omega, (.cons rfl (.cons rfl (.cons rfl (.cons rfl (.cons rfl (.cons rfl (.nil _))))))), (Sel.weak (.cons tk (.cons tk (.cons tk (.cons tk (.cons tk .nil))))))⟩
    · replace h6 := of_decide_eq_true (nb_F h6)
      unfold addQ addN
      rw [if_pos h6, if_pos h6]
      obtain ⟨e1, e2⟩ : q1 ++ [n] = lastN cap (q ++ [n].take (0 + 1)) ∧ d1 = d + ((q.length + (0 + 1) - cap : Nat) : Int) := by
        rw [take_one hx, ← List.append_assoc]
        rcases hs with ⟨e1, e2⟩ | ⟨e1, e2, e3⟩
        · rw [e1] at h6 ⊢
          exact ⟨lastN_push h6, by rw [e2]; omega⟩
        · exact ⟨by rw [e1]; exact lastN_over h0 e3, by rw [e2]; omega⟩
      rw [e1, e2]
      refine wc_exit ?_
      refine wc_text ?_
      refine w_add u3 rfl rfl rfl (by omega) ?_
      refine w_move rfl rfl ?_
      refine ws_nil ?_
      exact ⟨⟨(0 + 1, _, _), (by omega : 0 + 1 ≤ 1)⟩, by simp only; omega, (.cons rfl (.cons rfl (.cons rfl (.cons rfl (.cons rfl (.nil _)))))), (Sel.weak (.cons tk (.cons tk (.cons tk (.cons tk .nil)))))⟩
  · replace h3 := of_decide_eq_false h3
    have hk2 : k = 1 := by omega
    subst hk2
    rw [show [n].take 1 = [n] from rfl]
    refine wc_exit ?_
    refine wc_seq ?_
    refine wc_text ?_
    refine w_move rfl rfl ?_
    refine w_nil rfl rfl rfl ?_
    first | refine w_faddrC O63_1 rfl rfl ?_ | refine w_faddrP O63_1 rfl rfl ?_
    first | refine w_ldC1 a3 rfl rfl rdc ?_ | refine w_ldP1 a3 rfl rfl tk rdp ?_
    refine w_move rfl rfl ?_
    refine w_sub u3 rfl rfl rfl (by omega) ?_
    refine w_assign rfl rfl ?_
    refine ws_nil ?_
    refine wc_ret ?_
    refine ⟨_, [.obj o _, .obj c _, .obj p _, .obj p2 _], (.cons (.tmp rfl) .nil), (Sel.weak (.cons tk (.cons tk (.cons tk (.cons tk .nil))))), ?_⟩
    refine ⟨_, _, ?_, rfl⟩; exact congrArg (AV.int .i64) (by omega)

theorem putZ_fn (o c cap : Nat) (q : List NoteD) (d : Int) (s r : Nat) (p : Nat)  (h0 : 0 < cap) (hq : q.length ≤ cap) (hc1 : cap < 1000000) (hd0 : 0 ≤ d) (hd1 : d < 1000000000)  (R : List HI) : CallW C 13 [.ptr (some ⟨o, 0⟩), .slice (some ⟨p, 0⟩) 1 (.exact 1)] ([.obj o (.row 63 2 false (BK c d)), .obj c (.chan cap ((q).map ag) s r), .obj p (.row 27 3 false [.str (z0).to, .str (z0).group, .slice none 0 (.exact 0)])] ++ R) fun v H => ∃ H', H = H' ++ R ∧ ∃ s2 r2, v = .int .i64 ((q.length + 1 - cap : Nat) : Int) ∧ H' = [.obj o (.row 63 2 false (BK c (d + ((q.length + 1 - cap : Nat) : Int)))), .obj c (.chan cap ((lastN cap (q ++ [z0])).map ag) s2 r2), .obj p (.row 27 3 false [.str (z0).to, .str (z0).group, .slice none 0 (.exact 0)])] := by
  refine cw_sharedA (fn := Try.f13) rfl rfl rfl rfl (K := fun v H' => ∃ s2 r2, v = .int .i64 ((q.length + 1 - cap : Nat) : Int) ∧ H' = [.obj o (.row 63 2 false (BK c (d + ((q.length + 1 - cap : Nat) : Int)))), .obj c (.chan cap ((lastN cap (q ++ [z0])).map ag) s2 r2), .obj p (.row 27 3 false [.str (z0).to, .str (z0).group, .slice none 0 (.exact 0)])]) ?_ R
  refine wc_seq ?_
  refine wc_text ?_
  refine w_assign rfl rfl ?_
  refine ws_nil ?_
  refine wc_seq ?_
  refine wc_text ?_
  refine w_move rfl rfl ?_
  refine w_nil rfl rfl rfl ?_
  first | refine w_faddrC O63_1 rfl rfl ?_ | refine w_faddrP O63_1 rfl rfl ?_
  first | refine w_ldC1 a3 rfl rfl rdc ?_ | refine w_ldP1 a3 rfl rfl tk rdp ?_
  refine w_assign rfl rfl ?_
  refine ws_nil ?_
  refine wc_seq ?_
  refine wc_seq ?_
  refine wc_text ?_
  refine w_move rfl rfl ?_
  first | refine w_len rfl rfl (len_lst u34) ?_ | refine w_len rfl rfl (len_slice u34) ?_ | refine w_lenO rfl u34 rfl rfl tk ?_
  refine w_move rfl rfl ?_
  refine ws_nil ?_
  refine WC.recell (BK c (d + ((q.length + 0 - cap : Nat) : Int))) tk (by rw [show q.length + 0 - cap = 0 by omega]; simp) ?_
  refine WC.reobj (o := c) (.chan cap ((lastN cap (q ++ [z0].take 0)).map ag) s r) tk (by rw [List.take_zero, List.append_nil, lastN_all hq]) ?_
  refine wc_block ?_
  refine wc_loop (σ := { x : Nat × Nat × Nat // x.1 ≤ 1 }) (fun u => [(0, .ptr (some ⟨o, 0⟩)), (5, .int .i64 d), (12, .slice (some ⟨p, 0⟩) 1 (.exact 1)), (13, .int .i64 (1 : Nat)), (14, .int .i64 (u.1.1 : Nat))]) (fun u => [.obj o (.row 63 2 false (BK c (d + ((q.length + u.1.1 - cap : Nat) : Int)))), .obj c (.chan cap ((lastN cap (q ++ [z0].take u.1.1)).map ag) u.1.2.1 u.1.2.2), .obj p (.row 27 3 false [.str (z0).to, .str (z0).group, .slice none 0 (.exact 0)])]) (fun u => 1 - u.1.1) ?_ ⟨(0, s, r), Nat.zero_le _⟩ (.cons rfl (.cons rfl (.cons rfl (.cons rfl (.cons rfl (.nil _)))))) (Sel.weak (.cons tk (.cons tk (.cons tk .nil))))
  rintro ⟨⟨k, s1, r1⟩, hk⟩
  dsimp only
  simp only at hk
  refine wc_seq ?_
  refine wc_text ?_
  refine w_lss u3 rfl rfl rfl ?_
  refine ws_nil ?_
  refine wc_seq ?_
  refine wc_cond rfl (fun h3 => ?_) (fun h3 => ?_)
  · replace h3 := of_decide_eq_true h3
    refine wc_stay ?_
    refine wc_seq ?_
    refine wc_block ?_
    refine wc_seq ?_
    refine wc_text ?_
    have hk0 : k = 0 := by omega
    subst hk0
    have hx : [z0][0]? = some z0 := rfl
    first | refine w_lidx u34 s27 rfl rfl rfl (by omega) ?_ | refine w_slidx u34 s27 rfl rfl rfl (by omega) ?_
    first | refine w_ldC a27 s27 rfl rfl agc ?_ | refine w_ldP a27 s27 rfl rfl tk agp ?_
    refine w_alloc z27 s27 rfl (fun o7 => ?_)
    refine w_st s27 rfl rfl rfl tk rfl rfl ovw ?_
    refine ws_nil ?_
    refine wc_seq ?_
    refine wc_text ?_
    first | refine w_faddrC O27_2 rfl rfl ?_ | refine w_faddrP O27_2 rfl rfl ?_
    first | refine w_ldC1 a25 rfl rfl rdc ?_ | refine w_ldP1 a25 rfl rfl tk rdp ?_
    refine w_call rfl rfl (CallW.mono (clone_nilf _) ?_)
    rintro _ _ ⟨rfl, rfl⟩
    try simp only [List.cons_append, List.nil_append]
    first | refine w_faddrC O27_2 rfl rfl ?_ | refine w_faddrP O27_2 rfl rfl ?_
    refine w_st s25 rfl rfl rfl tk rfl rfl ovw ?_
    refine ws_nil ?_
    refine WC.recell (eN z0) tk rfl ?_
    refine wc_block ?_
    refine wc_loop (σ := { x : List NoteD × Int × Nat × Nat // (x.1 = lastN cap (q ++ [z0].take 0) ∧ x.2.1 = (d + ((q.length + 0 - cap : Nat) : Int))) ∨ (x.1 = (lastN cap (q ++ [z0].take 0)).tail ∧ x.2.1 = (d + ((q.length + 0 - cap : Nat) : Int)) + 1 ∧ cap ≤ (lastN cap (q ++ [z0].take 0)).length) }) (fun u => [(0, .ptr (some ⟨o, 0⟩)), (5, .int .i64 d), (7, .ptr (some ⟨o7, 0⟩)), (12, .slice (some ⟨p, 0⟩) 1 (.exact 1)), (13, .int .i64 (1 : Nat)), (14, .int .i64 ((0 : Nat) : Int))]) (fun u => [.obj o7 (.row 27 3 false (eN z0)), .obj o (.row 63 2 false (BK c u.1.2.1)), .obj c (.chan cap ((u.1.1).map ag) u.1.2.2.1 u.1.2.2.2), .obj p (.row 27 3 false [.str (z0).to, .str (z0).group, .slice none 0 (.exact 0)])]) (fun u => u.1.1.length) ?_ ⟨(lastN cap (q ++ [z0].take 0), (d + ((q.length + 0 - cap : Nat) : Int)), s1, r1), .inl ⟨rfl, rfl⟩⟩ (.cons rfl (.cons rfl (.cons rfl (.cons rfl (.cons rfl (.cons rfl (.nil _))))))) (Sel.weak (.cons tk (.cons tk (.cons tk (.cons tk .nil)))))
    rintro ⟨⟨q1, d1, s2, r2⟩, hs⟩
    dsimp only
    simp only at hs
    have hQl := lastN_len cap (q ++ [z0].take 0)
    have hQl2 : (q ++ [z0].take 0).length = q.length + 0 := by rw [List.take_zero, List.append_nil]; rfl
    rw [hQl2] at hQl
    refine wc_seq ?_
    refine wc_seq ?_
    refine wc_text ?_
    refine w_move rfl rfl ?_
    first | refine w_ldC a27 s27 rfl rfl agc ?_ | refine w_ldP a27 s27 rfl rfl tk agp ?_
    refine w_call rfl rfl (CallW.mono (CallW.weak (Sel.weak (.cons tk (.cons tk .rest))) (put_fn _ _ _ _ _ _ _ z0 _)) ?_)
    rintro _ _ ⟨rfl, rfl⟩
    try simp only [List.cons_append, List.nil_append]
    refine w_not rfl rfl ?_
    refine ws_nil ?_
    refine wc_cond rfl (fun h6 => ?_) (fun h6 => ?_)
    · replace h6 := of_decide_eq_false (nb_T h6)
      unfold addQ addN
      rw [if_neg h6, if_neg h6]
      have hs2 : q1 = lastN cap (q ++ [z0].take 0) ∧ d1 = (d + ((q.length + 0 - cap : Nat) : Int)) := by
        rcases hs with hs | ⟨e1, e2, e3⟩
        · exact hs
        · exact absurd (by rw [e1]; exact lastN_tail h0 e3) h6
      obtain ⟨n0, q2, hq2⟩ : ∃ n0 q2, q1 = n0 :: q2 := by
        cases q1 with
        | nil => exact absurd h0 (by simp at h6; omega)
        | cons a b => exact ⟨a, b, rfl⟩
      have hql : q1.length = q2.length + 1 := by rw [hq2]; rfl
      have hd2 : d1 = (d + ((q.length + 0 - cap : Nat) : Int)) := hs2.2
      refine wc_stay ?_
      refine wc_block ?_
      refine wc_seq ?_
      refine wc_text ?_
      rw [hq2]
      refine w_move rfl rfl ?_
      refine w_call rfl rfl (CallW.mono (CallW.weak (Sel.weak (.cons tk (.cons tk .rest))) (take_cons _ _ _ _ _ _ _ _ _)) ?_)
      rintro _ _ ⟨_, rfl, rfl, rfl⟩
      try simp only [List.cons_append, List.nil_append]
      refine ws_nil ?_
      refine wc_text ?_
      refine w_move rfl rfl ?_
      refine w_nil rfl rfl rfl ?_
      first | refine w_faddrC O63_1 rfl rfl ?_ | refine w_faddrP O63_1 rfl rfl ?_
      first | refine w_ldC1 a3 rfl rfl rdc ?_ | refine w_ldP1 a3 rfl rfl tk rdp ?_
      refine w_add u3 rfl rfl rfl (by omega) ?_
      refine w_nil rfl rfl rfl ?_
      first | refine w_faddrC O63_1 rfl rfl ?_ | refine w_faddrP O63_1 rfl rfl ?_
      refine w_st s3 rfl rfl rfl tk rfl rfl ovw ?_
      refine ws_nil ?_
      have f1 : q2 = (lastN cap (q ++ [z0].take 0)).tail := by rw [← hs2.1, hq2]; rfl
      have f2 : d1 + 1 = (d + ((q.length + 0 - cap : Nat) : Int)) + 1 := by rw [hs2.2]
      have f3 : cap ≤ (lastN cap (q ++ [z0].take 0)).length := by rw [← hs2.1]; omega
      exact ⟨⟨(q2, d1 + 1, s2, _), .inr ⟨f1, f2, f3⟩⟩, by simp only [List.length_cons]; omega, (.cons rfl (.cons rfl (.cons rfl (.cons rfl (.cons rfl (.cons rfl (.nil _))))))), (Sel.weak (.cons tk (.cons tk (.cons tk (.cons tk .nil)))))⟩
    · replace h6 := of_decide_eq_true (nb_F h6)
      unfold addQ addN
      rw [if_pos h6, if_pos h6]
      obtain ⟨e1, e2⟩ : q1 ++ [z0] = lastN cap (q ++ [z0].take (0 + 1)) ∧ d1 = d + ((q.length + (0 + 1) - cap : Nat) : Int) := by
        rw [take_one hx, ← List.append_assoc]
        rcases hs with ⟨e1, e2⟩ | ⟨e1, e2, e3⟩
        · rw [e1] at h6 ⊢
          exact ⟨lastN_push h6, by rw [e2]; omega⟩
        · exact ⟨by rw [e1]; exact lastN_over h0 e3, by rw [e2]; omega⟩
      rw [e1, e2]
      refine wc_exit ?_
      refine wc_text ?_
      refine w_add u3 rfl rfl rfl (by omega) ?_
      refine w_move rfl rfl ?_
      refine ws_nil ?_
      exact ⟨⟨(0 + 1, _, _), (by omega : 0 + 1 ≤ 1)⟩, by simp only; omega, (.cons rfl (.cons rfl (.cons rfl (.cons rfl (.cons rfl (.nil _)))))), (Sel.weak (.cons tk (.cons tk (.cons tk .nil))))⟩
  · replace h3 := of_decide_eq_false h3
    have hk2 : k = 1 := by omega
    subst hk2
    rw [show [z0].take 1 = [z0] from rfl]
    refine wc_exit ?_
    refine wc_seq ?_
    refine wc_text ?_
    refine w_move rfl rfl ?_
    refine w_nil rfl rfl rfl ?_
    first | refine w_faddrC O63_1 rfl rfl ?_ | refine w_faddrP O63_1 rfl rfl ?_
    first | refine w_ldC1 a3 rfl rfl rdc ?_ | refine w_ldP1 a3 rfl rfl tk rdp ?_
    refine w_move rfl rfl ?_
    refine w_sub u3 rfl rfl rfl (by omega) ?_
    refine w_assign rfl rfl ?_
    refine ws_nil ?_
    refine wc_ret ?_
    refine ⟨_, [.obj o _, .obj c _, .obj p _], (.cons (.tmp rfl) .nil), (Sel.weak (.cons tk (.cons tk (.cons tk .nil)))), ?_⟩
    refine ⟨_, _, ?_, rfl⟩; exact congrArg (AV.int .i64) (by omega)

theorem allP_fn (o c cap : Nat) (x : NoteD) (d : Int) (s r : Nat) (h0 : 0 < cap) (hc1 : cap < 1000000) (ha0 : 0 < x.alerts.length) (hxa : x.alerts.length < 1000000) (R : List HI) : CallW C 20 [.ptr (some ⟨o, 0⟩)] ([.obj o (.row 63 2 false (BK c d)), .obj c (.chan cap (([x]).map ag) s r)] ++ R) fun v H => ∃ H', H = H' ++ R ∧ ∃ pa s2 r2, H' = [.own v 27 3 [.str x.to, .str x.group, .slice (some ⟨pa, 0⟩) x.alerts.length (.op 0)] 1, .obj pa (.row 9 1 false (x.alerts.flatMap eS)), .obj o (.row 63 2 false (BK c d)), .obj c (.chan cap (([x]).map ag) s2 r2)] := by
  refine cw_sharedA (fn := Try.f20) rfl rfl rfl rfl (K := fun v H' => ∃ pa s2 r2, H' = [.own v 27 3 [.str x.to, .str x.group, .slice (some ⟨pa, 0⟩) x.alerts.length (.op 0)] 1, .obj pa (.row 9 1 false (x.alerts.flatMap eS)), .obj o (.row 63 2 false (BK c d)), .obj c (.chan cap (([x]).map ag) s2 r2)]) ?_ R
  refine wc_seq ?_
  refine wc_text ?_
  refine w_assign rfl rfl ?_
  refine ws_nil ?_
  refine wc_seq ?_
  refine wc_text ?_
  refine w_assign rfl rfl ?_
  refine ws_nil ?_
  refine wc_seq ?_
  refine wc_seq ?_
  refine wc_text ?_
  refine w_move rfl rfl ?_
  refine w_call rfl rfl (CallW.mono (CallW.weak (Sel.weak (.cons tk (.cons tk .rest))) (len_fn _ _ _ _ _ _ _ _)) ?_)
  rintro _ _ ⟨_, rfl, rfl, rfl⟩
  try simp only [List.cons_append, List.nil_append]
  refine w_move rfl rfl ?_
  refine ws_nil ?_
  refine WC.ownNil 9 1 ?_
  refine WC.ownNil 27 3 ?_
  refine wc_block ?_
  refine wc_loop (σ := { x : Nat × AV × AV × Nat × Nat // x.1 ≤ 1 }) (fun u => [(0, .ptr (some ⟨o, 0⟩)), (3, u.1.2.1), (7, .int .i64 (1 : Nat)), (8, .int .i64 (u.1.1 : Nat))]) (fun u => [.own u.1.2.1 27 3 (outC x u.1.1 u.1.2.2.1) u.1.1, .own u.1.2.2.1 9 1 ((altC x u.1.1).flatMap eS) (altC x u.1.1).length, .obj o (.row 63 2 false (BK c d)), .obj c (.chan cap (([x]).map ag) u.1.2.2.2.1 u.1.2.2.2.2)]) (fun u => 1 - u.1.1) ?_ ⟨(0, nilSlice, nilSlice, s, r), Nat.zero_le _⟩ (.cons rfl (.cons rfl (.cons rfl (.cons rfl (.nil _))))) (Sel.weak (.cons tk (.cons tk (.cons tk (.cons tk .nil)))))
  rintro ⟨⟨k, v, va, s1, r1⟩, hk⟩
  dsimp only
  simp only at hk
  refine wc_seq ?_
  refine wc_text ?_
  refine w_lss u3 rfl rfl rfl ?_
  refine ws_nil ?_
  refine wc_seq ?_
  refine wc_cond rfl (fun h3 => ?_) (fun h3 => ?_)
  · replace h3 := of_decide_eq_true h3
    refine wc_stay ?_
    refine wc_seq ?_
    refine wc_block ?_
    refine wc_seq ?_
    refine wc_text ?_
    have hk0 : k = 0 := by omega
    subst hk0
    refine w_move rfl rfl ?_
    refine w_call rfl rfl (CallW.mono (CallW.weak (Sel.weak (.cons tk (.cons tk .rest))) (take_cons _ _ _ x [] _ _ _ _)) ?_)
    rintro _ _ ⟨_, rfl, rfl, rfl⟩
    try simp only [List.cons_append, List.nil_append]
    refine w_move rfl rfl ?_
    refine w_extract rfl rfl rfl ?_
    refine w_extract rfl rfl rfl ?_
    refine w_alloc z27 s27 rfl (fun o4 => ?_)
    refine w_st s27 rfl rfl rfl tk rfl rfl ovw ?_
    refine w_assign rfl rfl ?_
    refine ws_nil ?_
    refine WC.recell (eN x) tk rfl ?_
    refine wc_seq ?_
    refine wc_text ?_
    refine w_move rfl rfl ?_
    first | refine w_ldC a27 s27 rfl rfl agc ?_ | refine w_ldP a27 s27 rfl rfl tk agp ?_
    refine w_call rfl rfl (CallW.mono (CallW.weak (Sel.weak (.cons tk (.cons tk .rest))) (put_fn _ _ _ [] _ _ _ x _)) ?_)
    rintro _ _ ⟨rfl, rfl⟩
    try simp only [List.cons_append, List.nil_append]
    refine ws_nil ?_
    unfold addQ addN
    rw [if_pos (by simpa using h0), if_pos (by simpa using h0)]
    refine wc_seq ?_
    refine wc_text ?_
    first | refine w_faddrC O27_2 rfl rfl ?_ | refine w_faddrP O27_2 rfl rfl ?_
    first | refine w_ldC1 a25 rfl rfl rdc ?_ | refine w_ldP1 a25 rfl rfl tk rdp ?_
    refine w_call rfl rfl (CallW.mono (clone_fn _ hxa _) ?_)
    rintro v20 _ rfl
    refine WS.openOwn (v := v20) tk ha0 (fun pa hpa => ?_)
    subst hpa
    try simp only [List.cons_append, List.nil_append]
    first | refine w_faddrC O27_2 rfl rfl ?_ | refine w_faddrP O27_2 rfl rfl ?_
    refine w_st s25 rfl rfl rfl tk rfl rfl ovw ?_
    refine ws_nil ?_
    refine wc_text ?_
    refine w_move rfl rfl ?_
    first | refine w_ldC a27 s27 rfl rfl agc ?_ | refine w_ldP a27 s27 rfl rfl tk agp ?_
    refine w_buildS (cs := [.str x.to, .str x.group, .slice (some ⟨pa, 0⟩) x.alerts.length (.op 0)]) u34 s27 z27 (by decide) rfl rfl rfl (fun o24 => ?_)
    refine w_app (j := 1) (new := [.str x.to, .str x.group, .slice (some ⟨pa, 0⟩) x.alerts.length (.op 0)]) rfl u34 s27 b27 z27 u34 (by simp) rfl rfl rfl tk (new_obj tk rfl rfl) (by decide) (by decide) (fun v25 => ?_)
    refine w_assign rfl rfl ?_
    refine ws_nil ?_
    refine WC.closeOwn (o := pa) (e := 9) (s := 1) (m := x.alerts.length) tk (flat_length eS_len _) ?_
    refine wc_text ?_
    refine w_add u3 rfl rfl rfl (by omega) ?_
    refine w_move rfl rfl ?_
    refine ws_nil ?_
    exact ⟨⟨(0 + 1, v25, .slice (some ⟨pa, 0⟩) x.alerts.length (.op 0), _, _), (by omega : 0 + 1 ≤ 1)⟩, by simp only; omega, (.cons rfl (.cons rfl (.cons rfl (.cons rfl (.nil _))))), (Sel.weak (.cons tk (.cons tk (.cons tk (.cons tk .nil)))))⟩
  · replace h3 := of_decide_eq_false h3
    have hk2 : k = 1 := by omega
    subst hk2
    refine WC.openOwn (v := va) (tk : Take _ (.own va 9 1 (x.alerts.flatMap eS) x.alerts.length) _) ha0 (fun pa hpa => ?_)
    subst hpa
    refine wc_exit ?_
    refine wc_seq ?_
    refine wc_text ?_
    refine w_move rfl rfl ?_
    refine w_assign rfl rfl ?_
    refine ws_nil ?_
    refine wc_ret ?_
    refine ⟨_, [.own _ 27 3 _ _, .obj pa _, .obj o _, .obj c _], (.cons (.tmp rfl) .nil), (Sel.weak (.cons tk (.cons tk (.cons tk (.cons tk .nil))))), ?_⟩
    exact ⟨_, _, _, rfl⟩
end Go.Proofs.Ytknpdigpendnjaa.ml
