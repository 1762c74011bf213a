/-
  Package disk, walked by facts (printed by gen_dk.py).
-/
import Derived.Test.YtknpdigpendnjaaBhDk1
namespace Go.Proofs.Ytknpdigpendnjaa.dk
open Go Go.Proofs Go.Proofs.Ytknpdigpendnjaa.BH Go.Proofs.Ytknpdigpendnjaa.BH.Dk
set_option maxRecDepth 100000
theorem concat_pos (ls : List (List UInt8)) (hl : ls.length < 1000000) (hN : ls.flatten.length < 1000000) (hp : 0 < ls.flatten.length) : PFn C 35 [AL eL ls] (AL eB ls.flatten) := by
  refine fn_keep rfl rfl (fn := Try.f35) rfl rfl rfl rfl rfl ?_
  refine wc_seq ?_
  refine wc_text ?_
  refine w_assign rfl rfl ?_
  refine ws_nil ?_
  refine wc_seq ?_
  refine wc_text ?_
  refine w_assign rfl rfl ?_
  refine ws_nil ?_
  refine wc_seq ?_
  refine wc_seq ?_
  refine wc_text ?_
  refine w_move rfl rfl ?_
  first | refine w_len rfl rfl (len_lst u51) ?_ | refine w_len rfl rfl (len_slice u51) ?_ | refine w_lenO rfl u51 rfl rfl tk ?_
  refine w_move rfl rfl ?_
  refine ws_nil ?_
  refine wc_block ?_
  refine wc_loop (σ := { k : Nat // k ≤ ls.length }) (fun s => [(0, AL eL ls), (3, .int .i64 ((ls.take s.1).flatten.length : Nat)), (9, AL eL ls), (10, .int .i64 (ls.length : Nat)), (11, .int .i64 (s.1 : Nat))]) (fun s => []) (fun s => ls.length - s.1) ?_ ⟨0, Nat.zero_le _⟩ (.cons rfl (.cons rfl (.cons rfl (.cons rfl (.cons rfl (.nil _)))))) (Sel.weak .nil)
  rintro ⟨k, hk⟩
  dsimp only
  have hf0 := flat_take_le ls k
  refine wc_seq ?_
  refine wc_text ?_
  refine w_lss u3 rfl rfl rfl ?_
  refine ws_nil ?_
  refine wc_seq ?_
  refine wc_cond rfl (fun h3 => ?_) (fun h3 => ?_)
  · replace h3 := of_decide_eq_true h3
    refine wc_stay ?_
    refine wc_seq ?_
    refine wc_block ?_
    refine wc_seq ?_
    refine wc_text ?_
    obtain ⟨x, hx⟩ := get_of_lt (l := ls) (k := k) (by omega)
    have hf1 := flat_elem_le hx
    have hfl : ((ls.take k).flatten.length : Int) + x.length = ((ls.take (k + 1)).flatten.length : Nat) := by rw [flat_take hx, List.length_append]; omega
    first | refine w_lidx u51 s37 rfl rfl rfl (by omega) ?_ | refine w_slidx u51 s37 rfl rfl rfl (by omega) ?_
    first | refine w_ldC1 a37 rfl rfl rdc ?_ | refine w_ldP1 a37 rfl rfl tk rdp ?_
    refine w_assign rfl rfl ?_
    refine ws_nil ?_
    refine wc_seq ?_
    refine wc_text ?_
    refine w_move rfl rfl ?_
    refine w_move rfl rfl ?_
    first | refine w_len rfl rfl (len_lst u37) ?_ | refine w_len rfl rfl (len_slice u37) ?_ | refine w_lenO rfl u37 rfl rfl tk ?_
    refine w_add u3 rfl rfl rfl (by omega) ?_
    refine w_assign rfl rfl ?_
    refine ws_nil ?_
    rw [hfl]
    refine wc_seq ?_
    refine wc_text ?_
    refine w_move rfl rfl ?_
    refine w_lss u3 rfl rfl rfl ?_
    refine ws_nil ?_
    refine wc_cond rfl (fun h6 => ?_) (fun h6 => ?_)
    · replace h6 := of_decide_eq_true h6
      exact absurd h6 (by omega)
    · skip
      refine wc_stay ?_
      refine wc_text ?_
      refine w_add u3 rfl rfl rfl (by omega) ?_
      refine w_move rfl rfl ?_
      refine ws_nil ?_
      exact ⟨⟨k + 1, by omega⟩, by simp only; omega, (.cons rfl (.cons rfl (.cons rfl (.cons rfl (.cons rfl (.nil _)))))), (Sel.weak .nil)⟩
  · replace h3 := of_decide_eq_false h3
    have hk1 : k = ls.length := by omega
    subst hk1
    rw [List.take_length]
    refine wc_exit ?_
    refine wc_seq ?_
    refine wc_text ?_
    refine w_move rfl rfl ?_
    refine w_call rfl rfl (CallW.mono (grow_pos _ (by omega) (by omega) _) ?_)
    rintro _ _ ⟨_, rfl, o24, rfl, rfl⟩
    try simp only [List.cons_append, List.nil_append]
    refine w_assign rfl rfl ?_
    refine ws_nil ?_
    refine wc_seq ?_
    refine wc_seq ?_
    refine wc_text ?_
    refine w_move rfl rfl ?_
    first | refine w_len rfl rfl (len_lst u51) ?_ | refine w_len rfl rfl (len_slice u51) ?_ | refine w_lenO rfl u51 rfl rfl tk ?_
    refine w_move rfl rfl ?_
    refine ws_nil ?_
    refine wc_block ?_
    refine wc_loop (σ := { j : Nat // j ≤ ls.length }) (fun s => [(6, .slice (some ⟨o24, 0⟩) ((ls.take s.1).flatten.length) (.op 0)), (25, AL eL ls), (26, .int .i64 (ls.length : Nat)), (27, .int .i64 (s.1 : Nat))]) (fun s => [.obj o24 (.row 5 1 false ((padB (ls.take s.1).flatten ls.flatten.length).flatMap eB))]) (fun s => ls.length - s.1) ?_ ⟨0, Nat.zero_le _⟩ (.cons rfl (.cons rfl (.cons rfl (.cons rfl (.nil _))))) (Sel.weak (.cons tk .nil))
    rintro ⟨j, hj⟩
    dsimp only
    refine wc_seq ?_
    refine wc_text ?_
    refine w_lss u3 rfl rfl rfl ?_
    refine ws_nil ?_
    refine wc_seq ?_
    refine wc_cond rfl (fun h11 => ?_) (fun h11 => ?_)
    · first | replace h11 := of_decide_eq_true h11 | replace h11 := of_decide_eq_false h11 | replace h11 := of_decide_eq_false (nb_T h11) | replace h11 := of_decide_eq_true (nb_F h11) | replace h11 := nb_T h11 | replace h11 := nb_F h11 | skip
      first | replace h11 := Int.not_lt.mp h11 | replace h11 := Int.not_le.mp h11 | replace h11 := Decidable.not_not.mp h11 | skip
      refine wc_stay ?_
      refine wc_seq ?_
      refine wc_block ?_
      refine wc_seq ?_
      refine wc_text ?_
      obtain ⟨x, hx⟩ := get_of_lt (l := ls) (k := j) (by omega)
      have hf1 := flat_elem_le hx
      have hfl : (ls.take j).flatten.length + x.length = (ls.take (j + 1)).flatten.length := by rw [flat_take hx, List.length_append]
      first | refine w_lidx u51 s37 rfl rfl rfl (by omega) ?_ | refine w_slidx u51 s37 rfl rfl rfl (by omega) ?_
      first | refine w_ldC1 a37 rfl rfl rdc ?_ | refine w_ldP1 a37 rfl rfl tk rdp ?_
      refine w_assign rfl rfl ?_
      refine ws_nil ?_
      refine wc_text ?_
      refine w_move rfl rfl ?_
      refine w_move rfl rfl ?_
      refine w_appIn rfl u37 s5 b5 z5 u37 (by simp) rfl rfl rfl tk (new_flat (by intro _; rfl) (by intro _; rfl)) (by rw [flat_length eB_len, padB_len (by omega)]; omega) (padB_over (by omega)) ?_
      refine w_assign rfl rfl ?_
      refine ws_nil ?_
      rw [hfl, ← flat_take hx]
      refine wc_text ?_
      refine w_add u3 rfl rfl rfl (by omega) ?_
      refine w_move rfl rfl ?_
      refine ws_nil ?_
      exact ⟨⟨j + 1, by omega⟩, by simp only; omega, (.cons rfl (.cons rfl (.cons rfl (.cons rfl (.nil _))))), (Sel.weak (.cons tk .nil))⟩
    · first | replace h11 := of_decide_eq_true h11 | replace h11 := of_decide_eq_false h11 | replace h11 := of_decide_eq_false (nb_T h11) | replace h11 := of_decide_eq_true (nb_F h11) | replace h11 := nb_T h11 | replace h11 := nb_F h11 | skip
      first | replace h11 := Int.not_lt.mp h11 | replace h11 := Int.not_le.mp h11 | replace h11 := Decidable.not_not.mp h11 | skip
      refine wc_exit ?_
      refine wc_seq ?_
      refine wc_text ?_
      refine w_move rfl rfl ?_
      refine w_assign rfl rfl ?_
      refine ws_nil ?_
      have hj1 : j = ls.length := by omega
      subst hj1
      rw [List.take_length]
      refine WC.recell (ls.flatten.flatMap eB) tk (by rw [padB_full rfl]) ?_
      refine wc_ret ?_
      skip
      refine ⟨_, _, _, (.cons (.tmp rfl) .nil), (.cons fr .nil), ?_, ?_⟩
      · first | rfl | simp [doneV]
      rfl

theorem concat_zero (ls : List (List UInt8)) (hl : ls.length < 1000000) (hN : ls.flatten.length < 1000000) (hz : ls.flatten = []) : PFn C 35 [AL eL ls] (AL eB ls.flatten) := by
  refine fn_keep rfl rfl (fn := Try.f35) rfl rfl rfl rfl rfl ?_
  refine wc_seq ?_
  refine wc_text ?_
  refine w_assign rfl rfl ?_
  refine ws_nil ?_
  refine wc_seq ?_
  refine wc_text ?_
  refine w_assign rfl rfl ?_
  refine ws_nil ?_
  refine wc_seq ?_
  refine wc_seq ?_
  refine wc_text ?_
  refine w_move rfl rfl ?_
  first | refine w_len rfl rfl (len_lst u51) ?_ | refine w_len rfl rfl (len_slice u51) ?_ | refine w_lenO rfl u51 rfl rfl tk ?_
  refine w_move rfl rfl ?_
  refine ws_nil ?_
  refine wc_block ?_
  refine wc_loop (σ := { k : Nat // k ≤ ls.length }) (fun s => [(0, AL eL ls), (3, .int .i64 ((ls.take s.1).flatten.length : Nat)), (9, AL eL ls), (10, .int .i64 (ls.length : Nat)), (11, .int .i64 (s.1 : Nat))]) (fun s => []) (fun s => ls.length - s.1) ?_ ⟨0, Nat.zero_le _⟩ (.cons rfl (.cons rfl (.cons rfl (.cons rfl (.cons rfl (.nil _)))))) (Sel.weak .nil)
  rintro ⟨k, hk⟩
  dsimp only
  have hf0 := flat_take_le ls k
  refine wc_seq ?_
  refine wc_text ?_
  refine w_lss u3 rfl rfl rfl ?_
  refine ws_nil ?_
  refine wc_seq ?_
  refine wc_cond rfl (fun h3 => ?_) (fun h3 => ?_)
  · replace h3 := of_decide_eq_true h3
    refine wc_stay ?_
    refine wc_seq ?_
    refine wc_block ?_
    refine wc_seq ?_
    refine wc_text ?_
    obtain ⟨x, hx⟩ := get_of_lt (l := ls) (k := k) (by omega)
    have hf1 := flat_elem_le hx
    have hfl : ((ls.take k).flatten.length : Int) + x.length = ((ls.take (k + 1)).flatten.length : Nat) := by rw [flat_take hx, List.length_append]; omega
    first | refine w_lidx u51 s37 rfl rfl rfl (by omega) ?_ | refine w_slidx u51 s37 rfl rfl rfl (by omega) ?_
    first | refine w_ldC1 a37 rfl rfl rdc ?_ | refine w_ldP1 a37 rfl rfl tk rdp ?_
    refine w_assign rfl rfl ?_
    refine ws_nil ?_
    refine wc_seq ?_
    refine wc_text ?_
    refine w_move rfl rfl ?_
    refine w_move rfl rfl ?_
    first | refine w_len rfl rfl (len_lst u37) ?_ | refine w_len rfl rfl (len_slice u37) ?_ | refine w_lenO rfl u37 rfl rfl tk ?_
    refine w_add u3 rfl rfl rfl (by omega) ?_
    refine w_assign rfl rfl ?_
    refine ws_nil ?_
    rw [hfl]
    refine wc_seq ?_
    refine wc_text ?_
    refine w_move rfl rfl ?_
    refine w_lss u3 rfl rfl rfl ?_
    refine ws_nil ?_
    refine wc_cond rfl (fun h6 => ?_) (fun h6 => ?_)
    · replace h6 := of_decide_eq_true h6
      exact absurd h6 (by omega)
    · skip
      refine wc_stay ?_
      refine wc_text ?_
      refine w_add u3 rfl rfl rfl (by omega) ?_
      refine w_move rfl rfl ?_
      refine ws_nil ?_
      exact ⟨⟨k + 1, by omega⟩, by simp only; omega, (.cons rfl (.cons rfl (.cons rfl (.cons rfl (.cons rfl (.nil _)))))), (Sel.weak .nil)⟩
  · replace h3 := of_decide_eq_false h3
    have hk1 : k = ls.length := by omega
    subst hk1
    rw [List.take_length]
    refine wc_exit ?_
    refine wc_seq ?_
    refine wc_text ?_
    rw [hz]
    refine w_move rfl rfl ?_
    refine w_call rfl rfl (CallW.mono (grow_zero _) ?_)
    rintro _ _ ⟨_, rfl, rfl, rfl⟩
    try simp only [List.cons_append, List.nil_append]
    refine w_assign rfl rfl ?_
    refine ws_nil ?_
    refine WC.ownNil 5 1 ?_
    refine wc_seq ?_
    refine wc_seq ?_
    refine wc_text ?_
    refine w_move rfl rfl ?_
    first | refine w_len rfl rfl (len_lst u51) ?_ | refine w_len rfl rfl (len_slice u51) ?_ | refine w_lenO rfl u51 rfl rfl tk ?_
    refine w_move rfl rfl ?_
    refine ws_nil ?_
    refine wc_block ?_
    refine wc_loop (σ := { p : Nat × AV // p.1 ≤ ls.length }) (fun s => [(6, s.1.2), (25, AL eL ls), (26, .int .i64 (ls.length : Nat)), (27, .int .i64 (s.1.1 : Nat))]) (fun s => [.own s.1.2 5 1 [] 0]) (fun s => ls.length - s.1.1) ?_ ⟨(0, nilSlice), Nat.zero_le _⟩ (.cons rfl (.cons rfl (.cons rfl (.cons rfl (.nil _))))) (Sel.weak (.cons tk .nil))
    rintro ⟨⟨j, v⟩, hj⟩
    dsimp only
    simp only at hj
    refine wc_seq ?_
    refine wc_text ?_
    refine w_lss u3 rfl rfl rfl ?_
    refine ws_nil ?_
    refine wc_seq ?_
    refine wc_cond rfl (fun h11 => ?_) (fun h11 => ?_)
    · first | replace h11 := of_decide_eq_true h11 | replace h11 := of_decide_eq_false h11 | replace h11 := of_decide_eq_false (nb_T h11) | replace h11 := of_decide_eq_true (nb_F h11) | replace h11 := nb_T h11 | replace h11 := nb_F h11 | skip
      first | replace h11 := Int.not_lt.mp h11 | replace h11 := Int.not_le.mp h11 | replace h11 := Decidable.not_not.mp h11 | skip
      refine wc_stay ?_
      refine wc_seq ?_
      refine wc_block ?_
      refine wc_seq ?_
      refine wc_text ?_
      obtain ⟨x, hx⟩ := get_of_lt (l := ls) (k := j) (by omega)
      have hx0 := flat_zero hz hx
      subst hx0
      first | refine w_lidx u51 s37 rfl rfl rfl (by omega) ?_ | refine w_slidx u51 s37 rfl rfl rfl (by omega) ?_
      first | refine w_ldC1 a37 rfl rfl rdc ?_ | refine w_ldP1 a37 rfl rfl tk rdp ?_
      refine w_assign rfl rfl ?_
      refine ws_nil ?_
      refine wc_text ?_
      refine w_move rfl rfl ?_
      refine w_move rfl rfl ?_
      refine w_appO (enc := eB) (l := []) (m := []) rfl u37 s5 b5 z5 u37 (by simp) rfl rfl rfl .head nw (by unfold bigBy; first | omega | (simp only [List.length_nil, List.length_cons, List.length_append, List.length_take, List.length_drop]; omega)) (by unfold bigBy; first | omega | (simp only [List.length_nil, List.length_cons, List.length_append, List.length_take, List.length_drop]; omega)) (fun v33 => ?_)
      refine w_assign rfl rfl ?_
      refine ws_nil ?_
      refine wc_text ?_
      refine w_add u3 rfl rfl rfl (by omega) ?_
      refine w_move rfl rfl ?_
      refine ws_nil ?_
      exact ⟨⟨(j + 1, _), (by omega : j + 1 ≤ ls.length)⟩, by simp only; omega, (.cons rfl (.cons rfl (.cons rfl (.cons rfl (.nil _))))), (Sel.weak (.cons tk .nil))⟩
    · first | replace h11 := of_decide_eq_true h11 | replace h11 := of_decide_eq_false h11 | replace h11 := of_decide_eq_false (nb_T h11) | replace h11 := of_decide_eq_true (nb_F h11) | replace h11 := nb_T h11 | replace h11 := nb_F h11 | skip
      first | replace h11 := Int.not_lt.mp h11 | replace h11 := Int.not_le.mp h11 | replace h11 := Decidable.not_not.mp h11 | skip
      refine wc_exit ?_
      refine wc_seq ?_
      refine wc_text ?_
      refine w_move rfl rfl ?_
      refine w_assign rfl rfl ?_
      refine ws_nil ?_
      refine wc_ret ?_
      skip
      refine ⟨_, _, _, (.cons (.tmp rfl) .nil), (.cons fr .nil), ?_, ?_⟩
      · first | rfl | simp [doneV]
      rfl

theorem concat_fn (ls : List (List UInt8)) (hl : ls.length < 1000000) (hN : ls.flatten.length < 1000000) : PFn C 35 [AL eL ls] (AL eB ls.flatten) := by
  by_cases hz : ls.flatten = []
  · exact concat_zero ls hl hN hz
  · exact concat_pos ls hl hN (List.length_pos_iff.mpr hz)
theorem concat_cw (ls : List (List UInt8)) (hl : ls.length < 1000000) (hN : ls.flatten.length < 1000000) (R : List HI) : CallW C 35 [AL eL ls] ([] ++ R) fun v H => v = AL eB ls.flatten ∧ H = [] ++ R :=
  cw_fn rfl rfl (.cons (.closed rfl) .nil) (concat_fn ls hl hN) ⟨rfl, rfl⟩

theorem write_any (o : Nat) (s : St) (k : Ok s) (pv : AV) (H0 : List HI) (all : List UInt8) (hall : all.length < 1000000) (hc : ∀ R, CallW C 35 [pv] (H0 ++ R) fun v H => v = AL eB all ∧ H = H0 ++ R) (R : List HI) : CallW C 24 [.ptr (some ⟨o, 0⟩), pv] ((.obj o (.row 67 6 false (DK s)) :: H0) ++ R) fun v H => ∃ H', H = H' ++ R ∧ v = .int .i64 (writeV s all) ∧ H' = .obj o (.row 67 6 false (DK (writeS s all))) :: H0 := by
  refine cw_sharedA (fn := Try.f24) rfl rfl rfl rfl (K := fun v H' => v = .int .i64 (writeV s all) ∧ H' = .obj o (.row 67 6 false (DK (writeS s all))) :: H0) ?_ R
  have kb := k.b
  have kr := k.r1
  have kv := burnV_in s all.length (by omega) k
  refine wc_seq ?_
  refine wc_text ?_
  refine w_assign rfl rfl ?_
  refine ws_nil ?_
  refine wc_seq ?_
  refine wc_text ?_
  refine w_move rfl rfl ?_
  refine w_call rfl rfl (CallW.mono (cw_swap hc [.obj o (.row 67 6 false (DK s))]) ?_)
  rintro _ _ ⟨rfl, rfl⟩
  try simp only [List.cons_append, List.nil_append]
  refine w_assign rfl rfl ?_
  refine ws_nil ?_
  refine wc_seq ?_
  refine wc_block ?_
  refine wc_seq ?_
  refine wc_text ?_
  refine w_move rfl rfl ?_
  refine w_nil rfl rfl rfl ?_
  first | refine w_faddrC O67_3 rfl rfl ?_ | refine w_faddrP O67_3 rfl rfl ?_
  first | refine w_ldC1 a4 rfl rfl rdc ?_ | refine w_ldP1 a4 rfl rfl tk rdp ?_
  refine w_assign rfl rfl ?_
  refine ws_nil ?_
  refine wc_cond rfl (fun h2 => ?_) (fun h2 => ?_)
  · skip
    refine wc_seq ?_
    refine wc_text ?_
    refine w_assign rfl rfl ?_
    refine ws_nil ?_
    refine wc_ret ?_
    refine ⟨_, _, (.cons (.tmp rfl) .nil), (Sel.weak (.cons tk .rest)), ?_⟩
    exact ⟨by unfold writeV; rw [h2]; rfl, by unfold writeS; rw [h2]; rfl⟩
  · skip
    refine wc_seq ?_
    refine wc_free [0, 1, 3, 7, 15, 0, 32, 127, 0, 256, 768, 1792, 4095, 8191] (by kernel_rfl) (by kernel_rfl) (fun F => ?_)
    refine wr_float F 0 rfl (by kernel_rfl) (.inl (by kernel_rfl)) ?_
    refine w_move rfl rfl ?_
    refine ws_nil ?_
    refine wr_float F 1 rfl (by kernel_rfl) (.inl (by kernel_rfl)) ?_
    refine w_nil rfl rfl rfl ?_
    refine ws_nil ?_
    refine wr_float F 2 rfl (by kernel_rfl) (.inl (by kernel_rfl)) ?_
    first | refine w_faddrC O67_2 rfl rfl ?_ | refine w_faddrP O67_2 rfl rfl ?_
    refine ws_nil ?_
    refine wr_float F 5 rfl (by kernel_rfl) (.inl (by kernel_rfl)) ?_
    refine w_move rfl rfl ?_
    refine ws_nil ?_
    refine wr_float F 6 rfl (by kernel_rfl) (.inl (by kernel_rfl)) ?_
    first | refine w_len rfl rfl (len_lst u37) ?_ | refine w_len rfl rfl (len_slice u37) ?_ | refine w_lenO rfl u37 rfl rfl tk ?_
    refine ws_nil ?_
    refine wr_float F 8 rfl (by kernel_rfl) (.inl (by kernel_rfl)) ?_
    refine w_move rfl rfl ?_
    refine ws_nil ?_
    refine wr_float F 9 rfl (by kernel_rfl) (.inl (by kernel_rfl)) ?_
    refine w_nil rfl rfl rfl ?_
    refine ws_nil ?_
    refine wr_float F 10 rfl (by kernel_rfl) (.inl (by kernel_rfl)) ?_
    first | refine w_faddrC O67_0 rfl rfl ?_ | refine w_faddrP O67_0 rfl rfl ?_
    refine ws_nil ?_
    refine wr_next F (l := [3, 11]) (by kernel_rfl) (by simp) (.cons rfl ?_ (.cons rfl ?_ (.nil)))
    · skip
      first | refine w_ldC1 a37 rfl rfl rdc ?_ | refine w_ldP1 a37 rfl rfl tk rdp ?_
      refine ws_nil ?_
      refine wr_float F 4 rfl (by kernel_rfl) (.inl (by kernel_rfl)) ?_
      first | refine w_len rfl rfl (len_lst u37) ?_ | refine w_len rfl rfl (len_slice u37) ?_ | refine w_lenO rfl u37 rfl rfl tk ?_
      refine ws_nil ?_
      refine wr_float F 7 rfl (by kernel_rfl) (.inl (by kernel_rfl)) ?_
      refine w_add u3 rfl rfl rfl (by omega) ?_
      refine ws_nil ?_
      refine wr_next F (l := [11]) (by kernel_rfl) (by simp) (.cons rfl ?_ (.nil))
      first | refine w_ldC1 a3 rfl rfl rdc ?_ | refine w_ldP1 a3 rfl rfl tk rdp ?_
      refine ws_nil ?_
      refine wr_float F 12 rfl (by kernel_rfl) (.inl (by kernel_rfl)) ?_
      refine w_gtr u3 rfl rfl rfl ?_
      refine ws_nil ?_
      refine wr_float F 13 rfl (by kernel_rfl) (.inl (by kernel_rfl)) ?_
      refine w_assign rfl rfl ?_
      refine ws_nil ?_
      refine wr_end F (by kernel_rfl) ?_
      refine wc_cond rfl (fun h4 => ?_) (fun h4 => ?_)
      · first | replace h4 := of_decide_eq_true h4 | replace h4 := of_decide_eq_false h4 | replace h4 := of_decide_eq_false (nb_T h4) | replace h4 := of_decide_eq_true (nb_F h4) | replace h4 := nb_T h4 | replace h4 := nb_F h4 | skip
        first | replace h4 := Int.not_lt.mp h4 | replace h4 := Int.not_le.mp h4 | replace h4 := Decidable.not_not.mp h4 | skip
        refine wc_seq ?_
        refine wc_text ?_
        refine w_assign rfl rfl ?_
        refine ws_nil ?_
        refine wc_ret ?_
        refine ⟨_, _, (.cons (.tmp rfl) .nil), (Sel.weak (.cons tk .rest)), ?_⟩
        exact ⟨by unfold writeV; rw [if_neg (by simp [h2]), if_pos (by omega)]; rfl, by unfold writeS; rw [if_neg (by simp [h2]), if_pos (by omega)]⟩
      · first | replace h4 := of_decide_eq_true h4 | replace h4 := of_decide_eq_false h4 | replace h4 := of_decide_eq_false (nb_T h4) | replace h4 := of_decide_eq_true (nb_F h4) | replace h4 := nb_T h4 | replace h4 := nb_F h4 | skip
        first | replace h4 := Int.not_lt.mp h4 | replace h4 := Int.not_le.mp h4 | replace h4 := Decidable.not_not.mp h4 | skip
        refine wc_stay ?_
        refine wc_seq ?_
        refine wc_text ?_
        refine w_move rfl rfl ?_
        refine w_move rfl rfl ?_
        refine w_nil rfl rfl rfl ?_
        first | refine w_faddrC O67_2 rfl rfl ?_ | refine w_faddrP O67_2 rfl rfl ?_
        first | refine w_ldC1 a37 rfl rfl rdc ?_ | refine w_ldP1 a37 rfl rfl tk rdp ?_
        refine w_call rfl rfl (CallW.mono (clone_fn _ (by omega) _) ?_)
        rintro v32 _ rfl
        try simp only [List.cons_append, List.nil_append]
        refine w_move rfl rfl ?_
        refine w_move rfl rfl ?_
        refine w_move rfl rfl ?_
        first | refine w_len rfl rfl (len_lst u37) ?_ | refine w_len rfl rfl (len_slice u37) ?_ | refine w_lenO rfl u37 rfl rfl tk ?_
        refine w_call rfl rfl (CallW.mono (CallW.take tk (burn_fn _ _ _ (by omega) k _)) ?_)
        rintro _ _ ⟨_, rfl, rfl, rfl⟩
        try simp only [List.cons_append, List.nil_append]
        refine w_slice rfl rfl rfl rfl rfl (slice_al u37 s5 (by intro _; rfl) (by rfl) (nat_of (by omega) _) (by omega) (by omega)) ?_
        refine w_appL (enc := eB) rfl u37 s5 b5 z5 u37 (by simp) rfl rfl rfl tk nw (by unfold bigBy; first | omega | (simp only [List.length_nil, List.length_cons, List.length_append, List.length_take, List.length_drop]; omega)) (by unfold bigBy; first | omega | (simp only [List.length_nil, List.length_cons, List.length_append, List.length_take, List.length_drop]; omega)) (by intro _; rfl) ?_
        refine w_nil rfl rfl rfl ?_
        first | refine w_faddrC O67_2 rfl rfl ?_ | refine w_faddrP O67_2 rfl rfl ?_
        refine w_st s37 rfl rfl rfl tk rfl rfl ovw ?_
        refine ws_nil ?_
        simp only [List.drop_zero, Nat.sub_zero]
        refine wc_seq ?_
        refine wc_seq ?_
        refine wc_text ?_
        refine w_move rfl rfl ?_
        refine w_nil rfl rfl rfl ?_
        first | refine w_faddrC O67_3 rfl rfl ?_ | refine w_faddrP O67_3 rfl rfl ?_
        first | refine w_ldC1 a4 rfl rfl rdc ?_ | refine w_ldP1 a4 rfl rfl tk rdp ?_
        refine ws_nil ?_
        refine wc_cond rfl (fun h7 => ?_) (fun h7 => ?_)
        · skip
          refine wc_seq ?_
          refine wc_text ?_
          refine w_assign rfl rfl ?_
          refine ws_nil ?_
          refine wc_ret ?_
          refine ⟨_, _, (.cons (.tmp rfl) .nil), (Sel.weak (.cons tk .rest)), ?_⟩
          exact ⟨by unfold writeV; rw [if_neg (by simp [h2]), if_neg (by omega), putS_off, h7]; rfl, by unfold writeS; rw [if_neg (by simp [h2]), if_neg (by omega)]; rfl⟩
        · skip
          refine wc_stay ?_
          refine wc_seq ?_
          refine wc_text ?_
          refine w_assign rfl rfl ?_
          refine ws_nil ?_
          refine wc_ret ?_
          refine ⟨_, _, (.cons (.tmp rfl) .nil), (Sel.weak (.cons tk .rest)), ?_⟩
          exact ⟨by unfold writeV; rw [if_neg (by simp [h2]), if_neg (by omega), putS_off, h7]; rfl, by unfold writeS; rw [if_neg (by simp [h2]), if_neg (by omega)]; rfl⟩
    · skip
      first | refine w_ldC1 a3 rfl rfl rdc ?_ | refine w_ldP1 a3 rfl rfl tk rdp ?_
      refine ws_nil ?_
      refine wr_next F (l := [3]) (by kernel_rfl) (by simp) (.cons rfl ?_ (.nil))
      first | refine w_ldC1 a37 rfl rfl rdc ?_ | refine w_ldP1 a37 rfl rfl tk rdp ?_
      refine ws_nil ?_
      refine wr_float F 4 rfl (by kernel_rfl) (.inl (by kernel_rfl)) ?_
      first | refine w_len rfl rfl (len_lst u37) ?_ | refine w_len rfl rfl (len_slice u37) ?_ | refine w_lenO rfl u37 rfl rfl tk ?_
      refine ws_nil ?_
      refine wr_float F 7 rfl (by kernel_rfl) (.inl (by kernel_rfl)) ?_
      refine w_add u3 rfl rfl rfl (by omega) ?_
      refine ws_nil ?_
      refine wr_float F 12 rfl (by kernel_rfl) (.inl (by kernel_rfl)) ?_
      refine w_gtr u3 rfl rfl rfl ?_
      refine ws_nil ?_
      refine wr_float F 13 rfl (by kernel_rfl) (.inl (by kernel_rfl)) ?_
      refine w_assign rfl rfl ?_
      refine ws_nil ?_
      refine wr_end F (by kernel_rfl) ?_
      refine wc_cond rfl (fun h4 => ?_) (fun h4 => ?_)
      · first | replace h4 := of_decide_eq_true h4 | replace h4 := of_decide_eq_false h4 | replace h4 := of_decide_eq_false (nb_T h4) | replace h4 := of_decide_eq_true (nb_F h4) | replace h4 := nb_T h4 | replace h4 := nb_F h4 | skip
        first | replace h4 := Int.not_lt.mp h4 | replace h4 := Int.not_le.mp h4 | replace h4 := Decidable.not_not.mp h4 | skip
        refine wc_seq ?_
        refine wc_text ?_
        refine w_assign rfl rfl ?_
        refine ws_nil ?_
        refine wc_ret ?_
        refine ⟨_, _, (.cons (.tmp rfl) .nil), (Sel.weak (.cons tk .rest)), ?_⟩
        exact ⟨by unfold writeV; rw [if_neg (by simp [h2]), if_pos (by omega)]; rfl, by unfold writeS; rw [if_neg (by simp [h2]), if_pos (by omega)]⟩
      · first | replace h4 := of_decide_eq_true h4 | replace h4 := of_decide_eq_false h4 | replace h4 := of_decide_eq_false (nb_T h4) | replace h4 := of_decide_eq_true (nb_F h4) | replace h4 := nb_T h4 | replace h4 := nb_F h4 | skip
        first | replace h4 := Int.not_lt.mp h4 | replace h4 := Int.not_le.mp h4 | replace h4 := Decidable.not_not.mp h4 | skip
        refine wc_stay ?_
        refine wc_seq ?_
        refine wc_text ?_
        refine w_move rfl rfl ?_
        refine w_move rfl rfl ?_
        refine w_nil rfl rfl rfl ?_
        first | refine w_faddrC O67_2 rfl rfl ?_ | refine w_faddrP O67_2 rfl rfl ?_
        first | refine w_ldC1 a37 rfl rfl rdc ?_ | refine w_ldP1 a37 rfl rfl tk rdp ?_
        refine w_call rfl rfl (CallW.mono (clone_fn _ (by omega) _) ?_)
        rintro v32 _ rfl
        try simp only [List.cons_append, List.nil_append]
        refine w_move rfl rfl ?_
        refine w_move rfl rfl ?_
        refine w_move rfl rfl ?_
        first | refine w_len rfl rfl (len_lst u37) ?_ | refine w_len rfl rfl (len_slice u37) ?_ | refine w_lenO rfl u37 rfl rfl tk ?_
        refine w_call rfl rfl (CallW.mono (CallW.take tk (burn_fn _ _ _ (by omega) k _)) ?_)
        rintro _ _ ⟨_, rfl, rfl, rfl⟩
        try simp only [List.cons_append, List.nil_append]
        refine w_slice rfl rfl rfl rfl rfl (slice_al u37 s5 (by intro _; rfl) (by rfl) (nat_of (by omega) _) (by omega) (by omega)) ?_
        refine w_appL (enc := eB) rfl u37 s5 b5 z5 u37 (by simp) rfl rfl rfl tk nw (by unfold bigBy; first | omega | (simp only [List.length_nil, List.length_cons, List.length_append, List.length_take, List.length_drop]; omega)) (by unfold bigBy; first | omega | (simp only [List.length_nil, List.length_cons, List.length_append, List.length_take, List.length_drop]; omega)) (by intro _; rfl) ?_
        refine w_nil rfl rfl rfl ?_
        first | refine w_faddrC O67_2 rfl rfl ?_ | refine w_faddrP O67_2 rfl rfl ?_
        refine w_st s37 rfl rfl rfl tk rfl rfl ovw ?_
        refine ws_nil ?_
        simp only [List.drop_zero, Nat.sub_zero]
        refine wc_seq ?_
        refine wc_seq ?_
        refine wc_text ?_
        refine w_move rfl rfl ?_
        refine w_nil rfl rfl rfl ?_
        first | refine w_faddrC O67_3 rfl rfl ?_ | refine w_faddrP O67_3 rfl rfl ?_
        first | refine w_ldC1 a4 rfl rfl rdc ?_ | refine w_ldP1 a4 rfl rfl tk rdp ?_
        refine ws_nil ?_
        refine wc_cond rfl (fun h7 => ?_) (fun h7 => ?_)
        · skip
          refine wc_seq ?_
          refine wc_text ?_
          refine w_assign rfl rfl ?_
          refine ws_nil ?_
          refine wc_ret ?_
          refine ⟨_, _, (.cons (.tmp rfl) .nil), (Sel.weak (.cons tk .rest)), ?_⟩
          exact ⟨by unfold writeV; rw [if_neg (by simp [h2]), if_neg (by omega), putS_off, h7]; rfl, by unfold writeS; rw [if_neg (by simp [h2]), if_neg (by omega)]; rfl⟩
        · skip
          refine wc_stay ?_
          refine wc_seq ?_
          refine wc_text ?_
          refine w_assign rfl rfl ?_
          refine ws_nil ?_
          refine wc_ret ?_
          refine ⟨_, _, (.cons (.tmp rfl) .nil), (Sel.weak (.cons tk .rest)), ?_⟩
          exact ⟨by unfold writeV; rw [if_neg (by simp [h2]), if_neg (by omega), putS_off, h7]; rfl, by unfold writeS; rw [if_neg (by simp [h2]), if_neg (by omega)]; rfl⟩

theorem write_fn (o : Nat) (s : St) (k : Ok s) (ls : List (List UInt8)) (hl : ls.length < 1000000) (hN : ls.flatten.length < 1000000) (R : List HI) : CallW C 24 [.ptr (some ⟨o, 0⟩), AL eL ls] (.obj o (.row 67 6 false (DK s)) :: R) fun v H => v = .int .i64 (writeV s ls.flatten) ∧ H = .obj o (.row 67 6 false (DK (writeS s ls.flatten))) :: R :=
  CallW.mono (write_any o s k (AL eL ls) [] ls.flatten hN (concat_cw ls hl hN) R) fun v H ⟨H', h1, h2, h3⟩ => ⟨h2, by rw [h1, h3]; rfl⟩

theorem write_at (o : Nat) (s : St) (k : Ok s) (ls : List (List UInt8)) (all : List UInt8) (he : ls.flatten = all) (hl : ls.length < 1000000) (hN : all.length < 1000000) (R : List HI) : CallW C 24 [.ptr (some ⟨o, 0⟩), AL eL ls] (.obj o (.row 67 6 false (DK s)) :: R) fun v H => v = .int .i64 (writeV s all) ∧ H = .obj o (.row 67 6 false (DK (writeS s all))) :: R := by
  subst he
  exact write_fn o s k ls hl hN R

theorem clamp_fn (n lo hi : Int) : PFn C 17 [.int .i64 n, .int .i64 lo, .int .i64 hi] (.int .i64 (clampV n lo hi)) := by
  refine fn_view rfl rfl (fn := Try.f17) rfl rfl rfl rfl rfl ?_
  refine wc_seq ?_
  refine wc_text ?_
  refine w_assign rfl rfl ?_
  refine ws_nil ?_
  refine wc_seq ?_
  refine wc_seq ?_
  refine wc_text ?_
  refine w_move rfl rfl ?_
  refine w_move rfl rfl ?_
  refine w_lss u3 rfl rfl rfl ?_
  refine ws_nil ?_
  refine wc_cond rfl (fun h1 => ?_) (fun h1 => ?_)
  · first | replace h1 := of_decide_eq_true h1 | replace h1 := of_decide_eq_false h1 | replace h1 := of_decide_eq_false (nb_T h1) | replace h1 := of_decide_eq_true (nb_F h1) | replace h1 := nb_T h1 | replace h1 := nb_F h1 | skip
    first | replace h1 := Int.not_lt.mp h1 | replace h1 := Int.not_le.mp h1 | replace h1 := Decidable.not_not.mp h1 | skip
    refine wc_seq ?_
    refine wc_text ?_
    refine w_move rfl rfl ?_
    refine w_assign rfl rfl ?_
    refine ws_nil ?_
    refine wc_ret ?_
    refine ⟨_, (.cons (.tmp rfl) .nil), ?_, rfl⟩
    refine congrArg (AV.int .i64) ?_; unfold clampV; rw [if_pos h1]
  · first | replace h1 := of_decide_eq_true h1 | replace h1 := of_decide_eq_false h1 | replace h1 := of_decide_eq_false (nb_T h1) | replace h1 := of_decide_eq_true (nb_F h1) | replace h1 := nb_T h1 | replace h1 := nb_F h1 | skip
    first | replace h1 := Int.not_lt.mp h1 | replace h1 := Int.not_le.mp h1 | replace h1 := Decidable.not_not.mp h1 | skip
    refine wc_stay ?_
    refine wc_seq ?_
    refine wc_seq ?_
    refine wc_text ?_
    refine w_move rfl rfl ?_
    refine w_move rfl rfl ?_
    refine w_gtr u3 rfl rfl rfl ?_
    refine ws_nil ?_
    refine wc_cond rfl (fun h3 => ?_) (fun h3 => ?_)
    · first | replace h3 := of_decide_eq_true h3 | replace h3 := of_decide_eq_false h3 | replace h3 := of_decide_eq_false (nb_T h3) | replace h3 := of_decide_eq_true (nb_F h3) | replace h3 := nb_T h3 | replace h3 := nb_F h3 | skip
      first | replace h3 := Int.not_lt.mp h3 | replace h3 := Int.not_le.mp h3 | replace h3 := Decidable.not_not.mp h3 | skip
      refine wc_seq ?_
      refine wc_text ?_
      refine w_move rfl rfl ?_
      refine w_assign rfl rfl ?_
      refine ws_nil ?_
      refine wc_ret ?_
      refine ⟨_, (.cons (.tmp rfl) .nil), ?_, rfl⟩
      refine congrArg (AV.int .i64) ?_; unfold clampV; rw [if_neg (by omega), if_pos (by omega)]
    · first | replace h3 := of_decide_eq_true h3 | replace h3 := of_decide_eq_false h3 | replace h3 := of_decide_eq_false (nb_T h3) | replace h3 := of_decide_eq_true (nb_F h3) | replace h3 := nb_T h3 | replace h3 := nb_F h3 | skip
      first | replace h3 := Int.not_lt.mp h3 | replace h3 := Int.not_le.mp h3 | replace h3 := Decidable.not_not.mp h3 | skip
      refine wc_stay ?_
      refine wc_seq ?_
      refine wc_text ?_
      refine w_move rfl rfl ?_
      refine w_assign rfl rfl ?_
      refine ws_nil ?_
      refine wc_ret ?_
      refine ⟨_, (.cons (.tmp rfl) .nil), ?_, rfl⟩
      refine congrArg (AV.int .i64) ?_; unfold clampV; rw [if_neg (by omega), if_neg (by omega)]

theorem within_fn (n lo hi : Int) (h0 : 0 ≤ lo) (h1 : lo ≤ hi) (h2 : hi ≤ 1000000000) : PFn C 18 [.int .i64 n, .int .i64 lo, .int .i64 hi] (.int .i64 (withinV n lo hi)) := by
  refine fn_view rfl rfl (fn := Try.f18) rfl rfl rfl rfl rfl ?_
  have hlo : -(hi - lo + 1) < n.tmod (hi - lo + 1) := Int.lt_tmod_of_pos n (show 0 < hi - lo + 1 by omega)
  have hhi : n.tmod (hi - lo + 1) < hi - lo + 1 := Int.tmod_lt_of_pos n (by omega)
  refine wc_seq ?_
  refine wc_text ?_
  refine w_assign rfl rfl ?_
  refine ws_nil ?_
  refine wc_seq ?_
  refine wc_text ?_
  refine w_move rfl rfl ?_
  refine w_move rfl rfl ?_
  refine w_move rfl rfl ?_
  refine w_sub u3 rfl rfl rfl (by omega) ?_
  refine w_add u3 rfl rfl rfl (by omega) ?_
  refine w_rem u3 rfl rfl rfl (by omega) ?_
  refine w_assign rfl rfl ?_
  refine ws_nil ?_
  refine wc_seq ?_
  refine wc_seq ?_
  refine wc_text ?_
  refine w_move rfl rfl ?_
  refine w_lss u3 rfl rfl rfl ?_
  refine ws_nil ?_
  refine wc_cond rfl (fun h2 => ?_) (fun h2 => ?_)
  · first | replace h2 := of_decide_eq_true h2 | replace h2 := of_decide_eq_false h2 | replace h2 := of_decide_eq_false (nb_T h2) | replace h2 := of_decide_eq_true (nb_F h2) | replace h2 := nb_T h2 | replace h2 := nb_F h2 | skip
    first | replace h2 := Int.not_lt.mp h2 | replace h2 := Int.not_le.mp h2 | replace h2 := Decidable.not_not.mp h2 | skip
    refine wc_text ?_
    refine w_move rfl rfl ?_
    refine w_move rfl rfl ?_
    refine w_add u3 rfl rfl rfl (by omega) ?_
    refine w_move rfl rfl ?_
    refine w_sub u3 rfl rfl rfl (by omega) ?_
    refine w_add u3 rfl rfl rfl (by omega) ?_
    refine w_assign rfl rfl ?_
    refine ws_nil ?_
    refine wc_seq ?_
    refine wc_text ?_
    refine w_move rfl rfl ?_
    refine w_move rfl rfl ?_
    refine w_add u3 rfl rfl rfl (by omega) ?_
    refine w_assign rfl rfl ?_
    refine ws_nil ?_
    refine wc_ret ?_
    refine ⟨_, (.cons (.tmp rfl) .nil), ?_, rfl⟩
    refine congrArg (AV.int .i64) ?_; unfold withinV; first | rw [if_pos h2] | rw [if_neg (by omega)]
  · first | replace h2 := of_decide_eq_true h2 | replace h2 := of_decide_eq_false h2 | replace h2 := of_decide_eq_false (nb_T h2) | replace h2 := of_decide_eq_true (nb_F h2) | replace h2 := nb_T h2 | replace h2 := nb_F h2 | skip
    first | replace h2 := Int.not_lt.mp h2 | replace h2 := Int.not_le.mp h2 | replace h2 := Decidable.not_not.mp h2 | skip
    refine wc_stay ?_
    refine wc_seq ?_
    refine wc_text ?_
    refine w_move rfl rfl ?_
    refine w_move rfl rfl ?_
    refine w_add u3 rfl rfl rfl (by omega) ?_
    refine w_assign rfl rfl ?_
    refine ws_nil ?_
    refine wc_ret ?_
    refine ⟨_, (.cons (.tmp rfl) .nil), ?_, rfl⟩
    refine congrArg (AV.int .i64) ?_; unfold withinV; first | rw [if_pos h2] | rw [if_neg (by omega)]

theorem sameB_fn (l m : List UInt8) (hl : l.length < 1000000) : PFn C 28 [AL eB l, AL eB m] (.bool (decide (l = m))) := by
  refine fn_view rfl rfl (fn := Try.f28) rfl rfl rfl rfl rfl ?_
  refine wc_seq ?_
  refine wc_text ?_
  refine w_assign rfl rfl ?_
  refine ws_nil ?_
  refine wc_seq ?_
  refine wc_seq ?_
  refine wc_text ?_
  refine w_move rfl rfl ?_
  first | refine w_len rfl rfl (len_lst u37) ?_ | refine w_len rfl rfl (len_slice u37) ?_ | refine w_lenO rfl u37 rfl rfl tk ?_
  refine w_move rfl rfl ?_
  first | refine w_len rfl rfl (len_lst u37) ?_ | refine w_len rfl rfl (len_slice u37) ?_ | refine w_lenO rfl u37 rfl rfl tk ?_
  refine w_neq u3 rfl rfl rfl ?_
  refine ws_nil ?_
  refine wc_cond rfl (fun h1 => ?_) (fun h1 => ?_)
  · first | replace h1 := of_decide_eq_true h1 | replace h1 := of_decide_eq_false h1 | replace h1 := of_decide_eq_false (nb_T h1) | replace h1 := of_decide_eq_true (nb_F h1) | replace h1 := nb_T h1 | replace h1 := nb_F h1 | skip
    first | replace h1 := Int.not_lt.mp h1 | replace h1 := Int.not_le.mp h1 | replace h1 := Decidable.not_not.mp h1 | skip
    refine wc_seq ?_
    refine wc_text ?_
    refine w_assign rfl rfl ?_
    refine ws_nil ?_
    refine wc_ret ?_
    refine ⟨_, (.cons (.tmp rfl) .nil), ?_, rfl⟩
    congr 1; simp; rintro rfl; exact h1 rfl
  · first | replace h1 := of_decide_eq_true h1 | replace h1 := of_decide_eq_false h1 | replace h1 := of_decide_eq_false (nb_T h1) | replace h1 := of_decide_eq_true (nb_F h1) | replace h1 := nb_T h1 | replace h1 := nb_F h1 | skip
    first | replace h1 := Int.not_lt.mp h1 | replace h1 := Int.not_le.mp h1 | replace h1 := Decidable.not_not.mp h1 | skip
    refine wc_stay ?_
    refine wc_seq ?_
    refine wc_seq ?_
    refine wc_text ?_
    refine w_assign rfl rfl ?_
    refine ws_nil ?_
    refine wc_block ?_
    refine wc_loop (σ := { k : Nat // k ≤ l.length ∧ l.take k = m.take k }) (fun s => [(0, AL eB l), (1, AL eB m), (5, .int .i64 (s.1 : Nat))]) (fun s => []) (fun s => l.length - s.1) ?_ ⟨0, Nat.zero_le _, rfl⟩ (.cons rfl (.cons rfl (.cons rfl (.nil _)))) (Sel.weak .nil)
    rintro ⟨k, hk, hs⟩
    dsimp only
    refine wc_seq ?_
    refine wc_seq ?_
    refine wc_text ?_
    refine w_move rfl rfl ?_
    refine w_move rfl rfl ?_
    first | refine w_len rfl rfl (len_lst u37) ?_ | refine w_len rfl rfl (len_slice u37) ?_ | refine w_lenO rfl u37 rfl rfl tk ?_
    refine w_lss u3 rfl rfl rfl ?_
    refine ws_nil ?_
    refine wc_cond rfl (fun h4 => ?_) (fun h4 => ?_)
    · first | replace h4 := of_decide_eq_true h4 | replace h4 := of_decide_eq_false h4 | replace h4 := of_decide_eq_false (nb_T h4) | replace h4 := of_decide_eq_true (nb_F h4) | replace h4 := nb_T h4 | replace h4 := nb_F h4 | skip
      first | replace h4 := Int.not_lt.mp h4 | replace h4 := Int.not_le.mp h4 | replace h4 := Decidable.not_not.mp h4 | skip
      refine wc_stay ?_
      refine wc_seq ?_
      refine wc_block ?_
      refine wc_seq ?_
      refine wc_free [0, 0, 3, 7, 0, 0, 48, 112, 255] (by kernel_rfl) (by kernel_rfl) (fun F => ?_)
      obtain ⟨x, hx⟩ := get_of_lt (l := l) (k := k) (by omega)
      obtain ⟨y, hy⟩ := get_of_lt (l := m) (k := k) (by omega)
      refine wr_float F 0 rfl (by kernel_rfl) (.inl (by kernel_rfl)) ?_
      refine w_move rfl rfl ?_
      refine ws_nil ?_
      refine wr_float F 1 rfl (by kernel_rfl) (.inl (by kernel_rfl)) ?_
      refine w_move rfl rfl ?_
      refine ws_nil ?_
      refine wr_float F 2 rfl (by kernel_rfl) (.inl (by kernel_rfl)) ?_
      first | refine w_lidx u37 s5 rfl rfl rfl (by omega) ?_ | refine w_slidx u37 s5 rfl rfl rfl (by omega) ?_
      refine ws_nil ?_
      refine wr_pure F 3 rfl (by kernel_rfl) rfl rfl (pf_ldC1 a5 rfl rdc) (.inl rfl) ?_
      refine wr_float F 4 rfl (by kernel_rfl) (.inl (by kernel_rfl)) ?_
      refine w_move rfl rfl ?_
      refine ws_nil ?_
      refine wr_float F 5 rfl (by kernel_rfl) (.inl (by kernel_rfl)) ?_
      refine w_move rfl rfl ?_
      refine ws_nil ?_
      refine wr_float F 6 rfl (by kernel_rfl) (.inl (by kernel_rfl)) ?_
      first | refine w_lidx u37 s5 rfl rfl rfl (by omega) ?_ | refine w_slidx u37 s5 rfl rfl rfl (by omega) ?_
      refine ws_nil ?_
      refine wr_pure F 7 rfl (by kernel_rfl) rfl rfl (pf_ldC1 a5 rfl rdc) (.inl rfl) ?_
      refine wr_float F 8 rfl (by kernel_rfl) (.inl (by kernel_rfl)) ?_
      refine w_neq u5 rfl rfl rfl ?_
      refine ws_nil ?_
      refine wr_end F (by kernel_rfl) ?_
      refine wc_cond rfl (fun h6 => ?_) (fun h6 => ?_)
      · replace h6 := of_decide_eq_true h6
        refine wc_seq ?_
        refine wc_text ?_
        refine w_assign rfl rfl ?_
        refine ws_nil ?_
        refine wc_ret ?_
        refine ⟨_, (.cons (.tmp rfl) .nil), ?_, rfl⟩
        congr 1; simp; rintro rfl; rw [hx] at hy; cases hy; exact h6 rfl
      · replace h6 := of_decide_eq_false h6
        refine wc_stay ?_
        refine wc_text ?_
        refine w_move rfl rfl ?_
        refine w_add u3 rfl rfl rfl (by omega) ?_
        refine w_assign rfl rfl ?_
        refine ws_nil ?_
        exact ⟨⟨k + 1, by omega, by rw [take_one hx, take_one hy, hs, byte_eq h6]⟩, by simp only; omega, (.cons rfl (.cons rfl (.cons rfl (.nil _)))), (Sel.weak .nil)⟩
    · first | replace h4 := of_decide_eq_true h4 | replace h4 := of_decide_eq_false h4 | replace h4 := of_decide_eq_false (nb_T h4) | replace h4 := of_decide_eq_true (nb_F h4) | replace h4 := nb_T h4 | replace h4 := nb_F h4 | skip
      first | replace h4 := Int.not_lt.mp h4 | replace h4 := Int.not_le.mp h4 | replace h4 := Decidable.not_not.mp h4 | skip
      refine wc_exit ?_
      refine wc_seq ?_
      refine wc_text ?_
      refine w_assign rfl rfl ?_
      refine ws_nil ?_
      refine wc_ret ?_
      refine ⟨_, (.cons (.tmp rfl) .nil), ?_, rfl⟩
      congr 1; simp
      have := hs
      rw [List.take_of_length_le (by omega), List.take_of_length_le (by omega)] at this; exact this

theorem runsD_fn : PFn C 7 [] (.bool true) := pfn_true (N := 1000) rfl (by kernel_rfl)
end Go.Proofs.Ytknpdigpendnjaa.dk
