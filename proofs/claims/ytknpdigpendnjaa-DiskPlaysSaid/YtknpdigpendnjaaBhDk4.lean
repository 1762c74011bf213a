/-
  Package disk, walked by facts (printed by gen_dk.py).
-/
import Derived.Test.YtknpdigpendnjaaBhDk2
import Derived.Test.YtknpdigpendnjaaBhDkP
namespace Go.Proofs.Ytknpdigpendnjaa.dk
open Go Go.Proofs Go.Proofs.Ytknpdigpendnjaa.BH Go.Proofs.Ytknpdigpendnjaa.BH.Dk
set_option maxRecDepth 100000
theorem concat2_pos (p : Nat) (va vb : AV) (A B : List UInt8) (hN : A.length + B.length < 1000000) (hp : 0 < A.length + B.length) (R : List HI) : CallW C 35 [.slice (some ⟨p, 0⟩) 2 (.exact 2)] ([.obj p (.row 37 1 false [va, vb]), .own va 5 1 (A.flatMap eB) A.length, .own vb 5 1 (B.flatMap eB) B.length] ++ R) fun v H => ∃ H', H = H' ++ R ∧ H' = [.own v 5 1 ((A ++ B).flatMap eB) (A ++ B).length, .obj p (.row 37 1 false [va, vb]), .own va 5 1 (A.flatMap eB) A.length, .own vb 5 1 (B.flatMap eB) B.length] := by
  refine cw_sharedA (fn := Try.f35) rfl rfl rfl rfl (K := fun v H' => H' = [.own v 5 1 ((A ++ B).flatMap eB) (A ++ B).length, .obj p (.row 37 1 false [va, vb]), .own va 5 1 (A.flatMap eB) A.length, .own vb 5 1 (B.flatMap eB) B.length]) ?_ R
  have hfl : [A, B].flatten.length = A.length + B.length := by simp
  refine wc_seq ?_
  refine wc_text ?_
  refine w_assign rfl rfl ?_
  refine ws_nil ?_
  refine wc_seq ?_
  refine wc_text ?_
  refine w_assign rfl rfl ?_
  refine ws_nil ?_
  refine wc_seq ?_
  refine wc_seq ?_
  refine wc_text ?_
  refine w_move rfl rfl ?_
  first | refine w_len rfl rfl (len_lst u51) ?_ | refine w_len rfl rfl (len_slice u51) ?_ | refine w_lenO rfl u51 rfl rfl tk ?_
  refine w_move rfl rfl ?_
  refine ws_nil ?_
  refine wc_block ?_
  refine wc_loop (σ := { k : Nat // k ≤ 2 }) (fun s => [(0, .slice (some ⟨p, 0⟩) 2 (.exact 2)), (3, .int .i64 (([A, B].take s.1).flatten.length : Nat)), (9, .slice (some ⟨p, 0⟩) 2 (.exact 2)), (10, .int .i64 (2 : Nat)), (11, .int .i64 (s.1 : Nat))]) (fun s => [.obj p (.row 37 1 false [va, vb]), .own va 5 1 (A.flatMap eB) A.length, .own vb 5 1 (B.flatMap eB) B.length]) (fun s => 2 - s.1) ?_ ⟨0, Nat.zero_le _⟩ (.cons rfl (.cons rfl (.cons rfl (.cons rfl (.cons rfl (.nil _)))))) (Sel.weak (.cons tk (.cons tk (.cons tk .nil))))
  rintro ⟨k, hk⟩
  dsimp only
  have hf0 := flat_take_le [A, B] k
  refine wc_seq ?_
  refine wc_text ?_
  refine w_lss u3 rfl rfl rfl ?_
  refine ws_nil ?_
  refine wc_seq ?_
  refine wc_cond rfl (fun h3 => ?_) (fun h3 => ?_)
  · replace h3 := of_decide_eq_true h3
    refine wc_stay ?_
    refine wc_seq ?_
    refine wc_block ?_
    refine wc_seq ?_
    refine wc_text ?_
    obtain ⟨vk, L, HR, hv, hx, tkk⟩ := two_parts (va := va) (vb := vb) (A := A) (B := B) (H1 := [.obj p (.row 37 1 false [va, vb])]) (R := []) (k := k) (by omega)
    have hf1 := flat_elem_le hx
    have hfs : (([A, B].take k).flatten.length : Int) + L.length = (([A, B].take (k + 1)).flatten.length : Nat) := by rw [flat_take hx, List.length_append]; omega
    first | refine w_lidx u51 s37 rfl rfl rfl (by omega) ?_ | refine w_slidx u51 s37 rfl rfl rfl (by omega) ?_
    refine w_ldP1 a37 rfl rfl tk (by simpa using hv) ?_
    refine w_assign rfl rfl ?_
    refine ws_nil ?_
    refine wc_seq ?_
    refine wc_text ?_
    refine w_move rfl rfl ?_
    refine w_move rfl rfl ?_
    refine w_lenO rfl u37 rfl rfl tkk ?_
    refine w_add u3 rfl rfl rfl (by omega) ?_
    refine w_assign rfl rfl ?_
    refine ws_nil ?_
    rw [hfs]
    refine wc_seq ?_
    refine wc_text ?_
    refine w_move rfl rfl ?_
    refine w_lss u3 rfl rfl rfl ?_
    refine ws_nil ?_
    refine wc_cond rfl (fun h6 => ?_) (fun h6 => ?_)
    · replace h6 := of_decide_eq_true h6
      exact absurd h6 (by omega)
    · skip
      refine wc_stay ?_
      refine wc_text ?_
      refine w_add u3 rfl rfl rfl (by omega) ?_
      refine w_move rfl rfl ?_
      refine ws_nil ?_
      exact ⟨⟨k + 1, by omega⟩, by simp only; omega, (.cons rfl (.cons rfl (.cons rfl (.cons rfl (.cons rfl (.nil _)))))), (Sel.weak (.cons tk (.cons tk (.cons tk .nil))))⟩
  · replace h3 := of_decide_eq_false h3
    have hk1 : k = 2 := by omega
    subst hk1
    rw [show [A, B].take 2 = [A, B] from rfl]
    refine wc_exit ?_
    refine wc_seq ?_
    refine wc_text ?_
    refine w_move rfl rfl ?_
    refine w_call rfl rfl (CallW.mono (grow_pos _ (by omega) (by omega) _) ?_)
    rintro _ _ ⟨_, rfl, o24, rfl, rfl⟩
    try simp only [List.cons_append, List.nil_append]
    refine w_assign rfl rfl ?_
    refine ws_nil ?_
    refine wc_seq ?_
    refine wc_seq ?_
    refine wc_text ?_
    refine w_move rfl rfl ?_
    first | refine w_len rfl rfl (len_lst u51) ?_ | refine w_len rfl rfl (len_slice u51) ?_ | refine w_lenO rfl u51 rfl rfl tk ?_
    refine w_move rfl rfl ?_
    refine ws_nil ?_
    refine wc_block ?_
    refine wc_loop (σ := { j : Nat // j ≤ 2 }) (fun s => [(6, .slice (some ⟨o24, 0⟩) (([A, B].take s.1).flatten.length) (.op 0)), (25, .slice (some ⟨p, 0⟩) 2 (.exact 2)), (26, .int .i64 (2 : Nat)), (27, .int .i64 (s.1 : Nat))]) (fun s => [.obj o24 (.row 5 1 false ((padB ([A, B].take s.1).flatten [A, B].flatten.length).flatMap eB)), .obj p (.row 37 1 false [va, vb]), .own va 5 1 (A.flatMap eB) A.length, .own vb 5 1 (B.flatMap eB) B.length]) (fun s => 2 - s.1) ?_ ⟨0, Nat.zero_le _⟩ (.cons rfl (.cons rfl (.cons rfl (.cons rfl (.nil _))))) (Sel.weak (.cons tk (.cons tk (.cons tk (.cons tk .nil)))))
    rintro ⟨j, hj⟩
    dsimp only
    refine wc_seq ?_
    refine wc_text ?_
    refine w_lss u3 rfl rfl rfl ?_
    refine ws_nil ?_
    refine wc_seq ?_
    refine wc_cond rfl (fun h11 => ?_) (fun h11 => ?_)
    · first | replace h11 := of_decide_eq_true h11 | replace h11 := of_decide_eq_false h11 | replace h11 := of_decide_eq_false (nb_T h11) | replace h11 := of_decide_eq_true (nb_F h11) | replace h11 := nb_T h11 | replace h11 := nb_F h11 | skip
      first | replace h11 := Int.not_lt.mp h11 | replace h11 := Int.not_le.mp h11 | replace h11 := Decidable.not_not.mp h11 | skip
      refine wc_stay ?_
      refine wc_seq ?_
      refine wc_block ?_
      refine wc_seq ?_
      refine wc_text ?_
      obtain ⟨vk, L, HR, hv, hx, tkk⟩ := two_parts (va := va) (vb := vb) (A := A) (B := B) (H1 := [.obj o24 (.row 5 1 false ((padB ([A, B].take j).flatten [A, B].flatten.length).flatMap eB)), .obj p (.row 37 1 false [va, vb])]) (R := []) (k := j) (by omega)
      have hf1 := flat_elem_le hx
      have hfs : (([A, B].take j).flatten.length : Int) + L.length = (([A, B].take (j + 1)).flatten.length : Nat) := by rw [flat_take hx, List.length_append]; omega
      first | refine w_lidx u51 s37 rfl rfl rfl (by omega) ?_ | refine w_slidx u51 s37 rfl rfl rfl (by omega) ?_
      refine w_ldP1 a37 rfl rfl tk (by simpa using hv) ?_
      refine w_assign rfl rfl ?_
      refine ws_nil ?_
      refine wc_text ?_
      refine w_move rfl rfl ?_
      refine w_move rfl rfl ?_
      refine w_appIn rfl u37 s5 b5 z5 u37 (by simp) rfl rfl rfl tk (new_own tkk (flat_length eB_len _) (flat_scalar byte_scalar _)) (by rw [flat_length eB_len, padB_len (by omega)]; omega) (padB_over (by omega)) ?_
      refine w_assign rfl rfl ?_
      refine ws_nil ?_
      rw [show ([A, B].take j).flatten.length + L.length = ([A, B].take (j + 1)).flatten.length by omega, ← flat_take hx]
      refine wc_text ?_
      refine w_add u3 rfl rfl rfl (by omega) ?_
      refine w_move rfl rfl ?_
      refine ws_nil ?_
      exact ⟨⟨j + 1, by omega⟩, by simp only; omega, (.cons rfl (.cons rfl (.cons rfl (.cons rfl (.nil _))))), (Sel.weak (.cons tk (.cons tk (.cons tk (.cons tk .nil)))))⟩
    · first | replace h11 := of_decide_eq_true h11 | replace h11 := of_decide_eq_false h11 | replace h11 := of_decide_eq_false (nb_T h11) | replace h11 := of_decide_eq_true (nb_F h11) | replace h11 := nb_T h11 | replace h11 := nb_F h11 | skip
      first | replace h11 := Int.not_lt.mp h11 | replace h11 := Int.not_le.mp h11 | replace h11 := Decidable.not_not.mp h11 | skip
      refine wc_exit ?_
      refine wc_seq ?_
      refine wc_text ?_
      refine w_move rfl rfl ?_
      refine w_assign rfl rfl ?_
      refine ws_nil ?_
      have hj1 : j = 2 := by omega
      subst hj1
      rw [show [A, B].take 2 = [A, B] from rfl]
      refine WC.recell ((A ++ B).flatMap eB) tk (by rw [padB_full rfl]; simp) ?_
      rw [show [A, B].flatten.length = (A ++ B).length by simp]
      refine WC.closeOwn (e := 5) (s := 1) (m := (A ++ B).length) tk (flat_length (by intro _; rfl) _) ?_
      refine wc_ret ?_
      refine ⟨_, _, (.cons (.tmp rfl) .nil), (Sel.weak (.cons tk (.cons tk (.cons tk (.cons tk .nil))))), ?_⟩
      rfl

theorem concat2_zero (p : Nat) (va vb : AV) (A B : List UInt8) (hN : A.length + B.length < 1000000) (hz : [A, B].flatten = []) (R : List HI) : CallW C 35 [.slice (some ⟨p, 0⟩) 2 (.exact 2)] ([.obj p (.row 37 1 false [va, vb]), .own va 5 1 (A.flatMap eB) A.length, .own vb 5 1 (B.flatMap eB) B.length] ++ R) fun v H => ∃ H', H = H' ++ R ∧ H' = [.own v 5 1 ((A ++ B).flatMap eB) (A ++ B).length, .obj p (.row 37 1 false [va, vb]), .own va 5 1 (A.flatMap eB) A.length, .own vb 5 1 (B.flatMap eB) B.length] := by
  refine cw_sharedA (fn := Try.f35) rfl rfl rfl rfl (K := fun v H' => H' = [.own v 5 1 ((A ++ B).flatMap eB) (A ++ B).length, .obj p (.row 37 1 false [va, vb]), .own va 5 1 (A.flatMap eB) A.length, .own vb 5 1 (B.flatMap eB) B.length]) ?_ R
  have hfl : [A, B].flatten.length = A.length + B.length := by simp
  refine wc_seq ?_
  refine wc_text ?_
  refine w_assign rfl rfl ?_
  refine ws_nil ?_
  refine wc_seq ?_
  refine wc_text ?_
  refine w_assign rfl rfl ?_
  refine ws_nil ?_
  refine wc_seq ?_
  refine wc_seq ?_
  refine wc_text ?_
  refine w_move rfl rfl ?_
  first | refine w_len rfl rfl (len_lst u51) ?_ | refine w_len rfl rfl (len_slice u51) ?_ | refine w_lenO rfl u51 rfl rfl tk ?_
  refine w_move rfl rfl ?_
  refine ws_nil ?_
  refine wc_block ?_
  refine wc_loop (σ := { k : Nat // k ≤ 2 }) (fun s => [(0, .slice (some ⟨p, 0⟩) 2 (.exact 2)), (3, .int .i64 (([A, B].take s.1).flatten.length : Nat)), (9, .slice (some ⟨p, 0⟩) 2 (.exact 2)), (10, .int .i64 (2 : Nat)), (11, .int .i64 (s.1 : Nat))]) (fun s => [.obj p (.row 37 1 false [va, vb]), .own va 5 1 (A.flatMap eB) A.length, .own vb 5 1 (B.flatMap eB) B.length]) (fun s => 2 - s.1) ?_ ⟨0, Nat.zero_le _⟩ (.cons rfl (.cons rfl (.cons rfl (.cons rfl (.cons rfl (.nil _)))))) (Sel.weak (.cons tk (.cons tk (.cons tk .nil))))
  rintro ⟨k, hk⟩
  dsimp only
  have hf0 := flat_take_le [A, B] k
  refine wc_seq ?_
  refine wc_text ?_
  refine w_lss u3 rfl rfl rfl ?_
  refine ws_nil ?_
  refine wc_seq ?_
  refine wc_cond rfl (fun h3 => ?_) (fun h3 => ?_)
  · replace h3 := of_decide_eq_true h3
    refine wc_stay ?_
    refine wc_seq ?_
    refine wc_block ?_
    refine wc_seq ?_
    refine wc_text ?_
    obtain ⟨vk, L, HR, hv, hx, tkk⟩ := two_parts (va := va) (vb := vb) (A := A) (B := B) (H1 := [.obj p (.row 37 1 false [va, vb])]) (R := []) (k := k) (by omega)
    have hf1 := flat_elem_le hx
    have hfs : (([A, B].take k).flatten.length : Int) + L.length = (([A, B].take (k + 1)).flatten.length : Nat) := by rw [flat_take hx, List.length_append]; omega
    first | refine w_lidx u51 s37 rfl rfl rfl (by omega) ?_ | refine w_slidx u51 s37 rfl rfl rfl (by omega) ?_
    refine w_ldP1 a37 rfl rfl tk (by simpa using hv) ?_
    refine w_assign rfl rfl ?_
    refine ws_nil ?_
    refine wc_seq ?_
    refine wc_text ?_
    refine w_move rfl rfl ?_
    refine w_move rfl rfl ?_
    refine w_lenO rfl u37 rfl rfl tkk ?_
    refine w_add u3 rfl rfl rfl (by omega) ?_
    refine w_assign rfl rfl ?_
    refine ws_nil ?_
    rw [hfs]
    refine wc_seq ?_
    refine wc_text ?_
    refine w_move rfl rfl ?_
    refine w_lss u3 rfl rfl rfl ?_
    refine ws_nil ?_
    refine wc_cond rfl (fun h6 => ?_) (fun h6 => ?_)
    · replace h6 := of_decide_eq_true h6
      exact absurd h6 (by omega)
    · skip
      refine wc_stay ?_
      refine wc_text ?_
      refine w_add u3 rfl rfl rfl (by omega) ?_
      refine w_move rfl rfl ?_
      refine ws_nil ?_
      exact ⟨⟨k + 1, by omega⟩, by simp only; omega, (.cons rfl (.cons rfl (.cons rfl (.cons rfl (.cons rfl (.nil _)))))), (Sel.weak (.cons tk (.cons tk (.cons tk .nil))))⟩
  · replace h3 := of_decide_eq_false h3
    have hk1 : k = 2 := by omega
    subst hk1
    rw [show [A, B].take 2 = [A, B] from rfl]
    refine wc_exit ?_
    refine wc_seq ?_
    refine wc_text ?_
    rw [hz]
    refine w_move rfl rfl ?_
    refine w_call rfl rfl (CallW.mono (grow_zero _) ?_)
    rintro _ _ ⟨_, rfl, rfl, rfl⟩
    try simp only [List.cons_append, List.nil_append]
    refine w_assign rfl rfl ?_
    refine ws_nil ?_
    refine WC.ownNil 5 1 ?_
    refine wc_seq ?_
    refine wc_seq ?_
    refine wc_text ?_
    refine w_move rfl rfl ?_
    first | refine w_len rfl rfl (len_lst u51) ?_ | refine w_len rfl rfl (len_slice u51) ?_ | refine w_lenO rfl u51 rfl rfl tk ?_
    refine w_move rfl rfl ?_
    refine ws_nil ?_
    refine wc_block ?_
    refine wc_loop (σ := { p : Nat × AV // p.1 ≤ 2 }) (fun s => [(6, s.1.2), (25, .slice (some ⟨p, 0⟩) 2 (.exact 2)), (26, .int .i64 (2 : Nat)), (27, .int .i64 (s.1.1 : Nat))]) (fun s => [.own s.1.2 5 1 [] 0, .obj p (.row 37 1 false [va, vb]), .own va 5 1 (A.flatMap eB) A.length, .own vb 5 1 (B.flatMap eB) B.length]) (fun s => 2 - s.1.1) ?_ ⟨(0, nilSlice), Nat.zero_le _⟩ (.cons rfl (.cons rfl (.cons rfl (.cons rfl (.nil _))))) (Sel.weak (.cons tk (.cons tk (.cons tk (.cons tk .nil)))))
    rintro ⟨⟨j, v⟩, hj⟩
    dsimp only
    simp only at hj
    refine wc_seq ?_
    refine wc_text ?_
    refine w_lss u3 rfl rfl rfl ?_
    refine ws_nil ?_
    refine wc_seq ?_
    refine wc_cond rfl (fun h11 => ?_) (fun h11 => ?_)
    · first | replace h11 := of_decide_eq_true h11 | replace h11 := of_decide_eq_false h11 | replace h11 := of_decide_eq_false (nb_T h11) | replace h11 := of_decide_eq_true (nb_F h11) | replace h11 := nb_T h11 | replace h11 := nb_F h11 | skip
      first | replace h11 := Int.not_lt.mp h11 | replace h11 := Int.not_le.mp h11 | replace h11 := Decidable.not_not.mp h11 | skip
      refine wc_stay ?_
      refine wc_seq ?_
      refine wc_block ?_
      refine wc_seq ?_
      refine wc_text ?_
      obtain ⟨vk, L, HR, hv, hx, tkk⟩ := two_parts (va := va) (vb := vb) (A := A) (B := B) (H1 := [.own v 5 1 [] 0, .obj p (.row 37 1 false [va, vb])]) (R := []) (k := j) (by omega)
      have hf1 := flat_elem_le hx
      have hfs : (([A, B].take j).flatten.length : Int) + L.length = (([A, B].take (j + 1)).flatten.length : Nat) := by rw [flat_take hx, List.length_append]; omega
      first | refine w_lidx u51 s37 rfl rfl rfl (by omega) ?_ | refine w_slidx u51 s37 rfl rfl rfl (by omega) ?_
      refine w_ldP1 a37 rfl rfl tk (by simpa using hv) ?_
      refine w_assign rfl rfl ?_
      refine ws_nil ?_
      refine wc_text ?_
      refine w_move rfl rfl ?_
      refine w_move rfl rfl ?_
      have hL := flat_zero hz hx
      subst hL
      refine w_appO (enc := eB) (l := []) (m := []) rfl u37 s5 b5 z5 u37 (by simp) rfl rfl rfl .head (new_own tkk rfl rfl) (by decide) (by decide) (fun v33 => ?_)
      refine w_assign rfl rfl ?_
      refine ws_nil ?_
      refine wc_text ?_
      refine w_add u3 rfl rfl rfl (by omega) ?_
      refine w_move rfl rfl ?_
      refine ws_nil ?_
      exact ⟨⟨(j + 1, _), (by omega : j + 1 ≤ 2)⟩, by simp only; omega, (.cons rfl (.cons rfl (.cons rfl (.cons rfl (.nil _))))), (Sel.weak (.cons tk (.cons tk (.cons tk (.cons tk .nil)))))⟩
    · first | replace h11 := of_decide_eq_true h11 | replace h11 := of_decide_eq_false h11 | replace h11 := of_decide_eq_false (nb_T h11) | replace h11 := of_decide_eq_true (nb_F h11) | replace h11 := nb_T h11 | replace h11 := nb_F h11 | skip
      first | replace h11 := Int.not_lt.mp h11 | replace h11 := Int.not_le.mp h11 | replace h11 := Decidable.not_not.mp h11 | skip
      refine wc_exit ?_
      refine wc_seq ?_
      refine wc_text ?_
      refine w_move rfl rfl ?_
      refine w_assign rfl rfl ?_
      refine ws_nil ?_
      have hab : A ++ B = [] := by simpa using hz
      refine WC.reown ((A ++ B).flatMap eB) (A ++ B).length .head (by rw [hab]; rfl) (by rw [hab]; rfl) ?_
      refine wc_ret ?_
      refine ⟨_, _, (.cons (.tmp rfl) .nil), (Sel.weak (.cons tk (.cons tk (.cons tk (.cons tk .nil))))), ?_⟩
      rfl

theorem concat2_cw (p : Nat) (va vb : AV) (A B : List UInt8) (hN : A.length + B.length < 1000000) (R : List HI) : CallW C 35 [.slice (some ⟨p, 0⟩) 2 (.exact 2)] ([.obj p (.row 37 1 false [va, vb]), .own va 5 1 (A.flatMap eB) A.length, .own vb 5 1 (B.flatMap eB) B.length] ++ R) fun v H => v = AL eB (A ++ B) ∧ H = [.obj p (.row 37 1 false [va, vb]), .own va 5 1 (A.flatMap eB) A.length, .own vb 5 1 (B.flatMap eB) B.length] ++ R := by
  have key : CallW C 35 [.slice (some ⟨p, 0⟩) 2 (.exact 2)] ([.obj p (.row 37 1 false [va, vb]), .own va 5 1 (A.flatMap eB) A.length, .own vb 5 1 (B.flatMap eB) B.length] ++ R) fun v H => H = .own v 5 1 ((A ++ B).flatMap eB) (A ++ B).length :: ([.obj p (.row 37 1 false [va, vb]), .own va 5 1 (A.flatMap eB) A.length, .own vb 5 1 (B.flatMap eB) B.length] ++ R) := by
    by_cases hz : [A, B].flatten = []
    · exact CallW.mono (concat2_zero p va vb A B hN hz R) fun v H ⟨H', h1, h2⟩ => by rw [h1, h2]; rfl
    · exact CallW.mono (concat2_pos p va vb A B hN (by have := List.length_pos_iff.mpr hz; simpa using this) R) fun v H ⟨H', h1, h2⟩ => by rw [h1, h2]; rfl
  exact CallW.frz key fun v H h => by subst h; exact ⟨_, _, .ownK rfl .head (flat_done byte_done _), rfl, rfl, rfl⟩
theorem write_two (o : Nat) (s : St) (k : Ok s) (p : Nat) (va vb : AV) (A B : List UInt8) (hN : A.length + B.length < 1000000) (R : List HI) : CallW C 24 [.ptr (some ⟨o, 0⟩), .slice (some ⟨p, 0⟩) 2 (.exact 2)] (.obj o (.row 67 6 false (DK s)) :: ([.obj p (.row 37 1 false [va, vb]), .own va 5 1 (A.flatMap eB) A.length, .own vb 5 1 (B.flatMap eB) B.length] ++ R)) fun v H => v = .int .i64 (writeV s (A ++ B)) ∧ H = .obj o (.row 67 6 false (DK (writeS s (A ++ B)))) :: ([.obj p (.row 37 1 false [va, vb]), .own va 5 1 (A.flatMap eB) A.length, .own vb 5 1 (B.flatMap eB) B.length] ++ R) :=
  CallW.mono (write_any o s k (.slice (some ⟨p, 0⟩) 2 (.exact 2)) [.obj p (.row 37 1 false [va, vb]), .own va 5 1 (A.flatMap eB) A.length, .own vb 5 1 (B.flatMap eB) B.length] (A ++ B) (by rw [List.length_append]; exact hN) (concat2_cw p va vb A B hN) R) fun v H ⟨H', h1, h2, h3⟩ => ⟨h2, by rw [h1, h3]; rfl⟩
end Go.Proofs.Ytknpdigpendnjaa.dk
