/-
  The program walked by facts (printed by kx.py).
-/
import Derived.Test.YtlgofplbbmjdjaaGreatDoorKx6zBase
import Derived.Test.YtlgofplbbmjdjaaGreatDoorKx6zLset
import Derived.Test.YtlgofplbbmjdjaaGreatDoorBhSortI
import Derived.Test.YtlgofplbbmjdjaaGreatDoorKx6zW
namespace Go.Proofs.YtlgofplbbmjdjaaGreatDoor.kx
open Go Go.Proofs Go.Proofs.YtlgofplbbmjdjaaGreatDoor.BH
open Go.Proofs.YtlgofplbbmjdjaaGreatDoor.BH.Rt
open Go.Proofs.YtlgofplbbmjdjaaGreatDoor.BH.Dk (withinV withinV_in)
open Go.Proofs.YtlgofplbbmjdjaaGreatDoor.BH.Kx
set_option maxRecDepth 100000
theorem upto_fn (o : Nat) (l : List SM) (t : Int) (hl : l.length ≤ 1000000) (R : List HI) : CallW C 88 [.ptr (some ⟨o, 0⟩), .int .i64 t] ([.obj o (.row 108 1 false [AL eSm l])] ++ R) fun v H => ∃ H', H = H' ++ R ∧ (v = .int .i64 (uptoV l t : Nat) ∧ H' = [.obj o (.row 108 1 false [AL eSm l])]) := by
 refine cw_sharedA (fn := Tryz.f88) rfl rfl rfl rfl (K := fun v H' => (v = .int .i64 (uptoV l t : Nat) ∧ H' = [.obj o (.row 108 1 false [AL eSm l])])) ?_ R
 refine wc_seq ?_
 refine wc_text ?_
 refine w_assign rfl rfl ?_
 refine ws_nil ?_
 refine wc_seq ?_
 refine wc_text ?_
 refine w_assign rfl rfl ?_
 refine ws_nil ?_
 refine wc_seq ?_
 refine wc_block ?_
 refine wc_loop (σ := { k : Nat // k ≤ l.length ∧ (l.take k).all (fun x => decide (x.time ≤ t)) = true }) (fun u => [(0, .ptr (some ⟨o, 0⟩)), (1, .int .i64 t), (5, .int .i64 (u.1 : Nat))]) (fun u => [.obj o (.row 108 1 false [AL eSm l])]) (fun u => l.length - u.1) ?_ ⟨0, Nat.zero_le _, rfl⟩ (.cons rfl (.cons rfl (.cons rfl (.nil _)))) (Sel.weak (.cons tk .nil))
 rintro ⟨k, hk, hs⟩
 try dsimp only
 refine wc_seq ?_
 refine wc_seq ?_
 refine wc_text ?_
 refine w_move rfl rfl ?_
 refine w_move rfl rfl ?_
 refine w_nil rfl rfl rfl ?_
 first | refine w_faddrC O108_0 rfl rfl ?_ | refine w_faddrP O108_0 rfl rfl ?_
 first | refine w_ldC1 a52 rfl rfl rdc ?_ | refine w_ldP1 a52 rfl rfl tk rdp ?_
 first | refine w_len rfl rfl (len_lst u52) ?_ | refine w_len rfl rfl (len_slice u52) ?_ | refine w_lenO rfl u52 rfl rfl tk ?_
 refine w_lss u3 rfl rfl rfl ?_
 refine w_move rfl rfl ?_
 refine ws_split (t := 13) rfl (fun g13 => ?_) (fun g13 => ?_)
 ·first | replace g13 := dT g13 | replace g13 := dF g13 | replace g13 := dFT g13 | replace g13 := dTF g13 | replace g13 := nb_T g13 | replace g13 := nb_F g13 | skip
  first | replace g13 := nL g13 | replace g13 := nM g13 | replace g13 := nN g13 | skip
  obtain ⟨x, hx⟩ := get_of_lt (l := l) (k := k) (by omega)
  refine ws_on rfl rfl ?_
  refine w_move rfl rfl ?_
  refine ws_on rfl rfl ?_
  refine w_nil rfl rfl rfl ?_
  refine ws_on rfl rfl ?_
  first | refine w_faddrC O108_0 rfl rfl ?_ | refine w_faddrP O108_0 rfl rfl ?_
  refine ws_on rfl rfl ?_
  first | refine w_ldC1 a52 rfl rfl rdc ?_ | refine w_ldP1 a52 rfl rfl tk rdp ?_
  refine ws_on rfl rfl ?_
  refine w_move rfl rfl ?_
  refine ws_on rfl rfl ?_
  first | refine w_lidx u52 s46 rfl rfl rfl (by omega) ?_ | refine w_slidx u52 s46 rfl rfl rfl (by omega) ?_
  refine ws_on rfl rfl ?_
  first | refine w_faddrC O46_0 rfl rfl ?_ | refine w_faddrP O46_0 rfl rfl ?_
  refine ws_on rfl rfl ?_
  first | refine w_ldC1 a3 rfl rfl rdc ?_ | refine w_ldP1 a3 rfl rfl tk rdp ?_
  refine ws_on rfl rfl ?_
  refine w_move rfl rfl ?_
  refine ws_on rfl rfl ?_
  refine w_leq u3 rfl rfl rfl ?_
  first | refine w_pickT rfl rfl rfl ⟨_, rfl⟩ ?_ | refine w_pickF rfl rfl ⟨_, rfl⟩ rfl ?_ | refine w_pick rfl rfl rfl rfl ?_
  refine ws_nil ?_
  refine wc_cond rfl (fun h2 => ?_) (fun h2 => ?_)
  ·first | replace h2 := dT h2 | replace h2 := dF h2 | replace h2 := dFT h2 | replace h2 := dTF h2 | replace h2 := nb_T h2 | replace h2 := nb_F h2 | skip
   first | replace h2 := nL h2 | replace h2 := nM h2 | replace h2 := nN h2 | skip
   refine wc_stay ?_
   refine wc_block ?_
   refine wc_text ?_
   refine w_move rfl rfl ?_
   refine w_add u3 rfl rfl rfl (by omega) ?_
   refine w_assign rfl rfl ?_
   refine ws_nil ?_
   exact ⟨⟨k + 1, by omega, all_take hx hs (decide_eq_true h2)⟩, by simp only; omega, (.cons rfl (.cons rfl (.cons rfl (.nil _)))), (Sel.weak (.cons tk .nil))⟩
  ·first | replace h2 := dT h2 | replace h2 := dF h2 | replace h2 := dFT h2 | replace h2 := dTF h2 | replace h2 := nb_T h2 | replace h2 := nb_F h2 | skip
   first | replace h2 := nL h2 | replace h2 := nM h2 | replace h2 := nN h2 | skip
   refine wc_exit ?_
   refine wc_seq ?_
   refine wc_text ?_
   refine w_move rfl rfl ?_
   refine w_assign rfl rfl ?_
   refine ws_nil ?_
   refine wc_ret ?_
   refine ⟨_, [.obj o (.row 108 1 false [AL eSm l])], (.cons (.tmp rfl) .nil), (Sel.weak (.cons tk .nil)), ?_⟩
   first | (rw [upto_stop hx hs (by omega)]; exact ⟨rfl, rfl⟩) | (rw [upto_end (by omega) hs, show l.length = k by omega]; exact ⟨rfl, rfl⟩)
 ·first | replace g13 := dT g13 | replace g13 := dF g13 | replace g13 := dFT g13 | replace g13 := dTF g13 | replace g13 := nb_T g13 | replace g13 := nb_F g13 | skip
  first | replace g13 := nL g13 | replace g13 := nM g13 | replace g13 := nN g13 | skip
  refine ws_off rfl rfl rfl rfl ?_
  refine ws_off rfl rfl rfl rfl ?_
  refine ws_off rfl rfl rfl rfl ?_
  refine ws_off rfl rfl rfl rfl ?_
  refine ws_off rfl rfl rfl rfl ?_
  refine ws_off rfl rfl rfl rfl ?_
  refine ws_off rfl rfl rfl rfl ?_
  refine ws_off rfl rfl rfl rfl ?_
  refine ws_off rfl rfl rfl rfl ?_
  refine ws_off rfl rfl rfl rfl ?_
  first | refine w_pickT rfl rfl rfl ⟨_, rfl⟩ ?_ | refine w_pickF rfl rfl ⟨_, rfl⟩ rfl ?_ | refine w_pick rfl rfl rfl rfl ?_
  refine ws_nil ?_
  refine wc_condF rfl ?_
  refine wc_exit ?_
  refine wc_seq ?_
  refine wc_text ?_
  refine w_move rfl rfl ?_
  refine w_assign rfl rfl ?_
  refine ws_nil ?_
  refine wc_ret ?_
  refine ⟨_, [.obj o (.row 108 1 false [AL eSm l])], (.cons (.tmp rfl) .nil), (Sel.weak (.cons tk .nil)), ?_⟩
  first | (rw [upto_stop hx hs (by omega)]; exact ⟨rfl, rfl⟩) | (rw [upto_end (by omega) hs, show l.length = k by omega]; exact ⟨rfl, rfl⟩)

theorem at_fn (o : Nat) (l : List SM) (t look : Int) (hl : l.length ≤ 1000000) (ht : -4611686018427387904 ≤ t ∧ t ≤ 4611686018427387903) (hk : -4611686018427387904 ≤ look ∧ look ≤ 4611686018427387903) (R : List HI) : CallW C 51 [.ptr (some ⟨o, 0⟩), .int .i64 t, .int .i64 look] ([.obj o (.row 108 1 false [AL eSm l])] ++ R) fun v H => ∃ H', H = H' ++ R ∧ (v = .tuple [.int .i64 (atV l t look).1, .bool (atV l t look).2] ∧ H' = [.obj o (.row 108 1 false [AL eSm l])]) := by
 refine cw_sharedA (fn := Tryz.f51) rfl rfl rfl rfl (K := fun v H' => (v = .tuple [.int .i64 (atV l t look).1, .bool (atV l t look).2] ∧ H' = [.obj o (.row 108 1 false [AL eSm l])])) ?_ R
 have hu := upto_le l t
 refine wc_seq ?_
 refine wc_text ?_
 refine w_assign rfl rfl ?_
 refine w_assign rfl rfl ?_
 refine ws_nil ?_
 refine wc_seq ?_
 refine wc_text ?_
 refine w_move rfl rfl ?_
 refine w_move rfl rfl ?_
 refine w_call rfl rfl (CallW.mono (upto_fn o l t (by first | assumption | omega) _) ?_)
 rintro _ _ ⟨_, rfl, rfl, rfl⟩
 try simp only [List.cons_append, List.nil_append]
 refine w_assign rfl rfl ?_
 refine ws_nil ?_
 refine wc_seq ?_
 refine wc_seq ?_
 refine wc_text ?_
 refine w_move rfl rfl ?_
 refine w_eql u3 rfl rfl rfl ?_
 refine w_move rfl rfl ?_
 refine ws_split (t := 14) rfl (fun g14 => ?_) (fun g14 => ?_)
 ·first | replace g14 := dT g14 | replace g14 := dF g14 | replace g14 := dFT g14 | replace g14 := dTF g14 | replace g14 := nb_T g14 | replace g14 := nb_F g14 | skip
  first | replace g14 := nL g14 | replace g14 := nM g14 | replace g14 := nN g14 | skip
  refine ws_off rfl rfl rfl rfl ?_
  refine ws_off rfl rfl rfl rfl ?_
  refine ws_off rfl rfl rfl rfl ?_
  refine ws_off rfl rfl rfl rfl ?_
  refine ws_off rfl rfl rfl rfl ?_
  refine ws_off rfl rfl rfl rfl ?_
  refine ws_off rfl rfl rfl rfl ?_
  refine ws_off rfl rfl rfl rfl ?_
  refine ws_off rfl rfl rfl rfl ?_
  refine ws_off rfl rfl rfl rfl ?_
  refine ws_off rfl rfl rfl rfl ?_
  refine ws_off rfl rfl rfl rfl ?_
  refine ws_off rfl rfl rfl rfl ?_
  first | refine w_pickT rfl rfl rfl ⟨_, rfl⟩ ?_ | refine w_pickF rfl rfl ⟨_, rfl⟩ rfl ?_ | refine w_pick rfl rfl rfl rfl ?_
  refine ws_nil ?_
  refine wc_condT rfl ?_
  refine wc_seq ?_
  refine wc_text ?_
  refine w_assign rfl rfl ?_
  refine w_assign rfl rfl ?_
  refine ws_nil ?_
  refine wc_ret ?_
  refine ⟨_, [.obj o (.row 108 1 false [AL eSm l])], (.cons (.tmp rfl) (.cons (.tmp rfl) .nil)), (Sel.weak (.cons tk .nil)), ?_⟩
  first | (rw [at_zero (by omega)]; exact ⟨rfl, rfl⟩) | (rw [at_old (by omega) hx (by omega)]; exact ⟨rfl, rfl⟩) | (rw [at_some (by omega) hx (by omega)]; exact ⟨rfl, rfl⟩)
 ·first | replace g14 := dT g14 | replace g14 := dF g14 | replace g14 := dFT g14 | replace g14 := dTF g14 | replace g14 := nb_T g14 | replace g14 := nb_F g14 | skip
  first | replace g14 := nL g14 | replace g14 := nM g14 | replace g14 := nN g14 | skip
  obtain ⟨x, hx⟩ := get_of_lt (l := l) (k := uptoV l t - 1) (by omega)
  refine ws_on rfl rfl ?_
  refine w_move rfl rfl ?_
  refine ws_on rfl rfl ?_
  refine w_nil rfl rfl rfl ?_
  refine ws_on rfl rfl ?_
  first | refine w_faddrC O108_0 rfl rfl ?_ | refine w_faddrP O108_0 rfl rfl ?_
  refine ws_on rfl rfl ?_
  first | refine w_ldC1 a52 rfl rfl rdc ?_ | refine w_ldP1 a52 rfl rfl tk rdp ?_
  refine ws_on rfl rfl ?_
  refine w_move rfl rfl ?_
  refine ws_on rfl rfl ?_
  refine w_sub u3 rfl rfl rfl (by omega) ?_
  refine ws_on rfl rfl ?_
  first | refine w_lidx u52 s46 rfl rfl rfl (by omega) ?_ | refine w_slidx u52 s46 rfl rfl rfl (by omega) ?_
  refine ws_on rfl rfl ?_
  first | refine w_faddrC O46_0 rfl rfl ?_ | refine w_faddrP O46_0 rfl rfl ?_
  refine ws_on rfl rfl ?_
  first | refine w_ldC1 a3 rfl rfl rdc ?_ | refine w_ldP1 a3 rfl rfl tk rdp ?_
  refine ws_on rfl rfl ?_
  refine w_move rfl rfl ?_
  refine ws_on rfl rfl ?_
  refine w_move rfl rfl ?_
  refine ws_on rfl rfl ?_
  refine w_sub u3 rfl rfl rfl (by omega) ?_
  refine ws_on rfl rfl ?_
  refine w_leq u3 rfl rfl rfl ?_
  first | refine w_pickT rfl rfl rfl ⟨_, rfl⟩ ?_ | refine w_pickF rfl rfl ⟨_, rfl⟩ rfl ?_ | refine w_pick rfl rfl rfl rfl ?_
  refine ws_nil ?_
  refine wc_cond rfl (fun h2 => ?_) (fun h2 => ?_)
  ·first | replace h2 := dT h2 | replace h2 := dF h2 | replace h2 := dFT h2 | replace h2 := dTF h2 | replace h2 := nb_T h2 | replace h2 := nb_F h2 | skip
   first | replace h2 := nL h2 | replace h2 := nM h2 | replace h2 := nN h2 | skip
   refine wc_seq ?_
   refine wc_text ?_
   refine w_assign rfl rfl ?_
   refine w_assign rfl rfl ?_
   refine ws_nil ?_
   refine wc_ret ?_
   refine ⟨_, [.obj o (.row 108 1 false [AL eSm l])], (.cons (.tmp rfl) (.cons (.tmp rfl) .nil)), (Sel.weak (.cons tk .nil)), ?_⟩
   first | (rw [at_zero (by omega)]; exact ⟨rfl, rfl⟩) | (rw [at_old (by omega) hx (by omega)]; exact ⟨rfl, rfl⟩) | (rw [at_some (by omega) hx (by omega)]; exact ⟨rfl, rfl⟩)
  ·first | replace h2 := dT h2 | replace h2 := dF h2 | replace h2 := dFT h2 | replace h2 := dTF h2 | replace h2 := nb_T h2 | replace h2 := nb_F h2 | skip
   first | replace h2 := nL h2 | replace h2 := nM h2 | replace h2 := nN h2 | skip
   refine wc_stay ?_
   refine wc_seq ?_
   refine wc_text ?_
   refine w_move rfl rfl ?_
   refine w_nil rfl rfl rfl ?_
   first | refine w_faddrC O108_0 rfl rfl ?_ | refine w_faddrP O108_0 rfl rfl ?_
   first | refine w_ldC1 a52 rfl rfl rdc ?_ | refine w_ldP1 a52 rfl rfl tk rdp ?_
   refine w_move rfl rfl ?_
   refine w_sub u3 rfl rfl rfl (by omega) ?_
   first | refine w_lidx u52 s46 rfl rfl rfl (by omega) ?_ | refine w_slidx u52 s46 rfl rfl rfl (by omega) ?_
   first | refine w_faddrC O46_1 rfl rfl ?_ | refine w_faddrP O46_1 rfl rfl ?_
   first | refine w_ldC1 a3 rfl rfl rdc ?_ | refine w_ldP1 a3 rfl rfl tk rdp ?_
   refine w_assign rfl rfl ?_
   refine w_assign rfl rfl ?_
   refine ws_nil ?_
   refine wc_ret ?_
   refine ⟨_, [.obj o (.row 108 1 false [AL eSm l])], (.cons (.tmp rfl) (.cons (.tmp rfl) .nil)), (Sel.weak (.cons tk .nil)), ?_⟩
   first | (rw [at_zero (by omega)]; exact ⟨rfl, rfl⟩) | (rw [at_old (by omega) hx (by omega)]; exact ⟨rfl, rfl⟩) | (rw [at_some (by omega) hx (by omega)]; exact ⟨rfl, rfl⟩)

theorem delP_fn (fm to z : Int) : PFn C 85 [.int .i64 z, .cptr [.int .i64 fm] 0, .cptr [.int .i64 to] 0] (.bool (!inV fm to z)) := by
 refine fn_view rfl rfl (fn := Tryz.f85) rfl rfl rfl rfl rfl ?_
 refine wc_seq ?_
 refine wc_text ?_
 refine w_assign rfl rfl ?_
 refine ws_nil ?_
 refine wc_seq ?_
 refine wc_text ?_
 refine w_move rfl rfl ?_
 first | refine w_ldC1 a3 rfl rfl rdc ?_ | refine w_ldP1 a3 rfl rfl tk rdp ?_
 refine w_lss u3 rfl rfl rfl ?_
 refine w_move rfl rfl ?_
 refine ws_split (t := 8) rfl (fun g8 => ?_) (fun g8 => ?_)
 ·first | replace g8 := dT g8 | replace g8 := dF g8 | replace g8 := dFT g8 | replace g8 := dTF g8 | replace g8 := nb_T g8 | replace g8 := nb_F g8 | skip
  first | replace g8 := nL g8 | replace g8 := nM g8 | replace g8 := nN g8 | skip
  refine ws_off rfl rfl rfl rfl ?_
  refine ws_off rfl rfl rfl rfl ?_
  refine ws_off rfl rfl rfl rfl ?_
  first | refine w_pickT rfl rfl rfl ⟨_, rfl⟩ ?_ | refine w_pickF rfl rfl ⟨_, rfl⟩ rfl ?_ | refine w_pick rfl rfl rfl rfl ?_
  refine w_assign rfl rfl ?_
  refine ws_nil ?_
  refine wc_ret ?_
  refine ⟨_, (.cons (.tmp rfl) .nil), ?_, rfl⟩
  refine congrArg AV.bool ?_
  unfold inV
  first | (rw [decide_eq_false (show ¬ fm ≤ z by omega)]; rfl) | (rw [decide_eq_true (show fm ≤ z by omega), Bool.true_and]; simp; omega) | (rw [decide_eq_true (show fm ≤ z by omega), Bool.true_and, ← decide_not]; congr 1; exact propext (by omega))
 ·first | replace g8 := dT g8 | replace g8 := dF g8 | replace g8 := dFT g8 | replace g8 := dTF g8 | replace g8 := nb_T g8 | replace g8 := nb_F g8 | skip
  first | replace g8 := nL g8 | replace g8 := nM g8 | replace g8 := nN g8 | skip
  refine ws_on rfl rfl ?_
  refine w_move rfl rfl ?_
  refine ws_on rfl rfl ?_
  first | refine w_ldC1 a3 rfl rfl rdc ?_ | refine w_ldP1 a3 rfl rfl tk rdp ?_
  refine ws_on rfl rfl ?_
  refine w_gtr u3 rfl rfl rfl ?_
  first | refine w_pickT rfl rfl rfl ⟨_, rfl⟩ ?_ | refine w_pickF rfl rfl ⟨_, rfl⟩ rfl ?_ | refine w_pick rfl rfl rfl rfl ?_
  refine w_assign rfl rfl ?_
  refine ws_nil ?_
  refine wc_ret ?_
  refine ⟨_, (.cons (.tmp rfl) .nil), ?_, rfl⟩
  refine congrArg AV.bool ?_
  unfold inV
  first | (rw [decide_eq_false (show ¬ fm ≤ z by omega)]; rfl) | (rw [decide_eq_true (show fm ≤ z by omega), Bool.true_and]; simp; omega) | (rw [decide_eq_true (show fm ≤ z by omega), Bool.true_and, ← decide_not]; congr 1; exact propext (by omega))

theorem idxF_fn (l : List Int) (fm to : Int) (hl : l.length ≤ 1000000) : PFn C 128 [AL eI l, .func (.func 85) [] [.cptr [.int .i64 fm] 0, .cptr [.int .i64 to] 0]] (.int .i64 (idxV (fun z => !inV fm to z) l)) := by
 refine fn_view rfl rfl (fn := Tryz.f128) rfl rfl rfl rfl rfl ?_
 refine wc_seq ?_
 refine wc_text ?_
 refine w_assign rfl rfl ?_
 refine ws_nil ?_
 refine wc_seq ?_
 refine wc_seq ?_
 refine wc_text ?_
 refine w_move rfl rfl ?_
 first | refine w_len rfl rfl (len_lst u33) ?_ | refine w_len rfl rfl (len_slice u33) ?_ | refine w_lenO rfl u33 rfl rfl tk ?_
 refine w_move rfl rfl ?_
 refine ws_nil ?_
 refine wc_block ?_
 refine wc_loop (σ := { k : Nat // k ≤ l.length ∧ (l.take k).all (fun x => !!inV fm to x) = true }) (fun u => [(0, AL eI l), (1, .func (.func 85) [] [.cptr [.int .i64 fm] 0, .cptr [.int .i64 to] 0]), (7, .int .i64 (l.length : Nat)), (8, .int .i64 (u.1 : Nat))]) (fun u => []) (fun u => l.length - u.1) ?_ ⟨0, Nat.zero_le _, rfl⟩ (.cons rfl (.cons rfl (.cons rfl (.cons rfl (.nil _))))) (Sel.weak .nil)
 rintro ⟨k, hk, hs⟩
 try dsimp only
 refine wc_seq ?_
 refine wc_text ?_
 refine w_lss u3 rfl rfl rfl ?_
 refine ws_nil ?_
 refine wc_seq ?_
 refine wc_cond rfl (fun h2 => ?_) (fun h2 => ?_)
 ·first | replace h2 := dT h2 | replace h2 := dF h2 | replace h2 := dFT h2 | replace h2 := dTF h2 | replace h2 := nb_T h2 | replace h2 := nb_F h2 | skip
  first | replace h2 := nL h2 | replace h2 := nM h2 | replace h2 := nN h2 | skip
  refine wc_stay ?_
  refine wc_seq ?_
  refine wc_block ?_
  refine wc_seq ?_
  refine wc_text ?_
  refine w_move rfl rfl ?_
  refine w_assign rfl rfl ?_
  refine ws_nil ?_
  refine wc_seq ?_
  refine wc_text ?_
  obtain ⟨x, hx⟩ := get_of_lt (l := l) (k := k) (by omega)
  refine w_move rfl rfl ?_
  refine w_move rfl rfl ?_
  refine w_move rfl rfl ?_
  first | refine w_lidx u33 s3 rfl rfl rfl (by omega) ?_ | refine w_slidx u33 s3 rfl rfl rfl (by omega) ?_
  first | refine w_ldC1 a3 rfl rfl rdc ?_ | refine w_ldP1 a3 rfl rfl tk rdp ?_
  refine w_callVX (l' := [.int .i64 x, .cptr [.int .i64 fm] 0, .cptr [.int .i64 to] 0]) rfl rfl rfl rfl (cw_fn rfl rfl (.cons fz (.cons fz (.cons fz .nil))) (delP_fn fm to x) ?_)
  refine ws_nil ?_
  refine wc_cond rfl (fun h4 => ?_) (fun h4 => ?_)
  ·skip
   refine wc_seq ?_
   refine wc_text ?_
   refine w_move rfl rfl ?_
   refine w_assign rfl rfl ?_
   refine ws_nil ?_
   refine wc_ret ?_
   refine ⟨_, (.cons (.tmp rfl) .nil), ?_, rfl⟩
   rw [idx_some hx hs (by exact h4)]; rfl
  ·skip
   refine wc_stay ?_
   refine wc_text ?_
   refine w_add u3 rfl rfl rfl (by omega) ?_
   refine w_move rfl rfl ?_
   refine ws_nil ?_
   exact ⟨⟨k + 1, by omega, all_take hx hs (by rw [h4]; rfl)⟩, by simp only; omega, (.cons rfl (.cons rfl (.cons rfl (.cons rfl (.nil _))))), (Sel.weak .nil)⟩
 ·first | replace h2 := dT h2 | replace h2 := dF h2 | replace h2 := dFT h2 | replace h2 := dTF h2 | replace h2 := nb_T h2 | replace h2 := nb_F h2 | skip
  first | replace h2 := nL h2 | replace h2 := nM h2 | replace h2 := nN h2 | skip
  refine wc_exit ?_
  refine wc_seq ?_
  refine wc_text ?_
  refine w_assign rfl rfl ?_
  refine ws_nil ?_
  refine wc_ret ?_
  refine ⟨_, (.cons (.tmp rfl) .nil), ?_, rfl⟩
  rw [idx_none (by omega) hs]; rfl

theorem delF_fn (v0 : AV) (l : List Int) (fm to : Int) (hl : l.length ≤ 1000000) (R : List HI) : CallW C 84 [v0, .func (.func 85) [] [.cptr [.int .i64 fm] 0, .cptr [.int .i64 to] 0]] ([.own v0 3 1 (l.flatMap eI) l.length] ++ R) fun v H => ∃ H', H = H' ++ R ∧ H' = [.own v 3 1 ((l.filter (inV fm to)).flatMap eI) (l.filter (inV fm to)).length] := by
 refine cw_sharedA (fn := Tryz.f84) rfl rfl rfl rfl (K := fun v H' => H' = [.own v 3 1 ((l.filter (inV fm to)).flatMap eI) (l.filter (inV fm to)).length]) ?_ R
 refine wc_seq ?_
 refine wc_text ?_
 refine w_assign rfl rfl ?_
 refine ws_nil ?_
 refine wc_seq ?_
 refine wc_text ?_
 refine w_move rfl rfl ?_
 refine w_move rfl rfl ?_
 refine w_call rfl rfl (cw_fn rfl rfl (.cons fz (.cons fz .nil)) (idxF_fn l fm to hl) ?_)
 refine w_assign rfl rfl ?_
 refine ws_nil ?_
 refine wc_seq ?_
 refine wc_seq ?_
 refine wc_text ?_
 refine w_move rfl rfl ?_
 refine w_eql u3 rfl rfl rfl ?_
 refine ws_nil ?_
 refine wc_cond rfl (fun h2 => ?_) (fun h2 => ?_)
 ·have hq0 := of_decide_eq_true h2
  have hqa : l.all (fun x => !!inV fm to x) = true := by
    rcases idx_cases (fun z => !inV fm to z) l with ⟨_, h⟩ | ⟨q, _, h, _⟩
    · exact h
    · omega
  have hqf : l.filter (inV fm to) = l := List.filter_eq_self.mpr fun x hx => by have := List.all_eq_true.mp hqa x hx; simpa using this
  refine wc_seq ?_
  refine wc_text ?_
  refine w_move rfl rfl ?_
  refine w_assign rfl rfl ?_
  refine ws_nil ?_
  refine wc_ret ?_
  refine ⟨_, _, (.cons (.tmp rfl) .nil), (Sel.weak (.cons tk .nil)), ?_⟩
  rw [hqf]
  rfl
 ·have hq0 := of_decide_eq_false h2
  obtain ⟨q, y, hq1, hqx, hqp, hqa⟩ : ∃ (q : Nat) (y : Int), idxV (fun z => !inV fm to z) l = (q : Nat) ∧ l[q]? = some y ∧ (!inV fm to y) = true ∧ (l.take q).all (fun x => !!inV fm to x) = true := by
    rcases idx_cases (fun z => !inV fm to z) l with ⟨h, _⟩ | ⟨q, y, h1, h2, h3, h4⟩
    · exact absurd h hq0
    · exact ⟨q, y, h1, h2, h3, h4⟩
  have hql := (List.getElem?_eq_some_iff.mp hqx).1
  have hq3 : l.take q = (l.take (q + 1)).filter (inV fm to) := by
    rw [← del_out hqx (nb_T hqp)]
    exact (List.filter_eq_self.mpr fun x hx => by have := List.all_eq_true.mp hqa x hx; simpa using this).symm
  rw [hq1]
  refine WC.openOwn (v := v0) tk (by omega) (fun o ho => ?_)
  subst ho
  refine wc_stay ?_
  refine wc_seq ?_
  refine wc_seq ?_
  refine wc_text ?_
  refine w_move rfl rfl ?_
  refine w_add u3 rfl rfl rfl (by omega) ?_
  refine w_assign rfl rfl ?_
  refine ws_nil ?_
  refine wc_block ?_
  refine wc_loop (σ := { u : Nat × Nat × List Int // u.1 < u.2.1 ∧ u.2.1 ≤ l.length ∧ u.2.2.length = l.length ∧ u.2.2.drop u.2.1 = l.drop u.2.1 ∧ u.2.2.take u.1 = (l.take u.2.1).filter (inV fm to) ∧ u.1 < l.length }) (fun u => [(0, .slice (some ⟨o, 0⟩) l.length (.op 0)), (1, .func (.func 85) [] [.cptr [.int .i64 fm] 0, .cptr [.int .i64 to] 0]), (5, .int .i64 (u.1.1 : Nat)), (6, .int .i64 (u.1.2.1 : Nat))]) (fun u => [.obj o (.row 3 1 false (u.1.2.2.flatMap eI))]) (fun u => l.length - u.1.2.1) ?_ ⟨(q, q + 1, l), Nat.lt_succ_self _, by simp only; omega, rfl, rfl, by simp only; exact hq3, by simp only; omega⟩ (.cons rfl (.cons rfl (.cons rfl (.cons rfl (.nil _))))) (Sel.weak (.cons tk .nil))
  rintro ⟨⟨i, j, r⟩, hij, hj, hr, hd, ht, hil⟩
  try dsimp only
  simp only at hij hj hr hd ht hil
  refine wc_seq ?_
  refine wc_seq ?_
  refine wc_text ?_
  refine w_move rfl rfl ?_
  refine w_move rfl rfl ?_
  first | refine w_len rfl rfl (len_lst u33) ?_ | refine w_len rfl rfl (len_slice u33) ?_ | refine w_lenO rfl u33 rfl rfl tk ?_
  refine w_lss u3 rfl rfl rfl ?_
  refine ws_nil ?_
  refine wc_cond rfl (fun h5 => ?_) (fun h5 => ?_)
  ·first | replace h5 := dT h5 | replace h5 := dF h5 | replace h5 := dFT h5 | replace h5 := dTF h5 | replace h5 := nb_T h5 | replace h5 := nb_F h5 | skip
   first | replace h5 := nL h5 | replace h5 := nM h5 | replace h5 := nN h5 | skip
   refine wc_stay ?_
   refine wc_seq ?_
   refine wc_block ?_
   refine wc_seq ?_
   refine wc_text ?_
   obtain ⟨x, hx⟩ := get_of_lt (l := l) (k := j) (by omega)
   have hrx : r[j]? = some x := by
     have := congrArg (fun z => z[0]?) hd
     simp only [List.getElem?_drop, Nat.add_zero] at this
     rw [this]; exact hx
   refine w_move rfl rfl ?_
   refine w_move rfl rfl ?_
   first | refine w_lidx u33 s3 rfl rfl rfl (by omega) ?_ | refine w_slidx u33 s3 rfl rfl rfl (by omega) ?_
   first | refine w_ldC1 a3 rfl rfl rdc ?_ | refine w_ldP1 a3 rfl rfl tk rdp ?_
   refine w_assign rfl rfl ?_
   refine ws_nil ?_
   refine wc_seq ?_
   refine wc_text ?_
   refine w_move rfl rfl ?_
   refine w_move rfl rfl ?_
   refine w_callVX (l' := [.int .i64 x, .cptr [.int .i64 fm] 0, .cptr [.int .i64 to] 0]) rfl rfl rfl rfl (cw_fn rfl rfl (.cons fz (.cons fz (.cons fz .nil))) (delP_fn fm to x) ?_)
   refine w_not rfl rfl ?_
   refine ws_nil ?_
   refine wc_cond rfl (fun h8 => ?_) (fun h8 => ?_)
   ·replace h8 : inV fm to x = true := by simpa using h8
    refine wc_seq ?_
    refine wc_text ?_
    obtain ⟨y, hy⟩ := get_of_lt (l := r) (k := i) (by omega)
    refine w_move rfl rfl ?_
    refine w_move rfl rfl ?_
    refine w_move rfl rfl ?_
    first | refine w_lidx u33 s3 rfl rfl rfl (by omega) ?_ | refine w_slidx u33 s3 rfl rfl rfl (by omega) ?_
    refine w_st s3 rfl rfl rfl tk rfl rfl ovw ?_
    refine ws_nil ?_
    refine wc_text ?_
    refine w_move rfl rfl ?_
    refine w_add u3 rfl rfl rfl (by omega) ?_
    refine w_assign rfl rfl ?_
    refine ws_nil ?_
    refine wc_text ?_
    refine w_move rfl rfl ?_
    refine w_add u3 rfl rfl rfl (by omega) ?_
    refine w_assign rfl rfl ?_
    refine ws_nil ?_
    exact ⟨⟨(i + 1, j + 1, r.set i x), by simp only; omega, by simp only; omega, by simp only; rw [List.length_set]; exact hr, by simp only; rw [List.drop_set_of_lt (show i < j + 1 by omega), ← List.drop_drop, hd, List.drop_drop], by simp only; rw [take_set_next (show i < r.length by omega), ht]; exact del_in hx h8, by simp only; omega⟩, by simp only; omega, (.cons rfl (.cons rfl (.cons rfl (.cons rfl (.nil _))))), (Sel.weak (.cons tk .nil))⟩
   ·replace h8 : inV fm to x = false := by simpa using h8
    refine wc_stay ?_
    refine wc_text ?_
    refine w_move rfl rfl ?_
    refine w_add u3 rfl rfl rfl (by omega) ?_
    refine w_assign rfl rfl ?_
    refine ws_nil ?_
    exact ⟨⟨(i, j + 1, r), by simp only; omega, by simp only; omega, hr, by simp only; rw [← List.drop_drop, hd, List.drop_drop], by simp only; rw [ht]; exact del_out hx h8, hil⟩, by simp only; omega, (.cons rfl (.cons rfl (.cons rfl (.cons rfl (.nil _))))), (Sel.weak (.cons tk .nil))⟩
  ·first | replace h5 := dT h5 | replace h5 := dF h5 | replace h5 := dFT h5 | replace h5 := dTF h5 | replace h5 := nb_T h5 | replace h5 := nb_F h5 | skip
   first | replace h5 := nL h5 | replace h5 := nM h5 | replace h5 := nN h5 | skip
   refine wc_exit ?_
   refine wc_seq ?_
   refine wc_text ?_
   refine w_move rfl rfl ?_
   refine w_move rfl rfl ?_
   refine w_slice rfl rfl rfl rfl rfl (slice_op (i := i) (j := l.length) u33 s3 (by rfl) (by rfl) (by omega) (by omega)) ?_
   refine w_clear rfl u33 z3 rfl rfl tk rfl (over_of (by rw [flat_length (s := 1) (by intro _; rfl), repl_len]; simp only [List.length_cons, List.length_nil]; omega)) ?_
   refine ws_nil ?_
   refine wc_seq ?_
   refine wc_text ?_
   refine w_move rfl rfl ?_
   refine w_move rfl rfl ?_
   refine w_slice rfl rfl rfl rfl rfl (slice_op (i := 0) (j := i) u33 s3 (by rfl) (by rfl) (by omega) (by omega)) ?_
   refine w_assign rfl rfl ?_
   refine ws_nil ?_
   refine WC.trunc i tk ?_
   refine WC.recell ((l.filter (inV fm to)).flatMap eI) tk (del_cells (by omega) (by omega) (by rw [ht, List.take_of_length_le (by omega)])) ?_
   have hfl : (l.filter (inV fm to)).length = i := by rw [← List.take_of_length_le (show l.length ≤ j by omega), ← ht, List.length_take]; omega
   refine WC.closeOwn (m := i) (o := o) tk (by rw [flat_length (s := 1) (by intro _; rfl), hfl]) ?_
   rw [← hfl]
   refine wc_ret ?_
   refine ⟨_, _, (.cons (.tmp rfl) .nil), (Sel.weak (.cons tk .nil)), ?_⟩
   rfl

theorem sortI_fn {v : AV} {l : List Int} {R : List HI} (hl : l.length < 4611686018427387904) : CallW C 48 [v] (.own v 3 1 (l.flatMap eI) l.length :: R) fun u H => u = .tuple [] ∧ H = .own v 3 1 ((sortI l).flatMap eI) (sortI l).length :: R :=
  sortO_cwI (C := C) (f := 48) (fn := Tryz.f48) rfl rfl rfl (fun blk off cap ss w h1 h2 h3 => Any.slices_Sort_int Tryz.laysSortI blk off cap ss w h1 h2 h3) (fun p cap w => Any.slices_Sort_int_none Tryz.laysSortI p cap w) hl
theorem compactI_fn {v : AV} {l : List Int} {R : List HI} (hl : l.length ≤ 9223372036854775807) : CallW C 49 [v] (.own v 3 1 (l.flatMap eI) l.length :: R) fun u H => H = .own u 3 1 ((Lib.compact l).flatMap eI) (Lib.compact l).length :: R :=
  compactO_cwI (C := C) (f := 49) (fn := Tryz.f49) rfl rfl rfl (fun blk off cap zs w h1 h2 h3 => Any.slices_Compact_int Tryz.laysCompactI blk off cap zs w h1 h2 h3) (fun a cap w => Any.slices_Compact_int_empty Tryz.laysCompactI a cap w) hl (compact_leI l)

theorem chg_fn (o : Nat) (l : List SM) (look fm to : Int) (hl : l.length ≤ 100000) (hb : ∀ x ∈ l, 0 ≤ x.time ∧ x.time ≤ 1099511627776) (hk : -4611686018427387904 ≤ look ∧ look ≤ 4611686018427387903) (R : List HI) : CallW C 47 [.ptr (some ⟨o, 0⟩), .int .i64 look, .int .i64 fm, .int .i64 to] ([.obj o (.row 108 1 false [AL eSm l])] ++ R) fun v H => ∃ H', H = H' ++ R ∧ (v = AL eI (chV l look fm to) ∧ H' = [.obj o (.row 108 1 false [AL eSm l])]) := by
 refine cw_sharedA (fn := Tryz.f47) rfl rfl rfl rfl (K := fun v H' => (v = AL eI (chV l look fm to) ∧ H' = [.obj o (.row 108 1 false [AL eSm l])])) ?_ R
 refine wc_seq ?_
 refine wc_text ?_
 refine w_box s3 rfl rfl rfl (by first | exact tab_length _ _ | rfl) (by first | exact tab_scalar _ _ | rfl) (fun o6 => ?_)
 refine w_box s3 rfl rfl rfl (by first | exact tab_length _ _ | rfl) (by first | exact tab_scalar _ _ | rfl) (fun o7 => ?_)
 refine w_assign rfl rfl ?_
 refine ws_nil ?_
 refine WC.freezePtr (t := 6) (cs := [.int .i64 fm]) rfl rfl tk rfl ?_
 refine WC.freezePtr (t := 7) (cs := [.int .i64 to]) rfl rfl tk rfl ?_
 refine wc_seq ?_
 refine wc_text ?_
 refine w_assign rfl rfl ?_
 refine ws_nil ?_
 refine WC.ownNil 3 1 ?_
 refine wc_seq ?_
 refine wc_seq ?_
 refine wc_text ?_
 refine w_move rfl rfl ?_
 refine w_nil rfl rfl rfl ?_
 first | refine w_faddrC O108_0 rfl rfl ?_ | refine w_faddrP O108_0 rfl rfl ?_
 first | refine w_ldC1 a52 rfl rfl rdc ?_ | refine w_ldP1 a52 rfl rfl tk rdp ?_
 first | refine w_len rfl rfl (len_lst u52) ?_ | refine w_len rfl rfl (len_slice u52) ?_ | refine w_lenO rfl u52 rfl rfl tk ?_
 refine w_move rfl rfl ?_
 refine ws_nil ?_
 refine wc_block ?_
 refine wc_loop (σ := { u : Nat × AV // u.1 ≤ l.length }) (fun u => [(0, .ptr (some ⟨o, 0⟩)), (1, .int .i64 look), (6, .cptr [.int .i64 fm] 0), (7, .cptr [.int .i64 to] 0), (9, u.1.2), (16, AL eSm l), (17, .int .i64 (l.length : Nat)), (18, .int .i64 (u.1.1 : Nat))]) (fun u => [.own u.1.2 3 1 ((chL l look u.1.1).flatMap eI) (chL l look u.1.1).length, .obj o (.row 108 1 false [AL eSm l])]) (fun u => l.length - u.1.1) ?_ ⟨(0, nilSlice), Nat.zero_le _⟩ (.cons rfl (.cons rfl (.cons rfl (.cons rfl (.cons rfl (.cons rfl (.cons rfl (.cons rfl (.nil _))))))))) (Sel.weak (.cons tk (.cons tk .nil)))
 rintro ⟨⟨k, vk⟩, hk0⟩
 try dsimp only
 simp only at hk0
 have hcl := chL_len l look k
 refine wc_seq ?_
 refine wc_text ?_
 refine w_lss u3 rfl rfl rfl ?_
 refine ws_nil ?_
 refine wc_seq ?_
 refine wc_cond rfl (fun h3 => ?_) (fun h3 => ?_)
 ·replace h3 := of_decide_eq_true h3
  refine wc_stay ?_
  refine wc_seq ?_
  refine wc_block ?_
  refine wc_seq ?_
  refine wc_text ?_
  obtain ⟨x, hx⟩ := get_of_lt (l := l) (k := k) (by omega)
  refine w_move rfl rfl ?_
  first | refine w_lidx u52 s46 rfl rfl rfl (by omega) ?_ | refine w_slidx u52 s46 rfl rfl rfl (by omega) ?_
  first | refine w_ldC a46 s46 rfl rfl agc ?_ | refine w_ldP a46 s46 rfl rfl tk agp ?_
  refine w_alloc z46 s46 rfl (fun o11 => ?_)
  refine w_assign rfl rfl ?_
  refine w_st s46 rfl rfl rfl tk rfl rfl ovw ?_
  refine ws_nil ?_
  refine WC.freezePtr (t := 11) (cs := eSm x) rfl rfl .head rfl ?_
  refine wc_seq ?_
  refine wc_text ?_
  refine w_move rfl rfl ?_
  first | refine w_faddrC O46_0 rfl rfl ?_ | refine w_faddrP O46_0 rfl rfl ?_
  first | refine w_ldC1 a3 rfl rfl rdc ?_ | refine w_ldP1 a3 rfl rfl tk rdp ?_
  refine w_buildSF (cs := [x.time].flatMap eI) u33 s3 z3 (by decide) rfl rfl rfl (by decide) rfl rfl ?_
  refine w_appO (enc := eI) (l := chL l look k) (m := [x.time]) rfl u33 s3 b3 z3 u33 (by simp) rfl rfl rfl tk nw bg bg (fun v27 => ?_)
  refine w_assign rfl rfl ?_
  refine ws_nil ?_
  refine wc_seq ?_
  refine wc_text ?_
  have hxb := hb x (List.mem_of_getElem? hx)
  first | refine w_faddrC O46_0 rfl rfl ?_ | refine w_faddrP O46_0 rfl rfl ?_
  first | refine w_ldC1 a3 rfl rfl rdc ?_ | refine w_ldP1 a3 rfl rfl tk rdp ?_
  refine w_move rfl rfl ?_
  refine w_add u3 rfl rfl rfl (by omega) ?_
  refine w_assign rfl rfl ?_
  refine ws_nil ?_
  refine wc_seq ?_
  refine wc_text ?_
  refine w_move rfl rfl ?_
  refine w_add u3 rfl rfl rfl (by omega) ?_
  refine w_move rfl rfl ?_
  refine w_nil rfl rfl rfl ?_
  first | refine w_faddrC O108_0 rfl rfl ?_ | refine w_faddrP O108_0 rfl rfl ?_
  first | refine w_ldC1 a52 rfl rfl rdc ?_ | refine w_ldP1 a52 rfl rfl tk rdp ?_
  first | refine w_len rfl rfl (len_lst u52) ?_ | refine w_len rfl rfl (len_slice u52) ?_ | refine w_lenO rfl u52 rfl rfl tk ?_
  refine w_eql u3 rfl rfl rfl ?_
  refine w_move rfl rfl ?_
  refine ws_split (t := 40) rfl (fun g40 => ?_) (fun g40 => ?_)
  ·first | replace g40 := dT g40 | replace g40 := dF g40 | replace g40 := dFT g40 | replace g40 := dTF g40 | replace g40 := nb_T g40 | replace g40 := nb_F g40 | skip
   first | replace g40 := nL g40 | replace g40 := nM g40 | replace g40 := nN g40 | skip
   refine ws_off rfl rfl rfl rfl ?_
   refine ws_off rfl rfl rfl rfl ?_
   refine ws_off rfl rfl rfl rfl ?_
   refine ws_off rfl rfl rfl rfl ?_
   refine ws_off rfl rfl rfl rfl ?_
   refine ws_off rfl rfl rfl rfl ?_
   refine ws_off rfl rfl rfl rfl ?_
   refine ws_off rfl rfl rfl rfl ?_
   refine ws_off rfl rfl rfl rfl ?_
   refine ws_off rfl rfl rfl rfl ?_
   refine ws_off rfl rfl rfl rfl ?_
   first | refine w_pickT rfl rfl rfl ⟨_, rfl⟩ ?_ | refine w_pickF rfl rfl ⟨_, rfl⟩ rfl ?_ | refine w_pick rfl rfl rfl rfl ?_
   refine ws_nil ?_
   refine wc_condT rfl ?_
   refine wc_text ?_
   refine w_move rfl rfl ?_
   refine w_move rfl rfl ?_
   refine w_buildSF (cs := [x.time + look].flatMap eI) u33 s3 z3 (by decide) rfl rfl rfl (by decide) rfl rfl ?_
   refine w_appO (enc := eI) (l := chL l look k ++ [x.time]) (m := [x.time + look]) rfl u33 s3 b3 z3 u33 (by simp) rfl rfl rfl tk nw bg bg (fun v56 => ?_)
   refine w_assign rfl rfl ?_
   refine ws_nil ?_
   first | rw [ch_endN hx (by omega)] | rw [ch_endY hx hy h7]
   refine wc_text ?_
   refine w_add u3 rfl rfl rfl (by omega) ?_
   refine w_move rfl rfl ?_
   refine ws_nil ?_
   exact ⟨⟨(k + 1, v56), (by omega : k + 1 ≤ l.length)⟩, by simp only; omega, (.cons rfl (.cons rfl (.cons rfl (.cons rfl (.cons rfl (.cons rfl (.cons rfl (.cons rfl (.nil _))))))))), (Sel.weak (.cons tk (.cons tk .nil)))⟩
  ·first | replace g40 := dT g40 | replace g40 := dF g40 | replace g40 := dFT g40 | replace g40 := dTF g40 | replace g40 := nb_T g40 | replace g40 := nb_F g40 | skip
   first | replace g40 := nL g40 | replace g40 := nM g40 | replace g40 := nN g40 | skip
   obtain ⟨y, hy⟩ := get_of_lt (l := l) (k := k + 1) (by omega)
   refine ws_on rfl rfl ?_
   refine w_move rfl rfl ?_
   refine ws_on rfl rfl ?_
   refine w_nil rfl rfl rfl ?_
   refine ws_on rfl rfl ?_
   first | refine w_faddrC O108_0 rfl rfl ?_ | refine w_faddrP O108_0 rfl rfl ?_
   refine ws_on rfl rfl ?_
   first | refine w_ldC1 a52 rfl rfl rdc ?_ | refine w_ldP1 a52 rfl rfl tk rdp ?_
   refine ws_on rfl rfl ?_
   refine w_move rfl rfl ?_
   refine ws_on rfl rfl ?_
   refine w_add u3 rfl rfl rfl (by omega) ?_
   refine ws_on rfl rfl ?_
   first | refine w_lidx u52 s46 rfl rfl rfl (by omega) ?_ | refine w_slidx u52 s46 rfl rfl rfl (by omega) ?_
   refine ws_on rfl rfl ?_
   first | refine w_faddrC O46_0 rfl rfl ?_ | refine w_faddrP O46_0 rfl rfl ?_
   refine ws_on rfl rfl ?_
   first | refine w_ldC1 a3 rfl rfl rdc ?_ | refine w_ldP1 a3 rfl rfl tk rdp ?_
   refine ws_on rfl rfl ?_
   refine w_move rfl rfl ?_
   refine ws_on rfl rfl ?_
   refine w_gtr u3 rfl rfl rfl ?_
   first | refine w_pickT rfl rfl rfl ⟨_, rfl⟩ ?_ | refine w_pickF rfl rfl ⟨_, rfl⟩ rfl ?_ | refine w_pick rfl rfl rfl rfl ?_
   refine ws_nil ?_
   refine wc_cond rfl (fun h7 => ?_) (fun h7 => ?_)
   ·replace h7 := of_decide_eq_true h7
    refine wc_text ?_
    refine w_move rfl rfl ?_
    refine w_move rfl rfl ?_
    refine w_buildSF (cs := [x.time + look].flatMap eI) u33 s3 z3 (by decide) rfl rfl rfl (by decide) rfl rfl ?_
    refine w_appO (enc := eI) (l := chL l look k ++ [x.time]) (m := [x.time + look]) rfl u33 s3 b3 z3 u33 (by simp) rfl rfl rfl tk nw bg bg (fun v56 => ?_)
    refine w_assign rfl rfl ?_
    refine ws_nil ?_
    first | rw [ch_endN hx (by omega)] | rw [ch_endY hx hy h7]
    refine wc_text ?_
    refine w_add u3 rfl rfl rfl (by omega) ?_
    refine w_move rfl rfl ?_
    refine ws_nil ?_
    exact ⟨⟨(k + 1, v56), (by omega : k + 1 ≤ l.length)⟩, by simp only; omega, (.cons rfl (.cons rfl (.cons rfl (.cons rfl (.cons rfl (.cons rfl (.cons rfl (.cons rfl (.nil _))))))))), (Sel.weak (.cons tk (.cons tk .nil)))⟩
   ·replace h7 := of_decide_eq_false h7
    rw [ch_no hx hy h7]
    refine wc_stay ?_
    refine wc_text ?_
    refine w_add u3 rfl rfl rfl (by omega) ?_
    refine w_move rfl rfl ?_
    refine ws_nil ?_
    exact ⟨⟨(k + 1, v27), (by omega : k + 1 ≤ l.length)⟩, by simp only; omega, (.cons rfl (.cons rfl (.cons rfl (.cons rfl (.cons rfl (.cons rfl (.cons rfl (.cons rfl (.nil _))))))))), (Sel.weak (.cons tk (.cons tk .nil)))⟩
 ·replace h3 := of_decide_eq_false h3
  obtain rfl : k = l.length := by omega
  refine wc_exit ?_
  refine wc_seq ?_
  refine wc_text ?_
  refine w_move rfl rfl ?_
  refine w_func rfl rfl rfl ?_
  refine w_call rfl rfl (CallW.mono (delF_fn _ (chL l look l.length) fm to (by omega) _) ?_)
  rintro v60 _ ⟨_, rfl, rfl⟩
  try simp only [List.cons_append, List.nil_append]
  refine w_assign rfl rfl ?_
  refine ws_nil ?_
  refine WC.freeze (t := 8) (v' := AL eI (chV l look fm to)) rfl rfl (.ownK rfl tk (flat_done (by intro _; rfl) _)) rfl ?_
  refine wc_ret ?_
  refine ⟨_, [.obj o (.row 108 1 false [AL eSm l])], (.cons (.tmp rfl) .nil), (Sel.weak (.cons tk .nil)), ?_⟩
  exact ⟨rfl, rfl⟩

theorem add_fn (o : Nat) (l : List SM) (x : SM) (hl : l.length ≤ 100000) (R : List HI) : CallW C 45 [.ptr (some ⟨o, 0⟩), AL eSm [x]] ([.obj o (.row 108 1 false [AL eSm l])] ++ R) fun v H => ∃ H', H = H' ++ R ∧ v = .int .i64 (addE l x) ∧ H' = [.obj o (.row 108 1 false [AL eSm (addS l x)])] := by
 refine cw_sharedA (fn := Tryz.f45) rfl rfl rfl rfl (K := fun v H' => v = .int .i64 (addE l x) ∧ H' = [.obj o (.row 108 1 false [AL eSm (addS l x)])]) ?_ R
 refine wc_seq ?_
 refine wc_text ?_
 refine w_assign rfl rfl ?_
 refine ws_nil ?_
 refine wc_seq ?_
 refine wc_text ?_
 refine w_move rfl rfl ?_
 refine w_nil rfl rfl rfl ?_
 first | refine w_faddrC O108_0 rfl rfl ?_ | refine w_faddrP O108_0 rfl rfl ?_
 first | refine w_ldC1 a52 rfl rfl rdc ?_ | refine w_ldP1 a52 rfl rfl tk rdp ?_
 refine w_call rfl rfl (CallW.mono (cloneSm_fn l (by omega) _) ?_)
 rintro v12 _ rfl
 try simp only [List.cons_append, List.nil_append]
 refine w_assign rfl rfl ?_
 refine ws_nil ?_
 refine wc_seq ?_
 refine wc_seq ?_
 refine wc_text ?_
 refine w_move rfl rfl ?_
 first | refine w_len rfl rfl (len_lst u52) ?_ | refine w_len rfl rfl (len_slice u52) ?_ | refine w_lenO rfl u52 rfl rfl tk ?_
 refine w_move rfl rfl ?_
 refine ws_nil ?_
 refine wc_block ?_
 refine wc_loop (σ := { u : Nat × AV // u.1 ≤ 1 ∧ (u.1 = 1 → addE l x = 0 ∧ addS l x = l ++ [x]) }) (fun u => [(0, .ptr (some ⟨o, 0⟩)), (5, u.1.2), (13, AL eSm [x]), (14, .int .i64 (([x] : List SM).length : Nat)), (15, .int .i64 (u.1.1 : Nat))]) (fun u => [.own u.1.2 46 2 ((outS l x u.1.1).flatMap eSm) (outS l x u.1.1).length, .obj o (.row 108 1 false [AL eSm l])]) (fun u => 1 - u.1.1) ?_ ⟨(0, v12), Nat.zero_le _, fun h => by cases h⟩ (.cons rfl (.cons rfl (.cons rfl (.cons rfl (.cons rfl (.nil _)))))) (Sel.weak (.cons tk (.cons tk .nil)))
 rintro ⟨⟨k, vk⟩, hk1, hkE⟩
 try dsimp only
 simp only at hk1 hkE
 have hx1 : ([x] : List SM).length = 1 := rfl
 refine wc_seq ?_
 refine wc_text ?_
 refine w_lss u3 rfl rfl rfl ?_
 refine ws_nil ?_
 refine wc_seq ?_
 refine wc_cond rfl (fun h3 => ?_) (fun h3 => ?_)
 ·replace h3 := of_decide_eq_true h3
  obtain rfl : k = 0 := by omega
  simp only [outS_zero]
  refine wc_stay ?_
  refine wc_seq ?_
  refine wc_block ?_
  refine wc_seq ?_
  refine wc_text ?_
  have hx : ([x] : List SM)[0]? = some x := rfl
  first | refine w_lidx u52 s46 rfl rfl rfl (by omega) ?_ | refine w_slidx u52 s46 rfl rfl rfl (by omega) ?_
  first | refine w_ldC a46 s46 rfl rfl agc ?_ | refine w_ldP a46 s46 rfl rfl tk agp ?_
  refine w_alloc z46 s46 rfl (fun o7 => ?_)
  refine w_st s46 rfl rfl rfl tk rfl rfl ovw ?_
  refine ws_nil ?_
  refine WC.freezePtr (t := 7) (cs := eSm x) rfl rfl .head rfl ?_
  refine wc_seq ?_
  refine wc_block ?_
  refine wc_seq ?_
  refine wc_text ?_
  first | refine w_faddrC O46_0 rfl rfl ?_ | refine w_faddrP O46_0 rfl rfl ?_
  first | refine w_ldC1 a3 rfl rfl rdc ?_ | refine w_ldP1 a3 rfl rfl tk rdp ?_
  refine w_lss u3 rfl rfl rfl ?_
  refine w_move rfl rfl ?_
  refine ws_split (t := 23) rfl (fun g23 => ?_) (fun g23 => ?_)
  ·first | replace g23 := dT g23 | replace g23 := dF g23 | replace g23 := dFT g23 | replace g23 := dTF g23 | replace g23 := nb_T g23 | replace g23 := nb_F g23 | skip
   first | replace g23 := nL g23 | replace g23 := nM g23 | replace g23 := nN g23 | skip
   refine ws_off rfl rfl rfl rfl ?_
   refine ws_off rfl rfl rfl rfl ?_
   refine ws_off rfl rfl rfl rfl ?_
   first | refine w_pickT rfl rfl rfl ⟨_, rfl⟩ ?_ | refine w_pickF rfl rfl ⟨_, rfl⟩ rfl ?_ | refine w_pick rfl rfl rfl rfl ?_
   refine w_assign rfl rfl ?_
   refine ws_nil ?_
   refine wc_condT rfl ?_
   refine wc_seq ?_
   refine wc_text ?_
   refine w_assign rfl rfl ?_
   refine ws_nil ?_
   refine wc_ret ?_
   refine ⟨_, [.obj o _], (.cons (.tmp rfl) .nil), (Sel.weak (.cons tk .nil)), ?_⟩
   rw [(add_form (by omega)).1, (add_form (by omega)).2]; exact ⟨rfl, rfl⟩
  ·first | replace g23 := dT g23 | replace g23 := dF g23 | replace g23 := dFT g23 | replace g23 := dTF g23 | replace g23 := nb_T g23 | replace g23 := nb_F g23 | skip
   first | replace g23 := nL g23 | replace g23 := nM g23 | replace g23 := nN g23 | skip
   refine ws_on rfl rfl ?_
   first | refine w_faddrC O46_0 rfl rfl ?_ | refine w_faddrP O46_0 rfl rfl ?_
   refine ws_on rfl rfl ?_
   first | refine w_ldC1 a3 rfl rfl rdc ?_ | refine w_ldP1 a3 rfl rfl tk rdp ?_
   refine ws_on rfl rfl ?_
   refine w_gtr u3 rfl rfl rfl ?_
   first | refine w_pickT rfl rfl rfl ⟨_, rfl⟩ ?_ | refine w_pickF rfl rfl ⟨_, rfl⟩ rfl ?_ | refine w_pick rfl rfl rfl rfl ?_
   refine w_assign rfl rfl ?_
   refine ws_nil ?_
   refine wc_cond rfl (fun h5 => ?_) (fun h5 => ?_)
   ·first | replace h5 := dT h5 | replace h5 := dF h5 | replace h5 := dFT h5 | replace h5 := dTF h5 | replace h5 := nb_T h5 | replace h5 := nb_F h5 | skip
    first | replace h5 := nL h5 | replace h5 := nM h5 | replace h5 := nN h5 | skip
    refine wc_seq ?_
    refine wc_text ?_
    refine w_assign rfl rfl ?_
    refine ws_nil ?_
    refine wc_ret ?_
    refine ⟨_, [.obj o _], (.cons (.tmp rfl) .nil), (Sel.weak (.cons tk .nil)), ?_⟩
    rw [(add_form (by omega)).1, (add_form (by omega)).2]; exact ⟨rfl, rfl⟩
   ·first | replace h5 := dT h5 | replace h5 := dF h5 | replace h5 := dFT h5 | replace h5 := dTF h5 | replace h5 := nb_T h5 | replace h5 := nb_F h5 | skip
    first | replace h5 := nL h5 | replace h5 := nM h5 | replace h5 := nN h5 | skip
    refine wc_seq ?_
    refine wc_free [0, 1, 3, 7, 15, 31, 15, 15, 143, 399, 975, 1999, 4047, 8191, 16383, 32767] (by kernel_rfl) (by kernel_rfl) (fun F => ?_)
    refine wr_float F 0 rfl (by kernel_rfl) (.inl (by kernel_rfl)) ?_
    refine w_move rfl rfl ?_
    refine ws_nil ?_
    refine wr_float F 1 rfl (by kernel_rfl) (.inl (by kernel_rfl)) ?_
    first | refine w_len rfl rfl (len_lst u52) ?_ | refine w_len rfl rfl (len_slice u52) ?_ | refine w_lenO rfl u52 rfl rfl tk ?_
    refine ws_nil ?_
    refine wr_float F 2 rfl (by kernel_rfl) (.inl (by kernel_rfl)) ?_
    refine w_gtr u3 rfl rfl rfl ?_
    refine ws_nil ?_
    refine wr_float F 3 rfl (by kernel_rfl) (.inl (by kernel_rfl)) ?_
    refine w_move rfl rfl ?_
    refine ws_nil ?_
    refine wr_split (t := 32) rfl (fun g32 => ?_) (fun g32 => ?_)
    ·first | replace g32 := dT g32 | replace g32 := dF g32 | replace g32 := dFT g32 | replace g32 := dTF g32 | replace g32 := nb_T g32 | replace g32 := nb_F g32 | skip
     first | replace g32 := nL g32 | replace g32 := nM g32 | replace g32 := nN g32 | skip
     refine WR.openOwn (v := vk) tk (by omega) (fun oa hoa => ?_)
     subst hoa
     obtain ⟨y, hy⟩ := get_of_lt (l := l) (k := l.length - 1) (by omega)
     refine wr_float F 4 rfl (by kernel_rfl) (.inl (by kernel_rfl)) ?_
     refine ws_on rfl rfl ?_ (hn := rfl)
     first | refine w_faddrC O46_0 rfl rfl ?_ | refine w_faddrP O46_0 rfl rfl ?_
     refine ws_nil ?_
     refine wr_pure F 5 rfl (by kernel_rfl) rfl rfl (pf_ldC1 a3 rfl rdc) (.inr ⟨_, _, _, rfl, rfl, rfl⟩) ?_
     refine wr_float F 6 rfl (by kernel_rfl) (.inl (by kernel_rfl)) ?_
     refine ws_on rfl rfl ?_ (hn := rfl)
     refine w_move rfl rfl ?_
     refine ws_nil ?_
     refine wr_float F 7 rfl (by kernel_rfl) (.inl (by kernel_rfl)) ?_
     refine ws_on rfl rfl ?_ (hn := rfl)
     refine w_move rfl rfl ?_
     refine ws_nil ?_
     refine wr_float F 8 rfl (by kernel_rfl) (.inl (by kernel_rfl)) ?_
     refine ws_on rfl rfl ?_ (hn := rfl)
     first | refine w_len rfl rfl (len_lst u52) ?_ | refine w_len rfl rfl (len_slice u52) ?_ | refine w_lenO rfl u52 rfl rfl tk ?_
     refine ws_nil ?_
     refine wr_float F 9 rfl (by kernel_rfl) (.inl (by kernel_rfl)) ?_
     refine ws_on rfl rfl ?_ (hn := rfl)
     refine w_sub u3 rfl rfl rfl (by omega) ?_
     refine ws_nil ?_
     refine wr_float F 10 rfl (by kernel_rfl) (.inl (by kernel_rfl)) ?_
     refine ws_on rfl rfl ?_ (hn := rfl)
     first | refine w_lidx u52 s46 rfl rfl rfl (by omega) ?_ | refine w_slidx u52 s46 rfl rfl rfl (by omega) ?_
     refine ws_nil ?_
     refine wr_float F 11 rfl (by kernel_rfl) (.inl (by kernel_rfl)) ?_
     refine ws_on rfl rfl ?_ (hn := rfl)
     first | refine w_faddrC O46_0 rfl rfl ?_ | refine w_faddrP O46_0 rfl rfl ?_
     refine ws_nil ?_
     refine wr_next F (l := [12]) (by kernel_rfl) (by simp) (.cons rfl ?_ (.nil))
     refine ws_on rfl rfl ?_ (hn := rfl)
     first | refine w_ldC1 a3 rfl rfl rdc ?_ | refine w_ldP1 a3 rfl rfl tk rdp ?_
     refine ws_nil ?_
     refine wr_float F 13 rfl (by kernel_rfl) (.inl (by kernel_rfl)) ?_
     refine ws_on rfl rfl ?_ (hn := rfl)
     refine w_leq u3 rfl rfl rfl ?_
     refine ws_nil ?_
     refine wr_float F 14 rfl (by kernel_rfl) (.inl (by kernel_rfl)) ?_
     first | refine w_pickT rfl rfl rfl ⟨_, rfl⟩ ?_ | refine w_pickF rfl rfl ⟨_, rfl⟩ rfl ?_ | refine w_pick rfl rfl rfl rfl ?_
     refine ws_nil ?_
     refine wr_float F 15 rfl (by kernel_rfl) (.inl (by kernel_rfl)) ?_
     refine w_assign rfl rfl ?_
     refine ws_nil ?_
     refine wr_end F (by kernel_rfl) ?_
     first | refine WC.closeOwn (o := oa) (m := l.length) tk (flat_length (by intro _; rfl) _) ?_ | skip
     refine wc_cond rfl (fun h7 => ?_) (fun h7 => ?_)
     ·replace h7 := of_decide_eq_true h7
      refine wc_seq ?_
      refine wc_text ?_
      refine w_assign rfl rfl ?_
      refine ws_nil ?_
      refine wc_ret ?_
      refine ⟨_, [.obj o _], (.cons (.tmp rfl) .nil), (Sel.weak (.cons tk .nil)), ?_⟩
      rw [(add_order (by omega) (by omega) hy (by omega)).1, (add_order (by omega) (by omega) hy (by omega)).2]; exact ⟨rfl, rfl⟩
     ·replace h7 := of_decide_eq_false h7
      have ho : ∀ z, l[l.length - 1]? = some z → ¬ x.time ≤ z.time := fun z hz => by rw [hy] at hz; cases hz; exact h7
      refine wc_seq ?_
      refine wc_text ?_
      refine w_move rfl rfl ?_
      first | refine w_len rfl rfl (len_lst u52) ?_ | refine w_len rfl rfl (len_slice u52) ?_ | refine w_lenO rfl u52 rfl rfl tk ?_
      refine w_eql u3 rfl rfl rfl ?_
      refine w_assign rfl rfl ?_
      refine ws_nil ?_
      refine wc_cond rfl (fun h9 => ?_) (fun h9 => ?_)
      ·replace h9 := of_decide_eq_true h9
       refine wc_seq ?_
       refine wc_text ?_
       refine w_assign rfl rfl ?_
       refine ws_nil ?_
       refine wc_ret ?_
       refine ⟨_, [.obj o _], (.cons (.tmp rfl) .nil), (Sel.weak (.cons tk .nil)), ?_⟩
       rw [(add_full (by omega) (by omega) ho (by omega)).1, (add_full (by omega) (by omega) ho (by omega)).2]; exact ⟨rfl, rfl⟩
      ·replace h9 := of_decide_eq_false h9
       have hadd := add_ok (by omega) (by omega) ho h9
       refine wc_stay ?_
       refine wc_text ?_
       refine w_move rfl rfl ?_
       first | refine w_ldC a46 s46 rfl rfl agc ?_ | refine w_ldP a46 s46 rfl rfl tk agp ?_
       refine w_buildSF (cs := [x].flatMap eSm) u52 s46 z46 (by decide) rfl rfl rfl (by decide) rfl rfl ?_
       refine w_appO (enc := eSm) (l := l) (m := [x]) rfl u52 s46 b46 z46 u52 (by simp) rfl rfl rfl tk nw bg bg (fun v51 => ?_)
       refine w_assign rfl rfl ?_
       refine ws_nil ?_
       rw [← outS_one l x]
       refine wc_text ?_
       refine w_add u3 rfl rfl rfl (by omega) ?_
       refine w_move rfl rfl ?_
       refine ws_nil ?_
       exact ⟨⟨(1, v51), Nat.le_refl _, fun _ => hadd⟩, by simp only; omega, (.cons rfl (.cons rfl (.cons rfl (.cons rfl (.cons rfl (.nil _)))))), (Sel.weak (.cons tk (.cons tk .nil)))⟩
    ·first | replace g32 := dT g32 | replace g32 := dF g32 | replace g32 := dFT g32 | replace g32 := dTF g32 | replace g32 := nb_T g32 | replace g32 := nb_F g32 | skip
     first | replace g32 := nL g32 | replace g32 := nM g32 | replace g32 := nN g32 | skip
     refine wr_float F 4 rfl (by kernel_rfl) (.inr (off_of rfl rfl rfl rfl)) ?_
     refine ws_off rfl rfl rfl rfl ?_
     refine ws_nil ?_
     refine wr_float F 5 rfl (by kernel_rfl) (.inr (off_of rfl rfl rfl rfl)) ?_
     refine ws_off rfl rfl rfl rfl ?_
     refine ws_nil ?_
     refine wr_float F 6 rfl (by kernel_rfl) (.inr (off_of rfl rfl rfl rfl)) ?_
     refine ws_off rfl rfl rfl rfl ?_
     refine ws_nil ?_
     refine wr_float F 7 rfl (by kernel_rfl) (.inr (off_of rfl rfl rfl rfl)) ?_
     refine ws_off rfl rfl rfl rfl ?_
     refine ws_nil ?_
     refine wr_float F 8 rfl (by kernel_rfl) (.inr (off_of rfl rfl rfl rfl)) ?_
     refine ws_off rfl rfl rfl rfl ?_
     refine ws_nil ?_
     refine wr_float F 9 rfl (by kernel_rfl) (.inr (off_of rfl rfl rfl rfl)) ?_
     refine ws_off rfl rfl rfl rfl ?_
     refine ws_nil ?_
     refine wr_float F 10 rfl (by kernel_rfl) (.inr (off_of rfl rfl rfl rfl)) ?_
     refine ws_off rfl rfl rfl rfl ?_
     refine ws_nil ?_
     refine wr_float F 11 rfl (by kernel_rfl) (.inr (off_of rfl rfl rfl rfl)) ?_
     refine ws_off rfl rfl rfl rfl ?_
     refine ws_nil ?_
     refine wr_float F 12 rfl (by kernel_rfl) (.inr (off_of rfl rfl rfl rfl)) ?_
     refine ws_off rfl rfl rfl rfl ?_
     refine ws_nil ?_
     refine wr_float F 13 rfl (by kernel_rfl) (.inr (off_of rfl rfl rfl rfl)) ?_
     refine ws_off rfl rfl rfl rfl ?_
     refine ws_nil ?_
     refine wr_float F 14 rfl (by kernel_rfl) (.inl (by kernel_rfl)) ?_
     first | refine w_pickT rfl rfl rfl ⟨_, rfl⟩ ?_ | refine w_pickF rfl rfl ⟨_, rfl⟩ rfl ?_ | refine w_pick rfl rfl rfl rfl ?_
     refine ws_nil ?_
     refine wr_float F 15 rfl (by kernel_rfl) (.inl (by kernel_rfl)) ?_
     refine w_assign rfl rfl ?_
     refine ws_nil ?_
     refine wr_end F (by kernel_rfl) ?_
     first | refine WC.closeOwn (o := oa) (m := l.length) tk (flat_length (by intro _; rfl) _) ?_ | skip
     refine wc_condF rfl ?_
     have ho : ∀ z, l[l.length - 1]? = some z → ¬ x.time ≤ z.time := fun z hz => absurd (List.getElem?_eq_some_iff.mp hz).1 (by omega)
     refine wc_seq ?_
     refine wc_text ?_
     refine w_move rfl rfl ?_
     first | refine w_len rfl rfl (len_lst u52) ?_ | refine w_len rfl rfl (len_slice u52) ?_ | refine w_lenO rfl u52 rfl rfl tk ?_
     refine w_eql u3 rfl rfl rfl ?_
     refine w_assign rfl rfl ?_
     refine ws_nil ?_
     refine wc_cond rfl (fun h9 => ?_) (fun h9 => ?_)
     ·replace h9 := of_decide_eq_true h9
      refine wc_seq ?_
      refine wc_text ?_
      refine w_assign rfl rfl ?_
      refine ws_nil ?_
      refine wc_ret ?_
      refine ⟨_, [.obj o _], (.cons (.tmp rfl) .nil), (Sel.weak (.cons tk .nil)), ?_⟩
      rw [(add_full (by omega) (by omega) ho (by omega)).1, (add_full (by omega) (by omega) ho (by omega)).2]; exact ⟨rfl, rfl⟩
     ·replace h9 := of_decide_eq_false h9
      have hadd := add_ok (by omega) (by omega) ho h9
      refine wc_stay ?_
      refine wc_text ?_
      refine w_move rfl rfl ?_
      first | refine w_ldC a46 s46 rfl rfl agc ?_ | refine w_ldP a46 s46 rfl rfl tk agp ?_
      refine w_buildSF (cs := [x].flatMap eSm) u52 s46 z46 (by decide) rfl rfl rfl (by decide) rfl rfl ?_
      refine w_appO (enc := eSm) (l := l) (m := [x]) rfl u52 s46 b46 z46 u52 (by simp) rfl rfl rfl tk nw bg bg (fun v51 => ?_)
      refine w_assign rfl rfl ?_
      refine ws_nil ?_
      rw [← outS_one l x]
      refine wc_text ?_
      refine w_add u3 rfl rfl rfl (by omega) ?_
      refine w_move rfl rfl ?_
      refine ws_nil ?_
      exact ⟨⟨(1, v51), Nat.le_refl _, fun _ => hadd⟩, by simp only; omega, (.cons rfl (.cons rfl (.cons rfl (.cons rfl (.cons rfl (.nil _)))))), (Sel.weak (.cons tk (.cons tk .nil)))⟩
 ·replace h3 := of_decide_eq_false h3
  obtain rfl : k = 1 := by omega
  have hadd := hkE rfl
  rw [outS_one]
  refine WC.freeze (t := 5) (v' := AL eSm (l ++ [x])) rfl rfl (.ownK rfl tk (flat_done (by intro _; rfl) _)) rfl ?_
  refine wc_exit ?_
  refine wc_seq ?_
  refine wc_text ?_
  refine w_move rfl rfl ?_
  refine w_move rfl rfl ?_
  refine w_nil rfl rfl rfl ?_
  first | refine w_faddrC O108_0 rfl rfl ?_ | refine w_faddrP O108_0 rfl rfl ?_
  refine w_st s52 rfl rfl rfl tk rfl rfl ovw ?_
  refine ws_nil ?_
  refine wc_seq ?_
  refine wc_text ?_
  refine w_assign rfl rfl ?_
  refine ws_nil ?_
  refine wc_ret ?_
  refine ⟨_, [.obj o _], (.cons (.tmp rfl) .nil), (Sel.weak (.cons tk .nil)), ?_⟩
  rw [hadd.1, hadd.2]; exact ⟨rfl, rfl⟩
end Go.Proofs.YtlgofplbbmjdjaaGreatDoor.kx
