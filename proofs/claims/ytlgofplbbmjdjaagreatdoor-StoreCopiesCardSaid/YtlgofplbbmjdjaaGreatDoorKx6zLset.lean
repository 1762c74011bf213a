/-
  The program walked by facts (printed by kx.py).
-/
import Derived.Test.YtlgofplbbmjdjaaGreatDoorKx6zBase
import Derived.Test.YtlgofplbbmjdjaaGreatDoorKx6zBase
import Derived.Test.YtlgofplbbmjdjaaGreatDoorKxCp
import Derived.Test.YtlgofplbbmjdjaaGreatDoorBhLib
import Derived.Test.YtlgofplbbmjdjaaGreatDoorKx6zQuote
namespace Go.Proofs.YtlgofplbbmjdjaaGreatDoor.kx
open Go Go.Proofs Go.Proofs.YtlgofplbbmjdjaaGreatDoor.BH
open Go.Proofs.YtlgofplbbmjdjaaGreatDoor.BH.Rt
open Go.Proofs.YtlgofplbbmjdjaaGreatDoor.BH.Dk (withinV withinV_in)
open Go.Proofs.YtlgofplbbmjdjaaGreatDoor.BH.Kx
set_option maxRecDepth 100000
theorem cmp_LX (lit : Bool) (a b c d : List UInt8) : (cmpF C.P 42 lit).run (.agg [.str a, .str b]) (.agg [.str c, .str d]) = (cnd (same a c) (cnd (same b d) (some true) (some false)) (some false)) := by kernel_rfl
theorem cmp_L (lit : Bool) (x y : LD) : (cmpF C.P 42 lit).run (.agg (eL x)) (.agg (eL y)) = some (decide (x = y)) := by
  obtain ⟨a, b⟩ := x
  obtain ⟨c, d⟩ := y
  refine (cmp_LX lit a b c d).trans ?_
  rw [same_eq, same_eq, Bool.beq_eq_decide_eq, Bool.beq_eq_decide_eq]
  by_cases h1 : a = c <;> by_cases h2 : b = d <;> simp [h1, h2]

theorem cmp_SX (lit : Bool) (a b c d : Int) : (cmpF C.P 46 lit).run (.agg [.int .i64 a, .int .i64 b]) (.agg [.int .i64 c, .int .i64 d]) = (cnd (eqI a c) (cnd (eqI b d) (some true) (some false)) (some false)) := by kernel_rfl
theorem cmp_S (lit : Bool) (x y : SM) : (cmpF C.P 46 lit).run (.agg (eSm x)) (.agg (eSm y)) = some (decide (x = y)) := by
  obtain ⟨a, b⟩ := x
  obtain ⟨c, d⟩ := y
  refine (cmp_SX lit a b c d).trans ?_
  rw [eqI_eq, eqI_eq, Bool.beq_eq_decide_eq, Bool.beq_eq_decide_eq]
  by_cases h1 : a = c <;> by_cases h2 : b = d <;> simp [h1, h2]

theorem rightL_fn (l : List LD) (hl : l.length ≤ 9223372036854775807) : PFn C 40 [AL eL l] (.bool (rightL l)) := by
 refine fn_view rfl rfl (fn := Tryz.f40) rfl rfl rfl rfl rfl ?_
 refine wc_seq ?_
 refine wc_text ?_
 refine w_assign rfl rfl ?_
 refine ws_nil ?_
 refine wc_seq ?_
 refine wc_seq ?_
 refine wc_text ?_
 refine w_move rfl rfl ?_
 first | refine w_len rfl rfl (len_lst u43) ?_ | refine w_len rfl rfl (len_slice u43) ?_ | refine w_lenO rfl u43 rfl rfl tk ?_
 refine w_move rfl rfl ?_
 refine ws_nil ?_
 refine wc_block ?_
 refine wc_loop (σ := { k : Nat // k ≤ l.length ∧ (List.range k).all (stepR l) = true }) (fun u => [(0, AL eL l), (5, AL eL l), (6, .int .i64 (l.length : Nat)), (7, .int .i64 (u.1 : Nat))]) (fun u => []) (fun u => l.length - u.1) ?_ ⟨0, Nat.zero_le _, rfl⟩ (.cons rfl (.cons rfl (.cons rfl (.cons rfl (.nil _))))) (Sel.weak .nil)
 rintro ⟨k, hk, hs⟩
 try dsimp only
 refine wc_seq ?_
 refine wc_text ?_
 refine w_lss u3 rfl rfl rfl ?_
 refine ws_nil ?_
 refine wc_seq ?_
 refine wc_cond rfl (fun h2 => ?_) (fun h2 => ?_)
 ·first | replace h2 := dT h2 | replace h2 := dF h2 | replace h2 := dFT h2 | replace h2 := dTF h2 | replace h2 := nb_T h2 | replace h2 := nb_F h2 | skip
  first | replace h2 := nL h2 | replace h2 := nM h2 | replace h2 := nN h2 | skip
  refine wc_stay ?_
  refine wc_seq ?_
  refine wc_block ?_
  refine wc_seq ?_
  refine wc_text ?_
  obtain ⟨x, hx⟩ := get_of_lt (l := l) (k := k) (by omega)
  refine w_move rfl rfl ?_
  first | refine w_lidx u43 s42 rfl rfl rfl (by omega) ?_ | refine w_slidx u43 s42 rfl rfl rfl (by omega) ?_
  first | refine w_ldC a42 s42 rfl rfl agc ?_ | refine w_ldP a42 s42 rfl rfl tk agp ?_
  refine w_alloc z42 s42 rfl (fun o4 => ?_)
  refine w_assign rfl rfl ?_
  refine w_st s42 rfl rfl rfl tk rfl rfl ovw ?_
  refine ws_nil ?_
  refine WC.freezePtr (t := 4) (cs := eL x) rfl rfl .head rfl ?_
  refine wc_seq ?_
  refine wc_free [0, 1, 3, 7, 15, 31, 63, 127, 255, 511, 1023, 2047, 4095, 8191, 16383, 32767, 65535, 131071, 262143, 524287, 524287, 1572863, 4194303, 8388607, 16777215, 524287, 34078719, 134217727, 268435455, 536870911] (by kernel_rfl) (by kernel_rfl) (fun F => ?_)
  refine wr_float F 0 rfl (by kernel_rfl) (.inl (by kernel_rfl)) ?_
  first | refine w_faddrC O42_0 rfl rfl ?_ | refine w_faddrP O42_0 rfl rfl ?_
  refine ws_nil ?_
  refine wr_pure F 1 rfl (by kernel_rfl) rfl rfl (pf_ldC1 a9 rfl rdc) (.inl rfl) ?_
  refine wr_next F (l := [2]) (by kernel_rfl) (by simp) (.cons rfl ?_ (.nil))
  refine w_call rfl rfl (cw_fn rfl rfl (.cons fz .nil) (word_fn x.name) ?_)
  refine ws_nil ?_
  refine wr_float F 3 rfl (by kernel_rfl) (.inl (by kernel_rfl)) ?_
  refine w_not rfl rfl ?_
  refine ws_nil ?_
  refine wr_float F 4 rfl (by kernel_rfl) (.inl (by kernel_rfl)) ?_
  refine w_move rfl rfl ?_
  refine ws_nil ?_
  refine wr_split (t := 16) rfl (fun g16 => ?_) (fun g16 => ?_)
  ·first | replace g16 := dT g16 | replace g16 := dF g16 | replace g16 := dFT g16 | replace g16 := dTF g16 | replace g16 := nb_T g16 | replace g16 := nb_F g16 | skip
   first | replace g16 := nL g16 | replace g16 := nM g16 | replace g16 := nN g16 | skip
   refine wr_float F 5 rfl (by kernel_rfl) (.inr (off_of rfl rfl rfl rfl)) ?_
   refine ws_off rfl rfl rfl rfl ?_
   refine ws_nil ?_
   refine wr_float F 6 rfl (by kernel_rfl) (.inr (off_of rfl rfl rfl rfl)) ?_
   refine ws_off rfl rfl rfl rfl ?_
   refine ws_nil ?_
   refine wr_float F 7 rfl (by kernel_rfl) (.inr (off_of rfl rfl rfl rfl)) ?_
   refine ws_off rfl rfl rfl rfl ?_
   refine ws_nil ?_
   refine wr_float F 8 rfl (by kernel_rfl) (.inl (by kernel_rfl)) ?_
   first | refine w_pickT rfl rfl rfl ⟨_, rfl⟩ ?_ | refine w_pickF rfl rfl ⟨_, rfl⟩ rfl ?_ | refine w_pick rfl rfl rfl rfl ?_
   refine ws_nil ?_
   refine wr_float F 9 rfl (by kernel_rfl) (.inl (by kernel_rfl)) ?_
   refine w_move rfl rfl ?_
   refine ws_nil ?_
   refine wr_float F 10 rfl (by kernel_rfl) (.inr (off_of rfl rfl rfl rfl)) ?_
   refine ws_off rfl rfl rfl rfl ?_
   refine ws_nil ?_
   refine wr_float F 11 rfl (by kernel_rfl) (.inr (off_of rfl rfl rfl rfl)) ?_
   refine ws_off rfl rfl rfl rfl ?_
   refine ws_nil ?_
   refine wr_float F 12 rfl (by kernel_rfl) (.inr (off_of rfl rfl rfl rfl)) ?_
   refine ws_off rfl rfl rfl rfl ?_
   refine ws_nil ?_
   refine wr_float F 13 rfl (by kernel_rfl) (.inr (off_of rfl rfl rfl rfl)) ?_
   refine ws_off rfl rfl rfl rfl ?_
   refine ws_nil ?_
   refine wr_float F 14 rfl (by kernel_rfl) (.inl (by kernel_rfl)) ?_
   first | refine w_pickT rfl rfl rfl ⟨_, rfl⟩ ?_ | refine w_pickF rfl rfl ⟨_, rfl⟩ rfl ?_ | refine w_pick rfl rfl rfl rfl ?_
   refine ws_nil ?_
   refine wr_float F 15 rfl (by kernel_rfl) (.inl (by kernel_rfl)) ?_
   refine w_move rfl rfl ?_
   refine ws_nil ?_
   refine wr_float F 16 rfl (by kernel_rfl) (.inr (off_of rfl rfl rfl rfl)) ?_
   refine ws_off rfl rfl rfl rfl ?_
   refine ws_nil ?_
   refine wr_float F 17 rfl (by kernel_rfl) (.inr (off_of rfl rfl rfl rfl)) ?_
   refine ws_off rfl rfl rfl rfl ?_
   refine ws_nil ?_
   refine wr_float F 18 rfl (by kernel_rfl) (.inr (off_of rfl rfl rfl rfl)) ?_
   refine ws_off rfl rfl rfl rfl ?_
   refine ws_nil ?_
   refine wr_float F 19 rfl (by kernel_rfl) (.inr (off_undef rfl rfl rfl)) ?_
   refine ws_offU rfl rfl rfl ?_
   refine ws_nil ?_
   refine wr_float F 20 rfl (by kernel_rfl) (.inr (off_undef rfl rfl rfl)) ?_
   refine ws_offU rfl rfl rfl ?_
   refine ws_nil ?_
   refine wr_float F 21 rfl (by kernel_rfl) (.inr (off_undef rfl rfl rfl)) ?_
   refine ws_offU rfl rfl rfl ?_
   refine ws_nil ?_
   refine wr_float F 22 rfl (by kernel_rfl) (.inr (off_undef rfl rfl rfl)) ?_
   refine ws_offU rfl rfl rfl ?_
   refine ws_nil ?_
   refine wr_float F 23 rfl (by kernel_rfl) (.inr (off_undef rfl rfl rfl)) ?_
   refine ws_offU rfl rfl rfl ?_
   refine ws_nil ?_
   refine wr_float F 24 rfl (by kernel_rfl) (.inr (off_undef rfl rfl rfl)) ?_
   refine ws_offU rfl rfl rfl ?_
   refine ws_nil ?_
   refine wr_float F 25 rfl (by kernel_rfl) (.inr (off_undef rfl rfl rfl)) ?_
   refine ws_offU rfl rfl rfl ?_
   refine ws_nil ?_
   refine wr_float F 26 rfl (by kernel_rfl) (.inr (off_undef rfl rfl rfl)) ?_
   refine ws_offU rfl rfl rfl ?_
   refine ws_nil ?_
   refine wr_float F 27 rfl (by kernel_rfl) (.inr (off_undef rfl rfl rfl)) ?_
   refine ws_offU rfl rfl rfl ?_
   refine ws_nil ?_
   refine wr_float F 28 rfl (by kernel_rfl) (.inr (off_of rfl rfl rfl rfl)) ?_
   refine ws_off rfl rfl rfl rfl ?_
   refine ws_nil ?_
   refine wr_float F 29 rfl (by kernel_rfl) (.inl (by kernel_rfl)) ?_
   first | refine w_pickT rfl rfl rfl ⟨_, rfl⟩ ?_ | refine w_pickF rfl rfl ⟨_, rfl⟩ rfl ?_ | refine w_pick rfl rfl rfl rfl ?_
   refine ws_nil ?_
   refine wr_end F (by kernel_rfl) ?_
   refine wc_condT rfl ?_
   refine wc_seq ?_
   refine wc_text ?_
   refine w_assign rfl rfl ?_
   refine ws_nil ?_
   refine wc_ret ?_
   refine ⟨_, (.cons (.tmp rfl) .nil), ?_, rfl⟩
   refine congrArg AV.bool ?_
   first | exact right_not (by omega) (step_word hx g16) | exact right_not (by omega) (step_none hx g21) | exact right_not (by omega) (step_long hx g27) | exact right_not (by omega) (step_order hx hp h4)
  ·first | replace g16 := dT g16 | replace g16 := dF g16 | replace g16 := dFT g16 | replace g16 := dTF g16 | replace g16 := nb_T g16 | replace g16 := nb_F g16 | skip
   first | replace g16 := nL g16 | replace g16 := nM g16 | replace g16 := nN g16 | skip
   refine wr_float F 5 rfl (by kernel_rfl) (.inl (by kernel_rfl)) ?_
   refine ws_on rfl rfl ?_ (hn := rfl)
   first | refine w_faddrC O42_1 rfl rfl ?_ | refine w_faddrP O42_1 rfl rfl ?_
   refine ws_nil ?_
   refine wr_pure F 6 rfl (by kernel_rfl) rfl rfl (pf_ldC1 a9 rfl rdc) (.inr ⟨_, _, _, rfl, rfl, rfl⟩) ?_
   refine wr_float F 7 rfl (by kernel_rfl) (.inl (by kernel_rfl)) ?_
   refine ws_on rfl rfl ?_ (hn := rfl)
   refine w_seql (b := []) u9 rfl rfl rfl ?_
   refine ws_nil ?_
   refine wr_float F 8 rfl (by kernel_rfl) (.inl (by kernel_rfl)) ?_
   first | refine w_pickT rfl rfl rfl ⟨_, rfl⟩ ?_ | refine w_pickF rfl rfl ⟨_, rfl⟩ rfl ?_ | refine w_pick rfl rfl rfl rfl ?_
   refine ws_nil ?_
   refine wr_float F 9 rfl (by kernel_rfl) (.inl (by kernel_rfl)) ?_
   refine w_move rfl rfl ?_
   refine ws_nil ?_
   refine wr_split (t := 21) rfl (fun g21 => ?_) (fun g21 => ?_)
   ·first | replace g21 := dT g21 | replace g21 := dF g21 | replace g21 := dFT g21 | replace g21 := dTF g21 | replace g21 := nb_T g21 | replace g21 := nb_F g21 | skip
    first | replace g21 := nL g21 | replace g21 := nM g21 | replace g21 := nN g21 | skip
    refine wr_float F 10 rfl (by kernel_rfl) (.inr (off_of rfl rfl rfl rfl)) ?_
    refine ws_off rfl rfl rfl rfl ?_
    refine ws_nil ?_
    refine wr_float F 11 rfl (by kernel_rfl) (.inr (off_of rfl rfl rfl rfl)) ?_
    refine ws_off rfl rfl rfl rfl ?_
    refine ws_nil ?_
    refine wr_float F 12 rfl (by kernel_rfl) (.inr (off_of rfl rfl rfl rfl)) ?_
    refine ws_off rfl rfl rfl rfl ?_
    refine ws_nil ?_
    refine wr_float F 13 rfl (by kernel_rfl) (.inr (off_of rfl rfl rfl rfl)) ?_
    refine ws_off rfl rfl rfl rfl ?_
    refine ws_nil ?_
    refine wr_float F 14 rfl (by kernel_rfl) (.inl (by kernel_rfl)) ?_
    first | refine w_pickT rfl rfl rfl ⟨_, rfl⟩ ?_ | refine w_pickF rfl rfl ⟨_, rfl⟩ rfl ?_ | refine w_pick rfl rfl rfl rfl ?_
    refine ws_nil ?_
    refine wr_float F 15 rfl (by kernel_rfl) (.inl (by kernel_rfl)) ?_
    refine w_move rfl rfl ?_
    refine ws_nil ?_
    refine wr_float F 16 rfl (by kernel_rfl) (.inr (off_of rfl rfl rfl rfl)) ?_
    refine ws_off rfl rfl rfl rfl ?_
    refine ws_nil ?_
    refine wr_float F 17 rfl (by kernel_rfl) (.inr (off_of rfl rfl rfl rfl)) ?_
    refine ws_off rfl rfl rfl rfl ?_
    refine ws_nil ?_
    refine wr_float F 18 rfl (by kernel_rfl) (.inr (off_of rfl rfl rfl rfl)) ?_
    refine ws_off rfl rfl rfl rfl ?_
    refine ws_nil ?_
    refine wr_float F 19 rfl (by kernel_rfl) (.inr (off_undef rfl rfl rfl)) ?_
    refine ws_offU rfl rfl rfl ?_
    refine ws_nil ?_
    refine wr_float F 20 rfl (by kernel_rfl) (.inr (off_undef rfl rfl rfl)) ?_
    refine ws_offU rfl rfl rfl ?_
    refine ws_nil ?_
    refine wr_float F 21 rfl (by kernel_rfl) (.inr (off_undef rfl rfl rfl)) ?_
    refine ws_offU rfl rfl rfl ?_
    refine ws_nil ?_
    refine wr_float F 22 rfl (by kernel_rfl) (.inr (off_undef rfl rfl rfl)) ?_
    refine ws_offU rfl rfl rfl ?_
    refine ws_nil ?_
    refine wr_float F 23 rfl (by kernel_rfl) (.inr (off_undef rfl rfl rfl)) ?_
    refine ws_offU rfl rfl rfl ?_
    refine ws_nil ?_
    refine wr_float F 24 rfl (by kernel_rfl) (.inr (off_undef rfl rfl rfl)) ?_
    refine ws_offU rfl rfl rfl ?_
    refine ws_nil ?_
    refine wr_float F 25 rfl (by kernel_rfl) (.inr (off_undef rfl rfl rfl)) ?_
    refine ws_offU rfl rfl rfl ?_
    refine ws_nil ?_
    refine wr_float F 26 rfl (by kernel_rfl) (.inr (off_undef rfl rfl rfl)) ?_
    refine ws_offU rfl rfl rfl ?_
    refine ws_nil ?_
    refine wr_float F 27 rfl (by kernel_rfl) (.inr (off_undef rfl rfl rfl)) ?_
    refine ws_offU rfl rfl rfl ?_
    refine ws_nil ?_
    refine wr_float F 28 rfl (by kernel_rfl) (.inr (off_of rfl rfl rfl rfl)) ?_
    refine ws_off rfl rfl rfl rfl ?_
    refine ws_nil ?_
    refine wr_float F 29 rfl (by kernel_rfl) (.inl (by kernel_rfl)) ?_
    first | refine w_pickT rfl rfl rfl ⟨_, rfl⟩ ?_ | refine w_pickF rfl rfl ⟨_, rfl⟩ rfl ?_ | refine w_pick rfl rfl rfl rfl ?_
    refine ws_nil ?_
    refine wr_end F (by kernel_rfl) ?_
    refine wc_condT rfl ?_
    refine wc_seq ?_
    refine wc_text ?_
    refine w_assign rfl rfl ?_
    refine ws_nil ?_
    refine wc_ret ?_
    refine ⟨_, (.cons (.tmp rfl) .nil), ?_, rfl⟩
    refine congrArg AV.bool ?_
    first | exact right_not (by omega) (step_word hx g16) | exact right_not (by omega) (step_none hx g21) | exact right_not (by omega) (step_long hx g27) | exact right_not (by omega) (step_order hx hp h4)
   ·first | replace g21 := dT g21 | replace g21 := dF g21 | replace g21 := dFT g21 | replace g21 := dTF g21 | replace g21 := nb_T g21 | replace g21 := nb_F g21 | skip
    first | replace g21 := nL g21 | replace g21 := nM g21 | replace g21 := nN g21 | skip
    refine wr_float F 10 rfl (by kernel_rfl) (.inl (by kernel_rfl)) ?_
    refine ws_on rfl rfl ?_ (hn := rfl)
    first | refine w_faddrC O42_1 rfl rfl ?_ | refine w_faddrP O42_1 rfl rfl ?_
    refine ws_nil ?_
    refine wr_pure F 11 rfl (by kernel_rfl) rfl rfl (pf_ldC1 a9 rfl rdc) (.inr ⟨_, _, _, rfl, rfl, rfl⟩) ?_
    refine wr_float F 12 rfl (by kernel_rfl) (.inl (by kernel_rfl)) ?_
    refine ws_on rfl rfl ?_ (hn := rfl)
    refine w_len rfl rfl (len_str u9) ?_
    refine ws_nil ?_
    refine wr_float F 13 rfl (by kernel_rfl) (.inl (by kernel_rfl)) ?_
    refine ws_on rfl rfl ?_ (hn := rfl)
    refine w_gtr u3 rfl rfl rfl ?_
    refine ws_nil ?_
    refine wr_float F 14 rfl (by kernel_rfl) (.inl (by kernel_rfl)) ?_
    first | refine w_pickT rfl rfl rfl ⟨_, rfl⟩ ?_ | refine w_pickF rfl rfl ⟨_, rfl⟩ rfl ?_ | refine w_pick rfl rfl rfl rfl ?_
    refine ws_nil ?_
    refine wr_float F 15 rfl (by kernel_rfl) (.inl (by kernel_rfl)) ?_
    refine w_move rfl rfl ?_
    refine ws_nil ?_
    refine wr_split (t := 27) rfl (fun g27 => ?_) (fun g27 => ?_)
    ·first | replace g27 := dT g27 | replace g27 := dF g27 | replace g27 := dFT g27 | replace g27 := dTF g27 | replace g27 := nb_T g27 | replace g27 := nb_F g27 | skip
     first | replace g27 := nL g27 | replace g27 := nM g27 | replace g27 := nN g27 | skip
     refine wr_float F 16 rfl (by kernel_rfl) (.inr (off_of rfl rfl rfl rfl)) ?_
     refine ws_off rfl rfl rfl rfl ?_
     refine ws_nil ?_
     refine wr_float F 17 rfl (by kernel_rfl) (.inr (off_of rfl rfl rfl rfl)) ?_
     refine ws_off rfl rfl rfl rfl ?_
     refine ws_nil ?_
     refine wr_float F 18 rfl (by kernel_rfl) (.inr (off_of rfl rfl rfl rfl)) ?_
     refine ws_off rfl rfl rfl rfl ?_
     refine ws_nil ?_
     refine wr_float F 19 rfl (by kernel_rfl) (.inr (off_undef rfl rfl rfl)) ?_
     refine ws_offU rfl rfl rfl ?_
     refine ws_nil ?_
     refine wr_float F 20 rfl (by kernel_rfl) (.inr (off_undef rfl rfl rfl)) ?_
     refine ws_offU rfl rfl rfl ?_
     refine ws_nil ?_
     refine wr_float F 21 rfl (by kernel_rfl) (.inr (off_undef rfl rfl rfl)) ?_
     refine ws_offU rfl rfl rfl ?_
     refine ws_nil ?_
     refine wr_float F 22 rfl (by kernel_rfl) (.inr (off_undef rfl rfl rfl)) ?_
     refine ws_offU rfl rfl rfl ?_
     refine ws_nil ?_
     refine wr_float F 23 rfl (by kernel_rfl) (.inr (off_undef rfl rfl rfl)) ?_
     refine ws_offU rfl rfl rfl ?_
     refine ws_nil ?_
     refine wr_float F 24 rfl (by kernel_rfl) (.inr (off_undef rfl rfl rfl)) ?_
     refine ws_offU rfl rfl rfl ?_
     refine ws_nil ?_
     refine wr_float F 25 rfl (by kernel_rfl) (.inr (off_undef rfl rfl rfl)) ?_
     refine ws_offU rfl rfl rfl ?_
     refine ws_nil ?_
     refine wr_float F 26 rfl (by kernel_rfl) (.inr (off_undef rfl rfl rfl)) ?_
     refine ws_offU rfl rfl rfl ?_
     refine ws_nil ?_
     refine wr_float F 27 rfl (by kernel_rfl) (.inr (off_undef rfl rfl rfl)) ?_
     refine ws_offU rfl rfl rfl ?_
     refine ws_nil ?_
     refine wr_float F 28 rfl (by kernel_rfl) (.inr (off_of rfl rfl rfl rfl)) ?_
     refine ws_off rfl rfl rfl rfl ?_
     refine ws_nil ?_
     refine wr_float F 29 rfl (by kernel_rfl) (.inl (by kernel_rfl)) ?_
     first | refine w_pickT rfl rfl rfl ⟨_, rfl⟩ ?_ | refine w_pickF rfl rfl ⟨_, rfl⟩ rfl ?_ | refine w_pick rfl rfl rfl rfl ?_
     refine ws_nil ?_
     refine wr_end F (by kernel_rfl) ?_
     refine wc_condT rfl ?_
     refine wc_seq ?_
     refine wc_text ?_
     refine w_assign rfl rfl ?_
     refine ws_nil ?_
     refine wc_ret ?_
     refine ⟨_, (.cons (.tmp rfl) .nil), ?_, rfl⟩
     refine congrArg AV.bool ?_
     first | exact right_not (by omega) (step_word hx g16) | exact right_not (by omega) (step_none hx g21) | exact right_not (by omega) (step_long hx g27) | exact right_not (by omega) (step_order hx hp h4)
    ·first | replace g27 := dT g27 | replace g27 := dF g27 | replace g27 := dFT g27 | replace g27 := dTF g27 | replace g27 := nb_T g27 | replace g27 := nb_F g27 | skip
     first | replace g27 := nL g27 | replace g27 := nM g27 | replace g27 := nN g27 | skip
     refine wr_float F 16 rfl (by kernel_rfl) (.inl (by kernel_rfl)) ?_
     refine ws_on rfl rfl ?_ (hn := rfl)
     refine w_move rfl rfl ?_
     refine ws_nil ?_
     refine wr_float F 17 rfl (by kernel_rfl) (.inl (by kernel_rfl)) ?_
     refine ws_on rfl rfl ?_ (hn := rfl)
     refine w_gtr u3 rfl rfl rfl ?_
     refine ws_nil ?_
     refine wr_float F 18 rfl (by kernel_rfl) (.inl (by kernel_rfl)) ?_
     refine ws_on rfl rfl ?_ (hn := rfl)
     refine w_move rfl rfl ?_
     refine ws_nil ?_
     refine wr_split (t := 30) rfl (fun g30 => ?_) (fun g30 => ?_)
     ·first | replace g30 := dT g30 | replace g30 := dF g30 | replace g30 := dFT g30 | replace g30 := dTF g30 | replace g30 := nb_T g30 | replace g30 := nb_F g30 | skip
      first | replace g30 := nL g30 | replace g30 := nM g30 | replace g30 := nN g30 | skip
      obtain ⟨j, rfl⟩ : ∃ j, k = j + 1 := ⟨k - 1, by omega⟩
      obtain ⟨p, hp⟩ := get_of_lt (l := l) (k := j) (by omega)
      refine wr_float F 19 rfl (by kernel_rfl) (.inl (by kernel_rfl)) ?_
      refine ws_on rfl rfl ?_ (hn := rfl)
      refine w_move rfl rfl ?_
      refine ws_nil ?_
      refine wr_float F 20 rfl (by kernel_rfl) (.inl (by kernel_rfl)) ?_
      refine ws_on rfl rfl ?_ (hn := rfl)
      refine w_move rfl rfl ?_
      refine ws_nil ?_
      refine wr_float F 21 rfl (by kernel_rfl) (.inl (by kernel_rfl)) ?_
      refine ws_on rfl rfl ?_ (hn := rfl)
      refine w_sub u3 rfl rfl rfl (by omega) ?_
      refine ws_nil ?_
      refine wr_float F 22 rfl (by kernel_rfl) (.inl (by kernel_rfl)) ?_
      refine ws_on rfl rfl ?_ (hn := rfl)
      first | refine w_lidx u43 s42 rfl rfl rfl (by omega) ?_ | refine w_slidx u43 s42 rfl rfl rfl (by omega) ?_
      refine ws_nil ?_
      refine wr_float F 23 rfl (by kernel_rfl) (.inl (by kernel_rfl)) ?_
      refine ws_on rfl rfl ?_ (hn := rfl)
      first | refine w_faddrC O42_0 rfl rfl ?_ | refine w_faddrP O42_0 rfl rfl ?_
      refine ws_nil ?_
      refine wr_pure F 24 rfl (by kernel_rfl) rfl rfl (pf_ldC1 a9 rfl rdc) (.inr ⟨_, _, _, rfl, rfl, rfl⟩) ?_
      refine wr_float F 25 rfl (by kernel_rfl) (.inl (by kernel_rfl)) ?_
      refine ws_on rfl rfl ?_ (hn := rfl)
      first | refine w_faddrC O42_0 rfl rfl ?_ | refine w_faddrP O42_0 rfl rfl ?_
      refine ws_nil ?_
      refine wr_pure F 26 rfl (by kernel_rfl) rfl rfl (pf_ldC1 a9 rfl rdc) (.inr ⟨_, _, _, rfl, rfl, rfl⟩) ?_
      refine wr_float F 27 rfl (by kernel_rfl) (.inl (by kernel_rfl)) ?_
      refine ws_on rfl rfl ?_ (hn := rfl)
      refine w_sgeq u9 rfl rfl rfl ?_
      refine ws_nil ?_
      refine wr_float F 28 rfl (by kernel_rfl) (.inl (by kernel_rfl)) ?_
      refine ws_on rfl rfl ?_ (hn := rfl)
      first | refine w_pickT rfl rfl rfl ⟨_, rfl⟩ ?_ | refine w_pickF rfl rfl ⟨_, rfl⟩ rfl ?_ | refine w_pick rfl rfl rfl rfl ?_
      refine ws_nil ?_
      refine wr_float F 29 rfl (by kernel_rfl) (.inl (by kernel_rfl)) ?_
      first | refine w_pickT rfl rfl rfl ⟨_, rfl⟩ ?_ | refine w_pickF rfl rfl ⟨_, rfl⟩ rfl ?_ | refine w_pick rfl rfl rfl rfl ?_
      refine ws_nil ?_
      refine wr_end F (by kernel_rfl) ?_
      refine wc_cond rfl (fun h4 => ?_) (fun h4 => ?_)
      ·replace h4 := nb_T h4
       refine wc_seq ?_
       refine wc_text ?_
       refine w_assign rfl rfl ?_
       refine ws_nil ?_
       refine wc_ret ?_
       refine ⟨_, (.cons (.tmp rfl) .nil), ?_, rfl⟩
       refine congrArg AV.bool ?_
       first | exact right_not (by omega) (step_word hx g16) | exact right_not (by omega) (step_none hx g21) | exact right_not (by omega) (step_long hx g27) | exact right_not (by omega) (step_order hx hp h4)
      ·replace h4 := nb_F h4
       refine wc_stay ?_
       refine wc_text ?_
       refine w_add u3 rfl rfl rfl (by omega) ?_
       refine w_move rfl rfl ?_
       refine ws_nil ?_
       exact ⟨⟨j + 1 + 1, by omega, range_all hs (step_succ hx hp g16 g21 g27 h4)⟩, by simp only; omega, (.cons rfl (.cons rfl (.cons rfl (.cons rfl (.nil _))))), (Sel.weak .nil)⟩
     ·first | replace g30 := dT g30 | replace g30 := dF g30 | replace g30 := dFT g30 | replace g30 := dTF g30 | replace g30 := nb_T g30 | replace g30 := nb_F g30 | skip
      first | replace g30 := nL g30 | replace g30 := nM g30 | replace g30 := nN g30 | skip
      refine wr_float F 19 rfl (by kernel_rfl) (.inr (off_of rfl rfl rfl rfl)) ?_
      refine ws_off rfl rfl rfl rfl ?_
      refine ws_nil ?_
      refine wr_float F 20 rfl (by kernel_rfl) (.inr (off_of rfl rfl rfl rfl)) ?_
      refine ws_off rfl rfl rfl rfl ?_
      refine ws_nil ?_
      refine wr_float F 21 rfl (by kernel_rfl) (.inr (off_of rfl rfl rfl rfl)) ?_
      refine ws_off rfl rfl rfl rfl ?_
      refine ws_nil ?_
      refine wr_float F 22 rfl (by kernel_rfl) (.inr (off_of rfl rfl rfl rfl)) ?_
      refine ws_off rfl rfl rfl rfl ?_
      refine ws_nil ?_
      refine wr_float F 23 rfl (by kernel_rfl) (.inr (off_of rfl rfl rfl rfl)) ?_
      refine ws_off rfl rfl rfl rfl ?_
      refine ws_nil ?_
      refine wr_float F 24 rfl (by kernel_rfl) (.inr (off_of rfl rfl rfl rfl)) ?_
      refine ws_off rfl rfl rfl rfl ?_
      refine ws_nil ?_
      refine wr_float F 25 rfl (by kernel_rfl) (.inr (off_of rfl rfl rfl rfl)) ?_
      refine ws_off rfl rfl rfl rfl ?_
      refine ws_nil ?_
      refine wr_float F 26 rfl (by kernel_rfl) (.inr (off_of rfl rfl rfl rfl)) ?_
      refine ws_off rfl rfl rfl rfl ?_
      refine ws_nil ?_
      refine wr_float F 27 rfl (by kernel_rfl) (.inr (off_of rfl rfl rfl rfl)) ?_
      refine ws_off rfl rfl rfl rfl ?_
      refine ws_nil ?_
      refine wr_float F 28 rfl (by kernel_rfl) (.inl (by kernel_rfl)) ?_
      refine ws_on rfl rfl ?_ (hn := rfl)
      first | refine w_pickT rfl rfl rfl ⟨_, rfl⟩ ?_ | refine w_pickF rfl rfl ⟨_, rfl⟩ rfl ?_ | refine w_pick rfl rfl rfl rfl ?_
      refine ws_nil ?_
      refine wr_float F 29 rfl (by kernel_rfl) (.inl (by kernel_rfl)) ?_
      first | refine w_pickT rfl rfl rfl ⟨_, rfl⟩ ?_ | refine w_pickF rfl rfl ⟨_, rfl⟩ rfl ?_ | refine w_pick rfl rfl rfl rfl ?_
      refine ws_nil ?_
      refine wr_end F (by kernel_rfl) ?_
      refine wc_condF rfl ?_
      refine wc_stay ?_
      refine wc_text ?_
      refine w_add u3 rfl rfl rfl (by omega) ?_
      refine w_move rfl rfl ?_
      refine ws_nil ?_
      exact ⟨⟨k + 1, by omega, range_all hs (step_zero hx g16 g21 g27 g30)⟩, by simp only; omega, (.cons rfl (.cons rfl (.cons rfl (.cons rfl (.nil _))))), (Sel.weak .nil)⟩
 ·first | replace h2 := dT h2 | replace h2 := dF h2 | replace h2 := dFT h2 | replace h2 := dTF h2 | replace h2 := nb_T h2 | replace h2 := nb_F h2 | skip
  first | replace h2 := nL h2 | replace h2 := nM h2 | replace h2 := nN h2 | skip
  refine wc_exit ?_
  refine wc_seq ?_
  refine wc_text ?_
  refine w_move rfl rfl ?_
  first | refine w_len rfl rfl (len_lst u43) ?_ | refine w_len rfl rfl (len_slice u43) ?_ | refine w_lenO rfl u43 rfl rfl tk ?_
  refine w_leq u3 rfl rfl rfl ?_
  refine w_assign rfl rfl ?_
  refine ws_nil ?_
  refine wc_ret ?_
  refine ⟨_, (.cons (.tmp rfl) .nil), ?_, rfl⟩
  exact congrArg AV.bool ((right_all (by omega) hs).trans (by congr 1; exact propext (by omega)))

theorem quote_fn (s : List UInt8) (hs : s.length ≤ 1000000) : PFn C 160 [.str s] (.str (quoteV s)) := text_pfn (fn := Tryz.f160) rfl rfl rfl rfl s _ fun w => Tryz.quote_walk s hs w
theorem join_fn (l : List (List UInt8)) (sep : List UInt8) (hl : l.length ≤ 140737488355328) (hlen : (sep.intercalate l).length ≤ 140737488355328) : PFn C 161 [AL eS l, .str sep] (.str (sep.intercalate l)) :=
  join_pfn (fn := Tryz.f161) rfl rfl rfl rfl (fun bk o c xs sep w h1 h2 h3 h4 h5 => Any.strings_Join Tryz.laysJoin Tryz.XJoin bk o c xs sep w h1 h2 h3 h4 h5) (fun a c sep w => Any.strings_Join_none Tryz.laysJoin Tryz.XJoin a c sep w) l sep hl hlen
theorem cmpstr_fn (a b : List UInt8) : PFn C 178 [.str a, .str b] (.int .i64 (cmpV a b)) := by
  refine pfn_run (N := 1) (h' := AHeap.empty) rfl rfl rfl ?_
  show (externF "internal/bytealg.abigen_runtime_cmpstring").run [.str a, .str b] AHeap.empty = _
  unfold externF
  rw [if_neg (by decide), if_pos rfl]; rfl

theorem print_fn (l : List LD) (hl : l.length ≤ 9223372036854775807) : PFn C 124 [AL eL l] (.str (printL l)) := by
 refine fn_view rfl rfl (fn := Tryz.f124) rfl rfl rfl rfl rfl ?_
 refine wc_seq ?_
 refine wc_text ?_
 refine w_assign (v := .str []) rfl rfl ?_
 refine ws_nil ?_
 refine wc_seq ?_
 refine wc_seq ?_
 refine wc_text ?_
 refine w_move rfl rfl ?_
 refine w_call rfl rfl (cw_fn rfl rfl (.cons fz .nil) (rightL_fn _ (by first | assumption | omega)) ?_)
 refine w_not rfl rfl ?_
 refine ws_nil ?_
 refine wc_cond rfl (fun h1 => ?_) (fun h1 => ?_)
 ·replace h1 := nb_T h1
  refine wc_seq ?_
  refine wc_text ?_
  refine w_assign (v := .str []) rfl rfl ?_
  refine ws_nil ?_
  refine wc_ret ?_
  refine ⟨_, (.cons (.tmp rfl) .nil), ?_, rfl⟩
  refine congrArg AV.str ?_
  unfold printL; rw [h1]; rfl
 ·replace h1 := nb_F h1
  refine wc_stay ?_
  refine wc_seq ?_
  refine wc_text ?_
  refine w_assign rfl rfl ?_
  refine ws_nil ?_
  have hl6 := right_six h1
  refine WC.ownNil 9 1 ?_
  refine wc_seq ?_
  refine wc_seq ?_
  refine wc_text ?_
  refine w_move rfl rfl ?_
  first | refine w_len rfl rfl (len_lst u43) ?_ | refine w_len rfl rfl (len_slice u43) ?_ | refine w_lenO rfl u43 rfl rfl tk ?_
  refine w_move rfl rfl ?_
  refine ws_nil ?_
  refine wc_block ?_
  refine wc_loop (σ := { u : Nat × AV // u.1 ≤ l.length }) (fun u => [(0, AL eL l), (3, u.1.2), (9, AL eL l), (10, .int .i64 (l.length : Nat)), (11, .int .i64 (u.1.1 : Nat))]) (fun u => [.own u.1.2 9 1 (((l.take u.1.1).map partL).flatMap eS) ((l.take u.1.1).map partL).length]) (fun u => l.length - u.1.1) ?_ ⟨(0, nilSlice), Nat.zero_le _⟩ (.cons rfl (.cons rfl (.cons rfl (.cons rfl (.cons rfl (.nil _)))))) (Sel.weak (.cons tk .nil))
  rintro ⟨⟨k, vk⟩, hk⟩
  try dsimp only
  simp only at hk
  refine wc_seq ?_
  refine wc_text ?_
  refine w_lss u3 rfl rfl rfl ?_
  refine ws_nil ?_
  refine wc_seq ?_
  refine wc_cond rfl (fun h5 => ?_) (fun h5 => ?_)
  ·replace h5 := of_decide_eq_true h5
   refine wc_stay ?_
   refine wc_seq ?_
   refine wc_block ?_
   refine wc_seq ?_
   refine wc_text ?_
   obtain ⟨x, hx⟩ := get_of_lt (l := l) (k := k) (by omega)
   first | refine w_lidx u43 s42 rfl rfl rfl (by omega) ?_ | refine w_slidx u43 s42 rfl rfl rfl (by omega) ?_
   first | refine w_ldC a42 s42 rfl rfl agc ?_ | refine w_ldP a42 s42 rfl rfl tk agp ?_
   refine w_alloc z42 s42 rfl (fun o5 => ?_)
   refine w_st s42 rfl rfl rfl tk rfl rfl ovw ?_
   refine ws_nil ?_
   refine WC.freezePtr (t := 5) (cs := eL x) rfl rfl .head rfl ?_
   refine wc_free [0, 0, 2, 6, 0, 16, 48, 126, 254, 511, 1023] (by kernel_rfl) (by kernel_rfl) (fun F => ?_)
   have hox := right_ok h1 hx
   have hn24 := ok_name hox
   have hv24 := (ok_value hox).1
   have hq24 := quote_len x.value
   refine wr_float F 0 rfl (by kernel_rfl) (.inl (by kernel_rfl)) ?_
   refine w_move rfl rfl ?_
   refine ws_nil ?_
   refine wr_float F 1 rfl (by kernel_rfl) (.inl (by kernel_rfl)) ?_
   first | refine w_faddrC O42_0 rfl rfl ?_ | refine w_faddrP O42_0 rfl rfl ?_
   refine ws_nil ?_
   refine wr_pure F 2 rfl (by kernel_rfl) rfl rfl (pf_ldC1 a9 rfl rdc) (.inl rfl) ?_
   refine wr_float F 3 rfl (by kernel_rfl) (.inl (by kernel_rfl)) ?_
   refine w_sadd (b := [61]) u9 rfl rfl rfl (by first | omega | (simp only [List.length_append, List.length_cons, List.length_nil]; omega)) ?_
   refine ws_nil ?_
   refine wr_float F 4 rfl (by kernel_rfl) (.inl (by kernel_rfl)) ?_
   first | refine w_faddrC O42_1 rfl rfl ?_ | refine w_faddrP O42_1 rfl rfl ?_
   refine ws_nil ?_
   refine wr_pure F 5 rfl (by kernel_rfl) rfl rfl (pf_ldC1 a9 rfl rdc) (.inl rfl) ?_
   refine wr_next F (l := [6]) (by kernel_rfl) (by simp) (.cons rfl ?_ (.nil))
   refine w_call rfl rfl (cw_fn rfl rfl (.cons fz .nil) (quote_fn x.value (by omega)) ?_)
   refine ws_nil ?_
   refine wr_float F 7 rfl (by kernel_rfl) (.inl (by kernel_rfl)) ?_
   refine w_sadd u9 rfl rfl rfl (by first | omega | (simp only [List.length_append, List.length_cons, List.length_nil]; omega)) ?_
   refine ws_nil ?_
   refine wr_next F (l := [8]) (by kernel_rfl) (by simp) (.cons rfl ?_ (.nil))
   refine w_buildSF (cs := [x.name ++ [61] ++ quoteV x.value].flatMap eS) u59 s9 z9 (by decide) rfl rfl rfl (by decide) rfl rfl ?_
   refine ws_nil ?_
   refine wr_next F (l := [9]) (by kernel_rfl) (by simp) (.cons rfl ?_ (.nil))
   have hlm : ((l.take k).map partL).length = k := by rw [List.length_map, List.length_take]; omega
   refine w_appO (enc := eS) (l := (l.take k).map partL) (m := [x.name ++ [61] ++ quoteV x.value]) rfl u59 s9 b9 z9 u59 (by simp) rfl rfl rfl tk nw bg bg (fun v24 => ?_)
   refine ws_nil ?_
   refine wr_float F 10 rfl (by kernel_rfl) (.inl (by kernel_rfl)) ?_
   refine w_assign rfl rfl ?_
   refine ws_nil ?_
   refine wr_end F (by kernel_rfl) ?_
   rw [show (l.take k).map partL ++ [x.name ++ [61] ++ quoteV x.value] = (l.take (k + 1)).map partL by rw [take_one hx, List.map_append, List.map_cons, List.map_nil]; unfold partL; simp]
   refine wc_text ?_
   refine w_add u3 rfl rfl rfl (by omega) ?_
   refine w_move rfl rfl ?_
   refine ws_nil ?_
   exact ⟨⟨(k + 1, v24), (by omega : k + 1 ≤ l.length)⟩, by simp only; omega, (.cons rfl (.cons rfl (.cons rfl (.cons rfl (.cons rfl (.nil _)))))), (Sel.weak (.cons tk .nil))⟩
  ·replace h5 := of_decide_eq_false h5
   rw [List.take_of_length_le (by omega : l.length ≤ k)]
   have hpl := parts_len h1
   refine wc_exit ?_
   refine wc_seq ?_
   refine wc_text ?_
   refine w_move rfl rfl ?_
   refine w_call rfl rfl (cw_fn rfl rfl (.cons fz (.cons fz .nil)) (join_fn (l.map partL) [44] (by rw [List.length_map]; omega) (by omega)) ?_)
   refine w_sadd (a := [123]) u9 rfl rfl rfl (by first | omega | (simp only [List.length_append, List.length_cons, List.length_nil]; omega)) ?_
   refine w_sadd (b := [125]) u9 rfl rfl rfl (by first | omega | (simp only [List.length_append, List.length_cons, List.length_nil]; omega)) ?_
   refine w_assign rfl rfl ?_
   refine ws_nil ?_
   refine wc_ret ?_
   refine ⟨_, (.cons (.tmp rfl) .nil), ?_, rfl⟩
   refine congrArg AV.str ?_
   unfold printL; rw [h1]; rfl

theorem cmpS_fn (a b : List UInt8) : PFn C 159 [.str a, .str b] (.int .i64 (cmpV a b)) := by
 refine fn_view rfl rfl (fn := Tryz.f159) rfl rfl rfl rfl rfl ?_
 refine wc_seq ?_
 refine wc_text ?_
 refine w_assign rfl rfl ?_
 refine ws_nil ?_
 refine wc_seq ?_
 refine wc_text ?_
 refine w_move rfl rfl ?_
 refine w_move rfl rfl ?_
 refine w_call rfl rfl (cw_fn rfl rfl (.cons fz (.cons fz .nil)) (cmpstr_fn _ _) ?_)
 refine w_assign rfl rfl ?_
 refine ws_nil ?_
 refine wc_ret ?_
 refine ⟨_, (.cons (.tmp rfl) .nil), ?_, rfl⟩
 first | rfl | simp [oneOf]

theorem compS_fn (a b : List UInt8) : PFn C 123 [.str a, .str b] (.int .i64 (cmpV a b)) := by
 refine fn_view rfl rfl (fn := Tryz.f123) rfl rfl rfl rfl rfl ?_
 refine wc_seq ?_
 refine wc_text ?_
 refine w_assign rfl rfl ?_
 refine ws_nil ?_
 refine wc_seq ?_
 refine wc_text ?_
 refine w_move rfl rfl ?_
 refine w_move rfl rfl ?_
 refine w_call rfl rfl (cw_fn rfl rfl (.cons fz (.cons fz .nil)) (cmpS_fn _ _) ?_)
 refine w_assign rfl rfl ?_
 refine ws_nil ?_
 refine wc_ret ?_
 refine ⟨_, (.cons (.tmp rfl) .nil), ?_, rfl⟩
 first | rfl | simp [oneOf]

theorem compare_fn (a b : List LD) (ha : a.length ≤ 9223372036854775807) (hb : b.length ≤ 9223372036854775807) : PFn C 79 [AL eL a, AL eL b] (.int .i64 (compL a b)) := by
 refine fn_view rfl rfl (fn := Tryz.f79) rfl rfl rfl rfl rfl ?_
 refine wc_seq ?_
 refine wc_text ?_
 refine w_assign rfl rfl ?_
 refine ws_nil ?_
 refine wc_seq ?_
 refine wc_text ?_
 refine w_move rfl rfl ?_
 refine w_call rfl rfl (cw_fn rfl rfl (.cons fz .nil) (print_fn _ (by first | assumption | omega)) ?_)
 refine w_move rfl rfl ?_
 refine w_call rfl rfl (cw_fn rfl rfl (.cons fz .nil) (print_fn _ (by first | assumption | omega)) ?_)
 refine w_call rfl rfl (cw_fn rfl rfl (.cons fz (.cons fz .nil)) (compS_fn _ _) ?_)
 refine w_assign rfl rfl ?_
 refine ws_nil ?_
 refine wc_ret ?_
 refine ⟨_, (.cons (.tmp rfl) .nil), ?_, rfl⟩
 first | rfl | simp [oneOf]

theorem sameL_fn (l m : List LD) (hl : l.length ≤ 9223372036854775806) : PFn C 50 [AL eL l, AL eL m] (.bool (decide (l = m))) := by
 refine fn_view rfl rfl (fn := Tryz.f50) rfl rfl rfl rfl rfl ?_
 refine wc_seq ?_
 refine wc_text ?_
 refine w_assign rfl rfl ?_
 refine ws_nil ?_
 refine wc_seq ?_
 refine wc_seq ?_
 refine wc_text ?_
 refine w_move rfl rfl ?_
 first | refine w_len rfl rfl (len_lst u43) ?_ | refine w_len rfl rfl (len_slice u43) ?_ | refine w_lenO rfl u43 rfl rfl tk ?_
 refine w_move rfl rfl ?_
 first | refine w_len rfl rfl (len_lst u43) ?_ | refine w_len rfl rfl (len_slice u43) ?_ | refine w_lenO rfl u43 rfl rfl tk ?_
 refine w_neq u3 rfl rfl rfl ?_
 refine ws_nil ?_
 refine wc_cond rfl (fun h1 => ?_) (fun h1 => ?_)
 ·first | replace h1 := dT h1 | replace h1 := dF h1 | replace h1 := dFT h1 | replace h1 := dTF h1 | replace h1 := nb_T h1 | replace h1 := nb_F h1 | skip
  first | replace h1 := nL h1 | replace h1 := nM h1 | replace h1 := nN h1 | skip
  refine wc_seq ?_
  refine wc_text ?_
  refine w_assign rfl rfl ?_
  refine ws_nil ?_
  refine wc_ret ?_
  refine ⟨_, (.cons (.tmp rfl) .nil), ?_, rfl⟩
  congr 1; simp; rintro rfl; exact h1 rfl
 ·first | replace h1 := dT h1 | replace h1 := dF h1 | replace h1 := dFT h1 | replace h1 := dTF h1 | replace h1 := nb_T h1 | replace h1 := nb_F h1 | skip
  first | replace h1 := nL h1 | replace h1 := nM h1 | replace h1 := nN h1 | skip
  refine wc_stay ?_
  refine wc_seq ?_
  refine wc_seq ?_
  refine wc_text ?_
  refine w_assign rfl rfl ?_
  refine ws_nil ?_
  refine wc_block ?_
  refine wc_loop (σ := { k : Nat // k ≤ l.length ∧ l.take k = m.take k }) (fun s => [(0, AL eL l), (1, AL eL m), (5, .int .i64 (s.1 : Nat))]) (fun s => []) (fun s => l.length - s.1) ?_ ⟨0, Nat.zero_le _, rfl⟩ (.cons rfl (.cons rfl (.cons rfl (.nil _)))) (Sel.weak .nil)
  rintro ⟨k, hk, hs⟩
  try dsimp only
  refine wc_seq ?_
  refine wc_seq ?_
  refine wc_text ?_
  refine w_move rfl rfl ?_
  refine w_move rfl rfl ?_
  first | refine w_len rfl rfl (len_lst u43) ?_ | refine w_len rfl rfl (len_slice u43) ?_ | refine w_lenO rfl u43 rfl rfl tk ?_
  refine w_lss u3 rfl rfl rfl ?_
  refine ws_nil ?_
  refine wc_cond rfl (fun h4 => ?_) (fun h4 => ?_)
  ·first | replace h4 := dT h4 | replace h4 := dF h4 | replace h4 := dFT h4 | replace h4 := dTF h4 | replace h4 := nb_T h4 | replace h4 := nb_F h4 | skip
   first | replace h4 := nL h4 | replace h4 := nM h4 | replace h4 := nN h4 | skip
   refine wc_stay ?_
   refine wc_seq ?_
   refine wc_block ?_
   refine wc_seq ?_
   refine wc_free [0, 0, 3, 7, 0, 0, 48, 112, 255] (by kernel_rfl) (by kernel_rfl) (fun F => ?_)
   obtain ⟨x, hx⟩ := get_of_lt (l := l) (k := k) (by omega)
   obtain ⟨y, hy⟩ := get_of_lt (l := m) (k := k) (by omega)
   refine wr_float F 0 rfl (by kernel_rfl) (.inl (by kernel_rfl)) ?_
   refine w_move rfl rfl ?_
   refine ws_nil ?_
   refine wr_float F 1 rfl (by kernel_rfl) (.inl (by kernel_rfl)) ?_
   refine w_move rfl rfl ?_
   refine ws_nil ?_
   refine wr_float F 2 rfl (by kernel_rfl) (.inl (by kernel_rfl)) ?_
   first | refine w_lidx u43 s42 rfl rfl rfl (by omega) ?_ | refine w_slidx u43 s42 rfl rfl rfl (by omega) ?_
   refine ws_nil ?_
   refine wr_pure F 3 rfl (by kernel_rfl) rfl rfl (pf_ldC a42 s42 rfl agc) (.inl rfl) ?_
   refine wr_float F 4 rfl (by kernel_rfl) (.inl (by kernel_rfl)) ?_
   refine w_move rfl rfl ?_
   refine ws_nil ?_
   refine wr_float F 5 rfl (by kernel_rfl) (.inl (by kernel_rfl)) ?_
   refine w_move rfl rfl ?_
   refine ws_nil ?_
   refine wr_float F 6 rfl (by kernel_rfl) (.inl (by kernel_rfl)) ?_
   first | refine w_lidx u43 s42 rfl rfl rfl (by omega) ?_ | refine w_slidx u43 s42 rfl rfl rfl (by omega) ?_
   refine ws_nil ?_
   refine wr_pure F 7 rfl (by kernel_rfl) rfl rfl (pf_ldC a42 s42 rfl agc) (.inl rfl) ?_
   refine wr_float F 8 rfl (by kernel_rfl) (.inl (by kernel_rfl)) ?_
   refine w_cneq u42 (by simp) (by simp) rfl rfl rfl (cmp_L _ _ _) ?_
   refine ws_nil ?_
   refine wr_end F (by kernel_rfl) ?_
   refine wc_cond rfl (fun h6 => ?_) (fun h6 => ?_)
   ·first | replace h6 := of_decide_eq_true h6 | replace h6 := of_decide_eq_false (nb_T h6)
    refine wc_seq ?_
    refine wc_text ?_
    refine w_assign rfl rfl ?_
    refine ws_nil ?_
    refine wc_ret ?_
    refine ⟨_, (.cons (.tmp rfl) .nil), ?_, rfl⟩
    congr 1; simp; rintro rfl; rw [hx] at hy; cases hy; exact h6 rfl
   ·first | replace h6 := of_decide_eq_false h6 | replace h6 : ¬ ¬ x = y := fun hh => hh (of_decide_eq_true (nb_F h6))
    refine wc_stay ?_
    refine wc_text ?_
    refine w_move rfl rfl ?_
    refine w_add u3 rfl rfl rfl (by omega) ?_
    refine w_assign rfl rfl ?_
    refine ws_nil ?_
    exact ⟨⟨k + 1, by omega, by rw [take_one hx, take_one hy, hs, Decidable.not_not.mp h6]⟩, by simp only; omega, (.cons rfl (.cons rfl (.cons rfl (.nil _)))), (Sel.weak .nil)⟩
  ·first | replace h4 := dT h4 | replace h4 := dF h4 | replace h4 := dFT h4 | replace h4 := dTF h4 | replace h4 := nb_T h4 | replace h4 := nb_F h4 | skip
   first | replace h4 := nL h4 | replace h4 := nM h4 | replace h4 := nN h4 | skip
   refine wc_exit ?_
   refine wc_seq ?_
   refine wc_text ?_
   refine w_assign rfl rfl ?_
   refine ws_nil ?_
   refine wc_ret ?_
   refine ⟨_, (.cons (.tmp rfl) .nil), ?_, rfl⟩
   congr 1; simp
   have := hs
   rw [List.take_of_length_le (by omega), List.take_of_length_le (by omega)] at this; exact this

theorem sameI_fn (l m : List Int) (hl : l.length ≤ 9223372036854775806) : PFn C 52 [AL eI l, AL eI m] (.bool (decide (l = m))) := by
 refine fn_view rfl rfl (fn := Tryz.f52) rfl rfl rfl rfl rfl ?_
 refine wc_seq ?_
 refine wc_text ?_
 refine w_assign rfl rfl ?_
 refine ws_nil ?_
 refine wc_seq ?_
 refine wc_seq ?_
 refine wc_text ?_
 refine w_move rfl rfl ?_
 first | refine w_len rfl rfl (len_lst u33) ?_ | refine w_len rfl rfl (len_slice u33) ?_ | refine w_lenO rfl u33 rfl rfl tk ?_
 refine w_move rfl rfl ?_
 first | refine w_len rfl rfl (len_lst u33) ?_ | refine w_len rfl rfl (len_slice u33) ?_ | refine w_lenO rfl u33 rfl rfl tk ?_
 refine w_neq u3 rfl rfl rfl ?_
 refine ws_nil ?_
 refine wc_cond rfl (fun h1 => ?_) (fun h1 => ?_)
 ·first | replace h1 := dT h1 | replace h1 := dF h1 | replace h1 := dFT h1 | replace h1 := dTF h1 | replace h1 := nb_T h1 | replace h1 := nb_F h1 | skip
  first | replace h1 := nL h1 | replace h1 := nM h1 | replace h1 := nN h1 | skip
  refine wc_seq ?_
  refine wc_text ?_
  refine w_assign rfl rfl ?_
  refine ws_nil ?_
  refine wc_ret ?_
  refine ⟨_, (.cons (.tmp rfl) .nil), ?_, rfl⟩
  congr 1; simp; rintro rfl; exact h1 rfl
 ·first | replace h1 := dT h1 | replace h1 := dF h1 | replace h1 := dFT h1 | replace h1 := dTF h1 | replace h1 := nb_T h1 | replace h1 := nb_F h1 | skip
  first | replace h1 := nL h1 | replace h1 := nM h1 | replace h1 := nN h1 | skip
  refine wc_stay ?_
  refine wc_seq ?_
  refine wc_seq ?_
  refine wc_text ?_
  refine w_assign rfl rfl ?_
  refine ws_nil ?_
  refine wc_block ?_
  refine wc_loop (σ := { k : Nat // k ≤ l.length ∧ l.take k = m.take k }) (fun s => [(0, AL eI l), (1, AL eI m), (5, .int .i64 (s.1 : Nat))]) (fun s => []) (fun s => l.length - s.1) ?_ ⟨0, Nat.zero_le _, rfl⟩ (.cons rfl (.cons rfl (.cons rfl (.nil _)))) (Sel.weak .nil)
  rintro ⟨k, hk, hs⟩
  try dsimp only
  refine wc_seq ?_
  refine wc_seq ?_
  refine wc_text ?_
  refine w_move rfl rfl ?_
  refine w_move rfl rfl ?_
  first | refine w_len rfl rfl (len_lst u33) ?_ | refine w_len rfl rfl (len_slice u33) ?_ | refine w_lenO rfl u33 rfl rfl tk ?_
  refine w_lss u3 rfl rfl rfl ?_
  refine ws_nil ?_
  refine wc_cond rfl (fun h4 => ?_) (fun h4 => ?_)
  ·first | replace h4 := dT h4 | replace h4 := dF h4 | replace h4 := dFT h4 | replace h4 := dTF h4 | replace h4 := nb_T h4 | replace h4 := nb_F h4 | skip
   first | replace h4 := nL h4 | replace h4 := nM h4 | replace h4 := nN h4 | skip
   refine wc_stay ?_
   refine wc_seq ?_
   refine wc_block ?_
   refine wc_seq ?_
   refine wc_free [0, 0, 3, 7, 0, 0, 48, 112, 255] (by kernel_rfl) (by kernel_rfl) (fun F => ?_)
   obtain ⟨x, hx⟩ := get_of_lt (l := l) (k := k) (by omega)
   obtain ⟨y, hy⟩ := get_of_lt (l := m) (k := k) (by omega)
   refine wr_float F 0 rfl (by kernel_rfl) (.inl (by kernel_rfl)) ?_
   refine w_move rfl rfl ?_
   refine ws_nil ?_
   refine wr_float F 1 rfl (by kernel_rfl) (.inl (by kernel_rfl)) ?_
   refine w_move rfl rfl ?_
   refine ws_nil ?_
   refine wr_float F 2 rfl (by kernel_rfl) (.inl (by kernel_rfl)) ?_
   first | refine w_lidx u33 s3 rfl rfl rfl (by omega) ?_ | refine w_slidx u33 s3 rfl rfl rfl (by omega) ?_
   refine ws_nil ?_
   refine wr_pure F 3 rfl (by kernel_rfl) rfl rfl (pf_ldC1 a3 rfl rdc) (.inl rfl) ?_
   refine wr_float F 4 rfl (by kernel_rfl) (.inl (by kernel_rfl)) ?_
   refine w_move rfl rfl ?_
   refine ws_nil ?_
   refine wr_float F 5 rfl (by kernel_rfl) (.inl (by kernel_rfl)) ?_
   refine w_move rfl rfl ?_
   refine ws_nil ?_
   refine wr_float F 6 rfl (by kernel_rfl) (.inl (by kernel_rfl)) ?_
   first | refine w_lidx u33 s3 rfl rfl rfl (by omega) ?_ | refine w_slidx u33 s3 rfl rfl rfl (by omega) ?_
   refine ws_nil ?_
   refine wr_pure F 7 rfl (by kernel_rfl) rfl rfl (pf_ldC1 a3 rfl rdc) (.inl rfl) ?_
   refine wr_float F 8 rfl (by kernel_rfl) (.inl (by kernel_rfl)) ?_
   refine w_neq u3 rfl rfl rfl ?_
   refine ws_nil ?_
   refine wr_end F (by kernel_rfl) ?_
   refine wc_cond rfl (fun h6 => ?_) (fun h6 => ?_)
   ·first | replace h6 := of_decide_eq_true h6 | replace h6 := of_decide_eq_false (nb_T h6)
    refine wc_seq ?_
    refine wc_text ?_
    refine w_assign rfl rfl ?_
    refine ws_nil ?_
    refine wc_ret ?_
    refine ⟨_, (.cons (.tmp rfl) .nil), ?_, rfl⟩
    congr 1; simp; rintro rfl; rw [hx] at hy; cases hy; exact h6 rfl
   ·first | replace h6 := of_decide_eq_false h6 | replace h6 : ¬ ¬ x = y := fun hh => hh (of_decide_eq_true (nb_F h6))
    refine wc_stay ?_
    refine wc_text ?_
    refine w_move rfl rfl ?_
    refine w_add u3 rfl rfl rfl (by omega) ?_
    refine w_assign rfl rfl ?_
    refine ws_nil ?_
    exact ⟨⟨k + 1, by omega, by rw [take_one hx, take_one hy, hs, Decidable.not_not.mp h6]⟩, by simp only; omega, (.cons rfl (.cons rfl (.cons rfl (.nil _)))), (Sel.weak .nil)⟩
  ·first | replace h4 := dT h4 | replace h4 := dF h4 | replace h4 := dFT h4 | replace h4 := dTF h4 | replace h4 := nb_T h4 | replace h4 := nb_F h4 | skip
   first | replace h4 := nL h4 | replace h4 := nM h4 | replace h4 := nN h4 | skip
   refine wc_exit ?_
   refine wc_seq ?_
   refine wc_text ?_
   refine w_assign rfl rfl ?_
   refine ws_nil ?_
   refine wc_ret ?_
   refine ⟨_, (.cons (.tmp rfl) .nil), ?_, rfl⟩
   congr 1; simp
   have := hs
   rw [List.take_of_length_le (by omega), List.take_of_length_le (by omega)] at this; exact this

theorem sameSm_fn (l m : List SM) (hl : l.length ≤ 9223372036854775806) : PFn C 21 [AL eSm l, AL eSm m] (.bool (decide (l = m))) := by
 refine fn_view rfl rfl (fn := Tryz.f21) rfl rfl rfl rfl rfl ?_
 refine wc_seq ?_
 refine wc_text ?_
 refine w_assign rfl rfl ?_
 refine ws_nil ?_
 refine wc_seq ?_
 refine wc_seq ?_
 refine wc_text ?_
 refine w_move rfl rfl ?_
 first | refine w_len rfl rfl (len_lst u52) ?_ | refine w_len rfl rfl (len_slice u52) ?_ | refine w_lenO rfl u52 rfl rfl tk ?_
 refine w_move rfl rfl ?_
 first | refine w_len rfl rfl (len_lst u52) ?_ | refine w_len rfl rfl (len_slice u52) ?_ | refine w_lenO rfl u52 rfl rfl tk ?_
 refine w_neq u3 rfl rfl rfl ?_
 refine ws_nil ?_
 refine wc_cond rfl (fun h1 => ?_) (fun h1 => ?_)
 ·first | replace h1 := dT h1 | replace h1 := dF h1 | replace h1 := dFT h1 | replace h1 := dTF h1 | replace h1 := nb_T h1 | replace h1 := nb_F h1 | skip
  first | replace h1 := nL h1 | replace h1 := nM h1 | replace h1 := nN h1 | skip
  refine wc_seq ?_
  refine wc_text ?_
  refine w_assign rfl rfl ?_
  refine ws_nil ?_
  refine wc_ret ?_
  refine ⟨_, (.cons (.tmp rfl) .nil), ?_, rfl⟩
  congr 1; simp; rintro rfl; exact h1 rfl
 ·first | replace h1 := dT h1 | replace h1 := dF h1 | replace h1 := dFT h1 | replace h1 := dTF h1 | replace h1 := nb_T h1 | replace h1 := nb_F h1 | skip
  first | replace h1 := nL h1 | replace h1 := nM h1 | replace h1 := nN h1 | skip
  refine wc_stay ?_
  refine wc_seq ?_
  refine wc_seq ?_
  refine wc_text ?_
  refine w_assign rfl rfl ?_
  refine ws_nil ?_
  refine wc_block ?_
  refine wc_loop (σ := { k : Nat // k ≤ l.length ∧ l.take k = m.take k }) (fun s => [(0, AL eSm l), (1, AL eSm m), (5, .int .i64 (s.1 : Nat))]) (fun s => []) (fun s => l.length - s.1) ?_ ⟨0, Nat.zero_le _, rfl⟩ (.cons rfl (.cons rfl (.cons rfl (.nil _)))) (Sel.weak .nil)
  rintro ⟨k, hk, hs⟩
  try dsimp only
  refine wc_seq ?_
  refine wc_seq ?_
  refine wc_text ?_
  refine w_move rfl rfl ?_
  refine w_move rfl rfl ?_
  first | refine w_len rfl rfl (len_lst u52) ?_ | refine w_len rfl rfl (len_slice u52) ?_ | refine w_lenO rfl u52 rfl rfl tk ?_
  refine w_lss u3 rfl rfl rfl ?_
  refine ws_nil ?_
  refine wc_cond rfl (fun h4 => ?_) (fun h4 => ?_)
  ·first | replace h4 := dT h4 | replace h4 := dF h4 | replace h4 := dFT h4 | replace h4 := dTF h4 | replace h4 := nb_T h4 | replace h4 := nb_F h4 | skip
   first | replace h4 := nL h4 | replace h4 := nM h4 | replace h4 := nN h4 | skip
   refine wc_stay ?_
   refine wc_seq ?_
   refine wc_block ?_
   refine wc_seq ?_
   refine wc_free [0, 0, 3, 7, 0, 0, 48, 112, 255] (by kernel_rfl) (by kernel_rfl) (fun F => ?_)
   obtain ⟨x, hx⟩ := get_of_lt (l := l) (k := k) (by omega)
   obtain ⟨y, hy⟩ := get_of_lt (l := m) (k := k) (by omega)
   refine wr_float F 0 rfl (by kernel_rfl) (.inl (by kernel_rfl)) ?_
   refine w_move rfl rfl ?_
   refine ws_nil ?_
   refine wr_float F 1 rfl (by kernel_rfl) (.inl (by kernel_rfl)) ?_
   refine w_move rfl rfl ?_
   refine ws_nil ?_
   refine wr_float F 2 rfl (by kernel_rfl) (.inl (by kernel_rfl)) ?_
   first | refine w_lidx u52 s46 rfl rfl rfl (by omega) ?_ | refine w_slidx u52 s46 rfl rfl rfl (by omega) ?_
   refine ws_nil ?_
   refine wr_pure F 3 rfl (by kernel_rfl) rfl rfl (pf_ldC a46 s46 rfl agc) (.inl rfl) ?_
   refine wr_float F 4 rfl (by kernel_rfl) (.inl (by kernel_rfl)) ?_
   refine w_move rfl rfl ?_
   refine ws_nil ?_
   refine wr_float F 5 rfl (by kernel_rfl) (.inl (by kernel_rfl)) ?_
   refine w_move rfl rfl ?_
   refine ws_nil ?_
   refine wr_float F 6 rfl (by kernel_rfl) (.inl (by kernel_rfl)) ?_
   first | refine w_lidx u52 s46 rfl rfl rfl (by omega) ?_ | refine w_slidx u52 s46 rfl rfl rfl (by omega) ?_
   refine ws_nil ?_
   refine wr_pure F 7 rfl (by kernel_rfl) rfl rfl (pf_ldC a46 s46 rfl agc) (.inl rfl) ?_
   refine wr_float F 8 rfl (by kernel_rfl) (.inl (by kernel_rfl)) ?_
   refine w_cneq u46 (by simp) (by simp) rfl rfl rfl (cmp_S _ _ _) ?_
   refine ws_nil ?_
   refine wr_end F (by kernel_rfl) ?_
   refine wc_cond rfl (fun h6 => ?_) (fun h6 => ?_)
   ·first | replace h6 := of_decide_eq_true h6 | replace h6 := of_decide_eq_false (nb_T h6)
    refine wc_seq ?_
    refine wc_text ?_
    refine w_assign rfl rfl ?_
    refine ws_nil ?_
    refine wc_ret ?_
    refine ⟨_, (.cons (.tmp rfl) .nil), ?_, rfl⟩
    congr 1; simp; rintro rfl; rw [hx] at hy; cases hy; exact h6 rfl
   ·first | replace h6 := of_decide_eq_false h6 | replace h6 : ¬ ¬ x = y := fun hh => hh (of_decide_eq_true (nb_F h6))
    refine wc_stay ?_
    refine wc_text ?_
    refine w_move rfl rfl ?_
    refine w_add u3 rfl rfl rfl (by omega) ?_
    refine w_assign rfl rfl ?_
    refine ws_nil ?_
    exact ⟨⟨k + 1, by omega, by rw [take_one hx, take_one hy, hs, Decidable.not_not.mp h6]⟩, by simp only; omega, (.cons rfl (.cons rfl (.cons rfl (.nil _)))), (Sel.weak .nil)⟩
  ·first | replace h4 := dT h4 | replace h4 := dF h4 | replace h4 := dFT h4 | replace h4 := dTF h4 | replace h4 := nb_T h4 | replace h4 := nb_F h4 | skip
   first | replace h4 := nL h4 | replace h4 := nM h4 | replace h4 := nN h4 | skip
   refine wc_exit ?_
   refine wc_seq ?_
   refine wc_text ?_
   refine w_assign rfl rfl ?_
   refine ws_nil ?_
   refine wc_ret ?_
   refine ⟨_, (.cons (.tmp rfl) .nil), ?_, rfl⟩
   congr 1; simp
   have := hs
   rw [List.take_of_length_le (by omega), List.take_of_length_le (by omega)] at this; exact this

theorem cloneL_nil  (R : List HI) : CallW C 44 [nilSlice] ([] ++ R) fun v H => ∃ H', H = H' ++ R ∧ H' = [.own v 42 2 [] 0] := by
 refine cw_sharedA (fn := Tryz.f44) rfl rfl rfl rfl (K := fun v H' => H' = [.own v 42 2 [] 0]) ?_ R
 refine wc_seq ?_
 refine wc_text ?_
 refine w_assign rfl rfl ?_
 refine ws_nil ?_
 refine wc_seq ?_
 refine wc_seq ?_
 refine wc_text ?_
 refine w_move rfl rfl ?_
 refine w_ceql u43 (by simp) (by simp) rfl rfl rfl (cmp_sl u43 rfl rfl) ?_
 refine ws_nil ?_
 refine wc_cond rfl (fun h1 => ?_) (fun h1 => ?_)
 ·skip
  refine wc_seq ?_
  refine wc_text ?_
  refine w_assign rfl rfl ?_
  refine ws_nil ?_
  refine WC.ownNil 42 2 ?_
  refine wc_ret ?_
  refine ⟨_, _, (.cons (.tmp rfl) .nil), (Sel.weak (.cons tk .nil)), ?_⟩
  rfl
 ·skip
  cases h1

theorem cloneL_emp  (R : List HI) : CallW C 44 [.lst [] 0 false false] ([] ++ R) fun v H => ∃ H', H = H' ++ R ∧ H' = [.own v 42 2 [] 0] := by
 refine cw_sharedA (fn := Tryz.f44) rfl rfl rfl rfl (K := fun v H' => H' = [.own v 42 2 [] 0]) ?_ R
 refine wc_seq ?_
 refine wc_text ?_
 refine w_assign rfl rfl ?_
 refine ws_nil ?_
 refine wc_seq ?_
 refine wc_seq ?_
 refine wc_text ?_
 refine w_move rfl rfl ?_
 refine w_ceql u43 (by simp) (by simp) rfl rfl rfl (cmp_sl u43 rfl rfl) ?_
 refine ws_nil ?_
 refine wc_cond rfl (fun h1 => ?_) (fun h1 => ?_)
 ·skip
  cases h1
 ·skip
  refine wc_stay ?_
  refine wc_seq ?_
  refine wc_text ?_
  refine w_buildS (cs := []) u43 s42 z42 (by decide) rfl rfl rfl (fun o5 => ?_)
  refine w_move rfl rfl ?_
  refine WS.ownEmpty (v := .slice (some ⟨o5, 0⟩) 0 (.exact 0)) (.inl ⟨_, rfl⟩) 42 2 ?_
  refine w_appO (enc := eL) (l := []) (m := []) rfl u43 s42 b42 z42 u43 (by simp) rfl rfl rfl tk (new_lst rfl rfl) bg bg (fun v7 => ?_)
  refine w_assign rfl rfl ?_
  refine ws_nil ?_
  refine wc_ret ?_
  refine ⟨_, _, (.cons (.tmp rfl) .nil), (Sel.weak (.cons tk .nil)), ?_⟩
  rfl

theorem cloneL_cons (a : LD) (l : List LD) (hl : l.length < 1000000) (R : List HI) : CallW C 44 [AL eL (a :: l)] ([] ++ R) fun v H => ∃ H', H = H' ++ R ∧ H' = [.own v 42 2 ((a :: l).flatMap eL) (a :: l).length] := by
 refine cw_sharedA (fn := Tryz.f44) rfl rfl rfl rfl (K := fun v H' => H' = [.own v 42 2 ((a :: l).flatMap eL) (a :: l).length]) ?_ R
 refine wc_seq ?_
 refine wc_text ?_
 refine w_assign rfl rfl ?_
 refine ws_nil ?_
 refine wc_seq ?_
 refine wc_seq ?_
 refine wc_text ?_
 refine w_move rfl rfl ?_
 refine w_ceql u43 (by simp) (by simp) rfl rfl rfl (cmp_sl u43 rfl rfl) ?_
 refine ws_nil ?_
 refine wc_cond rfl (fun h1 => ?_) (fun h1 => ?_)
 ·skip
  cases h1
 ·skip
  refine wc_stay ?_
  refine wc_seq ?_
  refine wc_text ?_
  have hl2 : (a :: l).length = l.length + 1 := rfl
  refine w_buildS (cs := []) u43 s42 z42 (by decide) rfl rfl rfl (fun o5 => ?_)
  refine w_move rfl rfl ?_
  refine WS.ownEmpty (v := .slice (some ⟨o5, 0⟩) 0 (.exact 0)) (.inl ⟨_, rfl⟩) 42 2 ?_
  refine w_appO (enc := eL) (l := []) (m := a :: l) rfl u43 s42 b42 z42 u43 (by simp) rfl rfl rfl tk nw bg bg (fun v7 => ?_)
  refine w_assign rfl rfl ?_
  refine ws_nil ?_
  refine wc_ret ?_
  refine ⟨_, _, (.cons (.tmp rfl) .nil), (Sel.weak (.cons tk .nil)), ?_⟩
  rfl

theorem cloneL_fn (l : List LD) (hl : l.length < 1000000) (R : List HI) : CallW C 44 [AL eL l] R fun v H => H = .own v 42 2 (l.flatMap eL) l.length :: R := by
  cases l with
  | nil =>
    refine CallW.splitNil (b := false) ?_ ?_
    · exact CallW.mono (cloneL_nil R) fun v H ⟨H', h1, h2⟩ => by rw [h1, h2]; rfl
    · exact CallW.mono (cloneL_emp R) fun v H ⟨H', h1, h2⟩ => by rw [h1, h2]; rfl
  | cons a l => exact CallW.mono (cloneL_cons a l (by simp at hl; omega) R) fun v H ⟨H', h1, h2⟩ => by rw [h1, h2]; rfl
theorem cloneL_frz (l : List LD) (hl : l.length < 1000000) (R : List HI) : CallW C 44 [AL eL l] R fun v H => v = AL eL l ∧ H = R :=
  CallW.frz (cloneL_fn l hl R) fun v H h => by subst h; exact ⟨_, _, .ownK rfl .head (flat_done (by intro _; rfl) l), rfl, rfl, rfl⟩

theorem cloneSm_nil  (R : List HI) : CallW C 82 [nilSlice] ([] ++ R) fun v H => ∃ H', H = H' ++ R ∧ H' = [.own v 46 2 [] 0] := by
 refine cw_sharedA (fn := Tryz.f82) rfl rfl rfl rfl (K := fun v H' => H' = [.own v 46 2 [] 0]) ?_ R
 refine wc_seq ?_
 refine wc_text ?_
 refine w_assign rfl rfl ?_
 refine ws_nil ?_
 refine wc_seq ?_
 refine wc_seq ?_
 refine wc_text ?_
 refine w_move rfl rfl ?_
 refine w_ceql u52 (by simp) (by simp) rfl rfl rfl (cmp_sl u52 rfl rfl) ?_
 refine ws_nil ?_
 refine wc_cond rfl (fun h1 => ?_) (fun h1 => ?_)
 ·skip
  refine wc_seq ?_
  refine wc_text ?_
  refine w_assign rfl rfl ?_
  refine ws_nil ?_
  refine WC.ownNil 46 2 ?_
  refine wc_ret ?_
  refine ⟨_, _, (.cons (.tmp rfl) .nil), (Sel.weak (.cons tk .nil)), ?_⟩
  rfl
 ·skip
  cases h1

theorem cloneSm_emp  (R : List HI) : CallW C 82 [.lst [] 0 false false] ([] ++ R) fun v H => ∃ H', H = H' ++ R ∧ H' = [.own v 46 2 [] 0] := by
 refine cw_sharedA (fn := Tryz.f82) rfl rfl rfl rfl (K := fun v H' => H' = [.own v 46 2 [] 0]) ?_ R
 refine wc_seq ?_
 refine wc_text ?_
 refine w_assign rfl rfl ?_
 refine ws_nil ?_
 refine wc_seq ?_
 refine wc_seq ?_
 refine wc_text ?_
 refine w_move rfl rfl ?_
 refine w_ceql u52 (by simp) (by simp) rfl rfl rfl (cmp_sl u52 rfl rfl) ?_
 refine ws_nil ?_
 refine wc_cond rfl (fun h1 => ?_) (fun h1 => ?_)
 ·skip
  cases h1
 ·skip
  refine wc_stay ?_
  refine wc_seq ?_
  refine wc_text ?_
  refine w_buildS (cs := []) u52 s46 z46 (by decide) rfl rfl rfl (fun o5 => ?_)
  refine w_move rfl rfl ?_
  refine WS.ownEmpty (v := .slice (some ⟨o5, 0⟩) 0 (.exact 0)) (.inl ⟨_, rfl⟩) 46 2 ?_
  refine w_appO (enc := eSm) (l := []) (m := []) rfl u52 s46 b46 z46 u52 (by simp) rfl rfl rfl tk (new_lst rfl rfl) bg bg (fun v7 => ?_)
  refine w_assign rfl rfl ?_
  refine ws_nil ?_
  refine wc_ret ?_
  refine ⟨_, _, (.cons (.tmp rfl) .nil), (Sel.weak (.cons tk .nil)), ?_⟩
  rfl

theorem cloneSm_cons (a : SM) (l : List SM) (hl : l.length < 1000000) (R : List HI) : CallW C 82 [AL eSm (a :: l)] ([] ++ R) fun v H => ∃ H', H = H' ++ R ∧ H' = [.own v 46 2 ((a :: l).flatMap eSm) (a :: l).length] := by
 refine cw_sharedA (fn := Tryz.f82) rfl rfl rfl rfl (K := fun v H' => H' = [.own v 46 2 ((a :: l).flatMap eSm) (a :: l).length]) ?_ R
 refine wc_seq ?_
 refine wc_text ?_
 refine w_assign rfl rfl ?_
 refine ws_nil ?_
 refine wc_seq ?_
 refine wc_seq ?_
 refine wc_text ?_
 refine w_move rfl rfl ?_
 refine w_ceql u52 (by simp) (by simp) rfl rfl rfl (cmp_sl u52 rfl rfl) ?_
 refine ws_nil ?_
 refine wc_cond rfl (fun h1 => ?_) (fun h1 => ?_)
 ·skip
  cases h1
 ·skip
  refine wc_stay ?_
  refine wc_seq ?_
  refine wc_text ?_
  have hl2 : (a :: l).length = l.length + 1 := rfl
  refine w_buildS (cs := []) u52 s46 z46 (by decide) rfl rfl rfl (fun o5 => ?_)
  refine w_move rfl rfl ?_
  refine WS.ownEmpty (v := .slice (some ⟨o5, 0⟩) 0 (.exact 0)) (.inl ⟨_, rfl⟩) 46 2 ?_
  refine w_appO (enc := eSm) (l := []) (m := a :: l) rfl u52 s46 b46 z46 u52 (by simp) rfl rfl rfl tk nw bg bg (fun v7 => ?_)
  refine w_assign rfl rfl ?_
  refine ws_nil ?_
  refine wc_ret ?_
  refine ⟨_, _, (.cons (.tmp rfl) .nil), (Sel.weak (.cons tk .nil)), ?_⟩
  rfl

theorem cloneSm_fn (l : List SM) (hl : l.length < 1000000) (R : List HI) : CallW C 82 [AL eSm l] R fun v H => H = .own v 46 2 (l.flatMap eSm) l.length :: R := by
  cases l with
  | nil =>
    refine CallW.splitNil (b := false) ?_ ?_
    · exact CallW.mono (cloneSm_nil R) fun v H ⟨H', h1, h2⟩ => by rw [h1, h2]; rfl
    · exact CallW.mono (cloneSm_emp R) fun v H ⟨H', h1, h2⟩ => by rw [h1, h2]; rfl
  | cons a l => exact CallW.mono (cloneSm_cons a l (by simp at hl; omega) R) fun v H ⟨H', h1, h2⟩ => by rw [h1, h2]; rfl
theorem cloneSm_frz (l : List SM) (hl : l.length < 1000000) (R : List HI) : CallW C 82 [AL eSm l] R fun v H => v = AL eSm l ∧ H = R :=
  CallW.frz (cloneSm_fn l hl R) fun v H h => by subst h; exact ⟨_, _, .ownK rfl .head (flat_done (by intro _; rfl) l), rfl, rfl, rfl⟩
end Go.Proofs.YtlgofplbbmjdjaaGreatDoor.kx
