/-
  Package route, and what it calls, walked by facts (printed by gen_rt.py).
-/
import Derived.Test.YtonojkcnencodaaDoorBhRt1
import Derived.Test.YtonojkcnencodaaDoorBhDkL
namespace Go.Proofs.YtonojkcnencodaaDoor.rt
open Go Go.Proofs Go.Proofs.YtonojkcnencodaaDoor.BH Go.Proofs.YtonojkcnencodaaDoor.BH.Rt
open Go.Proofs.YtonojkcnencodaaDoor.BH.Dk (withinV withinV_in)
set_option maxRecDepth 100000
theorem count_step (r : Rt) (hb : blk r ≤ 2000000) (ih : ∀ x ∈ r.kids, PFn C 11 [agR x] (.int .i64 (cnt x : Nat))) : PFn C 11 [agR r] (.int .i64 (cnt r : Nat)) := by
 refine fn_view rfl rfl (fn := Tryd.f11) rfl rfl rfl rfl rfl ?_
 have hl := len_blk r.kids
 have hc := cntL_blk r.kids
 have hb2 : blk r = 1 + r.ms.length + blkL r.kids := rfl
 refine wc_seq ?_
 refine wc_text ?_
 refine w_box (cs := eR r) s28 rfl rfl rfl rfl rfl (fun o1 => ?_)
 refine w_assign rfl rfl ?_
 refine ws_nil ?_
 refine wc_seq ?_
 refine wc_text ?_
 refine w_assign rfl rfl ?_
 refine ws_nil ?_
 refine wc_seq ?_
 refine wc_seq ?_
 refine wc_text ?_
 first | refine w_faddrC O28_3 rfl rfl ?_ | refine w_faddrP O28_3 rfl rfl ?_
 first | refine w_ldC1 a26 rfl rfl rdc ?_ | refine w_ldP1 a26 rfl rfl tk rdp ?_
 first | refine w_len rfl rfl (len_lst u26) ?_ | refine w_len rfl rfl (len_slice u26) ?_ | refine w_lenO rfl u26 rfl rfl tk ?_
 refine w_move rfl rfl ?_
 refine ws_nil ?_
 rw [kids_al]
 refine wc_block ?_
 refine wc_loop (σ := { k : Nat // k ≤ r.kids.length }) (fun u => [(3, .int .i64 (cntA (r.kids.take u.1))), (7, AL eR r.kids), (8, .int .i64 (r.kids.length : Nat)), (9, .int .i64 (u.1 : Nat))]) (fun u => []) (fun u => r.kids.length - u.1) ?_ ⟨0, Nat.zero_le _⟩ (.cons rfl (.cons rfl (.cons rfl (.cons rfl (.nil _))))) (Sel.weak .nil)
 rintro ⟨k, hk⟩
 try dsimp only
 refine wc_seq ?_
 refine wc_text ?_
 refine w_lss u3 rfl rfl rfl ?_
 refine ws_nil ?_
 refine wc_seq ?_
 refine wc_cond rfl (fun h3 => ?_) (fun h3 => ?_)
 ·first | replace h3 := dT h3 | replace h3 := dF h3 | replace h3 := dFT h3 | replace h3 := dTF h3 | replace h3 := nb_T h3 | replace h3 := nb_F h3 | skip
  first | replace h3 := nL h3 | replace h3 := nM h3 | replace h3 := nN h3 | skip
  refine wc_stay ?_
  refine wc_seq ?_
  refine wc_block ?_
  refine wc_seq ?_
  refine wc_text ?_
  obtain ⟨x, hx⟩ := get_of_lt (l := r.kids) (k := k) (by omega)
  have hm := List.mem_of_getElem? hx
  have hA := cntA_eq (r.kids.take k)
  have hA2 := cntL_takes r.kids (k + 1)
  rw [cntL_take hx] at hA2
  first | refine w_lidx u26 s28 rfl rfl rfl (by omega) ?_ | refine w_slidx u26 s28 rfl rfl rfl (by omega) ?_
  first | refine w_ldC a28 s28 rfl rfl agc ?_ | refine w_ldP a28 s28 rfl rfl tk agp ?_
  refine w_alloc z28 s28 rfl (fun o5 => ?_)
  refine w_st s28 rfl rfl rfl tk rfl rfl ovw ?_
  refine ws_nil ?_
  refine WC.recell (eR x) tk rfl ?_
  refine wc_text ?_
  refine w_move rfl rfl ?_
  first | refine w_ldC a28 s28 rfl rfl agc ?_ | refine w_ldP a28 s28 rfl rfl tk agp ?_
  refine w_call rfl rfl (cw_fn rfl rfl (.cons fz .nil) (ih x hm) ?_)
  refine w_add u3 rfl rfl rfl (by omega) ?_
  refine w_assign rfl rfl ?_
  refine ws_nil ?_
  rw [cntA_next hx]
  refine wc_text ?_
  refine w_add u3 rfl rfl rfl (by omega) ?_
  refine w_move rfl rfl ?_
  refine ws_nil ?_
  exact ⟨⟨k + 1, by omega⟩, by simp only; omega, (.cons rfl (.cons rfl (.cons rfl (.cons rfl (.nil _))))), (Sel.weak .nil)⟩
 ·first | replace h3 := dT h3 | replace h3 := dF h3 | replace h3 := dFT h3 | replace h3 := dTF h3 | replace h3 := nb_T h3 | replace h3 := nb_F h3 | skip
  first | replace h3 := nL h3 | replace h3 := nM h3 | replace h3 := nN h3 | skip
  refine wc_exit ?_
  refine wc_seq ?_
  refine wc_text ?_
  refine w_move rfl rfl ?_
  refine w_assign rfl rfl ?_
  refine ws_nil ?_
  refine wc_ret ?_
  refine ⟨_, (.cons (.tmp rfl) .nil), ?_, rfl⟩
  rw [List.take_of_length_le (by omega), cntA_eq]; rfl

theorem count_fn (r : Rt) (hb : blk r ≤ 2000000) : PFn C 11 [agR r] (.int .i64 (cnt r : Nat)) := count_step r hb fun x hx => count_fn x (by have := blk_kid hx; omega)
termination_by SizeOf.sizeOf r
decreasing_by exact kid_lt hx

theorem right_step (n : Nat) (hn : n ≤ 8) (r : Rt) (hb : blk r ≤ 2000000) (ih : ∀ x ∈ r.kids, PFn C 24 [agR x, .int .i64 ((n - 1 : Nat) : Int)] (.bool (rightV (n - 1) x))) : PFn C 24 [agR r, .int .i64 (n : Nat)] (.bool (rightV n r)) := by
 refine fn_view rfl rfl (fn := Tryd.f24) rfl rfl rfl rfl rfl ?_
 have hl := len_blk r.kids
 have hc := cntL_blk r.kids
 have hb2 : blk r = 1 + r.ms.length + blkL r.kids := rfl
 refine wc_seq ?_
 refine wc_text ?_
 refine w_box (cs := eR r) s28 rfl rfl rfl rfl rfl (fun o2 => ?_)
 refine w_assign rfl rfl ?_
 refine ws_nil ?_
 refine wc_seq ?_
 refine wc_seq ?_
 refine wc_text ?_
 refine w_move rfl rfl ?_
 refine w_lss u3 rfl rfl rfl ?_
 refine w_move rfl rfl ?_
 refine ws_split (t := 9) rfl (fun g9 => ?_) (fun g9 => ?_)
 ·first | replace g9 := dT g9 | replace g9 := dF g9 | replace g9 := dFT g9 | replace g9 := dTF g9 | replace g9 := nb_T g9 | replace g9 := nb_F g9 | skip
  first | replace g9 := nL g9 | replace g9 := nM g9 | replace g9 := nN g9 | skip
  refine ws_off rfl rfl rfl rfl ?_
  refine ws_off rfl rfl rfl rfl ?_
  refine ws_off rfl rfl rfl rfl ?_
  refine ws_off rfl rfl rfl rfl ?_
  first | refine w_pickT rfl rfl rfl ⟨_, rfl⟩ ?_ | refine w_pickF rfl rfl ⟨_, rfl⟩ rfl ?_ | refine w_pick rfl rfl rfl rfl ?_
  refine w_move rfl rfl ?_
  refine ws_off rfl rfl rfl rfl ?_
  refine ws_off rfl rfl rfl rfl ?_
  refine ws_off rfl rfl rfl rfl ?_
  refine ws_off rfl rfl rfl rfl ?_
  first | refine w_pickT rfl rfl rfl ⟨_, rfl⟩ ?_ | refine w_pickF rfl rfl ⟨_, rfl⟩ rfl ?_ | refine w_pick rfl rfl rfl rfl ?_
  refine ws_nil ?_
  refine wc_condT rfl ?_
  refine wc_seq ?_
  refine wc_text ?_
  refine w_assign rfl rfl ?_
  refine ws_nil ?_
  refine wc_ret ?_
  refine ⟨_, (.cons (.tmp rfl) .nil), ?_, rfl⟩
  refine congrArg AV.bool ?_
  first | (rw [show n = 0 by omega]; rfl) | exact right_word g15 | exact right_ms h1
 ·first | replace g9 := dT g9 | replace g9 := dF g9 | replace g9 := dFT g9 | replace g9 := dTF g9 | replace g9 := nb_T g9 | replace g9 := nb_F g9 | skip
  first | replace g9 := nL g9 | replace g9 := nM g9 | replace g9 := nN g9 | skip
  refine ws_on rfl rfl ?_
  first | refine w_faddrC O28_1 rfl rfl ?_ | refine w_faddrP O28_1 rfl rfl ?_
  refine ws_on rfl rfl ?_
  first | refine w_ldC1 a9 rfl rfl rdc ?_ | refine w_ldP1 a9 rfl rfl tk rdp ?_
  refine ws_on rfl rfl ?_
  refine w_call rfl rfl (cw_fn rfl rfl (.cons fz .nil) (word_fn r.to) ?_)
  refine ws_on rfl rfl ?_
  refine w_not rfl rfl ?_
  first | refine w_pickT rfl rfl rfl ⟨_, rfl⟩ ?_ | refine w_pickF rfl rfl ⟨_, rfl⟩ rfl ?_ | refine w_pick rfl rfl rfl rfl ?_
  refine w_move rfl rfl ?_
  refine ws_split (t := 15) rfl (fun g15 => ?_) (fun g15 => ?_)
  ·first | replace g15 := dT g15 | replace g15 := dF g15 | replace g15 := dFT g15 | replace g15 := dTF g15 | replace g15 := nb_T g15 | replace g15 := nb_F g15 | skip
   first | replace g15 := nL g15 | replace g15 := nM g15 | replace g15 := nN g15 | skip
   refine ws_off rfl rfl rfl rfl ?_
   refine ws_off rfl rfl rfl rfl ?_
   refine ws_off rfl rfl rfl rfl ?_
   refine ws_off rfl rfl rfl rfl ?_
   first | refine w_pickT rfl rfl rfl ⟨_, rfl⟩ ?_ | refine w_pickF rfl rfl ⟨_, rfl⟩ rfl ?_ | refine w_pick rfl rfl rfl rfl ?_
   refine ws_nil ?_
   refine wc_condT rfl ?_
   refine wc_seq ?_
   refine wc_text ?_
   refine w_assign rfl rfl ?_
   refine ws_nil ?_
   refine wc_ret ?_
   refine ⟨_, (.cons (.tmp rfl) .nil), ?_, rfl⟩
   refine congrArg AV.bool ?_
   first | (rw [show n = 0 by omega]; rfl) | exact right_word g15 | exact right_ms h1
  ·first | replace g15 := dT g15 | replace g15 := dF g15 | replace g15 := dFT g15 | replace g15 := dTF g15 | replace g15 := nb_T g15 | replace g15 := nb_F g15 | skip
   first | replace g15 := nL g15 | replace g15 := nM g15 | replace g15 := nN g15 | skip
   refine ws_on rfl rfl ?_
   first | refine w_faddrC O28_0 rfl rfl ?_ | refine w_faddrP O28_0 rfl rfl ?_
   refine ws_on rfl rfl ?_
   first | refine w_ldC1 a25 rfl rfl rdc ?_ | refine w_ldP1 a25 rfl rfl tk rdp ?_
   refine ws_on rfl rfl ?_
   refine w_call rfl rfl (cw_fn rfl rfl (.cons fz .nil) (msRight_fn r.ms (by omega)) ?_)
   refine ws_on rfl rfl ?_
   refine w_not rfl rfl ?_
   first | refine w_pickT rfl rfl rfl ⟨_, rfl⟩ ?_ | refine w_pickF rfl rfl ⟨_, rfl⟩ rfl ?_ | refine w_pick rfl rfl rfl rfl ?_
   refine ws_nil ?_
   refine wc_cond rfl (fun h1 => ?_) (fun h1 => ?_)
   ·first | replace h1 := dT h1 | replace h1 := dF h1 | replace h1 := dFT h1 | replace h1 := dTF h1 | replace h1 := nb_T h1 | replace h1 := nb_F h1 | skip
    first | replace h1 := nL h1 | replace h1 := nM h1 | replace h1 := nN h1 | skip
    refine wc_seq ?_
    refine wc_text ?_
    refine w_assign rfl rfl ?_
    refine ws_nil ?_
    refine wc_ret ?_
    refine ⟨_, (.cons (.tmp rfl) .nil), ?_, rfl⟩
    refine congrArg AV.bool ?_
    first | (rw [show n = 0 by omega]; rfl) | exact right_word g15 | exact right_ms h1
   ·first | replace h1 := dT h1 | replace h1 := dF h1 | replace h1 := dFT h1 | replace h1 := dTF h1 | replace h1 := nb_T h1 | replace h1 := nb_F h1 | skip
    first | replace h1 := nL h1 | replace h1 := nM h1 | replace h1 := nN h1 | skip
    refine wc_stay ?_
    refine wc_seq ?_
    refine wc_seq ?_
    refine wc_text ?_
    first | refine w_faddrC O28_3 rfl rfl ?_ | refine w_faddrP O28_3 rfl rfl ?_
    first | refine w_ldC1 a26 rfl rfl rdc ?_ | refine w_ldP1 a26 rfl rfl tk rdp ?_
    first | refine w_len rfl rfl (len_lst u26) ?_ | refine w_len rfl rfl (len_slice u26) ?_ | refine w_lenO rfl u26 rfl rfl tk ?_
    refine w_move rfl rfl ?_
    refine ws_nil ?_
    rw [kids_al]
    refine wc_block ?_
    refine wc_loop (σ := { k : Nat // k ≤ r.kids.length ∧ (r.kids.take k).all (rightV (n - 1)) = true }) (fun u => [(1, .int .i64 (n : Nat)), (22, AL eR r.kids), (23, .int .i64 (r.kids.length : Nat)), (24, .int .i64 (u.1 : Nat))]) (fun u => []) (fun u => r.kids.length - u.1) ?_ ⟨0, Nat.zero_le _, rfl⟩ (.cons rfl (.cons rfl (.cons rfl (.cons rfl (.nil _))))) (Sel.weak .nil)
    rintro ⟨k, hk, hs⟩
    try dsimp only
    refine wc_seq ?_
    refine wc_text ?_
    refine w_lss u3 rfl rfl rfl ?_
    refine ws_nil ?_
    refine wc_seq ?_
    refine wc_cond rfl (fun h4 => ?_) (fun h4 => ?_)
    ·first | replace h4 := dT h4 | replace h4 := dF h4 | replace h4 := dFT h4 | replace h4 := dTF h4 | replace h4 := nb_T h4 | replace h4 := nb_F h4 | skip
     first | replace h4 := nL h4 | replace h4 := nM h4 | replace h4 := nN h4 | skip
     refine wc_stay ?_
     refine wc_seq ?_
     refine wc_block ?_
     refine wc_seq ?_
     refine wc_text ?_
     obtain ⟨x, hx⟩ := get_of_lt (l := r.kids) (k := k) (by omega)
     have hm := List.mem_of_getElem? hx
     first | refine w_lidx u26 s28 rfl rfl rfl (by omega) ?_ | refine w_slidx u26 s28 rfl rfl rfl (by omega) ?_
     first | refine w_ldC a28 s28 rfl rfl agc ?_ | refine w_ldP a28 s28 rfl rfl tk agp ?_
     refine w_alloc z28 s28 rfl (fun o6 => ?_)
     refine w_st s28 rfl rfl rfl tk rfl rfl ovw ?_
     refine ws_nil ?_
     refine WC.recell (eR x) tk rfl ?_
     refine wc_seq ?_
     refine wc_text ?_
     first | refine w_ldC a28 s28 rfl rfl agc ?_ | refine w_ldP a28 s28 rfl rfl tk agp ?_
     refine w_move rfl rfl ?_
     refine w_sub u3 rfl rfl rfl (by omega) ?_
     rw [show (n : Int) - 1 = ((n - 1 : Nat) : Int) by omega]
     refine w_call rfl rfl (cw_fn rfl rfl (.cons fz (.cons fz .nil)) (ih x hm) ?_)
     refine w_not rfl rfl ?_
     refine ws_nil ?_
     refine wc_cond rfl (fun h6 => ?_) (fun h6 => ?_)
     ·first | replace h6 := dT h6 | replace h6 := dF h6 | replace h6 := dFT h6 | replace h6 := dTF h6 | replace h6 := nb_T h6 | replace h6 := nb_F h6 | skip
      first | replace h6 := nL h6 | replace h6 := nM h6 | replace h6 := nN h6 | skip
      refine wc_seq ?_
      refine wc_text ?_
      refine w_assign rfl rfl ?_
      refine ws_nil ?_
      refine wc_ret ?_
      refine ⟨_, (.cons (.tmp rfl) .nil), ?_, rfl⟩
      exact congrArg AV.bool (right_kid hx h6)
     ·first | replace h6 := dT h6 | replace h6 := dF h6 | replace h6 := dFT h6 | replace h6 := dTF h6 | replace h6 := nb_T h6 | replace h6 := nb_F h6 | skip
      first | replace h6 := nL h6 | replace h6 := nM h6 | replace h6 := nN h6 | skip
      refine wc_stay ?_
      refine wc_text ?_
      refine w_add u3 rfl rfl rfl (by omega) ?_
      refine w_move rfl rfl ?_
      refine ws_nil ?_
      exact ⟨⟨k + 1, by omega, all_take hx hs h6⟩, by simp only; omega, (.cons rfl (.cons rfl (.cons rfl (.cons rfl (.nil _))))), (Sel.weak .nil)⟩
    ·first | replace h4 := dT h4 | replace h4 := dF h4 | replace h4 := dFT h4 | replace h4 := dTF h4 | replace h4 := nb_T h4 | replace h4 := nb_F h4 | skip
     first | replace h4 := nL h4 | replace h4 := nM h4 | replace h4 := nN h4 | skip
     refine wc_exit ?_
     refine wc_seq ?_
     refine wc_text ?_
     refine w_assign rfl rfl ?_
     refine ws_nil ?_
     refine wc_ret ?_
     refine ⟨_, (.cons (.tmp rfl) .nil), ?_, rfl⟩
     exact congrArg AV.bool (right_all (by omega) g15 h1 (all_end (by omega) hs))

theorem right_zero (r : Rt) (hb : blk r ≤ 2000000) : PFn C 24 [agR r, .int .i64 ((0 : Nat) : Int)] (.bool (rightV 0 r)) := right_step 0 (by omega) r hb fun x hx => right_zero x (by have := blk_kid hx; omega)
termination_by SizeOf.sizeOf r
decreasing_by exact kid_lt hx
theorem right_fn : ∀ (n : Nat) (_ : n ≤ 8) (r : Rt) (_ : blk r ≤ 2000000), PFn C 24 [agR r, .int .i64 (n : Nat)] (.bool (rightV n r))
  | 0, hn, r, hb => right_step 0 hn r hb fun x hx => right_zero x (by have := blk_kid hx; omega)
  | n + 1, hn, r, hb => right_step (n + 1) hn r hb fun x hx => right_fn n (by omega) x (by have := blk_kid hx; omega)

theorem Right_fn (r : Rt) (hb : blk r ≤ 2000000) : PFn C 10 [agR r] (.bool (RightV r)) := by
 refine fn_view rfl rfl (fn := Tryd.f10) rfl rfl rfl rfl rfl ?_
 have hl := len_blk r.kids
 have hc := cntL_blk r.kids
 have hb2 : blk r = 1 + r.ms.length + blkL r.kids := rfl
 refine wc_seq ?_
 refine wc_text ?_
 refine w_box (cs := eR r) s28 rfl rfl rfl rfl rfl (fun o1 => ?_)
 refine w_assign rfl rfl ?_
 refine ws_nil ?_
 refine wc_seq ?_
 refine wc_text ?_
 first | refine w_faddrC O28_0 rfl rfl ?_ | refine w_faddrP O28_0 rfl rfl ?_
 first | refine w_ldC1 a25 rfl rfl rdc ?_ | refine w_ldP1 a25 rfl rfl tk rdp ?_
 first | refine w_len rfl rfl (len_lst u25) ?_ | refine w_len rfl rfl (len_slice u25) ?_ | refine w_lenO rfl u25 rfl rfl tk ?_
 refine w_eql u3 rfl rfl rfl ?_
 refine w_move rfl rfl ?_
 refine ws_split (t := 7) rfl (fun g7 => ?_) (fun g7 => ?_)
 ·first | replace g7 := dT g7 | replace g7 := dF g7 | replace g7 := dFT g7 | replace g7 := dTF g7 | replace g7 := nb_T g7 | replace g7 := nb_F g7 | skip
  first | replace g7 := nL g7 | replace g7 := nM g7 | replace g7 := nN g7 | skip
  refine ws_on rfl rfl ?_
  first | refine w_ldC a28 s28 rfl rfl agc ?_ | refine w_ldP a28 s28 rfl rfl tk agp ?_
  refine ws_on rfl rfl ?_
  refine w_call rfl rfl (cw_fn rfl rfl (.cons fz (.cons fz .nil)) (right_fn 8 (by omega) r hb) ?_)
  first | refine w_pickT rfl rfl rfl ⟨_, rfl⟩ ?_ | refine w_pickF rfl rfl ⟨_, rfl⟩ rfl ?_ | refine w_pick rfl rfl rfl rfl ?_
  refine w_move rfl rfl ?_
  refine ws_split (t := 11) rfl (fun g11 => ?_) (fun g11 => ?_)
  ·first | replace g11 := dT g11 | replace g11 := dF g11 | replace g11 := dFT g11 | replace g11 := dTF g11 | replace g11 := nb_T g11 | replace g11 := nb_F g11 | skip
   first | replace g11 := nL g11 | replace g11 := nM g11 | replace g11 := nN g11 | skip
   refine ws_on rfl rfl ?_
   first | refine w_ldC a28 s28 rfl rfl agc ?_ | refine w_ldP a28 s28 rfl rfl tk agp ?_
   refine ws_on rfl rfl ?_
   refine w_call rfl rfl (cw_fn rfl rfl (.cons fz .nil) (count_fn r hb) ?_)
   refine ws_on rfl rfl ?_
   refine w_leq u3 rfl rfl rfl ?_
   first | refine w_pickT rfl rfl rfl ⟨_, rfl⟩ ?_ | refine w_pickF rfl rfl ⟨_, rfl⟩ rfl ?_ | refine w_pick rfl rfl rfl rfl ?_
   refine w_assign rfl rfl ?_
   refine ws_nil ?_
   refine wc_ret ?_
   refine ⟨_, (.cons (.tmp rfl) .nil), ?_, rfl⟩
   refine congrArg AV.bool ?_
   unfold RightV
   first | (rw [decide_eq_false (p := r.ms.length = 0) (by omega)]; rfl) | (rw [decide_eq_true (p := r.ms.length = 0) (by omega), g11]; simp; omega) | simp_all
  ·first | replace g11 := dT g11 | replace g11 := dF g11 | replace g11 := dFT g11 | replace g11 := dTF g11 | replace g11 := nb_T g11 | replace g11 := nb_F g11 | skip
   first | replace g11 := nL g11 | replace g11 := nM g11 | replace g11 := nN g11 | skip
   refine ws_off rfl rfl rfl rfl ?_
   refine ws_off rfl rfl rfl rfl ?_
   refine ws_off rfl rfl rfl rfl ?_
   first | refine w_pickT rfl rfl rfl ⟨_, rfl⟩ ?_ | refine w_pickF rfl rfl ⟨_, rfl⟩ rfl ?_ | refine w_pick rfl rfl rfl rfl ?_
   refine w_assign rfl rfl ?_
   refine ws_nil ?_
   refine wc_ret ?_
   refine ⟨_, (.cons (.tmp rfl) .nil), ?_, rfl⟩
   refine congrArg AV.bool ?_
   unfold RightV
   first | (rw [decide_eq_false (p := r.ms.length = 0) (by omega)]; rfl) | (rw [decide_eq_true (p := r.ms.length = 0) (by omega), g11]; simp; omega) | simp_all
 ·first | replace g7 := dT g7 | replace g7 := dF g7 | replace g7 := dFT g7 | replace g7 := dTF g7 | replace g7 := nb_T g7 | replace g7 := nb_F g7 | skip
  first | replace g7 := nL g7 | replace g7 := nM g7 | replace g7 := nN g7 | skip
  refine ws_off rfl rfl rfl rfl ?_
  refine ws_off rfl rfl rfl rfl ?_
  first | refine w_pickT rfl rfl rfl ⟨_, rfl⟩ ?_ | refine w_pickF rfl rfl ⟨_, rfl⟩ rfl ?_ | refine w_pick rfl rfl rfl rfl ?_
  refine w_move rfl rfl ?_
  refine ws_off rfl rfl rfl rfl ?_
  refine ws_off rfl rfl rfl rfl ?_
  refine ws_off rfl rfl rfl rfl ?_
  first | refine w_pickT rfl rfl rfl ⟨_, rfl⟩ ?_ | refine w_pickF rfl rfl ⟨_, rfl⟩ rfl ?_ | refine w_pick rfl rfl rfl rfl ?_
  refine w_assign rfl rfl ?_
  refine ws_nil ?_
  refine wc_ret ?_
  refine ⟨_, (.cons (.tmp rfl) .nil), ?_, rfl⟩
  refine congrArg AV.bool ?_
  unfold RightV
  first | (rw [decide_eq_false (p := r.ms.length = 0) (by omega)]; rfl) | (rw [decide_eq_true (p := r.ms.length = 0) (by omega), g11]; simp; omega) | simp_all

theorem to_step (set : List LD) (hs0 : set.length ≤ 9223372036854775807) (r : Rt) (hb : blk r ≤ 2000000) (ih : ∀ x ∈ r.kids, PFn C 25 [agR x, AL eL set] (AL eS (toV set x))) : PFn C 25 [agR r, AL eL set] (AL eS (toV set r)) := by
 refine fn_keep rfl rfl (fn := Tryd.f25) rfl rfl rfl rfl rfl ?_
 have hl := len_blk r.kids
 have hc := cntL_blk r.kids
 have hb2 : blk r = 1 + r.ms.length + blkL r.kids := rfl
 refine wc_seq ?_
 refine wc_text ?_
 refine w_box (cs := eR r) s28 rfl rfl rfl rfl rfl (fun o2 => ?_)
 refine w_assign rfl rfl ?_
 refine ws_nil ?_
 refine wc_scope ?_
 refine wc_seq ?_
 refine wc_text ?_
 refine w_assign rfl rfl ?_
 refine ws_nil ?_
 refine wc_seq ?_
 refine wc_text ?_
 refine w_assign rfl rfl ?_
 refine ws_nil ?_
 refine WC.ownNil 9 1 ?_
 refine wc_seq ?_
 refine wc_label ?_
 refine wc_seq ?_
 refine wc_seq ?_
 refine wc_text ?_
 first | refine w_faddrC O28_3 rfl rfl ?_ | refine w_faddrP O28_3 rfl rfl ?_
 first | refine w_ldC1 a26 rfl rfl rdc ?_ | refine w_ldP1 a26 rfl rfl tk rdp ?_
 first | refine w_len rfl rfl (len_lst u26) ?_ | refine w_len rfl rfl (len_slice u26) ?_ | refine w_lenO rfl u26 rfl rfl tk ?_
 refine w_move rfl rfl ?_
 refine ws_nil ?_
 rw [kids_al]
 refine wc_block ?_
 refine wc_loop (σ := { u : Nat × List (List UInt8) × Bool × AV // u.1 ≤ r.kids.length ∧ At set r u.1 u.2.1 u.2.2.1 ∧ u.2.1.length ≤ cntL (r.kids.take u.1) }) (fun u => [(1, AL eL set), (2, .ptr (some ⟨o2, 0⟩)), (5, u.1.2.2.2), (6, .bool u.1.2.2.1), (10, AL eR r.kids), (11, .int .i64 (r.kids.length : Nat)), (12, .int .i64 (u.1.1 : Nat))]) (fun u => [.own u.1.2.2.2 9 1 (u.1.2.1.flatMap eS) u.1.2.1.length, .obj o2 (.row 28 4 false (eR r))]) (fun u => r.kids.length - u.1.1) ?_ ⟨(0, [], false, nilSlice), Nat.zero_le _, at_begin set r, by simp⟩ (.cons rfl (.cons rfl (.cons rfl (.cons rfl (.cons rfl (.cons rfl (.cons rfl (.nil _)))))))) (Sel.weak (.cons tk (.cons tk .nil)))
 rintro ⟨⟨k, out, met, v⟩, hk, hat, hol⟩
 try dsimp only
 simp only at hk hat hol
 refine wc_seq ?_
 refine wc_text ?_
 refine w_lss u3 rfl rfl rfl ?_
 refine ws_nil ?_
 refine wc_seq ?_
 refine wc_cond rfl (fun h4 => ?_) (fun h4 => ?_)
 ·replace h4 := of_decide_eq_true h4
  refine wc_stay ?_
  refine wc_seq ?_
  refine wc_block ?_
  refine wc_seq ?_
  refine wc_text ?_
  obtain ⟨x, hx⟩ := get_of_lt (l := r.kids) (k := k) (by omega)
  have hm := List.mem_of_getElem? hx
  have hxb := blkL_mem hm
  first | refine w_lidx u26 s28 rfl rfl rfl (by omega) ?_ | refine w_slidx u26 s28 rfl rfl rfl (by omega) ?_
  first | refine w_ldC a28 s28 rfl rfl agc ?_ | refine w_ldP a28 s28 rfl rfl tk agp ?_
  refine w_alloc z28 s28 rfl (fun o8 => ?_)
  refine w_st s28 rfl rfl rfl tk rfl rfl ovw ?_
  refine ws_nil ?_
  refine WC.recell (eR x) tk rfl ?_
  refine wc_seq ?_
  refine wc_seq ?_
  refine wc_text ?_
  refine w_move rfl rfl ?_
  first | refine w_faddrC O28_0 rfl rfl ?_ | refine w_faddrP O28_0 rfl rfl ?_
  first | refine w_ldC1 a25 rfl rfl rdc ?_ | refine w_ldP1 a25 rfl rfl tk rdp ?_
  refine w_call rfl rfl (cw_fn rfl rfl (.cons fz (.cons fz .nil)) (all_fn set x.ms hs0 (by unfold blk at hxb; omega)) ?_)
  refine w_not rfl rfl ?_
  refine ws_nil ?_
  refine wc_cond rfl (fun h6 => ?_) (fun h6 => ?_)
  ·replace h6 := nb_T h6
   refine wc_exit ?_
   refine wc_text ?_
   refine w_add u3 rfl rfl rfl (by omega) ?_
   refine w_move rfl rfl ?_
   refine ws_nil ?_
   exact ⟨⟨(k + 1, out, met, v), (by omega : k + 1 ≤ r.kids.length), at_skip hx hat h6, by simp only; have := cntL_take hx; omega⟩, by simp only; omega, (.cons rfl (.cons rfl (.cons rfl (.cons rfl (.cons rfl (.cons rfl (.cons rfl (.nil _)))))))), (Sel.weak (.cons tk (.cons tk .nil)))⟩
  ·replace h6 := nb_F h6
   refine wc_stay ?_
   refine wc_seq ?_
   refine wc_text ?_
   refine w_assign rfl rfl ?_
   refine ws_nil ?_
   have hvl := toV_len set x
   have hA2 := cntL_takes r.kids (k + 1)
   rw [cntL_take hx] at hA2
   refine wc_seq ?_
   refine wc_text ?_
   refine w_move rfl rfl ?_
   first | refine w_ldC a28 s28 rfl rfl agc ?_ | refine w_ldP a28 s28 rfl rfl tk agp ?_
   refine w_move rfl rfl ?_
   refine w_call rfl rfl (cw_fn rfl rfl (.cons fz (.cons fz .nil)) (ih x hm) ?_)
   refine w_appO (enc := eS) (l := out) (m := toV set x) rfl u34 s9 b9 z9 u34 (by simp) rfl rfl rfl tk nw bg bg (fun v25 => ?_)
   refine w_assign rfl rfl ?_
   refine ws_nil ?_
   refine wc_seq ?_
   refine wc_text ?_
   first | refine w_faddrC O28_2 rfl rfl ?_ | refine w_faddrP O28_2 rfl rfl ?_
   first | refine w_ldC1 a4 rfl rfl rdc ?_ | refine w_ldP1 a4 rfl rfl tk rdp ?_
   refine w_not rfl rfl ?_
   refine ws_nil ?_
   refine wc_cond rfl (fun h9 => ?_) (fun h9 => ?_)
   ·replace h9 := nb_T h9
    have hfin := at_stop hx hat h6 h9
    refine wc_exit ?_
    refine wc_seq ?_
    refine wc_seq ?_
    refine wc_text ?_
    refine w_move rfl rfl ?_
    refine w_not rfl rfl ?_
    refine ws_nil ?_
    refine wc_condF rfl ?_
    refine wc_stay ?_
    refine wc_seq ?_
    refine wc_text ?_
    refine w_move rfl rfl ?_
    refine w_assign rfl rfl ?_
    refine ws_nil ?_
    refine wc_ret ?_
    refine ⟨_, _, _, (.cons (.tmp rfl) .nil), (.cons fr .nil), ?_, ?_⟩
    · first | rfl | simp [doneV]
    unfold toV; rw [hfin]; first | rfl | (rw [h11]; rfl)
   ·replace h9 := nb_F h9
    refine wc_stay ?_
    refine wc_text ?_
    refine w_add u3 rfl rfl rfl (by omega) ?_
    refine w_move rfl rfl ?_
    refine ws_nil ?_
    exact ⟨⟨(k + 1, out ++ toV set x, true, v25), (by omega : k + 1 ≤ r.kids.length), at_goes hx hat h6 h9, by simp only; rw [cntL_take hx, List.length_append]; omega⟩, by simp only; omega, (.cons rfl (.cons rfl (.cons rfl (.cons rfl (.cons rfl (.cons rfl (.cons rfl (.nil _)))))))), (Sel.weak (.cons tk (.cons tk .nil)))⟩
 ·replace h4 := of_decide_eq_false h4
  have hfin := at_end (by omega) hat
  refine wc_exit ?_
  refine wc_seq ?_
  refine wc_seq ?_
  refine wc_text ?_
  refine w_move rfl rfl ?_
  refine w_not rfl rfl ?_
  refine ws_nil ?_
  refine wc_cond rfl (fun h11 => ?_) (fun h11 => ?_)
  ·replace h11 := nb_T h11
   refine wc_seq ?_
   refine wc_text ?_
   first | refine w_faddrC O28_1 rfl rfl ?_ | refine w_faddrP O28_1 rfl rfl ?_
   first | refine w_ldC1 a9 rfl rfl rdc ?_ | refine w_ldP1 a9 rfl rfl tk rdp ?_
   refine w_buildSF (cs := [r.to].flatMap eS) u34 s9 z9 (by decide) rfl rfl rfl (by decide) rfl rfl ?_
   refine w_assign rfl rfl ?_
   refine ws_nil ?_
   refine wc_ret ?_
   refine ⟨_, _, _, (.cons (.tmp rfl) .nil), (.cons fr .nil), ?_, ?_⟩
   · first | rfl | simp [doneV]
   unfold toV; rw [hfin]; first | rfl | (rw [h11]; rfl)
  ·replace h11 := nb_F h11
   refine wc_stay ?_
   refine wc_seq ?_
   refine wc_text ?_
   refine w_move rfl rfl ?_
   refine w_assign rfl rfl ?_
   refine ws_nil ?_
   refine wc_ret ?_
   refine ⟨_, _, _, (.cons (.tmp rfl) .nil), (.cons fr .nil), ?_, ?_⟩
   · first | rfl | simp [doneV]
   unfold toV; rw [hfin]; first | rfl | (rw [h11]; rfl)

theorem to_fn (set : List LD) (hs0 : set.length ≤ 9223372036854775807) (r : Rt) (hb : blk r ≤ 2000000) : PFn C 25 [agR r, AL eL set] (AL eS (toV set r)) := to_step set hs0 r hb fun x hx => to_fn set hs0 x (by have := blk_kid hx; omega)
termination_by SizeOf.sizeOf r
decreasing_by exact kid_lt hx

theorem To_fn (set : List LD) (hs0 : set.length ≤ 9223372036854775807) (r : Rt) (hb : blk r ≤ 2000000) : PFn C 13 [agR r, AL eL set] (AL eS (ToV set r)) := by
 refine fn_keep rfl rfl (fn := Tryd.f13) rfl rfl rfl rfl rfl ?_
 refine wc_seq ?_
 refine wc_text ?_
 refine w_box (cs := eR r) s28 rfl rfl rfl rfl rfl (fun o2 => ?_)
 refine w_assign rfl rfl ?_
 refine ws_nil ?_
 refine wc_seq ?_
 refine wc_seq ?_
 refine wc_text ?_
 first | refine w_ldC a28 s28 rfl rfl agc ?_ | refine w_ldP a28 s28 rfl rfl tk agp ?_
 refine w_call rfl rfl (cw_fn rfl rfl (.cons fz .nil) (Right_fn r hb) ?_)
 refine w_not rfl rfl ?_
 refine ws_nil ?_
 refine wc_cond rfl (fun h1 => ?_) (fun h1 => ?_)
 ·replace h1 := nb_T h1
  refine wc_seq ?_
  refine wc_text ?_
  refine w_assign rfl rfl ?_
  refine ws_nil ?_
  refine wc_ret ?_
  refine ⟨_, _, _, (.cons (.tmp rfl) .nil), (.cons fr .nil), ?_, ?_⟩
  · first | rfl | simp [doneV]
  unfold ToV; rw [h1]; rfl
 ·replace h1 := nb_F h1
  refine wc_stay ?_
  refine wc_seq ?_
  refine wc_text ?_
  first | refine w_ldC a28 s28 rfl rfl agc ?_ | refine w_ldP a28 s28 rfl rfl tk agp ?_
  refine w_move rfl rfl ?_
  refine w_call rfl rfl (cw_fn rfl rfl (.cons fz (.cons fz .nil)) (to_fn set hs0 r hb) ?_)
  refine w_assign rfl rfl ?_
  refine ws_nil ?_
  refine wc_ret ?_
  refine ⟨_, _, _, (.cons (.tmp rfl) .nil), (.cons fr .nil), ?_, ?_⟩
  · first | rfl | simp [doneV]
  unfold ToV; rw [h1]; rfl

theorem sameS_fn (l m : List (List UInt8)) (hl : l.length ≤ 9223372036854775806) : PFn C 12 [AL eS l, AL eS m] (.bool (decide (l = m))) := by
 refine fn_view rfl rfl (fn := Tryd.f12) rfl rfl rfl rfl rfl ?_
 refine wc_seq ?_
 refine wc_text ?_
 refine w_assign rfl rfl ?_
 refine ws_nil ?_
 refine wc_seq ?_
 refine wc_seq ?_
 refine wc_text ?_
 refine w_move rfl rfl ?_
 first | refine w_len rfl rfl (len_lst u34) ?_ | refine w_len rfl rfl (len_slice u34) ?_ | refine w_lenO rfl u34 rfl rfl tk ?_
 refine w_move rfl rfl ?_
 first | refine w_len rfl rfl (len_lst u34) ?_ | refine w_len rfl rfl (len_slice u34) ?_ | refine w_lenO rfl u34 rfl rfl tk ?_
 refine w_neq u3 rfl rfl rfl ?_
 refine ws_nil ?_
 refine wc_cond rfl (fun h1 => ?_) (fun h1 => ?_)
 ·first | replace h1 := dT h1 | replace h1 := dF h1 | replace h1 := dFT h1 | replace h1 := dTF h1 | replace h1 := nb_T h1 | replace h1 := nb_F h1 | skip
  first | replace h1 := nL h1 | replace h1 := nM h1 | replace h1 := nN h1 | skip
  refine wc_seq ?_
  refine wc_text ?_
  refine w_assign rfl rfl ?_
  refine ws_nil ?_
  refine wc_ret ?_
  refine ⟨_, (.cons (.tmp rfl) .nil), ?_, rfl⟩
  congr 1; simp; rintro rfl; exact h1 rfl
 ·first | replace h1 := dT h1 | replace h1 := dF h1 | replace h1 := dFT h1 | replace h1 := dTF h1 | replace h1 := nb_T h1 | replace h1 := nb_F h1 | skip
  first | replace h1 := nL h1 | replace h1 := nM h1 | replace h1 := nN h1 | skip
  refine wc_stay ?_
  refine wc_seq ?_
  refine wc_seq ?_
  refine wc_text ?_
  refine w_assign rfl rfl ?_
  refine ws_nil ?_
  refine wc_block ?_
  refine wc_loop (σ := { k : Nat // k ≤ l.length ∧ l.take k = m.take k }) (fun s => [(0, AL eS l), (1, AL eS m), (5, .int .i64 (s.1 : Nat))]) (fun s => []) (fun s => l.length - s.1) ?_ ⟨0, Nat.zero_le _, rfl⟩ (.cons rfl (.cons rfl (.cons rfl (.nil _)))) (Sel.weak .nil)
  rintro ⟨k, hk, hs⟩
  try dsimp only
  refine wc_seq ?_
  refine wc_seq ?_
  refine wc_text ?_
  refine w_move rfl rfl ?_
  refine w_move rfl rfl ?_
  first | refine w_len rfl rfl (len_lst u34) ?_ | refine w_len rfl rfl (len_slice u34) ?_ | refine w_lenO rfl u34 rfl rfl tk ?_
  refine w_lss u3 rfl rfl rfl ?_
  refine ws_nil ?_
  refine wc_cond rfl (fun h4 => ?_) (fun h4 => ?_)
  ·first | replace h4 := dT h4 | replace h4 := dF h4 | replace h4 := dFT h4 | replace h4 := dTF h4 | replace h4 := nb_T h4 | replace h4 := nb_F h4 | skip
   first | replace h4 := nL h4 | replace h4 := nM h4 | replace h4 := nN h4 | skip
   refine wc_stay ?_
   refine wc_seq ?_
   refine wc_block ?_
   refine wc_seq ?_
   refine wc_free [0, 0, 3, 7, 0, 0, 48, 112, 255] (by kernel_rfl) (by kernel_rfl) (fun F => ?_)
   obtain ⟨x, hx⟩ := get_of_lt (l := l) (k := k) (by omega)
   obtain ⟨y, hy⟩ := get_of_lt (l := m) (k := k) (by omega)
   refine wr_float F 0 rfl (by kernel_rfl) (.inl (by kernel_rfl)) ?_
   refine w_move rfl rfl ?_
   refine ws_nil ?_
   refine wr_float F 1 rfl (by kernel_rfl) (.inl (by kernel_rfl)) ?_
   refine w_move rfl rfl ?_
   refine ws_nil ?_
   refine wr_float F 2 rfl (by kernel_rfl) (.inl (by kernel_rfl)) ?_
   first | refine w_lidx u34 s9 rfl rfl rfl (by omega) ?_ | refine w_slidx u34 s9 rfl rfl rfl (by omega) ?_
   refine ws_nil ?_
   refine wr_pure F 3 rfl (by kernel_rfl) rfl rfl (pf_ldC1 a9 rfl rdc) (.inl rfl) ?_
   refine wr_float F 4 rfl (by kernel_rfl) (.inl (by kernel_rfl)) ?_
   refine w_move rfl rfl ?_
   refine ws_nil ?_
   refine wr_float F 5 rfl (by kernel_rfl) (.inl (by kernel_rfl)) ?_
   refine w_move rfl rfl ?_
   refine ws_nil ?_
   refine wr_float F 6 rfl (by kernel_rfl) (.inl (by kernel_rfl)) ?_
   first | refine w_lidx u34 s9 rfl rfl rfl (by omega) ?_ | refine w_slidx u34 s9 rfl rfl rfl (by omega) ?_
   refine ws_nil ?_
   refine wr_pure F 7 rfl (by kernel_rfl) rfl rfl (pf_ldC1 a9 rfl rdc) (.inl rfl) ?_
   refine wr_float F 8 rfl (by kernel_rfl) (.inl (by kernel_rfl)) ?_
   refine w_sneq u9 rfl rfl rfl ?_
   refine ws_nil ?_
   refine wr_end F (by kernel_rfl) ?_
   refine wc_cond rfl (fun h6 => ?_) (fun h6 => ?_)
   ·replace h6 := of_decide_eq_true h6
    refine wc_seq ?_
    refine wc_text ?_
    refine w_assign rfl rfl ?_
    refine ws_nil ?_
    refine wc_ret ?_
    refine ⟨_, (.cons (.tmp rfl) .nil), ?_, rfl⟩
    congr 1; simp; rintro rfl; rw [hx] at hy; cases hy; exact h6 rfl
   ·replace h6 := of_decide_eq_false h6
    refine wc_stay ?_
    refine wc_text ?_
    refine w_move rfl rfl ?_
    refine w_add u3 rfl rfl rfl (by omega) ?_
    refine w_assign rfl rfl ?_
    refine ws_nil ?_
    exact ⟨⟨k + 1, by omega, by rw [take_one hx, take_one hy, hs, Decidable.not_not.mp h6]⟩, by simp only; omega, (.cons rfl (.cons rfl (.cons rfl (.nil _)))), (Sel.weak .nil)⟩
  ·first | replace h4 := dT h4 | replace h4 := dF h4 | replace h4 := dFT h4 | replace h4 := dTF h4 | replace h4 := nb_T h4 | replace h4 := nb_F h4 | skip
   first | replace h4 := nL h4 | replace h4 := nM h4 | replace h4 := nN h4 | skip
   refine wc_exit ?_
   refine wc_seq ?_
   refine wc_text ?_
   refine w_assign rfl rfl ?_
   refine ws_nil ?_
   refine wc_ret ?_
   refine ⟨_, (.cons (.tmp rfl) .nil), ?_, rfl⟩
   congr 1; simp
   have := hs
   rw [List.take_of_length_le (by omega), List.take_of_length_le (by omega)] at this; exact this

theorem within_fn (n lo hi : Int) (h0 : 0 ≤ lo) (h1 : lo ≤ hi) (h2 : hi ≤ 1000000000) : PFn C 16 [.int .i64 n, .int .i64 lo, .int .i64 hi] (.int .i64 (withinV n lo hi)) := by
 refine fn_view rfl rfl (fn := Tryd.f16) rfl rfl rfl rfl rfl ?_
 have hlo : -(hi - lo + 1) < n.tmod (hi - lo + 1) := Int.lt_tmod_of_pos n (show 0 < hi - lo + 1 by omega)
 have hhi : n.tmod (hi - lo + 1) < hi - lo + 1 := Int.tmod_lt_of_pos n (by omega)
 refine wc_seq ?_
 refine wc_text ?_
 refine w_assign rfl rfl ?_
 refine ws_nil ?_
 refine wc_seq ?_
 refine wc_text ?_
 refine w_move rfl rfl ?_
 refine w_move rfl rfl ?_
 refine w_move rfl rfl ?_
 refine w_sub u3 rfl rfl rfl (by omega) ?_
 refine w_add u3 rfl rfl rfl (by omega) ?_
 refine w_rem u3 rfl rfl rfl (by omega) ?_
 refine w_assign rfl rfl ?_
 refine ws_nil ?_
 refine wc_seq ?_
 refine wc_seq ?_
 refine wc_text ?_
 refine w_move rfl rfl ?_
 refine w_lss u3 rfl rfl rfl ?_
 refine ws_nil ?_
 refine wc_cond rfl (fun h2 => ?_) (fun h2 => ?_)
 ·first | replace h2 := dT h2 | replace h2 := dF h2 | replace h2 := dFT h2 | replace h2 := dTF h2 | replace h2 := nb_T h2 | replace h2 := nb_F h2 | skip
  first | replace h2 := nL h2 | replace h2 := nM h2 | replace h2 := nN h2 | skip
  refine wc_text ?_
  refine w_move rfl rfl ?_
  refine w_move rfl rfl ?_
  refine w_add u3 rfl rfl rfl (by omega) ?_
  refine w_move rfl rfl ?_
  refine w_sub u3 rfl rfl rfl (by omega) ?_
  refine w_add u3 rfl rfl rfl (by omega) ?_
  refine w_assign rfl rfl ?_
  refine ws_nil ?_
  refine wc_seq ?_
  refine wc_text ?_
  refine w_move rfl rfl ?_
  refine w_move rfl rfl ?_
  refine w_add u3 rfl rfl rfl (by omega) ?_
  refine w_assign rfl rfl ?_
  refine ws_nil ?_
  refine wc_ret ?_
  refine ⟨_, (.cons (.tmp rfl) .nil), ?_, rfl⟩
  refine congrArg (AV.int .i64) ?_; unfold withinV; first | rw [if_pos h2] | rw [if_neg (by omega)]
 ·first | replace h2 := dT h2 | replace h2 := dF h2 | replace h2 := dFT h2 | replace h2 := dTF h2 | replace h2 := nb_T h2 | replace h2 := nb_F h2 | skip
  first | replace h2 := nL h2 | replace h2 := nM h2 | replace h2 := nN h2 | skip
  refine wc_stay ?_
  refine wc_seq ?_
  refine wc_text ?_
  refine w_move rfl rfl ?_
  refine w_move rfl rfl ?_
  refine w_add u3 rfl rfl rfl (by omega) ?_
  refine w_assign rfl rfl ?_
  refine ws_nil ?_
  refine wc_ret ?_
  refine ⟨_, (.cons (.tmp rfl) .nil), ?_, rfl⟩
  refine congrArg (AV.int .i64) ?_; unfold withinV; first | rw [if_pos h2] | rw [if_neg (by omega)]
end Go.Proofs.YtonojkcnencodaaDoor.rt
