/-
  Package route, and what it calls, walked by facts (printed by gen_rt.py).
-/
import Derived.Test.YtonojkcnencodaaDoorBhRt5
import Derived.Test.YtonojkcnencodaaDoorBhW23
import Derived.Test.YtonojkcnencodaaDoorBhW7
namespace Go.Proofs.YtonojkcnencodaaDoor.rt
open Go Go.Proofs Go.Proofs.YtonojkcnencodaaDoor.BH Go.Proofs.YtonojkcnencodaaDoor.BH.Rt
open Go.Proofs.YtonojkcnencodaaDoor.BH.Dk (withinV withinV_in)
set_option maxRecDepth 100000
def nmP (r : Rt) (k : Nat) : List (List UInt8) := r.to :: (r.kids.take k).flatMap fun x => x.to :: x.kids.map Rt.to
theorem nmP_next {r x : Rt} {k : Nat} (hx : r.kids[k]? = some x) : nmP r k ++ [x.to] ++ x.kids.map Rt.to = nmP r (k + 1) := by
  unfold nmP; rw [take_one hx, List.flatMap_append]; simp
theorem nmP_all (r : Rt) {k : Nat} (h : r.kids.length ≤ k) : nmP r k = namesT r := by unfold nmP namesT; rw [List.take_of_length_le h]
noncomputable def stP (ks : List KS) (i : Nat) : List (List LD) := (ks.take i).map fun k => setK k 3
theorem stP_next {ks : List KS} {i : Nat} {k : KS} (hk : ks[i]? = some k) : stP ks i ++ [setK k 3] = stP ks (i + 1) := by unfold stP; rw [take_one hk, List.map_append]; rfl
theorem outV_le {r : Rt} (h : cnt r ≤ 10) : ∀ l : List (List LD), (outV r l).length ≤ 10 * l.length
  | [] => by simp [outV]
  | a :: t => by
    have h1 := outV_le h t
    have h2 : (ToV a r).length ≤ 10 := by
      have := toV_len a r
      unfold ToV; split
      · omega
      · simp
    have e : outV r (a :: t) = ToV a r ++ outV r t := by simp [outV]
    rw [e, List.length_append, List.length_cons]; omega
theorem stP_len {ks : List KS} {i : Nat} : ∀ s ∈ stP ks i, s.length ≤ 3 := by
  intro s hs
  unfold stP at hs
  obtain ⟨k, _, rfl⟩ := List.mem_map.mp hs
  exact set_len k 3
theorem outV_one {r : Rt} {l : List (List LD)} {s : List LD} : outV r l ++ ToV s r = outV r (l ++ [s]) := by unfold outV; rw [List.flatMap_append]; simp
theorem leL_refl : ∀ l : List AV, LeL l l
  | [] => .nil
  | _ :: r => .cons (.refl _) (leL_refl r)
def firstT : Rt := .mk [] [102, 105, 114, 115, 116] false []
theorem first_le : LeL [nilSlice, .str [102, 105, 114, 115, 116], .bool false, nilSlice] (eR firstT) := .cons (nil_le false true rfl) (.cons (.refl _) (.cons (.refl _) (.cons (by show VRLe _ (.lst (kidsL []) 0 false true); rw [kidsL_eq]; exact nil_le false true rfl) .nil)))
theorem alone_le (T : Rt) : LeL [nilSlice, .str [97], .bool false, .lst (eR firstT ++ T.kids.flatMap eR) (1 + T.kids.length) false true] (eR (aloneT T)) := by
  unfold aloneT
  show LeL _ [AL eM [], .str [97], .bool false, .lst (kidsL (.mk [] [102, 105, 114, 115, 116] false [] :: T.kids)) (T.kids.length + 1) false true]
  rw [kidsL_eq, Nat.add_comm 1]
  exact .cons (nil_le false true rfl) (leL_refl _)
theorem alone_blk (T : Rt) : blk (aloneT T) = 2 + blkL T.kids := by
  unfold aloneT
  show 1 + 0 + blkL (Rt.mk [] [102, 105, 114, 115, 116] false [] :: T.kids) = _
  rw [blkL_cons]
  show 1 + 0 + (1 + 0 + blkL [] + blkL T.kids) = _
  rw [blkL_nil]; omega
theorem allO_nil (T : Rt) : Lib.compact (sortS (outV T [])) = [] := by
  have h1 := compact_leS (sortS (outV T []))
  have h2 : (sortS (outV T [])).length = 0 := by
    have : outV T [] = [] := rfl
    rw [this]; exact List.length_mergeSort _
  exact List.eq_nil_of_length_eq_zero (by omega)

set_option maxHeartbeats 4000000 in
theorem all_law (U M G : List Int) (ks : List KS) (hU : U.length ≤ 9223372036854775807) (hM : M.length ≤ 9223372036854775807) (hG : G.length ≤ 9223372036854775807) (hks : ks.length ≤ 9223372036854775807) (hk : ∀ k ∈ ks, k.has.length ≤ 9223372036854775807 ∧ k.vals.length ≤ 9223372036854775807) : PFn C 4 [.agg [AL eI U, AL eI M, AL eI G], AL eKS ks] (.bool true) := by
 refine fn_view rfl rfl (fn := Tryd.f4) rfl rfl rfl rfl rfl ?_
 have hTr := tree_right U M G
 have hTb := tree_blk U M G
 have hTc := tree_cnt U M G
 have hTn := fun s x => @tree_names U M G s x
 have hAr := alone_right U M G
 obtain ⟨T, hT⟩ : ∃ T, T = treeV U M G := ⟨_, rfl⟩
 rw [← hT] at hTr hTb hTc hTn hAr
 have hTk := len_blk T.kids
 have hTk2 : blkL T.kids ≤ 70 := by unfold blk at hTb; omega
 have hATo : ToV [] (aloneT T) = [[102, 105, 114, 115, 116]] := by unfold ToV; rw [if_pos hAr]; exact alone_to T
 have hA0 := allO_nil T
 refine wc_seq ?_
 refine wc_text ?_
 refine w_box (cs := [AL eI U, AL eI M, AL eI G]) s24 rfl rfl rfl rfl rfl (fun o2 => ?_)
 refine w_assign rfl rfl ?_
 refine ws_nil ?_
 refine WC.freezePtr (t := 2) (cs := [AL eI U, AL eI M, AL eI G]) rfl rfl tk rfl ?_
 refine wc_seq ?_
 refine wc_text ?_
 first | refine w_ldC a24 s24 rfl rfl agc ?_ | refine w_ldP a24 s24 rfl rfl tk agp ?_
 refine w_call rfl rfl (cw_fn rfl rfl (.cons fz .nil) (tree_fn U M G hU hM hG) ?_)
 refine w_alloc z28 s28 rfl (fun o5 => ?_)
 refine w_st s28 rfl rfl rfl tk rfl rfl ovw ?_
 refine ws_nil ?_
 rw [← hT]
 refine WC.recell (eR T) tk rfl ?_
 refine wc_seq ?_
 refine wc_text ?_
 refine w_makeMap rfl (fun o24 => ?_)
 first | refine w_faddrC O28_1 rfl rfl ?_ | refine w_faddrP O28_1 rfl rfl ?_
 first | refine w_ldC1 a9 rfl rfl rdc ?_ | refine w_ldP1 a9 rfl rfl tk rdp ?_
 refine WS.mapA AV.str AV.bool tk ?_
 refine w_insertA u44 (key_str u9) rfl rfl rfl tk ?_
 refine w_move rfl rfl ?_
 refine w_assign rfl rfl ?_
 refine ws_nil ?_
 refine wc_seq ?_
 refine wc_seq ?_
 refine wc_text ?_
 first | refine w_faddrC O28_3 rfl rfl ?_ | refine w_faddrP O28_3 rfl rfl ?_
 first | refine w_ldC1 a26 rfl rfl rdc ?_ | refine w_ldP1 a26 rfl rfl tk rdp ?_
 first | refine w_len rfl rfl (len_lst u26) ?_ | refine w_len rfl rfl (len_slice u26) ?_ | refine w_lenO rfl u26 rfl rfl tk ?_
 refine w_move rfl rfl ?_
 refine ws_nil ?_
 rw [kids_al]
 refine wc_block ?_
 refine wc_loop (σ := { k : Nat // k ≤ T.kids.length }) (fun u => [(1, AL eKS ks), (5, .ptr (some ⟨o5, 0⟩)), (6, .map (some o24)), (29, AL eR T.kids), (30, .int .i64 (T.kids.length : Nat)), (31, .int .i64 (u.1 : Nat))]) (fun u => [.obj o24 (.map (entsA AV.str AV.bool (nmD (nmP T u.1)) 0) (nmD (nmP T u.1)).length), .obj o5 (.row 28 4 false (eR T))]) (fun u => T.kids.length - u.1) ?_ ⟨0, Nat.zero_le _⟩ (.cons rfl (.cons rfl (.cons rfl (.cons rfl (.cons rfl (.cons rfl (.nil _))))))) (Sel.weak (.cons tk (.cons tk .nil)))
 rintro ⟨k, hk0⟩
 try dsimp only
 refine wc_seq ?_
 refine wc_text ?_
 refine w_lss u3 rfl rfl rfl ?_
 refine ws_nil ?_
 refine wc_seq ?_
 refine wc_cond rfl (fun h4 => ?_) (fun h4 => ?_)
 ·replace h4 := of_decide_eq_true h4
  refine wc_stay ?_
  refine wc_seq ?_
  refine wc_block ?_
  refine wc_seq ?_
  refine wc_text ?_
  obtain ⟨x, hx⟩ := get_of_lt (l := T.kids) (k := k) (by omega)
  have hxb := blkL_mem (List.mem_of_getElem? hx)
  have hxk := len_blk x.kids
  have hxk2 : blkL x.kids ≤ 70 := by unfold blk at hxb; omega
  first | refine w_lidx u26 s28 rfl rfl rfl (by omega) ?_ | refine w_slidx u26 s28 rfl rfl rfl (by omega) ?_
  first | refine w_ldC a28 s28 rfl rfl agc ?_ | refine w_ldP a28 s28 rfl rfl tk agp ?_
  refine w_alloc z28 s28 rfl (fun o8 => ?_)
  refine w_st s28 rfl rfl rfl tk rfl rfl ovw ?_
  refine ws_nil ?_
  refine WC.recell (eR x) tk rfl ?_
  refine wc_seq ?_
  refine wc_text ?_
  refine w_move rfl rfl ?_
  first | refine w_faddrC O28_1 rfl rfl ?_ | refine w_faddrP O28_1 rfl rfl ?_
  first | refine w_ldC1 a9 rfl rfl rdc ?_ | refine w_ldP1 a9 rfl rfl tk rdp ?_
  refine w_mapUpdA u44 (key_str u9) rfl rfl rfl rfl tk ?_
  refine ws_nil ?_
  rw [nm_one, show nmP T k ++ [x.to] = nmP T k ++ [x.to] ++ (x.kids.take 0).map Rt.to by simp]
  refine wc_seq ?_
  refine wc_text ?_
  first | refine w_faddrC O28_3 rfl rfl ?_ | refine w_faddrP O28_3 rfl rfl ?_
  first | refine w_ldC1 a26 rfl rfl rdc ?_ | refine w_ldP1 a26 rfl rfl tk rdp ?_
  first | refine w_len rfl rfl (len_lst u26) ?_ | refine w_len rfl rfl (len_slice u26) ?_ | refine w_lenO rfl u26 rfl rfl tk ?_
  refine w_move rfl rfl ?_
  refine ws_nil ?_
  refine WC.drop (i := .obj o8 _) tk ?_
  rw [kids_al]
  refine wc_block ?_
  refine wc_loop (σ := { j : Nat // j ≤ x.kids.length }) (fun w => [(1, AL eKS ks), (5, .ptr (some ⟨o5, 0⟩)), (6, .map (some o24)), (29, AL eR T.kids), (30, .int .i64 (T.kids.length : Nat)), (31, .int .i64 (k : Nat)), (39, AL eR x.kids), (40, .int .i64 (x.kids.length : Nat)), (41, .int .i64 (w.1 : Nat))]) (fun w => [.obj o24 (.map (entsA AV.str AV.bool (nmD (nmP T k ++ [x.to] ++ (x.kids.take w.1).map Rt.to)) 0) (nmD (nmP T k ++ [x.to] ++ (x.kids.take w.1).map Rt.to)).length), .obj o5 (.row 28 4 false (eR T))]) (fun w => x.kids.length - w.1) ?_ ⟨0, Nat.zero_le _⟩ (.cons rfl (.cons rfl (.cons rfl (.cons rfl (.cons rfl (.cons rfl (.cons rfl (.cons rfl (.cons rfl (.nil _)))))))))) (Sel.weak (.cons tk (.cons tk .rest)))
  rintro ⟨j, hj0⟩
  try dsimp only
  refine wc_seq ?_
  refine wc_text ?_
  refine w_lss u3 rfl rfl rfl ?_
  refine ws_nil ?_
  refine wc_seq ?_
  refine wc_cond rfl (fun h8 => ?_) (fun h8 => ?_)
  ·replace h8 := of_decide_eq_true h8
   refine wc_stay ?_
   refine wc_seq ?_
   refine wc_block ?_
   refine wc_seq ?_
   refine wc_text ?_
   obtain ⟨y, hy⟩ := get_of_lt (l := x.kids) (k := j) (by omega)
   first | refine w_lidx u26 s28 rfl rfl rfl (by omega) ?_ | refine w_slidx u26 s28 rfl rfl rfl (by omega) ?_
   first | refine w_ldC a28 s28 rfl rfl agc ?_ | refine w_ldP a28 s28 rfl rfl tk agp ?_
   refine w_alloc z28 s28 rfl (fun o10 => ?_)
   refine w_st s28 rfl rfl rfl tk rfl rfl ovw ?_
   refine ws_nil ?_
   refine wc_text ?_
   refine w_move rfl rfl ?_
   first | refine w_faddrC O28_1 rfl rfl ?_ | refine w_faddrP O28_1 rfl rfl ?_
   first | refine w_ldC1 a9 rfl rfl rdc ?_ | refine w_ldP1 a9 rfl rfl tk rdp ?_
   refine w_mapUpdA u44 (key_str u9) rfl rfl rfl rfl tk ?_
   refine ws_nil ?_
   refine wc_text ?_
   refine WS.drop (i := .obj o10 _) tk ?_
   rw [nm_one, show nmP T k ++ [x.to] ++ (x.kids.take j).map Rt.to ++ [y.to] = nmP T k ++ [x.to] ++ (x.kids.take (j + 1)).map Rt.to by rw [take_one hy, List.map_append, List.append_assoc]; rfl]
   refine w_add u3 rfl rfl rfl (by omega) ?_
   refine w_move rfl rfl ?_
   refine ws_nil ?_
   exact ⟨⟨j + 1, by omega⟩, by simp only; omega, (.cons rfl (.cons rfl (.cons rfl (.cons rfl (.cons rfl (.cons rfl (.cons rfl (.cons rfl (.cons rfl (.nil _)))))))))), (Sel.weak (.cons tk (.cons tk .rest)))⟩
  ·replace h8 := of_decide_eq_false h8
   obtain rfl : j = x.kids.length := by omega
   rw [List.take_length]
   refine wc_exit ?_
   refine wc_text ?_
   rw [nmP_next hx]
   refine w_add u3 rfl rfl rfl (by omega) ?_
   refine w_move rfl rfl ?_
   refine ws_nil ?_
   exact ⟨⟨k + 1, by omega⟩, by simp only; omega, (.cons rfl (.cons rfl (.cons rfl (.cons rfl (.cons rfl (.cons rfl (.nil _))))))), (Sel.weak (.cons tk (.cons tk .nil)))⟩
 ·replace h4 := of_decide_eq_false h4
  rw [nmP_all T (by omega)]
  refine wc_exit ?_
  refine wc_seq ?_
  refine wc_text ?_
  refine w_assign rfl rfl ?_
  refine ws_nil ?_
  refine WC.ownNil 36 1 ?_
  refine wc_seq ?_
  refine wc_text ?_
  refine w_makeMap rfl (fun o50 => ?_)
  refine w_assign rfl rfl ?_
  refine ws_nil ?_
  refine WC.mapA AV.str AV.bool tk ?_
  refine wc_seq ?_
  refine wc_seq ?_
  refine wc_text ?_
  refine w_assign rfl rfl ?_
  refine ws_nil ?_
  refine wc_block ?_
  refine wc_loop (σ := { u : Nat × AV // u.1 ≤ ks.length ∧ u.1 ≤ 6 }) (fun u => [(1, AL eKS ks), (5, .ptr (some ⟨o5, 0⟩)), (6, .map (some o24)), (11, u.1.2), (12, .map (some o50)), (13, .int .i64 (u.1.1 : Nat))]) (fun u => [.own u.1.2 36 1 ((stP ks u.1.1).flatMap eLL) (stP ks u.1.1).length, .obj o50 (.map (entsA AV.str AV.bool (nmD (outV T (stP ks u.1.1))) 0) (nmD (outV T (stP ks u.1.1))).length), .obj o24 (.map (entsA AV.str AV.bool (nmD (namesT T)) 0) (nmD (namesT T)).length), .obj o5 (.row 28 4 false (eR T))]) (fun u => 6 - u.1.1) ?_ ⟨(0, nilSlice), Nat.zero_le _, Nat.zero_le _⟩ (.cons rfl (.cons rfl (.cons rfl (.cons rfl (.cons rfl (.cons rfl (.nil _))))))) (Sel.weak (.cons tk (.cons tk (.cons tk (.cons tk .nil)))))
  rintro ⟨⟨i, vk⟩, hi, hi6⟩
  try dsimp only
  simp only at hi hi6
  have hstl : (stP ks i).length = i := by unfold stP; rw [List.length_map, List.length_take]; omega
  refine wc_seq ?_
  refine wc_seq ?_
  refine wc_text ?_
  refine w_move rfl rfl ?_
  refine w_move rfl rfl ?_
  first | refine w_len rfl rfl (len_lst u43) ?_ | refine w_len rfl rfl (len_slice u43) ?_ | refine w_lenO rfl u43 rfl rfl tk ?_
  refine w_lss u3 rfl rfl rfl ?_
  refine w_move rfl rfl ?_
  refine ws_split (t := 55) rfl (fun g55 => ?_) (fun g55 => ?_)
  ·first | replace g55 := dT g55 | replace g55 := dF g55 | replace g55 := dFT g55 | replace g55 := dTF g55 | replace g55 := nb_T g55 | replace g55 := nb_F g55 | skip
   first | replace g55 := nL g55 | replace g55 := nM g55 | replace g55 := nN g55 | skip
   refine ws_on rfl rfl ?_
   refine w_move rfl rfl ?_
   refine ws_on rfl rfl ?_
   refine w_lss u3 rfl rfl rfl ?_
   first | refine w_pickT rfl rfl rfl ⟨_, rfl⟩ ?_ | refine w_pickF rfl rfl ⟨_, rfl⟩ rfl ?_ | refine w_pick rfl rfl rfl rfl ?_
   refine ws_nil ?_
   refine wc_cond rfl (fun h16 => ?_) (fun h16 => ?_)
   ·replace h16 := of_decide_eq_true h16
    refine wc_stay ?_
    refine wc_seq ?_
    refine wc_block ?_
    refine wc_seq ?_
    refine wc_text ?_
    obtain ⟨kk, hkk0⟩ := get_of_lt (l := ks) (k := i) (by omega)
    have hkk := hk kk (List.mem_of_getElem? hkk0)
    have hsl := set_len kk 3
    have hTvl : (ToV (setK kk 3) T).length ≤ 10 := by unfold ToV; rw [if_pos hTr]; exact Nat.le_trans (toV_len _ _) hTc
    refine w_move rfl rfl ?_
    refine w_move rfl rfl ?_
    first | refine w_lidx u43 s30 rfl rfl rfl (by omega) ?_ | refine w_slidx u43 s30 rfl rfl rfl (by omega) ?_
    first | refine w_ldC a30 s30 rfl rfl agc ?_ | refine w_ldP a30 s30 rfl rfl tk agp ?_
    refine w_call rfl rfl (cw_fn rfl rfl (.cons fz .nil) (setK_fn kk hkk.1 hkk.2) ?_)
    refine w_assign rfl rfl ?_
    refine ws_nil ?_
    refine wc_seq ?_
    refine wc_text ?_
    refine w_move rfl rfl ?_
    refine w_move rfl rfl ?_
    refine w_buildSF (cs := [setK kk 3].flatMap eLL) u45 s36 z36 (by decide) rfl rfl rfl (by decide) rfl rfl ?_
    refine w_appO (enc := eLL) (l := stP ks i) (m := [setK kk 3]) rfl u45 s36 b36 z36 u45 (by simp) rfl rfl rfl tk nw bg bg (fun v69 => ?_)
    refine w_assign rfl rfl ?_
    refine ws_nil ?_
    refine wc_seq ?_
    refine wc_text ?_
    first | refine w_ldC a28 s28 rfl rfl agc ?_ | refine w_ldP a28 s28 rfl rfl tk agp ?_
    refine w_move rfl rfl ?_
    refine w_call rfl rfl (cw_fn rfl rfl (.cons fz (.cons fz .nil)) (To_fn (setK kk 3) (by omega) T (by omega)) ?_)
    refine w_assign rfl rfl ?_
    refine ws_nil ?_
    refine wc_seq ?_
    refine wc_seq ?_
    refine wc_text ?_
    refine w_move rfl rfl ?_
    first | refine w_len rfl rfl (len_lst u34) ?_ | refine w_len rfl rfl (len_slice u34) ?_ | refine w_lenO rfl u34 rfl rfl tk ?_
    refine w_eql u3 rfl rfl rfl ?_
    refine ws_nil ?_
    refine wc_cond rfl (fun h21 => ?_) (fun h21 => ?_)
    ·replace h21 := of_decide_eq_true h21
     have hne : ToV (setK kk 3) T ≠ [] := (by unfold ToV; rw [if_pos hTr]; exact toV_ne _ _)
     exact absurd (List.eq_nil_of_length_eq_zero (by omega)) hne
    ·skip
     refine wc_stay ?_
     refine wc_seq ?_
     refine wc_text ?_
     refine w_move rfl rfl ?_
     first | refine w_len rfl rfl (len_lst u34) ?_ | refine w_len rfl rfl (len_slice u34) ?_ | refine w_lenO rfl u34 rfl rfl tk ?_
     refine w_move rfl rfl ?_
     refine ws_nil ?_
     rw [show outV T (stP ks i) = outV T (stP ks i) ++ (ToV (setK kk 3) T).take 0 by simp]
     refine wc_block ?_
     refine wc_loop (σ := { j : Nat // j ≤ (ToV (setK kk 3) T).length }) (fun w => [(1, AL eKS ks), (5, .ptr (some ⟨o5, 0⟩)), (6, .map (some o24)), (11, v69), (12, .map (some o50)), (13, .int .i64 (i : Nat)), (76, AL eS (ToV (setK kk 3) T)), (77, .int .i64 ((ToV (setK kk 3) T).length : Nat)), (78, .int .i64 (w.1 : Nat))]) (fun w => [.own v69 36 1 ((stP ks i ++ [setK kk 3]).flatMap eLL) (stP ks i ++ [setK kk 3]).length, .obj o50 (.map (entsA AV.str AV.bool (nmD (outV T (stP ks i) ++ (ToV (setK kk 3) T).take w.1)) 0) (nmD (outV T (stP ks i) ++ (ToV (setK kk 3) T).take w.1)).length), .obj o24 (.map (entsA AV.str AV.bool (nmD (namesT T)) 0) (nmD (namesT T)).length), .obj o5 (.row 28 4 false (eR T))]) (fun w => (ToV (setK kk 3) T).length - w.1) ?_ ⟨0, Nat.zero_le _⟩ (.cons rfl (.cons rfl (.cons rfl (.cons rfl (.cons rfl (.cons rfl (.cons rfl (.cons rfl (.cons rfl (.nil _)))))))))) (Sel.weak (.cons tk (.cons tk (.cons tk (.cons tk .rest)))))
     rintro ⟨j, hj0⟩
     try dsimp only
     refine wc_seq ?_
     refine wc_text ?_
     refine w_lss u3 rfl rfl rfl ?_
     refine ws_nil ?_
     refine wc_seq ?_
     refine wc_cond rfl (fun h24 => ?_) (fun h24 => ?_)
     ·replace h24 := of_decide_eq_true h24
      refine wc_stay ?_
      refine wc_seq ?_
      refine wc_block ?_
      refine wc_seq ?_
      refine wc_text ?_
      obtain ⟨q, hq⟩ := get_of_lt (l := ToV (setK kk 3) T) (k := j) (by omega)
      first | refine w_lidx u34 s9 rfl rfl rfl (by omega) ?_ | refine w_slidx u34 s9 rfl rfl rfl (by omega) ?_
      first | refine w_ldC1 a9 rfl rfl rdc ?_ | refine w_ldP1 a9 rfl rfl tk rdp ?_
      refine w_assign rfl rfl ?_
      refine ws_nil ?_
      refine wc_seq ?_
      refine wc_seq ?_
      refine wc_text ?_
      refine w_move rfl rfl ?_
      refine w_move rfl rfl ?_
      refine w_lookA u44 (key_str u9) y4 rfl rfl rfl rfl tk ?_
      dsimp only [okV]
      refine w_not rfl rfl ?_
      refine ws_nil ?_
      refine wc_cond rfl (fun h26 => ?_) (fun h26 => ?_)
      ·skip
       have hqm : q ∈ namesT T := hTn _ _ (by have := List.mem_of_getElem? hq; unfold ToV at this; rwa [if_pos hTr] at this)
       rw [nm_get hqm] at h26
       exact absurd h26 (by decide)
      ·skip
       refine wc_stay ?_
       refine wc_text ?_
       refine w_move rfl rfl ?_
       refine w_move rfl rfl ?_
       refine w_mapUpdA u44 (key_str u9) rfl rfl rfl rfl tk ?_
       refine ws_nil ?_
       refine wc_text ?_
       rw [nm_one, List.append_assoc, ← take_one hq]
       refine w_add u3 rfl rfl rfl (by omega) ?_
       refine w_move rfl rfl ?_
       refine ws_nil ?_
       exact ⟨⟨j + 1, by omega⟩, by simp only; omega, (.cons rfl (.cons rfl (.cons rfl (.cons rfl (.cons rfl (.cons rfl (.cons rfl (.cons rfl (.cons rfl (.nil _)))))))))), (Sel.weak (.cons tk (.cons tk (.cons tk (.cons tk .rest)))))⟩
     ·replace h24 := of_decide_eq_false h24
      obtain rfl : j = (ToV (setK kk 3) T).length := by omega
      refine wc_exit ?_
      refine wc_text ?_
      rw [stP_next hkk0]
      rw [List.take_of_length_le (Nat.le_refl _), outV_one, stP_next hkk0]
      refine w_move rfl rfl ?_
      refine w_add u3 rfl rfl rfl (by omega) ?_
      refine w_assign rfl rfl ?_
      refine ws_nil ?_
      exact ⟨⟨(i + 1, v69), (by omega : i + 1 ≤ ks.length), (by omega : i + 1 ≤ 6)⟩, by simp only; omega, (.cons rfl (.cons rfl (.cons rfl (.cons rfl (.cons rfl (.cons rfl (.nil _))))))), (Sel.weak (.cons tk (.cons tk (.cons tk (.cons tk .nil)))))⟩
   ·replace h16 := of_decide_eq_false h16
    refine wc_exit ?_
    refine wc_seq ?_
    refine wc_text ?_
    first | refine w_ldC a28 s28 rfl rfl agc ?_ | refine w_ldP a28 s28 rfl rfl tk agp ?_
    refine w_move rfl rfl ?_
    refine w_call rfl rfl (cw_fn rfl rfl (.cons fz (.cons fz .nil)) (AllO_fn T (by omega) (stP ks i) (by rw [hstl]; omega) (fun s hs => by have := stP_len s hs; omega) (fun k => by have := outV_le hTc ((stP ks i).take k); rw [List.length_take] at this; omega)) ?_)
    refine w_assign rfl rfl ?_
    refine ws_nil ?_
    obtain ⟨LL, hLL⟩ : ∃ LL, LL = Lib.compact (sortS (outV T (stP ks i))) := ⟨_, rfl⟩
    rw [← hLL]
    have hLm : ∀ t, t ∈ LL ↔ t ∈ outV T (stP ks i) := fun t => by rw [hLL]; exact once_mem
    have hLu : LL.Pairwise (· < ·) := by rw [hLL]; exact once_up _
    have hLn : LL.length = (nmD (outV T (stP ks i))).length := by rw [hLL]; exact once_len _
    have hLb := outV_le hTc (stP ks i)
    have hLc : LL.length ≤ (outV T (stP ks i)).length := by rw [hLL]; exact Nat.le_trans (compact_leS _) (Nat.le_of_eq (List.length_mergeSort _))
    refine wc_seq ?_
    refine wc_seq ?_
    refine wc_text ?_
    refine w_move rfl rfl ?_
    first | refine w_len rfl rfl (len_lst u34) ?_ | refine w_len rfl rfl (len_slice u34) ?_ | refine w_lenO rfl u34 rfl rfl tk ?_
    refine w_move rfl rfl ?_
    refine ws_nil ?_
    refine wc_block ?_
    refine wc_loop (σ := { j : Nat // j ≤ LL.length }) (fun w => [(1, AL eKS ks), (5, .ptr (some ⟨o5, 0⟩)), (6, .map (some o24)), (12, .map (some o50)), (18, AL eS LL), (92, AL eS LL), (93, .int .i64 (LL.length : Nat)), (94, .int .i64 (w.1 : Nat))]) (fun w => [.obj o50 (.map (entsA AV.str AV.bool (nmD (outV T (stP ks i))) 0) (nmD (outV T (stP ks i))).length), .obj o5 (.row 28 4 false (eR T))]) (fun w => LL.length - w.1) ?_ ⟨0, Nat.zero_le _⟩ (.cons rfl (.cons rfl (.cons rfl (.cons rfl (.cons rfl (.cons rfl (.cons rfl (.cons rfl (.nil _))))))))) (Sel.weak (.cons tk (.cons tk .nil)))
    rintro ⟨j, hj0⟩
    try dsimp only
    refine wc_seq ?_
    refine wc_text ?_
    refine w_lss u3 rfl rfl rfl ?_
    refine ws_nil ?_
    refine wc_seq ?_
    refine wc_cond rfl (fun h32 => ?_) (fun h32 => ?_)
    ·replace h32 := of_decide_eq_true h32
     refine wc_stay ?_
     refine wc_seq ?_
     refine wc_block ?_
     refine wc_seq ?_
     refine wc_text ?_
     obtain ⟨x, hx⟩ := get_of_lt (l := LL) (k := j) (by omega)
     refine w_move rfl rfl ?_
     first | refine w_lidx u34 s9 rfl rfl rfl (by omega) ?_ | refine w_slidx u34 s9 rfl rfl rfl (by omega) ?_
     first | refine w_ldC1 a9 rfl rfl rdc ?_ | refine w_ldP1 a9 rfl rfl tk rdp ?_
     refine w_assign rfl rfl ?_
     refine w_assign rfl rfl ?_
     refine ws_nil ?_
     refine wc_seq ?_
     refine wc_text ?_
     refine w_move rfl rfl ?_
     refine w_move rfl rfl ?_
     refine w_lookA u44 (key_str u9) y4 rfl rfl rfl rfl tk ?_
     dsimp only [okV]
     refine w_not rfl rfl ?_
     refine w_move rfl rfl ?_
     refine ws_split (t := 103) rfl (fun g103 => ?_) (fun g103 => ?_)
     ·first | replace g103 := dT g103 | replace g103 := dF g103 | replace g103 := dFT g103 | replace g103 := dTF g103 | replace g103 := nb_T g103 | replace g103 := nb_F g103 | skip
      first | replace g103 := nL g103 | replace g103 := nM g103 | replace g103 := nN g103 | skip
      rw [nm_get ((hLm x).mp (List.mem_of_getElem? hx))] at g103
      first | cases g103 | exact absurd g103 (by decide)
     ·first | replace g103 := dT g103 | replace g103 := dF g103 | replace g103 := dFT g103 | replace g103 := dTF g103 | replace g103 := nb_T g103 | replace g103 := nb_F g103 | skip
      first | replace g103 := nL g103 | replace g103 := nM g103 | replace g103 := nN g103 | skip
      refine ws_on rfl rfl ?_
      refine w_move rfl rfl ?_
      refine ws_on rfl rfl ?_
      refine w_gtr u3 rfl rfl rfl ?_
      refine ws_on rfl rfl ?_
      refine w_move rfl rfl ?_
      refine ws_split (t := 106) rfl (fun g106 => ?_) (fun g106 => ?_)
      ·first | replace g106 := dT g106 | replace g106 := dF g106 | replace g106 := dFT g106 | replace g106 := dTF g106 | replace g106 := nb_T g106 | replace g106 := nb_F g106 | skip
       first | replace g106 := nL g106 | replace g106 := nM g106 | replace g106 := nN g106 | skip
       obtain ⟨q, rfl⟩ : ∃ q, j = q + 1 := ⟨j - 1, by omega⟩
       obtain ⟨p, hp⟩ := get_of_lt (l := LL) (k := q) (by omega)
       have hpx : less p x = true := by
         obtain ⟨a1, rfl⟩ := List.getElem?_eq_some_iff.mp hp
         obtain ⟨a2, rfl⟩ := List.getElem?_eq_some_iff.mp hx
         exact less_lt (List.pairwise_iff_getElem.mp hLu q (q + 1) a1 a2 (by omega))
       refine ws_on rfl rfl ?_
       refine w_move rfl rfl ?_
       refine ws_on rfl rfl ?_
       refine w_move rfl rfl ?_
       refine ws_on rfl rfl ?_
       refine w_sub u3 rfl rfl rfl (by omega) ?_
       refine ws_on rfl rfl ?_
       first | refine w_lidx u34 s9 rfl rfl rfl (by omega) ?_ | refine w_slidx u34 s9 rfl rfl rfl (by omega) ?_
       refine ws_on rfl rfl ?_
       first | refine w_ldC1 a9 rfl rfl rdc ?_ | refine w_ldP1 a9 rfl rfl tk rdp ?_
       refine ws_on rfl rfl ?_
       refine w_move rfl rfl ?_
       refine ws_on rfl rfl ?_
       refine w_sgeq u9 rfl rfl rfl ?_
       refine ws_on rfl rfl ?_
       first | refine w_pickT rfl rfl rfl ⟨_, rfl⟩ ?_ | refine w_pickF rfl rfl ⟨_, rfl⟩ rfl ?_ | refine w_pick rfl rfl rfl rfl ?_
       first | refine w_pickT rfl rfl rfl ⟨_, rfl⟩ ?_ | refine w_pickF rfl rfl ⟨_, rfl⟩ rfl ?_ | refine w_pick rfl rfl rfl rfl ?_
       refine ws_nil ?_
       refine wc_cond rfl (fun h34 => ?_) (fun h34 => ?_)
       ·skip
        exact absurd h34 (by rw [hpx]; decide)
       ·skip
        refine wc_stay ?_
        refine wc_text ?_
        refine w_add u3 rfl rfl rfl (by omega) ?_
        refine w_move rfl rfl ?_
        refine ws_nil ?_
        exact ⟨⟨q + 1 + 1, by omega⟩, by simp only; omega, (.cons rfl (.cons rfl (.cons rfl (.cons rfl (.cons rfl (.cons rfl (.cons rfl (.cons rfl (.nil _))))))))), (Sel.weak (.cons tk (.cons tk .nil)))⟩
      ·first | replace g106 := dT g106 | replace g106 := dF g106 | replace g106 := dFT g106 | replace g106 := dTF g106 | replace g106 := nb_T g106 | replace g106 := nb_F g106 | skip
       first | replace g106 := nL g106 | replace g106 := nM g106 | replace g106 := nN g106 | skip
       refine ws_off rfl rfl rfl rfl ?_
       refine ws_off rfl rfl rfl rfl ?_
       refine ws_off rfl rfl rfl rfl ?_
       refine ws_off rfl rfl rfl rfl ?_
       refine ws_off rfl rfl rfl rfl ?_
       refine ws_off rfl rfl rfl rfl ?_
       refine ws_off rfl rfl rfl rfl ?_
       refine ws_on rfl rfl ?_
       first | refine w_pickT rfl rfl rfl ⟨_, rfl⟩ ?_ | refine w_pickF rfl rfl ⟨_, rfl⟩ rfl ?_ | refine w_pick rfl rfl rfl rfl ?_
       first | refine w_pickT rfl rfl rfl ⟨_, rfl⟩ ?_ | refine w_pickF rfl rfl ⟨_, rfl⟩ rfl ?_ | refine w_pick rfl rfl rfl rfl ?_
       refine ws_nil ?_
       refine wc_condF rfl ?_
       refine wc_stay ?_
       refine wc_text ?_
       refine w_add u3 rfl rfl rfl (by omega) ?_
       refine w_move rfl rfl ?_
       refine ws_nil ?_
       exact ⟨⟨j + 1, by omega⟩, by simp only; omega, (.cons rfl (.cons rfl (.cons rfl (.cons rfl (.cons rfl (.cons rfl (.cons rfl (.cons rfl (.nil _))))))))), (Sel.weak (.cons tk (.cons tk .nil)))⟩
    ·replace h32 := of_decide_eq_false h32
     refine wc_exit ?_
     refine wc_seq ?_
     refine wc_text ?_
     refine w_build (v := .agg [_, _, _, _]) B28 rfl rfl rfl ?_
     refine w_buildSOW (cs := eR firstT) u26 s28 z28 (by decide) rfl rfl rfl first_le (fun o118 => ?_)
     first | refine w_faddrC O28_3 rfl rfl ?_ | refine w_faddrP O28_3 rfl rfl ?_
     first | refine w_ldC1 a26 rfl rfl rdc ?_ | refine w_ldP1 a26 rfl rfl tk rdp ?_
     rw [kids_al]
     refine WS.closeOwn (m := 1) (o := o118) tk rfl ?_
     refine w_appF rfl u26 s28 b28 z28 u26 (by simp) rfl rfl rfl tk nw (by unfold bigBy; omega) (by unfold bigBy; omega) (by rw [List.all_append, flat_done eR_done, eR_done]; rfl) ?_
     refine w_build (v := .agg [_, _, _, _]) B28 rfl rfl rfl ?_
     refine w_alloc z28 s28 rfl (fun o21 => ?_)
     refine w_st s28 rfl rfl rfl tk rfl rfl ovw ?_
     refine ws_nil ?_
     refine WC.weakCells (o := o21) (cs' := eR (aloneT T)) tk (alone_le T) ?_
     refine wc_seq ?_
     refine wc_text ?_
     refine w_move rfl rfl ?_
     first | refine w_len rfl rfl (len_lst u34) ?_ | refine w_len rfl rfl (len_slice u34) ?_ | refine w_lenO rfl u34 rfl rfl tk ?_
     refine w_move rfl rfl ?_
     refine w_lenA rfl u44 rfl rfl tk ?_
     refine w_eql u3 rfl rfl rfl ?_
     refine w_move rfl rfl ?_
     refine ws_split (t := 128) rfl (fun g128 => ?_) (fun g128 => ?_)
     ·first | replace g128 := dT g128 | replace g128 := dF g128 | replace g128 := dFT g128 | replace g128 := dTF g128 | replace g128 := nb_T g128 | replace g128 := nb_F g128 | skip
      first | replace g128 := nL g128 | replace g128 := nM g128 | replace g128 := nN g128 | skip
      refine ws_on rfl rfl ?_
      first | refine w_faddrC O28_3 rfl rfl ?_ | refine w_faddrP O28_3 rfl rfl ?_
      refine ws_on rfl rfl ?_
      first | refine w_ldC1 a26 rfl rfl rdc ?_ | refine w_ldP1 a26 rfl rfl tk rdp ?_
      refine ws_on rfl rfl ?_
      first | refine w_len rfl rfl (len_lst u26) ?_ | refine w_len rfl rfl (len_slice u26) ?_ | refine w_lenO rfl u26 rfl rfl tk ?_
      refine ws_on rfl rfl ?_
      refine w_gtr u3 rfl rfl rfl ?_
      refine ws_on rfl rfl ?_
      refine w_move rfl rfl ?_
      refine ws_split (t := 133) rfl (fun g133 => ?_) (fun g133 => ?_)
      ·first | replace g133 := dT g133 | replace g133 := dF g133 | replace g133 := dFT g133 | replace g133 := dTF g133 | replace g133 := nb_T g133 | replace g133 := nb_F g133 | skip
       first | replace g133 := nL g133 | replace g133 := nM g133 | replace g133 := nN g133 | skip
       refine ws_off rfl rfl rfl rfl ?_
       refine ws_off rfl rfl rfl rfl ?_
       refine ws_off rfl rfl rfl rfl ?_
       refine ws_off rfl rfl rfl rfl ?_
       refine ws_on rfl rfl ?_
       first | refine w_pickT rfl rfl rfl ⟨_, rfl⟩ ?_ | refine w_pickF rfl rfl ⟨_, rfl⟩ rfl ?_ | refine w_pick rfl rfl rfl rfl ?_
       first | refine w_pickT rfl rfl rfl ⟨_, rfl⟩ ?_ | refine w_pickF rfl rfl ⟨_, rfl⟩ rfl ?_ | refine w_pick rfl rfl rfl rfl ?_
       refine w_move rfl rfl ?_
       refine ws_on rfl rfl ?_
       first | refine w_ldC a28 s28 rfl rfl agc ?_ | refine w_ldP a28 s28 rfl rfl tk agp ?_
       refine ws_on rfl rfl ?_
       refine w_call rfl rfl (cw_fn rfl rfl (.cons fz (.cons fz .nil)) (AllO_fn T (by omega) [] (by simp) (by simp) (fun k => by simp [outV])) ?_)
       refine ws_on rfl rfl ?_
       first | refine w_len rfl rfl (len_lst u34) ?_ | refine w_len rfl rfl (len_slice u34) ?_ | refine w_lenO rfl u34 rfl rfl tk ?_
       refine ws_on rfl rfl ?_
       refine w_eql u3 rfl rfl rfl ?_
       first | refine w_pickT rfl rfl rfl ⟨_, rfl⟩ ?_ | refine w_pickF rfl rfl ⟨_, rfl⟩ rfl ?_ | refine w_pick rfl rfl rfl rfl ?_
       refine w_move rfl rfl ?_
       refine ws_split (t := 146) rfl (fun g146 => ?_) (fun g146 => ?_)
       ·first | replace g146 := dT g146 | replace g146 := dF g146 | replace g146 := dFT g146 | replace g146 := dTF g146 | replace g146 := nb_T g146 | replace g146 := nb_F g146 | skip
        first | replace g146 := nL g146 | replace g146 := nM g146 | replace g146 := nN g146 | skip
        refine ws_on rfl rfl ?_
        refine w_call rfl rfl (cw_fn rfl rfl .nil (runsR_fn) ?_)
        first | refine w_pickT rfl rfl rfl ⟨_, rfl⟩ ?_ | refine w_pickF rfl rfl ⟨_, rfl⟩ rfl ?_ | refine w_pick rfl rfl rfl rfl ?_
        refine w_assign rfl rfl ?_
        refine ws_nil ?_
        refine wc_ret ?_
        refine ⟨_, (.cons (.tmp rfl) .nil), ?_, rfl⟩
        rfl
       ·first | replace g146 := dT g146 | replace g146 := dF g146 | replace g146 := dFT g146 | replace g146 := dTF g146 | replace g146 := nb_T g146 | replace g146 := nb_F g146 | skip
        first | replace g146 := nL g146 | replace g146 := nM g146 | replace g146 := nN g146 | skip
        exact absurd (by rw [hA0]; rfl) g146
      ·first | replace g133 := dT g133 | replace g133 := dF g133 | replace g133 := dFT g133 | replace g133 := dTF g133 | replace g133 := nb_T g133 | replace g133 := nb_F g133 | skip
       first | replace g133 := nL g133 | replace g133 := nM g133 | replace g133 := nN g133 | skip
       refine ws_on rfl rfl ?_
       first | refine w_ldC a28 s28 rfl rfl agc ?_ | refine w_ldP a28 s28 rfl rfl tk agp ?_
       refine ws_on rfl rfl ?_
       refine w_call rfl rfl (cw_fn rfl rfl (.cons fz (.cons fz .nil)) (To_fn [] (by simp) (aloneT T) (by rw [alone_blk]; omega)) ?_)
       refine ws_on rfl rfl ?_
       refine w_buildSF (cs := [([102, 105, 114, 115, 116] : List UInt8)].flatMap eS) u34 s9 z9 (by decide) rfl rfl rfl (by decide) rfl rfl ?_
       refine ws_on rfl rfl ?_
       refine w_call rfl rfl (cw_fn rfl rfl (.cons fz (.cons fz .nil)) (sameS_fn _ _ (by rw [hATo]; simp)) ?_)
       refine ws_on rfl rfl ?_
       first | refine w_pickT rfl rfl rfl ⟨_, rfl⟩ ?_ | refine w_pickF rfl rfl ⟨_, rfl⟩ rfl ?_ | refine w_pick rfl rfl rfl rfl ?_
       first | refine w_pickT rfl rfl rfl ⟨_, rfl⟩ ?_ | refine w_pickF rfl rfl ⟨_, rfl⟩ rfl ?_ | refine w_pick rfl rfl rfl rfl ?_
       refine w_move rfl rfl ?_
       refine ws_split (t := 140) rfl (fun g140 => ?_) (fun g140 => ?_)
       ·first | replace g140 := dT g140 | replace g140 := dF g140 | replace g140 := dFT g140 | replace g140 := dTF g140 | replace g140 := nb_T g140 | replace g140 := nb_F g140 | skip
        first | replace g140 := nL g140 | replace g140 := nM g140 | replace g140 := nN g140 | skip
        refine ws_on rfl rfl ?_
        first | refine w_ldC a28 s28 rfl rfl agc ?_ | refine w_ldP a28 s28 rfl rfl tk agp ?_
        refine ws_on rfl rfl ?_
        refine w_call rfl rfl (cw_fn rfl rfl (.cons fz (.cons fz .nil)) (AllO_fn T (by omega) [] (by simp) (by simp) (fun k => by simp [outV])) ?_)
        refine ws_on rfl rfl ?_
        first | refine w_len rfl rfl (len_lst u34) ?_ | refine w_len rfl rfl (len_slice u34) ?_ | refine w_lenO rfl u34 rfl rfl tk ?_
        refine ws_on rfl rfl ?_
        refine w_eql u3 rfl rfl rfl ?_
        first | refine w_pickT rfl rfl rfl ⟨_, rfl⟩ ?_ | refine w_pickF rfl rfl ⟨_, rfl⟩ rfl ?_ | refine w_pick rfl rfl rfl rfl ?_
        refine w_move rfl rfl ?_
        refine ws_split (t := 146) rfl (fun g146 => ?_) (fun g146 => ?_)
        ·first | replace g146 := dT g146 | replace g146 := dF g146 | replace g146 := dFT g146 | replace g146 := dTF g146 | replace g146 := nb_T g146 | replace g146 := nb_F g146 | skip
         first | replace g146 := nL g146 | replace g146 := nM g146 | replace g146 := nN g146 | skip
         refine ws_on rfl rfl ?_
         refine w_call rfl rfl (cw_fn rfl rfl .nil (runsR_fn) ?_)
         first | refine w_pickT rfl rfl rfl ⟨_, rfl⟩ ?_ | refine w_pickF rfl rfl ⟨_, rfl⟩ rfl ?_ | refine w_pick rfl rfl rfl rfl ?_
         refine w_assign rfl rfl ?_
         refine ws_nil ?_
         refine wc_ret ?_
         refine ⟨_, (.cons (.tmp rfl) .nil), ?_, rfl⟩
         rfl
        ·first | replace g146 := dT g146 | replace g146 := dF g146 | replace g146 := dFT g146 | replace g146 := dTF g146 | replace g146 := nb_T g146 | replace g146 := nb_F g146 | skip
         first | replace g146 := nL g146 | replace g146 := nM g146 | replace g146 := nN g146 | skip
         exact absurd (by rw [hA0]; rfl) g146
       ·first | replace g140 := dT g140 | replace g140 := dF g140 | replace g140 := dFT g140 | replace g140 := dTF g140 | replace g140 := nb_T g140 | replace g140 := nb_F g140 | skip
        first | replace g140 := nL g140 | replace g140 := nM g140 | replace g140 := nN g140 | skip
        exact absurd hATo g140
     ·first | replace g128 := dT g128 | replace g128 := dF g128 | replace g128 := dFT g128 | replace g128 := dTF g128 | replace g128 := nb_T g128 | replace g128 := nb_F g128 | skip
      first | replace g128 := nL g128 | replace g128 := nM g128 | replace g128 := nN g128 | skip
      exact absurd (by omega) g128
  ·first | replace g55 := dT g55 | replace g55 := dF g55 | replace g55 := dFT g55 | replace g55 := dTF g55 | replace g55 := nb_T g55 | replace g55 := nb_F g55 | skip
   first | replace g55 := nL g55 | replace g55 := nM g55 | replace g55 := nN g55 | skip
   refine ws_off rfl rfl rfl rfl ?_
   refine ws_off rfl rfl rfl rfl ?_
   first | refine w_pickT rfl rfl rfl ⟨_, rfl⟩ ?_ | refine w_pickF rfl rfl ⟨_, rfl⟩ rfl ?_ | refine w_pick rfl rfl rfl rfl ?_
   refine ws_nil ?_
   refine wc_condF rfl ?_
   refine wc_exit ?_
   refine wc_seq ?_
   refine wc_text ?_
   first | refine w_ldC a28 s28 rfl rfl agc ?_ | refine w_ldP a28 s28 rfl rfl tk agp ?_
   refine w_move rfl rfl ?_
   refine w_call rfl rfl (cw_fn rfl rfl (.cons fz (.cons fz .nil)) (AllO_fn T (by omega) (stP ks i) (by rw [hstl]; omega) (fun s hs => by have := stP_len s hs; omega) (fun k => by have := outV_le hTc ((stP ks i).take k); rw [List.length_take] at this; omega)) ?_)
   refine w_assign rfl rfl ?_
   refine ws_nil ?_
   obtain ⟨LL, hLL⟩ : ∃ LL, LL = Lib.compact (sortS (outV T (stP ks i))) := ⟨_, rfl⟩
   rw [← hLL]
   have hLm : ∀ t, t ∈ LL ↔ t ∈ outV T (stP ks i) := fun t => by rw [hLL]; exact once_mem
   have hLu : LL.Pairwise (· < ·) := by rw [hLL]; exact once_up _
   have hLn : LL.length = (nmD (outV T (stP ks i))).length := by rw [hLL]; exact once_len _
   have hLb := outV_le hTc (stP ks i)
   have hLc : LL.length ≤ (outV T (stP ks i)).length := by rw [hLL]; exact Nat.le_trans (compact_leS _) (Nat.le_of_eq (List.length_mergeSort _))
   refine wc_seq ?_
   refine wc_seq ?_
   refine wc_text ?_
   refine w_move rfl rfl ?_
   first | refine w_len rfl rfl (len_lst u34) ?_ | refine w_len rfl rfl (len_slice u34) ?_ | refine w_lenO rfl u34 rfl rfl tk ?_
   refine w_move rfl rfl ?_
   refine ws_nil ?_
   refine wc_block ?_
   refine wc_loop (σ := { j : Nat // j ≤ LL.length }) (fun w => [(1, AL eKS ks), (5, .ptr (some ⟨o5, 0⟩)), (6, .map (some o24)), (12, .map (some o50)), (18, AL eS LL), (92, AL eS LL), (93, .int .i64 (LL.length : Nat)), (94, .int .i64 (w.1 : Nat))]) (fun w => [.obj o50 (.map (entsA AV.str AV.bool (nmD (outV T (stP ks i))) 0) (nmD (outV T (stP ks i))).length), .obj o5 (.row 28 4 false (eR T))]) (fun w => LL.length - w.1) ?_ ⟨0, Nat.zero_le _⟩ (.cons rfl (.cons rfl (.cons rfl (.cons rfl (.cons rfl (.cons rfl (.cons rfl (.cons rfl (.nil _))))))))) (Sel.weak (.cons tk (.cons tk .nil)))
   rintro ⟨j, hj0⟩
   try dsimp only
   refine wc_seq ?_
   refine wc_text ?_
   refine w_lss u3 rfl rfl rfl ?_
   refine ws_nil ?_
   refine wc_seq ?_
   refine wc_cond rfl (fun h32 => ?_) (fun h32 => ?_)
   ·replace h32 := of_decide_eq_true h32
    refine wc_stay ?_
    refine wc_seq ?_
    refine wc_block ?_
    refine wc_seq ?_
    refine wc_text ?_
    obtain ⟨x, hx⟩ := get_of_lt (l := LL) (k := j) (by omega)
    refine w_move rfl rfl ?_
    first | refine w_lidx u34 s9 rfl rfl rfl (by omega) ?_ | refine w_slidx u34 s9 rfl rfl rfl (by omega) ?_
    first | refine w_ldC1 a9 rfl rfl rdc ?_ | refine w_ldP1 a9 rfl rfl tk rdp ?_
    refine w_assign rfl rfl ?_
    refine w_assign rfl rfl ?_
    refine ws_nil ?_
    refine wc_seq ?_
    refine wc_text ?_
    refine w_move rfl rfl ?_
    refine w_move rfl rfl ?_
    refine w_lookA u44 (key_str u9) y4 rfl rfl rfl rfl tk ?_
    dsimp only [okV]
    refine w_not rfl rfl ?_
    refine w_move rfl rfl ?_
    refine ws_split (t := 103) rfl (fun g103 => ?_) (fun g103 => ?_)
    ·first | replace g103 := dT g103 | replace g103 := dF g103 | replace g103 := dFT g103 | replace g103 := dTF g103 | replace g103 := nb_T g103 | replace g103 := nb_F g103 | skip
     first | replace g103 := nL g103 | replace g103 := nM g103 | replace g103 := nN g103 | skip
     rw [nm_get ((hLm x).mp (List.mem_of_getElem? hx))] at g103
     first | cases g103 | exact absurd g103 (by decide)
    ·first | replace g103 := dT g103 | replace g103 := dF g103 | replace g103 := dFT g103 | replace g103 := dTF g103 | replace g103 := nb_T g103 | replace g103 := nb_F g103 | skip
     first | replace g103 := nL g103 | replace g103 := nM g103 | replace g103 := nN g103 | skip
     refine ws_on rfl rfl ?_
     refine w_move rfl rfl ?_
     refine ws_on rfl rfl ?_
     refine w_gtr u3 rfl rfl rfl ?_
     refine ws_on rfl rfl ?_
     refine w_move rfl rfl ?_
     refine ws_split (t := 106) rfl (fun g106 => ?_) (fun g106 => ?_)
     ·first | replace g106 := dT g106 | replace g106 := dF g106 | replace g106 := dFT g106 | replace g106 := dTF g106 | replace g106 := nb_T g106 | replace g106 := nb_F g106 | skip
      first | replace g106 := nL g106 | replace g106 := nM g106 | replace g106 := nN g106 | skip
      obtain ⟨q, rfl⟩ : ∃ q, j = q + 1 := ⟨j - 1, by omega⟩
      obtain ⟨p, hp⟩ := get_of_lt (l := LL) (k := q) (by omega)
      have hpx : less p x = true := by
        obtain ⟨a1, rfl⟩ := List.getElem?_eq_some_iff.mp hp
        obtain ⟨a2, rfl⟩ := List.getElem?_eq_some_iff.mp hx
        exact less_lt (List.pairwise_iff_getElem.mp hLu q (q + 1) a1 a2 (by omega))
      refine ws_on rfl rfl ?_
      refine w_move rfl rfl ?_
      refine ws_on rfl rfl ?_
      refine w_move rfl rfl ?_
      refine ws_on rfl rfl ?_
      refine w_sub u3 rfl rfl rfl (by omega) ?_
      refine ws_on rfl rfl ?_
      first | refine w_lidx u34 s9 rfl rfl rfl (by omega) ?_ | refine w_slidx u34 s9 rfl rfl rfl (by omega) ?_
      refine ws_on rfl rfl ?_
      first | refine w_ldC1 a9 rfl rfl rdc ?_ | refine w_ldP1 a9 rfl rfl tk rdp ?_
      refine ws_on rfl rfl ?_
      refine w_move rfl rfl ?_
      refine ws_on rfl rfl ?_
      refine w_sgeq u9 rfl rfl rfl ?_
      refine ws_on rfl rfl ?_
      first | refine w_pickT rfl rfl rfl ⟨_, rfl⟩ ?_ | refine w_pickF rfl rfl ⟨_, rfl⟩ rfl ?_ | refine w_pick rfl rfl rfl rfl ?_
      first | refine w_pickT rfl rfl rfl ⟨_, rfl⟩ ?_ | refine w_pickF rfl rfl ⟨_, rfl⟩ rfl ?_ | refine w_pick rfl rfl rfl rfl ?_
      refine ws_nil ?_
      refine wc_cond rfl (fun h34 => ?_) (fun h34 => ?_)
      ·skip
       exact absurd h34 (by rw [hpx]; decide)
      ·skip
       refine wc_stay ?_
       refine wc_text ?_
       refine w_add u3 rfl rfl rfl (by omega) ?_
       refine w_move rfl rfl ?_
       refine ws_nil ?_
       exact ⟨⟨q + 1 + 1, by omega⟩, by simp only; omega, (.cons rfl (.cons rfl (.cons rfl (.cons rfl (.cons rfl (.cons rfl (.cons rfl (.cons rfl (.nil _))))))))), (Sel.weak (.cons tk (.cons tk .nil)))⟩
     ·first | replace g106 := dT g106 | replace g106 := dF g106 | replace g106 := dFT g106 | replace g106 := dTF g106 | replace g106 := nb_T g106 | replace g106 := nb_F g106 | skip
      first | replace g106 := nL g106 | replace g106 := nM g106 | replace g106 := nN g106 | skip
      refine ws_off rfl rfl rfl rfl ?_
      refine ws_off rfl rfl rfl rfl ?_
      refine ws_off rfl rfl rfl rfl ?_
      refine ws_off rfl rfl rfl rfl ?_
      refine ws_off rfl rfl rfl rfl ?_
      refine ws_off rfl rfl rfl rfl ?_
      refine ws_off rfl rfl rfl rfl ?_
      refine ws_on rfl rfl ?_
      first | refine w_pickT rfl rfl rfl ⟨_, rfl⟩ ?_ | refine w_pickF rfl rfl ⟨_, rfl⟩ rfl ?_ | refine w_pick rfl rfl rfl rfl ?_
      first | refine w_pickT rfl rfl rfl ⟨_, rfl⟩ ?_ | refine w_pickF rfl rfl ⟨_, rfl⟩ rfl ?_ | refine w_pick rfl rfl rfl rfl ?_
      refine ws_nil ?_
      refine wc_condF rfl ?_
      refine wc_stay ?_
      refine wc_text ?_
      refine w_add u3 rfl rfl rfl (by omega) ?_
      refine w_move rfl rfl ?_
      refine ws_nil ?_
      exact ⟨⟨j + 1, by omega⟩, by simp only; omega, (.cons rfl (.cons rfl (.cons rfl (.cons rfl (.cons rfl (.cons rfl (.cons rfl (.cons rfl (.nil _))))))))), (Sel.weak (.cons tk (.cons tk .nil)))⟩
   ·replace h32 := of_decide_eq_false h32
    refine wc_exit ?_
    refine wc_seq ?_
    refine wc_text ?_
    refine w_build (v := .agg [_, _, _, _]) B28 rfl rfl rfl ?_
    refine w_buildSOW (cs := eR firstT) u26 s28 z28 (by decide) rfl rfl rfl first_le (fun o118 => ?_)
    first | refine w_faddrC O28_3 rfl rfl ?_ | refine w_faddrP O28_3 rfl rfl ?_
    first | refine w_ldC1 a26 rfl rfl rdc ?_ | refine w_ldP1 a26 rfl rfl tk rdp ?_
    rw [kids_al]
    refine WS.closeOwn (m := 1) (o := o118) tk rfl ?_
    refine w_appF rfl u26 s28 b28 z28 u26 (by simp) rfl rfl rfl tk nw (by unfold bigBy; omega) (by unfold bigBy; omega) (by rw [List.all_append, flat_done eR_done, eR_done]; rfl) ?_
    refine w_build (v := .agg [_, _, _, _]) B28 rfl rfl rfl ?_
    refine w_alloc z28 s28 rfl (fun o21 => ?_)
    refine w_st s28 rfl rfl rfl tk rfl rfl ovw ?_
    refine ws_nil ?_
    refine WC.weakCells (o := o21) (cs' := eR (aloneT T)) tk (alone_le T) ?_
    refine wc_seq ?_
    refine wc_text ?_
    refine w_move rfl rfl ?_
    first | refine w_len rfl rfl (len_lst u34) ?_ | refine w_len rfl rfl (len_slice u34) ?_ | refine w_lenO rfl u34 rfl rfl tk ?_
    refine w_move rfl rfl ?_
    refine w_lenA rfl u44 rfl rfl tk ?_
    refine w_eql u3 rfl rfl rfl ?_
    refine w_move rfl rfl ?_
    refine ws_split (t := 128) rfl (fun g128 => ?_) (fun g128 => ?_)
    ·first | replace g128 := dT g128 | replace g128 := dF g128 | replace g128 := dFT g128 | replace g128 := dTF g128 | replace g128 := nb_T g128 | replace g128 := nb_F g128 | skip
     first | replace g128 := nL g128 | replace g128 := nM g128 | replace g128 := nN g128 | skip
     refine ws_on rfl rfl ?_
     first | refine w_faddrC O28_3 rfl rfl ?_ | refine w_faddrP O28_3 rfl rfl ?_
     refine ws_on rfl rfl ?_
     first | refine w_ldC1 a26 rfl rfl rdc ?_ | refine w_ldP1 a26 rfl rfl tk rdp ?_
     refine ws_on rfl rfl ?_
     first | refine w_len rfl rfl (len_lst u26) ?_ | refine w_len rfl rfl (len_slice u26) ?_ | refine w_lenO rfl u26 rfl rfl tk ?_
     refine ws_on rfl rfl ?_
     refine w_gtr u3 rfl rfl rfl ?_
     refine ws_on rfl rfl ?_
     refine w_move rfl rfl ?_
     refine ws_split (t := 133) rfl (fun g133 => ?_) (fun g133 => ?_)
     ·first | replace g133 := dT g133 | replace g133 := dF g133 | replace g133 := dFT g133 | replace g133 := dTF g133 | replace g133 := nb_T g133 | replace g133 := nb_F g133 | skip
      first | replace g133 := nL g133 | replace g133 := nM g133 | replace g133 := nN g133 | skip
      refine ws_off rfl rfl rfl rfl ?_
      refine ws_off rfl rfl rfl rfl ?_
      refine ws_off rfl rfl rfl rfl ?_
      refine ws_off rfl rfl rfl rfl ?_
      refine ws_on rfl rfl ?_
      first | refine w_pickT rfl rfl rfl ⟨_, rfl⟩ ?_ | refine w_pickF rfl rfl ⟨_, rfl⟩ rfl ?_ | refine w_pick rfl rfl rfl rfl ?_
      first | refine w_pickT rfl rfl rfl ⟨_, rfl⟩ ?_ | refine w_pickF rfl rfl ⟨_, rfl⟩ rfl ?_ | refine w_pick rfl rfl rfl rfl ?_
      refine w_move rfl rfl ?_
      refine ws_on rfl rfl ?_
      first | refine w_ldC a28 s28 rfl rfl agc ?_ | refine w_ldP a28 s28 rfl rfl tk agp ?_
      refine ws_on rfl rfl ?_
      refine w_call rfl rfl (cw_fn rfl rfl (.cons fz (.cons fz .nil)) (AllO_fn T (by omega) [] (by simp) (by simp) (fun k => by simp [outV])) ?_)
      refine ws_on rfl rfl ?_
      first | refine w_len rfl rfl (len_lst u34) ?_ | refine w_len rfl rfl (len_slice u34) ?_ | refine w_lenO rfl u34 rfl rfl tk ?_
      refine ws_on rfl rfl ?_
      refine w_eql u3 rfl rfl rfl ?_
      first | refine w_pickT rfl rfl rfl ⟨_, rfl⟩ ?_ | refine w_pickF rfl rfl ⟨_, rfl⟩ rfl ?_ | refine w_pick rfl rfl rfl rfl ?_
      refine w_move rfl rfl ?_
      refine ws_split (t := 146) rfl (fun g146 => ?_) (fun g146 => ?_)
      ·first | replace g146 := dT g146 | replace g146 := dF g146 | replace g146 := dFT g146 | replace g146 := dTF g146 | replace g146 := nb_T g146 | replace g146 := nb_F g146 | skip
       first | replace g146 := nL g146 | replace g146 := nM g146 | replace g146 := nN g146 | skip
       refine ws_on rfl rfl ?_
       refine w_call rfl rfl (cw_fn rfl rfl .nil (runsR_fn) ?_)
       first | refine w_pickT rfl rfl rfl ⟨_, rfl⟩ ?_ | refine w_pickF rfl rfl ⟨_, rfl⟩ rfl ?_ | refine w_pick rfl rfl rfl rfl ?_
       refine w_assign rfl rfl ?_
       refine ws_nil ?_
       refine wc_ret ?_
       refine ⟨_, (.cons (.tmp rfl) .nil), ?_, rfl⟩
       rfl
      ·first | replace g146 := dT g146 | replace g146 := dF g146 | replace g146 := dFT g146 | replace g146 := dTF g146 | replace g146 := nb_T g146 | replace g146 := nb_F g146 | skip
       first | replace g146 := nL g146 | replace g146 := nM g146 | replace g146 := nN g146 | skip
       exact absurd (by rw [hA0]; rfl) g146
     ·first | replace g133 := dT g133 | replace g133 := dF g133 | replace g133 := dFT g133 | replace g133 := dTF g133 | replace g133 := nb_T g133 | replace g133 := nb_F g133 | skip
      first | replace g133 := nL g133 | replace g133 := nM g133 | replace g133 := nN g133 | skip
      refine ws_on rfl rfl ?_
      first | refine w_ldC a28 s28 rfl rfl agc ?_ | refine w_ldP a28 s28 rfl rfl tk agp ?_
      refine ws_on rfl rfl ?_
      refine w_call rfl rfl (cw_fn rfl rfl (.cons fz (.cons fz .nil)) (To_fn [] (by simp) (aloneT T) (by rw [alone_blk]; omega)) ?_)
      refine ws_on rfl rfl ?_
      refine w_buildSF (cs := [([102, 105, 114, 115, 116] : List UInt8)].flatMap eS) u34 s9 z9 (by decide) rfl rfl rfl (by decide) rfl rfl ?_
      refine ws_on rfl rfl ?_
      refine w_call rfl rfl (cw_fn rfl rfl (.cons fz (.cons fz .nil)) (sameS_fn _ _ (by rw [hATo]; simp)) ?_)
      refine ws_on rfl rfl ?_
      first | refine w_pickT rfl rfl rfl ⟨_, rfl⟩ ?_ | refine w_pickF rfl rfl ⟨_, rfl⟩ rfl ?_ | refine w_pick rfl rfl rfl rfl ?_
      first | refine w_pickT rfl rfl rfl ⟨_, rfl⟩ ?_ | refine w_pickF rfl rfl ⟨_, rfl⟩ rfl ?_ | refine w_pick rfl rfl rfl rfl ?_
      refine w_move rfl rfl ?_
      refine ws_split (t := 140) rfl (fun g140 => ?_) (fun g140 => ?_)
      ·first | replace g140 := dT g140 | replace g140 := dF g140 | replace g140 := dFT g140 | replace g140 := dTF g140 | replace g140 := nb_T g140 | replace g140 := nb_F g140 | skip
       first | replace g140 := nL g140 | replace g140 := nM g140 | replace g140 := nN g140 | skip
       refine ws_on rfl rfl ?_
       first | refine w_ldC a28 s28 rfl rfl agc ?_ | refine w_ldP a28 s28 rfl rfl tk agp ?_
       refine ws_on rfl rfl ?_
       refine w_call rfl rfl (cw_fn rfl rfl (.cons fz (.cons fz .nil)) (AllO_fn T (by omega) [] (by simp) (by simp) (fun k => by simp [outV])) ?_)
       refine ws_on rfl rfl ?_
       first | refine w_len rfl rfl (len_lst u34) ?_ | refine w_len rfl rfl (len_slice u34) ?_ | refine w_lenO rfl u34 rfl rfl tk ?_
       refine ws_on rfl rfl ?_
       refine w_eql u3 rfl rfl rfl ?_
       first | refine w_pickT rfl rfl rfl ⟨_, rfl⟩ ?_ | refine w_pickF rfl rfl ⟨_, rfl⟩ rfl ?_ | refine w_pick rfl rfl rfl rfl ?_
       refine w_move rfl rfl ?_
       refine ws_split (t := 146) rfl (fun g146 => ?_) (fun g146 => ?_)
       ·first | replace g146 := dT g146 | replace g146 := dF g146 | replace g146 := dFT g146 | replace g146 := dTF g146 | replace g146 := nb_T g146 | replace g146 := nb_F g146 | skip
        first | replace g146 := nL g146 | replace g146 := nM g146 | replace g146 := nN g146 | skip
        refine ws_on rfl rfl ?_
        refine w_call rfl rfl (cw_fn rfl rfl .nil (runsR_fn) ?_)
        first | refine w_pickT rfl rfl rfl ⟨_, rfl⟩ ?_ | refine w_pickF rfl rfl ⟨_, rfl⟩ rfl ?_ | refine w_pick rfl rfl rfl rfl ?_
        refine w_assign rfl rfl ?_
        refine ws_nil ?_
        refine wc_ret ?_
        refine ⟨_, (.cons (.tmp rfl) .nil), ?_, rfl⟩
        rfl
       ·first | replace g146 := dT g146 | replace g146 := dF g146 | replace g146 := dFT g146 | replace g146 := dTF g146 | replace g146 := nb_T g146 | replace g146 := nb_F g146 | skip
        first | replace g146 := nL g146 | replace g146 := nM g146 | replace g146 := nN g146 | skip
        exact absurd (by rw [hA0]; rfl) g146
      ·first | replace g140 := dT g140 | replace g140 := dF g140 | replace g140 := dFT g140 | replace g140 := dTF g140 | replace g140 := nb_T g140 | replace g140 := nb_F g140 | skip
       first | replace g140 := nL g140 | replace g140 := nM g140 | replace g140 := nN g140 | skip
       exact absurd hATo g140
    ·first | replace g128 := dT g128 | replace g128 := dF g128 | replace g128 := dFT g128 | replace g128 := dTF g128 | replace g128 := nb_T g128 | replace g128 := nb_F g128 | skip
     first | replace g128 := nL g128 | replace g128 := nM g128 | replace g128 := nN g128 | skip
     exact absurd (by omega) g128
end Go.Proofs.YtonojkcnencodaaDoor.rt
