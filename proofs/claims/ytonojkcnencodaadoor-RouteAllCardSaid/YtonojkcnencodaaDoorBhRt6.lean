/-
  Package route, and what it calls, walked by facts (printed by gen_rt.py).
-/
import Derived.Test.YtonojkcnencodaaDoorBhW16
import Derived.Test.YtonojkcnencodaaDoorBhW18
import Derived.Test.YtonojkcnencodaaDoorBhW21
namespace Go.Proofs.YtonojkcnencodaaDoor.rt
open Go Go.Proofs Go.Proofs.YtonojkcnencodaaDoor.BH Go.Proofs.YtonojkcnencodaaDoor.BH.Rt
open Go.Proofs.YtonojkcnencodaaDoor.BH.Dk (withinV withinV_in)
set_option maxRecDepth 100000
set_option maxHeartbeats 4000000 in
theorem grow_step (on : Nat) (nodes : List Nd) (under : List Int) (a f : Nat) (hn : nodes.length ≤ 9) (hu : under.length = nodes.length) (hup : ∀ (j : Nat) (z : Int), under[j]? = some z → z < j) (ha : a < nodes.length) (ih : ∀ j, a < j → j < nodes.length → ∀ R, CallW C 20 [.slice (some ⟨on, 0⟩) nodes.length (.op 0), AL eI under, .int .i64 (j : Nat)] (.obj on (.row 28 4 false (nodes.flatMap eN)) :: R) fun v H => v = agR (growV nodes under f j) ∧ H = .obj on (.row 28 4 false (nodes.flatMap eN)) :: R) (R : List HI) : CallW C 20 [.slice (some ⟨on, 0⟩) nodes.length (.op 0), AL eI under, .int .i64 (a : Nat)] ([.obj on (.row 28 4 false (nodes.flatMap eN))] ++ R) fun v H => ∃ H', H = H' ++ R ∧ (v = agR (growV nodes under (f + 1) a) ∧ H' = [.obj on (.row 28 4 false (nodes.flatMap eN))]) := by
 refine cw_sharedA (fn := Tryd.f20) rfl rfl rfl rfl (K := fun v H' => (v = agR (growV nodes under (f + 1) a) ∧ H' = [.obj on (.row 28 4 false (nodes.flatMap eN))])) ?_ R
 refine wc_seq ?_
 refine wc_text ?_
 refine w_alloc z28 s28 rfl (fun o6 => ?_)
 refine ws_nil ?_
 refine wc_seq ?_
 refine wc_text ?_
 obtain ⟨x, hx⟩ := get_of_lt (l := nodes) (k := a) ha
 refine w_move rfl rfl ?_
 refine w_move rfl rfl ?_
 first | refine w_lidx u26 s28 rfl rfl rfl (by omega) ?_ | refine w_slidx u26 s28 rfl rfl rfl (by omega) ?_
 first | refine w_ldC a28 s28 rfl rfl agc ?_ | refine w_ldP a28 s28 rfl rfl tk agp ?_
 refine w_alloc z28 s28 rfl (fun o7 => ?_)
 refine w_st s28 rfl rfl rfl tk rfl rfl ovw ?_
 refine ws_nil ?_
 refine WC.ownNil 28 4 ?_
 refine wc_seq ?_
 refine wc_seq ?_
 refine wc_text ?_
 refine w_move rfl rfl ?_
 first | refine w_len rfl rfl (len_lst u26) ?_ | refine w_len rfl rfl (len_slice u26) ?_ | refine w_lenO rfl u26 rfl rfl tk ?_
 refine w_move rfl rfl ?_
 refine ws_nil ?_
 refine wc_block ?_
 refine wc_loop (σ := { u : Nat × AV // u.1 ≤ nodes.length }) (fun u => [(0, .slice (some ⟨on, 0⟩) nodes.length (.op 0)), (1, AL eI under), (2, .int .i64 (a : Nat)), (6, .ptr (some ⟨o6, 0⟩)), (7, .ptr (some ⟨o7, 0⟩)), (14, .int .i64 (nodes.length : Nat)), (15, .int .i64 (u.1.1 : Nat))]) (fun u => [.obj o7 (.row 28 4 false [AL eM x.ms, .str x.to, .bool x.goes, u.1.2]), .own u.1.2 28 4 (((kidsI under a u.1.1).map (growV nodes under f)).flatMap eR) ((kidsI under a u.1.1).map (growV nodes under f)).length, .obj o6 (.row 28 4 false [nilSlice, .str [], .bool false, nilSlice]), .obj on (.row 28 4 false (nodes.flatMap eN))]) (fun u => nodes.length - u.1.1) ?_ ⟨(0, nilSlice), Nat.zero_le _⟩ (.cons rfl (.cons rfl (.cons rfl (.cons rfl (.cons rfl (.cons rfl (.cons rfl (.nil _)))))))) (Sel.weak (.cons tk (.cons tk (.cons tk (.cons tk .nil)))))
 rintro ⟨⟨k, vk⟩, hk⟩
 try dsimp only
 simp only at hk
 have hkl := kids_len under a k
 have hml : ((kidsI under a k).map (growV nodes under f)).length = (kidsI under a k).length := List.length_map _
 refine wc_seq ?_
 refine wc_text ?_
 refine w_lss u3 rfl rfl rfl ?_
 refine ws_nil ?_
 refine wc_seq ?_
 refine wc_cond rfl (fun h3 => ?_) (fun h3 => ?_)
 ·replace h3 := of_decide_eq_true h3
  refine wc_stay ?_
  refine wc_seq ?_
  refine wc_block ?_
  refine wc_seq ?_
  refine wc_text ?_
  refine w_move rfl rfl ?_
  refine w_assign rfl rfl ?_
  refine ws_nil ?_
  refine wc_seq ?_
  refine wc_text ?_
  obtain ⟨z, hz⟩ := get_of_lt (l := under) (k := k) (by omega)
  refine w_move rfl rfl ?_
  refine w_move rfl rfl ?_
  first | refine w_lidx u22 s3 rfl rfl rfl (by omega) ?_ | refine w_slidx u22 s3 rfl rfl rfl (by omega) ?_
  first | refine w_ldC1 a3 rfl rfl rdc ?_ | refine w_ldP1 a3 rfl rfl tk rdp ?_
  refine w_move rfl rfl ?_
  refine w_eql u3 rfl rfl rfl ?_
  refine ws_nil ?_
  refine wc_cond rfl (fun h5 => ?_) (fun h5 => ?_)
  ·replace h5 := of_decide_eq_true h5
   refine wc_free [0, 1, 0, 0, 0, 28, 60, 127, 255, 511] (by kernel_rfl) (by kernel_rfl) (fun F => ?_)
   have hka : a < k := by have := hup k z hz; omega
   refine wr_float F 0 rfl (by kernel_rfl) (.inl (by kernel_rfl)) ?_
   first | refine w_faddrC O28_3 rfl rfl ?_ | refine w_faddrP O28_3 rfl rfl ?_
   refine ws_nil ?_
   refine wr_float F 2 rfl (by kernel_rfl) (.inl (by kernel_rfl)) ?_
   refine w_move rfl rfl ?_
   refine ws_nil ?_
   refine wr_float F 3 rfl (by kernel_rfl) (.inl (by kernel_rfl)) ?_
   refine w_move rfl rfl ?_
   refine ws_nil ?_
   refine wr_float F 4 rfl (by kernel_rfl) (.inl (by kernel_rfl)) ?_
   refine w_move rfl rfl ?_
   refine ws_nil ?_
   refine wr_next F (l := [1, 5]) (by kernel_rfl) (by simp) (.cons rfl ?_ (.cons rfl ?_ (.nil)))
   ·skip
    first | refine w_ldC1 a26 rfl rfl rdc ?_ | refine w_ldP1 a26 rfl rfl tk rdp ?_
    refine ws_nil ?_
    refine wr_next F (l := [5]) (by kernel_rfl) (by simp) (.cons rfl ?_ (.nil))
    refine w_call rfl rfl (CallW.mono (CallW.take tk (ih k hka (by omega) _)) ?_)
    rintro _ _ ⟨rfl, rfl⟩
    try simp only [List.cons_append, List.nil_append]
    refine ws_nil ?_
    refine wr_lazy F 6 rfl (by kernel_rfl) rfl rfl (lz_buildS (cs := [growV nodes under f k].flatMap eR) u26 s28 z28 (by decide) rfl rfl (by decide) rfl rfl) (.inl rfl) ?_
    refine wr_next F (l := [7]) (by kernel_rfl) (by simp) (.cons rfl ?_ (.nil))
    refine w_appO (enc := eR) (l := ((kidsI under a k).map (growV nodes under f))) (m := [growV nodes under f k]) rfl u26 s28 b28 z28 u26 (by simp) rfl rfl rfl tk nw bg bg (fun v31 => ?_)
    refine ws_nil ?_
    refine wr_float F 8 rfl (by kernel_rfl) (.inl (by kernel_rfl)) ?_
    first | refine w_faddrC O28_3 rfl rfl ?_ | refine w_faddrP O28_3 rfl rfl ?_
    refine ws_nil ?_
    refine wr_next F (l := [9]) (by kernel_rfl) (by simp) (.cons rfl ?_ (.nil))
    refine WS.ownCells (v := v31) tk (fun c31 s31 => ?_)
    refine w_st s26 rfl rfl rfl tk (by rw [c31]; try rfl) (by rw [c31]; simpa using s31) (by rw [c31]; rfl) ?_
    refine ws_nil ?_
    refine wr_end F (by kernel_rfl) ?_
    refine wc_text ?_
    first | (rw [show ((kidsI under a k).map (growV nodes under f)) ++ [growV nodes under f k] = ((kidsI under a (k + 1)).map (growV nodes under f)) by rw [← kids_yes hz h5, List.map_append]; rfl]) | (rw [kids_no hz h5])
    refine w_add u3 rfl rfl rfl (by omega) ?_
    refine w_move rfl rfl ?_
    refine ws_nil ?_
    exact ⟨⟨(k + 1, v31), (by omega : k + 1 ≤ nodes.length)⟩, by simp only; omega, (.cons rfl (.cons rfl (.cons rfl (.cons rfl (.cons rfl (.cons rfl (.cons rfl (.nil _)))))))), (Sel.weak (.cons tk (.cons tk (.cons tk (.cons tk .nil)))))⟩
   ·skip
    refine w_call rfl rfl (CallW.mono (CallW.take tk (ih k hka (by omega) _)) ?_)
    rintro _ _ ⟨rfl, rfl⟩
    try simp only [List.cons_append, List.nil_append]
    refine ws_nil ?_
    refine wr_lazy F 6 rfl (by kernel_rfl) rfl rfl (lz_buildS (cs := [growV nodes under f k].flatMap eR) u26 s28 z28 (by decide) rfl rfl (by decide) rfl rfl) (.inl rfl) ?_
    refine wr_next F (l := [1]) (by kernel_rfl) (by simp) (.cons rfl ?_ (.nil))
    first | refine w_ldC1 a26 rfl rfl rdc ?_ | refine w_ldP1 a26 rfl rfl tk rdp ?_
    refine ws_nil ?_
    refine wr_next F (l := [7]) (by kernel_rfl) (by simp) (.cons rfl ?_ (.nil))
    refine w_appO (enc := eR) (l := ((kidsI under a k).map (growV nodes under f))) (m := [growV nodes under f k]) rfl u26 s28 b28 z28 u26 (by simp) rfl rfl rfl tk nw bg bg (fun v31 => ?_)
    refine ws_nil ?_
    refine wr_float F 8 rfl (by kernel_rfl) (.inl (by kernel_rfl)) ?_
    first | refine w_faddrC O28_3 rfl rfl ?_ | refine w_faddrP O28_3 rfl rfl ?_
    refine ws_nil ?_
    refine wr_next F (l := [9]) (by kernel_rfl) (by simp) (.cons rfl ?_ (.nil))
    refine WS.ownCells (v := v31) tk (fun c31 s31 => ?_)
    refine w_st s26 rfl rfl rfl tk (by rw [c31]; try rfl) (by rw [c31]; simpa using s31) (by rw [c31]; rfl) ?_
    refine ws_nil ?_
    refine wr_end F (by kernel_rfl) ?_
    refine wc_text ?_
    first | (rw [show ((kidsI under a k).map (growV nodes under f)) ++ [growV nodes under f k] = ((kidsI under a (k + 1)).map (growV nodes under f)) by rw [← kids_yes hz h5, List.map_append]; rfl]) | (rw [kids_no hz h5])
    refine w_add u3 rfl rfl rfl (by omega) ?_
    refine w_move rfl rfl ?_
    refine ws_nil ?_
    exact ⟨⟨(k + 1, v31), (by omega : k + 1 ≤ nodes.length)⟩, by simp only; omega, (.cons rfl (.cons rfl (.cons rfl (.cons rfl (.cons rfl (.cons rfl (.cons rfl (.nil _)))))))), (Sel.weak (.cons tk (.cons tk (.cons tk (.cons tk .nil)))))⟩
  ·replace h5 := of_decide_eq_false h5
   refine wc_stay ?_
   refine wc_text ?_
   first | (rw [show ((kidsI under a k).map (growV nodes under f)) ++ [growV nodes under f k] = ((kidsI under a (k + 1)).map (growV nodes under f)) by rw [← kids_yes hz h5, List.map_append]; rfl]) | (rw [kids_no hz h5])
   refine w_add u3 rfl rfl rfl (by omega) ?_
   refine w_move rfl rfl ?_
   refine ws_nil ?_
   exact ⟨⟨(k + 1, vk), (by omega : k + 1 ≤ nodes.length)⟩, by simp only; omega, (.cons rfl (.cons rfl (.cons rfl (.cons rfl (.cons rfl (.cons rfl (.cons rfl (.nil _)))))))), (Sel.weak (.cons tk (.cons tk (.cons tk (.cons tk .nil)))))⟩
 ·replace h3 := of_decide_eq_false h3
  obtain rfl : k = nodes.length := by omega
  refine WC.freezeCell (o := o7) (i := 3) tk rfl (.ownK rfl tk (flat_done eR_done _)) rfl rfl tk ?_
  refine WC.weakCells (o := o7) (cs' := eR (.mk x.ms x.to x.goes ((kidsI under a nodes.length).map (growV nodes under f)))) tk (nodeM_le _ _ _ _) ?_
  refine wc_exit ?_
  refine wc_seq ?_
  refine wc_text ?_
  first | refine w_ldC a28 s28 rfl rfl agc ?_ | refine w_ldP a28 s28 rfl rfl tk agp ?_
  refine w_st s28 rfl rfl rfl tk rfl rfl ovw ?_
  refine ws_nil ?_
  refine wc_ret ?_
  refine ⟨_, [.obj on (.row 28 4 false (nodes.flatMap eN))], (.cons (.cellA rfl a28 s28 tk agp) .nil), (Sel.weak (.cons tk .nil)), ?_⟩
  rw [grow_eq nodes under f a x hx]; exact ⟨rfl, rfl⟩

theorem grow_fn (on : Nat) (nodes : List Nd) (under : List Int) (hn : nodes.length ≤ 9) (hu : under.length = nodes.length) (hup : ∀ (j : Nat) (z : Int), under[j]? = some z → z < j) : ∀ (f a : Nat), a < nodes.length → nodes.length ≤ a + f → ∀ R, CallW C 20 [.slice (some ⟨on, 0⟩) nodes.length (.op 0), AL eI under, .int .i64 (a : Nat)] (.obj on (.row 28 4 false (nodes.flatMap eN)) :: R) fun v H => v = agR (growV nodes under f a) ∧ H = .obj on (.row 28 4 false (nodes.flatMap eN)) :: R
  | 0, a, ha, hf, R => by omega
  | f + 1, a, ha, hf, R => by
    refine CallW.mono (grow_step on nodes under a f hn hu hup ha (fun j hj hjn R => grow_fn on nodes under hn hu hup f j hjn (by omega) R) R) ?_
    rintro v H ⟨H', rfl, rfl, rfl⟩
    exact ⟨rfl, rfl⟩

theorem names_fn  : PFn C 18 [] (AL eS namesV) := by
 refine fn_keep rfl rfl (fn := Tryd.f18) rfl rfl rfl rfl rfl ?_
 refine wc_seq ?_
 refine wc_text ?_
 refine w_assign rfl rfl ?_
 refine ws_nil ?_
 refine wc_seq ?_
 refine wc_text ?_
 refine w_buildSF (cs := namesV.flatMap eS) u34 s9 z9 (by decide) rfl rfl rfl (by decide) rfl rfl ?_
 refine w_assign rfl rfl ?_
 refine ws_nil ?_
 refine wc_ret ?_
 refine ⟨_, _, _, (.cons (.tmp rfl) .nil), (.cons fr .nil), ?_, ?_⟩
 · first | rfl | simp [doneV]
 rfl

theorem values_fn  : PFn C 19 [] (AL eS valuesV) := by
 refine fn_keep rfl rfl (fn := Tryd.f19) rfl rfl rfl rfl rfl ?_
 refine wc_seq ?_
 refine wc_text ?_
 refine w_assign rfl rfl ?_
 refine ws_nil ?_
 refine wc_seq ?_
 refine wc_text ?_
 refine w_buildSF (cs := valuesV.flatMap eS) u34 s9 z9 (by decide) rfl rfl rfl (by decide) rfl rfl ?_
 refine w_assign rfl rfl ?_
 refine ws_nil ?_
 refine wc_ret ?_
 refine ⟨_, _, _, (.cons (.tmp rfl) .nil), (.cons fr .nil), ?_, ?_⟩
 · first | rfl | simp [doneV]
 rfl

theorem pickK_fn (l : List Int) (i : Nat) (hl : l.length ≤ 9223372036854775807) (hi : i ≤ 1000000) : PFn C 17 [AL eI l, .int .i64 (i : Nat)] (.int .i64 (pickK l i)) := by
 refine fn_view rfl rfl (fn := Tryd.f17) rfl rfl rfl rfl rfl ?_
 refine wc_seq ?_
 refine wc_text ?_
 refine w_assign rfl rfl ?_
 refine ws_nil ?_
 refine wc_seq ?_
 refine wc_seq ?_
 refine wc_text ?_
 refine w_move rfl rfl ?_
 first | refine w_len rfl rfl (len_lst u22) ?_ | refine w_len rfl rfl (len_slice u22) ?_ | refine w_lenO rfl u22 rfl rfl tk ?_
 refine w_eql u3 rfl rfl rfl ?_
 refine ws_nil ?_
 refine wc_cond rfl (fun h1 => ?_) (fun h1 => ?_)
 ·replace h1 := of_decide_eq_true h1
  obtain rfl : l = [] := List.eq_nil_of_length_eq_zero (by omega)
  refine wc_seq ?_
  refine wc_text ?_
  refine w_assign rfl rfl ?_
  refine ws_nil ?_
  refine wc_ret ?_
  refine ⟨_, (.cons (.tmp rfl) .nil), ?_, rfl⟩
  rfl
 ·replace h1 := of_decide_eq_false h1
  have hlt : i % l.length < l.length := Nat.mod_lt _ (by omega)
  obtain ⟨x, hx⟩ := get_of_lt (l := l) (k := i % l.length) hlt
  refine wc_stay ?_
  refine wc_seq ?_
  refine wc_text ?_
  refine w_move rfl rfl ?_
  refine w_move rfl rfl ?_
  refine w_move rfl rfl ?_
  first | refine w_len rfl rfl (len_lst u22) ?_ | refine w_len rfl rfl (len_slice u22) ?_ | refine w_lenO rfl u22 rfl rfl tk ?_
  refine w_rem u3 rfl rfl rfl (by omega) ?_
  rw [show (i : Int).tmod (l.length : Int) = ((i % l.length : Nat) : Int) from rfl]
  first | refine w_lidx u22 s3 rfl rfl rfl (by omega) ?_ | refine w_slidx u22 s3 rfl rfl rfl (by omega) ?_
  first | refine w_ldC1 a3 rfl rfl rdc ?_ | refine w_ldP1 a3 rfl rfl tk rdp ?_
  refine w_assign rfl rfl ?_
  refine ws_nil ?_
  refine wc_ret ?_
  refine ⟨_, (.cons (.tmp rfl) .nil), ?_, rfl⟩
  unfold pickK
  rw [if_neg (by rintro rfl; exact h1 rfl), hx]; rfl

theorem within_nat (n hi : Int) (h0 : 0 ≤ hi) (h1 : hi ≤ 1000000000) (R : List HI) : CallW C 16 [.int .i64 n, .int .i64 0, .int .i64 hi] R fun v H => v = .int .i64 (withinN n hi : Nat) ∧ H = R :=
  cw_fn rfl rfl (.cons fz (.cons fz (.cons fz .nil))) (within_fn n 0 hi (by decide) h0 h1) ⟨by rw [withinN_is n h0], rfl⟩
theorem within_nfn (n hi : Int) (h0 : 0 ≤ hi) (h1 : hi ≤ 1000000000) : PFn C 16 [.int .i64 n, .int .i64 0, .int .i64 hi] (.int .i64 (withinN n hi : Nat)) := by
  rw [← withinN_is n h0]; exact within_fn n 0 hi (by decide) h0 h1

set_option maxHeartbeats 4000000 in
theorem tree_fn (U M G : List Int) (hU : U.length ≤ 9223372036854775807) (hM : M.length ≤ 9223372036854775807) (hG : G.length ≤ 9223372036854775807) : PFn C 6 [.agg [AL eI U, AL eI M, AL eI G]] (agR (treeV U M G)) := by
 refine fn_keep rfl rfl (fn := Tryd.f6) rfl rfl rfl rfl rfl ?_
 have hnl : namesV.length = 4 := rfl
 have hvl : valuesV.length = 8 := rfl
 refine wc_seq ?_
 refine wc_text ?_
 refine w_box (cs := [AL eI U, AL eI M, AL eI G]) s24 rfl rfl rfl rfl rfl (fun o1 => ?_)
 refine w_alloc z28 s28 rfl (fun o2 => ?_)
 refine ws_nil ?_
 refine WC.freezePtr (t := 1) (cs := [AL eI U, AL eI M, AL eI G]) rfl rfl tk rfl ?_
 refine wc_seq ?_
 refine wc_text ?_
 refine w_build (v := .agg [_, _, _, _]) B28 rfl rfl rfl ?_
 refine w_buildSO (cs := [nilSlice, .str [114], .bool false, nilSlice]) u26 s28 z28 (by decide) rfl rfl rfl (fun o10 => ?_)
 refine w_assign rfl rfl ?_
 refine ws_nil ?_
 refine WC.weakCells (o := o10) (cs' := eN ⟨[], [114], false⟩) tk rootK ?_
 refine WC.closeOwn (m := 1) (o := o10) tk rfl ?_
 refine wc_seq ?_
 refine wc_text ?_
 refine w_buildSO (cs := ([(-1 : Int)] : List Int).flatMap eI) u22 s3 z3 (by decide) rfl rfl rfl (fun o11 => ?_)
 refine w_assign rfl rfl ?_
 refine ws_nil ?_
 refine WC.closeOwn (m := 1) (o := o11) tk rfl ?_
 refine wc_seq ?_
 refine wc_seq ?_
 refine wc_text ?_
 refine w_assign rfl rfl ?_
 refine ws_nil ?_
 refine wc_block ?_
 refine wc_loop (σ := { u : Nat × AV × AV // u.1 ≤ U.length ∧ u.1 ≤ 8 }) (fun u => [(1, .cptr [AL eI U, AL eI M, AL eI G] 0), (2, .ptr (some ⟨o2, 0⟩)), (3, u.1.2.1), (4, u.1.2.2), (5, .int .i64 (u.1.1 : Nat))]) (fun u => [.own u.1.2.1 28 4 ((ndsT M G u.1.1).flatMap eN) (ndsT M G u.1.1).length, .own u.1.2.2 3 1 ((undT U u.1.1).flatMap eI) (undT U u.1.1).length, .obj o2 (.row 28 4 false [nilSlice, .str [], .bool false, nilSlice])]) (fun u => 8 - u.1.1) ?_ ⟨(0, .slice (some ⟨o10, 0⟩) 1 (.op 0), .slice (some ⟨o11, 0⟩) 1 (.op 0)), Nat.zero_le _, Nat.zero_le _⟩ (.cons rfl (.cons rfl (.cons rfl (.cons rfl (.cons rfl (.nil _)))))) (Sel.weak (.cons tk (.cons tk (.cons tk .nil))))
 rintro ⟨⟨i, vn, vu⟩, hi, hi8⟩
 try dsimp only
 simp only at hi hi8
 have hnsl := nds_len M G i
 have hunl := und_len U i
 have htm : 0 ≤ (i : Int).tmod 5 ∧ (i : Int).tmod 5 ≤ 4 := by rw [show (i : Int).tmod 5 = ((i % 5 : Nat) : Int) from rfl]; omega
 refine wc_seq ?_
 refine wc_seq ?_
 refine wc_text ?_
 refine w_move rfl rfl ?_
 first | refine w_faddrC O24_0 rfl rfl ?_ | refine w_faddrP O24_0 rfl rfl ?_
 first | refine w_ldC1 a22 rfl rfl rdc ?_ | refine w_ldP1 a22 rfl rfl tk rdp ?_
 first | refine w_len rfl rfl (len_lst u22) ?_ | refine w_len rfl rfl (len_slice u22) ?_ | refine w_lenO rfl u22 rfl rfl tk ?_
 refine w_lss u3 rfl rfl rfl ?_
 refine w_move rfl rfl ?_
 refine ws_split (t := 17) rfl (fun g17 => ?_) (fun g17 => ?_)
 ·first | replace g17 := dT g17 | replace g17 := dF g17 | replace g17 := dFT g17 | replace g17 := dTF g17 | replace g17 := nb_T g17 | replace g17 := nb_F g17 | skip
  first | replace g17 := nL g17 | replace g17 := nM g17 | replace g17 := nN g17 | skip
  refine ws_on rfl rfl ?_
  refine w_move rfl rfl ?_
  refine ws_on rfl rfl ?_
  refine w_lss u3 rfl rfl rfl ?_
  first | refine w_pickT rfl rfl rfl ⟨_, rfl⟩ ?_ | refine w_pickF rfl rfl ⟨_, rfl⟩ rfl ?_ | refine w_pick rfl rfl rfl rfl ?_
  refine ws_nil ?_
  refine wc_cond rfl (fun h4 => ?_) (fun h4 => ?_)
  ·replace h4 := of_decide_eq_true h4
   refine wc_stay ?_
   refine wc_seq ?_
   refine wc_block ?_
   refine wc_seq ?_
   refine wc_text ?_
   obtain ⟨z, hz⟩ := get_of_lt (l := U) (k := i) (by omega)
   first | refine w_faddrC O24_0 rfl rfl ?_ | refine w_faddrP O24_0 rfl rfl ?_
   first | refine w_ldC1 a22 rfl rfl rdc ?_ | refine w_ldP1 a22 rfl rfl tk rdp ?_
   refine w_move rfl rfl ?_
   first | refine w_lidx u22 s3 rfl rfl rfl (by omega) ?_ | refine w_slidx u22 s3 rfl rfl rfl (by omega) ?_
   first | refine w_ldC1 a3 rfl rfl rdc ?_ | refine w_ldP1 a3 rfl rfl tk rdp ?_
   refine w_move rfl rfl ?_
   first | refine w_len rfl rfl (len_lst u26) ?_ | refine w_len rfl rfl (len_slice u26) ?_ | refine w_lenO rfl u26 rfl rfl tk ?_
   refine w_sub u3 rfl rfl rfl (by omega) ?_
   rw [show (((ndsT M G i).length : Nat) : Int) - 1 = (i : Int) by omega]
   refine w_call rfl rfl (CallW.mono (within_nat z i (by omega) (by omega) _) ?_)
   rintro _ _ ⟨rfl, rfl⟩
   have hwn := withinN_le z (hi := i) (by omega)
   try simp only [List.cons_append, List.nil_append]
   refine w_assign rfl rfl ?_
   refine ws_nil ?_
   refine wc_seq ?_
   refine wc_seq ?_
   refine wc_text ?_
   refine w_move rfl rfl ?_
   refine w_gtr u3 rfl rfl rfl ?_
   refine w_move rfl rfl ?_
   refine ws_split (t := 34) rfl (fun g34 => ?_) (fun g34 => ?_)
   ·first | replace g34 := dT g34 | replace g34 := dF g34 | replace g34 := dFT g34 | replace g34 := dTF g34 | replace g34 := nb_T g34 | replace g34 := nb_F g34 | skip
    first | replace g34 := nL g34 | replace g34 := nM g34 | replace g34 := nN g34 | skip
    refine WS.openOwn (v := vu) tk (by omega) (fun ou hou => ?_)
    subst hou
    obtain ⟨q, hq⟩ := get_of_lt (l := (undT U i)) (k := withinN z i) (by omega)
    refine ws_on rfl rfl ?_
    refine w_move rfl rfl ?_
    refine ws_on rfl rfl ?_
    refine w_move rfl rfl ?_
    refine ws_on rfl rfl ?_
    first | refine w_lidx u22 s3 rfl rfl rfl (by omega) ?_ | refine w_slidx u22 s3 rfl rfl rfl (by omega) ?_
    refine ws_on rfl rfl ?_
    first | refine w_ldC1 a3 rfl rfl rdc ?_ | refine w_ldP1 a3 rfl rfl tk rdp ?_
    refine ws_on rfl rfl ?_
    refine w_gtr u3 rfl rfl rfl ?_
    first | refine w_pickT rfl rfl rfl ⟨_, rfl⟩ ?_ | refine w_pickF rfl rfl ⟨_, rfl⟩ rfl ?_ | refine w_pick rfl rfl rfl rfl ?_
    refine ws_nil ?_
    refine wc_cond rfl (fun h7 => ?_) (fun h7 => ?_)
    ·replace h7 := of_decide_eq_true h7
     refine WC.closeOwn (m := (undT U i).length) (o := ou) tk (flat_length (by intro _; rfl) _) ?_
     refine wc_text ?_
     refine w_assign rfl rfl ?_
     refine ws_nil ?_
     refine wc_seq ?_
     refine wc_text ?_
     first | refine w_faddrC O24_1 rfl rfl ?_ | refine w_faddrP O24_1 rfl rfl ?_
     first | refine w_ldC1 a22 rfl rfl rdc ?_ | refine w_ldP1 a22 rfl rfl tk rdp ?_
     refine w_move rfl rfl ?_
     refine w_call rfl rfl (cw_fn rfl rfl (.cons fz (.cons fz .nil)) (pickK_fn M i (by omega) (by omega)) ?_)
     refine w_assign rfl rfl ?_
     refine ws_nil ?_
     refine wc_seq ?_
     refine wc_free [0, 1, 3, 7, 15, 31, 0, 64, 0, 448, 960, 1984, 4095, 0, 16383] (by kernel_rfl) (by kernel_rfl) (fun F => ?_)
     refine wr_float F 0 rfl (by kernel_rfl) (.inl (by kernel_rfl)) ?_
     refine w_move rfl rfl ?_
     refine ws_nil ?_
     refine wr_float F 1 rfl (by kernel_rfl) (.inl (by kernel_rfl)) ?_
     refine w_rem u3 rfl rfl rfl (by omega) ?_
     refine ws_nil ?_
     refine wr_float F 2 rfl (by kernel_rfl) (.inl (by kernel_rfl)) ?_
     refine w_add u3 rfl rfl rfl (by omega) ?_
     refine ws_nil ?_
     refine wr_float F 3 rfl (by kernel_rfl) (.inl (by kernel_rfl)) ?_
     refine w_conv rfl rfl (conv_int u3 u5) ?_
     rw [lbT_wrap (by omega)]
     refine ws_nil ?_
     refine wr_lazy F 4 rfl (by kernel_rfl) rfl rfl (lz_buildS (cs := [lbT i].flatMap eB) u49 s5 z5 (by decide) rfl rfl (by decide) rfl rfl) (.inl rfl) ?_
     refine wr_lazy F 5 rfl (by kernel_rfl) rfl rfl (PureF.lazy (pf_text (l := [lbT i]) u9 u49 u5 rfl)) (.inl rfl) ?_
     refine wr_float F 6 rfl (by kernel_rfl) (.inl (by kernel_rfl)) ?_
     first | refine w_faddrC O24_2 rfl rfl ?_ | refine w_faddrP O24_2 rfl rfl ?_
     refine ws_nil ?_
     refine wr_pure F 7 rfl (by kernel_rfl) rfl rfl (pf_ldC1 a22 rfl rdc) (.inl rfl) ?_
     refine wr_float F 8 rfl (by kernel_rfl) (.inl (by kernel_rfl)) ?_
     refine w_move rfl rfl ?_
     refine ws_nil ?_
     refine wr_lazy F 9 rfl (by kernel_rfl) rfl rfl (lz_fn rfl rfl rfl (.cons fz (.cons fz .nil)) (pickK_fn G i (by omega) (by omega))) (.inl rfl) ?_
     refine wr_float F 10 rfl (by kernel_rfl) (.inl (by kernel_rfl)) ?_
     refine w_bin (v := .int .i64 (andK (pickK G i) 1)) rfl rfl rfl (by rw [bin_int u3 (by decide) (by decide)]; rfl) ?_
     refine ws_nil ?_
     refine wr_float F 11 rfl (by kernel_rfl) (.inl (by kernel_rfl)) ?_
     refine w_eql u3 rfl rfl rfl ?_
     refine ws_nil ?_
     refine wr_float F 12 rfl (by kernel_rfl) (.inl (by kernel_rfl)) ?_
     refine w_build (v := .agg [_, _, _, _]) B28 rfl rfl rfl ?_
     refine ws_nil ?_
     refine wr_next F (l := [13]) (by kernel_rfl) (by simp) (.cons rfl ?_ (.nil))
     refine w_alloc z28 s28 rfl (fun o8 => ?_)
     refine ws_nil ?_
     refine wr_next F (l := [14]) (by kernel_rfl) (by simp) (.cons rfl ?_ (.nil))
     refine w_st s28 rfl rfl rfl tk rfl rfl ovw ?_
     refine ws_nil ?_
     refine wr_end F (by kernel_rfl) ?_
     refine wc_seq ?_
     refine wc_seq ?_
     refine wc_text ?_
     refine w_move rfl rfl ?_
     refine w_bin (v := .int .i64 (andK (pickK M i) 3)) rfl rfl rfl (by rw [bin_int u3 (by decide) (by decide)]; rfl) ?_
     refine w_neq u3 rfl rfl rfl ?_
     refine ws_nil ?_
     refine wc_cond rfl (fun h11 => ?_) (fun h11 => ?_)
     ·replace h11 := of_decide_eq_true h11
      have hw2 := withinN_le (IntKind.i64.wrap ((pickK M i).tdiv 4)) (hi := 2) (by decide)
      have hw3 := withinN_le (IntKind.i64.wrap ((pickK M i).tdiv 16)) (hi := 3) (by decide)
      obtain ⟨nm, hnm⟩ := get_of_lt (l := namesV) (k := withinN (IntKind.i64.wrap ((pickK M i).tdiv 4)) 2) (by omega)
      obtain ⟨vl, hvl2⟩ := get_of_lt (l := valuesV) (k := withinN (IntKind.i64.wrap ((pickK M i).tdiv 16)) 3) (by omega)
      have hmd : mdT (pickK M i) = ⟨nm, vl, withinV (pickK M i) 1 4⟩ := by unfold mdT; rw [hnm, hvl2]; rfl
      refine wc_free [0, 0, 2, 7, 15, 31, 15, 0, 128, 463, 975, 1999, 0, 5071, 16383, 32767, 65535, 131071] (by kernel_rfl) (by kernel_rfl) (fun F => ?_)
      refine wr_lazy F 0 rfl (by kernel_rfl) rfl rfl (lz_fn rfl rfl rfl .nil (names_fn)) (.inl rfl) ?_
      refine wr_float F 1 rfl (by kernel_rfl) (.inl (by kernel_rfl)) ?_
      refine w_move rfl rfl ?_
      refine ws_nil ?_
      refine wr_float F 2 rfl (by kernel_rfl) (.inl (by kernel_rfl)) ?_
      refine w_quo u3 rfl rfl rfl (by omega) ?_
      refine ws_nil ?_
      refine wr_lazy F 3 rfl (by kernel_rfl) rfl rfl (lz_fn rfl rfl rfl (.cons fz (.cons fz (.cons fz .nil))) (within_nfn _ 2 (by decide) (by decide))) (.inl rfl) ?_
      refine wr_float F 4 rfl (by kernel_rfl) (.inl (by kernel_rfl)) ?_
      first | refine w_lidx u34 s9 rfl rfl rfl (by omega) ?_ | refine w_slidx u34 s9 rfl rfl rfl (by omega) ?_
      refine ws_nil ?_
      refine wr_lazy F 6 rfl (by kernel_rfl) rfl rfl (lz_fn rfl rfl rfl .nil (values_fn)) (.inl rfl) ?_
      refine wr_float F 7 rfl (by kernel_rfl) (.inl (by kernel_rfl)) ?_
      refine w_move rfl rfl ?_
      refine ws_nil ?_
      refine wr_float F 8 rfl (by kernel_rfl) (.inl (by kernel_rfl)) ?_
      refine w_quo u3 rfl rfl rfl (by omega) ?_
      refine ws_nil ?_
      refine wr_lazy F 9 rfl (by kernel_rfl) rfl rfl (lz_fn rfl rfl rfl (.cons fz (.cons fz (.cons fz .nil))) (within_nfn _ 3 (by decide) (by decide))) (.inl rfl) ?_
      refine wr_float F 10 rfl (by kernel_rfl) (.inl (by kernel_rfl)) ?_
      first | refine w_lidx u34 s9 rfl rfl rfl (by omega) ?_ | refine w_slidx u34 s9 rfl rfl rfl (by omega) ?_
      refine ws_nil ?_
      refine wr_float F 12 rfl (by kernel_rfl) (.inl (by kernel_rfl)) ?_
      refine w_move rfl rfl ?_
      refine ws_nil ?_
      refine wr_lazy F 13 rfl (by kernel_rfl) rfl rfl (lz_fn rfl rfl rfl (.cons fz (.cons fz (.cons fz .nil))) (within_fn _ 1 4 (by decide) (by decide) (by decide))) (.inl rfl) ?_
      refine wr_next F (l := [5, 11]) (by kernel_rfl) (by simp) (.cons rfl ?_ (.cons rfl ?_ (.nil)))
      ·skip
       first | refine w_ldC1 a9 rfl rfl rdc ?_ | refine w_ldP1 a9 rfl rfl tk rdp ?_
       refine ws_nil ?_
       refine wr_next F (l := [11]) (by kernel_rfl) (by simp) (.cons rfl ?_ (.nil))
       first | refine w_ldC1 a9 rfl rfl rdc ?_ | refine w_ldP1 a9 rfl rfl tk rdp ?_
       refine ws_nil ?_
       refine wr_float F 14 rfl (by kernel_rfl) (.inl (by kernel_rfl)) ?_
       refine w_build (v := .agg [_, _, _]) B55 rfl rfl rfl ?_
       refine ws_nil ?_
       refine wr_lazy F 15 rfl (by kernel_rfl) rfl rfl (lz_buildS (cs := [(⟨nm, vl, withinV (pickK M i) 1 4⟩ : MD)].flatMap eM) u25 s55 z55 (by decide) rfl rfl (by decide) rfl rfl) (.inl rfl) ?_
       refine wr_float F 16 rfl (by kernel_rfl) (.inl (by kernel_rfl)) ?_
       first | refine w_faddrC O28_0 rfl rfl ?_ | refine w_faddrP O28_0 rfl rfl ?_
       refine ws_nil ?_
       refine wr_next F (l := [17]) (by kernel_rfl) (by simp) (.cons rfl ?_ (.nil))
       refine w_st s25 rfl rfl rfl tk rfl rfl ovw ?_
       refine ws_nil ?_
       refine wr_end F (by kernel_rfl) ?_
       refine WC.recell (eN (ndT M G i)) tk (by unfold ndT msT; rw [if_neg h11, hmd]; rfl) ?_
       refine wc_text ?_
       refine w_move rfl rfl ?_
       first | refine w_ldC a28 s28 rfl rfl agc ?_ | refine w_ldP a28 s28 rfl rfl tk agp ?_
       refine w_buildS (cs := [_, _, _, _]) u26 s28 z28 (by decide) rfl rfl rfl (fun o80 => ?_)
       refine w_appO (enc := eN) (l := (ndsT M G i)) (m := [ndT M G i]) rfl u26 s28 b28 z28 u26 (by simp) rfl rfl rfl tk (new_obj tk rfl rfl) bg bg (fun v81 => ?_)
       refine w_move rfl rfl ?_
       refine w_move rfl rfl ?_
       first | refine w_buildSF (cs := ([((withinN z i : Nat) : Int)] : List Int).flatMap eI) u22 s3 z3 (by decide) rfl rfl rfl (by decide) rfl rfl ?_ | refine w_buildSF (cs := ([(0 : Int)] : List Int).flatMap eI) u22 s3 z3 (by decide) rfl rfl rfl (by decide) rfl rfl ?_
       first | rw [show ([((withinN z i : Nat) : Int)] : List Int) = [((parT (undT U i) z i : Nat) : Int)] by unfold parT; rw [if_neg (by omega)]] | rw [show ([((withinN z i : Nat) : Int)] : List Int) = [((parT (undT U i) z i : Nat) : Int)] by unfold parT; rw [hq, if_neg (by simp; omega)]] | rw [show ([(0 : Int)] : List Int) = [((parT (undT U i) z i : Nat) : Int)] by unfold parT; rw [hq, if_pos (by simp; omega)]; rfl]
       refine w_appO (enc := eI) (l := (undT U i)) (m := [((parT (undT U i) z i : Nat) : Int)]) rfl u22 s3 b3 z3 u22 (by simp) rfl rfl rfl tk nw bg bg (fun v85 => ?_)
       refine w_assign rfl rfl ?_
       refine w_assign rfl rfl ?_
       refine ws_nil ?_
       refine wc_text ?_
       rw [show ([((parT (undT U i) z i : Nat) : Int)] : List Int) = [((parT (undT U i) ((U[i]?).getD 0) i : Nat) : Int)] by rw [hz]; rfl]
       refine w_move rfl rfl ?_
       refine w_add u3 rfl rfl rfl (by omega) ?_
       refine w_assign rfl rfl ?_
       refine ws_nil ?_
       exact ⟨⟨(i + 1, v81, v85), (by omega : i + 1 ≤ U.length), (by omega : i + 1 ≤ 8)⟩, by simp only; omega, (.cons rfl (.cons rfl (.cons rfl (.cons rfl (.cons rfl (.nil _)))))), (Sel.weak (.cons tk (.cons tk (.cons tk .nil))))⟩
      ·skip
       first | refine w_ldC1 a9 rfl rfl rdc ?_ | refine w_ldP1 a9 rfl rfl tk rdp ?_
       refine ws_nil ?_
       refine wr_next F (l := [5]) (by kernel_rfl) (by simp) (.cons rfl ?_ (.nil))
       first | refine w_ldC1 a9 rfl rfl rdc ?_ | refine w_ldP1 a9 rfl rfl tk rdp ?_
       refine ws_nil ?_
       refine wr_float F 14 rfl (by kernel_rfl) (.inl (by kernel_rfl)) ?_
       refine w_build (v := .agg [_, _, _]) B55 rfl rfl rfl ?_
       refine ws_nil ?_
       refine wr_lazy F 15 rfl (by kernel_rfl) rfl rfl (lz_buildS (cs := [(⟨nm, vl, withinV (pickK M i) 1 4⟩ : MD)].flatMap eM) u25 s55 z55 (by decide) rfl rfl (by decide) rfl rfl) (.inl rfl) ?_
       refine wr_float F 16 rfl (by kernel_rfl) (.inl (by kernel_rfl)) ?_
       first | refine w_faddrC O28_0 rfl rfl ?_ | refine w_faddrP O28_0 rfl rfl ?_
       refine ws_nil ?_
       refine wr_next F (l := [17]) (by kernel_rfl) (by simp) (.cons rfl ?_ (.nil))
       refine w_st s25 rfl rfl rfl tk rfl rfl ovw ?_
       refine ws_nil ?_
       refine wr_end F (by kernel_rfl) ?_
       refine WC.recell (eN (ndT M G i)) tk (by unfold ndT msT; rw [if_neg h11, hmd]; rfl) ?_
       refine wc_text ?_
       refine w_move rfl rfl ?_
       first | refine w_ldC a28 s28 rfl rfl agc ?_ | refine w_ldP a28 s28 rfl rfl tk agp ?_
       refine w_buildS (cs := [_, _, _, _]) u26 s28 z28 (by decide) rfl rfl rfl (fun o80 => ?_)
       refine w_appO (enc := eN) (l := (ndsT M G i)) (m := [ndT M G i]) rfl u26 s28 b28 z28 u26 (by simp) rfl rfl rfl tk (new_obj tk rfl rfl) bg bg (fun v81 => ?_)
       refine w_move rfl rfl ?_
       refine w_move rfl rfl ?_
       first | refine w_buildSF (cs := ([((withinN z i : Nat) : Int)] : List Int).flatMap eI) u22 s3 z3 (by decide) rfl rfl rfl (by decide) rfl rfl ?_ | refine w_buildSF (cs := ([(0 : Int)] : List Int).flatMap eI) u22 s3 z3 (by decide) rfl rfl rfl (by decide) rfl rfl ?_
       first | rw [show ([((withinN z i : Nat) : Int)] : List Int) = [((parT (undT U i) z i : Nat) : Int)] by unfold parT; rw [if_neg (by omega)]] | rw [show ([((withinN z i : Nat) : Int)] : List Int) = [((parT (undT U i) z i : Nat) : Int)] by unfold parT; rw [hq, if_neg (by simp; omega)]] | rw [show ([(0 : Int)] : List Int) = [((parT (undT U i) z i : Nat) : Int)] by unfold parT; rw [hq, if_pos (by simp; omega)]; rfl]
       refine w_appO (enc := eI) (l := (undT U i)) (m := [((parT (undT U i) z i : Nat) : Int)]) rfl u22 s3 b3 z3 u22 (by simp) rfl rfl rfl tk nw bg bg (fun v85 => ?_)
       refine w_assign rfl rfl ?_
       refine w_assign rfl rfl ?_
       refine ws_nil ?_
       refine wc_text ?_
       rw [show ([((parT (undT U i) z i : Nat) : Int)] : List Int) = [((parT (undT U i) ((U[i]?).getD 0) i : Nat) : Int)] by rw [hz]; rfl]
       refine w_move rfl rfl ?_
       refine w_add u3 rfl rfl rfl (by omega) ?_
       refine w_assign rfl rfl ?_
       refine ws_nil ?_
       exact ⟨⟨(i + 1, v81, v85), (by omega : i + 1 ≤ U.length), (by omega : i + 1 ≤ 8)⟩, by simp only; omega, (.cons rfl (.cons rfl (.cons rfl (.cons rfl (.cons rfl (.nil _)))))), (Sel.weak (.cons tk (.cons tk (.cons tk .nil))))⟩
     ·replace h11 := of_decide_eq_false h11
      have hnd : ndT M G i = ⟨[], [lbT i], decide (andK (pickK G i) 1 = 1)⟩ := by unfold ndT msT; rw [if_pos (Decidable.not_not.mp h11)]
      refine WC.weakCells (o := o8) (cs' := eN ⟨[], [lbT i], decide (andK (pickK G i) 1 = 1)⟩) tk (bareK _ _) ?_
      rw [← hnd]
      refine wc_stay ?_
      refine wc_text ?_
      refine w_move rfl rfl ?_
      first | refine w_ldC a28 s28 rfl rfl agc ?_ | refine w_ldP a28 s28 rfl rfl tk agp ?_
      refine w_buildS (cs := [_, _, _, _]) u26 s28 z28 (by decide) rfl rfl rfl (fun o80 => ?_)
      refine w_appO (enc := eN) (l := (ndsT M G i)) (m := [ndT M G i]) rfl u26 s28 b28 z28 u26 (by simp) rfl rfl rfl tk (new_obj tk rfl rfl) bg bg (fun v81 => ?_)
      refine w_move rfl rfl ?_
      refine w_move rfl rfl ?_
      first | refine w_buildSF (cs := ([((withinN z i : Nat) : Int)] : List Int).flatMap eI) u22 s3 z3 (by decide) rfl rfl rfl (by decide) rfl rfl ?_ | refine w_buildSF (cs := ([(0 : Int)] : List Int).flatMap eI) u22 s3 z3 (by decide) rfl rfl rfl (by decide) rfl rfl ?_
      first | rw [show ([((withinN z i : Nat) : Int)] : List Int) = [((parT (undT U i) z i : Nat) : Int)] by unfold parT; rw [if_neg (by omega)]] | rw [show ([((withinN z i : Nat) : Int)] : List Int) = [((parT (undT U i) z i : Nat) : Int)] by unfold parT; rw [hq, if_neg (by simp; omega)]] | rw [show ([(0 : Int)] : List Int) = [((parT (undT U i) z i : Nat) : Int)] by unfold parT; rw [hq, if_pos (by simp; omega)]; rfl]
      refine w_appO (enc := eI) (l := (undT U i)) (m := [((parT (undT U i) z i : Nat) : Int)]) rfl u22 s3 b3 z3 u22 (by simp) rfl rfl rfl tk nw bg bg (fun v85 => ?_)
      refine w_assign rfl rfl ?_
      refine w_assign rfl rfl ?_
      refine ws_nil ?_
      refine wc_text ?_
      rw [show ([((parT (undT U i) z i : Nat) : Int)] : List Int) = [((parT (undT U i) ((U[i]?).getD 0) i : Nat) : Int)] by rw [hz]; rfl]
      refine w_move rfl rfl ?_
      refine w_add u3 rfl rfl rfl (by omega) ?_
      refine w_assign rfl rfl ?_
      refine ws_nil ?_
      exact ⟨⟨(i + 1, v81, v85), (by omega : i + 1 ≤ U.length), (by omega : i + 1 ≤ 8)⟩, by simp only; omega, (.cons rfl (.cons rfl (.cons rfl (.cons rfl (.cons rfl (.nil _)))))), (Sel.weak (.cons tk (.cons tk (.cons tk .nil))))⟩
    ·replace h7 := of_decide_eq_false h7
     refine WC.closeOwn (m := (undT U i).length) (o := ou) tk (flat_length (by intro _; rfl) _) ?_
     refine wc_stay ?_
     refine wc_seq ?_
     refine wc_text ?_
     first | refine w_faddrC O24_1 rfl rfl ?_ | refine w_faddrP O24_1 rfl rfl ?_
     first | refine w_ldC1 a22 rfl rfl rdc ?_ | refine w_ldP1 a22 rfl rfl tk rdp ?_
     refine w_move rfl rfl ?_
     refine w_call rfl rfl (cw_fn rfl rfl (.cons fz (.cons fz .nil)) (pickK_fn M i (by omega) (by omega)) ?_)
     refine w_assign rfl rfl ?_
     refine ws_nil ?_
     refine wc_seq ?_
     refine wc_free [0, 1, 3, 7, 15, 31, 0, 64, 0, 448, 960, 1984, 4095, 0, 16383] (by kernel_rfl) (by kernel_rfl) (fun F => ?_)
     refine wr_float F 0 rfl (by kernel_rfl) (.inl (by kernel_rfl)) ?_
     refine w_move rfl rfl ?_
     refine ws_nil ?_
     refine wr_float F 1 rfl (by kernel_rfl) (.inl (by kernel_rfl)) ?_
     refine w_rem u3 rfl rfl rfl (by omega) ?_
     refine ws_nil ?_
     refine wr_float F 2 rfl (by kernel_rfl) (.inl (by kernel_rfl)) ?_
     refine w_add u3 rfl rfl rfl (by omega) ?_
     refine ws_nil ?_
     refine wr_float F 3 rfl (by kernel_rfl) (.inl (by kernel_rfl)) ?_
     refine w_conv rfl rfl (conv_int u3 u5) ?_
     rw [lbT_wrap (by omega)]
     refine ws_nil ?_
     refine wr_lazy F 4 rfl (by kernel_rfl) rfl rfl (lz_buildS (cs := [lbT i].flatMap eB) u49 s5 z5 (by decide) rfl rfl (by decide) rfl rfl) (.inl rfl) ?_
     refine wr_lazy F 5 rfl (by kernel_rfl) rfl rfl (PureF.lazy (pf_text (l := [lbT i]) u9 u49 u5 rfl)) (.inl rfl) ?_
     refine wr_float F 6 rfl (by kernel_rfl) (.inl (by kernel_rfl)) ?_
     first | refine w_faddrC O24_2 rfl rfl ?_ | refine w_faddrP O24_2 rfl rfl ?_
     refine ws_nil ?_
     refine wr_pure F 7 rfl (by kernel_rfl) rfl rfl (pf_ldC1 a22 rfl rdc) (.inl rfl) ?_
     refine wr_float F 8 rfl (by kernel_rfl) (.inl (by kernel_rfl)) ?_
     refine w_move rfl rfl ?_
     refine ws_nil ?_
     refine wr_lazy F 9 rfl (by kernel_rfl) rfl rfl (lz_fn rfl rfl rfl (.cons fz (.cons fz .nil)) (pickK_fn G i (by omega) (by omega))) (.inl rfl) ?_
     refine wr_float F 10 rfl (by kernel_rfl) (.inl (by kernel_rfl)) ?_
     refine w_bin (v := .int .i64 (andK (pickK G i) 1)) rfl rfl rfl (by rw [bin_int u3 (by decide) (by decide)]; rfl) ?_
     refine ws_nil ?_
     refine wr_float F 11 rfl (by kernel_rfl) (.inl (by kernel_rfl)) ?_
     refine w_eql u3 rfl rfl rfl ?_
     refine ws_nil ?_
     refine wr_float F 12 rfl (by kernel_rfl) (.inl (by kernel_rfl)) ?_
     refine w_build (v := .agg [_, _, _, _]) B28 rfl rfl rfl ?_
     refine ws_nil ?_
     refine wr_next F (l := [13]) (by kernel_rfl) (by simp) (.cons rfl ?_ (.nil))
     refine w_alloc z28 s28 rfl (fun o8 => ?_)
     refine ws_nil ?_
     refine wr_next F (l := [14]) (by kernel_rfl) (by simp) (.cons rfl ?_ (.nil))
     refine w_st s28 rfl rfl rfl tk rfl rfl ovw ?_
     refine ws_nil ?_
     refine wr_end F (by kernel_rfl) ?_
     refine wc_seq ?_
     refine wc_seq ?_
     refine wc_text ?_
     refine w_move rfl rfl ?_
     refine w_bin (v := .int .i64 (andK (pickK M i) 3)) rfl rfl rfl (by rw [bin_int u3 (by decide) (by decide)]; rfl) ?_
     refine w_neq u3 rfl rfl rfl ?_
     refine ws_nil ?_
     refine wc_cond rfl (fun h11 => ?_) (fun h11 => ?_)
     ·replace h11 := of_decide_eq_true h11
      have hw2 := withinN_le (IntKind.i64.wrap ((pickK M i).tdiv 4)) (hi := 2) (by decide)
      have hw3 := withinN_le (IntKind.i64.wrap ((pickK M i).tdiv 16)) (hi := 3) (by decide)
      obtain ⟨nm, hnm⟩ := get_of_lt (l := namesV) (k := withinN (IntKind.i64.wrap ((pickK M i).tdiv 4)) 2) (by omega)
      obtain ⟨vl, hvl2⟩ := get_of_lt (l := valuesV) (k := withinN (IntKind.i64.wrap ((pickK M i).tdiv 16)) 3) (by omega)
      have hmd : mdT (pickK M i) = ⟨nm, vl, withinV (pickK M i) 1 4⟩ := by unfold mdT; rw [hnm, hvl2]; rfl
      refine wc_free [0, 0, 2, 7, 15, 31, 15, 0, 128, 463, 975, 1999, 0, 5071, 16383, 32767, 65535, 131071] (by kernel_rfl) (by kernel_rfl) (fun F => ?_)
      refine wr_lazy F 0 rfl (by kernel_rfl) rfl rfl (lz_fn rfl rfl rfl .nil (names_fn)) (.inl rfl) ?_
      refine wr_float F 1 rfl (by kernel_rfl) (.inl (by kernel_rfl)) ?_
      refine w_move rfl rfl ?_
      refine ws_nil ?_
      refine wr_float F 2 rfl (by kernel_rfl) (.inl (by kernel_rfl)) ?_
      refine w_quo u3 rfl rfl rfl (by omega) ?_
      refine ws_nil ?_
      refine wr_lazy F 3 rfl (by kernel_rfl) rfl rfl (lz_fn rfl rfl rfl (.cons fz (.cons fz (.cons fz .nil))) (within_nfn _ 2 (by decide) (by decide))) (.inl rfl) ?_
      refine wr_float F 4 rfl (by kernel_rfl) (.inl (by kernel_rfl)) ?_
      first | refine w_lidx u34 s9 rfl rfl rfl (by omega) ?_ | refine w_slidx u34 s9 rfl rfl rfl (by omega) ?_
      refine ws_nil ?_
      refine wr_lazy F 6 rfl (by kernel_rfl) rfl rfl (lz_fn rfl rfl rfl .nil (values_fn)) (.inl rfl) ?_
      refine wr_float F 7 rfl (by kernel_rfl) (.inl (by kernel_rfl)) ?_
      refine w_move rfl rfl ?_
      refine ws_nil ?_
      refine wr_float F 8 rfl (by kernel_rfl) (.inl (by kernel_rfl)) ?_
      refine w_quo u3 rfl rfl rfl (by omega) ?_
      refine ws_nil ?_
      refine wr_lazy F 9 rfl (by kernel_rfl) rfl rfl (lz_fn rfl rfl rfl (.cons fz (.cons fz (.cons fz .nil))) (within_nfn _ 3 (by decide) (by decide))) (.inl rfl) ?_
      refine wr_float F 10 rfl (by kernel_rfl) (.inl (by kernel_rfl)) ?_
      first | refine w_lidx u34 s9 rfl rfl rfl (by omega) ?_ | refine w_slidx u34 s9 rfl rfl rfl (by omega) ?_
      refine ws_nil ?_
      refine wr_float F 12 rfl (by kernel_rfl) (.inl (by kernel_rfl)) ?_
      refine w_move rfl rfl ?_
      refine ws_nil ?_
      refine wr_lazy F 13 rfl (by kernel_rfl) rfl rfl (lz_fn rfl rfl rfl (.cons fz (.cons fz (.cons fz .nil))) (within_fn _ 1 4 (by decide) (by decide) (by decide))) (.inl rfl) ?_
      refine wr_next F (l := [5, 11]) (by kernel_rfl) (by simp) (.cons rfl ?_ (.cons rfl ?_ (.nil)))
      ·skip
       first | refine w_ldC1 a9 rfl rfl rdc ?_ | refine w_ldP1 a9 rfl rfl tk rdp ?_
       refine ws_nil ?_
       refine wr_next F (l := [11]) (by kernel_rfl) (by simp) (.cons rfl ?_ (.nil))
       first | refine w_ldC1 a9 rfl rfl rdc ?_ | refine w_ldP1 a9 rfl rfl tk rdp ?_
       refine ws_nil ?_
       refine wr_float F 14 rfl (by kernel_rfl) (.inl (by kernel_rfl)) ?_
       refine w_build (v := .agg [_, _, _]) B55 rfl rfl rfl ?_
       refine ws_nil ?_
       refine wr_lazy F 15 rfl (by kernel_rfl) rfl rfl (lz_buildS (cs := [(⟨nm, vl, withinV (pickK M i) 1 4⟩ : MD)].flatMap eM) u25 s55 z55 (by decide) rfl rfl (by decide) rfl rfl) (.inl rfl) ?_
       refine wr_float F 16 rfl (by kernel_rfl) (.inl (by kernel_rfl)) ?_
       first | refine w_faddrC O28_0 rfl rfl ?_ | refine w_faddrP O28_0 rfl rfl ?_
       refine ws_nil ?_
       refine wr_next F (l := [17]) (by kernel_rfl) (by simp) (.cons rfl ?_ (.nil))
       refine w_st s25 rfl rfl rfl tk rfl rfl ovw ?_
       refine ws_nil ?_
       refine wr_end F (by kernel_rfl) ?_
       refine WC.recell (eN (ndT M G i)) tk (by unfold ndT msT; rw [if_neg h11, hmd]; rfl) ?_
       refine wc_text ?_
       refine w_move rfl rfl ?_
       first | refine w_ldC a28 s28 rfl rfl agc ?_ | refine w_ldP a28 s28 rfl rfl tk agp ?_
       refine w_buildS (cs := [_, _, _, _]) u26 s28 z28 (by decide) rfl rfl rfl (fun o80 => ?_)
       refine w_appO (enc := eN) (l := (ndsT M G i)) (m := [ndT M G i]) rfl u26 s28 b28 z28 u26 (by simp) rfl rfl rfl tk (new_obj tk rfl rfl) bg bg (fun v81 => ?_)
       refine w_move rfl rfl ?_
       refine w_move rfl rfl ?_
       first | refine w_buildSF (cs := ([((withinN z i : Nat) : Int)] : List Int).flatMap eI) u22 s3 z3 (by decide) rfl rfl rfl (by decide) rfl rfl ?_ | refine w_buildSF (cs := ([(0 : Int)] : List Int).flatMap eI) u22 s3 z3 (by decide) rfl rfl rfl (by decide) rfl rfl ?_
       first | rw [show ([((withinN z i : Nat) : Int)] : List Int) = [((parT (undT U i) z i : Nat) : Int)] by unfold parT; rw [if_neg (by omega)]] | rw [show ([((withinN z i : Nat) : Int)] : List Int) = [((parT (undT U i) z i : Nat) : Int)] by unfold parT; rw [hq, if_neg (by simp; omega)]] | rw [show ([(0 : Int)] : List Int) = [((parT (undT U i) z i : Nat) : Int)] by unfold parT; rw [hq, if_pos (by simp; omega)]; rfl]
       refine w_appO (enc := eI) (l := (undT U i)) (m := [((parT (undT U i) z i : Nat) : Int)]) rfl u22 s3 b3 z3 u22 (by simp) rfl rfl rfl tk nw bg bg (fun v85 => ?_)
       refine w_assign rfl rfl ?_
       refine w_assign rfl rfl ?_
       refine ws_nil ?_
       refine wc_text ?_
       rw [show ([((parT (undT U i) z i : Nat) : Int)] : List Int) = [((parT (undT U i) ((U[i]?).getD 0) i : Nat) : Int)] by rw [hz]; rfl]
       refine w_move rfl rfl ?_
       refine w_add u3 rfl rfl rfl (by omega) ?_
       refine w_assign rfl rfl ?_
       refine ws_nil ?_
       exact ⟨⟨(i + 1, v81, v85), (by omega : i + 1 ≤ U.length), (by omega : i + 1 ≤ 8)⟩, by simp only; omega, (.cons rfl (.cons rfl (.cons rfl (.cons rfl (.cons rfl (.nil _)))))), (Sel.weak (.cons tk (.cons tk (.cons tk .nil))))⟩
      ·skip
       first | refine w_ldC1 a9 rfl rfl rdc ?_ | refine w_ldP1 a9 rfl rfl tk rdp ?_
       refine ws_nil ?_
       refine wr_next F (l := [5]) (by kernel_rfl) (by simp) (.cons rfl ?_ (.nil))
       first | refine w_ldC1 a9 rfl rfl rdc ?_ | refine w_ldP1 a9 rfl rfl tk rdp ?_
       refine ws_nil ?_
       refine wr_float F 14 rfl (by kernel_rfl) (.inl (by kernel_rfl)) ?_
       refine w_build (v := .agg [_, _, _]) B55 rfl rfl rfl ?_
       refine ws_nil ?_
       refine wr_lazy F 15 rfl (by kernel_rfl) rfl rfl (lz_buildS (cs := [(⟨nm, vl, withinV (pickK M i) 1 4⟩ : MD)].flatMap eM) u25 s55 z55 (by decide) rfl rfl (by decide) rfl rfl) (.inl rfl) ?_
       refine wr_float F 16 rfl (by kernel_rfl) (.inl (by kernel_rfl)) ?_
       first | refine w_faddrC O28_0 rfl rfl ?_ | refine w_faddrP O28_0 rfl rfl ?_
       refine ws_nil ?_
       refine wr_next F (l := [17]) (by kernel_rfl) (by simp) (.cons rfl ?_ (.nil))
       refine w_st s25 rfl rfl rfl tk rfl rfl ovw ?_
       refine ws_nil ?_
       refine wr_end F (by kernel_rfl) ?_
       refine WC.recell (eN (ndT M G i)) tk (by unfold ndT msT; rw [if_neg h11, hmd]; rfl) ?_
       refine wc_text ?_
       refine w_move rfl rfl ?_
       first | refine w_ldC a28 s28 rfl rfl agc ?_ | refine w_ldP a28 s28 rfl rfl tk agp ?_
       refine w_buildS (cs := [_, _, _, _]) u26 s28 z28 (by decide) rfl rfl rfl (fun o80 => ?_)
       refine w_appO (enc := eN) (l := (ndsT M G i)) (m := [ndT M G i]) rfl u26 s28 b28 z28 u26 (by simp) rfl rfl rfl tk (new_obj tk rfl rfl) bg bg (fun v81 => ?_)
       refine w_move rfl rfl ?_
       refine w_move rfl rfl ?_
       first | refine w_buildSF (cs := ([((withinN z i : Nat) : Int)] : List Int).flatMap eI) u22 s3 z3 (by decide) rfl rfl rfl (by decide) rfl rfl ?_ | refine w_buildSF (cs := ([(0 : Int)] : List Int).flatMap eI) u22 s3 z3 (by decide) rfl rfl rfl (by decide) rfl rfl ?_
       first | rw [show ([((withinN z i : Nat) : Int)] : List Int) = [((parT (undT U i) z i : Nat) : Int)] by unfold parT; rw [if_neg (by omega)]] | rw [show ([((withinN z i : Nat) : Int)] : List Int) = [((parT (undT U i) z i : Nat) : Int)] by unfold parT; rw [hq, if_neg (by simp; omega)]] | rw [show ([(0 : Int)] : List Int) = [((parT (undT U i) z i : Nat) : Int)] by unfold parT; rw [hq, if_pos (by simp; omega)]; rfl]
       refine w_appO (enc := eI) (l := (undT U i)) (m := [((parT (undT U i) z i : Nat) : Int)]) rfl u22 s3 b3 z3 u22 (by simp) rfl rfl rfl tk nw bg bg (fun v85 => ?_)
       refine w_assign rfl rfl ?_
       refine w_assign rfl rfl ?_
       refine ws_nil ?_
       refine wc_text ?_
       rw [show ([((parT (undT U i) z i : Nat) : Int)] : List Int) = [((parT (undT U i) ((U[i]?).getD 0) i : Nat) : Int)] by rw [hz]; rfl]
       refine w_move rfl rfl ?_
       refine w_add u3 rfl rfl rfl (by omega) ?_
       refine w_assign rfl rfl ?_
       refine ws_nil ?_
       exact ⟨⟨(i + 1, v81, v85), (by omega : i + 1 ≤ U.length), (by omega : i + 1 ≤ 8)⟩, by simp only; omega, (.cons rfl (.cons rfl (.cons rfl (.cons rfl (.cons rfl (.nil _)))))), (Sel.weak (.cons tk (.cons tk (.cons tk .nil))))⟩
     ·replace h11 := of_decide_eq_false h11
      have hnd : ndT M G i = ⟨[], [lbT i], decide (andK (pickK G i) 1 = 1)⟩ := by unfold ndT msT; rw [if_pos (Decidable.not_not.mp h11)]
      refine WC.weakCells (o := o8) (cs' := eN ⟨[], [lbT i], decide (andK (pickK G i) 1 = 1)⟩) tk (bareK _ _) ?_
      rw [← hnd]
      refine wc_stay ?_
      refine wc_text ?_
      refine w_move rfl rfl ?_
      first | refine w_ldC a28 s28 rfl rfl agc ?_ | refine w_ldP a28 s28 rfl rfl tk agp ?_
      refine w_buildS (cs := [_, _, _, _]) u26 s28 z28 (by decide) rfl rfl rfl (fun o80 => ?_)
      refine w_appO (enc := eN) (l := (ndsT M G i)) (m := [ndT M G i]) rfl u26 s28 b28 z28 u26 (by simp) rfl rfl rfl tk (new_obj tk rfl rfl) bg bg (fun v81 => ?_)
      refine w_move rfl rfl ?_
      refine w_move rfl rfl ?_
      first | refine w_buildSF (cs := ([((withinN z i : Nat) : Int)] : List Int).flatMap eI) u22 s3 z3 (by decide) rfl rfl rfl (by decide) rfl rfl ?_ | refine w_buildSF (cs := ([(0 : Int)] : List Int).flatMap eI) u22 s3 z3 (by decide) rfl rfl rfl (by decide) rfl rfl ?_
      first | rw [show ([((withinN z i : Nat) : Int)] : List Int) = [((parT (undT U i) z i : Nat) : Int)] by unfold parT; rw [if_neg (by omega)]] | rw [show ([((withinN z i : Nat) : Int)] : List Int) = [((parT (undT U i) z i : Nat) : Int)] by unfold parT; rw [hq, if_neg (by simp; omega)]] | rw [show ([(0 : Int)] : List Int) = [((parT (undT U i) z i : Nat) : Int)] by unfold parT; rw [hq, if_pos (by simp; omega)]; rfl]
      refine w_appO (enc := eI) (l := (undT U i)) (m := [((parT (undT U i) z i : Nat) : Int)]) rfl u22 s3 b3 z3 u22 (by simp) rfl rfl rfl tk nw bg bg (fun v85 => ?_)
      refine w_assign rfl rfl ?_
      refine w_assign rfl rfl ?_
      refine ws_nil ?_
      refine wc_text ?_
      rw [show ([((parT (undT U i) z i : Nat) : Int)] : List Int) = [((parT (undT U i) ((U[i]?).getD 0) i : Nat) : Int)] by rw [hz]; rfl]
      refine w_move rfl rfl ?_
      refine w_add u3 rfl rfl rfl (by omega) ?_
      refine w_assign rfl rfl ?_
      refine ws_nil ?_
      exact ⟨⟨(i + 1, v81, v85), (by omega : i + 1 ≤ U.length), (by omega : i + 1 ≤ 8)⟩, by simp only; omega, (.cons rfl (.cons rfl (.cons rfl (.cons rfl (.cons rfl (.nil _)))))), (Sel.weak (.cons tk (.cons tk (.cons tk .nil))))⟩
   ·first | replace g34 := dT g34 | replace g34 := dF g34 | replace g34 := dFT g34 | replace g34 := dTF g34 | replace g34 := nb_T g34 | replace g34 := nb_F g34 | skip
    first | replace g34 := nL g34 | replace g34 := nM g34 | replace g34 := nN g34 | skip
    refine ws_off rfl rfl rfl rfl ?_
    refine ws_off rfl rfl rfl rfl ?_
    refine ws_off rfl rfl rfl rfl ?_
    refine ws_off rfl rfl rfl rfl ?_
    refine ws_off rfl rfl rfl rfl ?_
    first | refine w_pickT rfl rfl rfl ⟨_, rfl⟩ ?_ | refine w_pickF rfl rfl ⟨_, rfl⟩ rfl ?_ | refine w_pick rfl rfl rfl rfl ?_
    refine ws_nil ?_
    refine wc_condF rfl ?_
    refine wc_stay ?_
    refine wc_seq ?_
    refine wc_text ?_
    first | refine w_faddrC O24_1 rfl rfl ?_ | refine w_faddrP O24_1 rfl rfl ?_
    first | refine w_ldC1 a22 rfl rfl rdc ?_ | refine w_ldP1 a22 rfl rfl tk rdp ?_
    refine w_move rfl rfl ?_
    refine w_call rfl rfl (cw_fn rfl rfl (.cons fz (.cons fz .nil)) (pickK_fn M i (by omega) (by omega)) ?_)
    refine w_assign rfl rfl ?_
    refine ws_nil ?_
    refine wc_seq ?_
    refine wc_free [0, 1, 3, 7, 15, 31, 0, 64, 0, 448, 960, 1984, 4095, 0, 16383] (by kernel_rfl) (by kernel_rfl) (fun F => ?_)
    refine wr_float F 0 rfl (by kernel_rfl) (.inl (by kernel_rfl)) ?_
    refine w_move rfl rfl ?_
    refine ws_nil ?_
    refine wr_float F 1 rfl (by kernel_rfl) (.inl (by kernel_rfl)) ?_
    refine w_rem u3 rfl rfl rfl (by omega) ?_
    refine ws_nil ?_
    refine wr_float F 2 rfl (by kernel_rfl) (.inl (by kernel_rfl)) ?_
    refine w_add u3 rfl rfl rfl (by omega) ?_
    refine ws_nil ?_
    refine wr_float F 3 rfl (by kernel_rfl) (.inl (by kernel_rfl)) ?_
    refine w_conv rfl rfl (conv_int u3 u5) ?_
    rw [lbT_wrap (by omega)]
    refine ws_nil ?_
    refine wr_lazy F 4 rfl (by kernel_rfl) rfl rfl (lz_buildS (cs := [lbT i].flatMap eB) u49 s5 z5 (by decide) rfl rfl (by decide) rfl rfl) (.inl rfl) ?_
    refine wr_lazy F 5 rfl (by kernel_rfl) rfl rfl (PureF.lazy (pf_text (l := [lbT i]) u9 u49 u5 rfl)) (.inl rfl) ?_
    refine wr_float F 6 rfl (by kernel_rfl) (.inl (by kernel_rfl)) ?_
    first | refine w_faddrC O24_2 rfl rfl ?_ | refine w_faddrP O24_2 rfl rfl ?_
    refine ws_nil ?_
    refine wr_pure F 7 rfl (by kernel_rfl) rfl rfl (pf_ldC1 a22 rfl rdc) (.inl rfl) ?_
    refine wr_float F 8 rfl (by kernel_rfl) (.inl (by kernel_rfl)) ?_
    refine w_move rfl rfl ?_
    refine ws_nil ?_
    refine wr_lazy F 9 rfl (by kernel_rfl) rfl rfl (lz_fn rfl rfl rfl (.cons fz (.cons fz .nil)) (pickK_fn G i (by omega) (by omega))) (.inl rfl) ?_
    refine wr_float F 10 rfl (by kernel_rfl) (.inl (by kernel_rfl)) ?_
    refine w_bin (v := .int .i64 (andK (pickK G i) 1)) rfl rfl rfl (by rw [bin_int u3 (by decide) (by decide)]; rfl) ?_
    refine ws_nil ?_
    refine wr_float F 11 rfl (by kernel_rfl) (.inl (by kernel_rfl)) ?_
    refine w_eql u3 rfl rfl rfl ?_
    refine ws_nil ?_
    refine wr_float F 12 rfl (by kernel_rfl) (.inl (by kernel_rfl)) ?_
    refine w_build (v := .agg [_, _, _, _]) B28 rfl rfl rfl ?_
    refine ws_nil ?_
    refine wr_next F (l := [13]) (by kernel_rfl) (by simp) (.cons rfl ?_ (.nil))
    refine w_alloc z28 s28 rfl (fun o8 => ?_)
    refine ws_nil ?_
    refine wr_next F (l := [14]) (by kernel_rfl) (by simp) (.cons rfl ?_ (.nil))
    refine w_st s28 rfl rfl rfl tk rfl rfl ovw ?_
    refine ws_nil ?_
    refine wr_end F (by kernel_rfl) ?_
    refine wc_seq ?_
    refine wc_seq ?_
    refine wc_text ?_
    refine w_move rfl rfl ?_
    refine w_bin (v := .int .i64 (andK (pickK M i) 3)) rfl rfl rfl (by rw [bin_int u3 (by decide) (by decide)]; rfl) ?_
    refine w_neq u3 rfl rfl rfl ?_
    refine ws_nil ?_
    refine wc_cond rfl (fun h11 => ?_) (fun h11 => ?_)
    ·replace h11 := of_decide_eq_true h11
     have hw2 := withinN_le (IntKind.i64.wrap ((pickK M i).tdiv 4)) (hi := 2) (by decide)
     have hw3 := withinN_le (IntKind.i64.wrap ((pickK M i).tdiv 16)) (hi := 3) (by decide)
     obtain ⟨nm, hnm⟩ := get_of_lt (l := namesV) (k := withinN (IntKind.i64.wrap ((pickK M i).tdiv 4)) 2) (by omega)
     obtain ⟨vl, hvl2⟩ := get_of_lt (l := valuesV) (k := withinN (IntKind.i64.wrap ((pickK M i).tdiv 16)) 3) (by omega)
     have hmd : mdT (pickK M i) = ⟨nm, vl, withinV (pickK M i) 1 4⟩ := by unfold mdT; rw [hnm, hvl2]; rfl
     refine wc_free [0, 0, 2, 7, 15, 31, 15, 0, 128, 463, 975, 1999, 0, 5071, 16383, 32767, 65535, 131071] (by kernel_rfl) (by kernel_rfl) (fun F => ?_)
     refine wr_lazy F 0 rfl (by kernel_rfl) rfl rfl (lz_fn rfl rfl rfl .nil (names_fn)) (.inl rfl) ?_
     refine wr_float F 1 rfl (by kernel_rfl) (.inl (by kernel_rfl)) ?_
     refine w_move rfl rfl ?_
     refine ws_nil ?_
     refine wr_float F 2 rfl (by kernel_rfl) (.inl (by kernel_rfl)) ?_
     refine w_quo u3 rfl rfl rfl (by omega) ?_
     refine ws_nil ?_
     refine wr_lazy F 3 rfl (by kernel_rfl) rfl rfl (lz_fn rfl rfl rfl (.cons fz (.cons fz (.cons fz .nil))) (within_nfn _ 2 (by decide) (by decide))) (.inl rfl) ?_
     refine wr_float F 4 rfl (by kernel_rfl) (.inl (by kernel_rfl)) ?_
     first | refine w_lidx u34 s9 rfl rfl rfl (by omega) ?_ | refine w_slidx u34 s9 rfl rfl rfl (by omega) ?_
     refine ws_nil ?_
     refine wr_lazy F 6 rfl (by kernel_rfl) rfl rfl (lz_fn rfl rfl rfl .nil (values_fn)) (.inl rfl) ?_
     refine wr_float F 7 rfl (by kernel_rfl) (.inl (by kernel_rfl)) ?_
     refine w_move rfl rfl ?_
     refine ws_nil ?_
     refine wr_float F 8 rfl (by kernel_rfl) (.inl (by kernel_rfl)) ?_
     refine w_quo u3 rfl rfl rfl (by omega) ?_
     refine ws_nil ?_
     refine wr_lazy F 9 rfl (by kernel_rfl) rfl rfl (lz_fn rfl rfl rfl (.cons fz (.cons fz (.cons fz .nil))) (within_nfn _ 3 (by decide) (by decide))) (.inl rfl) ?_
     refine wr_float F 10 rfl (by kernel_rfl) (.inl (by kernel_rfl)) ?_
     first | refine w_lidx u34 s9 rfl rfl rfl (by omega) ?_ | refine w_slidx u34 s9 rfl rfl rfl (by omega) ?_
     refine ws_nil ?_
     refine wr_float F 12 rfl (by kernel_rfl) (.inl (by kernel_rfl)) ?_
     refine w_move rfl rfl ?_
     refine ws_nil ?_
     refine wr_lazy F 13 rfl (by kernel_rfl) rfl rfl (lz_fn rfl rfl rfl (.cons fz (.cons fz (.cons fz .nil))) (within_fn _ 1 4 (by decide) (by decide) (by decide))) (.inl rfl) ?_
     refine wr_next F (l := [5, 11]) (by kernel_rfl) (by simp) (.cons rfl ?_ (.cons rfl ?_ (.nil)))
     ·skip
      first | refine w_ldC1 a9 rfl rfl rdc ?_ | refine w_ldP1 a9 rfl rfl tk rdp ?_
      refine ws_nil ?_
      refine wr_next F (l := [11]) (by kernel_rfl) (by simp) (.cons rfl ?_ (.nil))
      first | refine w_ldC1 a9 rfl rfl rdc ?_ | refine w_ldP1 a9 rfl rfl tk rdp ?_
      refine ws_nil ?_
      refine wr_float F 14 rfl (by kernel_rfl) (.inl (by kernel_rfl)) ?_
      refine w_build (v := .agg [_, _, _]) B55 rfl rfl rfl ?_
      refine ws_nil ?_
      refine wr_lazy F 15 rfl (by kernel_rfl) rfl rfl (lz_buildS (cs := [(⟨nm, vl, withinV (pickK M i) 1 4⟩ : MD)].flatMap eM) u25 s55 z55 (by decide) rfl rfl (by decide) rfl rfl) (.inl rfl) ?_
      refine wr_float F 16 rfl (by kernel_rfl) (.inl (by kernel_rfl)) ?_
      first | refine w_faddrC O28_0 rfl rfl ?_ | refine w_faddrP O28_0 rfl rfl ?_
      refine ws_nil ?_
      refine wr_next F (l := [17]) (by kernel_rfl) (by simp) (.cons rfl ?_ (.nil))
      refine w_st s25 rfl rfl rfl tk rfl rfl ovw ?_
      refine ws_nil ?_
      refine wr_end F (by kernel_rfl) ?_
      refine WC.recell (eN (ndT M G i)) tk (by unfold ndT msT; rw [if_neg h11, hmd]; rfl) ?_
      refine wc_text ?_
      refine w_move rfl rfl ?_
      first | refine w_ldC a28 s28 rfl rfl agc ?_ | refine w_ldP a28 s28 rfl rfl tk agp ?_
      refine w_buildS (cs := [_, _, _, _]) u26 s28 z28 (by decide) rfl rfl rfl (fun o80 => ?_)
      refine w_appO (enc := eN) (l := (ndsT M G i)) (m := [ndT M G i]) rfl u26 s28 b28 z28 u26 (by simp) rfl rfl rfl tk (new_obj tk rfl rfl) bg bg (fun v81 => ?_)
      refine w_move rfl rfl ?_
      refine w_move rfl rfl ?_
      first | refine w_buildSF (cs := ([((withinN z i : Nat) : Int)] : List Int).flatMap eI) u22 s3 z3 (by decide) rfl rfl rfl (by decide) rfl rfl ?_ | refine w_buildSF (cs := ([(0 : Int)] : List Int).flatMap eI) u22 s3 z3 (by decide) rfl rfl rfl (by decide) rfl rfl ?_
      first | rw [show ([((withinN z i : Nat) : Int)] : List Int) = [((parT (undT U i) z i : Nat) : Int)] by unfold parT; rw [if_neg (by omega)]] | rw [show ([((withinN z i : Nat) : Int)] : List Int) = [((parT (undT U i) z i : Nat) : Int)] by unfold parT; rw [hq, if_neg (by simp; omega)]] | rw [show ([(0 : Int)] : List Int) = [((parT (undT U i) z i : Nat) : Int)] by unfold parT; rw [hq, if_pos (by simp; omega)]; rfl]
      refine w_appO (enc := eI) (l := (undT U i)) (m := [((parT (undT U i) z i : Nat) : Int)]) rfl u22 s3 b3 z3 u22 (by simp) rfl rfl rfl tk nw bg bg (fun v85 => ?_)
      refine w_assign rfl rfl ?_
      refine w_assign rfl rfl ?_
      refine ws_nil ?_
      refine wc_text ?_
      rw [show ([((parT (undT U i) z i : Nat) : Int)] : List Int) = [((parT (undT U i) ((U[i]?).getD 0) i : Nat) : Int)] by rw [hz]; rfl]
      refine w_move rfl rfl ?_
      refine w_add u3 rfl rfl rfl (by omega) ?_
      refine w_assign rfl rfl ?_
      refine ws_nil ?_
      exact ⟨⟨(i + 1, v81, v85), (by omega : i + 1 ≤ U.length), (by omega : i + 1 ≤ 8)⟩, by simp only; omega, (.cons rfl (.cons rfl (.cons rfl (.cons rfl (.cons rfl (.nil _)))))), (Sel.weak (.cons tk (.cons tk (.cons tk .nil))))⟩
     ·skip
      first | refine w_ldC1 a9 rfl rfl rdc ?_ | refine w_ldP1 a9 rfl rfl tk rdp ?_
      refine ws_nil ?_
      refine wr_next F (l := [5]) (by kernel_rfl) (by simp) (.cons rfl ?_ (.nil))
      first | refine w_ldC1 a9 rfl rfl rdc ?_ | refine w_ldP1 a9 rfl rfl tk rdp ?_
      refine ws_nil ?_
      refine wr_float F 14 rfl (by kernel_rfl) (.inl (by kernel_rfl)) ?_
      refine w_build (v := .agg [_, _, _]) B55 rfl rfl rfl ?_
      refine ws_nil ?_
      refine wr_lazy F 15 rfl (by kernel_rfl) rfl rfl (lz_buildS (cs := [(⟨nm, vl, withinV (pickK M i) 1 4⟩ : MD)].flatMap eM) u25 s55 z55 (by decide) rfl rfl (by decide) rfl rfl) (.inl rfl) ?_
      refine wr_float F 16 rfl (by kernel_rfl) (.inl (by kernel_rfl)) ?_
      first | refine w_faddrC O28_0 rfl rfl ?_ | refine w_faddrP O28_0 rfl rfl ?_
      refine ws_nil ?_
      refine wr_next F (l := [17]) (by kernel_rfl) (by simp) (.cons rfl ?_ (.nil))
      refine w_st s25 rfl rfl rfl tk rfl rfl ovw ?_
      refine ws_nil ?_
      refine wr_end F (by kernel_rfl) ?_
      refine WC.recell (eN (ndT M G i)) tk (by unfold ndT msT; rw [if_neg h11, hmd]; rfl) ?_
      refine wc_text ?_
      refine w_move rfl rfl ?_
      first | refine w_ldC a28 s28 rfl rfl agc ?_ | refine w_ldP a28 s28 rfl rfl tk agp ?_
      refine w_buildS (cs := [_, _, _, _]) u26 s28 z28 (by decide) rfl rfl rfl (fun o80 => ?_)
      refine w_appO (enc := eN) (l := (ndsT M G i)) (m := [ndT M G i]) rfl u26 s28 b28 z28 u26 (by simp) rfl rfl rfl tk (new_obj tk rfl rfl) bg bg (fun v81 => ?_)
      refine w_move rfl rfl ?_
      refine w_move rfl rfl ?_
      first | refine w_buildSF (cs := ([((withinN z i : Nat) : Int)] : List Int).flatMap eI) u22 s3 z3 (by decide) rfl rfl rfl (by decide) rfl rfl ?_ | refine w_buildSF (cs := ([(0 : Int)] : List Int).flatMap eI) u22 s3 z3 (by decide) rfl rfl rfl (by decide) rfl rfl ?_
      first | rw [show ([((withinN z i : Nat) : Int)] : List Int) = [((parT (undT U i) z i : Nat) : Int)] by unfold parT; rw [if_neg (by omega)]] | rw [show ([((withinN z i : Nat) : Int)] : List Int) = [((parT (undT U i) z i : Nat) : Int)] by unfold parT; rw [hq, if_neg (by simp; omega)]] | rw [show ([(0 : Int)] : List Int) = [((parT (undT U i) z i : Nat) : Int)] by unfold parT; rw [hq, if_pos (by simp; omega)]; rfl]
      refine w_appO (enc := eI) (l := (undT U i)) (m := [((parT (undT U i) z i : Nat) : Int)]) rfl u22 s3 b3 z3 u22 (by simp) rfl rfl rfl tk nw bg bg (fun v85 => ?_)
      refine w_assign rfl rfl ?_
      refine w_assign rfl rfl ?_
      refine ws_nil ?_
      refine wc_text ?_
      rw [show ([((parT (undT U i) z i : Nat) : Int)] : List Int) = [((parT (undT U i) ((U[i]?).getD 0) i : Nat) : Int)] by rw [hz]; rfl]
      refine w_move rfl rfl ?_
      refine w_add u3 rfl rfl rfl (by omega) ?_
      refine w_assign rfl rfl ?_
      refine ws_nil ?_
      exact ⟨⟨(i + 1, v81, v85), (by omega : i + 1 ≤ U.length), (by omega : i + 1 ≤ 8)⟩, by simp only; omega, (.cons rfl (.cons rfl (.cons rfl (.cons rfl (.cons rfl (.nil _)))))), (Sel.weak (.cons tk (.cons tk (.cons tk .nil))))⟩
    ·replace h11 := of_decide_eq_false h11
     have hnd : ndT M G i = ⟨[], [lbT i], decide (andK (pickK G i) 1 = 1)⟩ := by unfold ndT msT; rw [if_pos (Decidable.not_not.mp h11)]
     refine WC.weakCells (o := o8) (cs' := eN ⟨[], [lbT i], decide (andK (pickK G i) 1 = 1)⟩) tk (bareK _ _) ?_
     rw [← hnd]
     refine wc_stay ?_
     refine wc_text ?_
     refine w_move rfl rfl ?_
     first | refine w_ldC a28 s28 rfl rfl agc ?_ | refine w_ldP a28 s28 rfl rfl tk agp ?_
     refine w_buildS (cs := [_, _, _, _]) u26 s28 z28 (by decide) rfl rfl rfl (fun o80 => ?_)
     refine w_appO (enc := eN) (l := (ndsT M G i)) (m := [ndT M G i]) rfl u26 s28 b28 z28 u26 (by simp) rfl rfl rfl tk (new_obj tk rfl rfl) bg bg (fun v81 => ?_)
     refine w_move rfl rfl ?_
     refine w_move rfl rfl ?_
     first | refine w_buildSF (cs := ([((withinN z i : Nat) : Int)] : List Int).flatMap eI) u22 s3 z3 (by decide) rfl rfl rfl (by decide) rfl rfl ?_ | refine w_buildSF (cs := ([(0 : Int)] : List Int).flatMap eI) u22 s3 z3 (by decide) rfl rfl rfl (by decide) rfl rfl ?_
     first | rw [show ([((withinN z i : Nat) : Int)] : List Int) = [((parT (undT U i) z i : Nat) : Int)] by unfold parT; rw [if_neg (by omega)]] | rw [show ([((withinN z i : Nat) : Int)] : List Int) = [((parT (undT U i) z i : Nat) : Int)] by unfold parT; rw [hq, if_neg (by simp; omega)]] | rw [show ([(0 : Int)] : List Int) = [((parT (undT U i) z i : Nat) : Int)] by unfold parT; rw [hq, if_pos (by simp; omega)]; rfl]
     refine w_appO (enc := eI) (l := (undT U i)) (m := [((parT (undT U i) z i : Nat) : Int)]) rfl u22 s3 b3 z3 u22 (by simp) rfl rfl rfl tk nw bg bg (fun v85 => ?_)
     refine w_assign rfl rfl ?_
     refine w_assign rfl rfl ?_
     refine ws_nil ?_
     refine wc_text ?_
     rw [show ([((parT (undT U i) z i : Nat) : Int)] : List Int) = [((parT (undT U i) ((U[i]?).getD 0) i : Nat) : Int)] by rw [hz]; rfl]
     refine w_move rfl rfl ?_
     refine w_add u3 rfl rfl rfl (by omega) ?_
     refine w_assign rfl rfl ?_
     refine ws_nil ?_
     exact ⟨⟨(i + 1, v81, v85), (by omega : i + 1 ≤ U.length), (by omega : i + 1 ≤ 8)⟩, by simp only; omega, (.cons rfl (.cons rfl (.cons rfl (.cons rfl (.cons rfl (.nil _)))))), (Sel.weak (.cons tk (.cons tk (.cons tk .nil))))⟩
  ·replace h4 := of_decide_eq_false h4
   have hmi : i = min U.length 8 := by omega
   refine WC.freeze (t := 4) (v' := AL eI (undT U i)) rfl rfl (.ownK rfl tk (flat_done (by intro _; rfl) _)) rfl ?_
   refine WC.openOwn (v := vn) tk (by omega) (fun on hon => ?_)
   subst hon
   refine wc_exit ?_
   refine wc_seq ?_
   refine wc_text ?_
   refine w_move rfl rfl ?_
   refine w_move rfl rfl ?_
   refine w_call rfl rfl (CallW.mono (CallW.take tk (grow_fn on (ndsT M G i) (undT U i) (by omega) (by omega) (und_up U i) (i + 3) 0 (by omega) (by omega) _)) ?_)
   rintro _ _ ⟨rfl, rfl⟩
   try simp only [List.cons_append, List.nil_append]
   refine w_st s28 rfl rfl rfl tk rfl rfl ovw ?_
   refine ws_nil ?_
   refine wc_ret ?_
   refine ⟨_, _, _, (.cons (.cellA rfl a28 s28 tk agp) .nil), (.cons fr .nil), ?_, ?_⟩
   · first | rfl | simp [doneV]
   unfold treeV
   rw [← hmi]; rfl
 ·first | replace g17 := dT g17 | replace g17 := dF g17 | replace g17 := dFT g17 | replace g17 := dTF g17 | replace g17 := nb_T g17 | replace g17 := nb_F g17 | skip
  first | replace g17 := nL g17 | replace g17 := nM g17 | replace g17 := nN g17 | skip
  refine ws_off rfl rfl rfl rfl ?_
  refine ws_off rfl rfl rfl rfl ?_
  first | refine w_pickT rfl rfl rfl ⟨_, rfl⟩ ?_ | refine w_pickF rfl rfl ⟨_, rfl⟩ rfl ?_ | refine w_pick rfl rfl rfl rfl ?_
  refine ws_nil ?_
  refine wc_condF rfl ?_
  have hmi : i = min U.length 8 := by omega
  refine WC.freeze (t := 4) (v' := AL eI (undT U i)) rfl rfl (.ownK rfl tk (flat_done (by intro _; rfl) _)) rfl ?_
  refine WC.openOwn (v := vn) tk (by omega) (fun on hon => ?_)
  subst hon
  refine wc_exit ?_
  refine wc_seq ?_
  refine wc_text ?_
  refine w_move rfl rfl ?_
  refine w_move rfl rfl ?_
  refine w_call rfl rfl (CallW.mono (CallW.take tk (grow_fn on (ndsT M G i) (undT U i) (by omega) (by omega) (und_up U i) (i + 3) 0 (by omega) (by omega) _)) ?_)
  rintro _ _ ⟨rfl, rfl⟩
  try simp only [List.cons_append, List.nil_append]
  refine w_st s28 rfl rfl rfl tk rfl rfl ovw ?_
  refine ws_nil ?_
  refine wc_ret ?_
  refine ⟨_, _, _, (.cons (.cellA rfl a28 s28 tk agp) .nil), (.cons fr .nil), ?_, ?_⟩
  · first | rfl | simp [doneV]
  unfold treeV
  rw [← hmi]; rfl

structure KS where
  has : List Int
  vals : List Int
def eKS (k : KS) : List AV := [AL eI k.has, AL eI k.vals]
def bitK (k : KS) (i : Nat) : Bool := match k.has[i]? with
  | none => false
  | some v => decide (andK v 1 = 1)
theorem bit_none {k : KS} {i : Nat} (h : k.has.length ≤ i) : bitK k i = false := by unfold bitK; rw [List.getElem?_eq_none h]
theorem bit_some {k : KS} {i : Nat} {v : Int} (h : k.has[i]? = some v) : bitK k i = decide (andK v 1 = 1) := by unfold bitK; rw [h]
noncomputable def valK (k : KS) (i : Nat) : List UInt8 := (valuesV[withinN (pickK k.vals i) 7]?).getD []
noncomputable def labK (k : KS) (i : Nat) : List LD := match namesV[i]? with
  | none => []
  | some n => if bitK k i = true then [⟨n, valK k i⟩] else []
noncomputable def setK (k : KS) : Nat → List LD
  | 0 => []
  | i + 1 => setK k i ++ labK k i
theorem set_no {k : KS} {i : Nat} (h : bitK k i = false) : setK k i = setK k (i + 1) := by
  show _ = setK k i ++ labK k i
  unfold labK
  split
  · simp
  · rw [h]; simp
theorem set_yes {k : KS} {i : Nat} {n v : List UInt8} (h : bitK k i = true) (hn : namesV[i]? = some n) (hv : valuesV[withinN (pickK k.vals i) 7]? = some v) : setK k i ++ [⟨n, v⟩] = setK k (i + 1) := by
  show _ = setK k i ++ labK k i
  unfold labK
  rw [hn]
  simp only [h, if_true]
  unfold valK; rw [hv]; rfl
theorem set_len (k : KS) : ∀ i, (setK k i).length ≤ i
  | 0 => Nat.le_refl _
  | i + 1 => by
    have := set_len k i
    have h2 : (labK k i).length ≤ 1 := by
      unfold labK
      split
      · simp
      · split <;> simp
    show (setK k i ++ labK k i).length ≤ _
    rw [List.length_append]; omega

theorem setK_fn (k : KS) (h1 : k.has.length ≤ 9223372036854775807) (h2 : k.vals.length ≤ 9223372036854775807) : PFn C 9 [.agg (eKS k)] (AL eL (setK k 3)) := by
 refine fn_keep rfl rfl (fn := Tryd.f9) rfl rfl rfl rfl rfl ?_
 have hvl : valuesV.length = 8 := rfl
 have hnl : namesV.length = 4 := rfl
 refine wc_seq ?_
 refine wc_text ?_
 refine w_box (cs := eKS k) s30 rfl rfl rfl rfl rfl (fun o1 => ?_)
 refine w_assign rfl rfl ?_
 refine ws_nil ?_
 refine WC.freezePtr (t := 1) (cs := eKS k) rfl rfl .head rfl ?_
 refine wc_seq ?_
 refine wc_text ?_
 refine w_assign rfl rfl ?_
 refine ws_nil ?_
 refine WC.ownNil 59 2 ?_
 refine wc_seq ?_
 refine wc_text ?_
 refine w_call rfl rfl (cw_fn rfl rfl .nil (values_fn) ?_)
 refine w_assign rfl rfl ?_
 refine ws_nil ?_
 refine wc_seq ?_
 refine wc_seq ?_
 refine wc_text ?_
 refine w_call rfl rfl (cw_fn rfl rfl .nil (names_fn) ?_)
 refine w_slice rfl rfl rfl rfl rfl (slice_al (i := 0) (j := 3) u34 s9 (by intro _; rfl) (by rfl) (by rfl) (by omega) (by omega)) ?_
 first | refine w_len rfl rfl (len_lst u34) ?_ | refine w_len rfl rfl (len_slice u34) ?_ | refine w_lenO rfl u34 rfl rfl tk ?_
 refine w_move rfl rfl ?_
 refine ws_nil ?_
 refine wc_block ?_
 refine wc_loop (σ := { u : Nat × AV // u.1 ≤ 3 }) (fun u => [(1, .cptr (eKS k) 0), (3, u.1.2), (4, AL eS valuesV), (9, AL eS (namesV.take 3)), (10, .int .i64 (3 : Nat)), (11, .int .i64 (u.1.1 : Nat))]) (fun u => [.own u.1.2 59 2 ((setK k u.1.1).flatMap eL) (setK k u.1.1).length]) (fun u => 3 - u.1.1) ?_ ⟨(0, nilSlice), Nat.zero_le _⟩ (.cons rfl (.cons rfl (.cons rfl (.cons rfl (.cons rfl (.cons rfl (.nil _))))))) (Sel.weak (.cons tk .nil))
 rintro ⟨⟨i, vk⟩, hi3⟩
 try dsimp only
 simp only at hi3
 have hsl := set_len k i
 refine wc_seq ?_
 refine wc_text ?_
 refine w_lss u3 rfl rfl rfl ?_
 refine ws_nil ?_
 refine wc_seq ?_
 refine wc_cond rfl (fun h4 => ?_) (fun h4 => ?_)
 ·replace h4 := of_decide_eq_true h4
  refine wc_stay ?_
  refine wc_seq ?_
  refine wc_block ?_
  refine wc_seq ?_
  refine wc_text ?_
  have hn3 : (namesV.take 3).length = 3 := rfl
  obtain ⟨n, hn⟩ := get_of_lt (l := namesV.take 3) (k := i) (by show i < 3; omega)
  have hn2 : namesV[i]? = some n := by rw [← hn, List.getElem?_take, if_pos (by omega)]
  refine w_move rfl rfl ?_
  first | refine w_lidx u34 s9 rfl rfl rfl (by omega) ?_ | refine w_slidx u34 s9 rfl rfl rfl (by omega) ?_
  first | refine w_ldC1 a9 rfl rfl rdc ?_ | refine w_ldP1 a9 rfl rfl tk rdp ?_
  refine w_assign rfl rfl ?_
  refine w_assign rfl rfl ?_
  refine ws_nil ?_
  refine wc_seq ?_
  refine wc_text ?_
  refine w_move rfl rfl ?_
  first | refine w_faddrC O30_0 rfl rfl ?_ | refine w_faddrP O30_0 rfl rfl ?_
  first | refine w_ldC1 a22 rfl rfl rdc ?_ | refine w_ldP1 a22 rfl rfl tk rdp ?_
  first | refine w_len rfl rfl (len_lst u22) ?_ | refine w_len rfl rfl (len_slice u22) ?_ | refine w_lenO rfl u22 rfl rfl tk ?_
  refine w_lss u3 rfl rfl rfl ?_
  refine w_move rfl rfl ?_
  refine ws_split (t := 21) rfl (fun g21 => ?_) (fun g21 => ?_)
  ·first | replace g21 := dT g21 | replace g21 := dF g21 | replace g21 := dFT g21 | replace g21 := dTF g21 | replace g21 := nb_T g21 | replace g21 := nb_F g21 | skip
   first | replace g21 := nL g21 | replace g21 := nM g21 | replace g21 := nN g21 | skip
   obtain ⟨b, hb⟩ := get_of_lt (l := k.has) (k := i) (by omega)
   refine ws_on rfl rfl ?_
   first | refine w_faddrC O30_0 rfl rfl ?_ | refine w_faddrP O30_0 rfl rfl ?_
   refine ws_on rfl rfl ?_
   first | refine w_ldC1 a22 rfl rfl rdc ?_ | refine w_ldP1 a22 rfl rfl tk rdp ?_
   refine ws_on rfl rfl ?_
   refine w_move rfl rfl ?_
   refine ws_on rfl rfl ?_
   first | refine w_lidx u22 s3 rfl rfl rfl (by omega) ?_ | refine w_slidx u22 s3 rfl rfl rfl (by omega) ?_
   refine ws_on rfl rfl ?_
   first | refine w_ldC1 a3 rfl rfl rdc ?_ | refine w_ldP1 a3 rfl rfl tk rdp ?_
   refine ws_on rfl rfl ?_
   refine w_bin (v := .int .i64 (andK b 1)) rfl rfl rfl (by rw [bin_int u3 (by decide) (by decide)]; rfl) ?_
   refine ws_on rfl rfl ?_
   refine w_eql u3 rfl rfl rfl ?_
   first | refine w_pickT rfl rfl rfl ⟨_, rfl⟩ ?_ | refine w_pickF rfl rfl ⟨_, rfl⟩ rfl ?_ | refine w_pick rfl rfl rfl rfl ?_
   refine ws_nil ?_
   refine wc_cond rfl (fun h6 => ?_) (fun h6 => ?_)
   ·skip
    refine wc_text ?_
    obtain ⟨y, hy⟩ := get_of_lt (l := valuesV) (k := withinN (pickK k.vals i) 7) (by have := withinN_le (pickK k.vals i) (hi := 7) (by decide); show _ < 8; omega)
    have hw8 := (List.getElem?_eq_some_iff.mp hy).1
    refine w_move rfl rfl ?_
    refine w_move rfl rfl ?_
    refine w_move rfl rfl ?_
    first | refine w_faddrC O30_1 rfl rfl ?_ | refine w_faddrP O30_1 rfl rfl ?_
    first | refine w_ldC1 a22 rfl rfl rdc ?_ | refine w_ldP1 a22 rfl rfl tk rdp ?_
    refine w_move rfl rfl ?_
    refine w_call rfl rfl (cw_fn rfl rfl (.cons fz (.cons fz .nil)) (pickK_fn _ _ (by assumption) (by omega)) ?_)
    refine w_move rfl rfl ?_
    first | refine w_len rfl rfl (len_lst u34) ?_ | refine w_len rfl rfl (len_slice u34) ?_ | refine w_lenO rfl u34 rfl rfl tk ?_
    refine w_sub u3 rfl rfl rfl (by omega) ?_
    refine w_call rfl rfl (CallW.mono (within_nat (pickK k.vals i) 7 (by decide) (by decide) _) ?_)
    rintro _ _ ⟨rfl, rfl⟩
    try simp only [List.cons_append, List.nil_append]
    first | refine w_lidx u34 s9 rfl rfl rfl (by omega) ?_ | refine w_slidx u34 s9 rfl rfl rfl (by omega) ?_
    first | refine w_ldC1 a9 rfl rfl rdc ?_ | refine w_ldP1 a9 rfl rfl tk rdp ?_
    refine w_build (v := .agg [_, _]) B59 rfl rfl rfl ?_
    refine w_buildSF (cs := [(⟨n, y⟩ : LD)].flatMap eL) u36 s59 z59 (by decide) rfl rfl rfl (by decide) rfl rfl ?_
    refine w_appO (enc := eL) (l := setK k i) (m := [(⟨n, y⟩ : LD)]) rfl u36 s59 b59 z59 u36 (by simp) rfl rfl rfl tk nw bg bg (fun v45 => ?_)
    refine w_assign rfl rfl ?_
    refine ws_nil ?_
    refine wc_text ?_
    first | rw [set_yes (k := k) (by rw [bit_some hb]; first | exact h6 | exact decide_eq_true h6) hn2 hy] | rw [set_no (k := k) (i := i) (by rw [bit_some hb]; first | exact h6 | exact decide_eq_false h6)] | rw [set_no (k := k) (i := i) (bit_none (by omega))]
    refine w_add u3 rfl rfl rfl (by omega) ?_
    refine w_move rfl rfl ?_
    refine ws_nil ?_
    exact ⟨⟨(i + 1, v45), (by omega : i + 1 ≤ 3)⟩, by simp only; omega, (.cons rfl (.cons rfl (.cons rfl (.cons rfl (.cons rfl (.cons rfl (.nil _))))))), (Sel.weak (.cons tk .nil))⟩
   ·skip
    refine wc_stay ?_
    refine wc_text ?_
    first | rw [set_yes (k := k) (by rw [bit_some hb]; first | exact h6 | exact decide_eq_true h6) hn2 hy] | rw [set_no (k := k) (i := i) (by rw [bit_some hb]; first | exact h6 | exact decide_eq_false h6)] | rw [set_no (k := k) (i := i) (bit_none (by omega))]
    refine w_add u3 rfl rfl rfl (by omega) ?_
    refine w_move rfl rfl ?_
    refine ws_nil ?_
    exact ⟨⟨(i + 1, vk), (by omega : i + 1 ≤ 3)⟩, by simp only; omega, (.cons rfl (.cons rfl (.cons rfl (.cons rfl (.cons rfl (.cons rfl (.nil _))))))), (Sel.weak (.cons tk .nil))⟩
  ·first | replace g21 := dT g21 | replace g21 := dF g21 | replace g21 := dFT g21 | replace g21 := dTF g21 | replace g21 := nb_T g21 | replace g21 := nb_F g21 | skip
   first | replace g21 := nL g21 | replace g21 := nM g21 | replace g21 := nN g21 | skip
   refine ws_off rfl rfl rfl rfl ?_
   refine ws_off rfl rfl rfl rfl ?_
   refine ws_off rfl rfl rfl rfl ?_
   refine ws_off rfl rfl rfl rfl ?_
   refine ws_off rfl rfl rfl rfl ?_
   refine ws_off rfl rfl rfl rfl ?_
   refine ws_off rfl rfl rfl rfl ?_
   first | refine w_pickT rfl rfl rfl ⟨_, rfl⟩ ?_ | refine w_pickF rfl rfl ⟨_, rfl⟩ rfl ?_ | refine w_pick rfl rfl rfl rfl ?_
   refine ws_nil ?_
   refine wc_condF rfl ?_
   refine wc_stay ?_
   refine wc_text ?_
   first | rw [set_yes (k := k) (by rw [bit_some hb]; first | exact h6 | exact decide_eq_true h6) hn2 hy] | rw [set_no (k := k) (i := i) (by rw [bit_some hb]; first | exact h6 | exact decide_eq_false h6)] | rw [set_no (k := k) (i := i) (bit_none (by omega))]
   refine w_add u3 rfl rfl rfl (by omega) ?_
   refine w_move rfl rfl ?_
   refine ws_nil ?_
   exact ⟨⟨(i + 1, vk), (by omega : i + 1 ≤ 3)⟩, by simp only; omega, (.cons rfl (.cons rfl (.cons rfl (.cons rfl (.cons rfl (.cons rfl (.nil _))))))), (Sel.weak (.cons tk .nil))⟩
 ·replace h4 := of_decide_eq_false h4
  obtain rfl : i = 3 := by omega
  refine wc_exit ?_
  refine wc_seq ?_
  refine wc_text ?_
  refine w_move rfl rfl ?_
  refine w_assign rfl rfl ?_
  refine ws_nil ?_
  refine wc_ret ?_
  refine ⟨_, _, _, (.cons (.tmp rfl) .nil), (.cons fr .nil), ?_, ?_⟩
  · first | rfl | simp [doneV]
  rfl
end Go.Proofs.YtonojkcnencodaaDoor.rt
