/-
  The program walked by facts (printed by kx.py).
-/
import Derived.Test.YtlgofplbbmjdjaaGreatDoorKx6zBase
import Derived.Test.YtlgofplbbmjdjaaGreatDoorKx6zSeries
import Derived.Test.YtlgofplbbmjdjaaGreatDoorKxCp
import Derived.Test.YtlgofplbbmjdjaaGreatDoorBhW19
import Derived.Test.YtlgofplbbmjdjaaGreatDoorKx6zInsert
namespace Go.Proofs.YtlgofplbbmjdjaaGreatDoor.kx
open Go Go.Proofs Go.Proofs.YtlgofplbbmjdjaaGreatDoor.BH
open Go.Proofs.YtlgofplbbmjdjaaGreatDoor.BH.Rt
open Go.Proofs.YtlgofplbbmjdjaaGreatDoor.BH.Dk (withinV withinV_in)
open Go.Proofs.YtlgofplbbmjdjaaGreatDoor.BH.Kx
set_option maxRecDepth 100000
theorem cmp1_fn (x : Ser) (set : List LD) (h1 : x.set.length ≤ 6) (h2 : set.length ≤ 9223372036854775807) (R : List HI) : CallW C 78 [.agg (eOne x), AL eL set] ([] ++ R) fun v H => ∃ H', H = H' ++ R ∧ (v = .int .i64 (compL x.set set) ∧ H' = []) := by
 refine cw_sharedA (fn := Tryz.f78) rfl rfl rfl rfl (K := fun v H' => (v = .int .i64 (compL x.set set) ∧ H' = [])) ?_ R
 refine wc_seq ?_
 refine wc_text ?_
 refine w_box (cs := eOne x) s104 rfl rfl rfl rfl rfl (fun o2 => ?_)
 refine w_assign rfl rfl ?_
 refine ws_nil ?_
 refine wc_seq ?_
 refine wc_text ?_
 first | refine w_faddrC O104_0 rfl rfl ?_ | refine w_faddrP O104_0 rfl rfl ?_
 first | refine w_ldC1 a43 rfl rfl rdc ?_ | refine w_ldP1 a43 rfl rfl tk rdp ?_
 refine w_move rfl rfl ?_
 refine w_call rfl rfl (cw_fn rfl rfl (.cons fz (.cons fz .nil)) (compare_fn _ _ (by first | assumption | omega) (by first | assumption | omega)) ?_)
 refine w_assign rfl rfl ?_
 refine ws_nil ?_
 refine wc_ret ?_
 refine ⟨_, [], (.cons (.tmp rfl) .nil), (Sel.weak .nil), ?_⟩
 exact ⟨rfl, rfl⟩

theorem search_obj (o : Nat) (L : List Ser) (set : List LD) (hL : L.length ≤ 1000) (hR : Rising (L.map Ser.abs)) (hS : ∀ x ∈ L, x.set.length ≤ 6) (hset : set.length ≤ 9223372036854775807) (R : List HI) : CallW C 77 [.slice (some ⟨o, 0⟩) L.length (.op 0), AL eL set, .func (.func 78) [] []] ([.obj o (.row 104 2 false (L.flatMap eOne))] ++ R) fun v H => ∃ H', H = H' ++ R ∧ (v = .tuple [.int .i64 (posS (L.map Ser.abs) set : Nat), .bool (hitS (L.map Ser.abs) set)] ∧ H' = [.obj o (.row 104 2 false (L.flatMap eOne))]) := by
 refine cw_sharedA (fn := Tryz.f77) rfl rfl rfl rfl (K := fun v H' => (v = .tuple [.int .i64 (posS (L.map Ser.abs) set : Nat), .bool (hitS (L.map Ser.abs) set)] ∧ H' = [.obj o (.row 104 2 false (L.flatMap eOne))])) ?_ R
 have hml : (L.map Ser.abs).length = L.length := List.length_map _
 refine wc_seq ?_
 refine wc_text ?_
 refine w_assign rfl rfl ?_
 refine w_assign rfl rfl ?_
 refine ws_nil ?_
 refine wc_seq ?_
 refine wc_text ?_
 refine w_move rfl rfl ?_
 first | refine w_len rfl rfl (len_lst u90) ?_ | refine w_len rfl rfl (len_slice u90) ?_ | refine w_lenO rfl u90 rfl rfl tk ?_
 refine w_assign rfl rfl ?_
 refine ws_nil ?_
 refine wc_seq ?_
 refine wc_text ?_
 refine w_move rfl rfl ?_
 refine w_assign rfl rfl ?_
 refine w_assign rfl rfl ?_
 refine ws_nil ?_
 refine wc_seq ?_
 refine wc_block ?_
 refine wc_loop (σ := { u : Nat × Nat // u.1 ≤ u.2 ∧ u.2 ≤ L.length ∧ (∀ y ∈ (L.map Ser.abs).take u.1, compL y.1 set < 0) ∧ (∀ y ∈ (L.map Ser.abs).drop u.2, ¬ compL y.1 set < 0) }) (fun u => [(0, .slice (some ⟨o, 0⟩) L.length (.op 0)), (1, AL eL set), (2, .func (.func 78) [] []), (8, .int .i64 (L.length : Nat)), (9, .int .i64 (u.1.1 : Nat)), (10, .int .i64 (u.1.2 : Nat))]) (fun u => [.obj o (.row 104 2 false (L.flatMap eOne))]) (fun u => u.1.2 - u.1.1) ?_ ⟨(0, L.length), Nat.zero_le _, Nat.le_refl _, by simp, by simp only; rw [List.drop_eq_nil_of_le (by omega)]; simp⟩ (.cons rfl (.cons rfl (.cons rfl (.cons rfl (.cons rfl (.cons rfl (.nil _))))))) (Sel.weak (.cons tk .nil))
 rintro ⟨⟨i, j⟩, hij, hj, hlo, hhi⟩
 try dsimp only
 simp only at hij hj hlo hhi
 refine wc_seq ?_
 refine wc_seq ?_
 refine wc_text ?_
 refine w_move rfl rfl ?_
 refine w_move rfl rfl ?_
 refine w_lss u3 rfl rfl rfl ?_
 refine ws_nil ?_
 refine wc_cond rfl (fun h3 => ?_) (fun h3 => ?_)
 ·replace h3 := of_decide_eq_true h3
  refine wc_stay ?_
  refine wc_block ?_
  refine wc_seq ?_
  refine wc_text ?_
  obtain ⟨x, hx⟩ := get_of_lt (l := L) (k := (i + j) / 2) (by omega)
  refine w_move rfl rfl ?_
  refine w_move rfl rfl ?_
  refine w_add u3 rfl rfl rfl (by omega) ?_
  refine w_conv rfl rfl (conv_int u3 u154) ?_
  refine w_bin (v := .int .u64 (((i + j) / 2 : Nat) : Int)) rfl rfl rfl (shr_half u154 (by omega)) ?_
  refine w_conv rfl rfl (conv_int u154 u3) ?_
  rw [wrap_half (by omega)]
  refine w_assign rfl rfl ?_
  refine ws_nil ?_
  refine wc_seq ?_
  refine wc_text ?_
  
  refine w_move rfl rfl ?_
  refine w_move rfl rfl ?_
  refine w_move rfl rfl ?_
  first | refine w_lidx u90 s104 rfl rfl rfl (by omega) ?_ | refine w_slidx u90 s104 rfl rfl rfl (by omega) ?_
  first | refine w_ldC a104 s104 rfl rfl agc ?_ | refine w_ldP a104 s104 rfl rfl tk agp ?_
  refine w_move rfl rfl ?_
  refine w_callVX (l' := [.agg (eOne x), AL eL set]) rfl rfl rfl rfl (CallW.mono (cmp1_fn x set (hS x (List.mem_of_getElem? hx)) hset _) ?_)
  rintro _ _ ⟨_, rfl, rfl, rfl⟩
  try simp only [List.nil_append]
  refine w_lss u3 rfl rfl rfl ?_
  refine ws_nil ?_
  refine wc_cond rfl (fun h5 => ?_) (fun h5 => ?_)
  ·replace h5 := of_decide_eq_true h5
   refine wc_text ?_
   refine w_move rfl rfl ?_
   refine w_add u3 rfl rfl rfl (by omega) ?_
   refine w_assign rfl rfl ?_
   refine ws_nil ?_
   exact ⟨⟨((i + j) / 2 + 1, j), by simp only; omega, hj, half_low hR (map_get hx) h5, hhi⟩, by simp only; omega, (.cons rfl (.cons rfl (.cons rfl (.cons rfl (.cons rfl (.cons rfl (.nil _))))))), (Sel.weak (.cons tk .nil))⟩
  ·replace h5 := of_decide_eq_false h5
   refine wc_text ?_
   refine w_move rfl rfl ?_
   refine w_assign rfl rfl ?_
   refine ws_nil ?_
   exact ⟨⟨(i, (i + j) / 2), by simp only; omega, by simp only; omega, hlo, half_high hR (map_get hx) h5⟩, by simp only; omega, (.cons rfl (.cons rfl (.cons rfl (.cons rfl (.cons rfl (.cons rfl (.nil _))))))), (Sel.weak (.cons tk .nil))⟩
 ·replace h3 := of_decide_eq_false h3
  obtain rfl : i = j := by omega
  have hpos := pos_of (by omega) hlo hhi
  refine wc_exit ?_
  refine wc_seq ?_
  refine wc_text ?_
  refine w_move rfl rfl ?_
  refine w_move rfl rfl ?_
  refine w_move rfl rfl ?_
  refine w_lss u3 rfl rfl rfl ?_
  refine w_move rfl rfl ?_
  refine ws_split (t := 39) rfl (fun g39 => ?_) (fun g39 => ?_)
  ·first | replace g39 := dT g39 | replace g39 := dF g39 | replace g39 := dFT g39 | replace g39 := dTF g39 | replace g39 := nb_T g39 | replace g39 := nb_F g39 | skip
   first | replace g39 := nL g39 | replace g39 := nM g39 | replace g39 := nN g39 | skip
   obtain ⟨x, hx⟩ := get_of_lt (l := L) (k := i) (by omega)
   refine ws_on rfl rfl ?_
   refine w_move rfl rfl ?_
   refine ws_on rfl rfl ?_
   refine w_move rfl rfl ?_
   refine ws_on rfl rfl ?_
   refine w_move rfl rfl ?_
   refine ws_on rfl rfl ?_
   first | refine w_lidx u90 s104 rfl rfl rfl (by omega) ?_ | refine w_slidx u90 s104 rfl rfl rfl (by omega) ?_
   refine ws_on rfl rfl ?_
   first | refine w_ldC a104 s104 rfl rfl agc ?_ | refine w_ldP a104 s104 rfl rfl tk agp ?_
   refine ws_on rfl rfl ?_
   refine w_move rfl rfl ?_
   refine ws_on rfl rfl ?_
   refine w_callVX (l' := [.agg (eOne x), AL eL set]) rfl rfl rfl rfl (CallW.mono (cmp1_fn x set (hS x (List.mem_of_getElem? hx)) hset _) ?_)
   rintro _ _ ⟨_, rfl, rfl, rfl⟩
   try simp only [List.nil_append]
   refine ws_on rfl rfl ?_
   refine w_eql u3 rfl rfl rfl ?_
   first | refine w_pickT rfl rfl rfl ⟨_, rfl⟩ ?_ | refine w_pickF rfl rfl ⟨_, rfl⟩ rfl ?_ | refine w_pick rfl rfl rfl rfl ?_
   refine w_assign rfl rfl ?_
   refine w_assign rfl rfl ?_
   refine ws_nil ?_
   refine wc_ret ?_
   refine ⟨_, _, (.cons (.tmp rfl) (.cons (.tmp rfl) .nil)), (Sel.weak (.cons tk .nil)), ?_⟩
   first | exact ⟨by rw [hpos, hit_of hpos (map_get hx)]; rfl, rfl⟩ | exact ⟨by rw [hit_none (by omega), hpos]; rfl, rfl⟩
  ·first | replace g39 := dT g39 | replace g39 := dF g39 | replace g39 := dFT g39 | replace g39 := dTF g39 | replace g39 := nb_T g39 | replace g39 := nb_F g39 | skip
   first | replace g39 := nL g39 | replace g39 := nM g39 | replace g39 := nN g39 | skip
   refine ws_off rfl rfl rfl rfl ?_
   refine ws_off rfl rfl rfl rfl ?_
   refine ws_off rfl rfl rfl rfl ?_
   refine ws_off rfl rfl rfl rfl ?_
   refine ws_off rfl rfl rfl rfl ?_
   refine ws_off rfl rfl rfl rfl ?_
   refine ws_off rfl rfl rfl rfl ?_
   refine ws_off rfl rfl rfl rfl ?_
   first | refine w_pickT rfl rfl rfl ⟨_, rfl⟩ ?_ | refine w_pickF rfl rfl ⟨_, rfl⟩ rfl ?_ | refine w_pick rfl rfl rfl rfl ?_
   refine w_assign rfl rfl ?_
   refine w_assign rfl rfl ?_
   refine ws_nil ?_
   refine wc_ret ?_
   refine ⟨_, _, (.cons (.tmp rfl) (.cons (.tmp rfl) .nil)), (Sel.weak (.cons tk .nil)), ?_⟩
   first | exact ⟨by rw [hpos, hit_of hpos (map_get hx)]; rfl, rfl⟩ | exact ⟨by rw [hit_none (by omega), hpos]; rfl, rfl⟩

theorem search_nil (v0 : AV) (set : List LD) (R : List HI) : CallW C 77 [v0, AL eL set, .func (.func 78) [] []] ([.own v0 104 2 [] 0] ++ R) fun v H => ∃ H', H = H' ++ R ∧ (v = .tuple [.int .i64 ((0 : Nat) : Int), .bool false] ∧ H' = [.own v0 104 2 [] 0]) := by
 refine cw_sharedA (fn := Tryz.f77) rfl rfl rfl rfl (K := fun v H' => (v = .tuple [.int .i64 ((0 : Nat) : Int), .bool false] ∧ H' = [.own v0 104 2 [] 0])) ?_ R
 refine wc_seq ?_
 refine wc_text ?_
 refine w_assign rfl rfl ?_
 refine w_assign rfl rfl ?_
 refine ws_nil ?_
 refine wc_seq ?_
 refine wc_text ?_
 refine w_move rfl rfl ?_
 first | refine w_len rfl rfl (len_lst u90) ?_ | refine w_len rfl rfl (len_slice u90) ?_ | refine w_lenO rfl u90 rfl rfl tk ?_
 refine w_assign rfl rfl ?_
 refine ws_nil ?_
 refine wc_seq ?_
 refine wc_text ?_
 refine w_move rfl rfl ?_
 refine w_assign rfl rfl ?_
 refine w_assign rfl rfl ?_
 refine ws_nil ?_
 refine wc_seq ?_
 refine wc_block ?_
 refine wc_loop (σ := Unit) (fun _u => [(0, v0), (8, .int .i64 ((0 : Nat) : Int)), (9, .int .i64 ((0 : Nat) : Int)), (10, .int .i64 ((0 : Nat) : Int))]) (fun _u => [.own v0 104 2 [] 0]) (fun _u => 0) ?_ () (.cons rfl (.cons rfl (.cons rfl (.cons rfl (.nil _))))) (Sel.weak (.cons tk .nil))
 rintro _u
 try dsimp only
 refine wc_seq ?_
 refine wc_seq ?_
 refine wc_text ?_
 refine w_move rfl rfl ?_
 refine w_move rfl rfl ?_
 refine w_lss u3 rfl rfl rfl ?_
 refine ws_nil ?_
 refine wc_cond rfl (fun h3 => ?_) (fun h3 => ?_)
 ·first | replace h3 := dT h3 | replace h3 := dF h3 | replace h3 := dFT h3 | replace h3 := dTF h3 | replace h3 := nb_T h3 | replace h3 := nb_F h3 | skip
  first | replace h3 := nL h3 | replace h3 := nM h3 | replace h3 := nN h3 | skip
  exact absurd h3 (by omega)
 ·skip
  refine wc_exit ?_
  refine wc_seq ?_
  refine wc_text ?_
  refine w_move rfl rfl ?_
  refine w_move rfl rfl ?_
  refine w_move rfl rfl ?_
  refine w_lss u3 rfl rfl rfl ?_
  refine w_move rfl rfl ?_
  refine ws_split (t := 39) rfl (fun g39 => ?_) (fun g39 => ?_)
  ·first | replace g39 := dT g39 | replace g39 := dF g39 | replace g39 := dFT g39 | replace g39 := dTF g39 | replace g39 := nb_T g39 | replace g39 := nb_F g39 | skip
   first | replace g39 := nL g39 | replace g39 := nM g39 | replace g39 := nN g39 | skip
   exact absurd g39 (by decide)
  ·first | replace g39 := dT g39 | replace g39 := dF g39 | replace g39 := dFT g39 | replace g39 := dTF g39 | replace g39 := nb_T g39 | replace g39 := nb_F g39 | skip
   first | replace g39 := nL g39 | replace g39 := nM g39 | replace g39 := nN g39 | skip
   refine ws_off rfl rfl rfl rfl ?_
   refine ws_off rfl rfl rfl rfl ?_
   refine ws_off rfl rfl rfl rfl ?_
   refine ws_off rfl rfl rfl rfl ?_
   refine ws_off rfl rfl rfl rfl ?_
   refine ws_off rfl rfl rfl rfl ?_
   refine ws_off rfl rfl rfl rfl ?_
   refine ws_off rfl rfl rfl rfl ?_
   first | refine w_pickT rfl rfl rfl ⟨_, rfl⟩ ?_ | refine w_pickF rfl rfl ⟨_, rfl⟩ rfl ?_ | refine w_pick rfl rfl rfl rfl ?_
   refine w_assign rfl rfl ?_
   refine w_assign rfl rfl ?_
   refine ws_nil ?_
   refine wc_ret ?_
   refine ⟨_, _, (.cons (.tmp rfl) (.cons (.tmp rfl) .nil)), (Sel.weak (.cons tk .nil)), ?_⟩
   exact ⟨rfl, rfl⟩

theorem search_fn (v0 : AV) (L : List Ser) (set : List LD) (hL : L.length ≤ 1000) (hR : Rising (L.map Ser.abs)) (hS : ∀ x ∈ L, x.set.length ≤ 6) (hset : set.length ≤ 9223372036854775807) (R : List HI) :
    CallW C 77 [v0, AL eL set, .func (.func 78) [] []] (.own v0 104 2 (L.flatMap eOne) L.length :: R) fun v H => v = .tuple [.int .i64 (posS (L.map Ser.abs) set : Nat), .bool (hitS (L.map Ser.abs) set)] ∧ H = .own v0 104 2 (L.flatMap eOne) L.length :: R := by
  refine CallW.openOwn .head (fun h0 _ => ?_) (fun h0 o ho => ?_)
  · obtain rfl : L = [] := List.eq_nil_of_length_eq_zero h0
    refine CallW.mono (search_nil v0 set R) ?_
    rintro v H ⟨H', rfl, rfl, rfl⟩
    exact ⟨rfl, rfl⟩
  · subst ho
    refine CallW.post (search_obj o L set hL hR hS hset R) ?_
    rintro v H ⟨H', rfl, rfl, rfl⟩
    exact ⟨_, weak_close (m := L.length) (flat_length (by intro _; rfl) _), rfl, rfl⟩

theorem ins_end (v0 : AV) (L : List Ser) (x : Ser) (ov : Nat) (hL : L.length ≤ 1000) (R : List HI) : CallW C 42 [v0, .int .i64 (L.length : Nat), .slice (some ⟨ov, 0⟩) 1 (.exact 1)] ([.own v0 104 2 (L.flatMap eOne) L.length, .obj ov (.row 104 2 false (eOne x))] ++ R) fun v H => ∃ H', H = H' ++ R ∧ H' = [.own v 104 2 ((L ++ [x]).flatMap eOne) (L ++ [x]).length] := by
 refine cw_sharedA (fn := Tryz.f42) rfl rfl rfl rfl (K := fun v H' => H' = [.own v 104 2 ((L ++ [x]).flatMap eOne) (L ++ [x]).length]) ?_ R
 refine wc_seq ?_
 refine wc_text ?_
 refine w_assign rfl rfl ?_
 refine ws_nil ?_
 refine wc_seq ?_
 refine wc_text ?_
 refine w_move rfl rfl ?_
 refine w_move rfl rfl ?_
 refine w_sliceAny (i := L.length) u90 s104 rfl rfl rfl rfl rfl (Nat.le_refl _) tk (fun v12 => ?_)
 refine ws_nil ?_
 refine wc_seq ?_
 refine wc_text ?_
 refine w_move rfl rfl ?_
 first | refine w_len rfl rfl (len_lst u90) ?_ | refine w_len rfl rfl (len_slice u90) ?_ | refine w_lenO rfl u90 rfl rfl tk ?_
 refine w_assign rfl rfl ?_
 refine ws_nil ?_
 refine wc_seq ?_
 refine wc_seq ?_
 refine wc_text ?_
 refine w_move rfl rfl ?_
 refine w_eql u3 rfl rfl rfl ?_
 refine ws_nil ?_
 refine wc_cond rfl (fun h3 => ?_) (fun h3 => ?_)
 ·first | replace h3 := dT h3 | replace h3 := dF h3 | replace h3 := dFT h3 | replace h3 := dTF h3 | replace h3 := nb_T h3 | replace h3 := nb_F h3 | skip
  first | replace h3 := nL h3 | replace h3 := nM h3 | replace h3 := nN h3 | skip
  exact absurd h3 (by decide)
 ·skip
  refine wc_stay ?_
  refine wc_seq ?_
  refine wc_text ?_
  refine w_move rfl rfl ?_
  first | refine w_len rfl rfl (len_lst u90) ?_ | refine w_len rfl rfl (len_slice u90) ?_ | refine w_lenO rfl u90 rfl rfl tk ?_
  refine w_assign rfl rfl ?_
  refine ws_nil ?_
  refine wc_seq ?_
  refine wc_seq ?_
  refine wc_text ?_
  refine w_move rfl rfl ?_
  refine w_move rfl rfl ?_
  refine w_eql u3 rfl rfl rfl ?_
  refine ws_nil ?_
  refine wc_cond rfl (fun h6 => ?_) (fun h6 => ?_)
  ·skip
   refine wc_seq ?_
   refine wc_text ?_
   refine w_move rfl rfl ?_
   refine w_move rfl rfl ?_
   refine w_appO (enc := eOne) (l := L) (m := [x]) rfl u90 s104 b104 z104 u90 (by simp) rfl rfl rfl tk nw bg bg (fun v25 => ?_)
   refine w_assign rfl rfl ?_
   refine ws_nil ?_
   refine wc_ret ?_
   refine ⟨_, _, (.cons (.tmp rfl) .nil), (Sel.weak (.cons tk .nil)), ?_⟩
   rfl
  ·first | replace h6 := dT h6 | replace h6 := dF h6 | replace h6 := dFT h6 | replace h6 := dTF h6 | replace h6 := nb_T h6 | replace h6 := nb_F h6 | skip
   first | replace h6 := nL h6 | replace h6 := nM h6 | replace h6 := nN h6 | skip
   exact absurd rfl h6

theorem ins_grow (o : Nat) (L : List Ser) (x : Ser) (ov i c : Nat) (hL : L.length ≤ 1000) (hi : i < L.length) (hc1 : L.length ≤ c) (hc2 : c < L.length + 1) (R : List HI) : CallW C 42 [.slice (some ⟨o, 0⟩) L.length (.exact c), .int .i64 (i : Nat), .slice (some ⟨ov, 0⟩) 1 (.exact 1)] ([.obj o (.row 104 2 false (L.flatMap eOne)), .obj ov (.row 104 2 false (eOne x))] ++ R) fun v H => ∃ H', H = H' ++ R ∧ H' = [.own v 104 2 ((insA L i x).flatMap eOne) (L.length + 1)] := by
 refine cw_sharedA (fn := Tryz.f42) rfl rfl rfl rfl (K := fun v H' => H' = [.own v 104 2 ((insA L i x).flatMap eOne) (L.length + 1)]) ?_ R
 refine wc_seq ?_
 refine wc_text ?_
 refine w_assign rfl rfl ?_
 refine ws_nil ?_
 refine wc_seq ?_
 refine wc_text ?_
 refine w_move rfl rfl ?_
 refine w_move rfl rfl ?_
 refine w_slice rfl rfl rfl rfl rfl (slice_ex (i := i) (j := L.length) u90 s104 (by rfl) (by rfl) (by omega) (by omega)) ?_
 refine ws_nil ?_
 refine wc_seq ?_
 refine wc_text ?_
 refine w_move rfl rfl ?_
 first | refine w_len rfl rfl (len_lst u90) ?_ | refine w_len rfl rfl (len_slice u90) ?_ | refine w_lenO rfl u90 rfl rfl tk ?_
 refine w_assign rfl rfl ?_
 refine ws_nil ?_
 refine wc_seq ?_
 refine wc_seq ?_
 refine wc_text ?_
 refine w_move rfl rfl ?_
 refine w_eql u3 rfl rfl rfl ?_
 refine ws_nil ?_
 refine wc_cond rfl (fun h3 => ?_) (fun h3 => ?_)
 ·first | replace h3 := dT h3 | replace h3 := dF h3 | replace h3 := dFT h3 | replace h3 := dTF h3 | replace h3 := nb_T h3 | replace h3 := nb_F h3 | skip
  first | replace h3 := nL h3 | replace h3 := nM h3 | replace h3 := nN h3 | skip
  exact absurd h3 (by decide)
 ·skip
  refine wc_stay ?_
  refine wc_seq ?_
  refine wc_text ?_
  refine w_move rfl rfl ?_
  first | refine w_len rfl rfl (len_lst u90) ?_ | refine w_len rfl rfl (len_slice u90) ?_ | refine w_lenO rfl u90 rfl rfl tk ?_
  refine w_assign rfl rfl ?_
  refine ws_nil ?_
  refine wc_seq ?_
  refine wc_seq ?_
  refine wc_text ?_
  refine w_move rfl rfl ?_
  refine w_move rfl rfl ?_
  refine w_eql u3 rfl rfl rfl ?_
  refine ws_nil ?_
  refine wc_cond rfl (fun h6 => ?_) (fun h6 => ?_)
  ·first | replace h6 := dT h6 | replace h6 := dF h6 | replace h6 := dFT h6 | replace h6 := dTF h6 | replace h6 := nb_T h6 | replace h6 := nb_F h6 | skip
   first | replace h6 := nL h6 | replace h6 := nM h6 | replace h6 := nN h6 | skip
   exact absurd h6 (by omega)
  ·skip
   refine wc_stay ?_
   refine wc_seq ?_
   refine wc_seq ?_
   refine wc_text ?_
   refine w_move rfl rfl ?_
   refine w_move rfl rfl ?_
   refine w_add u3 rfl rfl rfl (by omega) ?_
   refine w_move rfl rfl ?_
   refine w_cap rfl u90 rfl rfl rfl ?_
   refine w_gtr u3 rfl rfl rfl ?_
   refine ws_nil ?_
   refine wc_cond rfl (fun h8 => ?_) (fun h8 => ?_)
   ·skip
    refine wc_seq ?_
    refine wc_text ?_
    refine w_move rfl rfl ?_
    refine w_move rfl rfl ?_
    refine w_slice rfl rfl rfl rfl rfl (slice_ex0 (j := i) u90 s104 (by rfl) (by omega)) ?_
    refine w_move rfl rfl ?_
    refine w_move rfl rfl ?_
    refine w_add u3 rfl rfl rfl (by omega) ?_
    refine w_move rfl rfl ?_
    refine w_sub u3 rfl rfl rfl (by omega) ?_
    rw [show ((L.length : Int) + ((1 : Nat) : Int) - (i : Int)) = ((L.length + 1 - i : Nat) : Int) by omega]
    refine w_appXZ (j := L.length + 1 - i) (old := (L.take i).flatMap eOne) rfl u90 s104 b104 z104 u3 rfl rfl rfl tk (slots_take (by intro _; rfl) (by omega)) (by omega) (by omega) (by unfold bigBy; omega) (by unfold bigBy; omega) (by unfold bigBy; omega) (by unfold bigBy; omega) (fun o40 => ?_)
    rw [show i + (L.length + 1 - i) = L.length + 1 by omega]
    refine w_assign rfl rfl ?_
    refine ws_nil ?_
    refine wc_seq ?_
    refine wc_text ?_
    refine w_move rfl rfl ?_
    refine w_move rfl rfl ?_
    refine w_slice rfl rfl rfl rfl rfl (slice_op (i := i) (j := L.length + 1) u90 s104 (by rfl) (by rfl) (by omega) (by omega)) ?_
    refine w_move rfl rfl ?_
    refine w_copyAt rfl u90 s104 (by intro q hq; cases hq; rfl) rfl rfl tk nw (by decide) (over_ins1 (s := 2) (q := L.length - i) (x := x) (by intro _; rfl) rfl (by omega) (by omega) (by omega) (by rw [Nat.min_eq_left (by omega)]; rfl)) ?_
    refine ws_nil ?_
    refine wc_seq ?_
    refine wc_free [0, 0, 0, 6, 15, 0, 0, 96, 255] (by kernel_rfl) (by kernel_rfl) (fun F => ?_)
    refine wr_float F 0 rfl (by kernel_rfl) (.inl (by kernel_rfl)) ?_
    refine w_move rfl rfl ?_
    refine ws_nil ?_
    refine wr_float F 1 rfl (by kernel_rfl) (.inl (by kernel_rfl)) ?_
    refine w_move rfl rfl ?_
    refine ws_nil ?_
    refine wr_float F 2 rfl (by kernel_rfl) (.inl (by kernel_rfl)) ?_
    refine w_move rfl rfl ?_
    refine ws_nil ?_
    refine wr_float F 3 rfl (by kernel_rfl) (.inl (by kernel_rfl)) ?_
    refine w_add u3 rfl rfl rfl (by omega) ?_
    refine ws_nil ?_
    refine wr_float F 5 rfl (by kernel_rfl) (.inl (by kernel_rfl)) ?_
    refine w_move rfl rfl ?_
    refine ws_nil ?_
    refine wr_float F 6 rfl (by kernel_rfl) (.inl (by kernel_rfl)) ?_
    refine w_move rfl rfl ?_
    refine ws_nil ?_
    refine wr_next F (l := [4, 7]) (by kernel_rfl) (by simp) (.cons rfl ?_ (.cons rfl ?_ (.nil)))
    ·skip
     refine w_slice rfl rfl rfl rfl rfl (slice_op (i := i + 1) (j := L.length + 1) u90 s104 (by rfl) (by rfl) (by omega) (by omega)) ?_
     refine ws_nil ?_
     refine wr_next F (l := [7]) (by kernel_rfl) (by simp) (.cons rfl ?_ (.nil))
     refine w_slice rfl rfl rfl rfl rfl (slice_ex (i := i) (j := L.length) u90 s104 (by rfl) (by rfl) (by omega) (by omega)) ?_
     refine ws_nil ?_
     refine wr_next F (l := [8]) (by kernel_rfl) (by simp) (.cons rfl ?_ (.nil))
     refine w_copyAt rfl u90 s104 (by intro q hq; cases hq; rfl) rfl rfl tk (new_at (HF := _) (by first | exact .tail .head | exact .tail (.tail .head) | exact .tail (.tail (.tail .head)) | exact .head) (slots_drop (i := i) (by intro _; rfl) (by omega) rfl (by omega)) (flat_scalar (by intro _; rfl) _) (by decide)) (by decide) (over_ins2 (s := 2) (x := x) (by intro _; rfl) rfl (by omega) (by omega) rfl (by rw [Nat.min_eq_left (by omega), List.take_of_length_le (by rw [flat_length (s := 2) (by intro _; rfl), List.length_drop]; exact Nat.le_refl _)])) ?_
     refine ws_nil ?_
     refine wr_end F (by kernel_rfl) ?_
     refine WC.closeOwn (m := L.length + 1) (o := o40) tk (by rw [flat_length (s := 2) (by intro _; rfl), ins_len x (by omega)]) ?_
     refine wc_seq ?_
     refine wc_text ?_
     refine w_move rfl rfl ?_
     refine w_assign rfl rfl ?_
     refine ws_nil ?_
     refine wc_ret ?_
     refine ⟨_, _, (.cons (.tmp rfl) .nil), (Sel.weak (.cons tk .nil)), ?_⟩
     rfl
    ·skip
     refine w_slice rfl rfl rfl rfl rfl (slice_ex (i := i) (j := L.length) u90 s104 (by rfl) (by rfl) (by omega) (by omega)) ?_
     refine ws_nil ?_
     refine wr_next F (l := [4]) (by kernel_rfl) (by simp) (.cons rfl ?_ (.nil))
     refine w_slice rfl rfl rfl rfl rfl (slice_op (i := i + 1) (j := L.length + 1) u90 s104 (by rfl) (by rfl) (by omega) (by omega)) ?_
     refine ws_nil ?_
     refine wr_next F (l := [8]) (by kernel_rfl) (by simp) (.cons rfl ?_ (.nil))
     refine w_copyAt rfl u90 s104 (by intro q hq; cases hq; rfl) rfl rfl tk (new_at (HF := _) (by first | exact .tail .head | exact .tail (.tail .head) | exact .tail (.tail (.tail .head)) | exact .head) (slots_drop (i := i) (by intro _; rfl) (by omega) rfl (by omega)) (flat_scalar (by intro _; rfl) _) (by decide)) (by decide) (over_ins2 (s := 2) (x := x) (by intro _; rfl) rfl (by omega) (by omega) rfl (by rw [Nat.min_eq_left (by omega), List.take_of_length_le (by rw [flat_length (s := 2) (by intro _; rfl), List.length_drop]; exact Nat.le_refl _)])) ?_
     refine ws_nil ?_
     refine wr_end F (by kernel_rfl) ?_
     refine WC.closeOwn (m := L.length + 1) (o := o40) tk (by rw [flat_length (s := 2) (by intro _; rfl), ins_len x (by omega)]) ?_
     refine wc_seq ?_
     refine wc_text ?_
     refine w_move rfl rfl ?_
     refine w_assign rfl rfl ?_
     refine ws_nil ?_
     refine wc_ret ?_
     refine ⟨_, _, (.cons (.tmp rfl) .nil), (Sel.weak (.cons tk .nil)), ?_⟩
     rfl
   ·first | replace h8 := dT h8 | replace h8 := dF h8 | replace h8 := dFT h8 | replace h8 := dTF h8 | replace h8 := nb_T h8 | replace h8 := nb_F h8 | skip
    first | replace h8 := nL h8 | replace h8 := nM h8 | replace h8 := nN h8 | skip
    exact absurd h8 (by omega)

theorem ins_fn (v0 : AV) (L : List Ser) (x : Ser) (ov i : Nat) (hL : L.length ≤ 1000) (hi : i ≤ L.length) (R : List HI) : CallW C 42 [v0, .int .i64 (i : Nat), .slice (some ⟨ov, 0⟩) 1 (.exact 1)] (.own v0 104 2 (L.flatMap eOne) L.length :: .obj ov (.row 104 2 false (eOne x)) :: R) fun v H => H = .own v 104 2 ((insA L i x).flatMap eOne) (L.length + 1) :: R := by
  by_cases he : i = L.length
  · subst he
    refine CallW.mono (ins_end v0 L x ov hL R) ?_
    rintro v H ⟨H', rfl, rfl⟩
    unfold insA
    rw [List.take_length, List.drop_length, List.length_append]; rfl
  · refine CallW.openOwn .head (fun h0 _ => by omega) (fun h0 o ho => ?_)
    subst ho
    refine CallW.mono (insert_cw (C := C) (f := 42) (fn := Tryz.f42) rfl rfl rfl (k := 2) (e := 104) (by decide) (by decide) (fun b off m c i vb voff vc cs vs w a1 a2 a3 a4 a5 a6 a7 a8 a9 b1 b2 b3 tA tB kA kB b4 b5 b6 b7 b8 => Tryz.insert_one b off m c i vb voff vc cs vs w a1 a2 a3 a4 a5 a6 a7 a8 a9 b1 b2 b3 tA tB kA kB b4 b5 b6 b7 b8) (i := i) (m := L.length) (cells := L.flatMap eOne) (vcells := eOne x) (by omega) (by omega) (flat_length (by intro _; rfl) _) rfl ?_) ?_
    · intro c hc1 hc2
      refine CallW.mono (ins_grow o L x ov i c hL (by omega) hc1 hc2 R) ?_
      rintro v H ⟨H', rfl, rfl⟩
      rw [ins_cells (by intro _; rfl)]; rfl
    · rintro v H rfl
      rw [ins_cells (by intro _; rfl)]
end Go.Proofs.YtlgofplbbmjdjaaGreatDoor.kx
