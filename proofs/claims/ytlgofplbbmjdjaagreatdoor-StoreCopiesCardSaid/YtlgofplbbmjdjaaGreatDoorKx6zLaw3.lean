/-
  The program walked by facts (printed by kx.py).
-/
import Derived.Test.YtlgofplbbmjdjaaGreatDoorKx6zBase
import Derived.Test.YtlgofplbbmjdjaaGreatDoorKx6zKeep
import Derived.Test.YtlgofplbbmjdjaaGreatDoorKxCp
namespace Go.Proofs.YtlgofplbbmjdjaaGreatDoor.kx
open Go Go.Proofs Go.Proofs.YtlgofplbbmjdjaaGreatDoor.BH
open Go.Proofs.YtlgofplbbmjdjaaGreatDoor.BH.Rt
open Go.Proofs.YtlgofplbbmjdjaaGreatDoor.BH.Dk (withinV withinV_in)
open Go.Proofs.YtlgofplbbmjdjaaGreatDoor.BH.Kx
set_option maxRecDepth 100000
theorem cmp1_ob (os : Nat) (x : Ser) (set : List LD) (h1 : x.set.length ≤ 6) (h2 : set.length ≤ 9223372036854775807) (R : List HI) : CallW C 78 [.agg (eOne x), .slice (some ⟨os, 0⟩) set.length (.op 0)] ([.obj os (.row 42 2 false (set.flatMap eL))] ++ R) fun v H => ∃ H', H = H' ++ R ∧ (v = .int .i64 (compL x.set set) ∧ H' = [.obj os (.row 42 2 false (set.flatMap eL))]) := by
 refine cw_sharedA (fn := Tryz.f78) rfl rfl rfl rfl (K := fun v H' => (v = .int .i64 (compL x.set set) ∧ H' = [.obj os (.row 42 2 false (set.flatMap eL))])) ?_ R
 refine wc_seq ?_
 refine wc_text ?_
 refine w_box (cs := eOne x) s104 rfl rfl rfl rfl rfl (fun o2 => ?_)
 refine w_assign rfl rfl ?_
 refine ws_nil ?_
 refine wc_seq ?_
 refine wc_text ?_
 first | refine w_faddrC O104_0 rfl rfl ?_ | refine w_faddrP O104_0 rfl rfl ?_
 first | refine w_ldC1 a43 rfl rfl rdc ?_ | refine w_ldP1 a43 rfl rfl tk rdp ?_
 refine w_move rfl rfl ?_
 refine w_call rfl rfl (cw_fn rfl rfl (.cons fz (.cons (.objV rfl tk (flat_length (by intro _; rfl) _) (flat_done (by intro _; rfl) _)) .nil)) (compare_fn x.set set (by omega) h2) ?_)
 refine w_assign rfl rfl ?_
 refine ws_nil ?_
 refine wc_ret ?_
 refine ⟨_, [.obj os (.row 42 2 false (set.flatMap eL))], (.cons (.tmp rfl) .nil), (Sel.weak (.cons tk .nil)), ?_⟩
 exact ⟨rfl, rfl⟩

theorem search_ob (os : Nat) (o : Nat) (L : List Ser) (set : List LD) (hL : L.length ≤ 1000) (hR : Rising (L.map Ser.abs)) (hS : ∀ x ∈ L, x.set.length ≤ 6) (hset : set.length ≤ 9223372036854775807) (R : List HI) : CallW C 77 [.slice (some ⟨o, 0⟩) L.length (.op 0), .slice (some ⟨os, 0⟩) set.length (.op 0), .func (.func 78) [] []] ([.obj o (.row 104 2 false (L.flatMap eOne)), .obj os (.row 42 2 false (set.flatMap eL))] ++ R) fun v H => ∃ H', H = H' ++ R ∧ (v = .tuple [.int .i64 (posS (L.map Ser.abs) set : Nat), .bool (hitS (L.map Ser.abs) set)] ∧ H' = [.obj o (.row 104 2 false (L.flatMap eOne)), .obj os (.row 42 2 false (set.flatMap eL))]) := by
 refine cw_sharedA (fn := Tryz.f77) rfl rfl rfl rfl (K := fun v H' => (v = .tuple [.int .i64 (posS (L.map Ser.abs) set : Nat), .bool (hitS (L.map Ser.abs) set)] ∧ H' = [.obj o (.row 104 2 false (L.flatMap eOne)), .obj os (.row 42 2 false (set.flatMap eL))])) ?_ R
 have hml : (L.map Ser.abs).length = L.length := List.length_map _
 refine wc_seq ?_
 refine wc_text ?_
 refine w_assign rfl rfl ?_
 refine w_assign rfl rfl ?_
 refine ws_nil ?_
 refine wc_seq ?_
 refine wc_text ?_
 refine w_move rfl rfl ?_
 first | refine w_len rfl rfl (len_lst u90) ?_ | refine w_len rfl rfl (len_slice u90) ?_ | refine w_lenO rfl u90 rfl rfl tk ?_
 refine w_assign rfl rfl ?_
 refine ws_nil ?_
 refine wc_seq ?_
 refine wc_text ?_
 refine w_move rfl rfl ?_
 refine w_assign rfl rfl ?_
 refine w_assign rfl rfl ?_
 refine ws_nil ?_
 refine wc_seq ?_
 refine wc_block ?_
 refine wc_loop (σ := { u : Nat × Nat // u.1 ≤ u.2 ∧ u.2 ≤ L.length ∧ (∀ y ∈ (L.map Ser.abs).take u.1, compL y.1 set < 0) ∧ (∀ y ∈ (L.map Ser.abs).drop u.2, ¬ compL y.1 set < 0) }) (fun u => [(0, .slice (some ⟨o, 0⟩) L.length (.op 0)), (1, .slice (some ⟨os, 0⟩) set.length (.op 0)), (2, .func (.func 78) [] []), (8, .int .i64 (L.length : Nat)), (9, .int .i64 (u.1.1 : Nat)), (10, .int .i64 (u.1.2 : Nat))]) (fun u => [.obj o (.row 104 2 false (L.flatMap eOne)), .obj os (.row 42 2 false (set.flatMap eL))]) (fun u => u.1.2 - u.1.1) ?_ ⟨(0, L.length), Nat.zero_le _, Nat.le_refl _, by simp, by simp only; rw [List.drop_eq_nil_of_le (by omega)]; simp⟩ (.cons rfl (.cons rfl (.cons rfl (.cons rfl (.cons rfl (.cons rfl (.nil _))))))) (Sel.weak (.cons tk (.cons tk .nil)))
 rintro ⟨⟨i, j⟩, hij, hj, hlo, hhi⟩
 try dsimp only
 simp only at hij hj hlo hhi
 refine wc_seq ?_
 refine wc_seq ?_
 refine wc_text ?_
 refine w_move rfl rfl ?_
 refine w_move rfl rfl ?_
 refine w_lss u3 rfl rfl rfl ?_
 refine ws_nil ?_
 refine wc_cond rfl (fun h3 => ?_) (fun h3 => ?_)
 ·replace h3 := of_decide_eq_true h3
  refine wc_stay ?_
  refine wc_block ?_
  refine wc_seq ?_
  refine wc_text ?_
  obtain ⟨x, hx⟩ := get_of_lt (l := L) (k := (i + j) / 2) (by omega)
  refine w_move rfl rfl ?_
  refine w_move rfl rfl ?_
  refine w_add u3 rfl rfl rfl (by omega) ?_
  refine w_conv rfl rfl (conv_int u3 u154) ?_
  refine w_bin (v := .int .u64 (((i + j) / 2 : Nat) : Int)) rfl rfl rfl (shr_half u154 (by omega)) ?_
  refine w_conv rfl rfl (conv_int u154 u3) ?_
  rw [wrap_half (by omega)]
  refine w_assign rfl rfl ?_
  refine ws_nil ?_
  refine wc_seq ?_
  refine wc_text ?_
  
  refine w_move rfl rfl ?_
  refine w_move rfl rfl ?_
  refine w_move rfl rfl ?_
  first | refine w_lidx u90 s104 rfl rfl rfl (by omega) ?_ | refine w_slidx u90 s104 rfl rfl rfl (by omega) ?_
  first | refine w_ldC a104 s104 rfl rfl agc ?_ | refine w_ldP a104 s104 rfl rfl tk agp ?_
  refine w_move rfl rfl ?_
  refine w_callVX (l' := [.agg (eOne x), .slice (some ⟨os, 0⟩) set.length (.op 0)]) rfl rfl rfl rfl (CallW.mono (CallW.take tk (cmp1_ob os x set (hS x (List.mem_of_getElem? hx)) hset _)) ?_)
  rintro _ _ ⟨_, rfl, rfl, rfl⟩
  try simp only [List.cons_append, List.nil_append]
  refine w_lss u3 rfl rfl rfl ?_
  refine ws_nil ?_
  refine wc_cond rfl (fun h5 => ?_) (fun h5 => ?_)
  ·replace h5 := of_decide_eq_true h5
   refine wc_text ?_
   refine w_move rfl rfl ?_
   refine w_add u3 rfl rfl rfl (by omega) ?_
   refine w_assign rfl rfl ?_
   refine ws_nil ?_
   exact ⟨⟨((i + j) / 2 + 1, j), by simp only; omega, hj, half_low hR (map_get hx) h5, hhi⟩, by simp only; omega, (.cons rfl (.cons rfl (.cons rfl (.cons rfl (.cons rfl (.cons rfl (.nil _))))))), (Sel.weak (.cons tk (.cons tk .nil)))⟩
  ·replace h5 := of_decide_eq_false h5
   refine wc_text ?_
   refine w_move rfl rfl ?_
   refine w_assign rfl rfl ?_
   refine ws_nil ?_
   exact ⟨⟨(i, (i + j) / 2), by simp only; omega, by simp only; omega, hlo, half_high hR (map_get hx) h5⟩, by simp only; omega, (.cons rfl (.cons rfl (.cons rfl (.cons rfl (.cons rfl (.cons rfl (.nil _))))))), (Sel.weak (.cons tk (.cons tk .nil)))⟩
 ·replace h3 := of_decide_eq_false h3
  obtain rfl : i = j := by omega
  have hpos := pos_of (by omega) hlo hhi
  refine wc_exit ?_
  refine wc_seq ?_
  refine wc_text ?_
  refine w_move rfl rfl ?_
  refine w_move rfl rfl ?_
  refine w_move rfl rfl ?_
  refine w_lss u3 rfl rfl rfl ?_
  refine w_move rfl rfl ?_
  refine ws_split (t := 39) rfl (fun g39 => ?_) (fun g39 => ?_)
  ·first | replace g39 := dT g39 | replace g39 := dF g39 | replace g39 := dFT g39 | replace g39 := dTF g39 | replace g39 := nb_T g39 | replace g39 := nb_F g39 | skip
   first | replace g39 := nL g39 | replace g39 := nM g39 | replace g39 := nN g39 | skip
   obtain ⟨x, hx⟩ := get_of_lt (l := L) (k := i) (by omega)
   refine ws_on rfl rfl ?_
   refine w_move rfl rfl ?_
   refine ws_on rfl rfl ?_
   refine w_move rfl rfl ?_
   refine ws_on rfl rfl ?_
   refine w_move rfl rfl ?_
   refine ws_on rfl rfl ?_
   first | refine w_lidx u90 s104 rfl rfl rfl (by omega) ?_ | refine w_slidx u90 s104 rfl rfl rfl (by omega) ?_
   refine ws_on rfl rfl ?_
   first | refine w_ldC a104 s104 rfl rfl agc ?_ | refine w_ldP a104 s104 rfl rfl tk agp ?_
   refine ws_on rfl rfl ?_
   refine w_move rfl rfl ?_
   refine ws_on rfl rfl ?_
   refine w_callVX (l' := [.agg (eOne x), .slice (some ⟨os, 0⟩) set.length (.op 0)]) rfl rfl rfl rfl (CallW.mono (CallW.take tk (cmp1_ob os x set (hS x (List.mem_of_getElem? hx)) hset _)) ?_)
   rintro _ _ ⟨_, rfl, rfl, rfl⟩
   try simp only [List.cons_append, List.nil_append]
   refine ws_on rfl rfl ?_
   refine w_eql u3 rfl rfl rfl ?_
   first | refine w_pickT rfl rfl rfl ⟨_, rfl⟩ ?_ | refine w_pickF rfl rfl ⟨_, rfl⟩ rfl ?_ | refine w_pick rfl rfl rfl rfl ?_
   refine w_assign rfl rfl ?_
   refine w_assign rfl rfl ?_
   refine ws_nil ?_
   refine wc_ret ?_
   refine ⟨_, [.obj o (.row 104 2 false (L.flatMap eOne)), .obj os (.row 42 2 false (set.flatMap eL))], (.cons (.tmp rfl) (.cons (.tmp rfl) .nil)), (Sel.weak (.cons tk (.cons tk .nil))), ?_⟩
   first | exact ⟨by rw [hpos, hit_of hpos (map_get hx)]; rfl, rfl⟩ | exact ⟨by rw [hit_none (by omega), hpos]; rfl, rfl⟩
  ·first | replace g39 := dT g39 | replace g39 := dF g39 | replace g39 := dFT g39 | replace g39 := dTF g39 | replace g39 := nb_T g39 | replace g39 := nb_F g39 | skip
   first | replace g39 := nL g39 | replace g39 := nM g39 | replace g39 := nN g39 | skip
   refine ws_off rfl rfl rfl rfl ?_
   refine ws_off rfl rfl rfl rfl ?_
   refine ws_off rfl rfl rfl rfl ?_
   refine ws_off rfl rfl rfl rfl ?_
   refine ws_off rfl rfl rfl rfl ?_
   refine ws_off rfl rfl rfl rfl ?_
   refine ws_off rfl rfl rfl rfl ?_
   refine ws_off rfl rfl rfl rfl ?_
   first | refine w_pickT rfl rfl rfl ⟨_, rfl⟩ ?_ | refine w_pickF rfl rfl ⟨_, rfl⟩ rfl ?_ | refine w_pick rfl rfl rfl rfl ?_
   refine w_assign rfl rfl ?_
   refine w_assign rfl rfl ?_
   refine ws_nil ?_
   refine wc_ret ?_
   refine ⟨_, [.obj o (.row 104 2 false (L.flatMap eOne)), .obj os (.row 42 2 false (set.flatMap eL))], (.cons (.tmp rfl) (.cons (.tmp rfl) .nil)), (Sel.weak (.cons tk (.cons tk .nil))), ?_⟩
   first | exact ⟨by rw [hpos, hit_of hpos (map_get hx)]; rfl, rfl⟩ | exact ⟨by rw [hit_none (by omega), hpos]; rfl, rfl⟩

theorem search_nilob (os : Nat) (v0 : AV) (set : List LD) (R : List HI) : CallW C 77 [v0, .slice (some ⟨os, 0⟩) set.length (.op 0), .func (.func 78) [] []] ([.own v0 104 2 [] 0] ++ R) fun v H => ∃ H', H = H' ++ R ∧ (v = .tuple [.int .i64 ((0 : Nat) : Int), .bool false] ∧ H' = [.own v0 104 2 [] 0]) := by
 refine cw_sharedA (fn := Tryz.f77) rfl rfl rfl rfl (K := fun v H' => (v = .tuple [.int .i64 ((0 : Nat) : Int), .bool false] ∧ H' = [.own v0 104 2 [] 0])) ?_ R
 refine wc_seq ?_
 refine wc_text ?_
 refine w_assign rfl rfl ?_
 refine w_assign rfl rfl ?_
 refine ws_nil ?_
 refine wc_seq ?_
 refine wc_text ?_
 refine w_move rfl rfl ?_
 first | refine w_len rfl rfl (len_lst u90) ?_ | refine w_len rfl rfl (len_slice u90) ?_ | refine w_lenO rfl u90 rfl rfl tk ?_
 refine w_assign rfl rfl ?_
 refine ws_nil ?_
 refine wc_seq ?_
 refine wc_text ?_
 refine w_move rfl rfl ?_
 refine w_assign rfl rfl ?_
 refine w_assign rfl rfl ?_
 refine ws_nil ?_
 refine wc_seq ?_
 refine wc_block ?_
 refine wc_loop (σ := Unit) (fun _u => [(0, v0), (8, .int .i64 ((0 : Nat) : Int)), (9, .int .i64 ((0 : Nat) : Int)), (10, .int .i64 ((0 : Nat) : Int))]) (fun _u => [.own v0 104 2 [] 0]) (fun _u => 0) ?_ () (.cons rfl (.cons rfl (.cons rfl (.cons rfl (.nil _))))) (Sel.weak (.cons tk .nil))
 rintro _u
 try dsimp only
 refine wc_seq ?_
 refine wc_seq ?_
 refine wc_text ?_
 refine w_move rfl rfl ?_
 refine w_move rfl rfl ?_
 refine w_lss u3 rfl rfl rfl ?_
 refine ws_nil ?_
 refine wc_cond rfl (fun h3 => ?_) (fun h3 => ?_)
 ·first | replace h3 := dT h3 | replace h3 := dF h3 | replace h3 := dFT h3 | replace h3 := dTF h3 | replace h3 := nb_T h3 | replace h3 := nb_F h3 | skip
  first | replace h3 := nL h3 | replace h3 := nM h3 | replace h3 := nN h3 | skip
  exact absurd h3 (by omega)
 ·skip
  refine wc_exit ?_
  refine wc_seq ?_
  refine wc_text ?_
  refine w_move rfl rfl ?_
  refine w_move rfl rfl ?_
  refine w_move rfl rfl ?_
  refine w_lss u3 rfl rfl rfl ?_
  refine w_move rfl rfl ?_
  refine ws_split (t := 39) rfl (fun g39 => ?_) (fun g39 => ?_)
  ·first | replace g39 := dT g39 | replace g39 := dF g39 | replace g39 := dFT g39 | replace g39 := dTF g39 | replace g39 := nb_T g39 | replace g39 := nb_F g39 | skip
   first | replace g39 := nL g39 | replace g39 := nM g39 | replace g39 := nN g39 | skip
   exact absurd g39 (by decide)
  ·first | replace g39 := dT g39 | replace g39 := dF g39 | replace g39 := dFT g39 | replace g39 := dTF g39 | replace g39 := nb_T g39 | replace g39 := nb_F g39 | skip
   first | replace g39 := nL g39 | replace g39 := nM g39 | replace g39 := nN g39 | skip
   refine ws_off rfl rfl rfl rfl ?_
   refine ws_off rfl rfl rfl rfl ?_
   refine ws_off rfl rfl rfl rfl ?_
   refine ws_off rfl rfl rfl rfl ?_
   refine ws_off rfl rfl rfl rfl ?_
   refine ws_off rfl rfl rfl rfl ?_
   refine ws_off rfl rfl rfl rfl ?_
   refine ws_off rfl rfl rfl rfl ?_
   first | refine w_pickT rfl rfl rfl ⟨_, rfl⟩ ?_ | refine w_pickF rfl rfl ⟨_, rfl⟩ rfl ?_ | refine w_pick rfl rfl rfl rfl ?_
   refine w_assign rfl rfl ?_
   refine w_assign rfl rfl ?_
   refine ws_nil ?_
   refine wc_ret ?_
   refine ⟨_, _, (.cons (.tmp rfl) (.cons (.tmp rfl) .nil)), (Sel.weak (.cons tk .nil)), ?_⟩
   exact ⟨rfl, rfl⟩

theorem search_fo (os : Nat) (v0 : AV) (L : List Ser) (set : List LD) (hL : L.length ≤ 1000) (hR : Rising (L.map Ser.abs)) (hS : ∀ x ∈ L, x.set.length ≤ 6) (hset : set.length ≤ 9223372036854775807) (R : List HI) :
    CallW C 77 [v0, .slice (some ⟨os, 0⟩) set.length (.op 0), .func (.func 78) [] []] (.own v0 104 2 (L.flatMap eOne) L.length :: .obj os (.row 42 2 false (set.flatMap eL)) :: R) fun v H => v = .tuple [.int .i64 (posS (L.map Ser.abs) set : Nat), .bool (hitS (L.map Ser.abs) set)] ∧ H = .own v0 104 2 (L.flatMap eOne) L.length :: .obj os (.row 42 2 false (set.flatMap eL)) :: R := by
  refine CallW.openOwn .head (fun h0 _ => ?_) (fun h0 o ho => ?_)
  · obtain rfl : L = [] := List.eq_nil_of_length_eq_zero h0
    refine CallW.mono (search_nilob os v0 set (.obj os (.row 42 2 false (set.flatMap eL)) :: R)) ?_
    rintro v H ⟨H', rfl, rfl, rfl⟩
    exact ⟨rfl, rfl⟩
  · subst ho
    refine CallW.post (search_ob os o L set hL hR hS hset R) ?_
    rintro v H ⟨H', rfl, rfl, rfl⟩
    exact ⟨_, weak_close (m := L.length) (flat_length (by intro _; rfl) _), rfl, rfl⟩

theorem at_ob (os o : Nat) (v0 : AV) (L : List Ser) (set : List LD) (hs : Sane (L.map Ser.abs)) (hset : set.length ≤ 9223372036854775807) (R : List HI) : CallW C 41 [.ptr (some ⟨o, 0⟩), .slice (some ⟨os, 0⟩) set.length (.op 0)] ([.obj o (.row 92 1 false [v0]), .own v0 104 2 (L.flatMap eOne) L.length, .obj os (.row 42 2 false (set.flatMap eL))] ++ R) fun v H => ∃ H', H = H' ++ R ∧ (v = .tuple [.int .i64 (posS (L.map Ser.abs) set : Nat), .bool (hitS (L.map Ser.abs) set)] ∧ H' = [.obj o (.row 92 1 false [v0]), .own v0 104 2 (L.flatMap eOne) L.length, .obj os (.row 42 2 false (set.flatMap eL))]) := by
 refine cw_sharedA (fn := Tryz.f41) rfl rfl rfl rfl (K := fun v H' => (v = .tuple [.int .i64 (posS (L.map Ser.abs) set : Nat), .bool (hitS (L.map Ser.abs) set)] ∧ H' = [.obj o (.row 92 1 false [v0]), .own v0 104 2 (L.flatMap eOne) L.length, .obj os (.row 42 2 false (set.flatMap eL))])) ?_ R
 have hml : (L.map Ser.abs).length = L.length := List.length_map _
 have hL := hs.len
 rw [hml] at hL
 have hS : ∀ x ∈ L, x.set.length ≤ 6 := fun x hx => hs.sets x.abs (List.mem_map_of_mem hx)
 refine wc_seq ?_
 refine wc_text ?_
 refine w_assign rfl rfl ?_
 refine w_assign rfl rfl ?_
 refine ws_nil ?_
 refine wc_seq ?_
 refine wc_text ?_
 refine w_move rfl rfl ?_
 refine w_nil rfl rfl rfl ?_
 first | refine w_faddrC O92_0 rfl rfl ?_ | refine w_faddrP O92_0 rfl rfl ?_
 first | refine w_ldC1 a90 rfl rfl rdc ?_ | refine w_ldP1 a90 rfl rfl tk rdp ?_
 refine w_move rfl rfl ?_
 refine w_call rfl rfl (CallW.mono (CallW.weak (Sel.weak (.cons tk (.cons tk .rest))) (search_fo os v0 L set (by omega) hs.rise hS hset _)) ?_)
 rintro _ _ ⟨rfl, rfl⟩
 try simp only [List.cons_append, List.nil_append]
 refine w_extract rfl rfl rfl ?_
 refine w_extract rfl rfl rfl ?_
 refine w_assign rfl rfl ?_
 refine w_assign rfl rfl ?_
 refine ws_nil ?_
 refine wc_ret ?_
 refine ⟨_, [.obj o (.row 92 1 false [v0]), .own v0 104 2 (L.flatMap eOne) L.length, .obj os (.row 42 2 false (set.flatMap eL))], (.cons (.tmp rfl) (.cons (.tmp rfl) .nil)), (Sel.weak (.cons tk (.cons tk (.cons tk .nil)))), ?_⟩
 exact ⟨rfl, rfl⟩

theorem all_own (o : Nat) (l : List SM) (hl : l.length ≤ 100000) (R : List HI) : CallW C 53 [.ptr (some ⟨o, 0⟩)] ([.obj o (.row 108 1 false [AL eSm l])] ++ R) fun v H => ∃ H', H = H' ++ R ∧ H' = [.own v 46 2 (l.flatMap eSm) l.length, .obj o (.row 108 1 false [AL eSm l])] := by
 refine cw_sharedA (fn := Tryz.f53) rfl rfl rfl rfl (K := fun v H' => H' = [.own v 46 2 (l.flatMap eSm) l.length, .obj o (.row 108 1 false [AL eSm l])]) ?_ R
 refine wc_seq ?_
 refine wc_text ?_
 refine w_assign rfl rfl ?_
 refine ws_nil ?_
 refine wc_seq ?_
 refine wc_text ?_
 refine w_move rfl rfl ?_
 refine w_nil rfl rfl rfl ?_
 first | refine w_faddrC O108_0 rfl rfl ?_ | refine w_faddrP O108_0 rfl rfl ?_
 first | refine w_ldC1 a52 rfl rfl rdc ?_ | refine w_ldP1 a52 rfl rfl tk rdp ?_
 refine w_call rfl rfl (CallW.mono (cloneSm_fn l (by omega) _) ?_)
 rintro v7 _ rfl
 try simp only [List.cons_append, List.nil_append]
 refine w_assign rfl rfl ?_
 refine ws_nil ?_
 refine wc_ret ?_
 refine ⟨_, [.own _ _ _ _ _, .obj o (.row 108 1 false [AL eSm l])], (.cons (.tmp rfl) .nil), (Sel.weak (.cons tk (.cons tk .nil))), ?_⟩
 rfl

theorem take_pre {A R : List HI} {i : HI} (l : List HI) (t : Take A i R) : Take (l ++ A) i (l ++ R) := by
  induction l with
  | nil => exact t
  | cons j r ih => exact .tail ih
theorem take_back {A R : List HI} {i : HI} (t : Take A i R) : Weak (i :: R) A := by
  induction t with
  | head => exact Weak.refl _
  | tail _ ih => exact (weak_two _ _ _).trans (weak_cons _ ih)
theorem smp_out (o : Nat) (v0 : AV) (L : List Ser) (A : HI) (B : List HI) (k ob : Nat) (x : Ser) (hx : L[k]? = some x) : Weak (serI x :: .obj ob (.row 104 2 false (L.flatMap eOne)) :: .obj o (.row 92 1 false [v0]) :: A :: (B ++ (L.eraseIdx k).map serI)) (A :: .obj o (.row 92 1 false [v0]) :: .own (.slice (some ⟨ob, 0⟩) L.length (.op 0)) 104 2 (L.flatMap eOne) L.length :: (B ++ L.map serI)) :=
  (weak_take (.tail (.tail (.tail .head)))).trans (weak_cons _ ((weak_cons _ (weak_two _ _ _)).trans ((weak_two _ _ _).trans (weak_cons _ ((weak_two _ _ _).trans ((weak_cons _ (take_back (take_pre B (take_map hx)))).trans (weak_close (flat_length (by intro _; rfl) _))))))))

set_option maxHeartbeats 4000000 in
theorem samples_in (o : Nat) (v0 : AV) (L : List Ser) (hv0 : L = [] → v0 = nilSlice) (hs : Sane (L.map Ser.abs)) (set : List LD) (hset : set.length ≤ 100000) (R : List HI) : CallW C 20 [.ptr (some ⟨o, 0⟩), AL eL set] ([.obj o (.row 92 1 false [v0]), .own v0 104 2 (L.flatMap eOne) L.length] ++ L.map serI ++ R) fun v H => ∃ H', H = H' ++ R ∧ H' = .own v 46 2 ((samplesV (L.map Ser.abs) set).flatMap eSm) (samplesV (L.map Ser.abs) set).length :: .obj o (.row 92 1 false [v0]) :: .own v0 104 2 (L.flatMap eOne) L.length :: L.map serI := by
 refine cw_sharedA (fn := Tryz.f20) rfl rfl rfl rfl (K := fun v H' => H' = .own v 46 2 ((samplesV (L.map Ser.abs) set).flatMap eSm) (samplesV (L.map Ser.abs) set).length :: .obj o (.row 92 1 false [v0]) :: .own v0 104 2 (L.flatMap eOne) L.length :: L.map serI) ?_ R
 simp only [List.cons_append, List.nil_append]
 have hml : (L.map Ser.abs).length = L.length := List.length_map _
 have hL := hs.len
 rw [hml] at hL
 have hS : ∀ x ∈ L, x.set.length ≤ 6 := fun x hx => hs.sets x.abs (List.mem_map_of_mem hx)
 have hpl := pos_le (L.map Ser.abs) set
 refine wc_seq ?_
 refine wc_text ?_
 refine w_assign rfl rfl ?_
 refine ws_nil ?_
 refine wc_seq ?_
 refine wc_text ?_
 refine w_move rfl rfl ?_
 refine w_move rfl rfl ?_
 refine w_call rfl rfl (CallW.mono (at_in o v0 L set hs (by omega) _) ?_)
 rintro _ _ ⟨_, rfl, rfl, rfl⟩
 try simp only [List.cons_append, List.nil_append]
 refine w_move rfl rfl ?_
 refine w_extract rfl rfl rfl ?_
 refine w_extract rfl rfl rfl ?_
 refine w_assign rfl rfl ?_
 refine w_assign rfl rfl ?_
 refine ws_nil ?_
 refine wc_seq ?_
 refine wc_seq ?_
 refine wc_text ?_
 refine w_move rfl rfl ?_
 refine w_not rfl rfl ?_
 refine w_move rfl rfl ?_
 refine ws_split (t := 15) rfl (fun g15 => ?_) (fun g15 => ?_)
 ·first | replace g15 := dT g15 | replace g15 := dF g15 | replace g15 := dFT g15 | replace g15 := dTF g15 | replace g15 := nb_T g15 | replace g15 := nb_F g15 | skip
  first | replace g15 := nL g15 | replace g15 := nM g15 | replace g15 := nN g15 | skip
  skip
  refine ws_off rfl rfl rfl rfl ?_
  refine ws_off rfl rfl rfl rfl ?_
  refine ws_off rfl rfl rfl rfl ?_
  first | refine w_pickT rfl rfl rfl ⟨_, rfl⟩ ?_ | refine w_pickF rfl rfl ⟨_, rfl⟩ rfl ?_ | refine w_pick rfl rfl rfl rfl ?_
  refine ws_nil ?_
  refine wc_condT rfl ?_
  refine wc_seq ?_
  refine wc_text ?_
  refine w_assign rfl rfl ?_
  refine ws_nil ?_
  refine WC.ownNil 46 2 ?_
  refine WC.weakH (Sel.weak (.cons (i := .own nilSlice 46 _ _ _) tk (.cons (i := .obj o _) tk (.cons (i := .own v0 _ _ _ _) tk .rest)))) ?_
  have hno : samplesV (L.map Ser.abs) set = [] := by
    unfold samplesV
    rw [if_neg (by rintro ⟨h1, h2⟩; simp_all)]
  refine wc_ret ?_
  refine ⟨_, _, (.cons (.tmp rfl) .nil), (Sel.weak .rest), ?_⟩
  rw [hno]; rfl
 ·first | replace g15 := dT g15 | replace g15 := dF g15 | replace g15 := dFT g15 | replace g15 := dTF g15 | replace g15 := nb_T g15 | replace g15 := nb_F g15 | skip
  first | replace g15 := nL g15 | replace g15 := nM g15 | replace g15 := nN g15 | skip
  refine ws_on rfl rfl ?_
  refine w_move rfl rfl ?_
  refine ws_on rfl rfl ?_
  refine w_call rfl rfl (cw_fn rfl rfl (.cons fz .nil) (rightL_fn set (by omega)) ?_)
  refine ws_on rfl rfl ?_
  refine w_not rfl rfl ?_
  first | refine w_pickT rfl rfl rfl ⟨_, rfl⟩ ?_ | refine w_pickF rfl rfl ⟨_, rfl⟩ rfl ?_ | refine w_pick rfl rfl rfl rfl ?_
  refine ws_nil ?_
  refine wc_cond rfl (fun h2 => ?_) (fun h2 => ?_)
  ·skip
   refine wc_seq ?_
   refine wc_text ?_
   refine w_assign rfl rfl ?_
   refine ws_nil ?_
   refine WC.ownNil 46 2 ?_
   refine WC.weakH (Sel.weak (.cons (i := .own nilSlice 46 _ _ _) tk (.cons (i := .obj o _) tk (.cons (i := .own v0 _ _ _ _) tk .rest)))) ?_
   have hno : samplesV (L.map Ser.abs) set = [] := by
     unfold samplesV
     rw [if_neg (by rintro ⟨h1, h2⟩; simp_all)]
   refine wc_ret ?_
   refine ⟨_, _, (.cons (.tmp rfl) .nil), (Sel.weak .rest), ?_⟩
   rw [hno]; rfl
  ·skip
   refine wc_stay ?_
   refine wc_seq ?_
   refine wc_text ?_
   have hplt : posS (L.map Ser.abs) set < L.length := by
     rcases Nat.lt_or_ge (posS (L.map Ser.abs) set) L.length with h | h
     · exact h
     · rw [hit_none (by omega)] at g15; cases g15
   obtain ⟨y, hy⟩ := get_of_lt (l := L) (k := posS (L.map Ser.abs) set) hplt
   have hyl : y.l.length ≤ 200 := hs.lens y.abs (List.mem_map_of_mem (List.mem_of_getElem? hy))
   refine WS.openOwn (v := v0) tk (by omega) (fun o9 ho9 => ?_)
   subst ho9
   refine WS.weakH (weak_pre [_, _] (weak_take (take_map hy))) ?_
   simp only [List.cons_append, List.nil_append]
   refine w_move rfl rfl ?_
   refine w_nil rfl rfl rfl ?_
   first | refine w_faddrC O92_0 rfl rfl ?_ | refine w_faddrP O92_0 rfl rfl ?_
   first | refine w_ldC1 a90 rfl rfl rdc ?_ | refine w_ldP1 a90 rfl rfl tk rdp ?_
   refine w_move rfl rfl ?_
   first | refine w_lidx u90 s104 rfl rfl rfl (by omega) ?_ | refine w_slidx u90 s104 rfl rfl rfl (by omega) ?_
   first | refine w_faddrC O104_1 rfl rfl ?_ | refine w_faddrP O104_1 rfl rfl ?_
   first | refine w_ldC1 a102 rfl rfl rdc ?_ | refine w_ldP1 a102 rfl rfl tk rdp ?_
   refine w_call rfl rfl (CallW.mono (CallW.take tk (all_own y.o y.l (by omega) _)) ?_)
   rintro v28 _ ⟨_, rfl, rfl⟩
   try simp only [List.cons_append, List.nil_append]
   refine w_assign rfl rfl ?_
   refine ws_nil ?_
   refine WC.weakH ((Sel.weak (.cons tk (.cons tk (.cons tk (.cons tk .rest))))).trans (smp_out o _ L (.own v28 46 2 (y.l.flatMap eSm) y.l.length) [] (posS (L.map Ser.abs) set) o9 y hy)) ?_
   have hyes : samplesV (L.map Ser.abs) set = y.l := by
     unfold samplesV
     rw [if_pos (by constructor <;> simp_all), map_get hy]
   refine wc_ret ?_
   refine ⟨_, _, (.cons (.tmp rfl) .nil), (Sel.weak .rest), ?_⟩
   rw [hyes]; rfl

set_option maxHeartbeats 4000000 in
theorem samples_ob (os : Nat) (o : Nat) (v0 : AV) (L : List Ser) (hv0 : L = [] → v0 = nilSlice) (hs : Sane (L.map Ser.abs)) (set : List LD) (hset : set.length ≤ 100000) (R : List HI) : CallW C 20 [.ptr (some ⟨o, 0⟩), .slice (some ⟨os, 0⟩) set.length (.op 0)] ([.obj o (.row 92 1 false [v0]), .own v0 104 2 (L.flatMap eOne) L.length, .obj os (.row 42 2 false (set.flatMap eL))] ++ L.map serI ++ R) fun v H => ∃ H', H = H' ++ R ∧ H' = .own v 46 2 ((samplesV (L.map Ser.abs) set).flatMap eSm) (samplesV (L.map Ser.abs) set).length :: .obj o (.row 92 1 false [v0]) :: .own v0 104 2 (L.flatMap eOne) L.length :: .obj os (.row 42 2 false (set.flatMap eL)) :: L.map serI := by
 refine cw_sharedA (fn := Tryz.f20) rfl rfl rfl rfl (K := fun v H' => H' = .own v 46 2 ((samplesV (L.map Ser.abs) set).flatMap eSm) (samplesV (L.map Ser.abs) set).length :: .obj o (.row 92 1 false [v0]) :: .own v0 104 2 (L.flatMap eOne) L.length :: .obj os (.row 42 2 false (set.flatMap eL)) :: L.map serI) ?_ R
 simp only [List.cons_append, List.nil_append]
 have hml : (L.map Ser.abs).length = L.length := List.length_map _
 have hL := hs.len
 rw [hml] at hL
 have hS : ∀ x ∈ L, x.set.length ≤ 6 := fun x hx => hs.sets x.abs (List.mem_map_of_mem hx)
 have hpl := pos_le (L.map Ser.abs) set
 refine wc_seq ?_
 refine wc_text ?_
 refine w_assign rfl rfl ?_
 refine ws_nil ?_
 refine wc_seq ?_
 refine wc_text ?_
 refine w_move rfl rfl ?_
 refine w_move rfl rfl ?_
 refine w_call rfl rfl (CallW.mono (at_ob os o v0 L set hs (by omega) _) ?_)
 rintro _ _ ⟨_, rfl, rfl, rfl⟩
 try simp only [List.cons_append, List.nil_append]
 refine w_move rfl rfl ?_
 refine w_extract rfl rfl rfl ?_
 refine w_extract rfl rfl rfl ?_
 refine w_assign rfl rfl ?_
 refine w_assign rfl rfl ?_
 refine ws_nil ?_
 refine wc_seq ?_
 refine wc_seq ?_
 refine wc_text ?_
 refine w_move rfl rfl ?_
 refine w_not rfl rfl ?_
 refine w_move rfl rfl ?_
 refine ws_split (t := 15) rfl (fun g15 => ?_) (fun g15 => ?_)
 ·first | replace g15 := dT g15 | replace g15 := dF g15 | replace g15 := dFT g15 | replace g15 := dTF g15 | replace g15 := nb_T g15 | replace g15 := nb_F g15 | skip
  first | replace g15 := nL g15 | replace g15 := nM g15 | replace g15 := nN g15 | skip
  skip
  refine ws_off rfl rfl rfl rfl ?_
  refine ws_off rfl rfl rfl rfl ?_
  refine ws_off rfl rfl rfl rfl ?_
  first | refine w_pickT rfl rfl rfl ⟨_, rfl⟩ ?_ | refine w_pickF rfl rfl ⟨_, rfl⟩ rfl ?_ | refine w_pick rfl rfl rfl rfl ?_
  refine ws_nil ?_
  refine wc_condT rfl ?_
  refine wc_seq ?_
  refine wc_text ?_
  refine w_assign rfl rfl ?_
  refine ws_nil ?_
  refine WC.ownNil 46 2 ?_
  refine WC.weakH (Sel.weak (.cons (i := .own nilSlice 46 _ _ _) tk (.cons (i := .obj o _) tk (.cons (i := .own v0 _ _ _ _) tk (.cons (i := .obj os _) tk .rest))))) ?_
  have hno : samplesV (L.map Ser.abs) set = [] := by
    unfold samplesV
    rw [if_neg (by rintro ⟨h1, h2⟩; simp_all)]
  refine wc_ret ?_
  refine ⟨_, _, (.cons (.tmp rfl) .nil), (Sel.weak .rest), ?_⟩
  rw [hno]; rfl
 ·first | replace g15 := dT g15 | replace g15 := dF g15 | replace g15 := dFT g15 | replace g15 := dTF g15 | replace g15 := nb_T g15 | replace g15 := nb_F g15 | skip
  first | replace g15 := nL g15 | replace g15 := nM g15 | replace g15 := nN g15 | skip
  refine ws_on rfl rfl ?_
  refine w_move rfl rfl ?_
  refine ws_on rfl rfl ?_
  refine w_call rfl rfl (cw_fn rfl rfl (.cons (.objV rfl tk (flat_length (by intro _; rfl) _) (flat_done (by intro _; rfl) _)) .nil) (rightL_fn set (by omega)) ?_)
  refine ws_on rfl rfl ?_
  refine w_not rfl rfl ?_
  first | refine w_pickT rfl rfl rfl ⟨_, rfl⟩ ?_ | refine w_pickF rfl rfl ⟨_, rfl⟩ rfl ?_ | refine w_pick rfl rfl rfl rfl ?_
  refine ws_nil ?_
  refine wc_cond rfl (fun h2 => ?_) (fun h2 => ?_)
  ·skip
   refine wc_seq ?_
   refine wc_text ?_
   refine w_assign rfl rfl ?_
   refine ws_nil ?_
   refine WC.ownNil 46 2 ?_
   refine WC.weakH (Sel.weak (.cons (i := .own nilSlice 46 _ _ _) tk (.cons (i := .obj o _) tk (.cons (i := .own v0 _ _ _ _) tk (.cons (i := .obj os _) tk .rest))))) ?_
   have hno : samplesV (L.map Ser.abs) set = [] := by
     unfold samplesV
     rw [if_neg (by rintro ⟨h1, h2⟩; simp_all)]
   refine wc_ret ?_
   refine ⟨_, _, (.cons (.tmp rfl) .nil), (Sel.weak .rest), ?_⟩
   rw [hno]; rfl
  ·skip
   refine wc_stay ?_
   refine wc_seq ?_
   refine wc_text ?_
   have hplt : posS (L.map Ser.abs) set < L.length := by
     rcases Nat.lt_or_ge (posS (L.map Ser.abs) set) L.length with h | h
     · exact h
     · rw [hit_none (by omega)] at g15; cases g15
   obtain ⟨y, hy⟩ := get_of_lt (l := L) (k := posS (L.map Ser.abs) set) hplt
   have hyl : y.l.length ≤ 200 := hs.lens y.abs (List.mem_map_of_mem (List.mem_of_getElem? hy))
   refine WS.openOwn (v := v0) tk (by omega) (fun o9 ho9 => ?_)
   subst ho9
   refine WS.weakH (weak_pre [_, _, _] (weak_take (take_map hy))) ?_
   simp only [List.cons_append, List.nil_append]
   refine w_move rfl rfl ?_
   refine w_nil rfl rfl rfl ?_
   first | refine w_faddrC O92_0 rfl rfl ?_ | refine w_faddrP O92_0 rfl rfl ?_
   first | refine w_ldC1 a90 rfl rfl rdc ?_ | refine w_ldP1 a90 rfl rfl tk rdp ?_
   refine w_move rfl rfl ?_
   first | refine w_lidx u90 s104 rfl rfl rfl (by omega) ?_ | refine w_slidx u90 s104 rfl rfl rfl (by omega) ?_
   first | refine w_faddrC O104_1 rfl rfl ?_ | refine w_faddrP O104_1 rfl rfl ?_
   first | refine w_ldC1 a102 rfl rfl rdc ?_ | refine w_ldP1 a102 rfl rfl tk rdp ?_
   refine w_call rfl rfl (CallW.mono (CallW.take tk (all_own y.o y.l (by omega) _)) ?_)
   rintro v28 _ ⟨_, rfl, rfl⟩
   try simp only [List.cons_append, List.nil_append]
   refine w_assign rfl rfl ?_
   refine ws_nil ?_
   refine WC.weakH ((Sel.weak (.cons tk (.cons tk (.cons tk (.cons tk .rest))))).trans (smp_out o _ L (.own v28 46 2 (y.l.flatMap eSm) y.l.length) [.obj os (.row 42 2 false (set.flatMap eL))] (posS (L.map Ser.abs) set) o9 y hy)) ?_
   have hyes : samplesV (L.map Ser.abs) set = y.l := by
     unfold samplesV
     rw [if_pos (by constructor <;> simp_all), map_get hy]
   refine wc_ret ?_
   refine ⟨_, _, (.cons (.tmp rfl) .nil), (Sel.weak .rest), ?_⟩
   rw [hyes]; rfl

theorem samples_fn (o : Nat) (S : SS) (hs : Sane S) (set : List LD) (hset : set.length ≤ 100000) (R : List HI) : CallW C 20 [.ptr (some ⟨o, 0⟩), AL eL set] (hiS o S :: R) fun v H => H = .own v 46 2 ((samplesV S set).flatMap eSm) (samplesV S set).length :: hiS o S :: R :=
  CallW.openS fun v0 L e hv => by
    subst e
    refine CallW.post (samples_in o v0 L hv hs set hset R) ?_
    rintro v H ⟨H', rfl, rfl⟩
    exact ⟨_, weak_cons _ (weak_closeS hv), rfl⟩
theorem samples_fo (os : Nat) (o : Nat) (S : SS) (hs : Sane S) (set : List LD) (hset : set.length ≤ 100000) (R : List HI) : CallW C 20 [.ptr (some ⟨o, 0⟩), .slice (some ⟨os, 0⟩) set.length (.op 0)] (hiS o S :: .obj os (.row 42 2 false (set.flatMap eL)) :: R) fun v H => H = .own v 46 2 ((samplesV S set).flatMap eSm) (samplesV S set).length :: hiS o S :: .obj os (.row 42 2 false (set.flatMap eL)) :: R :=
  CallW.openS fun v0 L e hv => by
    subst e
    refine CallW.weakL (HF' := [.obj o (.row 92 1 false [v0]), .own v0 104 2 (L.flatMap eOne) L.length, .obj os (.row 42 2 false (set.flatMap eL))] ++ L.map serI ++ R) (by unfold stI; simp only [List.cons_append, List.nil_append]; exact weak_cons _ (weak_cons _ (weak_take (take_pre (L.map serI) .head)))) ?_
    refine CallW.post (samples_ob os o v0 L hv hs set hset R) ?_
    rintro v H ⟨H', rfl, rfl⟩
    exact ⟨_, weak_cons _ ((weak_cons _ (weak_cons _ (take_back (take_pre (L.map serI) .head)))).trans (weak_closeS (R := .obj os (.row 42 2 false (set.flatMap eL)) :: R) hv)), rfl⟩
end Go.Proofs.YtlgofplbbmjdjaaGreatDoor.kx
namespace Go.Proofs.YtlgofplbbmjdjaaGreatDoor.kx
open Go Go.Proofs Go.Proofs.YtlgofplbbmjdjaaGreatDoor.BH
open Go.Proofs.YtlgofplbbmjdjaaGreatDoor.BH.Rt
open Go.Proofs.YtlgofplbbmjdjaaGreatDoor.BH.Dk (withinV withinV_in)
open Go.Proofs.YtlgofplbbmjdjaaGreatDoor.BH.Kx
set_option maxRecDepth 100000
theorem scut_fn (o : Nat) (l : List SM) (z : Int) (hl : l.length ≤ 100000) (hb : ∀ x ∈ l, x.time < z) (R : List HI) : CallW C 54 [.ptr (some ⟨o, 0⟩), .int .i64 z] ([.obj o (.row 108 1 false [AL eSm l])] ++ R) fun v H => ∃ H', H = H' ++ R ∧ (v = .int .i64 (l.length : Nat) ∧ H' = [.obj o (.row 108 1 false [AL eSm []])]) := by
 refine cw_sharedA (fn := Tryz.f54) rfl rfl rfl rfl (K := fun v H' => (v = .int .i64 (l.length : Nat) ∧ H' = [.obj o (.row 108 1 false [AL eSm []])])) ?_ R
 refine wc_seq ?_
 refine wc_text ?_
 refine w_assign rfl rfl ?_
 refine ws_nil ?_
 refine wc_seq ?_
 refine wc_text ?_
 refine w_assign rfl rfl ?_
 refine ws_nil ?_
 refine wc_seq ?_
 refine wc_block ?_
 refine wc_loop (σ := { k : Nat // k ≤ l.length }) (fun u => [(0, .ptr (some ⟨o, 0⟩)), (1, .int .i64 z), (5, .int .i64 (u.1 : Nat))]) (fun u => [.obj o (.row 108 1 false [AL eSm l])]) (fun u => l.length - u.1) ?_ ⟨0, Nat.zero_le _⟩ (.cons rfl (.cons rfl (.cons rfl (.nil _)))) (Sel.weak (.cons tk .nil))
 rintro ⟨k, hk⟩
 try dsimp only
 refine wc_seq ?_
 refine wc_seq ?_
 refine wc_text ?_
 refine w_move rfl rfl ?_
 refine w_move rfl rfl ?_
 refine w_nil rfl rfl rfl ?_
 first | refine w_faddrC O108_0 rfl rfl ?_ | refine w_faddrP O108_0 rfl rfl ?_
 first | refine w_ldC1 a52 rfl rfl rdc ?_ | refine w_ldP1 a52 rfl rfl tk rdp ?_
 first | refine w_len rfl rfl (len_lst u52) ?_ | refine w_len rfl rfl (len_slice u52) ?_ | refine w_lenO rfl u52 rfl rfl tk ?_
 refine w_lss u3 rfl rfl rfl ?_
 refine w_move rfl rfl ?_
 refine ws_split (t := 13) rfl (fun g13 => ?_) (fun g13 => ?_)
 ·first | replace g13 := dT g13 | replace g13 := dF g13 | replace g13 := dFT g13 | replace g13 := dTF g13 | replace g13 := nb_T g13 | replace g13 := nb_F g13 | skip
  first | replace g13 := nL g13 | replace g13 := nM g13 | replace g13 := nN g13 | skip
  obtain ⟨x, hx⟩ := get_of_lt (l := l) (k := k) (by omega)
  have hxz := hb x (List.mem_of_getElem? hx)
  refine ws_on rfl rfl ?_
  refine w_move rfl rfl ?_
  refine ws_on rfl rfl ?_
  refine w_nil rfl rfl rfl ?_
  refine ws_on rfl rfl ?_
  first | refine w_faddrC O108_0 rfl rfl ?_ | refine w_faddrP O108_0 rfl rfl ?_
  refine ws_on rfl rfl ?_
  first | refine w_ldC1 a52 rfl rfl rdc ?_ | refine w_ldP1 a52 rfl rfl tk rdp ?_
  refine ws_on rfl rfl ?_
  refine w_move rfl rfl ?_
  refine ws_on rfl rfl ?_
  first | refine w_lidx u52 s46 rfl rfl rfl (by omega) ?_ | refine w_slidx u52 s46 rfl rfl rfl (by omega) ?_
  refine ws_on rfl rfl ?_
  first | refine w_faddrC O46_0 rfl rfl ?_ | refine w_faddrP O46_0 rfl rfl ?_
  refine ws_on rfl rfl ?_
  first | refine w_ldC1 a3 rfl rfl rdc ?_ | refine w_ldP1 a3 rfl rfl tk rdp ?_
  refine ws_on rfl rfl ?_
  refine w_move rfl rfl ?_
  refine ws_on rfl rfl ?_
  refine w_lss u3 rfl rfl rfl ?_
  first | refine w_pickT rfl rfl rfl ⟨_, rfl⟩ ?_ | refine w_pickF rfl rfl ⟨_, rfl⟩ rfl ?_ | refine w_pick rfl rfl rfl rfl ?_
  refine ws_nil ?_
  refine wc_cond rfl (fun h2 => ?_) (fun h2 => ?_)
  ·skip
   refine wc_stay ?_
   refine wc_block ?_
   refine wc_text ?_
   refine w_move rfl rfl ?_
   refine w_add u3 rfl rfl rfl (by omega) ?_
   refine w_assign rfl rfl ?_
   refine ws_nil ?_
   exact ⟨⟨k + 1, by omega⟩, by simp only; omega, (.cons rfl (.cons rfl (.cons rfl (.nil _)))), (Sel.weak (.cons tk .nil))⟩
  ·skip
   first | exact absurd hxz h2 | exact absurd hxz (of_decide_eq_false h2)
 ·first | replace g13 := dT g13 | replace g13 := dF g13 | replace g13 := dFT g13 | replace g13 := dTF g13 | replace g13 := nb_T g13 | replace g13 := nb_F g13 | skip
  first | replace g13 := nL g13 | replace g13 := nM g13 | replace g13 := nN g13 | skip
  obtain rfl : k = l.length := by omega
  refine ws_off rfl rfl rfl rfl ?_
  refine ws_off rfl rfl rfl rfl ?_
  refine ws_off rfl rfl rfl rfl ?_
  refine ws_off rfl rfl rfl rfl ?_
  refine ws_off rfl rfl rfl rfl ?_
  refine ws_off rfl rfl rfl rfl ?_
  refine ws_off rfl rfl rfl rfl ?_
  refine ws_off rfl rfl rfl rfl ?_
  refine ws_off rfl rfl rfl rfl ?_
  refine ws_off rfl rfl rfl rfl ?_
  first | refine w_pickT rfl rfl rfl ⟨_, rfl⟩ ?_ | refine w_pickF rfl rfl ⟨_, rfl⟩ rfl ?_ | refine w_pick rfl rfl rfl rfl ?_
  refine ws_nil ?_
  refine wc_condF rfl ?_
  refine wc_exit ?_
  refine wc_seq ?_
  refine wc_text ?_
  refine w_move rfl rfl ?_
  refine w_move rfl rfl ?_
  refine w_nil rfl rfl rfl ?_
  first | refine w_faddrC O108_0 rfl rfl ?_ | refine w_faddrP O108_0 rfl rfl ?_
  first | refine w_ldC1 a52 rfl rfl rdc ?_ | refine w_ldP1 a52 rfl rfl tk rdp ?_
  refine w_move rfl rfl ?_
  refine w_slice rfl rfl rfl rfl rfl (slice_al (i := l.length) (j := l.length) u52 s46 (by intro _; rfl) (by rfl) (by rfl) (by omega) (by omega)) ?_
  rw [show (l.drop l.length).take (l.length - l.length) = [] by simp]
  refine w_call rfl rfl (CallW.mono (cloneSm_frz [] (by decide) _) ?_)
  rintro _ _ ⟨rfl, rfl⟩
  try simp only [List.cons_append, List.nil_append]
  refine w_nil rfl rfl rfl ?_
  first | refine w_faddrC O108_0 rfl rfl ?_ | refine w_faddrP O108_0 rfl rfl ?_
  refine w_st s52 rfl rfl rfl tk rfl rfl ovw ?_
  refine ws_nil ?_
  refine wc_seq ?_
  refine wc_text ?_
  refine w_move rfl rfl ?_
  refine w_assign rfl rfl ?_
  refine ws_nil ?_
  refine wc_ret ?_
  refine ⟨_, [.obj o (.row 108 1 false [AL eSm []])], (.cons (.tmp rfl) .nil), (Sel.weak (.cons tk .nil)), ?_⟩
  exact ⟨rfl, rfl⟩

theorem slast_fn (o : Nat) (R : List HI) : CallW C 55 [.ptr (some ⟨o, 0⟩)] ([.obj o (.row 108 1 false [AL eSm []])] ++ R) fun v H => ∃ H', H = H' ++ R ∧ (v = .tuple [.agg [.int .i64 0, .int .i64 0], .bool false] ∧ H' = [.obj o (.row 108 1 false [AL eSm []])]) := by
 refine cw_sharedA (fn := Tryz.f55) rfl rfl rfl rfl (K := fun v H' => (v = .tuple [.agg [.int .i64 0, .int .i64 0], .bool false] ∧ H' = [.obj o (.row 108 1 false [AL eSm []])])) ?_ R
 refine wc_seq ?_
 refine wc_text ?_
 refine w_alloc z46 s46 rfl (fun o2 => ?_)
 refine w_assign rfl rfl ?_
 refine ws_nil ?_
 refine wc_seq ?_
 refine wc_seq ?_
 refine wc_text ?_
 refine w_move rfl rfl ?_
 refine w_nil rfl rfl rfl ?_
 first | refine w_faddrC O108_0 rfl rfl ?_ | refine w_faddrP O108_0 rfl rfl ?_
 first | refine w_ldC1 a52 rfl rfl rdc ?_ | refine w_ldP1 a52 rfl rfl tk rdp ?_
 first | refine w_len rfl rfl (len_lst u52) ?_ | refine w_len rfl rfl (len_slice u52) ?_ | refine w_lenO rfl u52 rfl rfl tk ?_
 refine w_eql u3 rfl rfl rfl ?_
 refine ws_nil ?_
 refine wc_cond rfl (fun h1 => ?_) (fun h1 => ?_)
 ·skip
  refine wc_seq ?_
  refine wc_text ?_
  refine w_build (v := .agg [_, _]) B46 rfl rfl rfl ?_
  refine w_st s46 rfl rfl rfl tk rfl rfl ovw ?_
  refine w_assign rfl rfl ?_
  refine ws_nil ?_
  refine wc_ret ?_
  refine ⟨_, [.obj o (.row 108 1 false [AL eSm []])], (.cons (.cellA rfl a46 s46 tk agp) (.cons (.tmp rfl) .nil)), (Sel.weak (.cons tk .nil)), ?_⟩
  exact ⟨rfl, rfl⟩
 ·skip
  first | (exact absurd h1 (by decide)) | (simp at h1)

theorem cut_out (o : Nat) (v0 : AV) (L M : List Ser) (k ob : Nat) (x y : Ser) (hx : M[k]? = some x) : Weak (serI y :: .obj ob (.row 104 2 false (L.flatMap eOne)) :: .obj o (.row 92 1 false [v0]) :: (M.eraseIdx k).map serI) (.obj o (.row 92 1 false [v0]) :: .own (.slice (some ⟨ob, 0⟩) L.length (.op 0)) 104 2 (L.flatMap eOne) L.length :: (M.set k y).map serI) :=
  (weak_cons _ (weak_two _ _ _)).trans ((weak_two _ _ _).trans (weak_cons _ ((weak_two _ _ _).trans ((weak_cons _ (weak_map (f := serI) (y := y) hx)).trans (weak_close (flat_length (by intro _; rfl) _))))))
noncomputable def empL (L : List Ser) (k : Nat) : List Ser := (L.take k).map (fun x => (⟨x.set, x.o, []⟩ : Ser)) ++ L.drop k
theorem emp_zero (L : List Ser) : empL L 0 = L := by simp [empL]
theorem emp_get {L : List Ser} {k : Nat} {x : Ser} (hx : L[k]? = some x) : (empL L k)[k]? = some x := by
  have hk := (List.getElem?_eq_some_iff.mp hx).1
  unfold empL
  rw [List.getElem?_append_right (by rw [List.length_map, List.length_take]; omega), List.length_map, List.length_take, Nat.min_eq_left (by omega), Nat.sub_self, List.getElem?_drop, Nat.add_zero]
  exact hx
theorem emp_set {L : List Ser} {k : Nat} {x : Ser} (hx : L[k]? = some x) : (empL L k).set k ⟨x.set, x.o, []⟩ = empL L (k + 1) := by
  have hk := (List.getElem?_eq_some_iff.mp hx).1
  unfold empL
  rw [List.set_append_right _ _ (by rw [List.length_map, List.length_take]; omega), List.length_map, List.length_take, Nat.min_eq_left (by omega), Nat.sub_self, take_one hx, List.map_append, List.append_assoc, drop_one hx]
  rfl

set_option maxHeartbeats 4000000 in
theorem cut_in (o : Nat) (v0 : AV) (L : List Ser) (hv0 : L = [] → v0 = nilSlice) (hs : Sane (L.map Ser.abs)) (R : List HI) : CallW C 22 [.ptr (some ⟨o, 0⟩), .int .i64 2199023255552] ([.obj o (.row 92 1 false [v0]), .own v0 104 2 (L.flatMap eOne) L.length] ++ L.map serI ++ R) fun v H => ∃ H', H = H' ++ R ∧ (v = .int .i64 (totS (L.map Ser.abs) L.length : Nat) ∧ H' = [hiS o []]) := by
 refine cw_sharedA (fn := Tryz.f22) rfl rfl rfl rfl (K := fun v H' => (v = .int .i64 (totS (L.map Ser.abs) L.length : Nat) ∧ H' = [hiS o []])) ?_ R
 simp only [List.cons_append, List.nil_append]
 have hml : (L.map Ser.abs).length = L.length := List.length_map _
 have hL := hs.len
 rw [hml] at hL
 have hS : ∀ x ∈ L, x.set.length ≤ 6 := fun x hx => hs.sets x.abs (List.mem_map_of_mem hx)
 rw [← emp_zero L]
 rw [show (empL L 0).flatMap eOne = L.flatMap eOne by rw [emp_zero], show (empL L 0).length = L.length by rw [emp_zero]]
 refine wc_seq ?_
 refine wc_text ?_
 refine w_assign rfl rfl ?_
 refine ws_nil ?_
 refine wc_seq ?_
 refine wc_text ?_
 refine w_assign rfl rfl ?_
 refine ws_nil ?_
 refine wc_seq ?_
 refine wc_text ?_
 refine w_assign rfl rfl ?_
 refine ws_nil ?_
 refine wc_seq ?_
 refine wc_seq ?_
 refine wc_text ?_
 refine w_move rfl rfl ?_
 refine w_nil rfl rfl rfl ?_
 first | refine w_faddrC O92_0 rfl rfl ?_ | refine w_faddrP O92_0 rfl rfl ?_
 first | refine w_ldC1 a90 rfl rfl rdc ?_ | refine w_ldP1 a90 rfl rfl tk rdp ?_
 first | refine w_len rfl rfl (len_lst u90) ?_ | refine w_len rfl rfl (len_slice u90) ?_ | refine w_lenO rfl u90 rfl rfl tk ?_
 refine w_move rfl rfl ?_
 refine ws_nil ?_
 refine wc_block ?_
 refine wc_loop (σ := { k : Nat // k ≤ L.length }) (fun u => [(0, .ptr (some ⟨o, 0⟩)), (1, .int .i64 2199023255552), (5, .int .i64 (totS (L.map Ser.abs) u.1 : Nat)), (6, nilSlice), (14, v0), (15, .int .i64 (L.length : Nat)), (16, .int .i64 (u.1 : Nat))]) (fun u => [.obj o (.row 92 1 false [v0]), .own v0 104 2 (L.flatMap eOne) L.length] ++ (empL L u.1).map serI) (fun u => L.length - u.1) ?_ ⟨0, Nat.zero_le _⟩ (.cons rfl (.cons rfl (.cons rfl (.cons rfl (.cons rfl (.cons rfl (.cons rfl (.nil _)))))))) (Sel.weak (.cons tk (.cons tk .rest)))
 rintro ⟨k, hk0⟩
 try dsimp only
 simp only [List.cons_append, List.nil_append]
 have htl := tot_le hs k
 refine wc_seq ?_
 refine wc_text ?_
 refine w_lss u3 rfl rfl rfl ?_
 refine ws_nil ?_
 refine wc_seq ?_
 refine wc_cond rfl (fun h4 => ?_) (fun h4 => ?_)
 ·replace h4 := of_decide_eq_true h4
  refine wc_stay ?_
  refine wc_seq ?_
  refine wc_block ?_
  refine wc_seq ?_
  refine wc_text ?_
  obtain ⟨x, hx⟩ := get_of_lt (l := L) (k := k) (by omega)
  have hxm := List.mem_of_getElem? hx
  have hxl : x.l.length ≤ 200 := hs.lens x.abs (List.mem_map_of_mem hxm)
  have hxt : ∀ y ∈ x.l, 0 ≤ y.time ∧ y.time ≤ 1099511627776 := hs.times x.abs (List.mem_map_of_mem hxm)
  refine WS.openOwn (v := v0) tk (by omega) (fun ob hob => ?_)
  subst hob
  first | refine w_lidx u90 s104 rfl rfl rfl (by omega) ?_ | refine w_slidx u90 s104 rfl rfl rfl (by omega) ?_
  first | refine w_ldC a104 s104 rfl rfl agc ?_ | refine w_ldP a104 s104 rfl rfl tk agp ?_
  refine w_alloc z104 s104 rfl (fun o8 => ?_)
  refine w_st s104 rfl rfl rfl tk rfl rfl ovw ?_
  refine ws_nil ?_
  refine WC.weakH (weak_pre [_, _, _] (weak_take (take_map (emp_get hx)))) ?_
  simp only [List.cons_append, List.nil_append]
  refine wc_seq ?_
  refine wc_text ?_
  refine w_move rfl rfl ?_
  first | refine w_faddrC O104_1 rfl rfl ?_ | refine w_faddrP O104_1 rfl rfl ?_
  first | refine w_ldC1 a102 rfl rfl rdc ?_ | refine w_ldP1 a102 rfl rfl tk rdp ?_
  refine w_move rfl rfl ?_
  refine w_call rfl rfl (CallW.mono (CallW.take tk (scut_fn x.o x.l 2199023255552 (by omega) (fun y hy => by have := hxt y hy; omega) _)) ?_)
  rintro _ _ ⟨_, rfl, rfl, rfl⟩
  try simp only [List.cons_append, List.nil_append]
  refine w_add u3 rfl rfl rfl (by omega) ?_
  refine w_assign rfl rfl ?_
  refine ws_nil ?_
  refine wc_seq ?_
  refine wc_text ?_
  first | refine w_faddrC O104_1 rfl rfl ?_ | refine w_faddrP O104_1 rfl rfl ?_
  first | refine w_ldC1 a102 rfl rfl rdc ?_ | refine w_ldP1 a102 rfl rfl tk rdp ?_
  refine w_call rfl rfl (CallW.mono (CallW.take tk (slast_fn x.o _)) ?_)
  rintro _ _ ⟨_, rfl, rfl, rfl⟩
  try simp only [List.cons_append, List.nil_append]
  refine w_move rfl rfl ?_
  refine w_extract rfl rfl rfl ?_
  refine w_extract rfl rfl rfl ?_
  refine w_alloc z46 s46 rfl (fun o9 => ?_)
  refine w_st s46 rfl rfl rfl tk rfl rfl ovw ?_
  refine w_assign rfl rfl ?_
  refine ws_nil ?_
  refine wc_seq ?_
  refine wc_text ?_
  refine w_move rfl rfl ?_
  refine ws_nil ?_
  refine wc_cond rfl (fun h8 => ?_) (fun h8 => ?_)
  ·first | replace h8 := dT h8 | replace h8 := dF h8 | replace h8 := dFT h8 | replace h8 := dTF h8 | replace h8 := nb_T h8 | replace h8 := nb_F h8 | skip
   first | replace h8 := nL h8 | replace h8 := nM h8 | replace h8 := nN h8 | skip
   cases h8
  ·skip
   refine wc_stay ?_
   refine wc_text ?_
   refine WS.drop (i := .obj o8 _) tk ?_
   refine WS.drop (i := .obj o9 _) tk ?_
   refine WS.weakH ((Sel.weak (.cons tk (.cons tk (.cons tk .rest)))).trans (cut_out o _ L (empL L k) k ob x ⟨x.set, x.o, []⟩ (emp_get hx))) ?_
   rw [emp_set hx]
   rw [show ((totS (L.map Ser.abs) k : Nat) : Int) + (x.l.length : Nat) = ((totS (L.map Ser.abs) (k + 1) : Nat) : Int) by rw [tot_one (map_get hx)]; rfl]
   refine w_add u3 rfl rfl rfl (by omega) ?_
   refine w_move rfl rfl ?_
   refine ws_nil ?_
   exact ⟨⟨k + 1, by omega⟩, by simp only; omega, (.cons rfl (.cons rfl (.cons rfl (.cons rfl (.cons rfl (.cons rfl (.cons rfl (.nil _)))))))), (Sel.weak (.cons tk (.cons tk .rest)))⟩
 ·replace h4 := of_decide_eq_false h4
  obtain rfl : k = L.length := by omega
  refine wc_exit ?_
  refine wc_seq ?_
  refine wc_text ?_
  refine w_move rfl rfl ?_
  refine w_move rfl rfl ?_
  refine w_nil rfl rfl rfl ?_
  first | refine w_faddrC O92_0 rfl rfl ?_ | refine w_faddrP O92_0 rfl rfl ?_
  refine w_st s90 rfl rfl rfl tk rfl rfl ovw ?_
  refine ws_nil ?_
  refine WC.ownNil 104 2 ?_
  refine WC.weakH (HF' := [hiS o []]) ((Sel.weak (.cons (i := .obj o _) tk (.cons (i := .own nilSlice _ _ _ _) tk .nil))).trans (weak_closeS (L := []) (fun _ => rfl))) ?_
  refine wc_seq ?_
  refine wc_text ?_
  refine w_move rfl rfl ?_
  refine w_assign rfl rfl ?_
  refine ws_nil ?_
  refine wc_ret ?_
  refine ⟨_, _, (.cons (.tmp rfl) .nil), (Sel.weak .rest), ?_⟩
  exact ⟨rfl, rfl⟩

theorem cut_fn (o : Nat) (S : SS) (hs : Sane S) (R : List HI) : CallW C 22 [.ptr (some ⟨o, 0⟩), .int .i64 2199023255552] (hiS o S :: R) fun v H => v = .int .i64 (totS S S.length : Nat) ∧ H = hiS o [] :: R :=
  CallW.openS fun v0 L e hv => by
    subst e
    refine CallW.mono (cut_in o v0 L hv hs R) ?_
    rintro v H ⟨H', rfl, rfl, rfl⟩
    exact ⟨by rw [List.length_map], rfl⟩
end Go.Proofs.YtlgofplbbmjdjaaGreatDoor.kx
namespace Go.Proofs.YtlgofplbbmjdjaaGreatDoor.kx
open Go Go.Proofs Go.Proofs.YtlgofplbbmjdjaaGreatDoor.BH
open Go.Proofs.YtlgofplbbmjdjaaGreatDoor.BH.Rt
open Go.Proofs.YtlgofplbbmjdjaaGreatDoor.BH.Dk (withinV withinV_in)
open Go.Proofs.YtlgofplbbmjdjaaGreatDoor.BH.Kx
set_option maxRecDepth 100000
theorem copy_out (o o1 : Nat) (v0 : AV) (A1 A2 : HI) (L M : List Ser) (k ob : Nat) (x y : Ser) (hx : L[k]? = some x) : Weak (serI x :: .obj ob (.row 104 2 false (L.flatMap eOne)) :: .obj o (.row 92 1 false [v0]) :: serI y :: A1 :: A2 :: (M.map serI ++ (L.eraseIdx k).map serI)) (A1 :: A2 :: .obj o (.row 92 1 false [v0]) :: .own (.slice (some ⟨ob, 0⟩) L.length (.op 0)) 104 2 (L.flatMap eOne) L.length :: ((M ++ [y]).map serI ++ L.map serI)) := by
  have h := smp_out o v0 L (serI y) (A1 :: A2 :: M.map serI) k ob x hx
  have e : (M ++ [y]).map serI ++ L.map serI = M.map serI ++ serI y :: L.map serI := by simp
  rw [e]
  exact h.trans ((weak_take (.tail (.tail (.tail .head)))).trans (weak_cons _ ((weak_take (.tail (.tail (.tail .head)))).trans (weak_cons _ ((weak_two _ _ _).trans (weak_cons _ ((weak_two _ _ _).trans (weak_cons _ (take_back (take_pre (M.map serI) .head))))))))))
theorem copy_end (o o1 : Nat) (v0 v1 : AV) (L M : List Ser) (hv0 : L = [] → v0 = nilSlice) (hv1 : M = [] → v1 = nilSlice) : Weak (.obj o1 (.row 92 1 false [v1]) :: .own v1 104 2 (M.flatMap eOne) M.length :: .obj o (.row 92 1 false [v0]) :: .own v0 104 2 (L.flatMap eOne) L.length :: (M.map serI ++ L.map serI)) [hiS o1 (M.map Ser.abs), hiS o (L.map Ser.abs)] := by
  have h1 : Weak (.obj o1 (.row 92 1 false [v1]) :: .own v1 104 2 (M.flatMap eOne) M.length :: .obj o (.row 92 1 false [v0]) :: .own v0 104 2 (L.flatMap eOne) L.length :: (M.map serI ++ L.map serI)) (stI o1 v1 M ++ stI o v0 L) :=
    weak_cons _ (weak_cons _ ((weak_cons _ (take_back (take_pre (M.map serI) .head))).trans (take_back (take_pre (M.map serI) .head))))
  have h2 : Weak (stI o v0 L) [hiS o (L.map Ser.abs)] := by
    have := weak_closeS (o := o) (v := v0) (L := L) (R := []) hv0
    rwa [List.append_nil] at this
  exact h1.trans ((weak_closeS hv1).trans (weak_cons _ h2))

set_option maxHeartbeats 4000000 in
theorem copy_in (o : Nat) (v0 : AV) (L : List Ser) (hv0 : L = [] → v0 = nilSlice) (hs : Sane (L.map Ser.abs)) (R : List HI) : CallW C 19 [.ptr (some ⟨o, 0⟩)] ([.obj o (.row 92 1 false [v0]), .own v0 104 2 (L.flatMap eOne) L.length] ++ L.map serI ++ R) fun v H => ∃ H', H = H' ++ R ∧ ∃ o1, v = .ptr (some ⟨o1, 0⟩) ∧ H' = [hiS o1 (L.map Ser.abs), hiS o (L.map Ser.abs)] := by
 refine cw_sharedA (fn := Tryz.f19) rfl rfl rfl rfl (K := fun v H' => ∃ o1, v = .ptr (some ⟨o1, 0⟩) ∧ H' = [hiS o1 (L.map Ser.abs), hiS o (L.map Ser.abs)]) ?_ R
 simp only [List.cons_append, List.nil_append]
 have hml : (L.map Ser.abs).length = L.length := List.length_map _
 have hL := hs.len
 rw [hml] at hL
 have hS : ∀ x ∈ L, x.set.length ≤ 6 := fun x hx => hs.sets x.abs (List.mem_map_of_mem hx)
 refine wc_seq ?_
 refine wc_text ?_
 refine w_assign rfl rfl ?_
 refine ws_nil ?_
 refine wc_seq ?_
 refine wc_text ?_
 refine w_call rfl rfl (CallW.mono (new_fn _) ?_)
 rintro v7 _ ⟨_, rfl, o1, rfl, rfl⟩
 try simp only [List.cons_append, List.nil_append]
 refine w_assign rfl rfl ?_
 refine ws_nil ?_
 refine WC.openS (o := o1) tk (fun w1 M1 e1 hw1 => ?_)
 obtain rfl : M1 = [] := List.map_eq_nil_iff.mp e1
 obtain rfl := hw1 rfl
 refine wc_seq ?_
 refine wc_seq ?_
 refine wc_text ?_
 refine w_move rfl rfl ?_
 refine w_nil rfl rfl rfl ?_
 first | refine w_faddrC O92_0 rfl rfl ?_ | refine w_faddrP O92_0 rfl rfl ?_
 first | refine w_ldC1 a90 rfl rfl rdc ?_ | refine w_ldP1 a90 rfl rfl tk rdp ?_
 first | refine w_len rfl rfl (len_lst u90) ?_ | refine w_len rfl rfl (len_slice u90) ?_ | refine w_lenO rfl u90 rfl rfl tk ?_
 refine w_move rfl rfl ?_
 refine ws_nil ?_
 refine wc_block ?_
 refine wc_loop (σ := { u : Nat × AV × List Ser // u.1 ≤ L.length ∧ u.2.2.map Ser.abs = (L.map Ser.abs).take u.1 ∧ (u.2.2 = [] → u.2.1 = nilSlice) }) (fun u => [(0, .ptr (some ⟨o, 0⟩)), (3, .ptr (some ⟨o1, 0⟩)), (11, v0), (12, .int .i64 (L.length : Nat)), (13, .int .i64 (u.1.1 : Nat))]) (fun u => [.obj o1 (.row 92 1 false [u.1.2.1]), .own u.1.2.1 104 2 (u.1.2.2.flatMap eOne) u.1.2.2.length, .obj o (.row 92 1 false [v0]), .own v0 104 2 (L.flatMap eOne) L.length] ++ (u.1.2.2.map serI ++ L.map serI)) (fun u => L.length - u.1.1) ?_ ⟨(0, nilSlice, []), Nat.zero_le _, by simp, fun _ => rfl⟩ (.cons rfl (.cons rfl (.cons rfl (.cons rfl (.cons rfl (.nil _)))))) (Sel.weak (.cons tk (.cons tk (.cons tk (.cons tk .rest)))))
 rintro ⟨⟨k, vk, M⟩, hk0, hM, hvk⟩
 try dsimp only
 simp only at hk0 hM hvk
 simp only [List.cons_append, List.nil_append]
 have hMl : M.length = k := by
   have := congrArg List.length hM
   rw [List.length_map, List.length_take] at this; omega
 refine wc_seq ?_
 refine wc_text ?_
 refine w_lss u3 rfl rfl rfl ?_
 refine ws_nil ?_
 refine wc_seq ?_
 refine wc_cond rfl (fun h3 => ?_) (fun h3 => ?_)
 ·replace h3 := of_decide_eq_true h3
  refine wc_stay ?_
  refine wc_seq ?_
  refine wc_block ?_
  refine wc_seq ?_
  refine wc_text ?_
  obtain ⟨x, hx⟩ := get_of_lt (l := L) (k := k) (by omega)
  have hx6 := hS x (List.mem_of_getElem? hx)
  refine WS.openOwn (v := v0) tk (by omega) (fun ob hob => ?_)
  subst hob
  first | refine w_lidx u90 s104 rfl rfl rfl (by omega) ?_ | refine w_slidx u90 s104 rfl rfl rfl (by omega) ?_
  first | refine w_ldC a104 s104 rfl rfl agc ?_ | refine w_ldP a104 s104 rfl rfl tk agp ?_
  refine w_alloc z104 s104 rfl (fun o5 => ?_)
  refine w_st s104 rfl rfl rfl tk rfl rfl ovw ?_
  refine ws_nil ?_
  refine WC.weakH (weak_pre [_, _, _, _, _] (weak_take (take_pre (M.map serI) (take_map hx)))) ?_
  simp only [List.cons_append, List.nil_append]
  refine wc_seq ?_
  refine wc_text ?_
  first | refine w_faddrC O104_1 rfl rfl ?_ | refine w_faddrP O104_1 rfl rfl ?_
  first | refine w_ldC1 a102 rfl rfl rdc ?_ | refine w_ldP1 a102 rfl rfl tk rdp ?_
  refine w_nil rfl rfl rfl ?_
  first | refine w_ldC a108 s108 rfl rfl agc ?_ | refine w_ldP a108 s108 rfl rfl tk agp ?_
  refine w_alloc z108 s108 rfl (fun o6 => ?_)
  refine w_st s108 rfl rfl rfl tk rfl rfl ovw ?_
  refine ws_nil ?_
  refine wc_free [0, 0, 2, 6, 14, 0, 32, 96, 224, 480, 1022, 2047, 4095, 8191] (by kernel_rfl) (by kernel_rfl) (fun F => ?_)
  refine wr_float F 0 rfl (by kernel_rfl) (.inl (by kernel_rfl)) ?_
  refine w_move rfl rfl ?_
  refine ws_nil ?_
  refine wr_float F 1 rfl (by kernel_rfl) (.inl (by kernel_rfl)) ?_
  refine w_move rfl rfl ?_
  refine ws_nil ?_
  refine wr_float F 2 rfl (by kernel_rfl) (.inl (by kernel_rfl)) ?_
  refine w_nil rfl rfl rfl ?_
  refine ws_nil ?_
  refine wr_float F 3 rfl (by kernel_rfl) (.inl (by kernel_rfl)) ?_
  first | refine w_faddrC O92_0 rfl rfl ?_ | refine w_faddrP O92_0 rfl rfl ?_
  refine ws_nil ?_
  refine wr_float F 5 rfl (by kernel_rfl) (.inl (by kernel_rfl)) ?_
  first | refine w_faddrC O104_0 rfl rfl ?_ | refine w_faddrP O104_0 rfl rfl ?_
  refine ws_nil ?_
  refine wr_next F (l := [4, 6]) (by kernel_rfl) (by simp) (.cons rfl ?_ (.cons rfl ?_ (.nil)))
  ·skip
   first | refine w_ldC1 a90 rfl rfl rdc ?_ | refine w_ldP1 a90 rfl rfl tk rdp ?_
   refine ws_nil ?_
   refine wr_next F (l := [6]) (by kernel_rfl) (by simp) (.cons rfl ?_ (.nil))
   first | refine w_ldC1 a43 rfl rfl rdc ?_ | refine w_ldP1 a43 rfl rfl tk rdp ?_
   refine ws_nil ?_
   refine wr_next F (l := [7]) (by kernel_rfl) (by simp) (.cons rfl ?_ (.nil))
   refine w_call rfl rfl (CallW.mono (cloneL_frz _ (by omega) _) ?_)
   rintro _ _ ⟨rfl, rfl⟩
   try simp only [List.cons_append, List.nil_append]
   refine ws_nil ?_
   refine wr_float F 8 rfl (by kernel_rfl) (.inl (by kernel_rfl)) ?_
   refine w_build (v := .agg [_, _]) B104 rfl rfl rfl ?_
   refine ws_nil ?_
   refine wr_next F (l := [9]) (by kernel_rfl) (by simp) (.cons rfl ?_ (.nil))
   refine w_buildS (cs := eOne ⟨x.set, o6, x.l⟩) u90 s104 z104 (by decide) rfl rfl rfl (fun o30 => ?_)
   refine ws_nil ?_
   refine wr_next F (l := [10]) (by kernel_rfl) (by simp) (.cons rfl ?_ (.nil))
   refine w_appO (enc := eOne) (l := M) (m := [(⟨x.set, o6, x.l⟩ : Ser)]) rfl u90 s104 b104 z104 u90 (by simp) rfl rfl rfl tk nw bg bg (fun v31 => ?_)
   refine ws_nil ?_
   refine wr_float F 11 rfl (by kernel_rfl) (.inl (by kernel_rfl)) ?_
   refine w_nil rfl rfl rfl ?_
   refine ws_nil ?_
   refine wr_float F 12 rfl (by kernel_rfl) (.inl (by kernel_rfl)) ?_
   first | refine w_faddrC O92_0 rfl rfl ?_ | refine w_faddrP O92_0 rfl rfl ?_
   refine ws_nil ?_
   refine wr_next F (l := [13]) (by kernel_rfl) (by simp) (.cons rfl ?_ (.nil))
   refine WS.ownCells (v := v31) tk (fun c31 s31 => ?_)
   refine w_st s90 rfl rfl rfl tk (by rw [c31]; try rfl) (by rw [c31]; simpa using s31) (by rw [c31]; rfl) ?_
   refine ws_nil ?_
   refine wr_end F (by kernel_rfl) ?_
   refine wc_text ?_
   refine WS.drop (i := .obj o5 _) tk ?_
   refine WS.drop (i := .obj o30 _) tk ?_
   refine WS.weakH ((Sel.weak (.cons tk (.cons tk (.cons tk (.cons tk (.cons tk (.cons tk .rest))))))).trans (copy_out o o1 _ (.obj o1 (.row 92 1 false [v31])) (.own v31 104 2 ((M ++ [(⟨x.set, o6, x.l⟩ : Ser)]).flatMap eOne) (M ++ [(⟨x.set, o6, x.l⟩ : Ser)]).length) L M k ob x ⟨x.set, o6, x.l⟩ hx)) ?_
   refine w_add u3 rfl rfl rfl (by omega) ?_
   refine w_move rfl rfl ?_
   refine ws_nil ?_
   exact ⟨⟨(k + 1, v31, M ++ [⟨x.set, o6, x.l⟩]), (by omega : k + 1 ≤ L.length), by simp only; rw [List.map_append, hM, take_one (map_get hx)]; rfl, fun h => by simp at h⟩, by simp only; omega, (.cons rfl (.cons rfl (.cons rfl (.cons rfl (.cons rfl (.nil _)))))), (Sel.weak (.cons tk (.cons tk (.cons tk (.cons tk .rest)))))⟩
  ·skip
   first | refine w_ldC1 a43 rfl rfl rdc ?_ | refine w_ldP1 a43 rfl rfl tk rdp ?_
   refine ws_nil ?_
   refine wr_next F (l := [4, 7]) (by kernel_rfl) (by simp) (.cons rfl ?_ (.cons rfl ?_ (.nil)))
   ·skip
    first | refine w_ldC1 a90 rfl rfl rdc ?_ | refine w_ldP1 a90 rfl rfl tk rdp ?_
    refine ws_nil ?_
    refine wr_next F (l := [7]) (by kernel_rfl) (by simp) (.cons rfl ?_ (.nil))
    refine w_call rfl rfl (CallW.mono (cloneL_frz _ (by omega) _) ?_)
    rintro _ _ ⟨rfl, rfl⟩
    try simp only [List.cons_append, List.nil_append]
    refine ws_nil ?_
    refine wr_float F 8 rfl (by kernel_rfl) (.inl (by kernel_rfl)) ?_
    refine w_build (v := .agg [_, _]) B104 rfl rfl rfl ?_
    refine ws_nil ?_
    refine wr_next F (l := [9]) (by kernel_rfl) (by simp) (.cons rfl ?_ (.nil))
    refine w_buildS (cs := eOne ⟨x.set, o6, x.l⟩) u90 s104 z104 (by decide) rfl rfl rfl (fun o30 => ?_)
    refine ws_nil ?_
    refine wr_next F (l := [10]) (by kernel_rfl) (by simp) (.cons rfl ?_ (.nil))
    refine w_appO (enc := eOne) (l := M) (m := [(⟨x.set, o6, x.l⟩ : Ser)]) rfl u90 s104 b104 z104 u90 (by simp) rfl rfl rfl tk nw bg bg (fun v31 => ?_)
    refine ws_nil ?_
    refine wr_float F 11 rfl (by kernel_rfl) (.inl (by kernel_rfl)) ?_
    refine w_nil rfl rfl rfl ?_
    refine ws_nil ?_
    refine wr_float F 12 rfl (by kernel_rfl) (.inl (by kernel_rfl)) ?_
    first | refine w_faddrC O92_0 rfl rfl ?_ | refine w_faddrP O92_0 rfl rfl ?_
    refine ws_nil ?_
    refine wr_next F (l := [13]) (by kernel_rfl) (by simp) (.cons rfl ?_ (.nil))
    refine WS.ownCells (v := v31) tk (fun c31 s31 => ?_)
    refine w_st s90 rfl rfl rfl tk (by rw [c31]; try rfl) (by rw [c31]; simpa using s31) (by rw [c31]; rfl) ?_
    refine ws_nil ?_
    refine wr_end F (by kernel_rfl) ?_
    refine wc_text ?_
    refine WS.drop (i := .obj o5 _) tk ?_
    refine WS.drop (i := .obj o30 _) tk ?_
    refine WS.weakH ((Sel.weak (.cons tk (.cons tk (.cons tk (.cons tk (.cons tk (.cons tk .rest))))))).trans (copy_out o o1 _ (.obj o1 (.row 92 1 false [v31])) (.own v31 104 2 ((M ++ [(⟨x.set, o6, x.l⟩ : Ser)]).flatMap eOne) (M ++ [(⟨x.set, o6, x.l⟩ : Ser)]).length) L M k ob x ⟨x.set, o6, x.l⟩ hx)) ?_
    refine w_add u3 rfl rfl rfl (by omega) ?_
    refine w_move rfl rfl ?_
    refine ws_nil ?_
    exact ⟨⟨(k + 1, v31, M ++ [⟨x.set, o6, x.l⟩]), (by omega : k + 1 ≤ L.length), by simp only; rw [List.map_append, hM, take_one (map_get hx)]; rfl, fun h => by simp at h⟩, by simp only; omega, (.cons rfl (.cons rfl (.cons rfl (.cons rfl (.cons rfl (.nil _)))))), (Sel.weak (.cons tk (.cons tk (.cons tk (.cons tk .rest)))))⟩
   ·skip
    refine w_call rfl rfl (CallW.mono (cloneL_frz _ (by omega) _) ?_)
    rintro _ _ ⟨rfl, rfl⟩
    try simp only [List.cons_append, List.nil_append]
    refine ws_nil ?_
    refine wr_float F 8 rfl (by kernel_rfl) (.inl (by kernel_rfl)) ?_
    refine w_build (v := .agg [_, _]) B104 rfl rfl rfl ?_
    refine ws_nil ?_
    refine wr_next F (l := [4, 9]) (by kernel_rfl) (by simp) (.cons rfl ?_ (.cons rfl ?_ (.nil)))
    ·skip
     first | refine w_ldC1 a90 rfl rfl rdc ?_ | refine w_ldP1 a90 rfl rfl tk rdp ?_
     refine ws_nil ?_
     refine wr_next F (l := [9]) (by kernel_rfl) (by simp) (.cons rfl ?_ (.nil))
     refine w_buildS (cs := eOne ⟨x.set, o6, x.l⟩) u90 s104 z104 (by decide) rfl rfl rfl (fun o30 => ?_)
     refine ws_nil ?_
     refine wr_next F (l := [10]) (by kernel_rfl) (by simp) (.cons rfl ?_ (.nil))
     refine w_appO (enc := eOne) (l := M) (m := [(⟨x.set, o6, x.l⟩ : Ser)]) rfl u90 s104 b104 z104 u90 (by simp) rfl rfl rfl tk nw bg bg (fun v31 => ?_)
     refine ws_nil ?_
     refine wr_float F 11 rfl (by kernel_rfl) (.inl (by kernel_rfl)) ?_
     refine w_nil rfl rfl rfl ?_
     refine ws_nil ?_
     refine wr_float F 12 rfl (by kernel_rfl) (.inl (by kernel_rfl)) ?_
     first | refine w_faddrC O92_0 rfl rfl ?_ | refine w_faddrP O92_0 rfl rfl ?_
     refine ws_nil ?_
     refine wr_next F (l := [13]) (by kernel_rfl) (by simp) (.cons rfl ?_ (.nil))
     refine WS.ownCells (v := v31) tk (fun c31 s31 => ?_)
     refine w_st s90 rfl rfl rfl tk (by rw [c31]; try rfl) (by rw [c31]; simpa using s31) (by rw [c31]; rfl) ?_
     refine ws_nil ?_
     refine wr_end F (by kernel_rfl) ?_
     refine wc_text ?_
     refine WS.drop (i := .obj o5 _) tk ?_
     refine WS.drop (i := .obj o30 _) tk ?_
     refine WS.weakH ((Sel.weak (.cons tk (.cons tk (.cons tk (.cons tk (.cons tk (.cons tk .rest))))))).trans (copy_out o o1 _ (.obj o1 (.row 92 1 false [v31])) (.own v31 104 2 ((M ++ [(⟨x.set, o6, x.l⟩ : Ser)]).flatMap eOne) (M ++ [(⟨x.set, o6, x.l⟩ : Ser)]).length) L M k ob x ⟨x.set, o6, x.l⟩ hx)) ?_
     refine w_add u3 rfl rfl rfl (by omega) ?_
     refine w_move rfl rfl ?_
     refine ws_nil ?_
     exact ⟨⟨(k + 1, v31, M ++ [⟨x.set, o6, x.l⟩]), (by omega : k + 1 ≤ L.length), by simp only; rw [List.map_append, hM, take_one (map_get hx)]; rfl, fun h => by simp at h⟩, by simp only; omega, (.cons rfl (.cons rfl (.cons rfl (.cons rfl (.cons rfl (.nil _)))))), (Sel.weak (.cons tk (.cons tk (.cons tk (.cons tk .rest)))))⟩
    ·skip
     refine w_buildS (cs := eOne ⟨x.set, o6, x.l⟩) u90 s104 z104 (by decide) rfl rfl rfl (fun o30 => ?_)
     refine ws_nil ?_
     refine wr_next F (l := [4]) (by kernel_rfl) (by simp) (.cons rfl ?_ (.nil))
     first | refine w_ldC1 a90 rfl rfl rdc ?_ | refine w_ldP1 a90 rfl rfl tk rdp ?_
     refine ws_nil ?_
     refine wr_next F (l := [10]) (by kernel_rfl) (by simp) (.cons rfl ?_ (.nil))
     refine w_appO (enc := eOne) (l := M) (m := [(⟨x.set, o6, x.l⟩ : Ser)]) rfl u90 s104 b104 z104 u90 (by simp) rfl rfl rfl tk nw bg bg (fun v31 => ?_)
     refine ws_nil ?_
     refine wr_float F 11 rfl (by kernel_rfl) (.inl (by kernel_rfl)) ?_
     refine w_nil rfl rfl rfl ?_
     refine ws_nil ?_
     refine wr_float F 12 rfl (by kernel_rfl) (.inl (by kernel_rfl)) ?_
     first | refine w_faddrC O92_0 rfl rfl ?_ | refine w_faddrP O92_0 rfl rfl ?_
     refine ws_nil ?_
     refine wr_next F (l := [13]) (by kernel_rfl) (by simp) (.cons rfl ?_ (.nil))
     refine WS.ownCells (v := v31) tk (fun c31 s31 => ?_)
     refine w_st s90 rfl rfl rfl tk (by rw [c31]; try rfl) (by rw [c31]; simpa using s31) (by rw [c31]; rfl) ?_
     refine ws_nil ?_
     refine wr_end F (by kernel_rfl) ?_
     refine wc_text ?_
     refine WS.drop (i := .obj o5 _) tk ?_
     refine WS.drop (i := .obj o30 _) tk ?_
     refine WS.weakH ((Sel.weak (.cons tk (.cons tk (.cons tk (.cons tk (.cons tk (.cons tk .rest))))))).trans (copy_out o o1 _ (.obj o1 (.row 92 1 false [v31])) (.own v31 104 2 ((M ++ [(⟨x.set, o6, x.l⟩ : Ser)]).flatMap eOne) (M ++ [(⟨x.set, o6, x.l⟩ : Ser)]).length) L M k ob x ⟨x.set, o6, x.l⟩ hx)) ?_
     refine w_add u3 rfl rfl rfl (by omega) ?_
     refine w_move rfl rfl ?_
     refine ws_nil ?_
     exact ⟨⟨(k + 1, v31, M ++ [⟨x.set, o6, x.l⟩]), (by omega : k + 1 ≤ L.length), by simp only; rw [List.map_append, hM, take_one (map_get hx)]; rfl, fun h => by simp at h⟩, by simp only; omega, (.cons rfl (.cons rfl (.cons rfl (.cons rfl (.cons rfl (.nil _)))))), (Sel.weak (.cons tk (.cons tk (.cons tk (.cons tk .rest)))))⟩
 ·replace h3 := of_decide_eq_false h3
  obtain rfl : k = L.length := by omega
  rw [show (L.map Ser.abs).take L.length = L.map Ser.abs from List.take_of_length_le (by omega)] at hM
  refine wc_exit ?_
  refine wc_seq ?_
  refine wc_text ?_
  refine w_move rfl rfl ?_
  refine w_assign rfl rfl ?_
  refine ws_nil ?_
  refine WC.weakH (copy_end o o1 v0 vk L M hv0 hvk) ?_
  rw [hM]
  refine wc_ret ?_
  refine ⟨_, _, (.cons (.tmp rfl) .nil), (Sel.weak .rest), ?_⟩
  exact ⟨_, rfl, rfl⟩

theorem copy_fn (o : Nat) (S : SS) (hs : Sane S) (R : List HI) : CallW C 19 [.ptr (some ⟨o, 0⟩)] (hiS o S :: R) fun v H => ∃ o1, v = .ptr (some ⟨o1, 0⟩) ∧ H = hiS o1 S :: hiS o S :: R :=
  CallW.openS fun v0 L e hv => by
    subst e
    refine CallW.mono (copy_in o v0 L hv hs R) ?_
    rintro v H ⟨H', rfl, o1, rfl, rfl⟩
    exact ⟨o1, rfl, rfl⟩
/-- A set that is handed out: what it is known by; what it holds. -/
structure OSet where
  v : AV
  set : List LD
noncomputable def eOS (x : OSet) : List AV := [x.v]
noncomputable def itS (x : OSet) : HI := .own x.v 42 2 (x.set.flatMap eL) x.set.length
theorem fill_one {va z : AV} (h1 : va.cells = [va]) (h2 : va.scalar = true) : fillV (fun i => some (i * 1, 1)) (repl 1 [z]) [(0, va)] = some [va] := by
  show (bnd (some (0, 1)) fun p => cnd (Nat.beq (lenA va.cells) p.2 && allA AV.scalar va.cells && Nat.ble (Nat.add p.1 p.2) 1) (bnd (over [z] p.1 va.cells) fun cs => some cs) none) = _
  rw [h1]
  have e1 : allA AV.scalar [va] = true := by rw [allA_eq]; simp [h2]
  rw [bnd_some, e1]; rfl
theorem sets_out (o : Nat) (v0 : AV) (A : HI) (L : List Ser) (M : List OSet) (ob : Nat) (y : OSet) (X : List HI) : Weak (.obj ob (.row 104 2 false (L.flatMap eOne)) :: .obj o (.row 92 1 false [v0]) :: A :: itS y :: (M.map itS ++ X)) (A :: .obj o (.row 92 1 false [v0]) :: .own (.slice (some ⟨ob, 0⟩) L.length (.op 0)) 104 2 (L.flatMap eOne) L.length :: ((M ++ [y]).map itS ++ X)) := by
  have e : (M ++ [y]).map itS ++ X = M.map itS ++ itS y :: X := by simp
  rw [e]
  exact (weak_close (flat_length (by intro _; rfl) _)).trans ((weak_take (.tail (.tail .head))).trans (weak_cons _ ((weak_two _ _ _).trans (weak_cons _ (weak_cons _ (take_back (take_pre (M.map itS) .head)))))))

set_option maxHeartbeats 4000000 in
theorem sets_own (o : Nat) (v0 : AV) (L : List Ser) (hv0 : L = [] → v0 = nilSlice) (hs : Sane (L.map Ser.abs)) (R : List HI) : CallW C 18 [.ptr (some ⟨o, 0⟩)] ([.obj o (.row 92 1 false [v0]), .own v0 104 2 (L.flatMap eOne) L.length] ++ L.map serI ++ R) fun v H => ∃ H', H = H' ++ R ∧ ∃ M : List OSet, M.map OSet.set = (L.map Ser.abs).map (fun x => x.1) ∧ H' = .own v 43 1 (M.flatMap eOS) M.length :: .obj o (.row 92 1 false [v0]) :: .own v0 104 2 (L.flatMap eOne) L.length :: (M.map itS ++ L.map serI) := by
 refine cw_sharedA (fn := Tryz.f18) rfl rfl rfl rfl (K := fun v H' => ∃ M : List OSet, M.map OSet.set = (L.map Ser.abs).map (fun x => x.1) ∧ H' = .own v 43 1 (M.flatMap eOS) M.length :: .obj o (.row 92 1 false [v0]) :: .own v0 104 2 (L.flatMap eOne) L.length :: (M.map itS ++ L.map serI)) ?_ R
 simp only [List.cons_append, List.nil_append]
 have hml : (L.map Ser.abs).length = L.length := List.length_map _
 have hL := hs.len
 rw [hml] at hL
 have hS : ∀ x ∈ L, x.set.length ≤ 6 := fun x hx => hs.sets x.abs (List.mem_map_of_mem hx)
 refine wc_seq ?_
 refine wc_text ?_
 refine w_assign rfl rfl ?_
 refine ws_nil ?_
 refine wc_seq ?_
 refine wc_text ?_
 refine w_assign rfl rfl ?_
 refine ws_nil ?_
 refine WC.ownNil 43 1 ?_
 refine wc_seq ?_
 refine wc_seq ?_
 refine wc_text ?_
 refine w_move rfl rfl ?_
 refine w_nil rfl rfl rfl ?_
 first | refine w_faddrC O92_0 rfl rfl ?_ | refine w_faddrP O92_0 rfl rfl ?_
 first | refine w_ldC1 a90 rfl rfl rdc ?_ | refine w_ldP1 a90 rfl rfl tk rdp ?_
 first | refine w_len rfl rfl (len_lst u90) ?_ | refine w_len rfl rfl (len_slice u90) ?_ | refine w_lenO rfl u90 rfl rfl tk ?_
 refine w_move rfl rfl ?_
 refine ws_nil ?_
 refine wc_block ?_
 refine wc_loop (σ := { u : Nat × AV × List OSet // u.1 ≤ L.length ∧ u.2.2.map OSet.set = ((L.map Ser.abs).take u.1).map (fun x => x.1) }) (fun u => [(0, .ptr (some ⟨o, 0⟩)), (3, u.1.2.1), (9, v0), (10, .int .i64 (L.length : Nat)), (11, .int .i64 (u.1.1 : Nat))]) (fun u => [.own u.1.2.1 43 1 (u.1.2.2.flatMap eOS) u.1.2.2.length, .obj o (.row 92 1 false [v0]), .own v0 104 2 (L.flatMap eOne) L.length] ++ (u.1.2.2.map itS ++ L.map serI)) (fun u => L.length - u.1.1) ?_ ⟨(0, nilSlice, []), Nat.zero_le _, by simp⟩ (.cons rfl (.cons rfl (.cons rfl (.cons rfl (.cons rfl (.nil _)))))) (Sel.weak (.cons tk (.cons tk (.cons tk .rest))))
 rintro ⟨⟨k, vk, M⟩, hk0, hM⟩
 try dsimp only
 simp only at hk0 hM
 simp only [List.cons_append, List.nil_append]
 have hMl : M.length = k := by
   have := congrArg List.length hM
   rw [List.length_map, List.length_map, List.length_take] at this; omega
 refine wc_seq ?_
 refine wc_text ?_
 refine w_lss u3 rfl rfl rfl ?_
 refine ws_nil ?_
 refine wc_seq ?_
 refine wc_cond rfl (fun h3 => ?_) (fun h3 => ?_)
 ·replace h3 := of_decide_eq_true h3
  refine wc_stay ?_
  refine wc_seq ?_
  refine wc_block ?_
  refine wc_seq ?_
  refine wc_text ?_
  obtain ⟨x, hx⟩ := get_of_lt (l := L) (k := k) (by omega)
  have hx6 := hS x (List.mem_of_getElem? hx)
  refine WS.openOwn (v := v0) tk (by omega) (fun ob hob => ?_)
  subst hob
  first | refine w_lidx u90 s104 rfl rfl rfl (by omega) ?_ | refine w_slidx u90 s104 rfl rfl rfl (by omega) ?_
  first | refine w_ldC a104 s104 rfl rfl agc ?_ | refine w_ldP a104 s104 rfl rfl tk agp ?_
  refine w_alloc z104 s104 rfl (fun o5 => ?_)
  refine w_st s104 rfl rfl rfl tk rfl rfl ovw ?_
  refine ws_nil ?_
  refine wc_text ?_
  refine w_move rfl rfl ?_
  first | refine w_faddrC O104_0 rfl rfl ?_ | refine w_faddrP O104_0 rfl rfl ?_
  first | refine w_ldC1 a43 rfl rfl rdc ?_ | refine w_ldP1 a43 rfl rfl tk rdp ?_
  refine w_call rfl rfl (CallW.mono (cloneL_fn x.set (by omega) _) ?_)
  rintro v18 _ rfl
  try simp only [List.cons_append, List.nil_append]
  refine WS.ownCells (v := v18) tk (fun c18 s18 => ?_)
  refine w_buildS (cs := [v18]) u49 s43 z43 (by decide) rfl rfl (fill_one c18 s18) (fun o19 => ?_)
  refine w_appO (enc := eOS) (l := M) (m := [(⟨v18, x.set⟩ : OSet)]) rfl u49 s43 b43 z43 u49 (by simp) rfl rfl rfl tk (new_obj (cs := [v18]) (.head) rfl (by show (v18.scalar && true) = true; rw [s18]; rfl)) bg bg (fun v20 => ?_)
  refine w_assign rfl rfl ?_
  refine ws_nil ?_
  refine wc_text ?_
  refine WS.drop (i := .obj o5 _) tk ?_
  refine WS.drop (i := .obj o19 _) tk ?_
  refine WS.weakH ((Sel.weak (.cons tk (.cons tk (.cons (i := .own v20 _ _ _ _) tk (.cons tk .rest))))).trans (sets_out o _ _ L M ob ⟨v18, x.set⟩ (L.map serI))) ?_
  refine w_add u3 rfl rfl rfl (by omega) ?_
  refine w_move rfl rfl ?_
  refine ws_nil ?_
  exact ⟨⟨(k + 1, v20, M ++ [⟨v18, x.set⟩]), (by omega : k + 1 ≤ L.length), by simp only; rw [List.map_append, hM, ← sets_one (map_get hx)]; rfl⟩, by simp only; omega, (.cons rfl (.cons rfl (.cons rfl (.cons rfl (.cons rfl (.nil _)))))), (Sel.weak (.cons tk (.cons tk (.cons tk .rest))))⟩
 ·replace h3 := of_decide_eq_false h3
  obtain rfl : k = L.length := by omega
  rw [show (L.map Ser.abs).take L.length = L.map Ser.abs from List.take_of_length_le (by omega)] at hM
  refine wc_exit ?_
  refine wc_seq ?_
  refine wc_text ?_
  refine w_move rfl rfl ?_
  refine w_assign rfl rfl ?_
  refine ws_nil ?_
  refine wc_ret ?_
  refine ⟨_, _, (.cons (.tmp rfl) .nil), (Sel.weak .rest), ?_⟩
  exact ⟨M, hM, rfl⟩

theorem sets_fo (o : Nat) (S : SS) (hs : Sane S) (R : List HI) : CallW C 18 [.ptr (some ⟨o, 0⟩)] (hiS o S :: R) fun v H => ∃ M : List OSet, M.map OSet.set = S.map (fun x => x.1) ∧ H = .own v 43 1 (M.flatMap eOS) M.length :: (M.map itS ++ hiS o S :: R) :=
  CallW.openS fun v0 L e hv => by
    subst e
    refine CallW.post (sets_own o v0 L hv hs R) ?_
    rintro v H ⟨H', rfl, M, hM, rfl⟩
    have h1 : Weak (.obj o (.row 92 1 false [v0]) :: .own v0 104 2 (L.flatMap eOne) L.length :: ((M.map itS ++ L.map serI) ++ R)) (M.map itS ++ (stI o v0 L ++ R)) := by
      rw [List.append_assoc]
      exact (weak_cons _ (take_back (take_pre (M.map itS) .head))).trans (take_back (take_pre (M.map itS) .head))
    exact ⟨_, weak_cons _ (h1.trans (weak_pre (M.map itS) (weak_closeS hv))), M, hM, rfl⟩
end Go.Proofs.YtlgofplbbmjdjaaGreatDoor.kx
namespace Go.Proofs.YtlgofplbbmjdjaaGreatDoor.kx
open Go Go.Proofs Go.Proofs.YtlgofplbbmjdjaaGreatDoor.BH
open Go.Proofs.YtlgofplbbmjdjaaGreatDoor.BH.Rt
open Go.Proofs.YtlgofplbbmjdjaaGreatDoor.BH.Dk (withinV withinV_in)
open Go.Proofs.YtlgofplbbmjdjaaGreatDoor.BH.Kx
set_option maxRecDepth 100000
theorem weak_swap : ∀ (A B : List HI), Weak (A ++ B) (B ++ A)
  | [], B => by rw [List.append_nil]; exact Weak.refl _
  | i :: A, B => (weak_cons i (weak_swap A B)).trans (take_back (take_pre B .head))

set_option maxHeartbeats 4000000 in
theorem copies_law (ks : List KS) (ls : List (List Int)) (tt : Int) (hks : ks.length ≤ 9223372036854775807) (hls : ls.length ≤ 9223372036854775807) (hk : ∀ k ∈ ks, k.has.length ≤ 9223372036854775807 ∧ k.vals.length ≤ 9223372036854775807) (hl : ∀ l ∈ ls, l.length ≤ 9223372036854775807) : PFn C 5 [.agg [AL eKS ks, AL eLL ls], .int .i64 tt] (.bool true) := by
 refine fn_view rfl rfl (fn := Tryz.f5) rfl rfl rfl rfl rfl ?_
 have hS := fill_sane ks ls
 have hR := fillW_right ks ls
 have hQ := fillW_small ks ls
 have hF := fillW_full ks ls
 have hSl := fillW_len ks ls
 have ha := withinV_in tt 0 300 (by decide)
 have hps := pick_small hS (withinV tt 0 300) 30 []
 refine wc_seq ?_
 refine wc_text ?_
 refine w_box (cs := [AL eKS ks, AL eLL ls]) s25 rfl rfl rfl rfl rfl (fun o2 => ?_)
 refine w_assign rfl rfl ?_
 refine ws_nil ?_
 refine WC.freezePtr (t := 2) (cs := [AL eKS ks, AL eLL ls]) rfl rfl .head rfl ?_
 refine wc_seq ?_
 refine wc_text ?_
 refine w_call rfl rfl (CallW.mono (new_fn _) ?_)
 rintro v18 _ ⟨_, rfl, o1, rfl, rfl⟩
 try simp only [List.cons_append, List.nil_append]
 refine w_call rfl rfl (CallW.mono (new_fn _) ?_)
 rintro v19 _ ⟨_, rfl, o2, rfl, rfl⟩
 try simp only [List.cons_append, List.nil_append]
 refine w_assign rfl rfl ?_
 refine w_assign rfl rfl ?_
 refine ws_nil ?_
 refine wc_seq ?_
 refine wc_seq ?_
 refine wc_text ?_
 refine w_move rfl rfl ?_
 refine w_ceql u27 (by simp) (by simp) rfl rfl rfl (cmp_ptr u27 rfl rfl) ?_
 refine w_move rfl rfl ?_
 refine ws_split (t := 22) rfl (fun g22 => ?_) (fun g22 => ?_)
 ·first | replace g22 := dT g22 | replace g22 := dF g22 | replace g22 := dFT g22 | replace g22 := dTF g22 | replace g22 := nb_T g22 | replace g22 := nb_F g22 | skip
  first | replace g22 := nL g22 | replace g22 := nM g22 | replace g22 := nN g22 | skip
  first | (exact absurd g22 (by decide)) | (simp at g22)
 ·first | replace g22 := dT g22 | replace g22 := dF g22 | replace g22 := dFT g22 | replace g22 := dTF g22 | replace g22 := nb_T g22 | replace g22 := nb_F g22 | skip
  first | replace g22 := nL g22 | replace g22 := nM g22 | replace g22 := nN g22 | skip
  refine ws_on rfl rfl ?_
  refine w_move rfl rfl ?_
  refine ws_on rfl rfl ?_
  refine w_ceql u27 (by simp) (by simp) rfl rfl rfl (cmp_ptr u27 rfl rfl) ?_
  first | refine w_pickT rfl rfl rfl ⟨_, rfl⟩ ?_ | refine w_pickF rfl rfl ⟨_, rfl⟩ rfl ?_ | refine w_pick rfl rfl rfl rfl ?_
  refine w_move rfl rfl ?_
  refine ws_split (t := 26) rfl (fun g26 => ?_) (fun g26 => ?_)
  ·first | replace g26 := dT g26 | replace g26 := dF g26 | replace g26 := dFT g26 | replace g26 := dTF g26 | replace g26 := nb_T g26 | replace g26 := nb_F g26 | skip
   first | replace g26 := nL g26 | replace g26 := nM g26 | replace g26 := nN g26 | skip
   first | (exact absurd g26 (by decide)) | (simp at g26)
  ·first | replace g26 := dT g26 | replace g26 := dF g26 | replace g26 := dFT g26 | replace g26 := dTF g26 | replace g26 := nb_T g26 | replace g26 := nb_F g26 | skip
   first | replace g26 := nL g26 | replace g26 := nM g26 | replace g26 := nN g26 | skip
   refine ws_on rfl rfl ?_
   first | refine w_ldC a25 s25 rfl rfl agc ?_ | refine w_ldP a25 s25 rfl rfl tk agp ?_
   refine ws_on rfl rfl ?_
   refine w_move rfl rfl ?_
   refine ws_on rfl rfl ?_
   refine w_func rfl rfl rfl ?_
   refine ws_on rfl rfl ?_
   refine w_call rfl rfl (CallW.mono (CallW.take tk (fillS_in o1 ks ls hks hls hk hl _)) ?_)
   rintro _ _ ⟨_, rfl, rfl, rfl⟩
   try simp only [List.cons_append, List.nil_append]
   try simp only [List.cons_append, List.nil_append]
   refine ws_on rfl rfl ?_
   refine w_not rfl rfl ?_
   first | refine w_pickT rfl rfl rfl ⟨_, rfl⟩ ?_ | refine w_pickF rfl rfl ⟨_, rfl⟩ rfl ?_ | refine w_pick rfl rfl rfl rfl ?_
   refine w_move rfl rfl ?_
   refine ws_split (t := 33) rfl (fun g33 => ?_) (fun g33 => ?_)
   ·first | replace g33 := dT g33 | replace g33 := dF g33 | replace g33 := dFT g33 | replace g33 := dTF g33 | replace g33 := nb_T g33 | replace g33 := nb_F g33 | skip
    first | replace g33 := nL g33 | replace g33 := nM g33 | replace g33 := nN g33 | skip
    first | (exact absurd g33 (by decide)) | (simp at g33)
   ·first | replace g33 := dT g33 | replace g33 := dF g33 | replace g33 := dFT g33 | replace g33 := dTF g33 | replace g33 := nb_T g33 | replace g33 := nb_F g33 | skip
    first | replace g33 := nL g33 | replace g33 := nM g33 | replace g33 := nN g33 | skip
    refine ws_on rfl rfl ?_
    first | refine w_ldC a25 s25 rfl rfl agc ?_ | refine w_ldP a25 s25 rfl rfl tk agp ?_
    refine ws_on rfl rfl ?_
    refine w_move rfl rfl ?_
    refine ws_on rfl rfl ?_
    refine w_func rfl rfl rfl ?_
    refine ws_on rfl rfl ?_
    refine w_call rfl rfl (CallW.mono (CallW.take tk (fillS_in o2 ks ls hks hls hk hl _)) ?_)
    rintro _ _ ⟨_, rfl, rfl, rfl⟩
    try simp only [List.cons_append, List.nil_append]
    try simp only [List.cons_append, List.nil_append]
    refine ws_on rfl rfl ?_
    refine w_not rfl rfl ?_
    first | refine w_pickT rfl rfl rfl ⟨_, rfl⟩ ?_ | refine w_pickF rfl rfl ⟨_, rfl⟩ rfl ?_ | refine w_pick rfl rfl rfl rfl ?_
    refine ws_nil ?_
    refine wc_cond rfl (fun h2 => ?_) (fun h2 => ?_)
    ·first | replace h2 := dT h2 | replace h2 := dF h2 | replace h2 := dFT h2 | replace h2 := dTF h2 | replace h2 := nb_T h2 | replace h2 := nb_F h2 | skip
     first | replace h2 := nL h2 | replace h2 := nM h2 | replace h2 := nN h2 | skip
     first | (exact absurd h2 (by decide)) | (simp at h2)
    ·skip
     refine wc_stay ?_
     refine wc_seq ?_
     refine wc_text ?_
     refine w_move rfl rfl ?_
     refine w_call rfl rfl (CallW.mono (CallW.take tk (copy_fn o1 (fillW ks ls) hS _)) ?_)
     rintro _ _ ⟨o3, rfl, rfl⟩
     try simp only [List.cons_append, List.nil_append]
     refine w_assign rfl rfl ?_
     refine ws_nil ?_
     refine wc_seq ?_
     refine wc_seq ?_
     refine wc_text ?_
     refine w_move rfl rfl ?_
     refine w_ceql u27 (by simp) (by simp) rfl rfl rfl (cmp_ptr u27 rfl rfl) ?_
     refine ws_nil ?_
     refine wc_cond rfl (fun h5 => ?_) (fun h5 => ?_)
     ·first | replace h5 := dT h5 | replace h5 := dF h5 | replace h5 := dFT h5 | replace h5 := dTF h5 | replace h5 := nb_T h5 | replace h5 := nb_F h5 | skip
      first | replace h5 := nL h5 | replace h5 := nM h5 | replace h5 := nN h5 | skip
      first | (exact absurd h5 (by decide)) | (simp at h5)
     ·skip
      refine wc_stay ?_
      refine wc_seq ?_
      refine wc_text ?_
      refine w_assign rfl rfl ?_
      refine ws_nil ?_
      refine wc_seq ?_
      refine wc_seq ?_
      refine wc_text ?_
      refine w_move rfl rfl ?_
      refine w_call rfl rfl (CallW.mono (CallW.take tk (sets_fo o1 (fillW ks ls) hS _)) ?_)
      rintro v45 _ ⟨M, hM, rfl⟩
      have hMl : M.length = (fillW ks ls).length := by
        have := congrArg List.length hM
        rwa [List.length_map, List.length_map] at this
      try simp only [List.cons_append, List.nil_append]
      first | refine w_len rfl rfl (len_lst u49) ?_ | refine w_len rfl rfl (len_slice u49) ?_ | refine w_lenO rfl u49 rfl rfl tk ?_
      refine w_move rfl rfl ?_
      refine ws_nil ?_
      refine WC.weakH (HF' := .own v45 43 1 (M.flatMap eOS) M.length :: ([hiS o1 (fillW ks ls), hiS o2 (fillW ks ls), hiS o3 (fillW ks ls)] ++ M.map itS)) ((weak_cons _ (weak_swap (M.map itS) [hiS o1 (fillW ks ls), hiS o3 (fillW ks ls), hiS o2 (fillW ks ls)])).trans (by simp only [List.cons_append, List.nil_append]; exact Sel.weak (.cons tk (.cons (i := hiS o1 (fillW ks ls)) tk (.cons (i := hiS o2 (fillW ks ls)) tk (.cons (i := hiS o3 (fillW ks ls)) tk .rest)))))) ?_
      rw [show hiS o3 (fillW ks ls) = hiS o3 (cpS (fillW ks ls) 0) by rw [cp_zero]]
      refine wc_block ?_
      refine wc_loop (σ := { k : Nat // k ≤ M.length }) (fun u => [(1, .int .i64 tt), (5, .ptr (some ⟨o1, 0⟩)), (6, .ptr (some ⟨o2, 0⟩)), (7, .ptr (some ⟨o3, 0⟩)), (8, .int .i64 (totS (fillW ks ls) u.1 : Nat)), (45, v45), (46, .int .i64 (M.length : Nat)), (47, .int .i64 (u.1 : Nat))]) (fun u => [.own v45 43 1 (M.flatMap eOS) M.length, hiS o1 (fillW ks ls), hiS o2 (fillW ks ls), hiS o3 (cpS (fillW ks ls) u.1)] ++ (M.drop u.1).map itS) (fun u => M.length - u.1) ?_ ⟨0, Nat.zero_le _⟩ (.cons rfl (.cons rfl (.cons rfl (.cons rfl (.cons rfl (.cons rfl (.cons rfl (.cons rfl (.nil _))))))))) (Sel.weak (.cons tk (.cons tk (.cons tk (.cons tk .rest)))))
      rintro ⟨k, hk0⟩
      try dsimp only
      simp only [List.cons_append, List.nil_append]
      have htl := tot_le hS k
      refine wc_seq ?_
      refine wc_text ?_
      refine w_lss u3 rfl rfl rfl ?_
      refine ws_nil ?_
      refine wc_seq ?_
      refine wc_cond rfl (fun h9 => ?_) (fun h9 => ?_)
      ·replace h9 := of_decide_eq_true h9
       refine wc_stay ?_
       refine wc_seq ?_
       refine wc_block ?_
       refine wc_seq ?_
       refine wc_text ?_
       obtain ⟨y, hy⟩ := get_of_lt (l := M) (k := k) (by omega)
       obtain ⟨x, hx⟩ := get_of_lt (l := (fillW ks ls)) (k := k) (by omega)
       have hyx : y.set = x.1 := by
         have := congrArg (fun z => z[k]?) hM
         simp only [List.getElem?_map, hy, hx, Option.map_some, Option.some.injEq] at this
         exact this
       have hxm := List.mem_of_getElem? hx
       have hxl := hS.lens x hxm
       have hx6 : y.set.length ≤ 6 := by rw [hyx]; exact hS.sets x hxm
       have hx0 : 0 < y.set.length := by rw [hyx]; exact List.length_pos_iff.mpr (hF x hxm)
       have hsm : samplesV (fillW ks ls) y.set = x.2 := by rw [hyx]; exact samples_here hS hR hx
       refine WS.openOwn (v := v45) tk (by omega) (fun o45 h45 => ?_)
       subst h45
       first | refine w_lidx u49 s43 rfl rfl rfl (by omega) ?_ | refine w_slidx u49 s43 rfl rfl rfl (by omega) ?_
       first | refine w_ldC1 a43 rfl rfl rdc ?_ | refine w_ldP1 a43 rfl rfl tk rdp ?_
       refine w_assign rfl rfl ?_
       refine ws_nil ?_
       rw [drop_one hy, List.map_cons]
       refine WC.openOwn (v := y.v) (e := 42) (s := 2) (m := y.set.length) (cells := y.set.flatMap eL) tk (by omega) (fun oy hoy => ?_)
       rw [hoy]
       refine wc_seq ?_
       refine wc_text ?_
       refine w_move rfl rfl ?_
       refine w_move rfl rfl ?_
       refine w_call rfl rfl (CallW.mono (CallW.weak (Sel.weak (.cons tk (.cons tk .rest))) (samples_fo oy o1 (fillW ks ls) hS y.set (by omega) _)) ?_)
       rintro v53 _ rfl
       rw [hsm]
       try simp only [List.cons_append, List.nil_append]
       refine w_assign rfl rfl ?_
       refine ws_nil ?_
       refine wc_seq ?_
       refine wc_text ?_
       refine w_move rfl rfl ?_
       refine w_move rfl rfl ?_
       first | refine w_len rfl rfl (len_lst u52) ?_ | refine w_len rfl rfl (len_slice u52) ?_ | refine w_lenO rfl u52 rfl rfl tk ?_
       refine w_add u3 rfl rfl rfl (by omega) ?_
       refine w_assign rfl rfl ?_
       refine ws_nil ?_
       refine wc_seq ?_
       refine wc_seq ?_
       refine wc_text ?_
       refine w_move rfl rfl ?_
       first | refine w_len rfl rfl (len_lst u52) ?_ | refine w_len rfl rfl (len_slice u52) ?_ | refine w_lenO rfl u52 rfl rfl tk ?_
       refine w_move rfl rfl ?_
       refine ws_nil ?_
       refine wc_block ?_
       refine wc_loop (σ := { u : Nat × List SM // u.1 ≤ x.2.length ∧ u.2.length = x.2.length }) (fun w => [(1, .int .i64 tt), (5, .ptr (some ⟨o1, 0⟩)), (6, .ptr (some ⟨o2, 0⟩)), (7, .ptr (some ⟨o3, 0⟩)), (8, .int .i64 (((totS (fillW ks ls) k : Nat) : Int) + (x.2.length : Nat))), (45, .slice (some ⟨o45, 0⟩) M.length (.op 0)), (46, .int .i64 (M.length : Nat)), (47, .int .i64 (k : Nat)), (10, .slice (some ⟨oy, 0⟩) y.set.length (.op 0)), (11, v53), (58, v53), (59, .int .i64 (x.2.length : Nat)), (60, .int .i64 (w.1.1 : Nat))]) (fun w => [.own v53 46 2 (w.1.2.flatMap eSm) x.2.length, .obj oy (.row 42 2 false (y.set.flatMap eL)), .obj o45 (.row 43 1 false (M.flatMap eOS)), hiS o1 (fillW ks ls), hiS o2 (fillW ks ls), hiS o3 (cpS (fillW ks ls) k)] ++ (M.drop (k + 1)).map itS) (fun w => x.2.length - w.1.1) ?_ ⟨(0, x.2), Nat.zero_le _, rfl⟩ (.cons rfl (.cons rfl (.cons rfl (.cons rfl (.cons rfl (.cons rfl (.cons rfl (.cons rfl (.cons rfl (.cons rfl (.cons rfl (.cons rfl (.cons rfl (.nil _)))))))))))))) (Sel.weak (.cons tk (.cons tk (.cons tk (.cons tk (.cons tk (.cons tk .rest)))))))
       rintro ⟨⟨i, N⟩, hi, hN⟩
       try dsimp only
       simp only at hi hN
       simp only [List.cons_append, List.nil_append]
       refine wc_seq ?_
       refine wc_text ?_
       refine w_lss u3 rfl rfl rfl ?_
       refine ws_nil ?_
       refine wc_seq ?_
       refine wc_cond rfl (fun h14 => ?_) (fun h14 => ?_)
       ·replace h14 := of_decide_eq_true h14
        refine wc_stay ?_
        refine wc_seq ?_
        refine wc_block ?_
        refine wc_seq ?_
        refine wc_text ?_
        refine w_move rfl rfl ?_
        refine w_assign rfl rfl ?_
        refine ws_nil ?_
        refine wc_text ?_
        obtain ⟨z, hz⟩ := get_of_lt (l := N) (k := i) (by omega)
        refine WS.openOwn (v := v53) tk (by omega) (fun o53 h53 => ?_)
        subst h53
        refine w_move rfl rfl ?_
        refine w_move rfl rfl ?_
        refine w_build (v := .agg [_, _]) B46 rfl rfl rfl ?_
        first | refine w_lidx u52 s46 rfl rfl rfl (by omega) ?_ | refine w_slidx u52 s46 rfl rfl rfl (by omega) ?_
        refine w_st s46 rfl rfl rfl tk rfl rfl (flat_setP0 (enc := eSm) (y := (⟨-1, 0⟩ : SM)) (by intro _; rfl) hz rfl rfl) ?_
        refine ws_nil ?_
        refine wc_text ?_
        refine WS.closeOwn (m := x.2.length) (o := o53) tk (by rw [flat_length (s := 2) (by intro _; rfl), List.length_set, hN]) ?_
        refine w_add u3 rfl rfl rfl (by omega) ?_
        refine w_move rfl rfl ?_
        refine ws_nil ?_
        exact ⟨⟨(i + 1, N.set i ⟨-1, 0⟩), (by omega : i + 1 ≤ x.2.length), by simp only; rw [List.length_set]; exact hN⟩, by simp only; omega, (.cons rfl (.cons rfl (.cons rfl (.cons rfl (.cons rfl (.cons rfl (.cons rfl (.cons rfl (.cons rfl (.cons rfl (.cons rfl (.cons rfl (.cons rfl (.nil _)))))))))))))), (Sel.weak (.cons tk (.cons tk (.cons tk (.cons tk (.cons tk (.cons tk .rest)))))))⟩
       ·replace h14 := of_decide_eq_false h14
        refine wc_exit ?_
        refine wc_seq ?_
        refine wc_text ?_
        refine WS.drop (i := .own v53 _ _ _ _) tk ?_
        refine w_buildS (cs := []) u43 s42 z42 (by decide) rfl rfl rfl (fun o68 => ?_)
        refine w_move rfl rfl ?_
        refine WS.ownEmpty (v := .slice (some ⟨o68, 0⟩) 0 (.exact 0)) (.inl ⟨_, rfl⟩) 42 2 ?_
        refine w_appO (enc := eL) (l := []) (m := y.set) rfl u43 s42 b42 z42 u43 (by simp) rfl rfl rfl tk (new_obj (o := oy) tk (flat_length (by intro _; rfl) _) (flat_scalar (by intro _; rfl) _)) bg bg (fun v70 => ?_)
        refine w_assign rfl rfl ?_
        refine ws_nil ?_
        refine WC.drop (i := .obj o68 _) tk ?_
        refine WC.freeze (t := 13) (v' := AL eL y.set) rfl rfl (.ownK rfl tk (flat_done (by intro _; rfl) _)) rfl ?_
        refine wc_seq ?_
        refine wc_seq ?_
        refine wc_text ?_
        refine w_move rfl rfl ?_
        first | refine w_len rfl rfl (len_lst u43) ?_ | refine w_len rfl rfl (len_slice u43) ?_ | refine w_lenO rfl u43 rfl rfl tk ?_
        refine w_move rfl rfl ?_
        refine ws_nil ?_
        refine wc_block ?_
        refine wc_loop (σ := { u : Nat × List LD // u.1 ≤ y.set.length ∧ u.2.length = y.set.length }) (fun w => [(1, .int .i64 tt), (5, .ptr (some ⟨o1, 0⟩)), (6, .ptr (some ⟨o2, 0⟩)), (7, .ptr (some ⟨o3, 0⟩)), (8, .int .i64 (((totS (fillW ks ls) k : Nat) : Int) + (x.2.length : Nat))), (45, .slice (some ⟨o45, 0⟩) M.length (.op 0)), (46, .int .i64 (M.length : Nat)), (47, .int .i64 (k : Nat)), (10, .slice (some ⟨oy, 0⟩) y.set.length (.op 0)), (13, AL eL y.set), (71, .slice (some ⟨oy, 0⟩) y.set.length (.op 0)), (72, .int .i64 (y.set.length : Nat)), (73, .int .i64 (w.1.1 : Nat))]) (fun w => [.obj oy (.row 42 2 false (w.1.2.flatMap eL)), .obj o45 (.row 43 1 false (M.flatMap eOS)), hiS o1 (fillW ks ls), hiS o2 (fillW ks ls), hiS o3 (cpS (fillW ks ls) k)] ++ (M.drop (k + 1)).map itS) (fun w => y.set.length - w.1.1) ?_ ⟨(0, y.set), Nat.zero_le _, rfl⟩ (.cons rfl (.cons rfl (.cons rfl (.cons rfl (.cons rfl (.cons rfl (.cons rfl (.cons rfl (.cons rfl (.cons rfl (.cons rfl (.cons rfl (.cons rfl (.nil _)))))))))))))) (Sel.weak (.cons tk (.cons tk (.cons tk (.cons tk (.cons tk .rest))))))
        rintro ⟨⟨i, N⟩, hi, hN⟩
        try dsimp only
        simp only at hi hN
        simp only [List.cons_append, List.nil_append]
        refine wc_seq ?_
        refine wc_text ?_
        refine w_lss u3 rfl rfl rfl ?_
        refine ws_nil ?_
        refine wc_seq ?_
        refine wc_cond rfl (fun h20 => ?_) (fun h20 => ?_)
        ·replace h20 := of_decide_eq_true h20
         refine wc_stay ?_
         refine wc_seq ?_
         refine wc_block ?_
         refine wc_seq ?_
         refine wc_text ?_
         refine w_move rfl rfl ?_
         refine w_assign rfl rfl ?_
         refine ws_nil ?_
         refine wc_text ?_
         obtain ⟨z, hz⟩ := get_of_lt (l := N) (k := i) (by omega)
         refine w_move rfl rfl ?_
         refine w_move rfl rfl ?_
         first | refine w_lidx u43 s42 rfl rfl rfl (by omega) ?_ | refine w_slidx u43 s42 rfl rfl rfl (by omega) ?_
         first | refine w_faddrC O42_1 rfl rfl ?_ | refine w_faddrP O42_1 rfl rfl ?_
         refine w_st s9 rfl rfl rfl tk rfl rfl (flat_setP (off := 1) (enc := eL) (y := (⟨z.name, [116, 117, 114, 110, 101, 100]⟩ : LD)) (by intro _; rfl) hz rfl rfl) ?_
         refine ws_nil ?_
         refine wc_text ?_
         refine w_add u3 rfl rfl rfl (by omega) ?_
         refine w_move rfl rfl ?_
         refine ws_nil ?_
         exact ⟨⟨(i + 1, N.set i ⟨z.name, [116, 117, 114, 110, 101, 100]⟩), (by omega : i + 1 ≤ y.set.length), by simp only; rw [List.length_set]; exact hN⟩, by simp only; omega, (.cons rfl (.cons rfl (.cons rfl (.cons rfl (.cons rfl (.cons rfl (.cons rfl (.cons rfl (.cons rfl (.cons rfl (.cons rfl (.cons rfl (.cons rfl (.nil _)))))))))))))), (Sel.weak (.cons tk (.cons tk (.cons tk (.cons tk (.cons tk .rest))))))⟩
        ·replace h20 := of_decide_eq_false h20
         refine wc_exit ?_
         refine wc_seq ?_
         refine wc_seq ?_
         refine wc_text ?_
         refine WS.drop (i := .obj oy _) tk ?_
         refine w_move rfl rfl ?_
         refine w_move rfl rfl ?_
         refine w_call rfl rfl (CallW.mono (CallW.take tk (samples_fn o1 (fillW ks ls) hS y.set (by omega) _)) ?_)
         rintro v83 _ rfl
         rw [hsm]
         try simp only [List.cons_append, List.nil_append]
         refine w_move rfl rfl ?_
         refine w_move rfl rfl ?_
         refine w_call rfl rfl (CallW.mono (CallW.take tk (samples_fn o2 (fillW ks ls) hS y.set (by omega) _)) ?_)
         rintro v86 _ rfl
         rw [hsm]
         try simp only [List.cons_append, List.nil_append]
         refine w_call rfl rfl (cw_fn rfl rfl (.cons fz (.cons fz .nil)) (sameSm_fn x.2 x.2 (by omega)) ?_)
         refine w_not rfl rfl ?_
         refine ws_nil ?_
         refine wc_cond rfl (fun h24 => ?_) (fun h24 => ?_)
         ·first | replace h24 := dT h24 | replace h24 := dF h24 | replace h24 := dFT h24 | replace h24 := dTF h24 | replace h24 := nb_T h24 | replace h24 := nb_F h24 | skip
          first | replace h24 := nL h24 | replace h24 := nM h24 | replace h24 := nN h24 | skip
          first | (exact absurd h24 (by decide)) | (simp at h24)
         ·skip
          refine wc_stay ?_
          refine wc_seq ?_
          refine wc_text ?_
          refine w_move rfl rfl ?_
          refine w_move rfl rfl ?_
          refine w_build (v := .agg [_, _]) B46 rfl rfl rfl ?_
          refine w_call rfl rfl (CallW.mono (CallW.take tk (put_fn o3 (cpS (fillW ks ls) k) (cp_sane hS hR hQ k (by omega)) y.set endS (by omega) _)) ?_)
          rintro _ _ ⟨rfl, rfl⟩
          rw [hyx, (cp_put hS hR hQ hx).1, (cp_put hS hR hQ hx).2]
          try simp only [List.cons_append, List.nil_append]
          refine w_neq u44 rfl rfl rfl ?_
          refine ws_nil ?_
          refine wc_cond rfl (fun h26 => ?_) (fun h26 => ?_)
          ·first | replace h26 := dT h26 | replace h26 := dF h26 | replace h26 := dFT h26 | replace h26 := dTF h26 | replace h26 := nb_T h26 | replace h26 := nb_F h26 | skip
           first | replace h26 := nL h26 | replace h26 := nM h26 | replace h26 := nN h26 | skip
           first | (exact absurd h26 (by decide)) | (simp at h26)
          ·skip
           refine wc_stay ?_
           refine wc_text ?_
           refine WS.drop (i := .own v86 _ _ _ _) tk ?_
           refine WS.drop (i := .own v83 _ _ _ _) tk ?_
           refine WS.closeOwn (m := M.length) (o := o45) tk (flat_length (by intro _; rfl) _) ?_
           rw [show ((totS (fillW ks ls) k : Nat) : Int) + (x.2.length : Nat) = ((totS (fillW ks ls) (k + 1) : Nat) : Int) by rw [tot_one hx]; rfl]
           refine w_add u3 rfl rfl rfl (by omega) ?_
           refine w_move rfl rfl ?_
           refine ws_nil ?_
           exact ⟨⟨k + 1, by omega⟩, by simp only; omega, (.cons rfl (.cons rfl (.cons rfl (.cons rfl (.cons rfl (.cons rfl (.cons rfl (.cons rfl (.nil _))))))))), (Sel.weak (.cons tk (.cons tk (.cons tk (.cons tk .rest)))))⟩
      ·replace h9 := of_decide_eq_false h9
       obtain rfl : k = M.length := by omega
       refine wc_exit ?_
       refine wc_seq ?_
       refine wc_text ?_
       refine w_move rfl rfl ?_
       refine w_call rfl rfl (cw_fn rfl rfl (.cons fz (.cons fz (.cons fz .nil))) (within_fn tt 0 300 (by omega) (by omega) (by omega)) ?_)
       refine w_assign rfl rfl ?_
       refine ws_nil ?_
       refine wc_seq ?_
       refine wc_text ?_
       refine w_move rfl rfl ?_
       refine w_move rfl rfl ?_
       refine w_call rfl rfl (CallW.mono (CallW.take tk (CallW.leArgs (.cons (VRLe.refl _) (.cons (VRLe.refl _) (.cons (VRLe.refl _) (.cons (nil_le false true rfl) .nil)))) (pick_fn o1 (fillW ks ls) hS (withinV tt 0 300) 30 [] (by omega) (by decide) (by decide) _))) ?_)
       rintro _ _ ⟨rfl, rfl⟩
       try simp only [List.cons_append, List.nil_append]
       refine w_move rfl rfl ?_
       refine w_move rfl rfl ?_
       refine w_call rfl rfl (CallW.mono (CallW.take tk (CallW.leArgs (.cons (VRLe.refl _) (.cons (VRLe.refl _) (.cons (VRLe.refl _) (.cons (nil_le false true rfl) .nil)))) (pick_fn o2 (fillW ks ls) hS (withinV tt 0 300) 30 [] (by omega) (by decide) (by decide) _))) ?_)
       rintro _ _ ⟨rfl, rfl⟩
       try simp only [List.cons_append, List.nil_append]
       refine w_assign rfl rfl ?_
       refine w_assign rfl rfl ?_
       refine ws_nil ?_
       refine wc_seq ?_
       refine wc_seq ?_
       refine wc_text ?_
       refine w_move rfl rfl ?_
       refine w_move rfl rfl ?_
       refine w_call rfl rfl (cw_fn rfl rfl (.cons fz (.cons fz .nil)) (points_fn _ _ (by have := hps.1; omega) (fun p hp => by have := hps.2 p hp; omega)) ?_)
       refine w_not rfl rfl ?_
       refine w_move rfl rfl ?_
       refine ws_split (t := 107) rfl (fun g107 => ?_) (fun g107 => ?_)
       ·first | replace g107 := dT g107 | replace g107 := dF g107 | replace g107 := dFT g107 | replace g107 := dTF g107 | replace g107 := nb_T g107 | replace g107 := nb_F g107 | skip
        first | replace g107 := nL g107 | replace g107 := nM g107 | replace g107 := nN g107 | skip
        first | (exact absurd g107 (by decide)) | (simp at g107)
       ·first | replace g107 := dT g107 | replace g107 := dF g107 | replace g107 := dFT g107 | replace g107 := dTF g107 | replace g107 := nb_T g107 | replace g107 := nb_F g107 | skip
        first | replace g107 := nL g107 | replace g107 := nM g107 | replace g107 := nN g107 | skip
        refine ws_on rfl rfl ?_
        refine w_move rfl rfl ?_
        refine ws_on rfl rfl ?_
        refine w_call rfl rfl (CallW.mono (CallW.take tk (sets_fn o1 (fillW ks ls) hS _)) ?_)
        rintro _ _ ⟨rfl, rfl⟩
        try simp only [List.cons_append, List.nil_append]
        refine ws_on rfl rfl ?_
        first | refine w_len rfl rfl (len_lst u49) ?_ | refine w_len rfl rfl (len_slice u49) ?_ | refine w_lenO rfl u49 rfl rfl tk ?_
        refine ws_on rfl rfl ?_
        refine w_move rfl rfl ?_
        refine ws_on rfl rfl ?_
        refine w_call rfl rfl (CallW.mono (CallW.take tk (sets_fn o2 (fillW ks ls) hS _)) ?_)
        rintro _ _ ⟨rfl, rfl⟩
        try simp only [List.cons_append, List.nil_append]
        refine ws_on rfl rfl ?_
        first | refine w_len rfl rfl (len_lst u49) ?_ | refine w_len rfl rfl (len_slice u49) ?_ | refine w_lenO rfl u49 rfl rfl tk ?_
        refine ws_on rfl rfl ?_
        refine w_neq u3 rfl rfl rfl ?_
        first | refine w_pickT rfl rfl rfl ⟨_, rfl⟩ ?_ | refine w_pickF rfl rfl ⟨_, rfl⟩ rfl ?_ | refine w_pick rfl rfl rfl rfl ?_
        refine ws_nil ?_
        refine wc_cond rfl (fun h31 => ?_) (fun h31 => ?_)
        ·first | replace h31 := dT h31 | replace h31 := dF h31 | replace h31 := dFT h31 | replace h31 := dTF h31 | replace h31 := nb_T h31 | replace h31 := nb_F h31 | skip
         first | replace h31 := nL h31 | replace h31 := nM h31 | replace h31 := nN h31 | skip
         first | (exact absurd h31 (by decide)) | (simp at h31)
        ·skip
         refine wc_stay ?_
         refine wc_seq ?_
         refine wc_text ?_
         have hTot : ((totS (fillW ks ls) (fillW ks ls).length : Nat) : Int) = ((totS (fillW ks ls) M.length : Nat) : Int) := by rw [hMl]
         have hcl := cp_len (fillW ks ls) M.length
         refine w_move rfl rfl ?_
         refine w_call rfl rfl (CallW.mono (CallW.take tk (cut_fn o1 (fillW ks ls) hS _)) ?_)
         rintro _ _ ⟨rfl, rfl⟩
         try simp only [List.cons_append, List.nil_append]
         refine w_move rfl rfl ?_
         refine w_eql u3 rfl rfl rfl ?_
         refine w_move rfl rfl ?_
         refine ws_split (t := 120) rfl (fun g120 => ?_) (fun g120 => ?_)
         ·first | replace g120 := dT g120 | replace g120 := dF g120 | replace g120 := dFT g120 | replace g120 := dTF g120 | replace g120 := nb_T g120 | replace g120 := nb_F g120 | skip
          first | replace g120 := nL g120 | replace g120 := nM g120 | replace g120 := nN g120 | skip
          refine ws_on rfl rfl ?_
          refine w_move rfl rfl ?_
          refine ws_on rfl rfl ?_
          refine w_call rfl rfl (CallW.mono (CallW.take tk (sets_fn o1 [] sane_nil _)) ?_)
          rintro _ _ ⟨rfl, rfl⟩
          try simp only [List.cons_append, List.nil_append]
          refine ws_on rfl rfl ?_
          first | refine w_len rfl rfl (len_lst u49) ?_ | refine w_len rfl rfl (len_slice u49) ?_ | refine w_lenO rfl u49 rfl rfl tk ?_
          refine ws_on rfl rfl ?_
          refine w_eql u3 rfl rfl rfl ?_
          first | refine w_pickT rfl rfl rfl ⟨_, rfl⟩ ?_ | refine w_pickF rfl rfl ⟨_, rfl⟩ rfl ?_ | refine w_pick rfl rfl rfl rfl ?_
          refine w_move rfl rfl ?_
          refine ws_split (t := 126) rfl (fun g126 => ?_) (fun g126 => ?_)
          ·first | replace g126 := dT g126 | replace g126 := dF g126 | replace g126 := dFT g126 | replace g126 := dTF g126 | replace g126 := nb_T g126 | replace g126 := nb_F g126 | skip
           first | replace g126 := nL g126 | replace g126 := nM g126 | replace g126 := nN g126 | skip
           refine ws_on rfl rfl ?_
           refine w_move rfl rfl ?_
           refine ws_on rfl rfl ?_
           refine w_move rfl rfl ?_
           refine ws_on rfl rfl ?_
           refine w_call rfl rfl (CallW.mono (CallW.take tk (CallW.leArgs (.cons (VRLe.refl _) (.cons (VRLe.refl _) (.cons (VRLe.refl _) (.cons (nil_le false true rfl) .nil)))) (pick_fn o1 [] sane_nil (withinV tt 0 300) 30 [] (by omega) (by decide) (by decide) _))) ?_)
           rintro _ _ ⟨rfl, rfl⟩
           try simp only [List.cons_append, List.nil_append]
           refine ws_on rfl rfl ?_
           first | refine w_len rfl rfl (len_lst u36) ?_ | refine w_len rfl rfl (len_slice u36) ?_ | refine w_lenO rfl u36 rfl rfl tk ?_
           refine ws_on rfl rfl ?_
           refine w_eql u3 rfl rfl rfl ?_
           first | refine w_pickT rfl rfl rfl ⟨_, rfl⟩ ?_ | refine w_pickF rfl rfl ⟨_, rfl⟩ rfl ?_ | refine w_pick rfl rfl rfl rfl ?_
           refine w_move rfl rfl ?_
           refine ws_split (t := 133) rfl (fun g133 => ?_) (fun g133 => ?_)
           ·first | replace g133 := dT g133 | replace g133 := dF g133 | replace g133 := dFT g133 | replace g133 := dTF g133 | replace g133 := nb_T g133 | replace g133 := nb_F g133 | skip
            first | replace g133 := nL g133 | replace g133 := nM g133 | replace g133 := nN g133 | skip
            refine ws_on rfl rfl ?_
            refine w_move rfl rfl ?_
            refine ws_on rfl rfl ?_
            refine w_call rfl rfl (CallW.mono (CallW.take tk (sets_fn o2 (fillW ks ls) hS _)) ?_)
            rintro _ _ ⟨rfl, rfl⟩
            try simp only [List.cons_append, List.nil_append]
            refine ws_on rfl rfl ?_
            first | refine w_len rfl rfl (len_lst u49) ?_ | refine w_len rfl rfl (len_slice u49) ?_ | refine w_lenO rfl u49 rfl rfl tk ?_
            refine ws_on rfl rfl ?_
            refine w_move rfl rfl ?_
            refine ws_on rfl rfl ?_
            refine w_call rfl rfl (CallW.mono (CallW.take tk (sets_fn o3 (cpS (fillW ks ls) M.length) (cp_sane hS hR hQ _ (by omega)) _)) ?_)
            rintro _ _ ⟨rfl, rfl⟩
            try simp only [List.cons_append, List.nil_append]
            refine ws_on rfl rfl ?_
            first | refine w_len rfl rfl (len_lst u49) ?_ | refine w_len rfl rfl (len_slice u49) ?_ | refine w_lenO rfl u49 rfl rfl tk ?_
            refine ws_on rfl rfl ?_
            refine w_eql u3 rfl rfl rfl ?_
            first | refine w_pickT rfl rfl rfl ⟨_, rfl⟩ ?_ | refine w_pickF rfl rfl ⟨_, rfl⟩ rfl ?_ | refine w_pick rfl rfl rfl rfl ?_
            refine w_move rfl rfl ?_
            refine ws_split (t := 142) rfl (fun g142 => ?_) (fun g142 => ?_)
            ·first | replace g142 := dT g142 | replace g142 := dF g142 | replace g142 := dFT g142 | replace g142 := dTF g142 | replace g142 := nb_T g142 | replace g142 := nb_F g142 | skip
             first | replace g142 := nL g142 | replace g142 := nM g142 | replace g142 := nN g142 | skip
             refine ws_on rfl rfl ?_
             refine w_call rfl rfl (cw_fn rfl rfl .nil (runs_law) ?_)
             first | refine w_pickT rfl rfl rfl ⟨_, rfl⟩ ?_ | refine w_pickF rfl rfl ⟨_, rfl⟩ rfl ?_ | refine w_pick rfl rfl rfl rfl ?_
             refine w_assign rfl rfl ?_
             refine ws_nil ?_
             refine wc_ret ?_
             refine ⟨_, (.cons (.tmp rfl) .nil), ?_, rfl⟩
             rfl
            ·first | replace g142 := dT g142 | replace g142 := dF g142 | replace g142 := dFT g142 | replace g142 := dTF g142 | replace g142 := nb_T g142 | replace g142 := nb_F g142 | skip
             first | replace g142 := nL g142 | replace g142 := nM g142 | replace g142 := nN g142 | skip
             first | omega | (exact absurd rfl g142) | (simp at g142; done) | (simp at g142; omega)
           ·first | replace g133 := dT g133 | replace g133 := dF g133 | replace g133 := dFT g133 | replace g133 := dTF g133 | replace g133 := nb_T g133 | replace g133 := nb_F g133 | skip
            first | replace g133 := nL g133 | replace g133 := nM g133 | replace g133 := nN g133 | skip
            first | omega | (exact absurd rfl g133) | (simp at g133; done) | (simp at g133; omega)
          ·first | replace g126 := dT g126 | replace g126 := dF g126 | replace g126 := dFT g126 | replace g126 := dTF g126 | replace g126 := nb_T g126 | replace g126 := nb_F g126 | skip
           first | replace g126 := nL g126 | replace g126 := nM g126 | replace g126 := nN g126 | skip
           first | omega | (exact absurd rfl g126) | (simp at g126; done) | (simp at g126; omega)
         ·first | replace g120 := dT g120 | replace g120 := dF g120 | replace g120 := dFT g120 | replace g120 := dTF g120 | replace g120 := nb_T g120 | replace g120 := nb_F g120 | skip
          first | replace g120 := nL g120 | replace g120 := nM g120 | replace g120 := nN g120 | skip
          first | omega | (exact absurd rfl g120) | (simp at g120; done) | (simp at g120; omega)
end Go.Proofs.YtlgofplbbmjdjaaGreatDoor.kx
