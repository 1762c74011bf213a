/-
  Package mail, walked by facts (printed by gen_ml.py).
-/
import Derived.Test.YtknpdigpendnjaaProg
import Derived.Test.YtknpdigpendnjaaBhMlL
import Derived.KernelRfl
namespace Go.Proofs.Ytknpdigpendnjaa.ml
open Go Go.Proofs Go.Proofs.Ytknpdigpendnjaa.BH Go.Proofs.Ytknpdigpendnjaa.BH.Ml
open Go.Proofs.Ytknpdigpendnjaa.BH.Dk (withinV withinV_in clampV clampV_in natOr_of)
set_option maxRecDepth 100000
noncomputable def kinds (f : FuncId) : Kind :=
  if (f = 21 ∨ f = 19 ∨ f = 17 ∨ f = 18 ∨ f = 3 ∨ f = 5 ∨ f = 4 ∨ f = 6) then ⟨true, false, false, false, false⟩ else
  ⟨false, false, false, false, false⟩
noncomputable def C : Ctx := ⟨Try.prog, ⟨kinds, fun _ => none⟩, fun _ _ h => (by cases h), by kernel_rfl⟩
theorem nb_T {b : Bool} (h : (!b) = true) : b = false := by cases b <;> simp_all
theorem nb_F {b : Bool} (h : (!b) = false) : b = true := by cases b <;> simp_all
theorem note_eq {x y : NoteD} (h1 : x.to = y.to) (h2 : x.group = y.group) (h3 : x.alerts = y.alerts) : x = y := by
  cases x; cases y
  simp_all
theorem B27 : buildF C.P 27 = ⟨fun ps => bnd (fillV (pairAt [(0, 1), (1, 1), (2, 1)]) [.str [], .str [], .slice none 0 (.exact 0)] ps) fun l => some (.agg l)⟩ := by kernel_rfl
theorem B63 : buildF C.P 63 = ⟨fun ps => bnd (fillV (pairAt [(0, 1), (1, 1)]) [.chan none, .int .i64 0] ps) fun l => some (.agg l)⟩ := by kernel_rfl
theorem O27_0 : fieldOff C.P 27 0 = some 0 := by kernel_rfl
theorem O27_1 : fieldOff C.P 27 1 = some 1 := by kernel_rfl
theorem O27_2 : fieldOff C.P 27 2 = some 2 := by kernel_rfl
theorem O36_0 : fieldOff C.P 36 0 = some 0 := by kernel_rfl
theorem O36_1 : fieldOff C.P 36 1 = some 1 := by kernel_rfl
theorem O63_0 : fieldOff C.P 63 0 = some 0 := by kernel_rfl
theorem O63_1 : fieldOff C.P 63 1 = some 1 := by kernel_rfl
theorem a25 : aggOf C.P 25 = some false := by kernel_rfl
theorem a27 : aggOf C.P 27 = some true := by kernel_rfl
theorem a3 : aggOf C.P 3 = some false := by kernel_rfl
theorem a61 : aggOf C.P 61 = some false := by kernel_rfl
theorem a9 : aggOf C.P 9 = some false := by kernel_rfl
theorem b27 : bytesOf C.P 27 = some 56 := by kernel_rfl
theorem b9 : bytesOf C.P 9 = some 16 := by kernel_rfl
theorem s25 : szOf C.P 25 = some 1 := by kernel_rfl
theorem s27 : szOf C.P 27 = some 3 := by kernel_rfl
theorem s3 : szOf C.P 3 = some 1 := by kernel_rfl
theorem s36 : szOf C.P 36 = some 2 := by kernel_rfl
theorem s5 : szOf C.P 5 = some 1 := by kernel_rfl
theorem s63 : szOf C.P 63 = some 2 := by kernel_rfl
theorem s9 : szOf C.P 9 = some 1 := by kernel_rfl
theorem u22 : undOf C.P 22 = some (.pointer 63) := by kernel_rfl
theorem u25 : undOf C.P 25 = some (.slice 9) := by kernel_rfl
theorem u3 : undOf C.P 3 = some (.int .i64) := by kernel_rfl
theorem u32 : undOf C.P 32 = some (.slice 36) := by kernel_rfl
theorem u34 : undOf C.P 34 = some (.slice 27) := by kernel_rfl
theorem u37 : undOf C.P 37 = some (.slice 5) := by kernel_rfl
theorem u4 : undOf C.P 4 = some (.bool) := by kernel_rfl
theorem u5 : undOf C.P 5 = some (.int .u8) := by kernel_rfl
theorem u61 : undOf C.P 61 = some (.chan .both 27) := by kernel_rfl
theorem u9 : undOf C.P 9 = some (.string) := by kernel_rfl
theorem y27 : zeroOf C.P 27 = some (.agg [.str [], .str [], .slice none 0 (.exact 0)]) := by kernel_rfl
theorem z27 : zeroCells C.P 27 = some [.str [], .str [], .slice none 0 (.exact 0)] := by kernel_rfl
theorem z5 : zeroCells C.P 5 = some [.int .u8 0] := by kernel_rfl
theorem z9 : zeroCells C.P 9 = some [.str []] := by kernel_rfl
theorem clone_nil  (R : List HI) : CallW C 33 [nilSlice] ([] ++ R) fun v H => ∃ H', H = H' ++ R ∧ H' = [.own v 9 1 [] 0] := by
  refine cw_sharedA (fn := Try.f33) rfl rfl rfl rfl (K := fun v H' => H' = [.own v 9 1 [] 0]) ?_ R
  refine wc_seq ?_
  refine wc_text ?_
  refine w_assign rfl rfl ?_
  refine ws_nil ?_
  refine wc_seq ?_
  refine wc_seq ?_
  refine wc_text ?_
  refine w_move rfl rfl ?_
  refine w_ceql u25 (by simp) (by simp) rfl rfl rfl (cmp_sl u25 rfl rfl) ?_
  refine ws_nil ?_
  refine wc_cond rfl (fun h1 => ?_) (fun h1 => ?_)
  · skip
    refine wc_seq ?_
    refine wc_text ?_
    refine w_assign rfl rfl ?_
    refine ws_nil ?_
    refine WC.ownNil 9 1 ?_
    refine wc_ret ?_
    refine ⟨_, _, (.cons (.tmp rfl) .nil), (Sel.weak (.cons tk .nil)), ?_⟩
    rfl
  · skip
    cases h1

theorem clone_emp  (R : List HI) : CallW C 33 [.lst [] 0 false false] ([] ++ R) fun v H => ∃ H', H = H' ++ R ∧ H' = [.own v 9 1 [] 0] := by
  refine cw_sharedA (fn := Try.f33) rfl rfl rfl rfl (K := fun v H' => H' = [.own v 9 1 [] 0]) ?_ R
  refine wc_seq ?_
  refine wc_text ?_
  refine w_assign rfl rfl ?_
  refine ws_nil ?_
  refine wc_seq ?_
  refine wc_seq ?_
  refine wc_text ?_
  refine w_move rfl rfl ?_
  refine w_ceql u25 (by simp) (by simp) rfl rfl rfl (cmp_sl u25 rfl rfl) ?_
  refine ws_nil ?_
  refine wc_cond rfl (fun h1 => ?_) (fun h1 => ?_)
  · skip
    cases h1
  · skip
    refine wc_stay ?_
    refine wc_seq ?_
    refine wc_text ?_
    refine w_buildS (cs := []) u25 s9 z9 (by decide) rfl rfl rfl (fun o5 => ?_)
    refine w_move rfl rfl ?_
    refine WS.ownEmpty (v := .slice (some ⟨o5, 0⟩) 0 (.exact 0)) (.inl ⟨_, rfl⟩) 9 1 ?_
    refine w_appO (enc := eS) (l := []) (m := []) rfl u25 s9 b9 z9 u25 (by simp) rfl rfl rfl tk (new_lst rfl rfl) (by unfold bigBy; first | omega | (simp only [List.length_nil, List.length_cons, List.length_append, List.length_take, List.length_drop]; omega)) (by unfold bigBy; first | omega | (simp only [List.length_nil, List.length_cons, List.length_append, List.length_take, List.length_drop]; omega)) (fun v7 => ?_)
    refine w_assign rfl rfl ?_
    refine ws_nil ?_
    refine wc_ret ?_
    refine ⟨_, _, (.cons (.tmp rfl) .nil), (Sel.weak (.cons tk .nil)), ?_⟩
    rfl

theorem clone_cons (a : List UInt8) (l : List (List UInt8)) (hl : l.length < 1000000) (R : List HI) : CallW C 33 [AL eS (a :: l)] ([] ++ R) fun v H => ∃ H', H = H' ++ R ∧ H' = [.own v 9 1 ((a :: l).flatMap eS) (a :: l).length] := by
  refine cw_sharedA (fn := Try.f33) rfl rfl rfl rfl (K := fun v H' => H' = [.own v 9 1 ((a :: l).flatMap eS) (a :: l).length]) ?_ R
  refine wc_seq ?_
  refine wc_text ?_
  refine w_assign rfl rfl ?_
  refine ws_nil ?_
  refine wc_seq ?_
  refine wc_seq ?_
  refine wc_text ?_
  refine w_move rfl rfl ?_
  refine w_ceql u25 (by simp) (by simp) rfl rfl rfl (cmp_sl u25 rfl rfl) ?_
  refine ws_nil ?_
  refine wc_cond rfl (fun h1 => ?_) (fun h1 => ?_)
  · skip
    cases h1
  · skip
    refine wc_stay ?_
    refine wc_seq ?_
    refine wc_text ?_
    have hl2 : (a :: l).length = l.length + 1 := rfl
    refine w_buildS (cs := []) u25 s9 z9 (by decide) rfl rfl rfl (fun o5 => ?_)
    refine w_move rfl rfl ?_
    refine WS.ownEmpty (v := .slice (some ⟨o5, 0⟩) 0 (.exact 0)) (.inl ⟨_, rfl⟩) 9 1 ?_
    refine w_appO (enc := eS) (l := []) (m := a :: l) rfl u25 s9 b9 z9 u25 (by simp) rfl rfl rfl tk nw (by unfold bigBy; first | omega | (simp only [List.length_nil, List.length_cons, List.length_append, List.length_take, List.length_drop]; omega)) (by unfold bigBy; first | omega | (simp only [List.length_nil, List.length_cons, List.length_append, List.length_take, List.length_drop]; omega)) (fun v7 => ?_)
    refine w_assign rfl rfl ?_
    refine ws_nil ?_
    refine wc_ret ?_
    refine ⟨_, _, (.cons (.tmp rfl) .nil), (Sel.weak (.cons tk .nil)), ?_⟩
    rfl

theorem clone_fn (l : List (List UInt8)) (hl : l.length < 1000000) (R : List HI) : CallW C 33 [AL eS l] R fun v H => H = .own v 9 1 (l.flatMap eS) l.length :: R := by
  cases l with
  | nil =>
    refine CallW.splitNil (b := false) ?_ ?_
    · exact CallW.mono (clone_nil R) fun v H ⟨H', h1, h2⟩ => by rw [h1, h2]; rfl
    · exact CallW.mono (clone_emp R) fun v H ⟨H', h1, h2⟩ => by rw [h1, h2]; rfl
  | cons a l => exact CallW.mono (clone_cons a l (by simp at hl; omega) R) fun v H ⟨H', h1, h2⟩ => by rw [h1, h2]; rfl
/-- .. written no more. -/
theorem clone_frz (l : List (List UInt8)) (hl : l.length < 1000000) (R : List HI) : CallW C 33 [AL eS l] R fun v H => v = AL eS l ∧ H = R :=
  CallW.frz (clone_fn l hl R) fun v H h => by subst h; exact ⟨_, _, .ownK rfl .head (flat_done (fun _ => rfl) l), rfl, rfl, rfl⟩

theorem new_fn (room : Int) (R : List HI) : CallW C 12 [.int .i64 room] ([] ++ R) fun v H => ∃ H', H = H' ++ R ∧ ∃ o c, v = .ptr (some ⟨o, 0⟩) ∧ H' = [.obj o (.row 63 2 false (BK c 0)), .obj c (.chan (max 1 (min room 8)).toNat (([]).map ag) 0 0)] := by
  refine cw_sharedA (fn := Try.f12) rfl rfl rfl rfl (K := fun v H' => ∃ o c, v = .ptr (some ⟨o, 0⟩) ∧ H' = [.obj o (.row 63 2 false (BK c 0)), .obj c (.chan (max 1 (min room 8)).toNat (([]).map ag) 0 0)]) ?_ R
  refine wc_seq ?_
  refine wc_text ?_
  refine w_assign rfl rfl ?_
  refine ws_nil ?_
  refine wc_seq ?_
  refine wc_text ?_
  refine w_move rfl rfl ?_
  refine w_min rfl rfl rfl ?_
  refine w_max rfl rfl rfl ?_
  obtain ⟨m, hm⟩ : ∃ m : Nat, max 1 (min room 8) = m := ⟨(max 1 (min room 8)).toNat, by omega⟩
  rw [hm]
  refine w_makeChan (m := m) u61 b27 rfl rfl (by omega) (by omega) (fun o6 => ?_)
  refine w_build (v := .agg [_, _]) B63 rfl rfl rfl ?_
  refine w_box s63 rfl rfl rfl (by first | exact tab_length _ _ | rfl) (by first | exact tab_scalar _ _ | rfl) (fun o8 => ?_)
  refine w_assign rfl rfl ?_
  refine ws_nil ?_
  refine wc_ret ?_
  refine ⟨_, _, (.cons (.tmp rfl) .nil), (Sel.weak (.cons tk (.cons tk .nil))), ?_⟩
  rw [Int.toNat_natCast]; exact ⟨_, _, rfl, rfl⟩

theorem len_fn (o c cap : Nat) (q : List NoteD) (d : Int) (s r : Nat) (R : List HI) : CallW C 15 [.ptr (some ⟨o, 0⟩)] ([.obj o (.row 63 2 false (BK c d)), .obj c (.chan cap ((q).map ag) s r)] ++ R) fun v H => ∃ H', H = H' ++ R ∧ v = .int .i64 (q.length : Nat) ∧ H' = [.obj o (.row 63 2 false (BK c d)), .obj c (.chan cap ((q).map ag) s r)] := by
  refine cw_sharedA (fn := Try.f15) rfl rfl rfl rfl (K := fun v H' => v = .int .i64 (q.length : Nat) ∧ H' = [.obj o (.row 63 2 false (BK c d)), .obj c (.chan cap ((q).map ag) s r)]) ?_ R
  refine wc_seq ?_
  refine wc_text ?_
  refine w_assign rfl rfl ?_
  refine ws_nil ?_
  refine wc_seq ?_
  refine wc_text ?_
  refine w_move rfl rfl ?_
  refine w_nil rfl rfl rfl ?_
  first | refine w_faddrC O63_0 rfl rfl ?_ | refine w_faddrP O63_0 rfl rfl ?_
  first | refine w_ldC1 a61 rfl rfl rdc ?_ | refine w_ldP1 a61 rfl rfl tk rdp ?_
  refine w_lenC rfl u61 rfl rfl tk ?_
  refine w_assign rfl rfl ?_
  refine ws_nil ?_
  rw [map_len]
  refine wc_ret ?_
  refine ⟨_, [.obj o _, .obj c _], (.cons (.tmp rfl) .nil), (Sel.weak (.cons tk (.cons tk .nil))), ?_⟩
  exact ⟨rfl, rfl⟩

theorem dropped_fn (o c cap : Nat) (q : List NoteD) (d : Int) (s r : Nat) (R : List HI) : CallW C 16 [.ptr (some ⟨o, 0⟩)] ([.obj o (.row 63 2 false (BK c d)), .obj c (.chan cap ((q).map ag) s r)] ++ R) fun v H => ∃ H', H = H' ++ R ∧ v = .int .i64 d ∧ H' = [.obj o (.row 63 2 false (BK c d)), .obj c (.chan cap ((q).map ag) s r)] := by
  refine cw_sharedA (fn := Try.f16) rfl rfl rfl rfl (K := fun v H' => v = .int .i64 d ∧ H' = [.obj o (.row 63 2 false (BK c d)), .obj c (.chan cap ((q).map ag) s r)]) ?_ R
  refine wc_seq ?_
  refine wc_text ?_
  refine w_assign rfl rfl ?_
  refine ws_nil ?_
  refine wc_seq ?_
  refine wc_text ?_
  refine w_move rfl rfl ?_
  refine w_nil rfl rfl rfl ?_
  first | refine w_faddrC O63_1 rfl rfl ?_ | refine w_faddrP O63_1 rfl rfl ?_
  first | refine w_ldC1 a3 rfl rfl rdc ?_ | refine w_ldP1 a3 rfl rfl tk rdp ?_
  refine w_assign rfl rfl ?_
  refine ws_nil ?_
  refine wc_ret ?_
  refine ⟨_, [.obj o _, .obj c _], (.cons (.tmp rfl) .nil), (Sel.weak (.cons tk (.cons tk .nil))), ?_⟩
  exact ⟨rfl, rfl⟩

theorem put_yes (o c cap : Nat) (q : List NoteD) (d : Int) (s r : Nat) (n : NoteD) (hq : q.length < cap) (R : List HI) : CallW C 34 [.ptr (some ⟨o, 0⟩), ag n] ([.obj o (.row 63 2 false (BK c d)), .obj c (.chan cap ((q).map ag) s r)] ++ R) fun v H => ∃ H', H = H' ++ R ∧ v = .bool true ∧ H' = [.obj o (.row 63 2 false (BK c d)), .obj c (.chan cap ((q ++ [n]).map ag) (s + 1) r)] := by
  refine cw_sharedA (fn := Try.f34) rfl rfl rfl rfl (K := fun v H' => v = .bool true ∧ H' = [.obj o (.row 63 2 false (BK c d)), .obj c (.chan cap ((q ++ [n]).map ag) (s + 1) r)]) ?_ R
  refine wc_seq ?_
  refine wc_text ?_
  refine w_box (cs := eN n) s27 rfl rfl rfl rfl rfl (fun o3 => ?_)
  refine w_assign rfl rfl ?_
  refine ws_nil ?_
  refine wc_seq ?_
  refine wc_seq ?_
  refine wc_text ?_
  refine w_move rfl rfl ?_
  refine w_nil rfl rfl rfl ?_
  first | refine w_faddrC O63_0 rfl rfl ?_ | refine w_faddrP O63_0 rfl rfl ?_
  first | refine w_ldC1 a61 rfl rfl rdc ?_ | refine w_ldP1 a61 rfl rfl tk rdp ?_
  refine ws_nil ?_
  refine wc_text ?_
  first | refine w_ldC a27 s27 rfl rfl agc ?_ | refine w_ldP a27 s27 rfl rfl tk agp ?_
  refine ws_nil ?_
  refine wc_seq ?_
  refine wc_text ?_
  refine w_send (a := ag n) (buf := q.map ag) y27 rfl rfl rfl tk (by rw [map_len]; exact hq) ?_
  rw [map_snoc]
  refine w_extract rfl rfl rfl ?_
  refine w_eql u3 rfl rfl rfl ?_
  refine ws_nil ?_
  refine wc_block ?_
  refine wc_cond rfl (fun h3 => ?_) (fun h3 => ?_)
  · skip
    refine wc_seq ?_
    refine wc_text ?_
    refine w_assign rfl rfl ?_
    refine ws_nil ?_
    refine wc_ret ?_
    refine ⟨_, [.obj o _, .obj c _], (.cons (.tmp rfl) .nil), (Sel.weak (.cons tk (.cons tk .nil))), ?_⟩
    exact ⟨rfl, rfl⟩
  · skip
    cases h3

theorem put_no (o c cap : Nat) (q : List NoteD) (d : Int) (s r : Nat) (n : NoteD) (hq : cap ≤ q.length) (R : List HI) : CallW C 34 [.ptr (some ⟨o, 0⟩), ag n] ([.obj o (.row 63 2 false (BK c d)), .obj c (.chan cap ((q).map ag) s r)] ++ R) fun v H => ∃ H', H = H' ++ R ∧ v = .bool false ∧ H' = [.obj o (.row 63 2 false (BK c d)), .obj c (.chan cap ((q).map ag) s r)] := by
  refine cw_sharedA (fn := Try.f34) rfl rfl rfl rfl (K := fun v H' => v = .bool false ∧ H' = [.obj o (.row 63 2 false (BK c d)), .obj c (.chan cap ((q).map ag) s r)]) ?_ R
  refine wc_seq ?_
  refine wc_text ?_
  refine w_box (cs := eN n) s27 rfl rfl rfl rfl rfl (fun o3 => ?_)
  refine w_assign rfl rfl ?_
  refine ws_nil ?_
  refine wc_seq ?_
  refine wc_seq ?_
  refine wc_text ?_
  refine w_move rfl rfl ?_
  refine w_nil rfl rfl rfl ?_
  first | refine w_faddrC O63_0 rfl rfl ?_ | refine w_faddrP O63_0 rfl rfl ?_
  first | refine w_ldC1 a61 rfl rfl rdc ?_ | refine w_ldP1 a61 rfl rfl tk rdp ?_
  refine ws_nil ?_
  refine wc_text ?_
  first | refine w_ldC a27 s27 rfl rfl agc ?_ | refine w_ldP a27 s27 rfl rfl tk agp ?_
  refine ws_nil ?_
  refine wc_seq ?_
  refine wc_text ?_
  refine w_send0 y27 rfl rfl rfl tk (by rw [map_len]; exact hq) ?_
  refine w_extract rfl rfl rfl ?_
  refine w_eql u3 rfl rfl rfl ?_
  refine ws_nil ?_
  refine wc_block ?_
  refine wc_cond rfl (fun h3 => ?_) (fun h3 => ?_)
  · skip
    cases h3
  · skip
    refine wc_seq ?_
    refine wc_text ?_
    refine w_assign rfl rfl ?_
    refine ws_nil ?_
    refine wc_ret ?_
    refine ⟨_, [.obj o _, .obj c _], (.cons (.tmp rfl) .nil), (Sel.weak (.cons tk (.cons tk .nil))), ?_⟩
    exact ⟨rfl, rfl⟩

theorem put_fn (o c cap : Nat) (q : List NoteD) (d : Int) (s r : Nat) (n : NoteD) (R : List HI) : CallW C 34 [.ptr (some ⟨o, 0⟩), ag n] ([.obj o (.row 63 2 false (BK c d)), .obj c (.chan cap ((q).map ag) s r)] ++ R) fun v H => v = .bool (decide (q.length < cap)) ∧ H = [.obj o (.row 63 2 false (BK c d)), .obj c (.chan cap ((addQ cap q n).map ag) (addN cap q s) r)] ++ R := by
  unfold addQ addN
  by_cases hq : q.length < cap
  · rw [if_pos hq, if_pos hq, decide_eq_true hq]
    exact CallW.mono (put_yes o c cap q d s r n hq R) fun v H ⟨H', h1, h2, h3⟩ => ⟨h2, by rw [h1, h3]⟩
  · rw [if_neg hq, if_neg hq, decide_eq_false hq]
    exact CallW.mono (put_no o c cap q d s r n (by omega) R) fun v H ⟨H', h1, h2, h3⟩ => ⟨h2, by rw [h1, h3]⟩

theorem take_cons (o c cap : Nat) (n : NoteD) (q : List NoteD) (d : Int) (s r : Nat) (R : List HI) : CallW C 14 [.ptr (some ⟨o, 0⟩)] ([.obj o (.row 63 2 false (BK c d)), .obj c (.chan cap ((n :: q).map ag) s r)] ++ R) fun v H => ∃ H', H = H' ++ R ∧ v = .tuple [ag n, .bool true] ∧ H' = [.obj o (.row 63 2 false (BK c d)), .obj c (.chan cap ((q).map ag) s (r + 1))] := by
  refine cw_sharedA (fn := Try.f14) rfl rfl rfl rfl (K := fun v H' => v = .tuple [ag n, .bool true] ∧ H' = [.obj o (.row 63 2 false (BK c d)), .obj c (.chan cap ((q).map ag) s (r + 1))]) ?_ R
  refine wc_seq ?_
  refine wc_text ?_
  refine w_alloc z27 s27 rfl (fun o2 => ?_)
  refine w_assign rfl rfl ?_
  refine ws_nil ?_
  refine wc_seq ?_
  refine wc_text ?_
  refine w_move rfl rfl ?_
  refine w_nil rfl rfl rfl ?_
  first | refine w_faddrC O63_0 rfl rfl ?_ | refine w_faddrP O63_0 rfl rfl ?_
  first | refine w_ldC1 a61 rfl rfl rdc ?_ | refine w_ldP1 a61 rfl rfl tk rdp ?_
  refine ws_nil ?_
  refine wc_seq ?_
  refine wc_text ?_
  refine w_recv (a := ag n) (buf := q.map ag) y27 rfl rfl tk ?_
  refine w_extract rfl rfl rfl ?_
  refine w_eql u3 rfl rfl rfl ?_
  refine ws_nil ?_
  refine wc_block ?_
  refine wc_cond rfl (fun h1 => ?_) (fun h1 => ?_)
  · skip
    refine wc_seq ?_
    refine wc_text ?_
    refine w_extract rfl rfl rfl ?_
    refine w_alloc z27 s27 rfl (fun o4 => ?_)
    refine w_st s27 rfl rfl rfl tk rfl rfl ovw ?_
    refine ws_nil ?_
    refine wc_seq ?_
    refine wc_text ?_
    first | refine w_ldC a27 s27 rfl rfl agc ?_ | refine w_ldP a27 s27 rfl rfl tk agp ?_
    refine w_st s27 rfl rfl rfl tk rfl rfl ovw ?_
    refine w_assign rfl rfl ?_
    refine ws_nil ?_
    refine wc_ret ?_
    refine ⟨_, [.obj o _, .obj c _], (.cons (.cellA rfl a27 s27 tk agp) (.cons (.tmp rfl) .nil)), (Sel.weak (.cons tk (.cons tk .nil))), ?_⟩
    exact ⟨rfl, rfl⟩
  · skip
    cases h1

theorem take_nil (o c cap : Nat) (n : NoteD) (q : List NoteD) (d : Int) (s r : Nat) (R : List HI) : CallW C 14 [.ptr (some ⟨o, 0⟩)] ([.obj o (.row 63 2 false (BK c d)), .obj c (.chan cap (([]).map ag) s r)] ++ R) fun v H => ∃ H', H = H' ++ R ∧ v = .tuple [ag z0, .bool false] ∧ H' = [.obj o (.row 63 2 false (BK c d)), .obj c (.chan cap (([]).map ag) s r)] := by
  refine cw_sharedA (fn := Try.f14) rfl rfl rfl rfl (K := fun v H' => v = .tuple [ag z0, .bool false] ∧ H' = [.obj o (.row 63 2 false (BK c d)), .obj c (.chan cap (([]).map ag) s r)]) ?_ R
  refine wc_seq ?_
  refine wc_text ?_
  refine w_alloc z27 s27 rfl (fun o2 => ?_)
  refine w_assign rfl rfl ?_
  refine ws_nil ?_
  refine wc_seq ?_
  refine wc_text ?_
  refine w_move rfl rfl ?_
  refine w_nil rfl rfl rfl ?_
  first | refine w_faddrC O63_0 rfl rfl ?_ | refine w_faddrP O63_0 rfl rfl ?_
  first | refine w_ldC1 a61 rfl rfl rdc ?_ | refine w_ldP1 a61 rfl rfl tk rdp ?_
  refine ws_nil ?_
  refine wc_seq ?_
  refine wc_text ?_
  refine w_recv0 y27 rfl rfl tk ?_
  refine w_extract rfl rfl rfl ?_
  refine w_eql u3 rfl rfl rfl ?_
  refine ws_nil ?_
  refine wc_block ?_
  refine wc_cond rfl (fun h1 => ?_) (fun h1 => ?_)
  · skip
    cases h1
  · skip
    refine wc_seq ?_
    refine wc_text ?_
    refine w_build (v := .agg [_, _, _]) B27 rfl rfl rfl ?_
    refine w_st s27 rfl rfl rfl tk rfl rfl ovw ?_
    refine w_assign rfl rfl ?_
    refine ws_nil ?_
    refine WC.weakCells (cs' := eN z0) tk (.cons (.refl _) (.cons (.refl _) (.cons (nil_le false true rfl) .nil))) ?_
    refine wc_ret ?_
    refine ⟨_, [.obj o _, .obj c _], (.cons (.cellA rfl a27 s27 tk agp) (.cons (.tmp rfl) .nil)), (Sel.weak (.cons tk (.cons tk .nil))), ?_⟩
    exact ⟨rfl, rfl⟩

theorem sameS_fn (l m : List (List UInt8)) (hl : l.length < 1000000) : PFn C 21 [AL eS l, AL eS m] (.bool (decide (l = m))) := by
  refine fn_view rfl rfl (fn := Try.f21) rfl rfl rfl rfl rfl ?_
  refine wc_seq ?_
  refine wc_text ?_
  refine w_assign rfl rfl ?_
  refine ws_nil ?_
  refine wc_seq ?_
  refine wc_seq ?_
  refine wc_text ?_
  refine w_move rfl rfl ?_
  first | refine w_len rfl rfl (len_lst u25) ?_ | refine w_len rfl rfl (len_slice u25) ?_ | refine w_lenO rfl u25 rfl rfl tk ?_
  refine w_move rfl rfl ?_
  first | refine w_len rfl rfl (len_lst u25) ?_ | refine w_len rfl rfl (len_slice u25) ?_ | refine w_lenO rfl u25 rfl rfl tk ?_
  refine w_neq u3 rfl rfl rfl ?_
  refine ws_nil ?_
  refine wc_cond rfl (fun h1 => ?_) (fun h1 => ?_)
  · first | replace h1 := of_decide_eq_true h1 | replace h1 := of_decide_eq_false h1 | replace h1 := of_decide_eq_false (nb_T h1) | replace h1 := of_decide_eq_true (nb_F h1) | replace h1 := nb_T h1 | replace h1 := nb_F h1 | skip
    first | replace h1 := Int.not_lt.mp h1 | replace h1 := Int.not_le.mp h1 | replace h1 := Decidable.not_not.mp h1 | skip
    refine wc_seq ?_
    refine wc_text ?_
    refine w_assign rfl rfl ?_
    refine ws_nil ?_
    refine wc_ret ?_
    refine ⟨_, (.cons (.tmp rfl) .nil), ?_, rfl⟩
    congr 1; simp; rintro rfl; exact h1 rfl
  · first | replace h1 := of_decide_eq_true h1 | replace h1 := of_decide_eq_false h1 | replace h1 := of_decide_eq_false (nb_T h1) | replace h1 := of_decide_eq_true (nb_F h1) | replace h1 := nb_T h1 | replace h1 := nb_F h1 | skip
    first | replace h1 := Int.not_lt.mp h1 | replace h1 := Int.not_le.mp h1 | replace h1 := Decidable.not_not.mp h1 | skip
    refine wc_stay ?_
    refine wc_seq ?_
    refine wc_seq ?_
    refine wc_text ?_
    refine w_assign rfl rfl ?_
    refine ws_nil ?_
    refine wc_block ?_
    refine wc_loop (σ := { k : Nat // k ≤ l.length ∧ l.take k = m.take k }) (fun s => [(0, AL eS l), (1, AL eS m), (5, .int .i64 (s.1 : Nat))]) (fun s => []) (fun s => l.length - s.1) ?_ ⟨0, Nat.zero_le _, rfl⟩ (.cons rfl (.cons rfl (.cons rfl (.nil _)))) (Sel.weak .nil)
    rintro ⟨k, hk, hs⟩
    dsimp only
    refine wc_seq ?_
    refine wc_seq ?_
    refine wc_text ?_
    refine w_move rfl rfl ?_
    refine w_move rfl rfl ?_
    first | refine w_len rfl rfl (len_lst u25) ?_ | refine w_len rfl rfl (len_slice u25) ?_ | refine w_lenO rfl u25 rfl rfl tk ?_
    refine w_lss u3 rfl rfl rfl ?_
    refine ws_nil ?_
    refine wc_cond rfl (fun h4 => ?_) (fun h4 => ?_)
    · first | replace h4 := of_decide_eq_true h4 | replace h4 := of_decide_eq_false h4 | replace h4 := of_decide_eq_false (nb_T h4) | replace h4 := of_decide_eq_true (nb_F h4) | replace h4 := nb_T h4 | replace h4 := nb_F h4 | skip
      first | replace h4 := Int.not_lt.mp h4 | replace h4 := Int.not_le.mp h4 | replace h4 := Decidable.not_not.mp h4 | skip
      refine wc_stay ?_
      refine wc_seq ?_
      refine wc_block ?_
      refine wc_seq ?_
      refine wc_free [0, 0, 3, 7, 0, 0, 48, 112, 255] (by kernel_rfl) (by kernel_rfl) (fun F => ?_)
      obtain ⟨x, hx⟩ := get_of_lt (l := l) (k := k) (by omega)
      obtain ⟨y, hy⟩ := get_of_lt (l := m) (k := k) (by omega)
      refine wr_float F 0 rfl (by kernel_rfl) (.inl (by kernel_rfl)) ?_
      refine w_move rfl rfl ?_
      refine ws_nil ?_
      refine wr_float F 1 rfl (by kernel_rfl) (.inl (by kernel_rfl)) ?_
      refine w_move rfl rfl ?_
      refine ws_nil ?_
      refine wr_float F 2 rfl (by kernel_rfl) (.inl (by kernel_rfl)) ?_
      first | refine w_lidx u25 s9 rfl rfl rfl (by omega) ?_ | refine w_slidx u25 s9 rfl rfl rfl (by omega) ?_
      refine ws_nil ?_
      refine wr_pure F 3 rfl (by kernel_rfl) rfl rfl (pf_ldC1 a9 rfl rdc) (.inl rfl) ?_
      refine wr_float F 4 rfl (by kernel_rfl) (.inl (by kernel_rfl)) ?_
      refine w_move rfl rfl ?_
      refine ws_nil ?_
      refine wr_float F 5 rfl (by kernel_rfl) (.inl (by kernel_rfl)) ?_
      refine w_move rfl rfl ?_
      refine ws_nil ?_
      refine wr_float F 6 rfl (by kernel_rfl) (.inl (by kernel_rfl)) ?_
      first | refine w_lidx u25 s9 rfl rfl rfl (by omega) ?_ | refine w_slidx u25 s9 rfl rfl rfl (by omega) ?_
      refine ws_nil ?_
      refine wr_pure F 7 rfl (by kernel_rfl) rfl rfl (pf_ldC1 a9 rfl rdc) (.inl rfl) ?_
      refine wr_float F 8 rfl (by kernel_rfl) (.inl (by kernel_rfl)) ?_
      refine w_sneq u9 rfl rfl rfl ?_
      refine ws_nil ?_
      refine wr_end F (by kernel_rfl) ?_
      refine wc_cond rfl (fun h6 => ?_) (fun h6 => ?_)
      · replace h6 := of_decide_eq_true h6
        refine wc_seq ?_
        refine wc_text ?_
        refine w_assign rfl rfl ?_
        refine ws_nil ?_
        refine wc_ret ?_
        refine ⟨_, (.cons (.tmp rfl) .nil), ?_, rfl⟩
        congr 1; simp; rintro rfl; rw [hx] at hy; cases hy; exact h6 rfl
      · replace h6 := of_decide_eq_false h6
        refine wc_stay ?_
        refine wc_text ?_
        refine w_move rfl rfl ?_
        refine w_add u3 rfl rfl rfl (by omega) ?_
        refine w_assign rfl rfl ?_
        refine ws_nil ?_
        exact ⟨⟨k + 1, by omega, by rw [take_one hx, take_one hy, hs, Decidable.not_not.mp h6]⟩, by simp only; omega, (.cons rfl (.cons rfl (.cons rfl (.nil _)))), (Sel.weak .nil)⟩
    · first | replace h4 := of_decide_eq_true h4 | replace h4 := of_decide_eq_false h4 | replace h4 := of_decide_eq_false (nb_T h4) | replace h4 := of_decide_eq_true (nb_F h4) | replace h4 := nb_T h4 | replace h4 := nb_F h4 | skip
      first | replace h4 := Int.not_lt.mp h4 | replace h4 := Int.not_le.mp h4 | replace h4 := Decidable.not_not.mp h4 | skip
      refine wc_exit ?_
      refine wc_seq ?_
      refine wc_text ?_
      refine w_assign rfl rfl ?_
      refine ws_nil ?_
      refine wc_ret ?_
      refine ⟨_, (.cons (.tmp rfl) .nil), ?_, rfl⟩
      congr 1; simp
      have := hs
      rw [List.take_of_length_le (by omega), List.take_of_length_le (by omega)] at this; exact this

theorem notes_fn (l m : List NoteD) (hl : l.length < 1000000) (ha : ∀ x ∈ l, x.alerts.length < 1000000) : PFn C 19 [AL eN l, AL eN m] (.bool (decide (l = m))) := by
  refine fn_view rfl rfl (fn := Try.f19) rfl rfl rfl rfl rfl ?_
  refine wc_seq ?_
  refine wc_text ?_
  refine w_assign rfl rfl ?_
  refine ws_nil ?_
  refine wc_seq ?_
  refine wc_seq ?_
  refine wc_text ?_
  refine w_move rfl rfl ?_
  first | refine w_len rfl rfl (len_lst u34) ?_ | refine w_len rfl rfl (len_slice u34) ?_ | refine w_lenO rfl u34 rfl rfl tk ?_
  refine w_move rfl rfl ?_
  first | refine w_len rfl rfl (len_lst u34) ?_ | refine w_len rfl rfl (len_slice u34) ?_ | refine w_lenO rfl u34 rfl rfl tk ?_
  refine w_neq u3 rfl rfl rfl ?_
  refine ws_nil ?_
  refine wc_cond rfl (fun h1 => ?_) (fun h1 => ?_)
  · first | replace h1 := of_decide_eq_true h1 | replace h1 := of_decide_eq_false h1 | replace h1 := of_decide_eq_false (nb_T h1) | replace h1 := of_decide_eq_true (nb_F h1) | replace h1 := nb_T h1 | replace h1 := nb_F h1 | skip
    first | replace h1 := Int.not_lt.mp h1 | replace h1 := Int.not_le.mp h1 | replace h1 := Decidable.not_not.mp h1 | skip
    refine wc_seq ?_
    refine wc_text ?_
    refine w_assign rfl rfl ?_
    refine ws_nil ?_
    refine wc_ret ?_
    refine ⟨_, (.cons (.tmp rfl) .nil), ?_, rfl⟩
    congr 1; simp; rintro rfl; exact h1 rfl
  · first | replace h1 := of_decide_eq_true h1 | replace h1 := of_decide_eq_false h1 | replace h1 := of_decide_eq_false (nb_T h1) | replace h1 := of_decide_eq_true (nb_F h1) | replace h1 := nb_T h1 | replace h1 := nb_F h1 | skip
    first | replace h1 := Int.not_lt.mp h1 | replace h1 := Int.not_le.mp h1 | replace h1 := Decidable.not_not.mp h1 | skip
    refine wc_stay ?_
    refine wc_seq ?_
    refine wc_seq ?_
    refine wc_text ?_
    refine w_move rfl rfl ?_
    first | refine w_len rfl rfl (len_lst u34) ?_ | refine w_len rfl rfl (len_slice u34) ?_ | refine w_lenO rfl u34 rfl rfl tk ?_
    refine w_move rfl rfl ?_
    refine ws_nil ?_
    refine wc_block ?_
    refine wc_loop (σ := { k : Nat // k ≤ l.length ∧ l.take k = m.take k }) (fun s => [(0, AL eN l), (1, AL eN m), (12, .int .i64 (l.length : Nat)), (13, .int .i64 (s.1 : Nat))]) (fun s => []) (fun s => l.length - s.1) ?_ ⟨0, Nat.zero_le _, rfl⟩ (.cons rfl (.cons rfl (.cons rfl (.cons rfl (.nil _))))) (Sel.weak .nil)
    rintro ⟨k, hk, hs⟩
    dsimp only
    refine wc_seq ?_
    refine wc_text ?_
    refine w_lss u3 rfl rfl rfl ?_
    refine ws_nil ?_
    refine wc_seq ?_
    refine wc_cond rfl (fun h4 => ?_) (fun h4 => ?_)
    · first | replace h4 := of_decide_eq_true h4 | replace h4 := of_decide_eq_false h4 | replace h4 := of_decide_eq_false (nb_T h4) | replace h4 := of_decide_eq_true (nb_F h4) | replace h4 := nb_T h4 | replace h4 := nb_F h4 | skip
      first | replace h4 := Int.not_lt.mp h4 | replace h4 := Int.not_le.mp h4 | replace h4 := Decidable.not_not.mp h4 | skip
      refine wc_stay ?_
      refine wc_seq ?_
      refine wc_block ?_
      refine wc_seq ?_
      refine wc_text ?_
      refine w_move rfl rfl ?_
      refine w_assign rfl rfl ?_
      refine ws_nil ?_
      refine wc_seq ?_
      refine wc_free [0, 0, 3, 7, 15, 0, 0, 96, 224, 480, 1023, 2047, 4095, 4095, 16383, 32767, 65535, 4095, 4095, 397311, 921599, 1970175, 4194303, 8388607, 16777215, 33554431, 33554431, 134217727, 268435455, 536870911, 33554431, 33554431, 3254779903, 7549747199, 16139681791, 34359738367, 68719476735, 137438953471] (by kernel_rfl) (by kernel_rfl) (fun F => ?_)
      obtain ⟨x, hx⟩ := get_of_lt (l := l) (k := k) (by omega)
      obtain ⟨y, hy⟩ := get_of_lt (l := m) (k := k) (by omega)
      have hxa := ha x (List.mem_of_getElem? hx)
      refine wr_float F 0 rfl (by kernel_rfl) (.inl (by kernel_rfl)) ?_
      refine w_move rfl rfl ?_
      refine ws_nil ?_
      refine wr_float F 1 rfl (by kernel_rfl) (.inl (by kernel_rfl)) ?_
      refine w_move rfl rfl ?_
      refine ws_nil ?_
      refine wr_float F 2 rfl (by kernel_rfl) (.inl (by kernel_rfl)) ?_
      first | refine w_lidx u34 s27 rfl rfl rfl (by omega) ?_ | refine w_slidx u34 s27 rfl rfl rfl (by omega) ?_
      refine ws_nil ?_
      refine wr_float F 3 rfl (by kernel_rfl) (.inl (by kernel_rfl)) ?_
      first | refine w_faddrC O27_0 rfl rfl ?_ | refine w_faddrP O27_0 rfl rfl ?_
      refine ws_nil ?_
      refine wr_pure F 4 rfl (by kernel_rfl) rfl rfl (pf_ldC1 a9 rfl rdc) (.inl rfl) ?_
      refine wr_float F 5 rfl (by kernel_rfl) (.inl (by kernel_rfl)) ?_
      refine w_move rfl rfl ?_
      refine ws_nil ?_
      refine wr_float F 6 rfl (by kernel_rfl) (.inl (by kernel_rfl)) ?_
      refine w_move rfl rfl ?_
      refine ws_nil ?_
      refine wr_float F 7 rfl (by kernel_rfl) (.inl (by kernel_rfl)) ?_
      first | refine w_lidx u34 s27 rfl rfl rfl (by omega) ?_ | refine w_slidx u34 s27 rfl rfl rfl (by omega) ?_
      refine ws_nil ?_
      refine wr_float F 8 rfl (by kernel_rfl) (.inl (by kernel_rfl)) ?_
      first | refine w_faddrC O27_0 rfl rfl ?_ | refine w_faddrP O27_0 rfl rfl ?_
      refine ws_nil ?_
      refine wr_pure F 9 rfl (by kernel_rfl) rfl rfl (pf_ldC1 a9 rfl rdc) (.inl rfl) ?_
      refine wr_float F 10 rfl (by kernel_rfl) (.inl (by kernel_rfl)) ?_
      refine w_sneq u9 rfl rfl rfl ?_
      refine ws_nil ?_
      refine wr_float F 11 rfl (by kernel_rfl) (.inl (by kernel_rfl)) ?_
      refine w_move rfl rfl ?_
      refine ws_nil ?_
      refine wr_split (t := 27) rfl (fun g27 => ?_) (fun g27 => ?_)
      · first | replace g27 := of_decide_eq_true g27 | replace g27 := of_decide_eq_false g27 | replace g27 := of_decide_eq_false (nb_T g27) | replace g27 := of_decide_eq_true (nb_F g27) | replace g27 := nb_T g27 | replace g27 := nb_F g27 | skip
        first | replace g27 := Int.not_lt.mp g27 | replace g27 := Int.not_le.mp g27 | replace g27 := Decidable.not_not.mp g27 | skip
        refine wr_float F 12 rfl (by kernel_rfl) (.inr (off_of rfl rfl rfl rfl)) ?_
        refine ws_off rfl rfl rfl rfl ?_
        refine ws_nil ?_
        refine wr_float F 13 rfl (by kernel_rfl) (.inr (off_of rfl rfl rfl rfl)) ?_
        refine ws_off rfl rfl rfl rfl ?_
        refine ws_nil ?_
        refine wr_float F 14 rfl (by kernel_rfl) (.inr (off_of rfl rfl rfl rfl)) ?_
        refine ws_off rfl rfl rfl rfl ?_
        refine ws_nil ?_
        refine wr_float F 15 rfl (by kernel_rfl) (.inr (off_of rfl rfl rfl rfl)) ?_
        refine ws_off rfl rfl rfl rfl ?_
        refine ws_nil ?_
        refine wr_float F 16 rfl (by kernel_rfl) (.inr (off_of rfl rfl rfl rfl)) ?_
        refine ws_off rfl rfl rfl rfl ?_
        refine ws_nil ?_
        refine wr_float F 17 rfl (by kernel_rfl) (.inr (off_of rfl rfl rfl rfl)) ?_
        refine ws_off rfl rfl rfl rfl ?_
        refine ws_nil ?_
        refine wr_float F 18 rfl (by kernel_rfl) (.inr (off_of rfl rfl rfl rfl)) ?_
        refine ws_off rfl rfl rfl rfl ?_
        refine ws_nil ?_
        refine wr_float F 19 rfl (by kernel_rfl) (.inr (off_of rfl rfl rfl rfl)) ?_
        refine ws_off rfl rfl rfl rfl ?_
        refine ws_nil ?_
        refine wr_float F 20 rfl (by kernel_rfl) (.inr (off_of rfl rfl rfl rfl)) ?_
        refine ws_off rfl rfl rfl rfl ?_
        refine ws_nil ?_
        refine wr_float F 21 rfl (by kernel_rfl) (.inr (off_of rfl rfl rfl rfl)) ?_
        refine ws_off rfl rfl rfl rfl ?_
        refine ws_nil ?_
        refine wr_float F 22 rfl (by kernel_rfl) (.inr (off_of rfl rfl rfl rfl)) ?_
        refine ws_off rfl rfl rfl rfl ?_
        refine ws_nil ?_
        refine wr_float F 23 rfl (by kernel_rfl) (.inl (by kernel_rfl)) ?_
        first | refine w_pickT rfl rfl rfl ⟨_, rfl⟩ ?_ | refine w_pickF rfl rfl ⟨_, rfl⟩ rfl ?_ | refine w_pick rfl rfl rfl rfl ?_
        refine ws_nil ?_
        refine wr_float F 24 rfl (by kernel_rfl) (.inl (by kernel_rfl)) ?_
        refine w_move rfl rfl ?_
        refine ws_nil ?_
        refine wr_float F 25 rfl (by kernel_rfl) (.inr (off_of rfl rfl rfl rfl)) ?_
        refine ws_off rfl rfl rfl rfl ?_
        refine ws_nil ?_
        refine wr_float F 26 rfl (by kernel_rfl) (.inr (off_of rfl rfl rfl rfl)) ?_
        refine ws_off rfl rfl rfl rfl ?_
        refine ws_nil ?_
        refine wr_float F 27 rfl (by kernel_rfl) (.inr (off_of rfl rfl rfl rfl)) ?_
        refine ws_off rfl rfl rfl rfl ?_
        refine ws_nil ?_
        refine wr_float F 28 rfl (by kernel_rfl) (.inr (off_of rfl rfl rfl rfl)) ?_
        refine ws_off rfl rfl rfl rfl ?_
        refine ws_nil ?_
        refine wr_float F 29 rfl (by kernel_rfl) (.inr (off_of rfl rfl rfl rfl)) ?_
        refine ws_off rfl rfl rfl rfl ?_
        refine ws_nil ?_
        refine wr_float F 30 rfl (by kernel_rfl) (.inr (off_of rfl rfl rfl rfl)) ?_
        refine ws_off rfl rfl rfl rfl ?_
        refine ws_nil ?_
        refine wr_float F 31 rfl (by kernel_rfl) (.inr (off_of rfl rfl rfl rfl)) ?_
        refine ws_off rfl rfl rfl rfl ?_
        refine ws_nil ?_
        refine wr_float F 32 rfl (by kernel_rfl) (.inr (off_of rfl rfl rfl rfl)) ?_
        refine ws_off rfl rfl rfl rfl ?_
        refine ws_nil ?_
        refine wr_float F 33 rfl (by kernel_rfl) (.inr (off_of rfl rfl rfl rfl)) ?_
        refine ws_off rfl rfl rfl rfl ?_
        refine ws_nil ?_
        refine wr_float F 34 rfl (by kernel_rfl) (.inr (off_of rfl rfl rfl rfl)) ?_
        refine ws_off rfl rfl rfl rfl ?_
        refine ws_nil ?_
        refine wr_float F 35 rfl (by kernel_rfl) (.inr (off_of rfl rfl rfl rfl)) ?_
        refine ws_off rfl rfl rfl rfl ?_
        refine ws_nil ?_
        refine wr_float F 36 rfl (by kernel_rfl) (.inr (off_of rfl rfl rfl rfl)) ?_
        refine ws_off rfl rfl rfl rfl ?_
        refine ws_nil ?_
        refine wr_float F 37 rfl (by kernel_rfl) (.inl (by kernel_rfl)) ?_
        first | refine w_pickT rfl rfl rfl ⟨_, rfl⟩ ?_ | refine w_pickF rfl rfl ⟨_, rfl⟩ rfl ?_ | refine w_pick rfl rfl rfl rfl ?_
        refine ws_nil ?_
        refine wr_end F (by kernel_rfl) ?_
        refine wc_condT rfl ?_
        refine wc_seq ?_
        refine wc_text ?_
        refine w_assign rfl rfl ?_
        refine ws_nil ?_
        refine wc_ret ?_
        refine ⟨_, (.cons (.tmp rfl) .nil), ?_, rfl⟩
        refine congrArg AV.bool (decide_eq_false ?_); rintro rfl; rw [hx] at hy; cases hy; first | exact g27 rfl | exact g40 rfl | simp at h6
      · first | replace g27 := of_decide_eq_true g27 | replace g27 := of_decide_eq_false g27 | replace g27 := of_decide_eq_false (nb_T g27) | replace g27 := of_decide_eq_true (nb_F g27) | replace g27 := nb_T g27 | replace g27 := nb_F g27 | skip
        first | replace g27 := Int.not_lt.mp g27 | replace g27 := Int.not_le.mp g27 | replace g27 := Decidable.not_not.mp g27 | skip
        refine wr_float F 12 rfl (by kernel_rfl) (.inl (by kernel_rfl)) ?_
        refine ws_on rfl rfl ?_ (hn := rfl)
        refine w_move rfl rfl ?_
        refine ws_nil ?_
        refine wr_float F 13 rfl (by kernel_rfl) (.inl (by kernel_rfl)) ?_
        refine ws_on rfl rfl ?_ (hn := rfl)
        refine w_move rfl rfl ?_
        refine ws_nil ?_
        refine wr_float F 14 rfl (by kernel_rfl) (.inl (by kernel_rfl)) ?_
        refine ws_on rfl rfl ?_ (hn := rfl)
        first | refine w_lidx u34 s27 rfl rfl rfl (by omega) ?_ | refine w_slidx u34 s27 rfl rfl rfl (by omega) ?_
        refine ws_nil ?_
        refine wr_float F 15 rfl (by kernel_rfl) (.inl (by kernel_rfl)) ?_
        refine ws_on rfl rfl ?_ (hn := rfl)
        first | refine w_faddrC O27_1 rfl rfl ?_ | refine w_faddrP O27_1 rfl rfl ?_
        refine ws_nil ?_
        refine wr_pure F 16 rfl (by kernel_rfl) rfl rfl (pf_ldC1 a9 rfl rdc) (.inr ⟨_, _, _, rfl, rfl, rfl⟩) ?_
        refine wr_float F 17 rfl (by kernel_rfl) (.inl (by kernel_rfl)) ?_
        refine ws_on rfl rfl ?_ (hn := rfl)
        refine w_move rfl rfl ?_
        refine ws_nil ?_
        refine wr_float F 18 rfl (by kernel_rfl) (.inl (by kernel_rfl)) ?_
        refine ws_on rfl rfl ?_ (hn := rfl)
        refine w_move rfl rfl ?_
        refine ws_nil ?_
        refine wr_float F 19 rfl (by kernel_rfl) (.inl (by kernel_rfl)) ?_
        refine ws_on rfl rfl ?_ (hn := rfl)
        first | refine w_lidx u34 s27 rfl rfl rfl (by omega) ?_ | refine w_slidx u34 s27 rfl rfl rfl (by omega) ?_
        refine ws_nil ?_
        refine wr_float F 20 rfl (by kernel_rfl) (.inl (by kernel_rfl)) ?_
        refine ws_on rfl rfl ?_ (hn := rfl)
        first | refine w_faddrC O27_1 rfl rfl ?_ | refine w_faddrP O27_1 rfl rfl ?_
        refine ws_nil ?_
        refine wr_pure F 21 rfl (by kernel_rfl) rfl rfl (pf_ldC1 a9 rfl rdc) (.inr ⟨_, _, _, rfl, rfl, rfl⟩) ?_
        refine wr_float F 22 rfl (by kernel_rfl) (.inl (by kernel_rfl)) ?_
        refine ws_on rfl rfl ?_ (hn := rfl)
        refine w_sneq u9 rfl rfl rfl ?_
        refine ws_nil ?_
        refine wr_float F 23 rfl (by kernel_rfl) (.inl (by kernel_rfl)) ?_
        first | refine w_pickT rfl rfl rfl ⟨_, rfl⟩ ?_ | refine w_pickF rfl rfl ⟨_, rfl⟩ rfl ?_ | refine w_pick rfl rfl rfl rfl ?_
        refine ws_nil ?_
        refine wr_float F 24 rfl (by kernel_rfl) (.inl (by kernel_rfl)) ?_
        refine w_move rfl rfl ?_
        refine ws_nil ?_
        refine wr_split (t := 40) rfl (fun g40 => ?_) (fun g40 => ?_)
        · first | replace g40 := of_decide_eq_true g40 | replace g40 := of_decide_eq_false g40 | replace g40 := of_decide_eq_false (nb_T g40) | replace g40 := of_decide_eq_true (nb_F g40) | replace g40 := nb_T g40 | replace g40 := nb_F g40 | skip
          first | replace g40 := Int.not_lt.mp g40 | replace g40 := Int.not_le.mp g40 | replace g40 := Decidable.not_not.mp g40 | skip
          refine wr_float F 25 rfl (by kernel_rfl) (.inr (off_of rfl rfl rfl rfl)) ?_
          refine ws_off rfl rfl rfl rfl ?_
          refine ws_nil ?_
          refine wr_float F 26 rfl (by kernel_rfl) (.inr (off_of rfl rfl rfl rfl)) ?_
          refine ws_off rfl rfl rfl rfl ?_
          refine ws_nil ?_
          refine wr_float F 27 rfl (by kernel_rfl) (.inr (off_of rfl rfl rfl rfl)) ?_
          refine ws_off rfl rfl rfl rfl ?_
          refine ws_nil ?_
          refine wr_float F 28 rfl (by kernel_rfl) (.inr (off_of rfl rfl rfl rfl)) ?_
          refine ws_off rfl rfl rfl rfl ?_
          refine ws_nil ?_
          refine wr_float F 29 rfl (by kernel_rfl) (.inr (off_of rfl rfl rfl rfl)) ?_
          refine ws_off rfl rfl rfl rfl ?_
          refine ws_nil ?_
          refine wr_float F 30 rfl (by kernel_rfl) (.inr (off_of rfl rfl rfl rfl)) ?_
          refine ws_off rfl rfl rfl rfl ?_
          refine ws_nil ?_
          refine wr_float F 31 rfl (by kernel_rfl) (.inr (off_of rfl rfl rfl rfl)) ?_
          refine ws_off rfl rfl rfl rfl ?_
          refine ws_nil ?_
          refine wr_float F 32 rfl (by kernel_rfl) (.inr (off_of rfl rfl rfl rfl)) ?_
          refine ws_off rfl rfl rfl rfl ?_
          refine ws_nil ?_
          refine wr_float F 33 rfl (by kernel_rfl) (.inr (off_of rfl rfl rfl rfl)) ?_
          refine ws_off rfl rfl rfl rfl ?_
          refine ws_nil ?_
          refine wr_float F 34 rfl (by kernel_rfl) (.inr (off_of rfl rfl rfl rfl)) ?_
          refine ws_off rfl rfl rfl rfl ?_
          refine ws_nil ?_
          refine wr_float F 35 rfl (by kernel_rfl) (.inr (off_of rfl rfl rfl rfl)) ?_
          refine ws_off rfl rfl rfl rfl ?_
          refine ws_nil ?_
          refine wr_float F 36 rfl (by kernel_rfl) (.inr (off_of rfl rfl rfl rfl)) ?_
          refine ws_off rfl rfl rfl rfl ?_
          refine ws_nil ?_
          refine wr_float F 37 rfl (by kernel_rfl) (.inl (by kernel_rfl)) ?_
          first | refine w_pickT rfl rfl rfl ⟨_, rfl⟩ ?_ | refine w_pickF rfl rfl ⟨_, rfl⟩ rfl ?_ | refine w_pick rfl rfl rfl rfl ?_
          refine ws_nil ?_
          refine wr_end F (by kernel_rfl) ?_
          refine wc_condT rfl ?_
          refine wc_seq ?_
          refine wc_text ?_
          refine w_assign rfl rfl ?_
          refine ws_nil ?_
          refine wc_ret ?_
          refine ⟨_, (.cons (.tmp rfl) .nil), ?_, rfl⟩
          refine congrArg AV.bool (decide_eq_false ?_); rintro rfl; rw [hx] at hy; cases hy; first | exact g27 rfl | exact g40 rfl | simp at h6
        · first | replace g40 := of_decide_eq_true g40 | replace g40 := of_decide_eq_false g40 | replace g40 := of_decide_eq_false (nb_T g40) | replace g40 := of_decide_eq_true (nb_F g40) | replace g40 := nb_T g40 | replace g40 := nb_F g40 | skip
          first | replace g40 := Int.not_lt.mp g40 | replace g40 := Int.not_le.mp g40 | replace g40 := Decidable.not_not.mp g40 | skip
          refine wr_float F 25 rfl (by kernel_rfl) (.inl (by kernel_rfl)) ?_
          refine ws_on rfl rfl ?_ (hn := rfl)
          refine w_move rfl rfl ?_
          refine ws_nil ?_
          refine wr_float F 26 rfl (by kernel_rfl) (.inl (by kernel_rfl)) ?_
          refine ws_on rfl rfl ?_ (hn := rfl)
          refine w_move rfl rfl ?_
          refine ws_nil ?_
          refine wr_float F 27 rfl (by kernel_rfl) (.inl (by kernel_rfl)) ?_
          refine ws_on rfl rfl ?_ (hn := rfl)
          first | refine w_lidx u34 s27 rfl rfl rfl (by omega) ?_ | refine w_slidx u34 s27 rfl rfl rfl (by omega) ?_
          refine ws_nil ?_
          refine wr_float F 28 rfl (by kernel_rfl) (.inl (by kernel_rfl)) ?_
          refine ws_on rfl rfl ?_ (hn := rfl)
          first | refine w_faddrC O27_2 rfl rfl ?_ | refine w_faddrP O27_2 rfl rfl ?_
          refine ws_nil ?_
          refine wr_pure F 29 rfl (by kernel_rfl) rfl rfl (pf_ldC1 a25 rfl rdc) (.inr ⟨_, _, _, rfl, rfl, rfl⟩) ?_
          refine wr_float F 30 rfl (by kernel_rfl) (.inl (by kernel_rfl)) ?_
          refine ws_on rfl rfl ?_ (hn := rfl)
          refine w_move rfl rfl ?_
          refine ws_nil ?_
          refine wr_float F 31 rfl (by kernel_rfl) (.inl (by kernel_rfl)) ?_
          refine ws_on rfl rfl ?_ (hn := rfl)
          refine w_move rfl rfl ?_
          refine ws_nil ?_
          refine wr_float F 32 rfl (by kernel_rfl) (.inl (by kernel_rfl)) ?_
          refine ws_on rfl rfl ?_ (hn := rfl)
          first | refine w_lidx u34 s27 rfl rfl rfl (by omega) ?_ | refine w_slidx u34 s27 rfl rfl rfl (by omega) ?_
          refine ws_nil ?_
          refine wr_float F 33 rfl (by kernel_rfl) (.inl (by kernel_rfl)) ?_
          refine ws_on rfl rfl ?_ (hn := rfl)
          first | refine w_faddrC O27_2 rfl rfl ?_ | refine w_faddrP O27_2 rfl rfl ?_
          refine ws_nil ?_
          refine wr_pure F 34 rfl (by kernel_rfl) rfl rfl (pf_ldC1 a25 rfl rdc) (.inr ⟨_, _, _, rfl, rfl, rfl⟩) ?_
          refine wr_next F (l := [35]) (by kernel_rfl) (by simp) (.cons rfl ?_ (.nil))
          refine ws_on rfl rfl ?_ (hn := rfl)
          refine w_call rfl rfl (cw_fn rfl rfl (.cons fz (.cons fz .nil)) (sameS_fn _ _ (by omega)) ?_)
          refine ws_nil ?_
          refine wr_float F 36 rfl (by kernel_rfl) (.inl (by kernel_rfl)) ?_
          refine ws_on rfl rfl ?_ (hn := rfl)
          refine w_not rfl rfl ?_
          refine ws_nil ?_
          refine wr_float F 37 rfl (by kernel_rfl) (.inl (by kernel_rfl)) ?_
          first | refine w_pickT rfl rfl rfl ⟨_, rfl⟩ ?_ | refine w_pickF rfl rfl ⟨_, rfl⟩ rfl ?_ | refine w_pick rfl rfl rfl rfl ?_
          refine ws_nil ?_
          refine wr_end F (by kernel_rfl) ?_
          refine wc_cond rfl (fun h6 => ?_) (fun h6 => ?_)
          · skip
            refine wc_seq ?_
            refine wc_text ?_
            refine w_assign rfl rfl ?_
            refine ws_nil ?_
            refine wc_ret ?_
            refine ⟨_, (.cons (.tmp rfl) .nil), ?_, rfl⟩
            refine congrArg AV.bool (decide_eq_false ?_); rintro rfl; rw [hx] at hy; cases hy; first | exact g27 rfl | exact g40 rfl | simp at h6
          · skip
            refine wc_stay ?_
            refine wc_text ?_
            refine w_add u3 rfl rfl rfl (by omega) ?_
            refine w_move rfl rfl ?_
            refine ws_nil ?_
            exact ⟨⟨k + 1, by omega, by rw [take_one hx, take_one hy, hs, note_eq g27 g40 (by simpa using h6)]⟩, by simp only; omega, (.cons rfl (.cons rfl (.cons rfl (.cons rfl (.nil _))))), (Sel.weak .nil)⟩
    · first | replace h4 := of_decide_eq_true h4 | replace h4 := of_decide_eq_false h4 | replace h4 := of_decide_eq_false (nb_T h4) | replace h4 := of_decide_eq_true (nb_F h4) | replace h4 := nb_T h4 | replace h4 := nb_F h4 | skip
      first | replace h4 := Int.not_lt.mp h4 | replace h4 := Int.not_le.mp h4 | replace h4 := Decidable.not_not.mp h4 | skip
      refine wc_exit ?_
      refine wc_seq ?_
      refine wc_text ?_
      refine w_assign rfl rfl ?_
      refine ws_nil ?_
      refine wc_ret ?_
      refine ⟨_, (.cons (.tmp rfl) .nil), ?_, rfl⟩
      refine congrArg AV.bool (decide_eq_true ?_)
      have := hs
      rw [List.take_of_length_le (by omega), List.take_of_length_le (by omega)] at this; exact this
end Go.Proofs.Ytknpdigpendnjaa.ml
