/-
  Package disk, walked by facts (printed by gen_dk.py).
-/
import Derived.Test.YtknpdigpendnjaaProg
import Derived.Test.YtknpdigpendnjaaBhDkL
import Derived.KernelRfl
namespace Go.Proofs.Ytknpdigpendnjaa.dk
open Go Go.Proofs Go.Proofs.Ytknpdigpendnjaa.BH Go.Proofs.Ytknpdigpendnjaa.BH.Dk
set_option maxRecDepth 100000
noncomputable def kinds (f : FuncId) : Kind :=
  if (f = 17 ∨ f = 18 ∨ f = 28 ∨ f = 7 ∨ f = 10 ∨ f = 9) then ⟨true, false, false, false, false⟩ else
  if (f = 35) then ⟨true, true, false, false, false⟩ else
  ⟨false, false, false, false, false⟩
noncomputable def C : Ctx := ⟨Try.prog, ⟨kinds, fun _ => none⟩, fun _ _ h => (by cases h), by kernel_rfl⟩
theorem nb_T {b : Bool} (h : (!b) = true) : b = false := by cases b <;> simp_all
theorem byte_eq {x y : UInt8} (h : ¬ ((x.toNat : Int) ≠ (y.toNat : Int))) : x = y := UInt8.toNat_inj.mp (by omega)
theorem nb_F {b : Bool} (h : (!b) = false) : b = true := by cases b <;> simp_all
theorem B67 : buildF C.P 67 = ⟨fun ps => bnd (fillV (pairAt [(0, 1), (1, 1), (2, 1), (3, 1), (4, 1), (5, 1)]) [.int .i64 0, .int .i64 0, .slice none 0 (.exact 0), .bool false, .bool false, .int .i64 0] ps) fun l => some (.agg l)⟩ := by kernel_rfl
theorem O56_0 : fieldOff C.P 56 0 = some 0 := by kernel_rfl
theorem O56_1 : fieldOff C.P 56 1 = some 1 := by kernel_rfl
theorem O56_2 : fieldOff C.P 56 2 = some 2 := by kernel_rfl
theorem O56_3 : fieldOff C.P 56 3 = some 3 := by kernel_rfl
theorem O67_0 : fieldOff C.P 67 0 = some 0 := by kernel_rfl
theorem O67_1 : fieldOff C.P 67 1 = some 1 := by kernel_rfl
theorem O67_2 : fieldOff C.P 67 2 = some 2 := by kernel_rfl
theorem O67_3 : fieldOff C.P 67 3 = some 3 := by kernel_rfl
theorem O67_4 : fieldOff C.P 67 4 = some 4 := by kernel_rfl
theorem O67_5 : fieldOff C.P 67 5 = some 5 := by kernel_rfl
theorem a3 : aggOf C.P 3 = some false := by kernel_rfl
theorem a37 : aggOf C.P 37 = some false := by kernel_rfl
theorem a4 : aggOf C.P 4 = some false := by kernel_rfl
theorem a5 : aggOf C.P 5 = some false := by kernel_rfl
theorem a56 : aggOf C.P 56 = some true := by kernel_rfl
theorem b5 : bytesOf C.P 5 = some 1 := by kernel_rfl
theorem s3 : szOf C.P 3 = some 1 := by kernel_rfl
theorem s37 : szOf C.P 37 = some 1 := by kernel_rfl
theorem s4 : szOf C.P 4 = some 1 := by kernel_rfl
theorem s5 : szOf C.P 5 = some 1 := by kernel_rfl
theorem s56 : szOf C.P 56 = some 4 := by kernel_rfl
theorem s67 : szOf C.P 67 = some 6 := by kernel_rfl
theorem u3 : undOf C.P 3 = some (.int .i64) := by kernel_rfl
theorem u37 : undOf C.P 37 = some (.slice 5) := by kernel_rfl
theorem u4 : undOf C.P 4 = some (.bool) := by kernel_rfl
theorem u44 : undOf C.P 44 = some (.pointer 67) := by kernel_rfl
theorem u47 : undOf C.P 47 = some (.int .i64) := by kernel_rfl
theorem u5 : undOf C.P 5 = some (.int .u8) := by kernel_rfl
theorem u51 : undOf C.P 51 = some (.slice 37) := by kernel_rfl
theorem u54 : undOf C.P 54 = some (.slice 56) := by kernel_rfl
theorem u56 : undOf C.P 56 = some (.struct (fieldsOf C.P 56)) := by kernel_rfl
theorem z37 : zeroCells C.P 37 = some [.slice none 0 (.exact 0)] := by kernel_rfl
theorem z5 : zeroCells C.P 5 = some [.int .u8 0] := by kernel_rfl
theorem z56 : zeroCells C.P 56 = some [.int .i64 0, .int .i64 0, .slice none 0 (.exact 0), .slice none 0 (.exact 0)] := by kernel_rfl
theorem clone_nil  (R : List HI) : CallW C 36 [nilSlice] ([] ++ R) fun v H => ∃ H', H = H' ++ R ∧ H' = [.own v 5 1 [] 0] := by
  refine cw_sharedA (fn := Try.f36) rfl rfl rfl rfl (K := fun v H' => H' = [.own v 5 1 [] 0]) ?_ R
  refine wc_seq ?_
  refine wc_text ?_
  refine w_assign rfl rfl ?_
  refine ws_nil ?_
  refine wc_seq ?_
  refine wc_seq ?_
  refine wc_text ?_
  refine w_move rfl rfl ?_
  refine w_ceql u37 (by simp) (by simp) rfl rfl rfl (cmp_sl u37 rfl rfl) ?_
  refine ws_nil ?_
  refine wc_cond rfl (fun h1 => ?_) (fun h1 => ?_)
  · skip
    refine wc_seq ?_
    refine wc_text ?_
    refine w_assign rfl rfl ?_
    refine ws_nil ?_
    refine WC.ownNil 5 1 ?_
    refine wc_ret ?_
    refine ⟨_, _, (.cons (.tmp rfl) .nil), (Sel.weak (.cons tk .nil)), ?_⟩
    rfl
  · skip
    cases h1

theorem clone_emp  (R : List HI) : CallW C 36 [.lst [] 0 false false] ([] ++ R) fun v H => ∃ H', H = H' ++ R ∧ H' = [.own v 5 1 [] 0] := by
  refine cw_sharedA (fn := Try.f36) rfl rfl rfl rfl (K := fun v H' => H' = [.own v 5 1 [] 0]) ?_ R
  refine wc_seq ?_
  refine wc_text ?_
  refine w_assign rfl rfl ?_
  refine ws_nil ?_
  refine wc_seq ?_
  refine wc_seq ?_
  refine wc_text ?_
  refine w_move rfl rfl ?_
  refine w_ceql u37 (by simp) (by simp) rfl rfl rfl (cmp_sl u37 rfl rfl) ?_
  refine ws_nil ?_
  refine wc_cond rfl (fun h1 => ?_) (fun h1 => ?_)
  · skip
    cases h1
  · skip
    refine wc_stay ?_
    refine wc_seq ?_
    refine wc_text ?_
    refine w_buildS (cs := []) u37 s5 z5 (by decide) rfl rfl rfl (fun o5 => ?_)
    refine w_move rfl rfl ?_
    refine WS.ownEmpty (v := .slice (some ⟨o5, 0⟩) 0 (.exact 0)) (.inl ⟨_, rfl⟩) 5 1 ?_
    refine w_appO (enc := eB) (l := []) (m := []) rfl u37 s5 b5 z5 u37 (by simp) rfl rfl rfl tk (new_lst rfl rfl) (by unfold bigBy; first | omega | (simp only [List.length_nil, List.length_cons, List.length_append, List.length_take, List.length_drop]; omega)) (by unfold bigBy; first | omega | (simp only [List.length_nil, List.length_cons, List.length_append, List.length_take, List.length_drop]; omega)) (fun v7 => ?_)
    refine w_assign rfl rfl ?_
    refine ws_nil ?_
    refine wc_ret ?_
    refine ⟨_, _, (.cons (.tmp rfl) .nil), (Sel.weak (.cons tk .nil)), ?_⟩
    rfl

theorem clone_cons (a : UInt8) (l : List UInt8) (hl : l.length < 1000000) (R : List HI) : CallW C 36 [AL eB (a :: l)] ([] ++ R) fun v H => ∃ H', H = H' ++ R ∧ H' = [.own v 5 1 ((a :: l).flatMap eB) (a :: l).length] := by
  refine cw_sharedA (fn := Try.f36) rfl rfl rfl rfl (K := fun v H' => H' = [.own v 5 1 ((a :: l).flatMap eB) (a :: l).length]) ?_ R
  refine wc_seq ?_
  refine wc_text ?_
  refine w_assign rfl rfl ?_
  refine ws_nil ?_
  refine wc_seq ?_
  refine wc_seq ?_
  refine wc_text ?_
  refine w_move rfl rfl ?_
  refine w_ceql u37 (by simp) (by simp) rfl rfl rfl (cmp_sl u37 rfl rfl) ?_
  refine ws_nil ?_
  refine wc_cond rfl (fun h1 => ?_) (fun h1 => ?_)
  · skip
    cases h1
  · skip
    refine wc_stay ?_
    refine wc_seq ?_
    refine wc_text ?_
    have hl2 : (a :: l).length = l.length + 1 := rfl
    refine w_buildS (cs := []) u37 s5 z5 (by decide) rfl rfl rfl (fun o5 => ?_)
    refine w_move rfl rfl ?_
    refine WS.ownEmpty (v := .slice (some ⟨o5, 0⟩) 0 (.exact 0)) (.inl ⟨_, rfl⟩) 5 1 ?_
    refine w_appO (enc := eB) (l := []) (m := a :: l) rfl u37 s5 b5 z5 u37 (by simp) rfl rfl rfl tk nw (by unfold bigBy; first | omega | (simp only [List.length_nil, List.length_cons, List.length_append, List.length_take, List.length_drop]; omega)) (by unfold bigBy; first | omega | (simp only [List.length_nil, List.length_cons, List.length_append, List.length_take, List.length_drop]; omega)) (fun v7 => ?_)
    refine w_assign rfl rfl ?_
    refine ws_nil ?_
    refine wc_ret ?_
    refine ⟨_, _, (.cons (.tmp rfl) .nil), (Sel.weak (.cons tk .nil)), ?_⟩
    rfl

theorem clone_fn (l : List UInt8) (hl : l.length < 1000000) (R : List HI) : CallW C 36 [AL eB l] R fun v H => H = .own v 5 1 (l.flatMap eB) l.length :: R := by
  cases l with
  | nil =>
    refine CallW.splitNil (b := false) ?_ ?_
    · exact CallW.mono (clone_nil R) fun v H ⟨H', h1, h2⟩ => by rw [h1, h2]; rfl
    · exact CallW.mono (clone_emp R) fun v H ⟨H', h1, h2⟩ => by rw [h1, h2]; rfl
  | cons a l => exact CallW.mono (clone_cons a l (by simp at hl; omega) R) fun v H ⟨H', h1, h2⟩ => by rw [h1, h2]; rfl
/-- .. written no more. -/
theorem clone_frz (l : List UInt8) (hl : l.length < 1000000) (R : List HI) : CallW C 36 [AL eB l] R fun v H => v = AL eB l ∧ H = R :=
  CallW.frz (clone_fn l hl R) fun v H h => by subst h; exact ⟨_, _, .ownK rfl .head (flat_done byte_done l), rfl, rfl, rfl⟩

theorem new_fn (room : Int) (R : List HI) : CallW C 22 [.int .i64 room] ([] ++ R) fun v H => ∃ H', H = H' ++ R ∧ ∃ o, v = .ptr (some ⟨o, 0⟩) ∧ H' = [.obj o (.row 67 6 false (DK (newS room)))] := by
  refine cw_sharedA (fn := Try.f22) rfl rfl rfl rfl (K := fun v H' => ∃ o, v = .ptr (some ⟨o, 0⟩) ∧ H' = [.obj o (.row 67 6 false (DK (newS room)))]) ?_ R
  refine wc_seq ?_
  refine wc_text ?_
  refine w_assign rfl rfl ?_
  refine ws_nil ?_
  refine wc_seq ?_
  refine wc_text ?_
  refine w_move rfl rfl ?_
  refine w_min rfl rfl rfl ?_
  refine w_max rfl rfl rfl ?_
  refine w_build (v := .agg [_, _, _, _, _, _]) B67 rfl rfl rfl ?_
  refine w_box s67 rfl rfl rfl (by first | exact tab_length _ _ | rfl) (by first | exact tab_scalar _ _ | rfl) (fun o7 => ?_)
  refine w_assign rfl rfl ?_
  refine ws_nil ?_
  refine WC.weakCells (cs' := DK (newS room)) tk (.cons (.refl _) (.cons (.refl _) (.cons (nil_le false true rfl) (.cons (.refl _) (.cons (.refl _) (.cons (.refl _) .nil)))))) ?_
  refine wc_ret ?_
  refine ⟨_, _, (.cons (.tmp rfl) .nil), (Sel.weak (.cons tk .nil)), ?_⟩
  exact ⟨_, rfl, rfl⟩

theorem arm_fn (o : Nat) (s : St) (n : Int) (R : List HI) : CallW C 23 [.ptr (some ⟨o, 0⟩), .int .i64 n] ([.obj o (.row 67 6 false (DK s))] ++ R) fun v H => ∃ H', H = H' ++ R ∧ H' = [.obj o (.row 67 6 false (DK (armS s n)))] := by
  refine cw_sharedA (fn := Try.f23) rfl rfl rfl rfl (K := fun v H' => H' = [.obj o (.row 67 6 false (DK (armS s n)))]) ?_ R
  refine wc_text ?_
  refine w_move rfl rfl ?_
  refine w_move rfl rfl ?_
  refine w_move rfl rfl ?_
  refine w_move rfl rfl ?_
  refine w_geq u3 rfl rfl rfl ?_
  refine w_nil rfl rfl rfl ?_
  first | refine w_faddrC O67_5 rfl rfl ?_ | refine w_faddrP O67_5 rfl rfl ?_
  refine w_st s3 rfl rfl rfl tk rfl rfl ovw ?_
  refine w_nil rfl rfl rfl ?_
  first | refine w_faddrC O67_4 rfl rfl ?_ | refine w_faddrP O67_4 rfl rfl ?_
  refine w_st s4 rfl rfl rfl tk rfl rfl ovw ?_
  refine ws_nil ?_
  refine ⟨_, _, .nil, (Sel.weak (.cons tk .nil)), ?_⟩
  rfl

theorem size_fn (o : Nat) (s : St) (R : List HI) : CallW C 25 [.ptr (some ⟨o, 0⟩)] ([.obj o (.row 67 6 false (DK s))] ++ R) fun v H => ∃ H', H = H' ++ R ∧ v = .int .i64 (s.b.length : Nat) ∧ H' = [.obj o (.row 67 6 false (DK s))] := by
  refine cw_sharedA (fn := Try.f25) rfl rfl rfl rfl (K := fun v H' => v = .int .i64 (s.b.length : Nat) ∧ H' = [.obj o (.row 67 6 false (DK s))]) ?_ R
  refine wc_seq ?_
  refine wc_text ?_
  refine w_assign rfl rfl ?_
  refine ws_nil ?_
  refine wc_seq ?_
  refine wc_text ?_
  refine w_move rfl rfl ?_
  refine w_nil rfl rfl rfl ?_
  first | refine w_faddrC O67_2 rfl rfl ?_ | refine w_faddrP O67_2 rfl rfl ?_
  first | refine w_ldC1 a37 rfl rfl rdc ?_ | refine w_ldP1 a37 rfl rfl tk rdp ?_
  first | refine w_len rfl rfl (len_lst u37) ?_ | refine w_len rfl rfl (len_slice u37) ?_ | refine w_lenO rfl u37 rfl rfl tk ?_
  refine w_assign rfl rfl ?_
  refine ws_nil ?_
  refine wc_ret ?_
  refine ⟨_, _, (.cons (.tmp rfl) .nil), (Sel.weak (.cons tk .nil)), ?_⟩
  exact ⟨rfl, rfl⟩

theorem firm_fn (o : Nat) (s : St) (R : List HI) : CallW C 30 [.ptr (some ⟨o, 0⟩)] ([.obj o (.row 67 6 false (DK s))] ++ R) fun v H => ∃ H', H = H' ++ R ∧ v = .int .i64 s.firm ∧ H' = [.obj o (.row 67 6 false (DK s))] := by
  refine cw_sharedA (fn := Try.f30) rfl rfl rfl rfl (K := fun v H' => v = .int .i64 s.firm ∧ H' = [.obj o (.row 67 6 false (DK s))]) ?_ R
  refine wc_seq ?_
  refine wc_text ?_
  refine w_assign rfl rfl ?_
  refine ws_nil ?_
  refine wc_seq ?_
  refine wc_text ?_
  refine w_move rfl rfl ?_
  refine w_nil rfl rfl rfl ?_
  first | refine w_faddrC O67_1 rfl rfl ?_ | refine w_faddrP O67_1 rfl rfl ?_
  first | refine w_ldC1 a3 rfl rfl rdc ?_ | refine w_ldP1 a3 rfl rfl tk rdp ?_
  refine w_assign rfl rfl ?_
  refine ws_nil ?_
  refine wc_ret ?_
  refine ⟨_, _, (.cons (.tmp rfl) .nil), (Sel.weak (.cons tk .nil)), ?_⟩
  exact ⟨rfl, rfl⟩

theorem off_fn (o : Nat) (s : St) (R : List HI) : CallW C 26 [.ptr (some ⟨o, 0⟩)] ([.obj o (.row 67 6 false (DK s))] ++ R) fun v H => ∃ H', H = H' ++ R ∧ v = .bool s.off ∧ H' = [.obj o (.row 67 6 false (DK s))] := by
  refine cw_sharedA (fn := Try.f26) rfl rfl rfl rfl (K := fun v H' => v = .bool s.off ∧ H' = [.obj o (.row 67 6 false (DK s))]) ?_ R
  refine wc_seq ?_
  refine wc_text ?_
  refine w_assign rfl rfl ?_
  refine ws_nil ?_
  refine wc_seq ?_
  refine wc_text ?_
  refine w_move rfl rfl ?_
  refine w_nil rfl rfl rfl ?_
  first | refine w_faddrC O67_3 rfl rfl ?_ | refine w_faddrP O67_3 rfl rfl ?_
  first | refine w_ldC1 a4 rfl rfl rdc ?_ | refine w_ldP1 a4 rfl rfl tk rdp ?_
  refine w_assign rfl rfl ?_
  refine ws_nil ?_
  refine wc_ret ?_
  refine ⟨_, _, (.cons (.tmp rfl) .nil), (Sel.weak (.cons tk .nil)), ?_⟩
  exact ⟨rfl, rfl⟩

theorem burn_fn (o : Nat) (s : St) (n : Int) (hn : 0 ≤ n) (k : Ok s) (R : List HI) : CallW C 37 [.ptr (some ⟨o, 0⟩), .int .i64 n] ([.obj o (.row 67 6 false (DK s))] ++ R) fun v H => ∃ H', H = H' ++ R ∧ v = .int .i64 (burnV s n) ∧ H' = [.obj o (.row 67 6 false (DK (burnS s n)))] := by
  refine cw_sharedA (fn := Try.f37) rfl rfl rfl rfl (K := fun v H' => v = .int .i64 (burnV s n) ∧ H' = [.obj o (.row 67 6 false (DK (burnS s n)))]) ?_ R
  have l0 := k.l0
  have l1 := k.l1
  refine wc_seq ?_
  refine wc_text ?_
  refine w_assign rfl rfl ?_
  refine ws_nil ?_
  refine wc_seq ?_
  refine wc_seq ?_
  refine wc_text ?_
  refine w_move rfl rfl ?_
  refine w_nil rfl rfl rfl ?_
  first | refine w_faddrC O67_4 rfl rfl ?_ | refine w_faddrP O67_4 rfl rfl ?_
  first | refine w_ldC1 a4 rfl rfl rdc ?_ | refine w_ldP1 a4 rfl rfl tk rdp ?_
  refine w_not rfl rfl ?_
  refine ws_nil ?_
  refine wc_cond rfl (fun h1 => ?_) (fun h1 => ?_)
  · simp only [Bool.not_eq_true'] at h1
    refine wc_seq ?_
    refine wc_text ?_
    refine w_move rfl rfl ?_
    refine w_assign rfl rfl ?_
    refine ws_nil ?_
    refine wc_ret ?_
    refine ⟨_, _, (.cons (.tmp rfl) .nil), (Sel.weak (.cons tk .nil)), ?_⟩
    exact ⟨by unfold burnV; rw [h1]; rfl, by unfold burnS; rw [h1]; rfl⟩
  · replace h1 := nb_F h1
    replace l0 := l0 h1
    refine wc_stay ?_
    refine wc_seq ?_
    refine wc_text ?_
    refine w_move rfl rfl ?_
    refine w_move rfl rfl ?_
    refine w_nil rfl rfl rfl ?_
    first | refine w_faddrC O67_5 rfl rfl ?_ | refine w_faddrP O67_5 rfl rfl ?_
    first | refine w_ldC1 a3 rfl rfl rdc ?_ | refine w_ldP1 a3 rfl rfl tk rdp ?_
    refine w_min rfl rfl rfl ?_
    refine w_assign rfl rfl ?_
    refine ws_nil ?_
    refine wc_seq ?_
    refine wc_text ?_
    refine w_move rfl rfl ?_
    refine w_nil rfl rfl rfl ?_
    first | refine w_faddrC O67_5 rfl rfl ?_ | refine w_faddrP O67_5 rfl rfl ?_
    first | refine w_ldC1 a3 rfl rfl rdc ?_ | refine w_ldP1 a3 rfl rfl tk rdp ?_
    refine w_move rfl rfl ?_
    refine w_sub u3 rfl rfl rfl (by omega) ?_
    refine w_nil rfl rfl rfl ?_
    first | refine w_faddrC O67_5 rfl rfl ?_ | refine w_faddrP O67_5 rfl rfl ?_
    refine w_st s3 rfl rfl rfl tk rfl rfl ovw ?_
    refine ws_nil ?_
    refine wc_seq ?_
    refine wc_text ?_
    refine w_move rfl rfl ?_
    refine w_move rfl rfl ?_
    refine w_move rfl rfl ?_
    refine w_lss u3 rfl rfl rfl ?_
    refine w_nil rfl rfl rfl ?_
    first | refine w_faddrC O67_3 rfl rfl ?_ | refine w_faddrP O67_3 rfl rfl ?_
    refine w_st s4 rfl rfl rfl tk rfl rfl ovw ?_
    refine ws_nil ?_
    refine wc_seq ?_
    refine wc_text ?_
    refine w_move rfl rfl ?_
    refine w_assign rfl rfl ?_
    refine ws_nil ?_
    refine wc_ret ?_
    refine ⟨_, _, (.cons (.tmp rfl) .nil), (Sel.weak (.cons tk .nil)), ?_⟩
    exact ⟨by unfold burnV; rw [h1]; rfl, by unfold burnS; rw [h1]; rfl⟩

theorem one_fn (o : Nat) (s : St) (k : Ok s) (R : List HI) : CallW C 38 [.ptr (some ⟨o, 0⟩)] ([.obj o (.row 67 6 false (DK s))] ++ R) fun v H => ∃ H', H = H' ++ R ∧ v = .bool (oneV s) ∧ H' = [.obj o (.row 67 6 false (DK (oneS s)))] := by
  refine cw_sharedA (fn := Try.f38) rfl rfl rfl rfl (K := fun v H' => v = .bool (oneV s) ∧ H' = [.obj o (.row 67 6 false (DK (oneS s)))]) ?_ R
  refine wc_seq ?_
  refine wc_text ?_
  refine w_assign rfl rfl ?_
  refine ws_nil ?_
  refine wc_seq ?_
  refine wc_text ?_
  refine w_move rfl rfl ?_
  refine w_nil rfl rfl rfl ?_
  first | refine w_faddrC O67_3 rfl rfl ?_ | refine w_faddrP O67_3 rfl rfl ?_
  first | refine w_ldC1 a4 rfl rfl rdc ?_ | refine w_ldP1 a4 rfl rfl tk rdp ?_
  refine w_not rfl rfl ?_
  refine w_move rfl rfl ?_
  refine ws_split (t := 8) rfl (fun g8 => ?_) (fun g8 => ?_)
  · first | replace g8 := of_decide_eq_true g8 | replace g8 := of_decide_eq_false g8 | replace g8 := of_decide_eq_false (nb_T g8) | replace g8 := of_decide_eq_true (nb_F g8) | replace g8 := nb_T g8 | replace g8 := nb_F g8 | skip
    first | replace g8 := Int.not_lt.mp g8 | replace g8 := Int.not_le.mp g8 | replace g8 := Decidable.not_not.mp g8 | skip
    refine ws_on rfl rfl ?_
    refine w_move rfl rfl ?_
    refine ws_on rfl rfl ?_
    refine w_call rfl rfl (CallW.mono (CallW.take tk (burn_fn _ _ _ (by omega) k _)) ?_)
    rintro _ _ ⟨_, rfl, rfl, rfl⟩
    try simp only [List.cons_append, List.nil_append]
    refine ws_on rfl rfl ?_
    refine w_eql u3 rfl rfl rfl ?_
    first | refine w_pickT rfl rfl rfl ⟨_, rfl⟩ ?_ | refine w_pickF rfl rfl ⟨_, rfl⟩ rfl ?_ | refine w_pick rfl rfl rfl rfl ?_
    refine w_assign rfl rfl ?_
    refine ws_nil ?_
    refine wc_ret ?_
    refine ⟨_, _, (.cons (.tmp rfl) .nil), (Sel.weak (.cons tk .nil)), ?_⟩
    first | exact ⟨by unfold oneV; rw [g8]; rfl, by unfold oneS; rw [g8]; rfl⟩ | exact ⟨by unfold oneV; simp [g8], by unfold oneS; simp [g8]⟩
  · first | replace g8 := of_decide_eq_true g8 | replace g8 := of_decide_eq_false g8 | replace g8 := of_decide_eq_false (nb_T g8) | replace g8 := of_decide_eq_true (nb_F g8) | replace g8 := nb_T g8 | replace g8 := nb_F g8 | skip
    first | replace g8 := Int.not_lt.mp g8 | replace g8 := Int.not_le.mp g8 | replace g8 := Decidable.not_not.mp g8 | skip
    refine ws_off rfl rfl rfl rfl ?_
    refine ws_off rfl rfl rfl rfl ?_
    refine ws_off rfl rfl rfl rfl ?_
    first | refine w_pickT rfl rfl rfl ⟨_, rfl⟩ ?_ | refine w_pickF rfl rfl ⟨_, rfl⟩ rfl ?_ | refine w_pick rfl rfl rfl rfl ?_
    refine w_assign rfl rfl ?_
    refine ws_nil ?_
    refine wc_ret ?_
    refine ⟨_, _, (.cons (.tmp rfl) .nil), (Sel.weak (.cons tk .nil)), ?_⟩
    first | exact ⟨by unfold oneV; rw [g8]; rfl, by unfold oneS; rw [g8]; rfl⟩ | exact ⟨by unfold oneV; simp [g8], by unfold oneS; simp [g8]⟩

theorem read_fn (o : Nat) (s : St) (k : Ok s) (R : List HI) : CallW C 29 [.ptr (some ⟨o, 0⟩)] ([.obj o (.row 67 6 false (DK s))] ++ R) fun v H => ∃ H', H = H' ++ R ∧ H' = [.own v 5 1 ((readL s).flatMap eB) (readL s).length, .obj o (.row 67 6 false (DK s))] := by
  refine cw_sharedA (fn := Try.f29) rfl rfl rfl rfl (K := fun v H' => H' = [.own v 5 1 ((readL s).flatMap eB) (readL s).length, .obj o (.row 67 6 false (DK s))]) ?_ R
  have kb := k.b
  have kr := k.r1
  refine wc_seq ?_
  refine wc_text ?_
  refine w_assign rfl rfl ?_
  refine ws_nil ?_
  refine wc_seq ?_
  refine wc_seq ?_
  refine wc_text ?_
  refine w_move rfl rfl ?_
  refine w_nil rfl rfl rfl ?_
  first | refine w_faddrC O67_3 rfl rfl ?_ | refine w_faddrP O67_3 rfl rfl ?_
  first | refine w_ldC1 a4 rfl rfl rdc ?_ | refine w_ldP1 a4 rfl rfl tk rdp ?_
  refine ws_nil ?_
  refine wc_cond rfl (fun h1 => ?_) (fun h1 => ?_)
  · skip
    refine wc_seq ?_
    refine wc_text ?_
    refine w_assign rfl rfl ?_
    refine ws_nil ?_
    refine WC.ownNil 5 1 ?_
    refine wc_ret ?_
    refine ⟨_, _, (.cons (.tmp rfl) .nil), (Sel.weak (.cons tk (.cons tk .nil))), ?_⟩
    unfold readL; rw [h1]; rfl
  · skip
    refine wc_stay ?_
    refine wc_seq ?_
    refine wc_text ?_
    refine w_move rfl rfl ?_
    refine w_nil rfl rfl rfl ?_
    first | refine w_faddrC O67_2 rfl rfl ?_ | refine w_faddrP O67_2 rfl rfl ?_
    first | refine w_ldC1 a37 rfl rfl rdc ?_ | refine w_ldP1 a37 rfl rfl tk rdp ?_
    refine w_call rfl rfl (CallW.mono (clone_fn _ (by omega) _) ?_)
    rintro v11 _ rfl
    try simp only [List.cons_append, List.nil_append]
    refine w_assign rfl rfl ?_
    refine ws_nil ?_
    refine wc_ret ?_
    refine ⟨_, _, (.cons (.tmp rfl) .nil), (Sel.weak (.cons tk (.cons tk .nil))), ?_⟩
    unfold readL; rw [h1]; rfl

theorem sync_fn (o : Nat) (s : St) (k : Ok s) (R : List HI) : CallW C 31 [.ptr (some ⟨o, 0⟩)] ([.obj o (.row 67 6 false (DK s))] ++ R) fun v H => ∃ H', H = H' ++ R ∧ v = .int .i64 (syncV s) ∧ H' = [.obj o (.row 67 6 false (DK (syncS s)))] := by
  refine cw_sharedA (fn := Try.f31) rfl rfl rfl rfl (K := fun v H' => v = .int .i64 (syncV s) ∧ H' = [.obj o (.row 67 6 false (DK (syncS s)))]) ?_ R
  refine wc_seq ?_
  refine wc_text ?_
  refine w_assign rfl rfl ?_
  refine ws_nil ?_
  refine wc_seq ?_
  refine wc_seq ?_
  refine wc_text ?_
  refine w_move rfl rfl ?_
  refine w_call rfl rfl (CallW.mono (CallW.take tk (one_fn _ _ k _)) ?_)
  rintro _ _ ⟨_, rfl, rfl, rfl⟩
  try simp only [List.cons_append, List.nil_append]
  refine w_not rfl rfl ?_
  refine ws_nil ?_
  refine wc_cond rfl (fun h1 => ?_) (fun h1 => ?_)
  · replace h1 := nb_T h1
    refine wc_seq ?_
    refine wc_text ?_
    refine w_assign rfl rfl ?_
    refine ws_nil ?_
    refine wc_ret ?_
    refine ⟨_, _, (.cons (.tmp rfl) .nil), (Sel.weak (.cons tk .nil)), ?_⟩
    exact ⟨by unfold syncV; rw [h1]; rfl, by unfold syncS; rw [h1]; rfl⟩
  · replace h1 := nb_F h1
    refine wc_stay ?_
    refine wc_seq ?_
    refine wc_text ?_
    refine w_move rfl rfl ?_
    refine w_move rfl rfl ?_
    refine w_nil rfl rfl rfl ?_
    first | refine w_faddrC O67_2 rfl rfl ?_ | refine w_faddrP O67_2 rfl rfl ?_
    first | refine w_ldC1 a37 rfl rfl rdc ?_ | refine w_ldP1 a37 rfl rfl tk rdp ?_
    first | refine w_len rfl rfl (len_lst u37) ?_ | refine w_len rfl rfl (len_slice u37) ?_ | refine w_lenO rfl u37 rfl rfl tk ?_
    refine w_nil rfl rfl rfl ?_
    first | refine w_faddrC O67_1 rfl rfl ?_ | refine w_faddrP O67_1 rfl rfl ?_
    refine w_st s3 rfl rfl rfl tk rfl rfl ovw ?_
    refine ws_nil ?_
    refine wc_seq ?_
    refine wc_text ?_
    refine w_assign rfl rfl ?_
    refine ws_nil ?_
    refine wc_ret ?_
    refine ⟨_, _, (.cons (.tmp rfl) .nil), (Sel.weak (.cons tk .nil)), ?_⟩
    exact ⟨by unfold syncV; rw [h1]; rfl, by unfold syncS; rw [h1]; rfl⟩

theorem back_fn (o : Nat) (s : St) (n : Int) (k : Ok s) (R : List HI) : CallW C 32 [.ptr (some ⟨o, 0⟩), .int .i64 n] ([.obj o (.row 67 6 false (DK s))] ++ R) fun v H => ∃ H', H = H' ++ R ∧ v = .int .i64 (backV s n) ∧ H' = [.obj o (.row 67 6 false (DK (backS s n)))] := by
  refine cw_sharedA (fn := Try.f32) rfl rfl rfl rfl (K := fun v H' => v = .int .i64 (backV s n) ∧ H' = [.obj o (.row 67 6 false (DK (backS s n)))]) ?_ R
  have kb := k.b
  have kr := k.r1
  refine wc_seq ?_
  refine wc_text ?_
  refine w_assign rfl rfl ?_
  refine ws_nil ?_
  refine wc_seq ?_
  refine wc_block ?_
  refine wc_seq ?_
  refine wc_text ?_
  refine w_move rfl rfl ?_
  refine w_nil rfl rfl rfl ?_
  first | refine w_faddrC O67_3 rfl rfl ?_ | refine w_faddrP O67_3 rfl rfl ?_
  first | refine w_ldC1 a4 rfl rfl rdc ?_ | refine w_ldP1 a4 rfl rfl tk rdp ?_
  refine w_assign rfl rfl ?_
  refine ws_nil ?_
  refine wc_cond rfl (fun h1 => ?_) (fun h1 => ?_)
  · skip
    refine wc_seq ?_
    refine wc_text ?_
    refine w_assign rfl rfl ?_
    refine ws_nil ?_
    refine wc_ret ?_
    refine ⟨_, _, (.cons (.tmp rfl) .nil), (Sel.weak (.cons tk .nil)), ?_⟩
    exact ⟨by unfold backV; rw [h1]; rfl, by unfold backS; rw [h1]; rfl⟩
  · skip
    refine wc_seq ?_
    refine wc_text ?_
    refine w_move rfl rfl ?_
    refine w_lss u3 rfl rfl rfl ?_
    refine w_move rfl rfl ?_
    refine ws_split (t := 13) rfl (fun g13 => ?_) (fun g13 => ?_)
    · first | replace g13 := of_decide_eq_true g13 | replace g13 := of_decide_eq_false g13 | replace g13 := of_decide_eq_false (nb_T g13) | replace g13 := of_decide_eq_true (nb_F g13) | replace g13 := nb_T g13 | replace g13 := nb_F g13 | skip
      first | replace g13 := Int.not_lt.mp g13 | replace g13 := Int.not_le.mp g13 | replace g13 := Decidable.not_not.mp g13 | skip
      refine ws_off rfl rfl rfl rfl ?_
      refine ws_off rfl rfl rfl rfl ?_
      refine ws_off rfl rfl rfl rfl ?_
      refine ws_off rfl rfl rfl rfl ?_
      refine ws_off rfl rfl rfl rfl ?_
      refine ws_off rfl rfl rfl rfl ?_
      refine ws_off rfl rfl rfl rfl ?_
      first | refine w_pickT rfl rfl rfl ⟨_, rfl⟩ ?_ | refine w_pickF rfl rfl ⟨_, rfl⟩ rfl ?_ | refine w_pick rfl rfl rfl rfl ?_
      refine w_assign rfl rfl ?_
      refine ws_nil ?_
      refine wc_condT rfl ?_
      refine wc_seq ?_
      refine wc_text ?_
      refine w_assign rfl rfl ?_
      refine ws_nil ?_
      refine wc_ret ?_
      refine ⟨_, _, (.cons (.tmp rfl) .nil), (Sel.weak (.cons tk .nil)), ?_⟩
      exact ⟨by unfold backV; rw [if_neg (by simp [h1]), if_pos (by omega)]; rfl, by unfold backS; rw [if_neg (by simp [h1]), if_pos (by omega)]⟩
    · first | replace g13 := of_decide_eq_true g13 | replace g13 := of_decide_eq_false g13 | replace g13 := of_decide_eq_false (nb_T g13) | replace g13 := of_decide_eq_true (nb_F g13) | replace g13 := nb_T g13 | replace g13 := nb_F g13 | skip
      first | replace g13 := Int.not_lt.mp g13 | replace g13 := Int.not_le.mp g13 | replace g13 := Decidable.not_not.mp g13 | skip
      refine ws_on rfl rfl ?_
      refine w_move rfl rfl ?_
      refine ws_on rfl rfl ?_
      refine w_move rfl rfl ?_
      refine ws_on rfl rfl ?_
      refine w_nil rfl rfl rfl ?_
      refine ws_on rfl rfl ?_
      first | refine w_faddrC O67_2 rfl rfl ?_ | refine w_faddrP O67_2 rfl rfl ?_
      refine ws_on rfl rfl ?_
      first | refine w_ldC1 a37 rfl rfl rdc ?_ | refine w_ldP1 a37 rfl rfl tk rdp ?_
      refine ws_on rfl rfl ?_
      first | refine w_len rfl rfl (len_lst u37) ?_ | refine w_len rfl rfl (len_slice u37) ?_ | refine w_lenO rfl u37 rfl rfl tk ?_
      refine ws_on rfl rfl ?_
      refine w_gtr u3 rfl rfl rfl ?_
      first | refine w_pickT rfl rfl rfl ⟨_, rfl⟩ ?_ | refine w_pickF rfl rfl ⟨_, rfl⟩ rfl ?_ | refine w_pick rfl rfl rfl rfl ?_
      refine w_assign rfl rfl ?_
      refine ws_nil ?_
      refine wc_cond rfl (fun h3 => ?_) (fun h3 => ?_)
      · first | replace h3 := of_decide_eq_true h3 | replace h3 := of_decide_eq_false h3 | replace h3 := of_decide_eq_false (nb_T h3) | replace h3 := of_decide_eq_true (nb_F h3) | replace h3 := nb_T h3 | replace h3 := nb_F h3 | skip
        first | replace h3 := Int.not_lt.mp h3 | replace h3 := Int.not_le.mp h3 | replace h3 := Decidable.not_not.mp h3 | skip
        refine wc_seq ?_
        refine wc_text ?_
        refine w_assign rfl rfl ?_
        refine ws_nil ?_
        refine wc_ret ?_
        refine ⟨_, _, (.cons (.tmp rfl) .nil), (Sel.weak (.cons tk .nil)), ?_⟩
        exact ⟨by unfold backV; rw [if_neg (by simp [h1]), if_pos (by omega)]; rfl, by unfold backS; rw [if_neg (by simp [h1]), if_pos (by omega)]⟩
      · first | replace h3 := of_decide_eq_true h3 | replace h3 := of_decide_eq_false h3 | replace h3 := of_decide_eq_false (nb_T h3) | replace h3 := of_decide_eq_true (nb_F h3) | replace h3 := nb_T h3 | replace h3 := nb_F h3 | skip
        first | replace h3 := Int.not_lt.mp h3 | replace h3 := Int.not_le.mp h3 | replace h3 := Decidable.not_not.mp h3 | skip
        refine wc_seq ?_
        refine wc_text ?_
        refine w_move rfl rfl ?_
        refine w_call rfl rfl (CallW.mono (CallW.take tk (one_fn _ _ k _)) ?_)
        rintro _ _ ⟨_, rfl, rfl, rfl⟩
        try simp only [List.cons_append, List.nil_append]
        refine w_not rfl rfl ?_
        refine w_assign rfl rfl ?_
        refine ws_nil ?_
        refine wc_cond rfl (fun h5 => ?_) (fun h5 => ?_)
        · replace h5 := nb_T h5
          refine wc_seq ?_
          refine wc_text ?_
          refine w_assign rfl rfl ?_
          refine ws_nil ?_
          refine wc_ret ?_
          refine ⟨_, _, (.cons (.tmp rfl) .nil), (Sel.weak (.cons tk .nil)), ?_⟩
          exact ⟨by unfold backV; rw [if_neg (by simp [h1]), if_neg (by omega), h5]; rfl, by unfold backS; rw [if_neg (by simp [h1]), if_neg (by omega), h5]; rfl⟩
        · replace h5 := nb_F h5
          have ob : (oneS s).b.length = s.b.length := by rw [oneS_b]
          refine wc_stay ?_
          refine wc_seq ?_
          refine wc_text ?_
          refine w_move rfl rfl ?_
          refine w_move rfl rfl ?_
          refine w_nil rfl rfl rfl ?_
          first | refine w_faddrC O67_2 rfl rfl ?_ | refine w_faddrP O67_2 rfl rfl ?_
          first | refine w_ldC1 a37 rfl rfl rdc ?_ | refine w_ldP1 a37 rfl rfl tk rdp ?_
          refine w_move rfl rfl ?_
          refine w_slice rfl rfl rfl rfl rfl (slice_al u37 s5 (by intro _; rfl) (by rfl) (nat_of (by omega) _) (by omega) (by omega)) ?_
          refine w_call rfl rfl (CallW.mono (clone_frz _ (by first | omega | (simp only [List.length_take, List.length_drop]; omega)) _) ?_)
          rintro _ _ ⟨rfl, rfl⟩
          try simp only [List.cons_append, List.nil_append]
          refine w_nil rfl rfl rfl ?_
          first | refine w_faddrC O67_2 rfl rfl ?_ | refine w_faddrP O67_2 rfl rfl ?_
          refine w_st s37 rfl rfl rfl tk rfl rfl ovw ?_
          refine ws_nil ?_
          refine wc_seq ?_
          refine wc_text ?_
          refine w_move rfl rfl ?_
          refine w_move rfl rfl ?_
          refine w_nil rfl rfl rfl ?_
          first | refine w_faddrC O67_1 rfl rfl ?_ | refine w_faddrP O67_1 rfl rfl ?_
          first | refine w_ldC1 a3 rfl rfl rdc ?_ | refine w_ldP1 a3 rfl rfl tk rdp ?_
          refine w_move rfl rfl ?_
          refine w_min rfl rfl rfl ?_
          refine w_nil rfl rfl rfl ?_
          first | refine w_faddrC O67_1 rfl rfl ?_ | refine w_faddrP O67_1 rfl rfl ?_
          refine w_st s3 rfl rfl rfl tk rfl rfl ovw ?_
          refine ws_nil ?_
          simp only [List.drop_zero, Nat.sub_zero]
          refine wc_seq ?_
          refine wc_text ?_
          refine w_assign rfl rfl ?_
          refine ws_nil ?_
          refine wc_ret ?_
          refine ⟨_, _, (.cons (.tmp rfl) .nil), (Sel.weak (.cons tk .nil)), ?_⟩
          exact ⟨by unfold backV; rw [if_neg (by simp [h1]), if_neg (by omega), h5]; rfl, by unfold backS; rw [if_neg (by simp [h1]), if_neg (by omega), h5]; rfl⟩

theorem boot_fn (o : Nat) (s : St) (n : Int) (k : Ok s) (R : List HI) : CallW C 27 [.ptr (some ⟨o, 0⟩), .int .i64 n] ([.obj o (.row 67 6 false (DK s))] ++ R) fun v H => ∃ H', H = H' ++ R ∧ H' = [.obj o (.row 67 6 false (DK (bootS s n)))] := by
  refine cw_sharedA (fn := Try.f27) rfl rfl rfl rfl (K := fun v H' => H' = [.obj o (.row 67 6 false (DK (bootS s n)))]) ?_ R
  have kb := k.b
  have kr := k.r1
  have k0 := k.f0
  have k1 := k.f1
  have hb := bootN_in s n k
  refine wc_seq ?_
  refine wc_free [0, 1, 3, 7, 0, 0, 32, 96, 224, 480, 0, 1024, 3072, 7168, 16352, 32752, 65520, 131071, 262143] (by kernel_rfl) (by kernel_rfl) (fun F => ?_)
  refine wr_float F 0 rfl (by kernel_rfl) (.inl (by kernel_rfl)) ?_
  refine w_move rfl rfl ?_
  refine ws_nil ?_
  refine wr_float F 1 rfl (by kernel_rfl) (.inl (by kernel_rfl)) ?_
  refine w_nil rfl rfl rfl ?_
  refine ws_nil ?_
  refine wr_float F 2 rfl (by kernel_rfl) (.inl (by kernel_rfl)) ?_
  first | refine w_faddrC O67_1 rfl rfl ?_ | refine w_faddrP O67_1 rfl rfl ?_
  refine ws_nil ?_
  refine wr_float F 4 rfl (by kernel_rfl) (.inl (by kernel_rfl)) ?_
  refine w_move rfl rfl ?_
  refine ws_nil ?_
  refine wr_float F 5 rfl (by kernel_rfl) (.inl (by kernel_rfl)) ?_
  refine w_move rfl rfl ?_
  refine ws_nil ?_
  refine wr_float F 6 rfl (by kernel_rfl) (.inl (by kernel_rfl)) ?_
  refine w_nil rfl rfl rfl ?_
  refine ws_nil ?_
  refine wr_float F 7 rfl (by kernel_rfl) (.inl (by kernel_rfl)) ?_
  first | refine w_faddrC O67_2 rfl rfl ?_ | refine w_faddrP O67_2 rfl rfl ?_
  refine ws_nil ?_
  refine wr_float F 10 rfl (by kernel_rfl) (.inl (by kernel_rfl)) ?_
  refine w_move rfl rfl ?_
  refine ws_nil ?_
  refine wr_float F 11 rfl (by kernel_rfl) (.inl (by kernel_rfl)) ?_
  refine w_nil rfl rfl rfl ?_
  refine ws_nil ?_
  refine wr_float F 12 rfl (by kernel_rfl) (.inl (by kernel_rfl)) ?_
  first | refine w_faddrC O67_1 rfl rfl ?_ | refine w_faddrP O67_1 rfl rfl ?_
  refine ws_nil ?_
  refine wr_next F (l := [3, 8, 13]) (by kernel_rfl) (by simp) (.cons rfl ?_ (.cons rfl ?_ (.cons rfl ?_ (.nil))))
  · skip
    first | refine w_ldC1 a3 rfl rfl rdc ?_ | refine w_ldP1 a3 rfl rfl tk rdp ?_
    refine ws_nil ?_
    refine wr_next F (l := [8, 13]) (by kernel_rfl) (by simp) (.cons rfl ?_ (.cons rfl ?_ (.nil)))
    · skip
      first | refine w_ldC1 a37 rfl rfl rdc ?_ | refine w_ldP1 a37 rfl rfl tk rdp ?_
      refine ws_nil ?_
      refine wr_float F 9 rfl (by kernel_rfl) (.inl (by kernel_rfl)) ?_
      first | refine w_len rfl rfl (len_lst u37) ?_ | refine w_len rfl rfl (len_slice u37) ?_ | refine w_lenO rfl u37 rfl rfl tk ?_
      refine ws_nil ?_
      refine wr_next F (l := [13]) (by kernel_rfl) (by simp) (.cons rfl ?_ (.nil))
      first | refine w_ldC1 a3 rfl rfl rdc ?_ | refine w_ldP1 a3 rfl rfl tk rdp ?_
      refine ws_nil ?_
      refine wr_float F 14 rfl (by kernel_rfl) (.inl (by kernel_rfl)) ?_
      refine w_sub u3 rfl rfl rfl (by omega) ?_
      refine ws_nil ?_
      refine wr_float F 15 rfl (by kernel_rfl) (.inl (by kernel_rfl)) ?_
      refine w_min rfl rfl rfl ?_
      refine ws_nil ?_
      refine wr_float F 16 rfl (by kernel_rfl) (.inl (by kernel_rfl)) ?_
      refine w_max rfl rfl rfl ?_
      refine ws_nil ?_
      refine wr_float F 17 rfl (by kernel_rfl) (.inl (by kernel_rfl)) ?_
      refine w_add u3 rfl rfl rfl (by omega) ?_
      refine ws_nil ?_
      refine wr_float F 18 rfl (by kernel_rfl) (.inl (by kernel_rfl)) ?_
      refine w_assign rfl rfl ?_
      refine ws_nil ?_
      refine wr_end F (by kernel_rfl) ?_
      rw [show s.firm + max 0 (min n (s.b.length - s.firm)) = bootN s n from rfl]
      refine wc_free [0, 0, 2, 6, 14, 0, 0, 64, 192, 448, 0, 1984, 4032, 8190, 16383, 32767] (by kernel_rfl) (by kernel_rfl) (fun F => ?_)
      refine wr_float F 0 rfl (by kernel_rfl) (.inl (by kernel_rfl)) ?_
      refine w_move rfl rfl ?_
      refine ws_nil ?_
      refine wr_float F 1 rfl (by kernel_rfl) (.inl (by kernel_rfl)) ?_
      refine w_move rfl rfl ?_
      refine ws_nil ?_
      refine wr_float F 2 rfl (by kernel_rfl) (.inl (by kernel_rfl)) ?_
      refine w_nil rfl rfl rfl ?_
      refine ws_nil ?_
      refine wr_float F 3 rfl (by kernel_rfl) (.inl (by kernel_rfl)) ?_
      first | refine w_faddrC O67_0 rfl rfl ?_ | refine w_faddrP O67_0 rfl rfl ?_
      refine ws_nil ?_
      refine wr_float F 5 rfl (by kernel_rfl) (.inl (by kernel_rfl)) ?_
      refine w_move rfl rfl ?_
      refine ws_nil ?_
      refine wr_float F 6 rfl (by kernel_rfl) (.inl (by kernel_rfl)) ?_
      refine w_move rfl rfl ?_
      refine ws_nil ?_
      refine wr_float F 7 rfl (by kernel_rfl) (.inl (by kernel_rfl)) ?_
      refine w_nil rfl rfl rfl ?_
      refine ws_nil ?_
      refine wr_float F 8 rfl (by kernel_rfl) (.inl (by kernel_rfl)) ?_
      first | refine w_faddrC O67_2 rfl rfl ?_ | refine w_faddrP O67_2 rfl rfl ?_
      refine ws_nil ?_
      refine wr_float F 10 rfl (by kernel_rfl) (.inl (by kernel_rfl)) ?_
      refine w_move rfl rfl ?_
      refine ws_nil ?_
      refine wr_next F (l := [4, 9]) (by kernel_rfl) (by simp) (.cons rfl ?_ (.cons rfl ?_ (.nil)))
      · skip
        first | refine w_ldC1 a3 rfl rfl rdc ?_ | refine w_ldP1 a3 rfl rfl tk rdp ?_
        refine ws_nil ?_
        refine wr_next F (l := [9]) (by kernel_rfl) (by simp) (.cons rfl ?_ (.nil))
        first | refine w_ldC1 a37 rfl rfl rdc ?_ | refine w_ldP1 a37 rfl rfl tk rdp ?_
        refine ws_nil ?_
        refine wr_next F (l := [11]) (by kernel_rfl) (by simp) (.cons rfl ?_ (.nil))
        refine w_slice rfl rfl rfl rfl rfl (slice_al u37 s5 (by intro _; rfl) (by rfl) (nat_of (by omega) _) (by omega) (by omega)) ?_
        refine ws_nil ?_
        refine wr_next F (l := [12]) (by kernel_rfl) (by simp) (.cons rfl ?_ (.nil))
        refine w_call rfl rfl (CallW.mono (clone_frz _ (by first | omega | (simp only [List.length_take, List.length_drop]; omega)) _) ?_)
        rintro _ _ ⟨rfl, rfl⟩
        try simp only [List.cons_append, List.nil_append]
        refine ws_nil ?_
        refine wr_float F 13 rfl (by kernel_rfl) (.inl (by kernel_rfl)) ?_
        refine w_build (v := .agg [_, _, _, _, _, _]) B67 rfl rfl rfl ?_
        refine ws_nil ?_
        refine wr_float F 14 rfl (by kernel_rfl) (.inl (by kernel_rfl)) ?_
        refine w_nil rfl rfl rfl ?_
        refine ws_nil ?_
        refine wr_next F (l := [15]) (by kernel_rfl) (by simp) (.cons rfl ?_ (.nil))
        refine w_st s67 rfl rfl rfl tk rfl rfl ovw ?_
        refine ws_nil ?_
        refine wr_end F (by kernel_rfl) ?_
        simp only [List.drop_zero, Nat.sub_zero]
        refine ⟨_, _, .nil, (Sel.weak (.cons tk .nil)), ?_⟩
        rfl
      · skip
        first | refine w_ldC1 a37 rfl rfl rdc ?_ | refine w_ldP1 a37 rfl rfl tk rdp ?_
        refine ws_nil ?_
        refine wr_next F (l := [4, 11]) (by kernel_rfl) (by simp) (.cons rfl ?_ (.cons rfl ?_ (.nil)))
        · skip
          first | refine w_ldC1 a3 rfl rfl rdc ?_ | refine w_ldP1 a3 rfl rfl tk rdp ?_
          refine ws_nil ?_
          refine wr_next F (l := [11]) (by kernel_rfl) (by simp) (.cons rfl ?_ (.nil))
          refine w_slice rfl rfl rfl rfl rfl (slice_al u37 s5 (by intro _; rfl) (by rfl) (nat_of (by omega) _) (by omega) (by omega)) ?_
          refine ws_nil ?_
          refine wr_next F (l := [12]) (by kernel_rfl) (by simp) (.cons rfl ?_ (.nil))
          refine w_call rfl rfl (CallW.mono (clone_frz _ (by first | omega | (simp only [List.length_take, List.length_drop]; omega)) _) ?_)
          rintro _ _ ⟨rfl, rfl⟩
          try simp only [List.cons_append, List.nil_append]
          refine ws_nil ?_
          refine wr_float F 13 rfl (by kernel_rfl) (.inl (by kernel_rfl)) ?_
          refine w_build (v := .agg [_, _, _, _, _, _]) B67 rfl rfl rfl ?_
          refine ws_nil ?_
          refine wr_float F 14 rfl (by kernel_rfl) (.inl (by kernel_rfl)) ?_
          refine w_nil rfl rfl rfl ?_
          refine ws_nil ?_
          refine wr_next F (l := [15]) (by kernel_rfl) (by simp) (.cons rfl ?_ (.nil))
          refine w_st s67 rfl rfl rfl tk rfl rfl ovw ?_
          refine ws_nil ?_
          refine wr_end F (by kernel_rfl) ?_
          simp only [List.drop_zero, Nat.sub_zero]
          refine ⟨_, _, .nil, (Sel.weak (.cons tk .nil)), ?_⟩
          rfl
        · skip
          refine w_slice rfl rfl rfl rfl rfl (slice_al u37 s5 (by intro _; rfl) (by rfl) (nat_of (by omega) _) (by omega) (by omega)) ?_
          refine ws_nil ?_
          refine wr_next F (l := [4, 12]) (by kernel_rfl) (by simp) (.cons rfl ?_ (.cons rfl ?_ (.nil)))
          · skip
            first | refine w_ldC1 a3 rfl rfl rdc ?_ | refine w_ldP1 a3 rfl rfl tk rdp ?_
            refine ws_nil ?_
            refine wr_next F (l := [12]) (by kernel_rfl) (by simp) (.cons rfl ?_ (.nil))
            refine w_call rfl rfl (CallW.mono (clone_frz _ (by first | omega | (simp only [List.length_take, List.length_drop]; omega)) _) ?_)
            rintro _ _ ⟨rfl, rfl⟩
            try simp only [List.cons_append, List.nil_append]
            refine ws_nil ?_
            refine wr_float F 13 rfl (by kernel_rfl) (.inl (by kernel_rfl)) ?_
            refine w_build (v := .agg [_, _, _, _, _, _]) B67 rfl rfl rfl ?_
            refine ws_nil ?_
            refine wr_float F 14 rfl (by kernel_rfl) (.inl (by kernel_rfl)) ?_
            refine w_nil rfl rfl rfl ?_
            refine ws_nil ?_
            refine wr_next F (l := [15]) (by kernel_rfl) (by simp) (.cons rfl ?_ (.nil))
            refine w_st s67 rfl rfl rfl tk rfl rfl ovw ?_
            refine ws_nil ?_
            refine wr_end F (by kernel_rfl) ?_
            simp only [List.drop_zero, Nat.sub_zero]
            refine ⟨_, _, .nil, (Sel.weak (.cons tk .nil)), ?_⟩
            rfl
          · skip
            refine w_call rfl rfl (CallW.mono (clone_frz _ (by first | omega | (simp only [List.length_take, List.length_drop]; omega)) _) ?_)
            rintro _ _ ⟨rfl, rfl⟩
            try simp only [List.cons_append, List.nil_append]
            refine ws_nil ?_
            refine wr_next F (l := [4]) (by kernel_rfl) (by simp) (.cons rfl ?_ (.nil))
            first | refine w_ldC1 a3 rfl rfl rdc ?_ | refine w_ldP1 a3 rfl rfl tk rdp ?_
            refine ws_nil ?_
            refine wr_float F 13 rfl (by kernel_rfl) (.inl (by kernel_rfl)) ?_
            refine w_build (v := .agg [_, _, _, _, _, _]) B67 rfl rfl rfl ?_
            refine ws_nil ?_
            refine wr_float F 14 rfl (by kernel_rfl) (.inl (by kernel_rfl)) ?_
            refine w_nil rfl rfl rfl ?_
            refine ws_nil ?_
            refine wr_next F (l := [15]) (by kernel_rfl) (by simp) (.cons rfl ?_ (.nil))
            refine w_st s67 rfl rfl rfl tk rfl rfl ovw ?_
            refine ws_nil ?_
            refine wr_end F (by kernel_rfl) ?_
            simp only [List.drop_zero, Nat.sub_zero]
            refine ⟨_, _, .nil, (Sel.weak (.cons tk .nil)), ?_⟩
            rfl
    · skip
      first | refine w_ldC1 a3 rfl rfl rdc ?_ | refine w_ldP1 a3 rfl rfl tk rdp ?_
      refine ws_nil ?_
      refine wr_next F (l := [8]) (by kernel_rfl) (by simp) (.cons rfl ?_ (.nil))
      first | refine w_ldC1 a37 rfl rfl rdc ?_ | refine w_ldP1 a37 rfl rfl tk rdp ?_
      refine ws_nil ?_
      refine wr_float F 9 rfl (by kernel_rfl) (.inl (by kernel_rfl)) ?_
      first | refine w_len rfl rfl (len_lst u37) ?_ | refine w_len rfl rfl (len_slice u37) ?_ | refine w_lenO rfl u37 rfl rfl tk ?_
      refine ws_nil ?_
      refine wr_float F 14 rfl (by kernel_rfl) (.inl (by kernel_rfl)) ?_
      refine w_sub u3 rfl rfl rfl (by omega) ?_
      refine ws_nil ?_
      refine wr_float F 15 rfl (by kernel_rfl) (.inl (by kernel_rfl)) ?_
      refine w_min rfl rfl rfl ?_
      refine ws_nil ?_
      refine wr_float F 16 rfl (by kernel_rfl) (.inl (by kernel_rfl)) ?_
      refine w_max rfl rfl rfl ?_
      refine ws_nil ?_
      refine wr_float F 17 rfl (by kernel_rfl) (.inl (by kernel_rfl)) ?_
      refine w_add u3 rfl rfl rfl (by omega) ?_
      refine ws_nil ?_
      refine wr_float F 18 rfl (by kernel_rfl) (.inl (by kernel_rfl)) ?_
      refine w_assign rfl rfl ?_
      refine ws_nil ?_
      refine wr_end F (by kernel_rfl) ?_
      rw [show s.firm + max 0 (min n (s.b.length - s.firm)) = bootN s n from rfl]
      refine wc_free [0, 0, 2, 6, 14, 0, 0, 64, 192, 448, 0, 1984, 4032, 8190, 16383, 32767] (by kernel_rfl) (by kernel_rfl) (fun F => ?_)
      refine wr_float F 0 rfl (by kernel_rfl) (.inl (by kernel_rfl)) ?_
      refine w_move rfl rfl ?_
      refine ws_nil ?_
      refine wr_float F 1 rfl (by kernel_rfl) (.inl (by kernel_rfl)) ?_
      refine w_move rfl rfl ?_
      refine ws_nil ?_
      refine wr_float F 2 rfl (by kernel_rfl) (.inl (by kernel_rfl)) ?_
      refine w_nil rfl rfl rfl ?_
      refine ws_nil ?_
      refine wr_float F 3 rfl (by kernel_rfl) (.inl (by kernel_rfl)) ?_
      first | refine w_faddrC O67_0 rfl rfl ?_ | refine w_faddrP O67_0 rfl rfl ?_
      refine ws_nil ?_
      refine wr_float F 5 rfl (by kernel_rfl) (.inl (by kernel_rfl)) ?_
      refine w_move rfl rfl ?_
      refine ws_nil ?_
      refine wr_float F 6 rfl (by kernel_rfl) (.inl (by kernel_rfl)) ?_
      refine w_move rfl rfl ?_
      refine ws_nil ?_
      refine wr_float F 7 rfl (by kernel_rfl) (.inl (by kernel_rfl)) ?_
      refine w_nil rfl rfl rfl ?_
      refine ws_nil ?_
      refine wr_float F 8 rfl (by kernel_rfl) (.inl (by kernel_rfl)) ?_
      first | refine w_faddrC O67_2 rfl rfl ?_ | refine w_faddrP O67_2 rfl rfl ?_
      refine ws_nil ?_
      refine wr_float F 10 rfl (by kernel_rfl) (.inl (by kernel_rfl)) ?_
      refine w_move rfl rfl ?_
      refine ws_nil ?_
      refine wr_next F (l := [4, 9]) (by kernel_rfl) (by simp) (.cons rfl ?_ (.cons rfl ?_ (.nil)))
      · skip
        first | refine w_ldC1 a3 rfl rfl rdc ?_ | refine w_ldP1 a3 rfl rfl tk rdp ?_
        refine ws_nil ?_
        refine wr_next F (l := [9]) (by kernel_rfl) (by simp) (.cons rfl ?_ (.nil))
        first | refine w_ldC1 a37 rfl rfl rdc ?_ | refine w_ldP1 a37 rfl rfl tk rdp ?_
        refine ws_nil ?_
        refine wr_next F (l := [11]) (by kernel_rfl) (by simp) (.cons rfl ?_ (.nil))
        refine w_slice rfl rfl rfl rfl rfl (slice_al u37 s5 (by intro _; rfl) (by rfl) (nat_of (by omega) _) (by omega) (by omega)) ?_
        refine ws_nil ?_
        refine wr_next F (l := [12]) (by kernel_rfl) (by simp) (.cons rfl ?_ (.nil))
        refine w_call rfl rfl (CallW.mono (clone_frz _ (by first | omega | (simp only [List.length_take, List.length_drop]; omega)) _) ?_)
        rintro _ _ ⟨rfl, rfl⟩
        try simp only [List.cons_append, List.nil_append]
        refine ws_nil ?_
        refine wr_float F 13 rfl (by kernel_rfl) (.inl (by kernel_rfl)) ?_
        refine w_build (v := .agg [_, _, _, _, _, _]) B67 rfl rfl rfl ?_
        refine ws_nil ?_
        refine wr_float F 14 rfl (by kernel_rfl) (.inl (by kernel_rfl)) ?_
        refine w_nil rfl rfl rfl ?_
        refine ws_nil ?_
        refine wr_next F (l := [15]) (by kernel_rfl) (by simp) (.cons rfl ?_ (.nil))
        refine w_st s67 rfl rfl rfl tk rfl rfl ovw ?_
        refine ws_nil ?_
        refine wr_end F (by kernel_rfl) ?_
        simp only [List.drop_zero, Nat.sub_zero]
        refine ⟨_, _, .nil, (Sel.weak (.cons tk .nil)), ?_⟩
        rfl
      · skip
        first | refine w_ldC1 a37 rfl rfl rdc ?_ | refine w_ldP1 a37 rfl rfl tk rdp ?_
        refine ws_nil ?_
        refine wr_next F (l := [4, 11]) (by kernel_rfl) (by simp) (.cons rfl ?_ (.cons rfl ?_ (.nil)))
        · skip
          first | refine w_ldC1 a3 rfl rfl rdc ?_ | refine w_ldP1 a3 rfl rfl tk rdp ?_
          refine ws_nil ?_
          refine wr_next F (l := [11]) (by kernel_rfl) (by simp) (.cons rfl ?_ (.nil))
          refine w_slice rfl rfl rfl rfl rfl (slice_al u37 s5 (by intro _; rfl) (by rfl) (nat_of (by omega) _) (by omega) (by omega)) ?_
          refine ws_nil ?_
          refine wr_next F (l := [12]) (by kernel_rfl) (by simp) (.cons rfl ?_ (.nil))
          refine w_call rfl rfl (CallW.mono (clone_frz _ (by first | omega | (simp only [List.length_take, List.length_drop]; omega)) _) ?_)
          rintro _ _ ⟨rfl, rfl⟩
          try simp only [List.cons_append, List.nil_append]
          refine ws_nil ?_
          refine wr_float F 13 rfl (by kernel_rfl) (.inl (by kernel_rfl)) ?_
          refine w_build (v := .agg [_, _, _, _, _, _]) B67 rfl rfl rfl ?_
          refine ws_nil ?_
          refine wr_float F 14 rfl (by kernel_rfl) (.inl (by kernel_rfl)) ?_
          refine w_nil rfl rfl rfl ?_
          refine ws_nil ?_
          refine wr_next F (l := [15]) (by kernel_rfl) (by simp) (.cons rfl ?_ (.nil))
          refine w_st s67 rfl rfl rfl tk rfl rfl ovw ?_
          refine ws_nil ?_
          refine wr_end F (by kernel_rfl) ?_
          simp only [List.drop_zero, Nat.sub_zero]
          refine ⟨_, _, .nil, (Sel.weak (.cons tk .nil)), ?_⟩
          rfl
        · skip
          refine w_slice rfl rfl rfl rfl rfl (slice_al u37 s5 (by intro _; rfl) (by rfl) (nat_of (by omega) _) (by omega) (by omega)) ?_
          refine ws_nil ?_
          refine wr_next F (l := [4, 12]) (by kernel_rfl) (by simp) (.cons rfl ?_ (.cons rfl ?_ (.nil)))
          · skip
            first | refine w_ldC1 a3 rfl rfl rdc ?_ | refine w_ldP1 a3 rfl rfl tk rdp ?_
            refine ws_nil ?_
            refine wr_next F (l := [12]) (by kernel_rfl) (by simp) (.cons rfl ?_ (.nil))
            refine w_call rfl rfl (CallW.mono (clone_frz _ (by first | omega | (simp only [List.length_take, List.length_drop]; omega)) _) ?_)
            rintro _ _ ⟨rfl, rfl⟩
            try simp only [List.cons_append, List.nil_append]
            refine ws_nil ?_
            refine wr_float F 13 rfl (by kernel_rfl) (.inl (by kernel_rfl)) ?_
            refine w_build (v := .agg [_, _, _, _, _, _]) B67 rfl rfl rfl ?_
            refine ws_nil ?_
            refine wr_float F 14 rfl (by kernel_rfl) (.inl (by kernel_rfl)) ?_
            refine w_nil rfl rfl rfl ?_
            refine ws_nil ?_
            refine wr_next F (l := [15]) (by kernel_rfl) (by simp) (.cons rfl ?_ (.nil))
            refine w_st s67 rfl rfl rfl tk rfl rfl ovw ?_
            refine ws_nil ?_
            refine wr_end F (by kernel_rfl) ?_
            simp only [List.drop_zero, Nat.sub_zero]
            refine ⟨_, _, .nil, (Sel.weak (.cons tk .nil)), ?_⟩
            rfl
          · skip
            refine w_call rfl rfl (CallW.mono (clone_frz _ (by first | omega | (simp only [List.length_take, List.length_drop]; omega)) _) ?_)
            rintro _ _ ⟨rfl, rfl⟩
            try simp only [List.cons_append, List.nil_append]
            refine ws_nil ?_
            refine wr_next F (l := [4]) (by kernel_rfl) (by simp) (.cons rfl ?_ (.nil))
            first | refine w_ldC1 a3 rfl rfl rdc ?_ | refine w_ldP1 a3 rfl rfl tk rdp ?_
            refine ws_nil ?_
            refine wr_float F 13 rfl (by kernel_rfl) (.inl (by kernel_rfl)) ?_
            refine w_build (v := .agg [_, _, _, _, _, _]) B67 rfl rfl rfl ?_
            refine ws_nil ?_
            refine wr_float F 14 rfl (by kernel_rfl) (.inl (by kernel_rfl)) ?_
            refine w_nil rfl rfl rfl ?_
            refine ws_nil ?_
            refine wr_next F (l := [15]) (by kernel_rfl) (by simp) (.cons rfl ?_ (.nil))
            refine w_st s67 rfl rfl rfl tk rfl rfl ovw ?_
            refine ws_nil ?_
            refine wr_end F (by kernel_rfl) ?_
            simp only [List.drop_zero, Nat.sub_zero]
            refine ⟨_, _, .nil, (Sel.weak (.cons tk .nil)), ?_⟩
            rfl
  · skip
    first | refine w_ldC1 a37 rfl rfl rdc ?_ | refine w_ldP1 a37 rfl rfl tk rdp ?_
    refine ws_nil ?_
    refine wr_float F 9 rfl (by kernel_rfl) (.inl (by kernel_rfl)) ?_
    first | refine w_len rfl rfl (len_lst u37) ?_ | refine w_len rfl rfl (len_slice u37) ?_ | refine w_lenO rfl u37 rfl rfl tk ?_
    refine ws_nil ?_
    refine wr_next F (l := [3, 13]) (by kernel_rfl) (by simp) (.cons rfl ?_ (.cons rfl ?_ (.nil)))
    · skip
      first | refine w_ldC1 a3 rfl rfl rdc ?_ | refine w_ldP1 a3 rfl rfl tk rdp ?_
      refine ws_nil ?_
      refine wr_next F (l := [13]) (by kernel_rfl) (by simp) (.cons rfl ?_ (.nil))
      first | refine w_ldC1 a3 rfl rfl rdc ?_ | refine w_ldP1 a3 rfl rfl tk rdp ?_
      refine ws_nil ?_
      refine wr_float F 14 rfl (by kernel_rfl) (.inl (by kernel_rfl)) ?_
      refine w_sub u3 rfl rfl rfl (by omega) ?_
      refine ws_nil ?_
      refine wr_float F 15 rfl (by kernel_rfl) (.inl (by kernel_rfl)) ?_
      refine w_min rfl rfl rfl ?_
      refine ws_nil ?_
      refine wr_float F 16 rfl (by kernel_rfl) (.inl (by kernel_rfl)) ?_
      refine w_max rfl rfl rfl ?_
      refine ws_nil ?_
      refine wr_float F 17 rfl (by kernel_rfl) (.inl (by kernel_rfl)) ?_
      refine w_add u3 rfl rfl rfl (by omega) ?_
      refine ws_nil ?_
      refine wr_float F 18 rfl (by kernel_rfl) (.inl (by kernel_rfl)) ?_
      refine w_assign rfl rfl ?_
      refine ws_nil ?_
      refine wr_end F (by kernel_rfl) ?_
      rw [show s.firm + max 0 (min n (s.b.length - s.firm)) = bootN s n from rfl]
      refine wc_free [0, 0, 2, 6, 14, 0, 0, 64, 192, 448, 0, 1984, 4032, 8190, 16383, 32767] (by kernel_rfl) (by kernel_rfl) (fun F => ?_)
      refine wr_float F 0 rfl (by kernel_rfl) (.inl (by kernel_rfl)) ?_
      refine w_move rfl rfl ?_
      refine ws_nil ?_
      refine wr_float F 1 rfl (by kernel_rfl) (.inl (by kernel_rfl)) ?_
      refine w_move rfl rfl ?_
      refine ws_nil ?_
      refine wr_float F 2 rfl (by kernel_rfl) (.inl (by kernel_rfl)) ?_
      refine w_nil rfl rfl rfl ?_
      refine ws_nil ?_
      refine wr_float F 3 rfl (by kernel_rfl) (.inl (by kernel_rfl)) ?_
      first | refine w_faddrC O67_0 rfl rfl ?_ | refine w_faddrP O67_0 rfl rfl ?_
      refine ws_nil ?_
      refine wr_float F 5 rfl (by kernel_rfl) (.inl (by kernel_rfl)) ?_
      refine w_move rfl rfl ?_
      refine ws_nil ?_
      refine wr_float F 6 rfl (by kernel_rfl) (.inl (by kernel_rfl)) ?_
      refine w_move rfl rfl ?_
      refine ws_nil ?_
      refine wr_float F 7 rfl (by kernel_rfl) (.inl (by kernel_rfl)) ?_
      refine w_nil rfl rfl rfl ?_
      refine ws_nil ?_
      refine wr_float F 8 rfl (by kernel_rfl) (.inl (by kernel_rfl)) ?_
      first | refine w_faddrC O67_2 rfl rfl ?_ | refine w_faddrP O67_2 rfl rfl ?_
      refine ws_nil ?_
      refine wr_float F 10 rfl (by kernel_rfl) (.inl (by kernel_rfl)) ?_
      refine w_move rfl rfl ?_
      refine ws_nil ?_
      refine wr_next F (l := [4, 9]) (by kernel_rfl) (by simp) (.cons rfl ?_ (.cons rfl ?_ (.nil)))
      · skip
        first | refine w_ldC1 a3 rfl rfl rdc ?_ | refine w_ldP1 a3 rfl rfl tk rdp ?_
        refine ws_nil ?_
        refine wr_next F (l := [9]) (by kernel_rfl) (by simp) (.cons rfl ?_ (.nil))
        first | refine w_ldC1 a37 rfl rfl rdc ?_ | refine w_ldP1 a37 rfl rfl tk rdp ?_
        refine ws_nil ?_
        refine wr_next F (l := [11]) (by kernel_rfl) (by simp) (.cons rfl ?_ (.nil))
        refine w_slice rfl rfl rfl rfl rfl (slice_al u37 s5 (by intro _; rfl) (by rfl) (nat_of (by omega) _) (by omega) (by omega)) ?_
        refine ws_nil ?_
        refine wr_next F (l := [12]) (by kernel_rfl) (by simp) (.cons rfl ?_ (.nil))
        refine w_call rfl rfl (CallW.mono (clone_frz _ (by first | omega | (simp only [List.length_take, List.length_drop]; omega)) _) ?_)
        rintro _ _ ⟨rfl, rfl⟩
        try simp only [List.cons_append, List.nil_append]
        refine ws_nil ?_
        refine wr_float F 13 rfl (by kernel_rfl) (.inl (by kernel_rfl)) ?_
        refine w_build (v := .agg [_, _, _, _, _, _]) B67 rfl rfl rfl ?_
        refine ws_nil ?_
        refine wr_float F 14 rfl (by kernel_rfl) (.inl (by kernel_rfl)) ?_
        refine w_nil rfl rfl rfl ?_
        refine ws_nil ?_
        refine wr_next F (l := [15]) (by kernel_rfl) (by simp) (.cons rfl ?_ (.nil))
        refine w_st s67 rfl rfl rfl tk rfl rfl ovw ?_
        refine ws_nil ?_
        refine wr_end F (by kernel_rfl) ?_
        simp only [List.drop_zero, Nat.sub_zero]
        refine ⟨_, _, .nil, (Sel.weak (.cons tk .nil)), ?_⟩
        rfl
      · skip
        first | refine w_ldC1 a37 rfl rfl rdc ?_ | refine w_ldP1 a37 rfl rfl tk rdp ?_
        refine ws_nil ?_
        refine wr_next F (l := [4, 11]) (by kernel_rfl) (by simp) (.cons rfl ?_ (.cons rfl ?_ (.nil)))
        · skip
          first | refine w_ldC1 a3 rfl rfl rdc ?_ | refine w_ldP1 a3 rfl rfl tk rdp ?_
          refine ws_nil ?_
          refine wr_next F (l := [11]) (by kernel_rfl) (by simp) (.cons rfl ?_ (.nil))
          refine w_slice rfl rfl rfl rfl rfl (slice_al u37 s5 (by intro _; rfl) (by rfl) (nat_of (by omega) _) (by omega) (by omega)) ?_
          refine ws_nil ?_
          refine wr_next F (l := [12]) (by kernel_rfl) (by simp) (.cons rfl ?_ (.nil))
          refine w_call rfl rfl (CallW.mono (clone_frz _ (by first | omega | (simp only [List.length_take, List.length_drop]; omega)) _) ?_)
          rintro _ _ ⟨rfl, rfl⟩
          try simp only [List.cons_append, List.nil_append]
          refine ws_nil ?_
          refine wr_float F 13 rfl (by kernel_rfl) (.inl (by kernel_rfl)) ?_
          refine w_build (v := .agg [_, _, _, _, _, _]) B67 rfl rfl rfl ?_
          refine ws_nil ?_
          refine wr_float F 14 rfl (by kernel_rfl) (.inl (by kernel_rfl)) ?_
          refine w_nil rfl rfl rfl ?_
          refine ws_nil ?_
          refine wr_next F (l := [15]) (by kernel_rfl) (by simp) (.cons rfl ?_ (.nil))
          refine w_st s67 rfl rfl rfl tk rfl rfl ovw ?_
          refine ws_nil ?_
          refine wr_end F (by kernel_rfl) ?_
          simp only [List.drop_zero, Nat.sub_zero]
          refine ⟨_, _, .nil, (Sel.weak (.cons tk .nil)), ?_⟩
          rfl
        · skip
          refine w_slice rfl rfl rfl rfl rfl (slice_al u37 s5 (by intro _; rfl) (by rfl) (nat_of (by omega) _) (by omega) (by omega)) ?_
          refine ws_nil ?_
          refine wr_next F (l := [4, 12]) (by kernel_rfl) (by simp) (.cons rfl ?_ (.cons rfl ?_ (.nil)))
          · skip
            first | refine w_ldC1 a3 rfl rfl rdc ?_ | refine w_ldP1 a3 rfl rfl tk rdp ?_
            refine ws_nil ?_
            refine wr_next F (l := [12]) (by kernel_rfl) (by simp) (.cons rfl ?_ (.nil))
            refine w_call rfl rfl (CallW.mono (clone_frz _ (by first | omega | (simp only [List.length_take, List.length_drop]; omega)) _) ?_)
            rintro _ _ ⟨rfl, rfl⟩
            try simp only [List.cons_append, List.nil_append]
            refine ws_nil ?_
            refine wr_float F 13 rfl (by kernel_rfl) (.inl (by kernel_rfl)) ?_
            refine w_build (v := .agg [_, _, _, _, _, _]) B67 rfl rfl rfl ?_
            refine ws_nil ?_
            refine wr_float F 14 rfl (by kernel_rfl) (.inl (by kernel_rfl)) ?_
            refine w_nil rfl rfl rfl ?_
            refine ws_nil ?_
            refine wr_next F (l := [15]) (by kernel_rfl) (by simp) (.cons rfl ?_ (.nil))
            refine w_st s67 rfl rfl rfl tk rfl rfl ovw ?_
            refine ws_nil ?_
            refine wr_end F (by kernel_rfl) ?_
            simp only [List.drop_zero, Nat.sub_zero]
            refine ⟨_, _, .nil, (Sel.weak (.cons tk .nil)), ?_⟩
            rfl
          · skip
            refine w_call rfl rfl (CallW.mono (clone_frz _ (by first | omega | (simp only [List.length_take, List.length_drop]; omega)) _) ?_)
            rintro _ _ ⟨rfl, rfl⟩
            try simp only [List.cons_append, List.nil_append]
            refine ws_nil ?_
            refine wr_next F (l := [4]) (by kernel_rfl) (by simp) (.cons rfl ?_ (.nil))
            first | refine w_ldC1 a3 rfl rfl rdc ?_ | refine w_ldP1 a3 rfl rfl tk rdp ?_
            refine ws_nil ?_
            refine wr_float F 13 rfl (by kernel_rfl) (.inl (by kernel_rfl)) ?_
            refine w_build (v := .agg [_, _, _, _, _, _]) B67 rfl rfl rfl ?_
            refine ws_nil ?_
            refine wr_float F 14 rfl (by kernel_rfl) (.inl (by kernel_rfl)) ?_
            refine w_nil rfl rfl rfl ?_
            refine ws_nil ?_
            refine wr_next F (l := [15]) (by kernel_rfl) (by simp) (.cons rfl ?_ (.nil))
            refine w_st s67 rfl rfl rfl tk rfl rfl ovw ?_
            refine ws_nil ?_
            refine wr_end F (by kernel_rfl) ?_
            simp only [List.drop_zero, Nat.sub_zero]
            refine ⟨_, _, .nil, (Sel.weak (.cons tk .nil)), ?_⟩
            rfl
    · skip
      first | refine w_ldC1 a3 rfl rfl rdc ?_ | refine w_ldP1 a3 rfl rfl tk rdp ?_
      refine ws_nil ?_
      refine wr_float F 14 rfl (by kernel_rfl) (.inl (by kernel_rfl)) ?_
      refine w_sub u3 rfl rfl rfl (by omega) ?_
      refine ws_nil ?_
      refine wr_float F 15 rfl (by kernel_rfl) (.inl (by kernel_rfl)) ?_
      refine w_min rfl rfl rfl ?_
      refine ws_nil ?_
      refine wr_float F 16 rfl (by kernel_rfl) (.inl (by kernel_rfl)) ?_
      refine w_max rfl rfl rfl ?_
      refine ws_nil ?_
      refine wr_next F (l := [3]) (by kernel_rfl) (by simp) (.cons rfl ?_ (.nil))
      first | refine w_ldC1 a3 rfl rfl rdc ?_ | refine w_ldP1 a3 rfl rfl tk rdp ?_
      refine ws_nil ?_
      refine wr_float F 17 rfl (by kernel_rfl) (.inl (by kernel_rfl)) ?_
      refine w_add u3 rfl rfl rfl (by omega) ?_
      refine ws_nil ?_
      refine wr_float F 18 rfl (by kernel_rfl) (.inl (by kernel_rfl)) ?_
      refine w_assign rfl rfl ?_
      refine ws_nil ?_
      refine wr_end F (by kernel_rfl) ?_
      rw [show s.firm + max 0 (min n (s.b.length - s.firm)) = bootN s n from rfl]
      refine wc_free [0, 0, 2, 6, 14, 0, 0, 64, 192, 448, 0, 1984, 4032, 8190, 16383, 32767] (by kernel_rfl) (by kernel_rfl) (fun F => ?_)
      refine wr_float F 0 rfl (by kernel_rfl) (.inl (by kernel_rfl)) ?_
      refine w_move rfl rfl ?_
      refine ws_nil ?_
      refine wr_float F 1 rfl (by kernel_rfl) (.inl (by kernel_rfl)) ?_
      refine w_move rfl rfl ?_
      refine ws_nil ?_
      refine wr_float F 2 rfl (by kernel_rfl) (.inl (by kernel_rfl)) ?_
      refine w_nil rfl rfl rfl ?_
      refine ws_nil ?_
      refine wr_float F 3 rfl (by kernel_rfl) (.inl (by kernel_rfl)) ?_
      first | refine w_faddrC O67_0 rfl rfl ?_ | refine w_faddrP O67_0 rfl rfl ?_
      refine ws_nil ?_
      refine wr_float F 5 rfl (by kernel_rfl) (.inl (by kernel_rfl)) ?_
      refine w_move rfl rfl ?_
      refine ws_nil ?_
      refine wr_float F 6 rfl (by kernel_rfl) (.inl (by kernel_rfl)) ?_
      refine w_move rfl rfl ?_
      refine ws_nil ?_
      refine wr_float F 7 rfl (by kernel_rfl) (.inl (by kernel_rfl)) ?_
      refine w_nil rfl rfl rfl ?_
      refine ws_nil ?_
      refine wr_float F 8 rfl (by kernel_rfl) (.inl (by kernel_rfl)) ?_
      first | refine w_faddrC O67_2 rfl rfl ?_ | refine w_faddrP O67_2 rfl rfl ?_
      refine ws_nil ?_
      refine wr_float F 10 rfl (by kernel_rfl) (.inl (by kernel_rfl)) ?_
      refine w_move rfl rfl ?_
      refine ws_nil ?_
      refine wr_next F (l := [4, 9]) (by kernel_rfl) (by simp) (.cons rfl ?_ (.cons rfl ?_ (.nil)))
      · skip
        first | refine w_ldC1 a3 rfl rfl rdc ?_ | refine w_ldP1 a3 rfl rfl tk rdp ?_
        refine ws_nil ?_
        refine wr_next F (l := [9]) (by kernel_rfl) (by simp) (.cons rfl ?_ (.nil))
        first | refine w_ldC1 a37 rfl rfl rdc ?_ | refine w_ldP1 a37 rfl rfl tk rdp ?_
        refine ws_nil ?_
        refine wr_next F (l := [11]) (by kernel_rfl) (by simp) (.cons rfl ?_ (.nil))
        refine w_slice rfl rfl rfl rfl rfl (slice_al u37 s5 (by intro _; rfl) (by rfl) (nat_of (by omega) _) (by omega) (by omega)) ?_
        refine ws_nil ?_
        refine wr_next F (l := [12]) (by kernel_rfl) (by simp) (.cons rfl ?_ (.nil))
        refine w_call rfl rfl (CallW.mono (clone_frz _ (by first | omega | (simp only [List.length_take, List.length_drop]; omega)) _) ?_)
        rintro _ _ ⟨rfl, rfl⟩
        try simp only [List.cons_append, List.nil_append]
        refine ws_nil ?_
        refine wr_float F 13 rfl (by kernel_rfl) (.inl (by kernel_rfl)) ?_
        refine w_build (v := .agg [_, _, _, _, _, _]) B67 rfl rfl rfl ?_
        refine ws_nil ?_
        refine wr_float F 14 rfl (by kernel_rfl) (.inl (by kernel_rfl)) ?_
        refine w_nil rfl rfl rfl ?_
        refine ws_nil ?_
        refine wr_next F (l := [15]) (by kernel_rfl) (by simp) (.cons rfl ?_ (.nil))
        refine w_st s67 rfl rfl rfl tk rfl rfl ovw ?_
        refine ws_nil ?_
        refine wr_end F (by kernel_rfl) ?_
        simp only [List.drop_zero, Nat.sub_zero]
        refine ⟨_, _, .nil, (Sel.weak (.cons tk .nil)), ?_⟩
        rfl
      · skip
        first | refine w_ldC1 a37 rfl rfl rdc ?_ | refine w_ldP1 a37 rfl rfl tk rdp ?_
        refine ws_nil ?_
        refine wr_next F (l := [4, 11]) (by kernel_rfl) (by simp) (.cons rfl ?_ (.cons rfl ?_ (.nil)))
        · skip
          first | refine w_ldC1 a3 rfl rfl rdc ?_ | refine w_ldP1 a3 rfl rfl tk rdp ?_
          refine ws_nil ?_
          refine wr_next F (l := [11]) (by kernel_rfl) (by simp) (.cons rfl ?_ (.nil))
          refine w_slice rfl rfl rfl rfl rfl (slice_al u37 s5 (by intro _; rfl) (by rfl) (nat_of (by omega) _) (by omega) (by omega)) ?_
          refine ws_nil ?_
          refine wr_next F (l := [12]) (by kernel_rfl) (by simp) (.cons rfl ?_ (.nil))
          refine w_call rfl rfl (CallW.mono (clone_frz _ (by first | omega | (simp only [List.length_take, List.length_drop]; omega)) _) ?_)
          rintro _ _ ⟨rfl, rfl⟩
          try simp only [List.cons_append, List.nil_append]
          refine ws_nil ?_
          refine wr_float F 13 rfl (by kernel_rfl) (.inl (by kernel_rfl)) ?_
          refine w_build (v := .agg [_, _, _, _, _, _]) B67 rfl rfl rfl ?_
          refine ws_nil ?_
          refine wr_float F 14 rfl (by kernel_rfl) (.inl (by kernel_rfl)) ?_
          refine w_nil rfl rfl rfl ?_
          refine ws_nil ?_
          refine wr_next F (l := [15]) (by kernel_rfl) (by simp) (.cons rfl ?_ (.nil))
          refine w_st s67 rfl rfl rfl tk rfl rfl ovw ?_
          refine ws_nil ?_
          refine wr_end F (by kernel_rfl) ?_
          simp only [List.drop_zero, Nat.sub_zero]
          refine ⟨_, _, .nil, (Sel.weak (.cons tk .nil)), ?_⟩
          rfl
        · skip
          refine w_slice rfl rfl rfl rfl rfl (slice_al u37 s5 (by intro _; rfl) (by rfl) (nat_of (by omega) _) (by omega) (by omega)) ?_
          refine ws_nil ?_
          refine wr_next F (l := [4, 12]) (by kernel_rfl) (by simp) (.cons rfl ?_ (.cons rfl ?_ (.nil)))
          · skip
            first | refine w_ldC1 a3 rfl rfl rdc ?_ | refine w_ldP1 a3 rfl rfl tk rdp ?_
            refine ws_nil ?_
            refine wr_next F (l := [12]) (by kernel_rfl) (by simp) (.cons rfl ?_ (.nil))
            refine w_call rfl rfl (CallW.mono (clone_frz _ (by first | omega | (simp only [List.length_take, List.length_drop]; omega)) _) ?_)
            rintro _ _ ⟨rfl, rfl⟩
            try simp only [List.cons_append, List.nil_append]
            refine ws_nil ?_
            refine wr_float F 13 rfl (by kernel_rfl) (.inl (by kernel_rfl)) ?_
            refine w_build (v := .agg [_, _, _, _, _, _]) B67 rfl rfl rfl ?_
            refine ws_nil ?_
            refine wr_float F 14 rfl (by kernel_rfl) (.inl (by kernel_rfl)) ?_
            refine w_nil rfl rfl rfl ?_
            refine ws_nil ?_
            refine wr_next F (l := [15]) (by kernel_rfl) (by simp) (.cons rfl ?_ (.nil))
            refine w_st s67 rfl rfl rfl tk rfl rfl ovw ?_
            refine ws_nil ?_
            refine wr_end F (by kernel_rfl) ?_
            simp only [List.drop_zero, Nat.sub_zero]
            refine ⟨_, _, .nil, (Sel.weak (.cons tk .nil)), ?_⟩
            rfl
          · skip
            refine w_call rfl rfl (CallW.mono (clone_frz _ (by first | omega | (simp only [List.length_take, List.length_drop]; omega)) _) ?_)
            rintro _ _ ⟨rfl, rfl⟩
            try simp only [List.cons_append, List.nil_append]
            refine ws_nil ?_
            refine wr_next F (l := [4]) (by kernel_rfl) (by simp) (.cons rfl ?_ (.nil))
            first | refine w_ldC1 a3 rfl rfl rdc ?_ | refine w_ldP1 a3 rfl rfl tk rdp ?_
            refine ws_nil ?_
            refine wr_float F 13 rfl (by kernel_rfl) (.inl (by kernel_rfl)) ?_
            refine w_build (v := .agg [_, _, _, _, _, _]) B67 rfl rfl rfl ?_
            refine ws_nil ?_
            refine wr_float F 14 rfl (by kernel_rfl) (.inl (by kernel_rfl)) ?_
            refine w_nil rfl rfl rfl ?_
            refine ws_nil ?_
            refine wr_next F (l := [15]) (by kernel_rfl) (by simp) (.cons rfl ?_ (.nil))
            refine w_st s67 rfl rfl rfl tk rfl rfl ovw ?_
            refine ws_nil ?_
            refine wr_end F (by kernel_rfl) ?_
            simp only [List.drop_zero, Nat.sub_zero]
            refine ⟨_, _, .nil, (Sel.weak (.cons tk .nil)), ?_⟩
            rfl
  · skip
    first | refine w_ldC1 a3 rfl rfl rdc ?_ | refine w_ldP1 a3 rfl rfl tk rdp ?_
    refine ws_nil ?_
    refine wr_next F (l := [3, 8]) (by kernel_rfl) (by simp) (.cons rfl ?_ (.cons rfl ?_ (.nil)))
    · skip
      first | refine w_ldC1 a3 rfl rfl rdc ?_ | refine w_ldP1 a3 rfl rfl tk rdp ?_
      refine ws_nil ?_
      refine wr_next F (l := [8]) (by kernel_rfl) (by simp) (.cons rfl ?_ (.nil))
      first | refine w_ldC1 a37 rfl rfl rdc ?_ | refine w_ldP1 a37 rfl rfl tk rdp ?_
      refine ws_nil ?_
      refine wr_float F 9 rfl (by kernel_rfl) (.inl (by kernel_rfl)) ?_
      first | refine w_len rfl rfl (len_lst u37) ?_ | refine w_len rfl rfl (len_slice u37) ?_ | refine w_lenO rfl u37 rfl rfl tk ?_
      refine ws_nil ?_
      refine wr_float F 14 rfl (by kernel_rfl) (.inl (by kernel_rfl)) ?_
      refine w_sub u3 rfl rfl rfl (by omega) ?_
      refine ws_nil ?_
      refine wr_float F 15 rfl (by kernel_rfl) (.inl (by kernel_rfl)) ?_
      refine w_min rfl rfl rfl ?_
      refine ws_nil ?_
      refine wr_float F 16 rfl (by kernel_rfl) (.inl (by kernel_rfl)) ?_
      refine w_max rfl rfl rfl ?_
      refine ws_nil ?_
      refine wr_float F 17 rfl (by kernel_rfl) (.inl (by kernel_rfl)) ?_
      refine w_add u3 rfl rfl rfl (by omega) ?_
      refine ws_nil ?_
      refine wr_float F 18 rfl (by kernel_rfl) (.inl (by kernel_rfl)) ?_
      refine w_assign rfl rfl ?_
      refine ws_nil ?_
      refine wr_end F (by kernel_rfl) ?_
      rw [show s.firm + max 0 (min n (s.b.length - s.firm)) = bootN s n from rfl]
      refine wc_free [0, 0, 2, 6, 14, 0, 0, 64, 192, 448, 0, 1984, 4032, 8190, 16383, 32767] (by kernel_rfl) (by kernel_rfl) (fun F => ?_)
      refine wr_float F 0 rfl (by kernel_rfl) (.inl (by kernel_rfl)) ?_
      refine w_move rfl rfl ?_
      refine ws_nil ?_
      refine wr_float F 1 rfl (by kernel_rfl) (.inl (by kernel_rfl)) ?_
      refine w_move rfl rfl ?_
      refine ws_nil ?_
      refine wr_float F 2 rfl (by kernel_rfl) (.inl (by kernel_rfl)) ?_
      refine w_nil rfl rfl rfl ?_
      refine ws_nil ?_
      refine wr_float F 3 rfl (by kernel_rfl) (.inl (by kernel_rfl)) ?_
      first | refine w_faddrC O67_0 rfl rfl ?_ | refine w_faddrP O67_0 rfl rfl ?_
      refine ws_nil ?_
      refine wr_float F 5 rfl (by kernel_rfl) (.inl (by kernel_rfl)) ?_
      refine w_move rfl rfl ?_
      refine ws_nil ?_
      refine wr_float F 6 rfl (by kernel_rfl) (.inl (by kernel_rfl)) ?_
      refine w_move rfl rfl ?_
      refine ws_nil ?_
      refine wr_float F 7 rfl (by kernel_rfl) (.inl (by kernel_rfl)) ?_
      refine w_nil rfl rfl rfl ?_
      refine ws_nil ?_
      refine wr_float F 8 rfl (by kernel_rfl) (.inl (by kernel_rfl)) ?_
      first | refine w_faddrC O67_2 rfl rfl ?_ | refine w_faddrP O67_2 rfl rfl ?_
      refine ws_nil ?_
      refine wr_float F 10 rfl (by kernel_rfl) (.inl (by kernel_rfl)) ?_
      refine w_move rfl rfl ?_
      refine ws_nil ?_
      refine wr_next F (l := [4, 9]) (by kernel_rfl) (by simp) (.cons rfl ?_ (.cons rfl ?_ (.nil)))
      · skip
        first | refine w_ldC1 a3 rfl rfl rdc ?_ | refine w_ldP1 a3 rfl rfl tk rdp ?_
        refine ws_nil ?_
        refine wr_next F (l := [9]) (by kernel_rfl) (by simp) (.cons rfl ?_ (.nil))
        first | refine w_ldC1 a37 rfl rfl rdc ?_ | refine w_ldP1 a37 rfl rfl tk rdp ?_
        refine ws_nil ?_
        refine wr_next F (l := [11]) (by kernel_rfl) (by simp) (.cons rfl ?_ (.nil))
        refine w_slice rfl rfl rfl rfl rfl (slice_al u37 s5 (by intro _; rfl) (by rfl) (nat_of (by omega) _) (by omega) (by omega)) ?_
        refine ws_nil ?_
        refine wr_next F (l := [12]) (by kernel_rfl) (by simp) (.cons rfl ?_ (.nil))
        refine w_call rfl rfl (CallW.mono (clone_frz _ (by first | omega | (simp only [List.length_take, List.length_drop]; omega)) _) ?_)
        rintro _ _ ⟨rfl, rfl⟩
        try simp only [List.cons_append, List.nil_append]
        refine ws_nil ?_
        refine wr_float F 13 rfl (by kernel_rfl) (.inl (by kernel_rfl)) ?_
        refine w_build (v := .agg [_, _, _, _, _, _]) B67 rfl rfl rfl ?_
        refine ws_nil ?_
        refine wr_float F 14 rfl (by kernel_rfl) (.inl (by kernel_rfl)) ?_
        refine w_nil rfl rfl rfl ?_
        refine ws_nil ?_
        refine wr_next F (l := [15]) (by kernel_rfl) (by simp) (.cons rfl ?_ (.nil))
        refine w_st s67 rfl rfl rfl tk rfl rfl ovw ?_
        refine ws_nil ?_
        refine wr_end F (by kernel_rfl) ?_
        simp only [List.drop_zero, Nat.sub_zero]
        refine ⟨_, _, .nil, (Sel.weak (.cons tk .nil)), ?_⟩
        rfl
      · skip
        first | refine w_ldC1 a37 rfl rfl rdc ?_ | refine w_ldP1 a37 rfl rfl tk rdp ?_
        refine ws_nil ?_
        refine wr_next F (l := [4, 11]) (by kernel_rfl) (by simp) (.cons rfl ?_ (.cons rfl ?_ (.nil)))
        · skip
          first | refine w_ldC1 a3 rfl rfl rdc ?_ | refine w_ldP1 a3 rfl rfl tk rdp ?_
          refine ws_nil ?_
          refine wr_next F (l := [11]) (by kernel_rfl) (by simp) (.cons rfl ?_ (.nil))
          refine w_slice rfl rfl rfl rfl rfl (slice_al u37 s5 (by intro _; rfl) (by rfl) (nat_of (by omega) _) (by omega) (by omega)) ?_
          refine ws_nil ?_
          refine wr_next F (l := [12]) (by kernel_rfl) (by simp) (.cons rfl ?_ (.nil))
          refine w_call rfl rfl (CallW.mono (clone_frz _ (by first | omega | (simp only [List.length_take, List.length_drop]; omega)) _) ?_)
          rintro _ _ ⟨rfl, rfl⟩
          try simp only [List.cons_append, List.nil_append]
          refine ws_nil ?_
          refine wr_float F 13 rfl (by kernel_rfl) (.inl (by kernel_rfl)) ?_
          refine w_build (v := .agg [_, _, _, _, _, _]) B67 rfl rfl rfl ?_
          refine ws_nil ?_
          refine wr_float F 14 rfl (by kernel_rfl) (.inl (by kernel_rfl)) ?_
          refine w_nil rfl rfl rfl ?_
          refine ws_nil ?_
          refine wr_next F (l := [15]) (by kernel_rfl) (by simp) (.cons rfl ?_ (.nil))
          refine w_st s67 rfl rfl rfl tk rfl rfl ovw ?_
          refine ws_nil ?_
          refine wr_end F (by kernel_rfl) ?_
          simp only [List.drop_zero, Nat.sub_zero]
          refine ⟨_, _, .nil, (Sel.weak (.cons tk .nil)), ?_⟩
          rfl
        · skip
          refine w_slice rfl rfl rfl rfl rfl (slice_al u37 s5 (by intro _; rfl) (by rfl) (nat_of (by omega) _) (by omega) (by omega)) ?_
          refine ws_nil ?_
          refine wr_next F (l := [4, 12]) (by kernel_rfl) (by simp) (.cons rfl ?_ (.cons rfl ?_ (.nil)))
          · skip
            first | refine w_ldC1 a3 rfl rfl rdc ?_ | refine w_ldP1 a3 rfl rfl tk rdp ?_
            refine ws_nil ?_
            refine wr_next F (l := [12]) (by kernel_rfl) (by simp) (.cons rfl ?_ (.nil))
            refine w_call rfl rfl (CallW.mono (clone_frz _ (by first | omega | (simp only [List.length_take, List.length_drop]; omega)) _) ?_)
            rintro _ _ ⟨rfl, rfl⟩
            try simp only [List.cons_append, List.nil_append]
            refine ws_nil ?_
            refine wr_float F 13 rfl (by kernel_rfl) (.inl (by kernel_rfl)) ?_
            refine w_build (v := .agg [_, _, _, _, _, _]) B67 rfl rfl rfl ?_
            refine ws_nil ?_
            refine wr_float F 14 rfl (by kernel_rfl) (.inl (by kernel_rfl)) ?_
            refine w_nil rfl rfl rfl ?_
            refine ws_nil ?_
            refine wr_next F (l := [15]) (by kernel_rfl) (by simp) (.cons rfl ?_ (.nil))
            refine w_st s67 rfl rfl rfl tk rfl rfl ovw ?_
            refine ws_nil ?_
            refine wr_end F (by kernel_rfl) ?_
            simp only [List.drop_zero, Nat.sub_zero]
            refine ⟨_, _, .nil, (Sel.weak (.cons tk .nil)), ?_⟩
            rfl
          · skip
            refine w_call rfl rfl (CallW.mono (clone_frz _ (by first | omega | (simp only [List.length_take, List.length_drop]; omega)) _) ?_)
            rintro _ _ ⟨rfl, rfl⟩
            try simp only [List.cons_append, List.nil_append]
            refine ws_nil ?_
            refine wr_next F (l := [4]) (by kernel_rfl) (by simp) (.cons rfl ?_ (.nil))
            first | refine w_ldC1 a3 rfl rfl rdc ?_ | refine w_ldP1 a3 rfl rfl tk rdp ?_
            refine ws_nil ?_
            refine wr_float F 13 rfl (by kernel_rfl) (.inl (by kernel_rfl)) ?_
            refine w_build (v := .agg [_, _, _, _, _, _]) B67 rfl rfl rfl ?_
            refine ws_nil ?_
            refine wr_float F 14 rfl (by kernel_rfl) (.inl (by kernel_rfl)) ?_
            refine w_nil rfl rfl rfl ?_
            refine ws_nil ?_
            refine wr_next F (l := [15]) (by kernel_rfl) (by simp) (.cons rfl ?_ (.nil))
            refine w_st s67 rfl rfl rfl tk rfl rfl ovw ?_
            refine ws_nil ?_
            refine wr_end F (by kernel_rfl) ?_
            simp only [List.drop_zero, Nat.sub_zero]
            refine ⟨_, _, .nil, (Sel.weak (.cons tk .nil)), ?_⟩
            rfl
    · skip
      first | refine w_ldC1 a37 rfl rfl rdc ?_ | refine w_ldP1 a37 rfl rfl tk rdp ?_
      refine ws_nil ?_
      refine wr_float F 9 rfl (by kernel_rfl) (.inl (by kernel_rfl)) ?_
      first | refine w_len rfl rfl (len_lst u37) ?_ | refine w_len rfl rfl (len_slice u37) ?_ | refine w_lenO rfl u37 rfl rfl tk ?_
      refine ws_nil ?_
      refine wr_float F 14 rfl (by kernel_rfl) (.inl (by kernel_rfl)) ?_
      refine w_sub u3 rfl rfl rfl (by omega) ?_
      refine ws_nil ?_
      refine wr_float F 15 rfl (by kernel_rfl) (.inl (by kernel_rfl)) ?_
      refine w_min rfl rfl rfl ?_
      refine ws_nil ?_
      refine wr_float F 16 rfl (by kernel_rfl) (.inl (by kernel_rfl)) ?_
      refine w_max rfl rfl rfl ?_
      refine ws_nil ?_
      refine wr_next F (l := [3]) (by kernel_rfl) (by simp) (.cons rfl ?_ (.nil))
      first | refine w_ldC1 a3 rfl rfl rdc ?_ | refine w_ldP1 a3 rfl rfl tk rdp ?_
      refine ws_nil ?_
      refine wr_float F 17 rfl (by kernel_rfl) (.inl (by kernel_rfl)) ?_
      refine w_add u3 rfl rfl rfl (by omega) ?_
      refine ws_nil ?_
      refine wr_float F 18 rfl (by kernel_rfl) (.inl (by kernel_rfl)) ?_
      refine w_assign rfl rfl ?_
      refine ws_nil ?_
      refine wr_end F (by kernel_rfl) ?_
      rw [show s.firm + max 0 (min n (s.b.length - s.firm)) = bootN s n from rfl]
      refine wc_free [0, 0, 2, 6, 14, 0, 0, 64, 192, 448, 0, 1984, 4032, 8190, 16383, 32767] (by kernel_rfl) (by kernel_rfl) (fun F => ?_)
      refine wr_float F 0 rfl (by kernel_rfl) (.inl (by kernel_rfl)) ?_
      refine w_move rfl rfl ?_
      refine ws_nil ?_
      refine wr_float F 1 rfl (by kernel_rfl) (.inl (by kernel_rfl)) ?_
      refine w_move rfl rfl ?_
      refine ws_nil ?_
      refine wr_float F 2 rfl (by kernel_rfl) (.inl (by kernel_rfl)) ?_
      refine w_nil rfl rfl rfl ?_
      refine ws_nil ?_
      refine wr_float F 3 rfl (by kernel_rfl) (.inl (by kernel_rfl)) ?_
      first | refine w_faddrC O67_0 rfl rfl ?_ | refine w_faddrP O67_0 rfl rfl ?_
      refine ws_nil ?_
      refine wr_float F 5 rfl (by kernel_rfl) (.inl (by kernel_rfl)) ?_
      refine w_move rfl rfl ?_
      refine ws_nil ?_
      refine wr_float F 6 rfl (by kernel_rfl) (.inl (by kernel_rfl)) ?_
      refine w_move rfl rfl ?_
      refine ws_nil ?_
      refine wr_float F 7 rfl (by kernel_rfl) (.inl (by kernel_rfl)) ?_
      refine w_nil rfl rfl rfl ?_
      refine ws_nil ?_
      refine wr_float F 8 rfl (by kernel_rfl) (.inl (by kernel_rfl)) ?_
      first | refine w_faddrC O67_2 rfl rfl ?_ | refine w_faddrP O67_2 rfl rfl ?_
      refine ws_nil ?_
      refine wr_float F 10 rfl (by kernel_rfl) (.inl (by kernel_rfl)) ?_
      refine w_move rfl rfl ?_
      refine ws_nil ?_
      refine wr_next F (l := [4, 9]) (by kernel_rfl) (by simp) (.cons rfl ?_ (.cons rfl ?_ (.nil)))
      · skip
        first | refine w_ldC1 a3 rfl rfl rdc ?_ | refine w_ldP1 a3 rfl rfl tk rdp ?_
        refine ws_nil ?_
        refine wr_next F (l := [9]) (by kernel_rfl) (by simp) (.cons rfl ?_ (.nil))
        first | refine w_ldC1 a37 rfl rfl rdc ?_ | refine w_ldP1 a37 rfl rfl tk rdp ?_
        refine ws_nil ?_
        refine wr_next F (l := [11]) (by kernel_rfl) (by simp) (.cons rfl ?_ (.nil))
        refine w_slice rfl rfl rfl rfl rfl (slice_al u37 s5 (by intro _; rfl) (by rfl) (nat_of (by omega) _) (by omega) (by omega)) ?_
        refine ws_nil ?_
        refine wr_next F (l := [12]) (by kernel_rfl) (by simp) (.cons rfl ?_ (.nil))
        refine w_call rfl rfl (CallW.mono (clone_frz _ (by first | omega | (simp only [List.length_take, List.length_drop]; omega)) _) ?_)
        rintro _ _ ⟨rfl, rfl⟩
        try simp only [List.cons_append, List.nil_append]
        refine ws_nil ?_
        refine wr_float F 13 rfl (by kernel_rfl) (.inl (by kernel_rfl)) ?_
        refine w_build (v := .agg [_, _, _, _, _, _]) B67 rfl rfl rfl ?_
        refine ws_nil ?_
        refine wr_float F 14 rfl (by kernel_rfl) (.inl (by kernel_rfl)) ?_
        refine w_nil rfl rfl rfl ?_
        refine ws_nil ?_
        refine wr_next F (l := [15]) (by kernel_rfl) (by simp) (.cons rfl ?_ (.nil))
        refine w_st s67 rfl rfl rfl tk rfl rfl ovw ?_
        refine ws_nil ?_
        refine wr_end F (by kernel_rfl) ?_
        simp only [List.drop_zero, Nat.sub_zero]
        refine ⟨_, _, .nil, (Sel.weak (.cons tk .nil)), ?_⟩
        rfl
      · skip
        first | refine w_ldC1 a37 rfl rfl rdc ?_ | refine w_ldP1 a37 rfl rfl tk rdp ?_
        refine ws_nil ?_
        refine wr_next F (l := [4, 11]) (by kernel_rfl) (by simp) (.cons rfl ?_ (.cons rfl ?_ (.nil)))
        · skip
          first | refine w_ldC1 a3 rfl rfl rdc ?_ | refine w_ldP1 a3 rfl rfl tk rdp ?_
          refine ws_nil ?_
          refine wr_next F (l := [11]) (by kernel_rfl) (by simp) (.cons rfl ?_ (.nil))
          refine w_slice rfl rfl rfl rfl rfl (slice_al u37 s5 (by intro _; rfl) (by rfl) (nat_of (by omega) _) (by omega) (by omega)) ?_
          refine ws_nil ?_
          refine wr_next F (l := [12]) (by kernel_rfl) (by simp) (.cons rfl ?_ (.nil))
          refine w_call rfl rfl (CallW.mono (clone_frz _ (by first | omega | (simp only [List.length_take, List.length_drop]; omega)) _) ?_)
          rintro _ _ ⟨rfl, rfl⟩
          try simp only [List.cons_append, List.nil_append]
          refine ws_nil ?_
          refine wr_float F 13 rfl (by kernel_rfl) (.inl (by kernel_rfl)) ?_
          refine w_build (v := .agg [_, _, _, _, _, _]) B67 rfl rfl rfl ?_
          refine ws_nil ?_
          refine wr_float F 14 rfl (by kernel_rfl) (.inl (by kernel_rfl)) ?_
          refine w_nil rfl rfl rfl ?_
          refine ws_nil ?_
          refine wr_next F (l := [15]) (by kernel_rfl) (by simp) (.cons rfl ?_ (.nil))
          refine w_st s67 rfl rfl rfl tk rfl rfl ovw ?_
          refine ws_nil ?_
          refine wr_end F (by kernel_rfl) ?_
          simp only [List.drop_zero, Nat.sub_zero]
          refine ⟨_, _, .nil, (Sel.weak (.cons tk .nil)), ?_⟩
          rfl
        · skip
          refine w_slice rfl rfl rfl rfl rfl (slice_al u37 s5 (by intro _; rfl) (by rfl) (nat_of (by omega) _) (by omega) (by omega)) ?_
          refine ws_nil ?_
          refine wr_next F (l := [4, 12]) (by kernel_rfl) (by simp) (.cons rfl ?_ (.cons rfl ?_ (.nil)))
          · skip
            first | refine w_ldC1 a3 rfl rfl rdc ?_ | refine w_ldP1 a3 rfl rfl tk rdp ?_
            refine ws_nil ?_
            refine wr_next F (l := [12]) (by kernel_rfl) (by simp) (.cons rfl ?_ (.nil))
            refine w_call rfl rfl (CallW.mono (clone_frz _ (by first | omega | (simp only [List.length_take, List.length_drop]; omega)) _) ?_)
            rintro _ _ ⟨rfl, rfl⟩
            try simp only [List.cons_append, List.nil_append]
            refine ws_nil ?_
            refine wr_float F 13 rfl (by kernel_rfl) (.inl (by kernel_rfl)) ?_
            refine w_build (v := .agg [_, _, _, _, _, _]) B67 rfl rfl rfl ?_
            refine ws_nil ?_
            refine wr_float F 14 rfl (by kernel_rfl) (.inl (by kernel_rfl)) ?_
            refine w_nil rfl rfl rfl ?_
            refine ws_nil ?_
            refine wr_next F (l := [15]) (by kernel_rfl) (by simp) (.cons rfl ?_ (.nil))
            refine w_st s67 rfl rfl rfl tk rfl rfl ovw ?_
            refine ws_nil ?_
            refine wr_end F (by kernel_rfl) ?_
            simp only [List.drop_zero, Nat.sub_zero]
            refine ⟨_, _, .nil, (Sel.weak (.cons tk .nil)), ?_⟩
            rfl
          · skip
            refine w_call rfl rfl (CallW.mono (clone_frz _ (by first | omega | (simp only [List.length_take, List.length_drop]; omega)) _) ?_)
            rintro _ _ ⟨rfl, rfl⟩
            try simp only [List.cons_append, List.nil_append]
            refine ws_nil ?_
            refine wr_next F (l := [4]) (by kernel_rfl) (by simp) (.cons rfl ?_ (.nil))
            first | refine w_ldC1 a3 rfl rfl rdc ?_ | refine w_ldP1 a3 rfl rfl tk rdp ?_
            refine ws_nil ?_
            refine wr_float F 13 rfl (by kernel_rfl) (.inl (by kernel_rfl)) ?_
            refine w_build (v := .agg [_, _, _, _, _, _]) B67 rfl rfl rfl ?_
            refine ws_nil ?_
            refine wr_float F 14 rfl (by kernel_rfl) (.inl (by kernel_rfl)) ?_
            refine w_nil rfl rfl rfl ?_
            refine ws_nil ?_
            refine wr_next F (l := [15]) (by kernel_rfl) (by simp) (.cons rfl ?_ (.nil))
            refine w_st s67 rfl rfl rfl tk rfl rfl ovw ?_
            refine ws_nil ?_
            refine wr_end F (by kernel_rfl) ?_
            simp only [List.drop_zero, Nat.sub_zero]
            refine ⟨_, _, .nil, (Sel.weak (.cons tk .nil)), ?_⟩
            rfl

theorem grow_pos (n : Nat) (h0 : 0 < n) (hn : n < 1000000) (R : List HI) : CallW C 39 [nilSlice, .int .i64 (n : Nat)] ([] ++ R) fun v H => ∃ H', H = H' ++ R ∧ ∃ o, v = .slice (some ⟨o, 0⟩) 0 (.op 0) ∧ H' = [.obj o (.row 5 1 false ((padB [] n).flatMap eB))] := by
  refine cw_sharedA (fn := Try.f39) rfl rfl rfl rfl (K := fun v H' => ∃ o, v = .slice (some ⟨o, 0⟩) 0 (.op 0) ∧ H' = [.obj o (.row 5 1 false ((padB [] n).flatMap eB))]) ?_ R
  refine wc_seq ?_
  refine wc_text ?_
  refine w_assign rfl rfl ?_
  refine ws_nil ?_
  refine wc_seq ?_
  refine wc_seq ?_
  refine wc_text ?_
  refine w_move rfl rfl ?_
  refine w_lss u3 rfl rfl rfl ?_
  refine ws_nil ?_
  refine wc_cond rfl (fun h1 => ?_) (fun h1 => ?_)
  · replace h1 := of_decide_eq_true h1
    exact absurd h1 (by omega)
  · skip
    refine wc_stay ?_
    refine wc_seq ?_
    refine wc_seq ?_
    refine wc_text ?_
    refine w_move rfl rfl ?_
    refine w_move rfl rfl ?_
    refine w_cap rfl u37 rfl rfl rfl ?_
    refine w_move rfl rfl ?_
    first | refine w_len rfl rfl (len_lst u37) ?_ | refine w_len rfl rfl (len_slice u37) ?_ | refine w_lenO rfl u37 rfl rfl tk ?_
    refine w_sub u3 rfl rfl rfl (by omega) ?_
    refine w_sub u3 rfl rfl rfl (by omega) ?_
    refine w_assign rfl rfl ?_
    refine ws_nil ?_
    refine wc_seq ?_
    refine wc_text ?_
    refine w_move rfl rfl ?_
    refine w_gtr u3 rfl rfl rfl ?_
    refine ws_nil ?_
    refine wc_cond rfl (fun h4 => ?_) (fun h4 => ?_)
    · skip
      refine wc_text ?_
      rw [show (n : Int) - (((0 : Nat) : Int) - ((0 : Nat) : Int)) = (n : Int) by omega]
      refine w_move rfl rfl ?_
      refine w_move rfl rfl ?_
      refine w_cap rfl u37 rfl rfl rfl ?_
      refine w_slice rfl rfl rfl rfl rfl (slice_nil u37 s5 rfl) ?_
      refine w_move rfl rfl ?_
      refine WS.ownNil 5 1 ?_
      refine w_appZ (j := n) rfl u37 s5 b5 z5 rfl rfl u3 rfl rfl rfl .head (by unfold bigBy; omega) (by unfold bigBy; omega) (by unfold bigBy; omega) (by unfold bigBy; omega) (fun v22 => ?_)
      refine WS.openOwn .head (by omega) (fun o22 ho => ?_)
      subst ho
      refine w_move rfl rfl ?_
      first | refine w_len rfl rfl (len_lst u37) ?_ | refine w_len rfl rfl (len_slice u37) ?_ | refine w_lenO rfl u37 rfl rfl tk ?_
      refine w_slice rfl rfl rfl rfl rfl (slice_zero u37 s5 (by rfl)) ?_
      refine w_assign rfl rfl ?_
      refine ws_nil ?_
      refine WC.recell ((padB [] n).flatMap eB) tk (by rw [padB_nil]; rfl) ?_
      refine wc_seq ?_
      refine wc_text ?_
      refine w_move rfl rfl ?_
      refine w_assign rfl rfl ?_
      refine ws_nil ?_
      refine wc_ret ?_
      refine ⟨_, _, (.cons (.tmp rfl) .nil), (Sel.weak (.cons tk .nil)), ?_⟩
      exact ⟨_, rfl, rfl⟩
    · replace h4 := of_decide_eq_false h4
      exact absurd (by omega) h4

theorem grow_zero  (R : List HI) : CallW C 39 [nilSlice, .int .i64 0] ([] ++ R) fun v H => ∃ H', H = H' ++ R ∧ v = nilSlice ∧ H' = [] := by
  refine cw_sharedA (fn := Try.f39) rfl rfl rfl rfl (K := fun v H' => v = nilSlice ∧ H' = []) ?_ R
  refine wc_seq ?_
  refine wc_text ?_
  refine w_assign rfl rfl ?_
  refine ws_nil ?_
  refine wc_seq ?_
  refine wc_seq ?_
  refine wc_text ?_
  refine w_move rfl rfl ?_
  refine w_lss u3 rfl rfl rfl ?_
  refine ws_nil ?_
  refine wc_cond rfl (fun h1 => ?_) (fun h1 => ?_)
  · skip
    exact absurd h1 (by decide)
  · skip
    refine wc_stay ?_
    refine wc_seq ?_
    refine wc_seq ?_
    refine wc_text ?_
    refine w_move rfl rfl ?_
    refine w_move rfl rfl ?_
    refine w_cap rfl u37 rfl rfl rfl ?_
    refine w_move rfl rfl ?_
    first | refine w_len rfl rfl (len_lst u37) ?_ | refine w_len rfl rfl (len_slice u37) ?_ | refine w_lenO rfl u37 rfl rfl tk ?_
    refine w_sub u3 rfl rfl rfl (by omega) ?_
    refine w_sub u3 rfl rfl rfl (by omega) ?_
    refine w_assign rfl rfl ?_
    refine ws_nil ?_
    refine wc_seq ?_
    refine wc_text ?_
    refine w_move rfl rfl ?_
    refine w_gtr u3 rfl rfl rfl ?_
    refine ws_nil ?_
    refine wc_cond rfl (fun h4 => ?_) (fun h4 => ?_)
    · skip
      exact absurd h4 (by decide)
    · skip
      refine wc_stay ?_
      refine wc_seq ?_
      refine wc_text ?_
      refine w_move rfl rfl ?_
      refine w_assign rfl rfl ?_
      refine ws_nil ?_
      refine wc_ret ?_
      refine ⟨_, _, (.cons (.tmp rfl) .nil), (Sel.weak .nil), ?_⟩
      exact ⟨rfl, rfl⟩
end Go.Proofs.Ytknpdigpendnjaa.dk
