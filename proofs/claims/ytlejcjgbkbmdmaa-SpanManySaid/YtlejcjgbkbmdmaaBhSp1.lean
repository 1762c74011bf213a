/-
  Package span, walked by facts (printed by gen_sp.py).
-/
import Derived.Test.YtlejcjgbkbmdmaaProg
import Derived.Test.YtlejcjgbkbmdmaaBhSpT
import Derived.KernelRfl
namespace Go.Proofs.Ytlejcjgbkbmdmaa.sp
open Go Go.Proofs Go.Proofs.Ytlejcjgbkbmdmaa.BH Go.Proofs.Ytlejcjgbkbmdmaa.BH.Sp
set_option maxRecDepth 100000
noncomputable def kinds (f : FuncId) : Kind :=
  if (f = 18 ∨ f = 12 ∨ f = 10 ∨ f = 24 ∨ f = 17 ∨ f = 16 ∨ f = 21 ∨ f = 3 ∨ f = 6 ∨ f = 5) then ⟨true, false, false, false, false⟩ else
  if (f = 26 ∨ f = 9 ∨ f = 14 ∨ f = 27 ∨ f = 15 ∨ f = 11 ∨ f = 22 ∨ f = 20 ∨ f = 13 ∨ f = 19) then ⟨true, true, false, false, false⟩ else
  ⟨false, false, false, false, false⟩
noncomputable def C : Ctx := ⟨Try.prog, ⟨kinds, fun _ => none⟩, fun _ _ h => (by cases h), by kernel_rfl⟩
theorem B26 : buildF C.P 26 = ⟨fun ps => bnd (fillV (pairAt [(0, 1), (1, 1)]) [.int .i64 0, .int .i64 0] ps) fun l => some (.agg l)⟩ := by kernel_rfl
theorem O26_0 : fieldOff C.P 26 0 = some 0 := by kernel_rfl
theorem O26_1 : fieldOff C.P 26 1 = some 1 := by kernel_rfl
theorem Z55 : (buildF C.P 55).run [] = some (.agg (tab 200 fun _ => false)) := by kernel_rfl
theorem a22 : aggOf C.P 22 = some false := by kernel_rfl
theorem a26 : aggOf C.P 26 = some true := by kernel_rfl
theorem a3 : aggOf C.P 3 = some false := by kernel_rfl
theorem a4 : aggOf C.P 4 = some false := by kernel_rfl
theorem b26 : bytesOf C.P 26 = some 16 := by kernel_rfl
theorem b3 : bytesOf C.P 3 = some 8 := by kernel_rfl
theorem b4 : bytesOf C.P 4 = some 1 := by kernel_rfl
theorem s22 : szOf C.P 22 = some 1 := by kernel_rfl
theorem s26 : szOf C.P 26 = some 2 := by kernel_rfl
theorem s3 : szOf C.P 3 = some 1 := by kernel_rfl
theorem s4 : szOf C.P 4 = some 1 := by kernel_rfl
theorem s55 : szOf C.P 55 = some 200 := by kernel_rfl
theorem u22 : undOf C.P 22 = some (.slice 26) := by kernel_rfl
theorem u26 : undOf C.P 26 = some (.struct (fieldsOf C.P 26)) := by kernel_rfl
theorem u3 : undOf C.P 3 = some (.int .i64) := by kernel_rfl
theorem u30 : undOf C.P 30 = some (.slice 3) := by kernel_rfl
theorem u31 : undOf C.P 31 = some (.slice 4) := by kernel_rfl
theorem u38 : undOf C.P 38 = some (.map 3 4) := by kernel_rfl
theorem u4 : undOf C.P 4 = some (.bool) := by kernel_rfl
theorem u55 : undOf C.P 55 = some (.array 200 4) := by kernel_rfl
theorem u59 : undOf C.P 59 = some (.slice 22) := by kernel_rfl
theorem y4 : zeroOf C.P 4 = some (.bool false) := by kernel_rfl
theorem z22 : zeroCells C.P 22 = some [.slice none 0 (.exact 0)] := by kernel_rfl
theorem z26 : zeroCells C.P 26 = some [.int .i64 0, .int .i64 0] := by kernel_rfl
theorem z3 : zeroCells C.P 3 = some [.int .i64 0] := by kernel_rfl
theorem z4 : zeroCells C.P 4 = some [.bool false] := by kernel_rfl
def eL (l : List (Int × Int)) : List AV := [AL eSp l]
theorem eqI_dec (a b : Int) : eqI a b = decide (a = b) := by rw [eqI_eq]; rfl
theorem cmp_spX (lit : Bool) (a b c d : Int) : (cmpF C.P 26 lit).run (.agg [.int .i64 a, .int .i64 b]) (.agg [.int .i64 c, .int .i64 d]) = (cnd (eqI a c) (cnd (eqI b d) (some true) (some false)) (some false)) := by kernel_rfl
theorem cmp_sp (lit : Bool) (x y : Int × Int) : (cmpF C.P 26 lit).run (.agg (eSp x)) (.agg (eSp y)) = some (decide (x = y)) := by
  obtain ⟨a, b⟩ := x
  obtain ⟨c, d⟩ := y
  refine (cmp_spX lit a b c d).trans ?_
  rw [eqI_dec, eqI_dec]
  by_cases h1 : a = c <;> by_cases h2 : b = d <;> simp [h1, h2]

theorem put_fn (o : Nat) (a b : Int) (T : Nat → Bool) (R : List HI) : CallW C 25 [.ptr (some ⟨o, 0⟩), .agg [.int .i64 a, .int .i64 b]] ([.obj o (.row 55 200 false (tab 200 T))] ++ R) fun v H => ∃ H', H = H' ++ R ∧ H' = [.obj o (.row 55 200 false (tab 200 (putT T a b)))] := by
  refine cw_shared rfl rfl (fn := Try.f25) rfl rfl rfl rfl (K := fun v H' => H' = [.obj o (.row 55 200 false (tab 200 (putT T a b)))]) ?_ R
  refine wc_seq ?_
  refine wc_text ?_
  refine w_box s26 rfl rfl rfl (by first | exact tab_length _ _ | rfl) (by first | exact tab_scalar _ _ | rfl) (fun o3 => ?_)
  refine ws_nil ?_
  refine wc_seq ?_
  refine wc_text ?_
  first | refine w_faddrC O26_0 rfl rfl ?_ | refine w_faddrP O26_0 rfl rfl ?_
  first | refine w_ldC1 a3 rfl rfl (by first | exact tab_getL (by omega) | exact tab_getP (by omega) | exact flat_getI0 (by intro _; rfl) (by assumption) (by first | rfl | omega) (by decide) rfl | exact flat_getI (by intro _; rfl) (by assumption) (by first | rfl | omega) (by decide) rfl | rfl) ?_ | refine w_ldP1 a3 rfl rfl (by first | exact .head | exact .tail .head | exact .tail (.tail .head) | exact .tail (.tail (.tail .head)) | exact .tail (.tail (.tail (.tail .head)))) (by first | exact tab_getP (by omega) | exact flat_getP0 (by intro _; rfl) (by assumption) (by first | rfl | omega) (by decide) rfl | exact flat_getP (by intro _; rfl) (by assumption) (by first | rfl | omega) (by decide) rfl | rfl) ?_
  refine w_max rfl rfl rfl ?_
  refine w_assign rfl rfl ?_
  refine ws_nil ?_
  refine WC.retab (o := o) (putTo T a b (max a 0)) (by first | exact .head | exact .tail .head | exact .tail (.tail .head) | exact .tail (.tail (.tail .head)) | exact .tail (.tail (.tail (.tail .head)))) (fun j _ => putTo_start T a b j) ?_
  refine wc_block ?_
  refine wc_loop (σ := { i : Int // max a 0 ≤ i }) (fun s => [(0, .ptr (some ⟨o, 0⟩)), (3, .ptr (some ⟨o3, 0⟩)), (4, .int .i64 s.1)]) (fun s => [.obj o (.row 55 200 false (tab 200 (putTo T a b s.1))), .obj o3 (.row 26 2 false [.int .i64 a, .int .i64 b])]) (fun s => (200 - s.1).toNat) ?_ ⟨max a 0, Int.le_refl _⟩ (.cons rfl (.cons rfl (.cons rfl (.nil _)))) (Sel.weak (.cons (by first | exact .head | exact .tail .head | exact .tail (.tail .head) | exact .tail (.tail (.tail .head)) | exact .tail (.tail (.tail (.tail .head)))) (.cons (by first | exact .head | exact .tail .head | exact .tail (.tail .head) | exact .tail (.tail (.tail .head)) | exact .tail (.tail (.tail (.tail .head)))) .nil)))
  rintro ⟨i, hi⟩
  dsimp only
  refine wc_seq ?_
  refine wc_seq ?_
  refine wc_text ?_
  refine w_move rfl rfl ?_
  first | refine w_faddrC O26_1 rfl rfl ?_ | refine w_faddrP O26_1 rfl rfl ?_
  first | refine w_ldC1 a3 rfl rfl (by first | exact tab_getL (by omega) | exact tab_getP (by omega) | exact flat_getI0 (by intro _; rfl) (by assumption) (by first | rfl | omega) (by decide) rfl | exact flat_getI (by intro _; rfl) (by assumption) (by first | rfl | omega) (by decide) rfl | rfl) ?_ | refine w_ldP1 a3 rfl rfl (by first | exact .head | exact .tail .head | exact .tail (.tail .head) | exact .tail (.tail (.tail .head)) | exact .tail (.tail (.tail (.tail .head)))) (by first | exact tab_getP (by omega) | exact flat_getP0 (by intro _; rfl) (by assumption) (by first | rfl | omega) (by decide) rfl | exact flat_getP (by intro _; rfl) (by assumption) (by first | rfl | omega) (by decide) rfl | rfl) ?_
  refine w_min rfl rfl rfl ?_
  refine w_leq u3 rfl rfl rfl ?_
  refine ws_nil ?_
  refine wc_cond rfl (fun h2 => ?_) (fun h2 => ?_)
  · first | replace h2 := of_decide_eq_true h2 | replace h2 := of_decide_eq_false h2 | replace h2 := of_decide_eq_false (nb_T h2) | replace h2 := of_decide_eq_true (nb_F h2) | replace h2 := nb_T h2 | replace h2 := nb_F h2 | skip
    first | replace h2 := Int.not_lt.mp h2 | replace h2 := Int.not_le.mp h2 | replace h2 := Decidable.not_not.mp h2 | skip
    refine wc_stay ?_
    refine wc_seq ?_
    refine wc_block ?_
    refine wc_text ?_
    refine w_move rfl rfl ?_
    refine w_move rfl rfl ?_
    refine w_nil rfl rfl rfl ?_
    first | refine w_aidxC u55 s4 rfl rfl rfl (by omega) ?_ | refine w_aidxP u55 s4 rfl rfl rfl (by omega) ?_
    refine w_st s4 rfl rfl rfl (by first | exact .head | exact .tail .head | exact .tail (.tail .head) | exact .tail (.tail (.tail .head)) | exact .tail (.tail (.tail (.tail .head)))) rfl rfl (by first | exact tab_setP (by omega) | exact flat_setP (off := 0) (by intro _; rfl) (by assumption) (by first | rfl | omega) rfl | exact flat_setP (off := 1) (by intro _; rfl) (by assumption) (by first | rfl | omega) rfl | rfl) ?_
    refine ws_nil ?_
    refine WC.retab (o := o) (putTo T a b (i + 1)) (by first | exact .head | exact .tail .head | exact .tail (.tail .head) | exact .tail (.tail (.tail .head)) | exact .tail (.tail (.tail (.tail .head)))) (fun j _ => putTo_next T hi h2 j) ?_
    refine wc_text ?_
    refine w_move rfl rfl ?_
    refine w_add u3 rfl rfl rfl (by omega) ?_
    refine w_assign rfl rfl ?_
    refine ws_nil ?_
    exact ⟨⟨i + 1, by omega⟩, by simp only; omega, (.cons rfl (.cons rfl (.cons rfl (.nil _)))), (Sel.weak (.cons (by first | exact .head | exact .tail .head | exact .tail (.tail .head) | exact .tail (.tail (.tail .head)) | exact .tail (.tail (.tail (.tail .head)))) (.cons (by first | exact .head | exact .tail .head | exact .tail (.tail .head) | exact .tail (.tail (.tail .head)) | exact .tail (.tail (.tail (.tail .head)))) .nil)))⟩
  · first | replace h2 := of_decide_eq_true h2 | replace h2 := of_decide_eq_false h2 | replace h2 := of_decide_eq_false (nb_T h2) | replace h2 := of_decide_eq_true (nb_F h2) | replace h2 := nb_T h2 | replace h2 := nb_F h2 | skip
    first | replace h2 := Int.not_lt.mp h2 | replace h2 := Int.not_le.mp h2 | replace h2 := Decidable.not_not.mp h2 | skip
    refine wc_exit ?_
    refine ⟨_, _, .nil, (Sel.weak (.cons (by first | exact .head | exact .tail .head | exact .tail (.tail .head) | exact .tail (.tail (.tail .head)) | exact .tail (.tail (.tail (.tail .head)))) .nil)), ?_⟩
    exact congrArg (fun t => [HI.obj o (AObj.row 55 200 false t)]) (tab_congr fun j hj => putTo_end T hi h2 j hj)

theorem of_fn (l : List (Int × Int)) (hl : l.length < 1000000) (R : List HI) : CallW C 28 [AL eSp l] ([] ++ R) fun v H => ∃ H', H = H' ++ R ∧ ∃ o, v = .ptr (some ⟨o, 0⟩) ∧ H' = [.obj o (.row 55 200 false (tab 200 (tabOf l)))] := by
  refine cw_shared rfl rfl (fn := Try.f28) rfl rfl rfl rfl (K := fun v H' => ∃ o, v = .ptr (some ⟨o, 0⟩) ∧ H' = [.obj o (.row 55 200 false (tab 200 (tabOf l)))]) ?_ R
  refine wc_seq ?_
  refine wc_text ?_
  refine w_assign rfl rfl ?_
  refine ws_nil ?_
  refine wc_seq ?_
  refine wc_text ?_
  refine w_build rfl rfl rfl Z55 ?_
  refine w_box s55 rfl rfl rfl (by first | exact tab_length _ _ | rfl) (by first | exact tab_scalar _ _ | rfl) (fun o7 => ?_)
  refine w_assign rfl rfl ?_
  refine ws_nil ?_
  refine WC.retab (o := o7) (tabOf (l.take 0)) (by first | exact .head | exact .tail .head | exact .tail (.tail .head) | exact .tail (.tail (.tail .head)) | exact .tail (.tail (.tail (.tail .head)))) (fun j _ => rfl) ?_
  refine wc_seq ?_
  refine wc_seq ?_
  refine wc_text ?_
  refine w_move rfl rfl ?_
  first | refine w_len rfl rfl (len_lst u22) ?_ | refine w_len rfl rfl (len_slice u22) ?_ | refine w_lenO rfl u22 rfl rfl (by first | exact .head | exact .tail .head | exact .tail (.tail .head) | exact .tail (.tail (.tail .head)) | exact .tail (.tail (.tail (.tail .head)))) ?_
  refine w_move rfl rfl ?_
  refine ws_nil ?_
  refine wc_block ?_
  refine wc_loop (σ := { k : Nat // k ≤ l.length }) (fun s => [(3, .ptr (some ⟨o7, 0⟩)), (8, AL eSp l), (9, .int .i64 l.length), (10, .int .i64 (s.1 : Nat))]) (fun s => [.obj o7 (.row 55 200 false (tab 200 (tabOf (l.take s.1))))]) (fun s => l.length - s.1) ?_ ⟨0, Nat.zero_le _⟩ (.cons rfl (.cons rfl (.cons rfl (.cons rfl (.nil _))))) (Sel.weak (.cons (by first | exact .head | exact .tail .head | exact .tail (.tail .head) | exact .tail (.tail (.tail .head)) | exact .tail (.tail (.tail (.tail .head)))) .nil))
  rintro ⟨k, hk⟩
  dsimp only
  refine wc_seq ?_
  refine wc_text ?_
  refine w_lss u3 rfl rfl rfl ?_
  refine ws_nil ?_
  refine wc_seq ?_
  refine wc_cond rfl (fun h3 => ?_) (fun h3 => ?_)
  · first | replace h3 := of_decide_eq_true h3 | replace h3 := of_decide_eq_false h3 | replace h3 := of_decide_eq_false (nb_T h3) | replace h3 := of_decide_eq_true (nb_F h3) | replace h3 := nb_T h3 | replace h3 := nb_F h3 | skip
    first | replace h3 := Int.not_lt.mp h3 | replace h3 := Int.not_le.mp h3 | replace h3 := Decidable.not_not.mp h3 | skip
    refine wc_stay ?_
    refine wc_seq ?_
    refine wc_block ?_
    refine wc_seq ?_
    refine wc_text ?_
    obtain ⟨x, hx⟩ := get_of_lt (l := l) (k := k) (by omega)
    first | refine w_lidx u22 s26 rfl rfl rfl (by omega) ?_ | refine w_slidx u22 s26 rfl rfl rfl (by omega) ?_
    first | refine w_ldC a26 s26 rfl rfl (by first | exact flat_aggs (by intro _; rfl) (by assumption) | exact flat_aggsI (by intro _; rfl) (by assumption) (by first | rfl | omega)) ?_ | refine w_ldP a26 s26 rfl rfl (by first | exact .head | exact .tail .head | exact .tail (.tail .head) | exact .tail (.tail (.tail .head)) | exact .tail (.tail (.tail (.tail .head)))) (by first | exact flat_aggsP (by intro _; rfl) (by assumption) (by first | rfl | omega) | rfl) ?_
    refine w_alloc z26 s26 rfl (fun o5 => ?_)
    refine w_st s26 rfl rfl rfl (by first | exact .head | exact .tail .head | exact .tail (.tail .head) | exact .tail (.tail (.tail .head)) | exact .tail (.tail (.tail (.tail .head)))) rfl rfl (by first | exact tab_setP (by omega) | exact flat_setP (off := 0) (by intro _; rfl) (by assumption) (by first | rfl | omega) rfl | exact flat_setP (off := 1) (by intro _; rfl) (by assumption) (by first | rfl | omega) rfl | rfl) ?_
    refine ws_nil ?_
    refine wc_text ?_
    refine w_move rfl rfl ?_
    first | refine w_ldC a26 s26 rfl rfl (by first | exact flat_aggs (by intro _; rfl) (by assumption) | exact flat_aggsI (by intro _; rfl) (by assumption) (by first | rfl | omega)) ?_ | refine w_ldP a26 s26 rfl rfl (by first | exact .head | exact .tail .head | exact .tail (.tail .head) | exact .tail (.tail (.tail .head)) | exact .tail (.tail (.tail (.tail .head)))) (by first | exact flat_aggsP (by intro _; rfl) (by assumption) (by first | rfl | omega) | rfl) ?_
    refine w_call rfl rfl (CallW.mono (CallW.take (by first | exact .head | exact .tail .head | exact .tail (.tail .head) | exact .tail (.tail (.tail .head)) | exact .tail (.tail (.tail (.tail .head)))) (put_fn _ _ _ _ _)) ?_)
    rintro _ _ ⟨_, rfl, rfl⟩
    simp only [List.cons_append, List.nil_append]
    refine ws_nil ?_
    refine WC.retab (o := o7) (tabOf (l.take (k + 1))) (by first | exact .head | exact .tail .head | exact .tail (.tail .head) | exact .tail (.tail (.tail .head)) | exact .tail (.tail (.tail (.tail .head)))) (fun j _ => putT_take hx j) ?_
    refine wc_text ?_
    refine w_add u3 rfl rfl rfl (by omega) ?_
    refine w_move rfl rfl ?_
    refine ws_nil ?_
    exact ⟨⟨k + 1, by omega⟩, by simp only; omega, (.cons rfl (.cons rfl (.cons rfl (.cons rfl (.nil _))))), (Sel.weak (.cons (by first | exact .head | exact .tail .head | exact .tail (.tail .head) | exact .tail (.tail (.tail .head)) | exact .tail (.tail (.tail (.tail .head)))) .nil))⟩
  · first | replace h3 := of_decide_eq_true h3 | replace h3 := of_decide_eq_false h3 | replace h3 := of_decide_eq_false (nb_T h3) | replace h3 := of_decide_eq_true (nb_F h3) | replace h3 := nb_T h3 | replace h3 := nb_F h3 | skip
    first | replace h3 := Int.not_lt.mp h3 | replace h3 := Int.not_le.mp h3 | replace h3 := Decidable.not_not.mp h3 | skip
    refine wc_exit ?_
    refine wc_seq ?_
    refine wc_text ?_
    refine w_move rfl rfl ?_
    refine w_assign rfl rfl ?_
    refine ws_nil ?_
    refine wc_ret ?_
    refine ⟨_, _, (.cons (.tmp rfl) .nil), (Sel.weak (.cons (by first | exact .head | exact .tail .head | exact .tail (.tail .head) | exact .tail (.tail (.tail .head)) | exact .tail (.tail (.tail (.tail .head)))) .nil)), ?_⟩
    refine ⟨_, rfl, ?_⟩; congr 3; rw [List.take_of_length_le (by omega)]

theorem spans_fn (T : Nat → Bool) : PFn C 26 [.cptr (tab 200 T) 0] (AL eSp (spansTo T 200)) := by
  refine fn_keep rfl rfl (fn := Try.f26) rfl rfl rfl rfl rfl ?_
  refine wc_seq ?_
  refine wc_text ?_
  refine w_assign rfl rfl ?_
  refine ws_nil ?_
  refine wc_scope ?_
  refine wc_seq ?_
  refine wc_text ?_
  refine w_assign rfl rfl ?_
  refine ws_nil ?_
  refine wc_seq ?_
  refine wc_label ?_
  refine wc_seq ?_
  refine wc_seq ?_
  refine wc_text ?_
  refine w_move rfl rfl ?_
  refine w_move rfl rfl ?_
  refine ws_nil ?_
  refine WC.ownNil 26 2 ?_
  refine wc_block ?_
  refine wc_loop (σ := { p : Nat × AV // p.1 ≤ 200 }) (fun s => [(3, s.1.2), (7, .cptr (tab 200 T) 0), (8, .int .i64 (s.1.1 : Nat))]) (fun s => [.own s.1.2 26 2 ((spansTo T s.1.1).flatMap eSp) (spansTo T s.1.1).length]) (fun s => 200 - s.1.1) ?_ ⟨(0, nilSlice), Nat.zero_le _⟩ (.cons rfl (.cons rfl (.cons rfl (.nil _)))) (Sel.weak (.cons (by first | exact .head | exact .tail .head | exact .tail (.tail .head) | exact .tail (.tail (.tail .head)) | exact .tail (.tail (.tail (.tail .head)))) .nil))
  rintro ⟨⟨k, v⟩, hk⟩
  dsimp only
  have hb := (spansTo_bound T k).1
  refine wc_seq ?_
  refine wc_text ?_
  refine w_lss u3 rfl rfl rfl ?_
  refine ws_nil ?_
  refine wc_seq ?_
  refine wc_cond rfl (fun h3 => ?_) (fun h3 => ?_)
  · first | replace h3 := of_decide_eq_true h3 | replace h3 := of_decide_eq_false h3 | replace h3 := of_decide_eq_false (nb_T h3) | replace h3 := of_decide_eq_true (nb_F h3) | replace h3 := nb_T h3 | replace h3 := nb_F h3 | skip
    first | replace h3 := Int.not_lt.mp h3 | replace h3 := Int.not_le.mp h3 | replace h3 := Decidable.not_not.mp h3 | skip
    refine wc_stay ?_
    refine wc_seq ?_
    refine wc_block ?_
    refine wc_seq ?_
    refine wc_free [0, 0, 2, 6, 1, 31] (by kernel_rfl) (by kernel_rfl) (fun F => ?_)
    refine wr_float F 0 rfl (by kernel_rfl) (.inl (by kernel_rfl)) ?_
    refine w_move rfl rfl ?_
    refine ws_nil ?_
    refine wr_float F 1 rfl (by kernel_rfl) (.inl (by kernel_rfl)) ?_
    refine w_nil rfl rfl rfl ?_
    refine ws_nil ?_
    refine wr_float F 2 rfl (by kernel_rfl) (.inl (by kernel_rfl)) ?_
    first | refine w_aidxC u55 s4 rfl rfl rfl (by omega) ?_ | refine w_aidxP u55 s4 rfl rfl rfl (by omega) ?_
    refine ws_nil ?_
    refine wr_pure F 3 rfl (by kernel_rfl) rfl rfl (pf_ldC1 a4 rfl (by first | exact tab_getL (by omega) | exact tab_getP (by omega) | exact flat_getI0 (by intro _; rfl) (by assumption) (by first | rfl | omega) (by decide) rfl | exact flat_getI (by intro _; rfl) (by assumption) (by first | rfl | omega) (by decide) rfl | rfl)) (.inl rfl) ?_
    refine wr_float F 4 rfl (by kernel_rfl) (.inl (by kernel_rfl)) ?_
    refine w_assign rfl rfl ?_
    refine ws_nil ?_
    refine wr_float F 5 rfl (by kernel_rfl) (.inl (by kernel_rfl)) ?_
    refine w_assign rfl rfl ?_
    refine ws_nil ?_
    refine wr_end F (by kernel_rfl) ?_
    refine wc_seq ?_
    refine wc_seq ?_
    refine wc_text ?_
    refine w_move rfl rfl ?_
    refine w_not rfl rfl ?_
    refine ws_nil ?_
    simp only [Int.toNat_natCast] at *
    refine wc_cond rfl (fun h5 => ?_) (fun h5 => ?_)
    · simp only [Bool.not_eq_true'] at h5
      have hs := spans_off h5
      refine WC.reown ((spansTo T (k + 1)).flatMap eSp) (spansTo T (k + 1)).length (by first | exact .head | exact .tail .head | exact .tail (.tail .head) | exact .tail (.tail (.tail .head)) | exact .tail (.tail (.tail (.tail .head)))) (by rw [hs]) (by rw [hs]) ?_
      refine wc_exit ?_
      refine wc_text ?_
      refine w_add u3 rfl rfl rfl (by omega) ?_
      refine w_move rfl rfl ?_
      refine ws_nil ?_
      exact ⟨⟨(k + 1, _), (by omega : k + 1 ≤ 200)⟩, by simp only; omega, (.cons rfl (.cons rfl (.cons rfl (.nil _)))), (Sel.weak (.cons (by first | exact .head | exact .tail .head | exact .tail (.tail .head) | exact .tail (.tail (.tail .head)) | exact .tail (.tail (.tail (.tail .head)))) .nil))⟩
    · first | replace h5 := of_decide_eq_true h5 | replace h5 := of_decide_eq_false h5 | replace h5 := of_decide_eq_false (nb_T h5) | replace h5 := of_decide_eq_true (nb_F h5) | replace h5 := nb_T h5 | replace h5 := nb_F h5 | skip
      first | replace h5 := Int.not_lt.mp h5 | replace h5 := Int.not_le.mp h5 | replace h5 := Decidable.not_not.mp h5 | skip
      refine wc_stay ?_
      refine wc_seq ?_
      refine wc_seq ?_
      refine wc_text ?_
      refine w_move rfl rfl ?_
      first | refine w_len rfl rfl (len_lst u22) ?_ | refine w_len rfl rfl (len_slice u22) ?_ | refine w_lenO rfl u22 rfl rfl (by first | exact .head | exact .tail .head | exact .tail (.tail .head) | exact .tail (.tail (.tail .head)) | exact .tail (.tail (.tail (.tail .head)))) ?_
      refine w_assign rfl rfl ?_
      refine ws_nil ?_
      refine wc_seq ?_
      refine wc_text ?_
      refine w_move rfl rfl ?_
      refine w_gtr u3 rfl rfl rfl ?_
      refine w_move rfl rfl ?_
      refine ws_split (t := 20) rfl (fun g20 => ?_) (fun g20 => ?_)
      · first | replace g20 := of_decide_eq_true g20 | replace g20 := of_decide_eq_false g20 | replace g20 := of_decide_eq_false (nb_T g20) | replace g20 := of_decide_eq_true (nb_F g20) | replace g20 := nb_T g20 | replace g20 := nb_F g20 | skip
        first | replace g20 := Int.not_lt.mp g20 | replace g20 := Int.not_le.mp g20 | replace g20 := Decidable.not_not.mp g20 | skip
        obtain ⟨q, hx⟩ := spans_last_get (T := T) (k := k) (by omega)
        refine WS.openOwn (by first | exact .head | exact .tail .head | exact .tail (.tail .head) | exact .tail (.tail (.tail .head)) | exact .tail (.tail (.tail (.tail .head)))) (by omega) (fun oo ho => ?_)
        subst ho
        refine ws_on rfl rfl ?_
        refine w_move rfl rfl ?_
        refine ws_on rfl rfl ?_
        refine w_move rfl rfl ?_
        refine ws_on rfl rfl ?_
        refine w_sub u3 rfl rfl rfl (by omega) ?_
        refine ws_on rfl rfl ?_
        first | refine w_lidx u22 s26 rfl rfl rfl (by omega) ?_ | refine w_slidx u22 s26 rfl rfl rfl (by omega) ?_
        refine ws_on rfl rfl ?_
        first | refine w_faddrC O26_1 rfl rfl ?_ | refine w_faddrP O26_1 rfl rfl ?_
        refine ws_on rfl rfl ?_
        first | refine w_ldC1 a3 rfl rfl (by first | exact tab_getL (by omega) | exact tab_getP (by omega) | exact flat_getI0 (by intro _; rfl) (by assumption) (by first | rfl | omega) (by decide) rfl | exact flat_getI (by intro _; rfl) (by assumption) (by first | rfl | omega) (by decide) rfl | rfl) ?_ | refine w_ldP1 a3 rfl rfl (by first | exact .head | exact .tail .head | exact .tail (.tail .head) | exact .tail (.tail (.tail .head)) | exact .tail (.tail (.tail (.tail .head)))) (by first | exact tab_getP (by omega) | exact flat_getP0 (by intro _; rfl) (by assumption) (by first | rfl | omega) (by decide) rfl | exact flat_getP (by intro _; rfl) (by assumption) (by first | rfl | omega) (by decide) rfl | rfl) ?_
        refine ws_on rfl rfl ?_
        refine w_move rfl rfl ?_
        refine ws_on rfl rfl ?_
        refine w_sub u3 rfl rfl rfl (by omega) ?_
        refine ws_on rfl rfl ?_
        refine w_eql u3 rfl rfl rfl ?_
        first | refine w_pickT rfl rfl rfl ⟨_, rfl⟩ ?_ | refine w_pickF rfl rfl ⟨_, rfl⟩ rfl ?_ | refine w_pick rfl rfl rfl rfl ?_
        refine ws_nil ?_
        refine wc_cond rfl (fun h7 => ?_) (fun h7 => ?_)
        · first | replace h7 := of_decide_eq_true h7 | replace h7 := of_decide_eq_false h7 | replace h7 := of_decide_eq_false (nb_T h7) | replace h7 := of_decide_eq_true (nb_F h7) | replace h7 := nb_T h7 | replace h7 := nb_F h7 | skip
          first | replace h7 := Int.not_lt.mp h7 | replace h7 := Int.not_le.mp h7 | replace h7 := Decidable.not_not.mp h7 | skip
          refine wc_seq ?_
          refine wc_text ?_
          refine w_move rfl rfl ?_
          refine w_move rfl rfl ?_
          refine w_sub u3 rfl rfl rfl (by omega) ?_
          refine w_move rfl rfl ?_
          first | refine w_lidx u22 s26 rfl rfl rfl (by omega) ?_ | refine w_slidx u22 s26 rfl rfl rfl (by omega) ?_
          first | refine w_faddrC O26_1 rfl rfl ?_ | refine w_faddrP O26_1 rfl rfl ?_
          refine w_st s3 rfl rfl rfl (by first | exact .head | exact .tail .head | exact .tail (.tail .head) | exact .tail (.tail (.tail .head)) | exact .tail (.tail (.tail (.tail .head)))) rfl rfl (flat_setP (off := 1) (y := (q.1, (k : Int))) (by intro _; rfl) hx (by omega) rfl) ?_
          refine ws_nil ?_
          refine WC.closeOwn (e := 26) (s := 2) (m := (spansTo T k).length) (by first | exact .head | exact .tail .head | exact .tail (.tail .head) | exact .tail (.tail (.tail .head)) | exact .tail (.tail (.tail (.tail .head)))) (by rw [flat_length (s := 2) (by intro _; rfl), List.length_set]) ?_
          have hs := spans_ext (by simpa using h5) hx h7
          refine WC.reown ((spansTo T (k + 1)).flatMap eSp) (spansTo T (k + 1)).length (by first | exact .head | exact .tail .head | exact .tail (.tail .head) | exact .tail (.tail (.tail .head)) | exact .tail (.tail (.tail (.tail .head)))) (by rw [hs]) (by rw [hs, List.length_set]) ?_
          refine wc_exit ?_
          refine wc_text ?_
          refine w_add u3 rfl rfl rfl (by omega) ?_
          refine w_move rfl rfl ?_
          refine ws_nil ?_
          exact ⟨⟨(k + 1, _), (by omega : k + 1 ≤ 200)⟩, by simp only; omega, (.cons rfl (.cons rfl (.cons rfl (.nil _)))), (Sel.weak (.cons (by first | exact .head | exact .tail .head | exact .tail (.tail .head) | exact .tail (.tail (.tail .head)) | exact .tail (.tail (.tail (.tail .head)))) .nil))⟩
        · first | replace h7 := of_decide_eq_true h7 | replace h7 := of_decide_eq_false h7 | replace h7 := of_decide_eq_false (nb_T h7) | replace h7 := of_decide_eq_true (nb_F h7) | replace h7 := nb_T h7 | replace h7 := nb_F h7 | skip
          first | replace h7 := Int.not_lt.mp h7 | replace h7 := Int.not_le.mp h7 | replace h7 := Decidable.not_not.mp h7 | skip
          refine wc_stay ?_
          refine wc_text ?_
          try refine WS.closeOwn (e := 26) (s := 2) (m := (spansTo T k).length) (by first | exact .head | exact .tail .head | exact .tail (.tail .head) | exact .tail (.tail (.tail .head)) | exact .tail (.tail (.tail (.tail .head)))) (flat_length (by intro _; rfl) _) ?_
          refine w_move rfl rfl ?_
          refine w_move rfl rfl ?_
          refine w_move rfl rfl ?_
          refine w_build (v := .agg [_, _]) B26 rfl rfl rfl ?_
          refine w_buildS (cs := [_, _]) u22 s26 z26 (by decide) rfl rfl rfl (fun o41 => ?_)
          refine w_app rfl u22 s26 b26 z26 u22 (by simp) rfl rfl rfl (by first | exact .head | exact .tail .head | exact .tail (.tail .head) | exact .tail (.tail (.tail .head)) | exact .tail (.tail (.tail (.tail .head)))) (by first | exact new_obj (by first | exact .head | exact .tail .head | exact .tail (.tail .head) | exact .tail (.tail (.tail .head)) | exact .tail (.tail (.tail (.tail .head)))) rfl rfl | exact new_flat (by intro _; rfl) (by intro _; rfl) | exact new_lst rfl rfl) (by unfold bigBy; omega) (by unfold bigBy; omega) (fun v42 => ?_)
          refine w_assign rfl rfl ?_
          refine ws_nil ?_
          have hs : spansTo T (k + 1) = spansTo T k ++ [((k : Int), (k : Int))] := spans_new (by simpa using h5) (by first | (intro q hq; have := spans_last_of hx hq; subst this; exact h7) | (intro q hq; rw [List.eq_nil_of_length_eq_zero (by omega : (spansTo T k).length = 0)] at hq; simp at hq))
          refine WC.reown ((spansTo T (k + 1)).flatMap eSp) (spansTo T (k + 1)).length (by first | exact .head | exact .tail .head | exact .tail (.tail .head) | exact .tail (.tail (.tail .head)) | exact .tail (.tail (.tail (.tail .head)))) (by rw [hs, ← flat_one_more]) (by rw [hs]; simp) ?_
          refine wc_text ?_
          refine w_add u3 rfl rfl rfl (by omega) ?_
          refine w_move rfl rfl ?_
          refine ws_nil ?_
          exact ⟨⟨(k + 1, _), (by omega : k + 1 ≤ 200)⟩, by simp only; omega, (.cons rfl (.cons rfl (.cons rfl (.nil _)))), (Sel.weak (.cons (by first | exact .head | exact .tail .head | exact .tail (.tail .head) | exact .tail (.tail (.tail .head)) | exact .tail (.tail (.tail (.tail .head)))) .nil))⟩
      · first | replace g20 := of_decide_eq_true g20 | replace g20 := of_decide_eq_false g20 | replace g20 := of_decide_eq_false (nb_T g20) | replace g20 := of_decide_eq_true (nb_F g20) | replace g20 := nb_T g20 | replace g20 := nb_F g20 | skip
        first | replace g20 := Int.not_lt.mp g20 | replace g20 := Int.not_le.mp g20 | replace g20 := Decidable.not_not.mp g20 | skip
        refine ws_off rfl rfl rfl rfl ?_
        refine ws_off rfl rfl rfl rfl ?_
        refine ws_off rfl rfl rfl rfl ?_
        refine ws_off rfl rfl rfl rfl ?_
        refine ws_off rfl rfl rfl rfl ?_
        refine ws_off rfl rfl rfl rfl ?_
        refine ws_off rfl rfl rfl rfl ?_
        refine ws_off rfl rfl rfl rfl ?_
        refine ws_off rfl rfl rfl rfl ?_
        first | refine w_pickT rfl rfl rfl ⟨_, rfl⟩ ?_ | refine w_pickF rfl rfl ⟨_, rfl⟩ rfl ?_ | refine w_pick rfl rfl rfl rfl ?_
        refine ws_nil ?_
        refine wc_condF rfl ?_
        refine wc_stay ?_
        refine wc_text ?_
        try refine WS.closeOwn (e := 26) (s := 2) (m := (spansTo T k).length) (by first | exact .head | exact .tail .head | exact .tail (.tail .head) | exact .tail (.tail (.tail .head)) | exact .tail (.tail (.tail (.tail .head)))) (flat_length (by intro _; rfl) _) ?_
        refine w_move rfl rfl ?_
        refine w_move rfl rfl ?_
        refine w_move rfl rfl ?_
        refine w_build (v := .agg [_, _]) B26 rfl rfl rfl ?_
        refine w_buildS (cs := [_, _]) u22 s26 z26 (by decide) rfl rfl rfl (fun o41 => ?_)
        refine w_app rfl u22 s26 b26 z26 u22 (by simp) rfl rfl rfl (by first | exact .head | exact .tail .head | exact .tail (.tail .head) | exact .tail (.tail (.tail .head)) | exact .tail (.tail (.tail (.tail .head)))) (by first | exact new_obj (by first | exact .head | exact .tail .head | exact .tail (.tail .head) | exact .tail (.tail (.tail .head)) | exact .tail (.tail (.tail (.tail .head)))) rfl rfl | exact new_flat (by intro _; rfl) (by intro _; rfl) | exact new_lst rfl rfl) (by unfold bigBy; omega) (by unfold bigBy; omega) (fun v42 => ?_)
        refine w_assign rfl rfl ?_
        refine ws_nil ?_
        have hs : spansTo T (k + 1) = spansTo T k ++ [((k : Int), (k : Int))] := spans_new (by simpa using h5) (by first | (intro q hq; have := spans_last_of hx hq; subst this; exact h7) | (intro q hq; rw [List.eq_nil_of_length_eq_zero (by omega : (spansTo T k).length = 0)] at hq; simp at hq))
        refine WC.reown ((spansTo T (k + 1)).flatMap eSp) (spansTo T (k + 1)).length (by first | exact .head | exact .tail .head | exact .tail (.tail .head) | exact .tail (.tail (.tail .head)) | exact .tail (.tail (.tail (.tail .head)))) (by rw [hs, ← flat_one_more]) (by rw [hs]; simp) ?_
        refine wc_text ?_
        refine w_add u3 rfl rfl rfl (by omega) ?_
        refine w_move rfl rfl ?_
        refine ws_nil ?_
        exact ⟨⟨(k + 1, _), (by omega : k + 1 ≤ 200)⟩, by simp only; omega, (.cons rfl (.cons rfl (.cons rfl (.nil _)))), (Sel.weak (.cons (by first | exact .head | exact .tail .head | exact .tail (.tail .head) | exact .tail (.tail (.tail .head)) | exact .tail (.tail (.tail (.tail .head)))) .nil))⟩
  · first | replace h3 := of_decide_eq_true h3 | replace h3 := of_decide_eq_false h3 | replace h3 := of_decide_eq_false (nb_T h3) | replace h3 := of_decide_eq_true (nb_F h3) | replace h3 := nb_T h3 | replace h3 := nb_F h3 | skip
    first | replace h3 := Int.not_lt.mp h3 | replace h3 := Int.not_le.mp h3 | replace h3 := Decidable.not_not.mp h3 | skip
    refine wc_exit ?_
    refine wc_seq ?_
    refine wc_text ?_
    refine w_move rfl rfl ?_
    refine w_assign rfl rfl ?_
    refine ws_nil ?_
    refine wc_ret ?_
    refine ⟨_, _, _, (.cons (.tmp rfl) .nil), (.cons (by first | exact .closed rfl | exact .nil | exact .ownK rfl (by first | exact .head | exact .tail .head | exact .tail (.tail .head) | exact .tail (.tail (.tail .head)) | exact .tail (.tail (.tail (.tail .head)))) (by first | exact tab_done _ _ | exact flat_done (by intro _; rfl) _ | rfl | assumption) | exact .objK rfl (by omega) (by first | exact .head | exact .tail .head | exact .tail (.tail .head) | exact .tail (.tail (.tail .head)) | exact .tail (.tail (.tail (.tail .head)))) (by first | exact tab_length _ _ | exact flat_length (by intro _; rfl) _ | exact (flat_length (s := 1) (by intro _; rfl) _).trans (by simp only [*]) | exact (flat_length (s := 2) (by intro _; rfl) _).trans (by simp only [*]) | exact (flat_length (s := 3) (by intro _; rfl) _).trans (by simp only [*]) | exact (flat_length (s := 4) (by intro _; rfl) _).trans (by simp only [*]) | exact (flat_length (s := 5) (by intro _; rfl) _).trans (by simp only [*]) | exact (flat_length (s := 6) (by intro _; rfl) _).trans (by simp only [*]) | rfl) (by first | exact tab_done _ _ | exact flat_done (by intro _; rfl) _ | rfl | assumption)) .nil), ?_, ?_⟩
    · first | rfl | simp [doneV]
    have hk2 : k = 200 := by simp only at hk; omega
    subst hk2; rfl

theorem ofs_fn (l : List Int) (hl : l.length < 1000000) : PFn C 9 [AL eI l] (AL eSp (normL (ones l))) := by
  refine fn_keep rfl rfl (fn := Try.f9) rfl rfl rfl rfl rfl ?_
  refine wc_seq ?_
  refine wc_text ?_
  refine w_assign rfl rfl ?_
  refine ws_nil ?_
  refine wc_seq ?_
  refine wc_text ?_
  refine w_build rfl rfl rfl Z55 ?_
  refine w_box s55 rfl rfl rfl (by first | exact tab_length _ _ | rfl) (by first | exact tab_scalar _ _ | rfl) (fun o7 => ?_)
  refine w_assign rfl rfl ?_
  refine ws_nil ?_
  refine WC.retab (o := o7) (tabOf (ones (l.take 0))) (by first | exact .head | exact .tail .head | exact .tail (.tail .head) | exact .tail (.tail (.tail .head)) | exact .tail (.tail (.tail (.tail .head)))) (fun j _ => rfl) ?_
  refine wc_seq ?_
  refine wc_seq ?_
  refine wc_text ?_
  refine w_move rfl rfl ?_
  first | refine w_len rfl rfl (len_lst u30) ?_ | refine w_len rfl rfl (len_slice u30) ?_ | refine w_lenO rfl u30 rfl rfl (by first | exact .head | exact .tail .head | exact .tail (.tail .head) | exact .tail (.tail (.tail .head)) | exact .tail (.tail (.tail (.tail .head)))) ?_
  refine w_move rfl rfl ?_
  refine ws_nil ?_
  refine wc_block ?_
  refine wc_loop (σ := { k : Nat // k ≤ l.length }) (fun s => [(3, .ptr (some ⟨o7, 0⟩)), (8, AL eI l), (9, .int .i64 l.length), (10, .int .i64 (s.1 : Nat))]) (fun s => [.obj o7 (.row 55 200 false (tab 200 (tabOf (ones (l.take s.1)))))]) (fun s => l.length - s.1) ?_ ⟨0, Nat.zero_le _⟩ (.cons rfl (.cons rfl (.cons rfl (.cons rfl (.nil _))))) (Sel.weak (.cons (by first | exact .head | exact .tail .head | exact .tail (.tail .head) | exact .tail (.tail (.tail .head)) | exact .tail (.tail (.tail (.tail .head)))) .nil))
  rintro ⟨k, hk⟩
  dsimp only
  refine wc_seq ?_
  refine wc_text ?_
  refine w_lss u3 rfl rfl rfl ?_
  refine ws_nil ?_
  refine wc_seq ?_
  refine wc_cond rfl (fun h3 => ?_) (fun h3 => ?_)
  · first | replace h3 := of_decide_eq_true h3 | replace h3 := of_decide_eq_false h3 | replace h3 := of_decide_eq_false (nb_T h3) | replace h3 := of_decide_eq_true (nb_F h3) | replace h3 := nb_T h3 | replace h3 := nb_F h3 | skip
    first | replace h3 := Int.not_lt.mp h3 | replace h3 := Int.not_le.mp h3 | replace h3 := Decidable.not_not.mp h3 | skip
    refine wc_stay ?_
    refine wc_seq ?_
    refine wc_block ?_
    refine wc_seq ?_
    refine wc_text ?_
    obtain ⟨x, hx⟩ := get_of_lt (l := l) (k := k) (by omega)
    first | refine w_lidx u30 s3 rfl rfl rfl (by omega) ?_ | refine w_slidx u30 s3 rfl rfl rfl (by omega) ?_
    first | refine w_ldC1 a3 rfl rfl (by first | exact tab_getL (by omega) | exact tab_getP (by omega) | exact flat_getI0 (by intro _; rfl) (by assumption) (by first | rfl | omega) (by decide) rfl | exact flat_getI (by intro _; rfl) (by assumption) (by first | rfl | omega) (by decide) rfl | rfl) ?_ | refine w_ldP1 a3 rfl rfl (by first | exact .head | exact .tail .head | exact .tail (.tail .head) | exact .tail (.tail (.tail .head)) | exact .tail (.tail (.tail (.tail .head)))) (by first | exact tab_getP (by omega) | exact flat_getP0 (by intro _; rfl) (by assumption) (by first | rfl | omega) (by decide) rfl | exact flat_getP (by intro _; rfl) (by assumption) (by first | rfl | omega) (by decide) rfl | rfl) ?_
    refine w_assign rfl rfl ?_
    refine ws_nil ?_
    refine wc_text ?_
    refine w_move rfl rfl ?_
    refine w_move rfl rfl ?_
    refine w_move rfl rfl ?_
    refine w_build (v := .agg [_, _]) B26 rfl rfl rfl ?_
    refine w_call rfl rfl (CallW.mono (CallW.take (by first | exact .head | exact .tail .head | exact .tail (.tail .head) | exact .tail (.tail (.tail .head)) | exact .tail (.tail (.tail (.tail .head)))) (put_fn _ _ _ _ _)) ?_)
    rintro _ _ ⟨_, rfl, rfl⟩
    simp only [List.cons_append, List.nil_append]
    refine ws_nil ?_
    refine WC.retab (o := o7) (tabOf (ones (l.take (k + 1)))) (by first | exact .head | exact .tail .head | exact .tail (.tail .head) | exact .tail (.tail (.tail .head)) | exact .tail (.tail (.tail (.tail .head)))) (fun j _ => ones_take hx j) ?_
    refine wc_text ?_
    refine w_add u3 rfl rfl rfl (by omega) ?_
    refine w_move rfl rfl ?_
    refine ws_nil ?_
    exact ⟨⟨k + 1, by omega⟩, by simp only; omega, (.cons rfl (.cons rfl (.cons rfl (.cons rfl (.nil _))))), (Sel.weak (.cons (by first | exact .head | exact .tail .head | exact .tail (.tail .head) | exact .tail (.tail (.tail .head)) | exact .tail (.tail (.tail (.tail .head)))) .nil))⟩
  · first | replace h3 := of_decide_eq_true h3 | replace h3 := of_decide_eq_false h3 | replace h3 := of_decide_eq_false (nb_T h3) | replace h3 := of_decide_eq_true (nb_F h3) | replace h3 := nb_T h3 | replace h3 := nb_F h3 | skip
    first | replace h3 := Int.not_lt.mp h3 | replace h3 := Int.not_le.mp h3 | replace h3 := Decidable.not_not.mp h3 | skip
    refine wc_exit ?_
    refine wc_seq ?_
    refine wc_text ?_
    refine w_move rfl rfl ?_
    refine w_call rfl rfl (cw_fn rfl rfl (.cons (by first | exact .closed rfl | exact .nil | exact .ownV rfl (by first | exact .head | exact .tail .head | exact .tail (.tail .head) | exact .tail (.tail (.tail .head)) | exact .tail (.tail (.tail (.tail .head)))) (by first | exact tab_done _ _ | exact flat_done (by intro _; rfl) _ | rfl | assumption) | exact .objV rfl (by first | exact .head | exact .tail .head | exact .tail (.tail .head) | exact .tail (.tail (.tail .head)) | exact .tail (.tail (.tail (.tail .head)))) (by first | exact tab_length _ _ | exact flat_length (by intro _; rfl) _ | exact (flat_length (s := 1) (by intro _; rfl) _).trans (by simp only [*]) | exact (flat_length (s := 2) (by intro _; rfl) _).trans (by simp only [*]) | exact (flat_length (s := 3) (by intro _; rfl) _).trans (by simp only [*]) | exact (flat_length (s := 4) (by intro _; rfl) _).trans (by simp only [*]) | exact (flat_length (s := 5) (by intro _; rfl) _).trans (by simp only [*]) | exact (flat_length (s := 6) (by intro _; rfl) _).trans (by simp only [*]) | rfl) (by first | exact tab_done _ _ | exact flat_done (by intro _; rfl) _ | rfl | assumption) | exact .ownK rfl (by first | exact .head | exact .tail .head | exact .tail (.tail .head) | exact .tail (.tail (.tail .head)) | exact .tail (.tail (.tail (.tail .head)))) (by first | exact tab_done _ _ | exact flat_done (by intro _; rfl) _ | rfl | assumption) | exact .objK rfl (by omega) (by first | exact .head | exact .tail .head | exact .tail (.tail .head) | exact .tail (.tail (.tail .head)) | exact .tail (.tail (.tail (.tail .head)))) (by first | exact tab_length _ _ | exact flat_length (by intro _; rfl) _ | exact (flat_length (s := 1) (by intro _; rfl) _).trans (by simp only [*]) | exact (flat_length (s := 2) (by intro _; rfl) _).trans (by simp only [*]) | exact (flat_length (s := 3) (by intro _; rfl) _).trans (by simp only [*]) | exact (flat_length (s := 4) (by intro _; rfl) _).trans (by simp only [*]) | exact (flat_length (s := 5) (by intro _; rfl) _).trans (by simp only [*]) | exact (flat_length (s := 6) (by intro _; rfl) _).trans (by simp only [*]) | rfl) (by first | exact tab_done _ _ | exact flat_done (by intro _; rfl) _ | rfl | assumption) | exact .ptr (by first | exact .head | exact .tail .head | exact .tail (.tail .head) | exact .tail (.tail (.tail .head)) | exact .tail (.tail (.tail (.tail .head)))) (by first | exact tab_done _ _ | exact flat_done (by intro _; rfl) _ | rfl | assumption)) .nil) (spans_fn _) ?_)
    refine w_assign rfl rfl ?_
    refine ws_nil ?_
    refine wc_ret ?_
    refine ⟨_, _, _, (.cons (.tmp rfl) .nil), (.cons (by first | exact .closed rfl | exact .nil | exact .ownK rfl (by first | exact .head | exact .tail .head | exact .tail (.tail .head) | exact .tail (.tail (.tail .head)) | exact .tail (.tail (.tail (.tail .head)))) (by first | exact tab_done _ _ | exact flat_done (by intro _; rfl) _ | rfl | assumption) | exact .objK rfl (by omega) (by first | exact .head | exact .tail .head | exact .tail (.tail .head) | exact .tail (.tail (.tail .head)) | exact .tail (.tail (.tail (.tail .head)))) (by first | exact tab_length _ _ | exact flat_length (by intro _; rfl) _ | exact (flat_length (s := 1) (by intro _; rfl) _).trans (by simp only [*]) | exact (flat_length (s := 2) (by intro _; rfl) _).trans (by simp only [*]) | exact (flat_length (s := 3) (by intro _; rfl) _).trans (by simp only [*]) | exact (flat_length (s := 4) (by intro _; rfl) _).trans (by simp only [*]) | exact (flat_length (s := 5) (by intro _; rfl) _).trans (by simp only [*]) | exact (flat_length (s := 6) (by intro _; rfl) _).trans (by simp only [*]) | rfl) (by first | exact tab_done _ _ | exact flat_done (by intro _; rfl) _ | rfl | assumption)) .nil), ?_, ?_⟩
    · first | rfl | simp [doneV]
    rw [List.take_of_length_le (by omega)]; rfl

theorem join_fn (l : List (List (Int × Int))) (hl : l.length < 1000000) (hll : ∀ x ∈ l, x.length < 1000000) : PFn C 14 [AL eL l] (AL eSp (normL l.flatten)) := by
  refine fn_keep rfl rfl (fn := Try.f14) rfl rfl rfl rfl rfl ?_
  refine wc_seq ?_
  refine wc_text ?_
  refine w_assign rfl rfl ?_
  refine ws_nil ?_
  refine wc_seq ?_
  refine wc_text ?_
  refine w_build rfl rfl rfl Z55 ?_
  refine w_box s55 rfl rfl rfl (by first | exact tab_length _ _ | rfl) (by first | exact tab_scalar _ _ | rfl) (fun o9 => ?_)
  refine w_assign rfl rfl ?_
  refine ws_nil ?_
  refine WC.retab (o := o9) (tabOf (l.take 0).flatten) (by first | exact .head | exact .tail .head | exact .tail (.tail .head) | exact .tail (.tail (.tail .head)) | exact .tail (.tail (.tail (.tail .head)))) (fun j _ => rfl) ?_
  refine wc_seq ?_
  refine wc_seq ?_
  refine wc_text ?_
  refine w_move rfl rfl ?_
  first | refine w_len rfl rfl (len_lst u59) ?_ | refine w_len rfl rfl (len_slice u59) ?_ | refine w_lenO rfl u59 rfl rfl (by first | exact .head | exact .tail .head | exact .tail (.tail .head) | exact .tail (.tail (.tail .head)) | exact .tail (.tail (.tail (.tail .head)))) ?_
  refine w_move rfl rfl ?_
  refine ws_nil ?_
  refine wc_block ?_
  refine wc_loop (σ := { k : Nat // k ≤ l.length }) (fun s => [(3, .ptr (some ⟨o9, 0⟩)), (10, AL eL l), (11, .int .i64 l.length), (12, .int .i64 (s.1 : Nat))]) (fun s => [.obj o9 (.row 55 200 false (tab 200 (tabOf (l.take s.1).flatten)))]) (fun s => l.length - s.1) ?_ ⟨0, Nat.zero_le _⟩ (.cons rfl (.cons rfl (.cons rfl (.cons rfl (.nil _))))) (Sel.weak (.cons (by first | exact .head | exact .tail .head | exact .tail (.tail .head) | exact .tail (.tail (.tail .head)) | exact .tail (.tail (.tail (.tail .head)))) .nil))
  rintro ⟨k, hk⟩
  dsimp only
  refine wc_seq ?_
  refine wc_text ?_
  refine w_lss u3 rfl rfl rfl ?_
  refine ws_nil ?_
  refine wc_seq ?_
  refine wc_cond rfl (fun h3 => ?_) (fun h3 => ?_)
  · first | replace h3 := of_decide_eq_true h3 | replace h3 := of_decide_eq_false h3 | replace h3 := of_decide_eq_false (nb_T h3) | replace h3 := of_decide_eq_true (nb_F h3) | replace h3 := nb_T h3 | replace h3 := nb_F h3 | skip
    first | replace h3 := Int.not_lt.mp h3 | replace h3 := Int.not_le.mp h3 | replace h3 := Decidable.not_not.mp h3 | skip
    refine wc_stay ?_
    refine wc_seq ?_
    refine wc_block ?_
    refine wc_seq ?_
    refine wc_text ?_
    obtain ⟨x, hx⟩ := get_of_lt (l := l) (k := k) (by omega)
    have hxl := hll x (List.mem_of_getElem? hx)
    first | refine w_lidx u59 s22 rfl rfl rfl (by omega) ?_ | refine w_slidx u59 s22 rfl rfl rfl (by omega) ?_
    first | refine w_ldC1 a22 rfl rfl (by first | exact tab_getL (by omega) | exact tab_getP (by omega) | exact flat_getI0 (by intro _; rfl) (by assumption) (by first | rfl | omega) (by decide) rfl | exact flat_getI (by intro _; rfl) (by assumption) (by first | rfl | omega) (by decide) rfl | rfl) ?_ | refine w_ldP1 a22 rfl rfl (by first | exact .head | exact .tail .head | exact .tail (.tail .head) | exact .tail (.tail (.tail .head)) | exact .tail (.tail (.tail (.tail .head)))) (by first | exact tab_getP (by omega) | exact flat_getP0 (by intro _; rfl) (by assumption) (by first | rfl | omega) (by decide) rfl | exact flat_getP (by intro _; rfl) (by assumption) (by first | rfl | omega) (by decide) rfl | rfl) ?_
    refine w_assign rfl rfl ?_
    refine ws_nil ?_
    refine wc_seq ?_
    refine wc_text ?_
    refine w_move rfl rfl ?_
    first | refine w_len rfl rfl (len_lst u22) ?_ | refine w_len rfl rfl (len_slice u22) ?_ | refine w_lenO rfl u22 rfl rfl (by first | exact .head | exact .tail .head | exact .tail (.tail .head) | exact .tail (.tail (.tail .head)) | exact .tail (.tail (.tail (.tail .head)))) ?_
    refine w_move rfl rfl ?_
    refine ws_nil ?_
    refine WC.retab (o := o9) (tabOf ((l.take k).flatten ++ x.take 0)) (by first | exact .head | exact .tail .head | exact .tail (.tail .head) | exact .tail (.tail (.tail .head)) | exact .tail (.tail (.tail (.tail .head)))) (fun j _ => by simp) ?_
    refine wc_block ?_
    refine wc_loop (σ := { j : Nat // j ≤ x.length }) (fun s => [(3, .ptr (some ⟨o9, 0⟩)), (10, AL eL l), (11, .int .i64 l.length), (12, .int .i64 (k : Nat)), (16, AL eSp x), (17, .int .i64 x.length), (18, .int .i64 (s.1 : Nat))]) (fun s => [.obj o9 (.row 55 200 false (tab 200 (tabOf ((l.take k).flatten ++ x.take s.1))))]) (fun s => x.length - s.1) ?_ ⟨0, Nat.zero_le _⟩ (.cons rfl (.cons rfl (.cons rfl (.cons rfl (.cons rfl (.cons rfl (.cons rfl (.nil _)))))))) (Sel.weak (.cons (by first | exact .head | exact .tail .head | exact .tail (.tail .head) | exact .tail (.tail (.tail .head)) | exact .tail (.tail (.tail (.tail .head)))) .nil))
    rintro ⟨j, hj⟩
    dsimp only
    refine wc_seq ?_
    refine wc_text ?_
    refine w_lss u3 rfl rfl rfl ?_
    refine ws_nil ?_
    refine wc_seq ?_
    refine wc_cond rfl (fun h6 => ?_) (fun h6 => ?_)
    · first | replace h6 := of_decide_eq_true h6 | replace h6 := of_decide_eq_false h6 | replace h6 := of_decide_eq_false (nb_T h6) | replace h6 := of_decide_eq_true (nb_F h6) | replace h6 := nb_T h6 | replace h6 := nb_F h6 | skip
      first | replace h6 := Int.not_lt.mp h6 | replace h6 := Int.not_le.mp h6 | replace h6 := Decidable.not_not.mp h6 | skip
      refine wc_stay ?_
      refine wc_seq ?_
      refine wc_block ?_
      refine wc_seq ?_
      refine wc_text ?_
      obtain ⟨y, hy⟩ := get_of_lt (l := x) (k := j) (by omega)
      first | refine w_lidx u22 s26 rfl rfl rfl (by omega) ?_ | refine w_slidx u22 s26 rfl rfl rfl (by omega) ?_
      first | refine w_ldC a26 s26 rfl rfl (by first | exact flat_aggs (by intro _; rfl) (by assumption) | exact flat_aggsI (by intro _; rfl) (by assumption) (by first | rfl | omega)) ?_ | refine w_ldP a26 s26 rfl rfl (by first | exact .head | exact .tail .head | exact .tail (.tail .head) | exact .tail (.tail (.tail .head)) | exact .tail (.tail (.tail (.tail .head)))) (by first | exact flat_aggsP (by intro _; rfl) (by assumption) (by first | rfl | omega) | rfl) ?_
      refine w_alloc z26 s26 rfl (fun o7 => ?_)
      refine w_st s26 rfl rfl rfl (by first | exact .head | exact .tail .head | exact .tail (.tail .head) | exact .tail (.tail (.tail .head)) | exact .tail (.tail (.tail (.tail .head)))) rfl rfl (by first | exact tab_setP (by omega) | exact flat_setP (off := 0) (by intro _; rfl) (by assumption) (by first | rfl | omega) rfl | exact flat_setP (off := 1) (by intro _; rfl) (by assumption) (by first | rfl | omega) rfl | rfl) ?_
      refine ws_nil ?_
      refine wc_text ?_
      refine w_move rfl rfl ?_
      first | refine w_ldC a26 s26 rfl rfl (by first | exact flat_aggs (by intro _; rfl) (by assumption) | exact flat_aggsI (by intro _; rfl) (by assumption) (by first | rfl | omega)) ?_ | refine w_ldP a26 s26 rfl rfl (by first | exact .head | exact .tail .head | exact .tail (.tail .head) | exact .tail (.tail (.tail .head)) | exact .tail (.tail (.tail (.tail .head)))) (by first | exact flat_aggsP (by intro _; rfl) (by assumption) (by first | rfl | omega) | rfl) ?_
      refine w_call rfl rfl (CallW.mono (CallW.take (by first | exact .head | exact .tail .head | exact .tail (.tail .head) | exact .tail (.tail (.tail .head)) | exact .tail (.tail (.tail (.tail .head)))) (put_fn _ _ _ _ _)) ?_)
      rintro _ _ ⟨_, rfl, rfl⟩
      simp only [List.cons_append, List.nil_append]
      refine ws_nil ?_
      refine WC.retab (o := o9) (tabOf ((l.take k).flatten ++ x.take (j + 1))) (by first | exact .head | exact .tail .head | exact .tail (.tail .head) | exact .tail (.tail (.tail .head)) | exact .tail (.tail (.tail (.tail .head)))) (fun i _ => put_app hy i) ?_
      refine wc_text ?_
      refine w_add u3 rfl rfl rfl (by omega) ?_
      refine w_move rfl rfl ?_
      refine ws_nil ?_
      exact ⟨⟨j + 1, by omega⟩, by simp only; omega, (.cons rfl (.cons rfl (.cons rfl (.cons rfl (.cons rfl (.cons rfl (.cons rfl (.nil _)))))))), (Sel.weak (.cons (by first | exact .head | exact .tail .head | exact .tail (.tail .head) | exact .tail (.tail (.tail .head)) | exact .tail (.tail (.tail (.tail .head)))) .nil))⟩
    · simp only [decide_eq_false_iff_not, Int.not_lt] at h6
      refine WC.retab (o := o9) (tabOf (l.take (k + 1)).flatten) (by first | exact .head | exact .tail .head | exact .tail (.tail .head) | exact .tail (.tail (.tail .head)) | exact .tail (.tail (.tail (.tail .head)))) (fun i _ => by rw [join_take hx, List.take_of_length_le (l := x) (by omega)]) ?_
      refine wc_exit ?_
      refine wc_text ?_
      refine w_add u3 rfl rfl rfl (by omega) ?_
      refine w_move rfl rfl ?_
      refine ws_nil ?_
      exact ⟨⟨k + 1, by omega⟩, by simp only; omega, (.cons rfl (.cons rfl (.cons rfl (.cons rfl (.nil _))))), (Sel.weak (.cons (by first | exact .head | exact .tail .head | exact .tail (.tail .head) | exact .tail (.tail (.tail .head)) | exact .tail (.tail (.tail (.tail .head)))) .nil))⟩
  · first | replace h3 := of_decide_eq_true h3 | replace h3 := of_decide_eq_false h3 | replace h3 := of_decide_eq_false (nb_T h3) | replace h3 := of_decide_eq_true (nb_F h3) | replace h3 := nb_T h3 | replace h3 := nb_F h3 | skip
    first | replace h3 := Int.not_lt.mp h3 | replace h3 := Int.not_le.mp h3 | replace h3 := Decidable.not_not.mp h3 | skip
    refine wc_exit ?_
    refine wc_seq ?_
    refine wc_text ?_
    refine w_move rfl rfl ?_
    refine w_call rfl rfl (cw_fn rfl rfl (.cons (by first | exact .closed rfl | exact .nil | exact .ownV rfl (by first | exact .head | exact .tail .head | exact .tail (.tail .head) | exact .tail (.tail (.tail .head)) | exact .tail (.tail (.tail (.tail .head)))) (by first | exact tab_done _ _ | exact flat_done (by intro _; rfl) _ | rfl | assumption) | exact .objV rfl (by first | exact .head | exact .tail .head | exact .tail (.tail .head) | exact .tail (.tail (.tail .head)) | exact .tail (.tail (.tail (.tail .head)))) (by first | exact tab_length _ _ | exact flat_length (by intro _; rfl) _ | exact (flat_length (s := 1) (by intro _; rfl) _).trans (by simp only [*]) | exact (flat_length (s := 2) (by intro _; rfl) _).trans (by simp only [*]) | exact (flat_length (s := 3) (by intro _; rfl) _).trans (by simp only [*]) | exact (flat_length (s := 4) (by intro _; rfl) _).trans (by simp only [*]) | exact (flat_length (s := 5) (by intro _; rfl) _).trans (by simp only [*]) | exact (flat_length (s := 6) (by intro _; rfl) _).trans (by simp only [*]) | rfl) (by first | exact tab_done _ _ | exact flat_done (by intro _; rfl) _ | rfl | assumption) | exact .ownK rfl (by first | exact .head | exact .tail .head | exact .tail (.tail .head) | exact .tail (.tail (.tail .head)) | exact .tail (.tail (.tail (.tail .head)))) (by first | exact tab_done _ _ | exact flat_done (by intro _; rfl) _ | rfl | assumption) | exact .objK rfl (by omega) (by first | exact .head | exact .tail .head | exact .tail (.tail .head) | exact .tail (.tail (.tail .head)) | exact .tail (.tail (.tail (.tail .head)))) (by first | exact tab_length _ _ | exact flat_length (by intro _; rfl) _ | exact (flat_length (s := 1) (by intro _; rfl) _).trans (by simp only [*]) | exact (flat_length (s := 2) (by intro _; rfl) _).trans (by simp only [*]) | exact (flat_length (s := 3) (by intro _; rfl) _).trans (by simp only [*]) | exact (flat_length (s := 4) (by intro _; rfl) _).trans (by simp only [*]) | exact (flat_length (s := 5) (by intro _; rfl) _).trans (by simp only [*]) | exact (flat_length (s := 6) (by intro _; rfl) _).trans (by simp only [*]) | rfl) (by first | exact tab_done _ _ | exact flat_done (by intro _; rfl) _ | rfl | assumption) | exact .ptr (by first | exact .head | exact .tail .head | exact .tail (.tail .head) | exact .tail (.tail (.tail .head)) | exact .tail (.tail (.tail (.tail .head)))) (by first | exact tab_done _ _ | exact flat_done (by intro _; rfl) _ | rfl | assumption)) .nil) (spans_fn _) ?_)
    refine w_assign rfl rfl ?_
    refine ws_nil ?_
    refine wc_ret ?_
    refine ⟨_, _, _, (.cons (.tmp rfl) .nil), (.cons (by first | exact .closed rfl | exact .nil | exact .ownK rfl (by first | exact .head | exact .tail .head | exact .tail (.tail .head) | exact .tail (.tail (.tail .head)) | exact .tail (.tail (.tail (.tail .head)))) (by first | exact tab_done _ _ | exact flat_done (by intro _; rfl) _ | rfl | assumption) | exact .objK rfl (by omega) (by first | exact .head | exact .tail .head | exact .tail (.tail .head) | exact .tail (.tail (.tail .head)) | exact .tail (.tail (.tail (.tail .head)))) (by first | exact tab_length _ _ | exact flat_length (by intro _; rfl) _ | exact (flat_length (s := 1) (by intro _; rfl) _).trans (by simp only [*]) | exact (flat_length (s := 2) (by intro _; rfl) _).trans (by simp only [*]) | exact (flat_length (s := 3) (by intro _; rfl) _).trans (by simp only [*]) | exact (flat_length (s := 4) (by intro _; rfl) _).trans (by simp only [*]) | exact (flat_length (s := 5) (by intro _; rfl) _).trans (by simp only [*]) | exact (flat_length (s := 6) (by intro _; rfl) _).trans (by simp only [*]) | rfl) (by first | exact tab_done _ _ | exact flat_done (by intro _; rfl) _ | rfl | assumption)) .nil), ?_, ?_⟩
    · first | rfl | simp [doneV]
    rw [List.take_of_length_le (by omega)]; rfl

theorem part_fn (l m : List (Int × Int)) (has : Bool) (hl : l.length < 1000000) (hm : m.length < 1000000) : PFn C 27 [AL eSp l, AL eSp m, .bool has] (AL eSp (spansTo (partT (tabOf l) (tabOf m) has) 200)) := by
  refine fn_keep rfl rfl (fn := Try.f27) rfl rfl rfl rfl rfl ?_
  refine wc_seq ?_
  refine wc_text ?_
  refine w_assign rfl rfl ?_
  refine ws_nil ?_
  refine wc_seq ?_
  refine wc_text ?_
  refine w_move rfl rfl ?_
  refine w_call rfl rfl (CallW.mono (of_fn _ (by omega) _) ?_)
  rintro _ _ ⟨_, rfl, o11, rfl, rfl⟩
  simp only [List.cons_append, List.nil_append]
  refine w_move rfl rfl ?_
  refine w_call rfl rfl (CallW.mono (of_fn _ (by omega) _) ?_)
  rintro _ _ ⟨_, rfl, o13, rfl, rfl⟩
  simp only [List.cons_append, List.nil_append]
  refine w_assign rfl rfl ?_
  refine w_assign rfl rfl ?_
  refine ws_nil ?_
  refine wc_seq ?_
  refine wc_seq ?_
  refine wc_text ?_
  refine w_move rfl rfl ?_
  refine ws_nil ?_
  refine WC.retab (o := o11) (partTo (tabOf l) (tabOf m) has 0) (by first | exact .head | exact .tail .head | exact .tail (.tail .head) | exact .tail (.tail (.tail .head)) | exact .tail (.tail (.tail (.tail .head)))) (fun j _ => by simp [partTo]) ?_
  refine wc_block ?_
  refine wc_loop (σ := { k : Nat // k ≤ 200 }) (fun s => [(2, .bool has), (7, .ptr (some ⟨o11, 0⟩)), (8, .ptr (some ⟨o13, 0⟩)), (14, .int .i64 (s.1 : Nat))]) (fun s => [.obj o11 (.row 55 200 false (tab 200 (partTo (tabOf l) (tabOf m) has s.1))), .obj o13 (.row 55 200 false (tab 200 (tabOf m)))]) (fun s => 200 - s.1) ?_ ⟨0, Nat.zero_le _⟩ (.cons rfl (.cons rfl (.cons rfl (.cons rfl (.nil _))))) (Sel.weak (.cons (by first | exact .head | exact .tail .head | exact .tail (.tail .head) | exact .tail (.tail (.tail .head)) | exact .tail (.tail (.tail (.tail .head)))) (.cons (by first | exact .head | exact .tail .head | exact .tail (.tail .head) | exact .tail (.tail (.tail .head)) | exact .tail (.tail (.tail (.tail .head)))) .nil)))
  rintro ⟨k, hk⟩
  dsimp only
  refine wc_seq ?_
  refine wc_text ?_
  refine w_lss u3 rfl rfl rfl ?_
  refine ws_nil ?_
  refine wc_seq ?_
  refine wc_cond rfl (fun h3 => ?_) (fun h3 => ?_)
  · first | replace h3 := of_decide_eq_true h3 | replace h3 := of_decide_eq_false h3 | replace h3 := of_decide_eq_false (nb_T h3) | replace h3 := of_decide_eq_true (nb_F h3) | replace h3 := nb_T h3 | replace h3 := nb_F h3 | skip
    first | replace h3 := Int.not_lt.mp h3 | replace h3 := Int.not_le.mp h3 | replace h3 := Decidable.not_not.mp h3 | skip
    refine wc_stay ?_
    refine wc_seq ?_
    refine wc_block ?_
    refine wc_seq ?_
    refine wc_text ?_
    refine w_move rfl rfl ?_
    refine w_assign rfl rfl ?_
    refine ws_nil ?_
    refine wc_free [0, 0, 0, 0, 4, 28, 60, 124, 252, 252, 508, 2044, 4092, 252, 16380, 32764, 1, 131071, 262143] (by kernel_rfl) (by kernel_rfl) (fun F => ?_)
    refine wr_float F 0 rfl (by kernel_rfl) (.inl (by kernel_rfl)) ?_
    refine w_move rfl rfl ?_
    refine ws_nil ?_
    refine wr_float F 1 rfl (by kernel_rfl) (.inl (by kernel_rfl)) ?_
    refine w_move rfl rfl ?_
    refine ws_nil ?_
    refine wr_float F 2 rfl (by kernel_rfl) (.inl (by kernel_rfl)) ?_
    refine w_move rfl rfl ?_
    refine ws_nil ?_
    refine wr_float F 3 rfl (by kernel_rfl) (.inl (by kernel_rfl)) ?_
    refine w_move rfl rfl ?_
    refine ws_nil ?_
    refine wr_float F 4 rfl (by kernel_rfl) (.inl (by kernel_rfl)) ?_
    refine w_nil rfl rfl rfl ?_
    refine ws_nil ?_
    refine wr_float F 5 rfl (by kernel_rfl) (.inl (by kernel_rfl)) ?_
    first | refine w_aidxC u55 s4 rfl rfl rfl (by omega) ?_ | refine w_aidxP u55 s4 rfl rfl rfl (by omega) ?_
    refine ws_nil ?_
    refine wr_float F 16 rfl (by kernel_rfl) (.inl (by kernel_rfl)) ?_
    refine w_nil rfl rfl rfl ?_
    refine ws_nil ?_
    refine wr_next F (l := [6]) (by kernel_rfl) (by simp) (.cons rfl ?_ (.nil))
    first | refine w_ldC1 a4 rfl rfl (by first | exact tab_getL (by omega) | exact tab_getP (by omega) | exact flat_getI0 (by intro _; rfl) (by assumption) (by first | rfl | omega) (by decide) rfl | exact flat_getI (by intro _; rfl) (by assumption) (by first | rfl | omega) (by decide) rfl | rfl) ?_ | refine w_ldP1 a4 rfl rfl (by first | exact .head | exact .tail .head | exact .tail (.tail .head) | exact .tail (.tail (.tail .head)) | exact .tail (.tail (.tail (.tail .head)))) (by first | exact tab_getP (by omega) | exact flat_getP0 (by intro _; rfl) (by assumption) (by first | rfl | omega) (by decide) rfl | exact flat_getP (by intro _; rfl) (by assumption) (by first | rfl | omega) (by decide) rfl | rfl) ?_
    refine ws_nil ?_
    refine wr_float F 7 rfl (by kernel_rfl) (.inl (by kernel_rfl)) ?_
    refine w_move rfl rfl ?_
    refine ws_nil ?_
    refine wr_split (t := 24) rfl (fun g24 => ?_) (fun g24 => ?_)
    · first | replace g24 := of_decide_eq_true g24 | replace g24 := of_decide_eq_false g24 | replace g24 := of_decide_eq_false (nb_T g24) | replace g24 := of_decide_eq_true (nb_F g24) | replace g24 := nb_T g24 | replace g24 := nb_F g24 | skip
      first | replace g24 := Int.not_lt.mp g24 | replace g24 := Int.not_le.mp g24 | replace g24 := Decidable.not_not.mp g24 | skip
      have g24 : tabOf l k = true := by simpa [partTo] using g24
      refine wr_float F 8 rfl (by kernel_rfl) (.inl (by kernel_rfl)) ?_
      refine ws_on rfl rfl ?_ (hn := rfl)
      refine w_move rfl rfl ?_
      refine ws_nil ?_
      refine wr_float F 9 rfl (by kernel_rfl) (.inl (by kernel_rfl)) ?_
      refine ws_on rfl rfl ?_ (hn := rfl)
      refine w_move rfl rfl ?_
      refine ws_nil ?_
      refine wr_float F 10 rfl (by kernel_rfl) (.inl (by kernel_rfl)) ?_
      refine ws_on rfl rfl ?_ (hn := rfl)
      refine w_nil rfl rfl rfl ?_
      refine ws_nil ?_
      refine wr_float F 11 rfl (by kernel_rfl) (.inl (by kernel_rfl)) ?_
      refine ws_on rfl rfl ?_ (hn := rfl)
      first | refine w_aidxC u55 s4 rfl rfl rfl (by omega) ?_ | refine w_aidxP u55 s4 rfl rfl rfl (by omega) ?_
      refine ws_nil ?_
      refine wr_float F 13 rfl (by kernel_rfl) (.inl (by kernel_rfl)) ?_
      refine ws_on rfl rfl ?_ (hn := rfl)
      refine w_move rfl rfl ?_
      refine ws_nil ?_
      refine wr_next F (l := [12]) (by kernel_rfl) (by simp) (.cons rfl ?_ (.nil))
      refine ws_on rfl rfl ?_ (hn := rfl)
      first | refine w_ldC1 a4 rfl rfl (by first | exact tab_getL (by omega) | exact tab_getP (by omega) | exact flat_getI0 (by intro _; rfl) (by assumption) (by first | rfl | omega) (by decide) rfl | exact flat_getI (by intro _; rfl) (by assumption) (by first | rfl | omega) (by decide) rfl | rfl) ?_ | refine w_ldP1 a4 rfl rfl (by first | exact .head | exact .tail .head | exact .tail (.tail .head) | exact .tail (.tail (.tail .head)) | exact .tail (.tail (.tail (.tail .head)))) (by first | exact tab_getP (by omega) | exact flat_getP0 (by intro _; rfl) (by assumption) (by first | rfl | omega) (by decide) rfl | exact flat_getP (by intro _; rfl) (by assumption) (by first | rfl | omega) (by decide) rfl | rfl) ?_
      refine ws_nil ?_
      refine wr_float F 14 rfl (by kernel_rfl) (.inl (by kernel_rfl)) ?_
      refine ws_on rfl rfl ?_ (hn := rfl)
      refine w_beql u4 rfl rfl rfl ?_
      refine ws_nil ?_
      refine wr_float F 15 rfl (by kernel_rfl) (.inl (by kernel_rfl)) ?_
      first | refine w_pickT rfl rfl rfl ⟨_, rfl⟩ ?_ | refine w_pickF rfl rfl ⟨_, rfl⟩ rfl ?_ | refine w_pick rfl rfl rfl rfl ?_
      refine ws_nil ?_
      refine wr_float F 17 rfl (by kernel_rfl) (.inl (by kernel_rfl)) ?_
      first | refine w_aidxC u55 s4 rfl rfl rfl (by omega) ?_ | refine w_aidxP u55 s4 rfl rfl rfl (by omega) ?_
      refine ws_nil ?_
      refine wr_next F (l := [18]) (by kernel_rfl) (by simp) (.cons rfl ?_ (.nil))
      refine w_st s4 rfl rfl rfl (by first | exact .head | exact .tail .head | exact .tail (.tail .head) | exact .tail (.tail (.tail .head)) | exact .tail (.tail (.tail (.tail .head)))) rfl rfl (by first | exact tab_setP (by omega) | exact flat_setP (off := 0) (by intro _; rfl) (by assumption) (by first | rfl | omega) rfl | exact flat_setP (off := 1) (by intro _; rfl) (by assumption) (by first | rfl | omega) rfl | rfl) ?_
      refine ws_nil ?_
      refine wr_end F (by kernel_rfl) ?_
      refine WC.retab (o := o11) (partTo (tabOf l) (tabOf m) has (k + 1)) (by first | exact .head | exact .tail .head | exact .tail (.tail .head) | exact .tail (.tail (.tail .head)) | exact .tail (.tail (.tail (.tail .head)))) (fun j _ => part_step (by simp [partT, partTo, *]) ) ?_
      refine wc_text ?_
      refine w_add u3 rfl rfl rfl (by omega) ?_
      refine w_move rfl rfl ?_
      refine ws_nil ?_
      exact ⟨⟨k + 1, by omega⟩, by simp only; omega, (.cons rfl (.cons rfl (.cons rfl (.cons rfl (.nil _))))), (Sel.weak (.cons (by first | exact .head | exact .tail .head | exact .tail (.tail .head) | exact .tail (.tail (.tail .head)) | exact .tail (.tail (.tail (.tail .head)))) (.cons (by first | exact .head | exact .tail .head | exact .tail (.tail .head) | exact .tail (.tail (.tail .head)) | exact .tail (.tail (.tail (.tail .head)))) .nil)))⟩
    · first | replace g24 := of_decide_eq_true g24 | replace g24 := of_decide_eq_false g24 | replace g24 := of_decide_eq_false (nb_T g24) | replace g24 := of_decide_eq_true (nb_F g24) | replace g24 := nb_T g24 | replace g24 := nb_F g24 | skip
      first | replace g24 := Int.not_lt.mp g24 | replace g24 := Int.not_le.mp g24 | replace g24 := Decidable.not_not.mp g24 | skip
      have g24 : tabOf l k = false := by simpa [partTo] using g24
      refine wr_float F 8 rfl (by kernel_rfl) (.inr (off_of rfl rfl rfl rfl)) ?_
      refine ws_off rfl rfl rfl rfl ?_
      refine ws_nil ?_
      refine wr_float F 9 rfl (by kernel_rfl) (.inr (off_of rfl rfl rfl rfl)) ?_
      refine ws_off rfl rfl rfl rfl ?_
      refine ws_nil ?_
      refine wr_float F 10 rfl (by kernel_rfl) (.inr (off_of rfl rfl rfl rfl)) ?_
      refine ws_off rfl rfl rfl rfl ?_
      refine ws_nil ?_
      refine wr_float F 11 rfl (by kernel_rfl) (.inr (off_of rfl rfl rfl rfl)) ?_
      refine ws_off rfl rfl rfl rfl ?_
      refine ws_nil ?_
      refine wr_float F 12 rfl (by kernel_rfl) (.inr (off_of rfl rfl rfl rfl)) ?_
      refine ws_off rfl rfl rfl rfl ?_
      refine ws_nil ?_
      refine wr_float F 13 rfl (by kernel_rfl) (.inr (off_of rfl rfl rfl rfl)) ?_
      refine ws_off rfl rfl rfl rfl ?_
      refine ws_nil ?_
      refine wr_float F 14 rfl (by kernel_rfl) (.inr (off_of rfl rfl rfl rfl)) ?_
      refine ws_off rfl rfl rfl rfl ?_
      refine ws_nil ?_
      refine wr_float F 15 rfl (by kernel_rfl) (.inl (by kernel_rfl)) ?_
      first | refine w_pickT rfl rfl rfl ⟨_, rfl⟩ ?_ | refine w_pickF rfl rfl ⟨_, rfl⟩ rfl ?_ | refine w_pick rfl rfl rfl rfl ?_
      refine ws_nil ?_
      refine wr_float F 17 rfl (by kernel_rfl) (.inl (by kernel_rfl)) ?_
      first | refine w_aidxC u55 s4 rfl rfl rfl (by omega) ?_ | refine w_aidxP u55 s4 rfl rfl rfl (by omega) ?_
      refine ws_nil ?_
      refine wr_next F (l := [18]) (by kernel_rfl) (by simp) (.cons rfl ?_ (.nil))
      refine w_st s4 rfl rfl rfl (by first | exact .head | exact .tail .head | exact .tail (.tail .head) | exact .tail (.tail (.tail .head)) | exact .tail (.tail (.tail (.tail .head)))) rfl rfl (by first | exact tab_setP (by omega) | exact flat_setP (off := 0) (by intro _; rfl) (by assumption) (by first | rfl | omega) rfl | exact flat_setP (off := 1) (by intro _; rfl) (by assumption) (by first | rfl | omega) rfl | rfl) ?_
      refine ws_nil ?_
      refine wr_end F (by kernel_rfl) ?_
      refine WC.retab (o := o11) (partTo (tabOf l) (tabOf m) has (k + 1)) (by first | exact .head | exact .tail .head | exact .tail (.tail .head) | exact .tail (.tail (.tail .head)) | exact .tail (.tail (.tail (.tail .head)))) (fun j _ => part_step (by simp [partT, partTo, *]) ) ?_
      refine wc_text ?_
      refine w_add u3 rfl rfl rfl (by omega) ?_
      refine w_move rfl rfl ?_
      refine ws_nil ?_
      exact ⟨⟨k + 1, by omega⟩, by simp only; omega, (.cons rfl (.cons rfl (.cons rfl (.cons rfl (.nil _))))), (Sel.weak (.cons (by first | exact .head | exact .tail .head | exact .tail (.tail .head) | exact .tail (.tail (.tail .head)) | exact .tail (.tail (.tail (.tail .head)))) (.cons (by first | exact .head | exact .tail .head | exact .tail (.tail .head) | exact .tail (.tail (.tail .head)) | exact .tail (.tail (.tail (.tail .head)))) .nil)))⟩
  · first | replace h3 := of_decide_eq_true h3 | replace h3 := of_decide_eq_false h3 | replace h3 := of_decide_eq_false (nb_T h3) | replace h3 := of_decide_eq_true (nb_F h3) | replace h3 := nb_T h3 | replace h3 := nb_F h3 | skip
    first | replace h3 := Int.not_lt.mp h3 | replace h3 := Int.not_le.mp h3 | replace h3 := Decidable.not_not.mp h3 | skip
    refine wc_exit ?_
    refine wc_seq ?_
    refine wc_text ?_
    refine w_move rfl rfl ?_
    refine w_call rfl rfl (cw_fn rfl rfl (.cons (by first | exact .closed rfl | exact .nil | exact .ownV rfl (by first | exact .head | exact .tail .head | exact .tail (.tail .head) | exact .tail (.tail (.tail .head)) | exact .tail (.tail (.tail (.tail .head)))) (by first | exact tab_done _ _ | exact flat_done (by intro _; rfl) _ | rfl | assumption) | exact .objV rfl (by first | exact .head | exact .tail .head | exact .tail (.tail .head) | exact .tail (.tail (.tail .head)) | exact .tail (.tail (.tail (.tail .head)))) (by first | exact tab_length _ _ | exact flat_length (by intro _; rfl) _ | exact (flat_length (s := 1) (by intro _; rfl) _).trans (by simp only [*]) | exact (flat_length (s := 2) (by intro _; rfl) _).trans (by simp only [*]) | exact (flat_length (s := 3) (by intro _; rfl) _).trans (by simp only [*]) | exact (flat_length (s := 4) (by intro _; rfl) _).trans (by simp only [*]) | exact (flat_length (s := 5) (by intro _; rfl) _).trans (by simp only [*]) | exact (flat_length (s := 6) (by intro _; rfl) _).trans (by simp only [*]) | rfl) (by first | exact tab_done _ _ | exact flat_done (by intro _; rfl) _ | rfl | assumption) | exact .ownK rfl (by first | exact .head | exact .tail .head | exact .tail (.tail .head) | exact .tail (.tail (.tail .head)) | exact .tail (.tail (.tail (.tail .head)))) (by first | exact tab_done _ _ | exact flat_done (by intro _; rfl) _ | rfl | assumption) | exact .objK rfl (by omega) (by first | exact .head | exact .tail .head | exact .tail (.tail .head) | exact .tail (.tail (.tail .head)) | exact .tail (.tail (.tail (.tail .head)))) (by first | exact tab_length _ _ | exact flat_length (by intro _; rfl) _ | exact (flat_length (s := 1) (by intro _; rfl) _).trans (by simp only [*]) | exact (flat_length (s := 2) (by intro _; rfl) _).trans (by simp only [*]) | exact (flat_length (s := 3) (by intro _; rfl) _).trans (by simp only [*]) | exact (flat_length (s := 4) (by intro _; rfl) _).trans (by simp only [*]) | exact (flat_length (s := 5) (by intro _; rfl) _).trans (by simp only [*]) | exact (flat_length (s := 6) (by intro _; rfl) _).trans (by simp only [*]) | rfl) (by first | exact tab_done _ _ | exact flat_done (by intro _; rfl) _ | rfl | assumption) | exact .ptr (by first | exact .head | exact .tail .head | exact .tail (.tail .head) | exact .tail (.tail (.tail .head)) | exact .tail (.tail (.tail (.tail .head)))) (by first | exact tab_done _ _ | exact flat_done (by intro _; rfl) _ | rfl | assumption)) .nil) (spans_fn _) ?_)
    refine w_assign rfl rfl ?_
    refine ws_nil ?_
    refine wc_ret ?_
    have hk2 : k = 200 := by omega
    subst hk2
    refine ⟨_, _, _, (.cons (.tmp rfl) .nil), (.cons (by first | exact .closed rfl | exact .nil | exact .ownK rfl (by first | exact .head | exact .tail .head | exact .tail (.tail .head) | exact .tail (.tail (.tail .head)) | exact .tail (.tail (.tail (.tail .head)))) (by first | exact tab_done _ _ | exact flat_done (by intro _; rfl) _ | rfl | assumption) | exact .objK rfl (by omega) (by first | exact .head | exact .tail .head | exact .tail (.tail .head) | exact .tail (.tail (.tail .head)) | exact .tail (.tail (.tail (.tail .head)))) (by first | exact tab_length _ _ | exact flat_length (by intro _; rfl) _ | exact (flat_length (s := 1) (by intro _; rfl) _).trans (by simp only [*]) | exact (flat_length (s := 2) (by intro _; rfl) _).trans (by simp only [*]) | exact (flat_length (s := 3) (by intro _; rfl) _).trans (by simp only [*]) | exact (flat_length (s := 4) (by intro _; rfl) _).trans (by simp only [*]) | exact (flat_length (s := 5) (by intro _; rfl) _).trans (by simp only [*]) | exact (flat_length (s := 6) (by intro _; rfl) _).trans (by simp only [*]) | rfl) (by first | exact tab_done _ _ | exact flat_done (by intro _; rfl) _ | rfl | assumption)) .nil), ?_, ?_⟩
    · first | rfl | simp [doneV]
    refine congrArg (AL eSp) ?_; exact spansTo_congr 200 fun k hk => by simp [partTo, hk]

theorem both_fn (l m : List (Int × Int)) (hl : l.length < 1000000) (hm : m.length < 1000000) : PFn C 15 [AL eSp l, AL eSp m] (AL eSp (bothL l m)) := by
  refine fn_keep rfl rfl (fn := Try.f15) rfl rfl rfl rfl rfl ?_
  refine wc_seq ?_
  refine wc_text ?_
  refine w_assign rfl rfl ?_
  refine ws_nil ?_
  refine wc_seq ?_
  refine wc_text ?_
  refine w_move rfl rfl ?_
  refine w_move rfl rfl ?_
  refine w_call rfl rfl (cw_fn rfl rfl (.cons (by first | exact .closed rfl | exact .nil | exact .ownV rfl (by first | exact .head | exact .tail .head | exact .tail (.tail .head) | exact .tail (.tail (.tail .head)) | exact .tail (.tail (.tail (.tail .head)))) (by first | exact tab_done _ _ | exact flat_done (by intro _; rfl) _ | rfl | assumption) | exact .objV rfl (by first | exact .head | exact .tail .head | exact .tail (.tail .head) | exact .tail (.tail (.tail .head)) | exact .tail (.tail (.tail (.tail .head)))) (by first | exact tab_length _ _ | exact flat_length (by intro _; rfl) _ | exact (flat_length (s := 1) (by intro _; rfl) _).trans (by simp only [*]) | exact (flat_length (s := 2) (by intro _; rfl) _).trans (by simp only [*]) | exact (flat_length (s := 3) (by intro _; rfl) _).trans (by simp only [*]) | exact (flat_length (s := 4) (by intro _; rfl) _).trans (by simp only [*]) | exact (flat_length (s := 5) (by intro _; rfl) _).trans (by simp only [*]) | exact (flat_length (s := 6) (by intro _; rfl) _).trans (by simp only [*]) | rfl) (by first | exact tab_done _ _ | exact flat_done (by intro _; rfl) _ | rfl | assumption) | exact .ownK rfl (by first | exact .head | exact .tail .head | exact .tail (.tail .head) | exact .tail (.tail (.tail .head)) | exact .tail (.tail (.tail (.tail .head)))) (by first | exact tab_done _ _ | exact flat_done (by intro _; rfl) _ | rfl | assumption) | exact .objK rfl (by omega) (by first | exact .head | exact .tail .head | exact .tail (.tail .head) | exact .tail (.tail (.tail .head)) | exact .tail (.tail (.tail (.tail .head)))) (by first | exact tab_length _ _ | exact flat_length (by intro _; rfl) _ | exact (flat_length (s := 1) (by intro _; rfl) _).trans (by simp only [*]) | exact (flat_length (s := 2) (by intro _; rfl) _).trans (by simp only [*]) | exact (flat_length (s := 3) (by intro _; rfl) _).trans (by simp only [*]) | exact (flat_length (s := 4) (by intro _; rfl) _).trans (by simp only [*]) | exact (flat_length (s := 5) (by intro _; rfl) _).trans (by simp only [*]) | exact (flat_length (s := 6) (by intro _; rfl) _).trans (by simp only [*]) | rfl) (by first | exact tab_done _ _ | exact flat_done (by intro _; rfl) _ | rfl | assumption) | exact .ptr (by first | exact .head | exact .tail .head | exact .tail (.tail .head) | exact .tail (.tail (.tail .head)) | exact .tail (.tail (.tail (.tail .head)))) (by first | exact tab_done _ _ | exact flat_done (by intro _; rfl) _ | rfl | assumption)) (.cons (by first | exact .closed rfl | exact .nil | exact .ownV rfl (by first | exact .head | exact .tail .head | exact .tail (.tail .head) | exact .tail (.tail (.tail .head)) | exact .tail (.tail (.tail (.tail .head)))) (by first | exact tab_done _ _ | exact flat_done (by intro _; rfl) _ | rfl | assumption) | exact .objV rfl (by first | exact .head | exact .tail .head | exact .tail (.tail .head) | exact .tail (.tail (.tail .head)) | exact .tail (.tail (.tail (.tail .head)))) (by first | exact tab_length _ _ | exact flat_length (by intro _; rfl) _ | exact (flat_length (s := 1) (by intro _; rfl) _).trans (by simp only [*]) | exact (flat_length (s := 2) (by intro _; rfl) _).trans (by simp only [*]) | exact (flat_length (s := 3) (by intro _; rfl) _).trans (by simp only [*]) | exact (flat_length (s := 4) (by intro _; rfl) _).trans (by simp only [*]) | exact (flat_length (s := 5) (by intro _; rfl) _).trans (by simp only [*]) | exact (flat_length (s := 6) (by intro _; rfl) _).trans (by simp only [*]) | rfl) (by first | exact tab_done _ _ | exact flat_done (by intro _; rfl) _ | rfl | assumption) | exact .ownK rfl (by first | exact .head | exact .tail .head | exact .tail (.tail .head) | exact .tail (.tail (.tail .head)) | exact .tail (.tail (.tail (.tail .head)))) (by first | exact tab_done _ _ | exact flat_done (by intro _; rfl) _ | rfl | assumption) | exact .objK rfl (by omega) (by first | exact .head | exact .tail .head | exact .tail (.tail .head) | exact .tail (.tail (.tail .head)) | exact .tail (.tail (.tail (.tail .head)))) (by first | exact tab_length _ _ | exact flat_length (by intro _; rfl) _ | exact (flat_length (s := 1) (by intro _; rfl) _).trans (by simp only [*]) | exact (flat_length (s := 2) (by intro _; rfl) _).trans (by simp only [*]) | exact (flat_length (s := 3) (by intro _; rfl) _).trans (by simp only [*]) | exact (flat_length (s := 4) (by intro _; rfl) _).trans (by simp only [*]) | exact (flat_length (s := 5) (by intro _; rfl) _).trans (by simp only [*]) | exact (flat_length (s := 6) (by intro _; rfl) _).trans (by simp only [*]) | rfl) (by first | exact tab_done _ _ | exact flat_done (by intro _; rfl) _ | rfl | assumption) | exact .ptr (by first | exact .head | exact .tail .head | exact .tail (.tail .head) | exact .tail (.tail (.tail .head)) | exact .tail (.tail (.tail (.tail .head)))) (by first | exact tab_done _ _ | exact flat_done (by intro _; rfl) _ | rfl | assumption)) (.cons (by first | exact .closed rfl | exact .nil | exact .ownV rfl (by first | exact .head | exact .tail .head | exact .tail (.tail .head) | exact .tail (.tail (.tail .head)) | exact .tail (.tail (.tail (.tail .head)))) (by first | exact tab_done _ _ | exact flat_done (by intro _; rfl) _ | rfl | assumption) | exact .objV rfl (by first | exact .head | exact .tail .head | exact .tail (.tail .head) | exact .tail (.tail (.tail .head)) | exact .tail (.tail (.tail (.tail .head)))) (by first | exact tab_length _ _ | exact flat_length (by intro _; rfl) _ | exact (flat_length (s := 1) (by intro _; rfl) _).trans (by simp only [*]) | exact (flat_length (s := 2) (by intro _; rfl) _).trans (by simp only [*]) | exact (flat_length (s := 3) (by intro _; rfl) _).trans (by simp only [*]) | exact (flat_length (s := 4) (by intro _; rfl) _).trans (by simp only [*]) | exact (flat_length (s := 5) (by intro _; rfl) _).trans (by simp only [*]) | exact (flat_length (s := 6) (by intro _; rfl) _).trans (by simp only [*]) | rfl) (by first | exact tab_done _ _ | exact flat_done (by intro _; rfl) _ | rfl | assumption) | exact .ownK rfl (by first | exact .head | exact .tail .head | exact .tail (.tail .head) | exact .tail (.tail (.tail .head)) | exact .tail (.tail (.tail (.tail .head)))) (by first | exact tab_done _ _ | exact flat_done (by intro _; rfl) _ | rfl | assumption) | exact .objK rfl (by omega) (by first | exact .head | exact .tail .head | exact .tail (.tail .head) | exact .tail (.tail (.tail .head)) | exact .tail (.tail (.tail (.tail .head)))) (by first | exact tab_length _ _ | exact flat_length (by intro _; rfl) _ | exact (flat_length (s := 1) (by intro _; rfl) _).trans (by simp only [*]) | exact (flat_length (s := 2) (by intro _; rfl) _).trans (by simp only [*]) | exact (flat_length (s := 3) (by intro _; rfl) _).trans (by simp only [*]) | exact (flat_length (s := 4) (by intro _; rfl) _).trans (by simp only [*]) | exact (flat_length (s := 5) (by intro _; rfl) _).trans (by simp only [*]) | exact (flat_length (s := 6) (by intro _; rfl) _).trans (by simp only [*]) | rfl) (by first | exact tab_done _ _ | exact flat_done (by intro _; rfl) _ | rfl | assumption) | exact .ptr (by first | exact .head | exact .tail .head | exact .tail (.tail .head) | exact .tail (.tail (.tail .head)) | exact .tail (.tail (.tail (.tail .head)))) (by first | exact tab_done _ _ | exact flat_done (by intro _; rfl) _ | rfl | assumption)) .nil))) (part_fn _ _ _ (by omega) (by omega)) ?_)
  refine w_assign rfl rfl ?_
  refine ws_nil ?_
  refine wc_ret ?_
  refine ⟨_, _, _, (.cons (.tmp rfl) .nil), (.cons (by first | exact .closed rfl | exact .nil | exact .ownK rfl (by first | exact .head | exact .tail .head | exact .tail (.tail .head) | exact .tail (.tail (.tail .head)) | exact .tail (.tail (.tail (.tail .head)))) (by first | exact tab_done _ _ | exact flat_done (by intro _; rfl) _ | rfl | assumption) | exact .objK rfl (by omega) (by first | exact .head | exact .tail .head | exact .tail (.tail .head) | exact .tail (.tail (.tail .head)) | exact .tail (.tail (.tail (.tail .head)))) (by first | exact tab_length _ _ | exact flat_length (by intro _; rfl) _ | exact (flat_length (s := 1) (by intro _; rfl) _).trans (by simp only [*]) | exact (flat_length (s := 2) (by intro _; rfl) _).trans (by simp only [*]) | exact (flat_length (s := 3) (by intro _; rfl) _).trans (by simp only [*]) | exact (flat_length (s := 4) (by intro _; rfl) _).trans (by simp only [*]) | exact (flat_length (s := 5) (by intro _; rfl) _).trans (by simp only [*]) | exact (flat_length (s := 6) (by intro _; rfl) _).trans (by simp only [*]) | rfl) (by first | exact tab_done _ _ | exact flat_done (by intro _; rfl) _ | rfl | assumption)) .nil), ?_, ?_⟩
  · first | rfl | simp [doneV]
  rfl

theorem less_fn (l m : List (Int × Int)) (hl : l.length < 1000000) (hm : m.length < 1000000) : PFn C 11 [AL eSp l, AL eSp m] (AL eSp (lessL l m)) := by
  refine fn_keep rfl rfl (fn := Try.f11) rfl rfl rfl rfl rfl ?_
  refine wc_seq ?_
  refine wc_text ?_
  refine w_assign rfl rfl ?_
  refine ws_nil ?_
  refine wc_seq ?_
  refine wc_text ?_
  refine w_move rfl rfl ?_
  refine w_move rfl rfl ?_
  refine w_call rfl rfl (cw_fn rfl rfl (.cons (by first | exact .closed rfl | exact .nil | exact .ownV rfl (by first | exact .head | exact .tail .head | exact .tail (.tail .head) | exact .tail (.tail (.tail .head)) | exact .tail (.tail (.tail (.tail .head)))) (by first | exact tab_done _ _ | exact flat_done (by intro _; rfl) _ | rfl | assumption) | exact .objV rfl (by first | exact .head | exact .tail .head | exact .tail (.tail .head) | exact .tail (.tail (.tail .head)) | exact .tail (.tail (.tail (.tail .head)))) (by first | exact tab_length _ _ | exact flat_length (by intro _; rfl) _ | exact (flat_length (s := 1) (by intro _; rfl) _).trans (by simp only [*]) | exact (flat_length (s := 2) (by intro _; rfl) _).trans (by simp only [*]) | exact (flat_length (s := 3) (by intro _; rfl) _).trans (by simp only [*]) | exact (flat_length (s := 4) (by intro _; rfl) _).trans (by simp only [*]) | exact (flat_length (s := 5) (by intro _; rfl) _).trans (by simp only [*]) | exact (flat_length (s := 6) (by intro _; rfl) _).trans (by simp only [*]) | rfl) (by first | exact tab_done _ _ | exact flat_done (by intro _; rfl) _ | rfl | assumption) | exact .ownK rfl (by first | exact .head | exact .tail .head | exact .tail (.tail .head) | exact .tail (.tail (.tail .head)) | exact .tail (.tail (.tail (.tail .head)))) (by first | exact tab_done _ _ | exact flat_done (by intro _; rfl) _ | rfl | assumption) | exact .objK rfl (by omega) (by first | exact .head | exact .tail .head | exact .tail (.tail .head) | exact .tail (.tail (.tail .head)) | exact .tail (.tail (.tail (.tail .head)))) (by first | exact tab_length _ _ | exact flat_length (by intro _; rfl) _ | exact (flat_length (s := 1) (by intro _; rfl) _).trans (by simp only [*]) | exact (flat_length (s := 2) (by intro _; rfl) _).trans (by simp only [*]) | exact (flat_length (s := 3) (by intro _; rfl) _).trans (by simp only [*]) | exact (flat_length (s := 4) (by intro _; rfl) _).trans (by simp only [*]) | exact (flat_length (s := 5) (by intro _; rfl) _).trans (by simp only [*]) | exact (flat_length (s := 6) (by intro _; rfl) _).trans (by simp only [*]) | rfl) (by first | exact tab_done _ _ | exact flat_done (by intro _; rfl) _ | rfl | assumption) | exact .ptr (by first | exact .head | exact .tail .head | exact .tail (.tail .head) | exact .tail (.tail (.tail .head)) | exact .tail (.tail (.tail (.tail .head)))) (by first | exact tab_done _ _ | exact flat_done (by intro _; rfl) _ | rfl | assumption)) (.cons (by first | exact .closed rfl | exact .nil | exact .ownV rfl (by first | exact .head | exact .tail .head | exact .tail (.tail .head) | exact .tail (.tail (.tail .head)) | exact .tail (.tail (.tail (.tail .head)))) (by first | exact tab_done _ _ | exact flat_done (by intro _; rfl) _ | rfl | assumption) | exact .objV rfl (by first | exact .head | exact .tail .head | exact .tail (.tail .head) | exact .tail (.tail (.tail .head)) | exact .tail (.tail (.tail (.tail .head)))) (by first | exact tab_length _ _ | exact flat_length (by intro _; rfl) _ | exact (flat_length (s := 1) (by intro _; rfl) _).trans (by simp only [*]) | exact (flat_length (s := 2) (by intro _; rfl) _).trans (by simp only [*]) | exact (flat_length (s := 3) (by intro _; rfl) _).trans (by simp only [*]) | exact (flat_length (s := 4) (by intro _; rfl) _).trans (by simp only [*]) | exact (flat_length (s := 5) (by intro _; rfl) _).trans (by simp only [*]) | exact (flat_length (s := 6) (by intro _; rfl) _).trans (by simp only [*]) | rfl) (by first | exact tab_done _ _ | exact flat_done (by intro _; rfl) _ | rfl | assumption) | exact .ownK rfl (by first | exact .head | exact .tail .head | exact .tail (.tail .head) | exact .tail (.tail (.tail .head)) | exact .tail (.tail (.tail (.tail .head)))) (by first | exact tab_done _ _ | exact flat_done (by intro _; rfl) _ | rfl | assumption) | exact .objK rfl (by omega) (by first | exact .head | exact .tail .head | exact .tail (.tail .head) | exact .tail (.tail (.tail .head)) | exact .tail (.tail (.tail (.tail .head)))) (by first | exact tab_length _ _ | exact flat_length (by intro _; rfl) _ | exact (flat_length (s := 1) (by intro _; rfl) _).trans (by simp only [*]) | exact (flat_length (s := 2) (by intro _; rfl) _).trans (by simp only [*]) | exact (flat_length (s := 3) (by intro _; rfl) _).trans (by simp only [*]) | exact (flat_length (s := 4) (by intro _; rfl) _).trans (by simp only [*]) | exact (flat_length (s := 5) (by intro _; rfl) _).trans (by simp only [*]) | exact (flat_length (s := 6) (by intro _; rfl) _).trans (by simp only [*]) | rfl) (by first | exact tab_done _ _ | exact flat_done (by intro _; rfl) _ | rfl | assumption) | exact .ptr (by first | exact .head | exact .tail .head | exact .tail (.tail .head) | exact .tail (.tail (.tail .head)) | exact .tail (.tail (.tail (.tail .head)))) (by first | exact tab_done _ _ | exact flat_done (by intro _; rfl) _ | rfl | assumption)) (.cons (by first | exact .closed rfl | exact .nil | exact .ownV rfl (by first | exact .head | exact .tail .head | exact .tail (.tail .head) | exact .tail (.tail (.tail .head)) | exact .tail (.tail (.tail (.tail .head)))) (by first | exact tab_done _ _ | exact flat_done (by intro _; rfl) _ | rfl | assumption) | exact .objV rfl (by first | exact .head | exact .tail .head | exact .tail (.tail .head) | exact .tail (.tail (.tail .head)) | exact .tail (.tail (.tail (.tail .head)))) (by first | exact tab_length _ _ | exact flat_length (by intro _; rfl) _ | exact (flat_length (s := 1) (by intro _; rfl) _).trans (by simp only [*]) | exact (flat_length (s := 2) (by intro _; rfl) _).trans (by simp only [*]) | exact (flat_length (s := 3) (by intro _; rfl) _).trans (by simp only [*]) | exact (flat_length (s := 4) (by intro _; rfl) _).trans (by simp only [*]) | exact (flat_length (s := 5) (by intro _; rfl) _).trans (by simp only [*]) | exact (flat_length (s := 6) (by intro _; rfl) _).trans (by simp only [*]) | rfl) (by first | exact tab_done _ _ | exact flat_done (by intro _; rfl) _ | rfl | assumption) | exact .ownK rfl (by first | exact .head | exact .tail .head | exact .tail (.tail .head) | exact .tail (.tail (.tail .head)) | exact .tail (.tail (.tail (.tail .head)))) (by first | exact tab_done _ _ | exact flat_done (by intro _; rfl) _ | rfl | assumption) | exact .objK rfl (by omega) (by first | exact .head | exact .tail .head | exact .tail (.tail .head) | exact .tail (.tail (.tail .head)) | exact .tail (.tail (.tail (.tail .head)))) (by first | exact tab_length _ _ | exact flat_length (by intro _; rfl) _ | exact (flat_length (s := 1) (by intro _; rfl) _).trans (by simp only [*]) | exact (flat_length (s := 2) (by intro _; rfl) _).trans (by simp only [*]) | exact (flat_length (s := 3) (by intro _; rfl) _).trans (by simp only [*]) | exact (flat_length (s := 4) (by intro _; rfl) _).trans (by simp only [*]) | exact (flat_length (s := 5) (by intro _; rfl) _).trans (by simp only [*]) | exact (flat_length (s := 6) (by intro _; rfl) _).trans (by simp only [*]) | rfl) (by first | exact tab_done _ _ | exact flat_done (by intro _; rfl) _ | rfl | assumption) | exact .ptr (by first | exact .head | exact .tail .head | exact .tail (.tail .head) | exact .tail (.tail (.tail .head)) | exact .tail (.tail (.tail (.tail .head)))) (by first | exact tab_done _ _ | exact flat_done (by intro _; rfl) _ | rfl | assumption)) .nil))) (part_fn _ _ _ (by omega) (by omega)) ?_)
  refine w_assign rfl rfl ?_
  refine ws_nil ?_
  refine wc_ret ?_
  refine ⟨_, _, _, (.cons (.tmp rfl) .nil), (.cons (by first | exact .closed rfl | exact .nil | exact .ownK rfl (by first | exact .head | exact .tail .head | exact .tail (.tail .head) | exact .tail (.tail (.tail .head)) | exact .tail (.tail (.tail (.tail .head)))) (by first | exact tab_done _ _ | exact flat_done (by intro _; rfl) _ | rfl | assumption) | exact .objK rfl (by omega) (by first | exact .head | exact .tail .head | exact .tail (.tail .head) | exact .tail (.tail (.tail .head)) | exact .tail (.tail (.tail (.tail .head)))) (by first | exact tab_length _ _ | exact flat_length (by intro _; rfl) _ | exact (flat_length (s := 1) (by intro _; rfl) _).trans (by simp only [*]) | exact (flat_length (s := 2) (by intro _; rfl) _).trans (by simp only [*]) | exact (flat_length (s := 3) (by intro _; rfl) _).trans (by simp only [*]) | exact (flat_length (s := 4) (by intro _; rfl) _).trans (by simp only [*]) | exact (flat_length (s := 5) (by intro _; rfl) _).trans (by simp only [*]) | exact (flat_length (s := 6) (by intro _; rfl) _).trans (by simp only [*]) | rfl) (by first | exact tab_done _ _ | exact flat_done (by intro _; rfl) _ | rfl | assumption)) .nil), ?_, ?_⟩
  · first | rfl | simp [doneV]
  rfl

theorem ticks_fn (l : List (Int × Int)) (hl : l.length < 1000000) : PFn C 22 [AL eSp l] (AL eI (ticksTo (tabOf l) 200)) := by
  refine fn_keep rfl rfl (fn := Try.f22) rfl rfl rfl rfl rfl ?_
  refine wc_seq ?_
  refine wc_text ?_
  refine w_assign rfl rfl ?_
  refine ws_nil ?_
  refine wc_seq ?_
  refine wc_text ?_
  refine w_assign rfl rfl ?_
  refine ws_nil ?_
  refine wc_seq ?_
  refine wc_seq ?_
  refine wc_text ?_
  refine w_move rfl rfl ?_
  refine w_call rfl rfl (CallW.mono (of_fn _ (by omega) _) ?_)
  rintro _ _ ⟨_, rfl, o7, rfl, rfl⟩
  simp only [List.cons_append, List.nil_append]
  refine w_move rfl rfl ?_
  refine ws_nil ?_
  refine WC.ownNil 3 1 ?_
  refine wc_block ?_
  refine wc_loop (σ := { p : Nat × AV // p.1 ≤ 200 }) (fun s => [(3, s.1.2), (7, .ptr (some ⟨o7, 0⟩)), (8, .int .i64 (s.1.1 : Nat))]) (fun s => [.own s.1.2 3 1 ((ticksTo (tabOf l) s.1.1).flatMap eI) (ticksTo (tabOf l) s.1.1).length, .obj o7 (.row 55 200 false (tab 200 (tabOf l)))]) (fun s => 200 - s.1.1) ?_ ⟨(0, nilSlice), Nat.zero_le _⟩ (.cons rfl (.cons rfl (.cons rfl (.nil _)))) (Sel.weak (.cons (by first | exact .head | exact .tail .head | exact .tail (.tail .head) | exact .tail (.tail (.tail .head)) | exact .tail (.tail (.tail (.tail .head)))) (.cons (by first | exact .head | exact .tail .head | exact .tail (.tail .head) | exact .tail (.tail (.tail .head)) | exact .tail (.tail (.tail (.tail .head)))) .nil)))
  rintro ⟨⟨k, v⟩, hk⟩
  dsimp only
  have hb := ticksTo_le (tabOf l) k
  refine wc_seq ?_
  refine wc_text ?_
  refine w_lss u3 rfl rfl rfl ?_
  refine ws_nil ?_
  refine wc_seq ?_
  refine wc_cond rfl (fun h3 => ?_) (fun h3 => ?_)
  · first | replace h3 := of_decide_eq_true h3 | replace h3 := of_decide_eq_false h3 | replace h3 := of_decide_eq_false (nb_T h3) | replace h3 := of_decide_eq_true (nb_F h3) | replace h3 := nb_T h3 | replace h3 := nb_F h3 | skip
    first | replace h3 := Int.not_lt.mp h3 | replace h3 := Int.not_le.mp h3 | replace h3 := Decidable.not_not.mp h3 | skip
    refine wc_stay ?_
    refine wc_seq ?_
    refine wc_block ?_
    refine wc_seq ?_
    refine wc_free [0, 0, 2, 6, 1, 31] (by kernel_rfl) (by kernel_rfl) (fun F => ?_)
    refine wr_float F 0 rfl (by kernel_rfl) (.inl (by kernel_rfl)) ?_
    refine w_move rfl rfl ?_
    refine ws_nil ?_
    refine wr_float F 1 rfl (by kernel_rfl) (.inl (by kernel_rfl)) ?_
    refine w_nil rfl rfl rfl ?_
    refine ws_nil ?_
    refine wr_float F 2 rfl (by kernel_rfl) (.inl (by kernel_rfl)) ?_
    first | refine w_aidxC u55 s4 rfl rfl rfl (by omega) ?_ | refine w_aidxP u55 s4 rfl rfl rfl (by omega) ?_
    refine ws_nil ?_
    refine wr_float F 4 rfl (by kernel_rfl) (.inl (by kernel_rfl)) ?_
    refine w_assign rfl rfl ?_
    refine ws_nil ?_
    refine wr_next F (l := [3]) (by kernel_rfl) (by simp) (.cons rfl ?_ (.nil))
    first | refine w_ldC1 a4 rfl rfl (by first | exact tab_getL (by omega) | exact tab_getP (by omega) | exact flat_getI0 (by intro _; rfl) (by assumption) (by first | rfl | omega) (by decide) rfl | exact flat_getI (by intro _; rfl) (by assumption) (by first | rfl | omega) (by decide) rfl | rfl) ?_ | refine w_ldP1 a4 rfl rfl (by first | exact .head | exact .tail .head | exact .tail (.tail .head) | exact .tail (.tail (.tail .head)) | exact .tail (.tail (.tail (.tail .head)))) (by first | exact tab_getP (by omega) | exact flat_getP0 (by intro _; rfl) (by assumption) (by first | rfl | omega) (by decide) rfl | exact flat_getP (by intro _; rfl) (by assumption) (by first | rfl | omega) (by decide) rfl | rfl) ?_
    refine ws_nil ?_
    refine wr_float F 5 rfl (by kernel_rfl) (.inl (by kernel_rfl)) ?_
    refine w_assign rfl rfl ?_
    refine ws_nil ?_
    refine wr_end F (by kernel_rfl) ?_
    simp only [Int.toNat_natCast]
    refine wc_seq ?_
    refine wc_text ?_
    refine w_move rfl rfl ?_
    refine ws_nil ?_
    refine wc_cond rfl (fun h5 => ?_) (fun h5 => ?_)
    · first | replace h5 := of_decide_eq_true h5 | replace h5 := of_decide_eq_false h5 | replace h5 := of_decide_eq_false (nb_T h5) | replace h5 := of_decide_eq_true (nb_F h5) | replace h5 := nb_T h5 | replace h5 := nb_F h5 | skip
      first | replace h5 := Int.not_lt.mp h5 | replace h5 := Int.not_le.mp h5 | replace h5 := Decidable.not_not.mp h5 | skip
      refine wc_text ?_
      refine w_move rfl rfl ?_
      refine w_move rfl rfl ?_
      refine w_buildS (cs := [_]) u30 s3 z3 (by decide) rfl rfl rfl (fun o17 => ?_)
      refine w_app rfl u30 s3 b3 z3 u30 (by simp) rfl rfl rfl (by first | exact .head | exact .tail .head | exact .tail (.tail .head) | exact .tail (.tail (.tail .head)) | exact .tail (.tail (.tail (.tail .head)))) (by first | exact new_obj (by first | exact .head | exact .tail .head | exact .tail (.tail .head) | exact .tail (.tail (.tail .head)) | exact .tail (.tail (.tail (.tail .head)))) rfl rfl | exact new_flat (by intro _; rfl) (by intro _; rfl) | exact new_lst rfl rfl) (by unfold bigBy; omega) (by unfold bigBy; omega) (fun v18 => ?_)
      refine w_assign rfl rfl ?_
      refine ws_nil ?_
      have hs : ticksTo (tabOf l) (k + 1) = ticksTo (tabOf l) k ++ [(k : Int)] := by simp only [ticksTo, h5, if_true]
      refine WC.reown ((ticksTo (tabOf l) (k + 1)).flatMap eI) (ticksTo (tabOf l) (k + 1)).length (by first | exact .head | exact .tail .head | exact .tail (.tail .head) | exact .tail (.tail (.tail .head)) | exact .tail (.tail (.tail (.tail .head)))) (by rw [hs, ← flatI_one_more]) (by rw [hs]; simp) ?_
      refine wc_text ?_
      refine w_add u3 rfl rfl rfl (by omega) ?_
      refine w_move rfl rfl ?_
      refine ws_nil ?_
      exact ⟨⟨(k + 1, _), (by omega : k + 1 ≤ 200)⟩, by simp only; omega, (.cons rfl (.cons rfl (.cons rfl (.nil _)))), (Sel.weak (.cons (by first | exact .head | exact .tail .head | exact .tail (.tail .head) | exact .tail (.tail (.tail .head)) | exact .tail (.tail (.tail (.tail .head)))) (.cons (by first | exact .head | exact .tail .head | exact .tail (.tail .head) | exact .tail (.tail (.tail .head)) | exact .tail (.tail (.tail (.tail .head)))) .nil)))⟩
    · have hs : ticksTo (tabOf l) (k + 1) = ticksTo (tabOf l) k := by simp [ticksTo, h5]
      refine WC.reown ((ticksTo (tabOf l) (k + 1)).flatMap eI) (ticksTo (tabOf l) (k + 1)).length (by first | exact .head | exact .tail .head | exact .tail (.tail .head) | exact .tail (.tail (.tail .head)) | exact .tail (.tail (.tail (.tail .head)))) (by rw [hs]) (by rw [hs]) ?_
      refine wc_stay ?_
      refine wc_text ?_
      refine w_add u3 rfl rfl rfl (by omega) ?_
      refine w_move rfl rfl ?_
      refine ws_nil ?_
      exact ⟨⟨(k + 1, _), (by omega : k + 1 ≤ 200)⟩, by simp only; omega, (.cons rfl (.cons rfl (.cons rfl (.nil _)))), (Sel.weak (.cons (by first | exact .head | exact .tail .head | exact .tail (.tail .head) | exact .tail (.tail (.tail .head)) | exact .tail (.tail (.tail (.tail .head)))) (.cons (by first | exact .head | exact .tail .head | exact .tail (.tail .head) | exact .tail (.tail (.tail .head)) | exact .tail (.tail (.tail (.tail .head)))) .nil)))⟩
  · first | replace h3 := of_decide_eq_true h3 | replace h3 := of_decide_eq_false h3 | replace h3 := of_decide_eq_false (nb_T h3) | replace h3 := of_decide_eq_true (nb_F h3) | replace h3 := nb_T h3 | replace h3 := nb_F h3 | skip
    first | replace h3 := Int.not_lt.mp h3 | replace h3 := Int.not_le.mp h3 | replace h3 := Decidable.not_not.mp h3 | skip
    refine wc_exit ?_
    refine wc_seq ?_
    refine wc_text ?_
    refine w_move rfl rfl ?_
    refine w_assign rfl rfl ?_
    refine ws_nil ?_
    refine wc_ret ?_
    refine ⟨_, _, _, (.cons (.tmp rfl) .nil), (.cons (by first | exact .closed rfl | exact .nil | exact .ownK rfl (by first | exact .head | exact .tail .head | exact .tail (.tail .head) | exact .tail (.tail (.tail .head)) | exact .tail (.tail (.tail (.tail .head)))) (by first | exact tab_done _ _ | exact flat_done (by intro _; rfl) _ | rfl | assumption) | exact .objK rfl (by omega) (by first | exact .head | exact .tail .head | exact .tail (.tail .head) | exact .tail (.tail (.tail .head)) | exact .tail (.tail (.tail (.tail .head)))) (by first | exact tab_length _ _ | exact flat_length (by intro _; rfl) _ | exact (flat_length (s := 1) (by intro _; rfl) _).trans (by simp only [*]) | exact (flat_length (s := 2) (by intro _; rfl) _).trans (by simp only [*]) | exact (flat_length (s := 3) (by intro _; rfl) _).trans (by simp only [*]) | exact (flat_length (s := 4) (by intro _; rfl) _).trans (by simp only [*]) | exact (flat_length (s := 5) (by intro _; rfl) _).trans (by simp only [*]) | exact (flat_length (s := 6) (by intro _; rfl) _).trans (by simp only [*]) | rfl) (by first | exact tab_done _ _ | exact flat_done (by intro _; rfl) _ | rfl | assumption)) .nil), ?_, ?_⟩
    · first | rfl | simp [doneV]
    have hk2 : k = 200 := by simp only at hk; omega
    subst hk2; rfl

theorem has_fn (l : List (Int × Int)) (n : Int) (hl : l.length < 1000000) : PFn C 18 [AL eSp l, .int .i64 n] (.bool (hasL l n)) := by
  refine fn_view rfl rfl (fn := Try.f18) rfl rfl rfl rfl rfl ?_
  refine wc_seq ?_
  refine wc_text ?_
  refine w_assign rfl rfl ?_
  refine ws_nil ?_
  refine wc_seq ?_
  refine wc_seq ?_
  refine wc_text ?_
  refine w_move rfl rfl ?_
  first | refine w_len rfl rfl (len_lst u22) ?_ | refine w_len rfl rfl (len_slice u22) ?_ | refine w_lenO rfl u22 rfl rfl (by first | exact .head | exact .tail .head | exact .tail (.tail .head) | exact .tail (.tail (.tail .head)) | exact .tail (.tail (.tail (.tail .head)))) ?_
  refine w_move rfl rfl ?_
  refine ws_nil ?_
  refine wc_block ?_
  refine wc_loop (σ := { k : Nat // k ≤ l.length ∧ hasL (l.take k) n = false }) (fun s => [(1, .int .i64 n), (7, AL eSp l), (8, .int .i64 l.length), (9, .int .i64 (s.1 : Nat))]) (fun s => []) (fun s => l.length - s.1) ?_ ⟨0, Nat.zero_le _, rfl⟩ (.cons rfl (.cons rfl (.cons rfl (.cons rfl (.nil _))))) (Sel.weak .nil)
  rintro ⟨k, hk, hs⟩
  dsimp only
  refine wc_seq ?_
  refine wc_text ?_
  refine w_lss u3 rfl rfl rfl ?_
  refine ws_nil ?_
  refine wc_seq ?_
  refine wc_cond rfl (fun h2 => ?_) (fun h2 => ?_)
  · first | replace h2 := of_decide_eq_true h2 | replace h2 := of_decide_eq_false h2 | replace h2 := of_decide_eq_false (nb_T h2) | replace h2 := of_decide_eq_true (nb_F h2) | replace h2 := nb_T h2 | replace h2 := nb_F h2 | skip
    first | replace h2 := Int.not_lt.mp h2 | replace h2 := Int.not_le.mp h2 | replace h2 := Decidable.not_not.mp h2 | skip
    refine wc_stay ?_
    refine wc_seq ?_
    refine wc_block ?_
    refine wc_seq ?_
    refine wc_text ?_
    obtain ⟨x, hx⟩ := get_of_lt (l := l) (k := k) (by omega)
    first | refine w_lidx u22 s26 rfl rfl rfl (by omega) ?_ | refine w_slidx u22 s26 rfl rfl rfl (by omega) ?_
    first | refine w_ldC a26 s26 rfl rfl (by first | exact flat_aggs (by intro _; rfl) (by assumption) | exact flat_aggsI (by intro _; rfl) (by assumption) (by first | rfl | omega)) ?_ | refine w_ldP a26 s26 rfl rfl (by first | exact .head | exact .tail .head | exact .tail (.tail .head) | exact .tail (.tail (.tail .head)) | exact .tail (.tail (.tail (.tail .head)))) (by first | exact flat_aggsP (by intro _; rfl) (by assumption) (by first | rfl | omega) | rfl) ?_
    refine w_alloc z26 s26 rfl (fun o6 => ?_)
    refine w_st s26 rfl rfl rfl (by first | exact .head | exact .tail .head | exact .tail (.tail .head) | exact .tail (.tail (.tail .head)) | exact .tail (.tail (.tail (.tail .head)))) rfl rfl (by first | exact tab_setP (by omega) | exact flat_setP (off := 0) (by intro _; rfl) (by assumption) (by first | rfl | omega) rfl | exact flat_setP (off := 1) (by intro _; rfl) (by assumption) (by first | rfl | omega) rfl | rfl) ?_
    refine ws_nil ?_
    refine wc_seq ?_
    refine wc_text ?_
    refine w_move rfl rfl ?_
    first | refine w_faddrC O26_0 rfl rfl ?_ | refine w_faddrP O26_0 rfl rfl ?_
    first | refine w_ldC1 a3 rfl rfl (by first | exact tab_getL (by omega) | exact tab_getP (by omega) | exact flat_getI0 (by intro _; rfl) (by assumption) (by first | rfl | omega) (by decide) rfl | exact flat_getI (by intro _; rfl) (by assumption) (by first | rfl | omega) (by decide) rfl | rfl) ?_ | refine w_ldP1 a3 rfl rfl (by first | exact .head | exact .tail .head | exact .tail (.tail .head) | exact .tail (.tail (.tail .head)) | exact .tail (.tail (.tail (.tail .head)))) (by first | exact tab_getP (by omega) | exact flat_getP0 (by intro _; rfl) (by assumption) (by first | rfl | omega) (by decide) rfl | exact flat_getP (by intro _; rfl) (by assumption) (by first | rfl | omega) (by decide) rfl | rfl) ?_
    refine w_geq u3 rfl rfl rfl ?_
    refine w_move rfl rfl ?_
    refine ws_split (t := 17) rfl (fun g17 => ?_) (fun g17 => ?_)
    · first | replace g17 := of_decide_eq_true g17 | replace g17 := of_decide_eq_false g17 | replace g17 := of_decide_eq_false (nb_T g17) | replace g17 := of_decide_eq_true (nb_F g17) | replace g17 := nb_T g17 | replace g17 := nb_F g17 | skip
      first | replace g17 := Int.not_lt.mp g17 | replace g17 := Int.not_le.mp g17 | replace g17 := Decidable.not_not.mp g17 | skip
      refine ws_on rfl rfl ?_
      refine w_move rfl rfl ?_
      refine ws_on rfl rfl ?_
      first | refine w_faddrC O26_1 rfl rfl ?_ | refine w_faddrP O26_1 rfl rfl ?_
      refine ws_on rfl rfl ?_
      first | refine w_ldC1 a3 rfl rfl (by first | exact tab_getL (by omega) | exact tab_getP (by omega) | exact flat_getI0 (by intro _; rfl) (by assumption) (by first | rfl | omega) (by decide) rfl | exact flat_getI (by intro _; rfl) (by assumption) (by first | rfl | omega) (by decide) rfl | rfl) ?_ | refine w_ldP1 a3 rfl rfl (by first | exact .head | exact .tail .head | exact .tail (.tail .head) | exact .tail (.tail (.tail .head)) | exact .tail (.tail (.tail (.tail .head)))) (by first | exact tab_getP (by omega) | exact flat_getP0 (by intro _; rfl) (by assumption) (by first | rfl | omega) (by decide) rfl | exact flat_getP (by intro _; rfl) (by assumption) (by first | rfl | omega) (by decide) rfl | rfl) ?_
      refine ws_on rfl rfl ?_
      refine w_leq u3 rfl rfl rfl ?_
      first | refine w_pickT rfl rfl rfl ⟨_, rfl⟩ ?_ | refine w_pickF rfl rfl ⟨_, rfl⟩ rfl ?_ | refine w_pick rfl rfl rfl rfl ?_
      refine ws_nil ?_
      refine wc_cond rfl (fun h4 => ?_) (fun h4 => ?_)
      · first | replace h4 := of_decide_eq_true h4 | replace h4 := of_decide_eq_false h4 | replace h4 := of_decide_eq_false (nb_T h4) | replace h4 := of_decide_eq_true (nb_F h4) | replace h4 := nb_T h4 | replace h4 := nb_F h4 | skip
        first | replace h4 := Int.not_lt.mp h4 | replace h4 := Int.not_le.mp h4 | replace h4 := Decidable.not_not.mp h4 | skip
        refine wc_seq ?_
        refine wc_text ?_
        refine w_assign rfl rfl ?_
        refine ws_nil ?_
        refine wc_ret ?_
        refine ⟨_, (.cons (.tmp rfl) .nil), ?_, rfl⟩
        rw [has_mem hx (by omega)]; rfl
      · first | replace h4 := of_decide_eq_true h4 | replace h4 := of_decide_eq_false h4 | replace h4 := of_decide_eq_false (nb_T h4) | replace h4 := of_decide_eq_true (nb_F h4) | replace h4 := nb_T h4 | replace h4 := nb_F h4 | skip
        first | replace h4 := Int.not_lt.mp h4 | replace h4 := Int.not_le.mp h4 | replace h4 := Decidable.not_not.mp h4 | skip
        refine wc_stay ?_
        refine wc_text ?_
        refine w_add u3 rfl rfl rfl (by omega) ?_
        refine w_move rfl rfl ?_
        refine ws_nil ?_
        exact ⟨⟨k + 1, by omega, has_take hx hs (by first | omega | (intro hh; exact absurd hh.1 (by omega)))⟩, by simp only; omega, (.cons rfl (.cons rfl (.cons rfl (.cons rfl (.nil _))))), (Sel.weak .nil)⟩
    · first | replace g17 := of_decide_eq_true g17 | replace g17 := of_decide_eq_false g17 | replace g17 := of_decide_eq_false (nb_T g17) | replace g17 := of_decide_eq_true (nb_F g17) | replace g17 := nb_T g17 | replace g17 := nb_F g17 | skip
      first | replace g17 := Int.not_lt.mp g17 | replace g17 := Int.not_le.mp g17 | replace g17 := Decidable.not_not.mp g17 | skip
      refine ws_off rfl rfl rfl rfl ?_
      refine ws_off rfl rfl rfl rfl ?_
      refine ws_off rfl rfl rfl rfl ?_
      refine ws_off rfl rfl rfl rfl ?_
      first | refine w_pickT rfl rfl rfl ⟨_, rfl⟩ ?_ | refine w_pickF rfl rfl ⟨_, rfl⟩ rfl ?_ | refine w_pick rfl rfl rfl rfl ?_
      refine ws_nil ?_
      refine wc_condF rfl ?_
      refine wc_stay ?_
      refine wc_text ?_
      refine w_add u3 rfl rfl rfl (by omega) ?_
      refine w_move rfl rfl ?_
      refine ws_nil ?_
      exact ⟨⟨k + 1, by omega, has_take hx hs (by first | omega | (intro hh; exact absurd hh.1 (by omega)))⟩, by simp only; omega, (.cons rfl (.cons rfl (.cons rfl (.cons rfl (.nil _))))), (Sel.weak .nil)⟩
  · first | replace h2 := of_decide_eq_true h2 | replace h2 := of_decide_eq_false h2 | replace h2 := of_decide_eq_false (nb_T h2) | replace h2 := of_decide_eq_true (nb_F h2) | replace h2 := nb_T h2 | replace h2 := nb_F h2 | skip
    first | replace h2 := Int.not_lt.mp h2 | replace h2 := Int.not_le.mp h2 | replace h2 := Decidable.not_not.mp h2 | skip
    refine wc_exit ?_
    refine wc_seq ?_
    refine wc_text ?_
    refine w_assign rfl rfl ?_
    refine ws_nil ?_
    refine wc_ret ?_
    refine ⟨_, (.cons (.tmp rfl) .nil), ?_, rfl⟩
    rw [List.take_of_length_le (by omega)] at hs; rw [hs]; rfl

theorem count_fn (l : List (Int × Int)) (hl : l.length < 1000000) : PFn C 12 [AL eSp l] (.int .i64 (countL l)) := by
  refine fn_view rfl rfl (fn := Try.f12) rfl rfl rfl rfl rfl ?_
  refine wc_seq ?_
  refine wc_text ?_
  refine w_assign rfl rfl ?_
  refine ws_nil ?_
  refine wc_seq ?_
  refine wc_text ?_
  refine w_move rfl rfl ?_
  refine w_call rfl rfl (cw_fn rfl rfl (.cons (by first | exact .closed rfl | exact .nil | exact .ownV rfl (by first | exact .head | exact .tail .head | exact .tail (.tail .head) | exact .tail (.tail (.tail .head)) | exact .tail (.tail (.tail (.tail .head)))) (by first | exact tab_done _ _ | exact flat_done (by intro _; rfl) _ | rfl | assumption) | exact .objV rfl (by first | exact .head | exact .tail .head | exact .tail (.tail .head) | exact .tail (.tail (.tail .head)) | exact .tail (.tail (.tail (.tail .head)))) (by first | exact tab_length _ _ | exact flat_length (by intro _; rfl) _ | exact (flat_length (s := 1) (by intro _; rfl) _).trans (by simp only [*]) | exact (flat_length (s := 2) (by intro _; rfl) _).trans (by simp only [*]) | exact (flat_length (s := 3) (by intro _; rfl) _).trans (by simp only [*]) | exact (flat_length (s := 4) (by intro _; rfl) _).trans (by simp only [*]) | exact (flat_length (s := 5) (by intro _; rfl) _).trans (by simp only [*]) | exact (flat_length (s := 6) (by intro _; rfl) _).trans (by simp only [*]) | rfl) (by first | exact tab_done _ _ | exact flat_done (by intro _; rfl) _ | rfl | assumption) | exact .ownK rfl (by first | exact .head | exact .tail .head | exact .tail (.tail .head) | exact .tail (.tail (.tail .head)) | exact .tail (.tail (.tail (.tail .head)))) (by first | exact tab_done _ _ | exact flat_done (by intro _; rfl) _ | rfl | assumption) | exact .objK rfl (by omega) (by first | exact .head | exact .tail .head | exact .tail (.tail .head) | exact .tail (.tail (.tail .head)) | exact .tail (.tail (.tail (.tail .head)))) (by first | exact tab_length _ _ | exact flat_length (by intro _; rfl) _ | exact (flat_length (s := 1) (by intro _; rfl) _).trans (by simp only [*]) | exact (flat_length (s := 2) (by intro _; rfl) _).trans (by simp only [*]) | exact (flat_length (s := 3) (by intro _; rfl) _).trans (by simp only [*]) | exact (flat_length (s := 4) (by intro _; rfl) _).trans (by simp only [*]) | exact (flat_length (s := 5) (by intro _; rfl) _).trans (by simp only [*]) | exact (flat_length (s := 6) (by intro _; rfl) _).trans (by simp only [*]) | rfl) (by first | exact tab_done _ _ | exact flat_done (by intro _; rfl) _ | rfl | assumption) | exact .ptr (by first | exact .head | exact .tail .head | exact .tail (.tail .head) | exact .tail (.tail (.tail .head)) | exact .tail (.tail (.tail (.tail .head)))) (by first | exact tab_done _ _ | exact flat_done (by intro _; rfl) _ | rfl | assumption)) .nil) (ticks_fn _ (by omega)) ?_)
  first | refine w_len rfl rfl (len_lst u30) ?_ | refine w_len rfl rfl (len_slice u30) ?_ | refine w_lenO rfl u30 rfl rfl (by first | exact .head | exact .tail .head | exact .tail (.tail .head) | exact .tail (.tail (.tail .head)) | exact .tail (.tail (.tail (.tail .head)))) ?_
  refine w_assign rfl rfl ?_
  refine ws_nil ?_
  refine wc_ret ?_
  refine ⟨_, (.cons (.tmp rfl) .nil), ?_, rfl⟩
  rfl

theorem sameSp_fn (l m : List (Int × Int)) (hl : l.length < 1000000) : PFn C 10 [AL eSp l, AL eSp m] (.bool (decide (l = m))) := by
  refine fn_view rfl rfl (fn := Try.f10) rfl rfl rfl rfl rfl ?_
  refine wc_seq ?_
  refine wc_text ?_
  refine w_assign rfl rfl ?_
  refine ws_nil ?_
  refine wc_seq ?_
  refine wc_seq ?_
  refine wc_text ?_
  refine w_move rfl rfl ?_
  first | refine w_len rfl rfl (len_lst u22) ?_ | refine w_len rfl rfl (len_slice u22) ?_ | refine w_lenO rfl u22 rfl rfl (by first | exact .head | exact .tail .head | exact .tail (.tail .head) | exact .tail (.tail (.tail .head)) | exact .tail (.tail (.tail (.tail .head)))) ?_
  refine w_move rfl rfl ?_
  first | refine w_len rfl rfl (len_lst u22) ?_ | refine w_len rfl rfl (len_slice u22) ?_ | refine w_lenO rfl u22 rfl rfl (by first | exact .head | exact .tail .head | exact .tail (.tail .head) | exact .tail (.tail (.tail .head)) | exact .tail (.tail (.tail (.tail .head)))) ?_
  refine w_neq u3 rfl rfl rfl ?_
  refine ws_nil ?_
  refine wc_cond rfl (fun h1 => ?_) (fun h1 => ?_)
  · first | replace h1 := of_decide_eq_true h1 | replace h1 := of_decide_eq_false h1 | replace h1 := of_decide_eq_false (nb_T h1) | replace h1 := of_decide_eq_true (nb_F h1) | replace h1 := nb_T h1 | replace h1 := nb_F h1 | skip
    first | replace h1 := Int.not_lt.mp h1 | replace h1 := Int.not_le.mp h1 | replace h1 := Decidable.not_not.mp h1 | skip
    refine wc_seq ?_
    refine wc_text ?_
    refine w_assign rfl rfl ?_
    refine ws_nil ?_
    refine wc_ret ?_
    refine ⟨_, (.cons (.tmp rfl) .nil), ?_, rfl⟩
    congr 1; simp; rintro rfl; exact h1 rfl
  · first | replace h1 := of_decide_eq_true h1 | replace h1 := of_decide_eq_false h1 | replace h1 := of_decide_eq_false (nb_T h1) | replace h1 := of_decide_eq_true (nb_F h1) | replace h1 := nb_T h1 | replace h1 := nb_F h1 | skip
    first | replace h1 := Int.not_lt.mp h1 | replace h1 := Int.not_le.mp h1 | replace h1 := Decidable.not_not.mp h1 | skip
    refine wc_stay ?_
    refine wc_seq ?_
    refine wc_seq ?_
    refine wc_text ?_
    refine w_assign rfl rfl ?_
    refine ws_nil ?_
    refine wc_block ?_
    refine wc_loop (σ := { k : Nat // k ≤ l.length ∧ l.take k = m.take k }) (fun s => [(0, AL eSp l), (1, AL eSp m), (5, .int .i64 (s.1 : Nat))]) (fun s => []) (fun s => l.length - s.1) ?_ ⟨0, Nat.zero_le _, rfl⟩ (.cons rfl (.cons rfl (.cons rfl (.nil _)))) (Sel.weak .nil)
    rintro ⟨k, hk, hs⟩
    dsimp only
    refine wc_seq ?_
    refine wc_seq ?_
    refine wc_text ?_
    refine w_move rfl rfl ?_
    refine w_move rfl rfl ?_
    first | refine w_len rfl rfl (len_lst u22) ?_ | refine w_len rfl rfl (len_slice u22) ?_ | refine w_lenO rfl u22 rfl rfl (by first | exact .head | exact .tail .head | exact .tail (.tail .head) | exact .tail (.tail (.tail .head)) | exact .tail (.tail (.tail (.tail .head)))) ?_
    refine w_lss u3 rfl rfl rfl ?_
    refine ws_nil ?_
    refine wc_cond rfl (fun h4 => ?_) (fun h4 => ?_)
    · first | replace h4 := of_decide_eq_true h4 | replace h4 := of_decide_eq_false h4 | replace h4 := of_decide_eq_false (nb_T h4) | replace h4 := of_decide_eq_true (nb_F h4) | replace h4 := nb_T h4 | replace h4 := nb_F h4 | skip
      first | replace h4 := Int.not_lt.mp h4 | replace h4 := Int.not_le.mp h4 | replace h4 := Decidable.not_not.mp h4 | skip
      refine wc_stay ?_
      refine wc_seq ?_
      refine wc_block ?_
      refine wc_seq ?_
      refine wc_free [0, 0, 3, 7, 0, 0, 48, 112, 255] (by kernel_rfl) (by kernel_rfl) (fun F => ?_)
      obtain ⟨x, hx⟩ := get_of_lt (l := l) (k := k) (by omega)
      obtain ⟨y, hy⟩ := get_of_lt (l := m) (k := k) (by omega)
      refine wr_float F 0 rfl (by kernel_rfl) (.inl (by kernel_rfl)) ?_
      refine w_move rfl rfl ?_
      refine ws_nil ?_
      refine wr_float F 1 rfl (by kernel_rfl) (.inl (by kernel_rfl)) ?_
      refine w_move rfl rfl ?_
      refine ws_nil ?_
      refine wr_float F 2 rfl (by kernel_rfl) (.inl (by kernel_rfl)) ?_
      first | refine w_lidx u22 s26 rfl rfl rfl (by omega) ?_ | refine w_slidx u22 s26 rfl rfl rfl (by omega) ?_
      refine ws_nil ?_
      refine wr_pure F 3 rfl (by kernel_rfl) rfl rfl (pf_ldC a26 s26 rfl (by first | exact flat_aggs (by intro _; rfl) (by assumption) | exact flat_aggsI (by intro _; rfl) (by assumption) (by first | rfl | omega))) (.inl rfl) ?_
      refine wr_float F 4 rfl (by kernel_rfl) (.inl (by kernel_rfl)) ?_
      refine w_move rfl rfl ?_
      refine ws_nil ?_
      refine wr_float F 5 rfl (by kernel_rfl) (.inl (by kernel_rfl)) ?_
      refine w_move rfl rfl ?_
      refine ws_nil ?_
      refine wr_float F 6 rfl (by kernel_rfl) (.inl (by kernel_rfl)) ?_
      first | refine w_lidx u22 s26 rfl rfl rfl (by omega) ?_ | refine w_slidx u22 s26 rfl rfl rfl (by omega) ?_
      refine ws_nil ?_
      refine wr_pure F 7 rfl (by kernel_rfl) rfl rfl (pf_ldC a26 s26 rfl (by first | exact flat_aggs (by intro _; rfl) (by assumption) | exact flat_aggsI (by intro _; rfl) (by assumption) (by first | rfl | omega))) (.inl rfl) ?_
      refine wr_float F 8 rfl (by kernel_rfl) (.inl (by kernel_rfl)) ?_
      refine w_cneq u26 (by simp) (by simp) rfl rfl rfl (cmp_sp _ _ _) ?_
      refine ws_nil ?_
      refine wr_end F (by kernel_rfl) ?_
      refine wc_cond rfl (fun h6 => ?_) (fun h6 => ?_)
      · first | replace h6 := of_decide_eq_true h6 | replace h6 := of_decide_eq_false h6 | replace h6 := of_decide_eq_false (nb_T h6) | replace h6 := of_decide_eq_true (nb_F h6) | replace h6 := nb_T h6 | replace h6 := nb_F h6 | skip
        first | replace h6 := Int.not_lt.mp h6 | replace h6 := Int.not_le.mp h6 | replace h6 := Decidable.not_not.mp h6 | skip
        refine wc_seq ?_
        refine wc_text ?_
        refine w_assign rfl rfl ?_
        refine ws_nil ?_
        refine wc_ret ?_
        refine ⟨_, (.cons (.tmp rfl) .nil), ?_, rfl⟩
        congr 1; simp; rintro rfl; rw [hx] at hy; cases hy; exact h6 rfl
      · first | replace h6 := of_decide_eq_true h6 | replace h6 := of_decide_eq_false h6 | replace h6 := of_decide_eq_false (nb_T h6) | replace h6 := of_decide_eq_true (nb_F h6) | replace h6 := nb_T h6 | replace h6 := nb_F h6 | skip
        first | replace h6 := Int.not_lt.mp h6 | replace h6 := Int.not_le.mp h6 | replace h6 := Decidable.not_not.mp h6 | skip
        refine wc_stay ?_
        refine wc_text ?_
        refine w_move rfl rfl ?_
        refine w_add u3 rfl rfl rfl (by omega) ?_
        refine w_assign rfl rfl ?_
        refine ws_nil ?_
        exact ⟨⟨k + 1, by omega, by rw [take_one hx, take_one hy, hs, h6]⟩, by simp only; omega, (.cons rfl (.cons rfl (.cons rfl (.nil _)))), (Sel.weak .nil)⟩
    · first | replace h4 := of_decide_eq_true h4 | replace h4 := of_decide_eq_false h4 | replace h4 := of_decide_eq_false (nb_T h4) | replace h4 := of_decide_eq_true (nb_F h4) | replace h4 := nb_T h4 | replace h4 := nb_F h4 | skip
      first | replace h4 := Int.not_lt.mp h4 | replace h4 := Int.not_le.mp h4 | replace h4 := Decidable.not_not.mp h4 | skip
      refine wc_exit ?_
      refine wc_seq ?_
      refine wc_text ?_
      refine w_assign rfl rfl ?_
      refine ws_nil ?_
      refine wc_ret ?_
      refine ⟨_, (.cons (.tmp rfl) .nil), ?_, rfl⟩
      congr 1; simp
      have := hs
      rw [List.take_of_length_le (by omega), List.take_of_length_le (by omega)] at this; exact this

theorem sameI_fn (l m : List (Int)) (hl : l.length < 1000000) : PFn C 24 [AL eI l, AL eI m] (.bool (decide (l = m))) := by
  refine fn_view rfl rfl (fn := Try.f24) rfl rfl rfl rfl rfl ?_
  refine wc_seq ?_
  refine wc_text ?_
  refine w_assign rfl rfl ?_
  refine ws_nil ?_
  refine wc_seq ?_
  refine wc_seq ?_
  refine wc_text ?_
  refine w_move rfl rfl ?_
  first | refine w_len rfl rfl (len_lst u30) ?_ | refine w_len rfl rfl (len_slice u30) ?_ | refine w_lenO rfl u30 rfl rfl (by first | exact .head | exact .tail .head | exact .tail (.tail .head) | exact .tail (.tail (.tail .head)) | exact .tail (.tail (.tail (.tail .head)))) ?_
  refine w_move rfl rfl ?_
  first | refine w_len rfl rfl (len_lst u30) ?_ | refine w_len rfl rfl (len_slice u30) ?_ | refine w_lenO rfl u30 rfl rfl (by first | exact .head | exact .tail .head | exact .tail (.tail .head) | exact .tail (.tail (.tail .head)) | exact .tail (.tail (.tail (.tail .head)))) ?_
  refine w_neq u3 rfl rfl rfl ?_
  refine ws_nil ?_
  refine wc_cond rfl (fun h1 => ?_) (fun h1 => ?_)
  · first | replace h1 := of_decide_eq_true h1 | replace h1 := of_decide_eq_false h1 | replace h1 := of_decide_eq_false (nb_T h1) | replace h1 := of_decide_eq_true (nb_F h1) | replace h1 := nb_T h1 | replace h1 := nb_F h1 | skip
    first | replace h1 := Int.not_lt.mp h1 | replace h1 := Int.not_le.mp h1 | replace h1 := Decidable.not_not.mp h1 | skip
    refine wc_seq ?_
    refine wc_text ?_
    refine w_assign rfl rfl ?_
    refine ws_nil ?_
    refine wc_ret ?_
    refine ⟨_, (.cons (.tmp rfl) .nil), ?_, rfl⟩
    congr 1; simp; rintro rfl; exact h1 rfl
  · first | replace h1 := of_decide_eq_true h1 | replace h1 := of_decide_eq_false h1 | replace h1 := of_decide_eq_false (nb_T h1) | replace h1 := of_decide_eq_true (nb_F h1) | replace h1 := nb_T h1 | replace h1 := nb_F h1 | skip
    first | replace h1 := Int.not_lt.mp h1 | replace h1 := Int.not_le.mp h1 | replace h1 := Decidable.not_not.mp h1 | skip
    refine wc_stay ?_
    refine wc_seq ?_
    refine wc_seq ?_
    refine wc_text ?_
    refine w_assign rfl rfl ?_
    refine ws_nil ?_
    refine wc_block ?_
    refine wc_loop (σ := { k : Nat // k ≤ l.length ∧ l.take k = m.take k }) (fun s => [(0, AL eI l), (1, AL eI m), (5, .int .i64 (s.1 : Nat))]) (fun s => []) (fun s => l.length - s.1) ?_ ⟨0, Nat.zero_le _, rfl⟩ (.cons rfl (.cons rfl (.cons rfl (.nil _)))) (Sel.weak .nil)
    rintro ⟨k, hk, hs⟩
    dsimp only
    refine wc_seq ?_
    refine wc_seq ?_
    refine wc_text ?_
    refine w_move rfl rfl ?_
    refine w_move rfl rfl ?_
    first | refine w_len rfl rfl (len_lst u30) ?_ | refine w_len rfl rfl (len_slice u30) ?_ | refine w_lenO rfl u30 rfl rfl (by first | exact .head | exact .tail .head | exact .tail (.tail .head) | exact .tail (.tail (.tail .head)) | exact .tail (.tail (.tail (.tail .head)))) ?_
    refine w_lss u3 rfl rfl rfl ?_
    refine ws_nil ?_
    refine wc_cond rfl (fun h4 => ?_) (fun h4 => ?_)
    · first | replace h4 := of_decide_eq_true h4 | replace h4 := of_decide_eq_false h4 | replace h4 := of_decide_eq_false (nb_T h4) | replace h4 := of_decide_eq_true (nb_F h4) | replace h4 := nb_T h4 | replace h4 := nb_F h4 | skip
      first | replace h4 := Int.not_lt.mp h4 | replace h4 := Int.not_le.mp h4 | replace h4 := Decidable.not_not.mp h4 | skip
      refine wc_stay ?_
      refine wc_seq ?_
      refine wc_block ?_
      refine wc_seq ?_
      refine wc_free [0, 0, 3, 7, 0, 0, 48, 112, 255] (by kernel_rfl) (by kernel_rfl) (fun F => ?_)
      obtain ⟨x, hx⟩ := get_of_lt (l := l) (k := k) (by omega)
      obtain ⟨y, hy⟩ := get_of_lt (l := m) (k := k) (by omega)
      refine wr_float F 0 rfl (by kernel_rfl) (.inl (by kernel_rfl)) ?_
      refine w_move rfl rfl ?_
      refine ws_nil ?_
      refine wr_float F 1 rfl (by kernel_rfl) (.inl (by kernel_rfl)) ?_
      refine w_move rfl rfl ?_
      refine ws_nil ?_
      refine wr_float F 2 rfl (by kernel_rfl) (.inl (by kernel_rfl)) ?_
      first | refine w_lidx u30 s3 rfl rfl rfl (by omega) ?_ | refine w_slidx u30 s3 rfl rfl rfl (by omega) ?_
      refine ws_nil ?_
      refine wr_pure F 3 rfl (by kernel_rfl) rfl rfl (pf_ldC1 a3 rfl (by first | exact tab_getL (by omega) | exact tab_getP (by omega) | exact flat_getI0 (by intro _; rfl) (by assumption) (by first | rfl | omega) (by decide) rfl | exact flat_getI (by intro _; rfl) (by assumption) (by first | rfl | omega) (by decide) rfl | rfl)) (.inl rfl) ?_
      refine wr_float F 4 rfl (by kernel_rfl) (.inl (by kernel_rfl)) ?_
      refine w_move rfl rfl ?_
      refine ws_nil ?_
      refine wr_float F 5 rfl (by kernel_rfl) (.inl (by kernel_rfl)) ?_
      refine w_move rfl rfl ?_
      refine ws_nil ?_
      refine wr_float F 6 rfl (by kernel_rfl) (.inl (by kernel_rfl)) ?_
      first | refine w_lidx u30 s3 rfl rfl rfl (by omega) ?_ | refine w_slidx u30 s3 rfl rfl rfl (by omega) ?_
      refine ws_nil ?_
      refine wr_pure F 7 rfl (by kernel_rfl) rfl rfl (pf_ldC1 a3 rfl (by first | exact tab_getL (by omega) | exact tab_getP (by omega) | exact flat_getI0 (by intro _; rfl) (by assumption) (by first | rfl | omega) (by decide) rfl | exact flat_getI (by intro _; rfl) (by assumption) (by first | rfl | omega) (by decide) rfl | rfl)) (.inl rfl) ?_
      refine wr_float F 8 rfl (by kernel_rfl) (.inl (by kernel_rfl)) ?_
      refine w_neq u3 rfl rfl rfl ?_
      refine ws_nil ?_
      refine wr_end F (by kernel_rfl) ?_
      refine wc_cond rfl (fun h6 => ?_) (fun h6 => ?_)
      · first | replace h6 := of_decide_eq_true h6 | replace h6 := of_decide_eq_false h6 | replace h6 := of_decide_eq_false (nb_T h6) | replace h6 := of_decide_eq_true (nb_F h6) | replace h6 := nb_T h6 | replace h6 := nb_F h6 | skip
        first | replace h6 := Int.not_lt.mp h6 | replace h6 := Int.not_le.mp h6 | replace h6 := Decidable.not_not.mp h6 | skip
        refine wc_seq ?_
        refine wc_text ?_
        refine w_assign rfl rfl ?_
        refine ws_nil ?_
        refine wc_ret ?_
        refine ⟨_, (.cons (.tmp rfl) .nil), ?_, rfl⟩
        congr 1; simp; rintro rfl; rw [hx] at hy; cases hy; exact h6 rfl
      · first | replace h6 := of_decide_eq_true h6 | replace h6 := of_decide_eq_false h6 | replace h6 := of_decide_eq_false (nb_T h6) | replace h6 := of_decide_eq_true (nb_F h6) | replace h6 := nb_T h6 | replace h6 := nb_F h6 | skip
        first | replace h6 := Int.not_lt.mp h6 | replace h6 := Int.not_le.mp h6 | replace h6 := Decidable.not_not.mp h6 | skip
        refine wc_stay ?_
        refine wc_text ?_
        refine w_move rfl rfl ?_
        refine w_add u3 rfl rfl rfl (by omega) ?_
        refine w_assign rfl rfl ?_
        refine ws_nil ?_
        exact ⟨⟨k + 1, by omega, by rw [take_one hx, take_one hy, hs, h6]⟩, by simp only; omega, (.cons rfl (.cons rfl (.cons rfl (.nil _)))), (Sel.weak .nil)⟩
    · first | replace h4 := of_decide_eq_true h4 | replace h4 := of_decide_eq_false h4 | replace h4 := of_decide_eq_false (nb_T h4) | replace h4 := of_decide_eq_true (nb_F h4) | replace h4 := nb_T h4 | replace h4 := nb_F h4 | skip
      first | replace h4 := Int.not_lt.mp h4 | replace h4 := Int.not_le.mp h4 | replace h4 := Decidable.not_not.mp h4 | skip
      refine wc_exit ?_
      refine wc_seq ?_
      refine wc_text ?_
      refine w_assign rfl rfl ?_
      refine ws_nil ?_
      refine wc_ret ?_
      refine ⟨_, (.cons (.tmp rfl) .nil), ?_, rfl⟩
      congr 1; simp
      have := hs
      rw [List.take_of_length_le (by omega), List.take_of_length_le (by omega)] at this; exact this

theorem within_fn (n lo hi : Int) (h0 : 0 ≤ lo) (h1 : lo ≤ hi) (h2 : hi ≤ 1000000000) : PFn C 17 [.int .i64 n, .int .i64 lo, .int .i64 hi] (.int .i64 (withinV n lo hi)) := by
  refine fn_view rfl rfl (fn := Try.f17) rfl rfl rfl rfl rfl ?_
  have hlo : -(hi - lo + 1) < n.tmod (hi - lo + 1) := Int.lt_tmod_of_pos n (show 0 < hi - lo + 1 by omega)
  have hhi : n.tmod (hi - lo + 1) < hi - lo + 1 := Int.tmod_lt_of_pos n (by omega)
  refine wc_seq ?_
  refine wc_text ?_
  refine w_assign rfl rfl ?_
  refine ws_nil ?_
  refine wc_seq ?_
  refine wc_text ?_
  refine w_move rfl rfl ?_
  refine w_move rfl rfl ?_
  refine w_move rfl rfl ?_
  refine w_sub u3 rfl rfl rfl (by omega) ?_
  refine w_add u3 rfl rfl rfl (by omega) ?_
  refine w_rem u3 rfl rfl rfl (by omega) ?_
  refine w_assign rfl rfl ?_
  refine ws_nil ?_
  refine wc_seq ?_
  refine wc_seq ?_
  refine wc_text ?_
  refine w_move rfl rfl ?_
  refine w_lss u3 rfl rfl rfl ?_
  refine ws_nil ?_
  refine wc_cond rfl (fun h2 => ?_) (fun h2 => ?_)
  · first | replace h2 := of_decide_eq_true h2 | replace h2 := of_decide_eq_false h2 | replace h2 := of_decide_eq_false (nb_T h2) | replace h2 := of_decide_eq_true (nb_F h2) | replace h2 := nb_T h2 | replace h2 := nb_F h2 | skip
    first | replace h2 := Int.not_lt.mp h2 | replace h2 := Int.not_le.mp h2 | replace h2 := Decidable.not_not.mp h2 | skip
    refine wc_text ?_
    refine w_move rfl rfl ?_
    refine w_move rfl rfl ?_
    refine w_add u3 rfl rfl rfl (by omega) ?_
    refine w_move rfl rfl ?_
    refine w_sub u3 rfl rfl rfl (by omega) ?_
    refine w_add u3 rfl rfl rfl (by omega) ?_
    refine w_assign rfl rfl ?_
    refine ws_nil ?_
    refine wc_seq ?_
    refine wc_text ?_
    refine w_move rfl rfl ?_
    refine w_move rfl rfl ?_
    refine w_add u3 rfl rfl rfl (by omega) ?_
    refine w_assign rfl rfl ?_
    refine ws_nil ?_
    refine wc_ret ?_
    refine ⟨_, (.cons (.tmp rfl) .nil), ?_, rfl⟩
    refine congrArg (AV.int .i64) ?_; unfold withinV; first | rw [if_pos h2] | rw [if_neg (by omega)]
  · first | replace h2 := of_decide_eq_true h2 | replace h2 := of_decide_eq_false h2 | replace h2 := of_decide_eq_false (nb_T h2) | replace h2 := of_decide_eq_true (nb_F h2) | replace h2 := nb_T h2 | replace h2 := nb_F h2 | skip
    first | replace h2 := Int.not_lt.mp h2 | replace h2 := Int.not_le.mp h2 | replace h2 := Decidable.not_not.mp h2 | skip
    refine wc_stay ?_
    refine wc_seq ?_
    refine wc_text ?_
    refine w_move rfl rfl ?_
    refine w_move rfl rfl ?_
    refine w_add u3 rfl rfl rfl (by omega) ?_
    refine w_assign rfl rfl ?_
    refine ws_nil ?_
    refine wc_ret ?_
    refine ⟨_, (.cons (.tmp rfl) .nil), ?_, rfl⟩
    refine congrArg (AV.int .i64) ?_; unfold withinV; first | rw [if_pos h2] | rw [if_neg (by omega)]
end Go.Proofs.Ytlejcjgbkbmdmaa.sp
