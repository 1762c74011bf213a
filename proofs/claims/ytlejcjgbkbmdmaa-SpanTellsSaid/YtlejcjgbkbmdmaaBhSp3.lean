/-
  Package span, walked by facts (printed by gen_sp.py).
-/
import Derived.Test.YtlejcjgbkbmdmaaBhSp2
namespace Go.Proofs.Ytlejcjgbkbmdmaa.sp
open Go Go.Proofs Go.Proofs.Ytlejcjgbkbmdmaa.BH Go.Proofs.Ytlejcjgbkbmdmaa.BH.Sp
set_option maxRecDepth 100000
theorem tells_fn (a b r : List Int) (n : Int) (ha : a.length ≤ 9223372036854775807) (hb : b.length ≤ 9223372036854775807) : PFn C 6 [AL eI a, AL eI b, AL eI r, .int .i64 n] (.bool true) := by
  refine fn_view rfl rfl (fn := Try.f6) rfl rfl rfl rfl rfl ?_
  refine wc_seq ?_
  refine wc_text ?_
  refine w_assign rfl rfl ?_
  refine ws_nil ?_
  refine wc_seq ?_
  refine wc_text ?_
  refine w_move rfl rfl ?_
  refine w_call rfl rfl (cw_fn rfl rfl (.cons (by first | exact .closed rfl | exact .nil | exact .ownV rfl (by first | exact .head | exact .tail .head | exact .tail (.tail .head) | exact .tail (.tail (.tail .head)) | exact .tail (.tail (.tail (.tail .head)))) (by first | exact tab_done _ _ | exact flat_done (by intro _; rfl) _ | rfl | assumption) | exact .objV rfl (by first | exact .head | exact .tail .head | exact .tail (.tail .head) | exact .tail (.tail (.tail .head)) | exact .tail (.tail (.tail (.tail .head)))) (by first | exact tab_length _ _ | exact flat_length (by intro _; rfl) _ | exact (flat_length (s := 1) (by intro _; rfl) _).trans (by simp only [*]) | exact (flat_length (s := 2) (by intro _; rfl) _).trans (by simp only [*]) | exact (flat_length (s := 3) (by intro _; rfl) _).trans (by simp only [*]) | exact (flat_length (s := 4) (by intro _; rfl) _).trans (by simp only [*]) | exact (flat_length (s := 5) (by intro _; rfl) _).trans (by simp only [*]) | exact (flat_length (s := 6) (by intro _; rfl) _).trans (by simp only [*]) | rfl) (by first | exact tab_done _ _ | exact flat_done (by intro _; rfl) _ | rfl | assumption) | exact .ownK rfl (by first | exact .head | exact .tail .head | exact .tail (.tail .head) | exact .tail (.tail (.tail .head)) | exact .tail (.tail (.tail (.tail .head)))) (by first | exact tab_done _ _ | exact flat_done (by intro _; rfl) _ | rfl | assumption) | exact .objK rfl (by omega) (by first | exact .head | exact .tail .head | exact .tail (.tail .head) | exact .tail (.tail (.tail .head)) | exact .tail (.tail (.tail (.tail .head)))) (by first | exact tab_length _ _ | exact flat_length (by intro _; rfl) _ | exact (flat_length (s := 1) (by intro _; rfl) _).trans (by simp only [*]) | exact (flat_length (s := 2) (by intro _; rfl) _).trans (by simp only [*]) | exact (flat_length (s := 3) (by intro _; rfl) _).trans (by simp only [*]) | exact (flat_length (s := 4) (by intro _; rfl) _).trans (by simp only [*]) | exact (flat_length (s := 5) (by intro _; rfl) _).trans (by simp only [*]) | exact (flat_length (s := 6) (by intro _; rfl) _).trans (by simp only [*]) | rfl) (by first | exact tab_done _ _ | exact flat_done (by intro _; rfl) _ | rfl | assumption) | exact .ptr (by first | exact .head | exact .tail .head | exact .tail (.tail .head) | exact .tail (.tail (.tail .head)) | exact .tail (.tail (.tail (.tail .head)))) (by first | exact tab_done _ _ | exact flat_done (by intro _; rfl) _ | rfl | assumption)) .nil) (flags_fn _ (by omega)) ?_)
  refine w_move rfl rfl ?_
  refine w_extract rfl rfl rfl ?_
  refine w_extract rfl rfl rfl ?_
  refine w_assign rfl rfl ?_
  refine w_assign rfl rfl ?_
  refine ws_nil ?_
  refine wc_seq ?_
  refine wc_text ?_
  refine w_move rfl rfl ?_
  refine w_call rfl rfl (cw_fn rfl rfl (.cons (by first | exact .closed rfl | exact .nil | exact .ownV rfl (by first | exact .head | exact .tail .head | exact .tail (.tail .head) | exact .tail (.tail (.tail .head)) | exact .tail (.tail (.tail (.tail .head)))) (by first | exact tab_done _ _ | exact flat_done (by intro _; rfl) _ | rfl | assumption) | exact .objV rfl (by first | exact .head | exact .tail .head | exact .tail (.tail .head) | exact .tail (.tail (.tail .head)) | exact .tail (.tail (.tail (.tail .head)))) (by first | exact tab_length _ _ | exact flat_length (by intro _; rfl) _ | exact (flat_length (s := 1) (by intro _; rfl) _).trans (by simp only [*]) | exact (flat_length (s := 2) (by intro _; rfl) _).trans (by simp only [*]) | exact (flat_length (s := 3) (by intro _; rfl) _).trans (by simp only [*]) | exact (flat_length (s := 4) (by intro _; rfl) _).trans (by simp only [*]) | exact (flat_length (s := 5) (by intro _; rfl) _).trans (by simp only [*]) | exact (flat_length (s := 6) (by intro _; rfl) _).trans (by simp only [*]) | rfl) (by first | exact tab_done _ _ | exact flat_done (by intro _; rfl) _ | rfl | assumption) | exact .ownK rfl (by first | exact .head | exact .tail .head | exact .tail (.tail .head) | exact .tail (.tail (.tail .head)) | exact .tail (.tail (.tail (.tail .head)))) (by first | exact tab_done _ _ | exact flat_done (by intro _; rfl) _ | rfl | assumption) | exact .objK rfl (by omega) (by first | exact .head | exact .tail .head | exact .tail (.tail .head) | exact .tail (.tail (.tail .head)) | exact .tail (.tail (.tail (.tail .head)))) (by first | exact tab_length _ _ | exact flat_length (by intro _; rfl) _ | exact (flat_length (s := 1) (by intro _; rfl) _).trans (by simp only [*]) | exact (flat_length (s := 2) (by intro _; rfl) _).trans (by simp only [*]) | exact (flat_length (s := 3) (by intro _; rfl) _).trans (by simp only [*]) | exact (flat_length (s := 4) (by intro _; rfl) _).trans (by simp only [*]) | exact (flat_length (s := 5) (by intro _; rfl) _).trans (by simp only [*]) | exact (flat_length (s := 6) (by intro _; rfl) _).trans (by simp only [*]) | rfl) (by first | exact tab_done _ _ | exact flat_done (by intro _; rfl) _ | rfl | assumption) | exact .ptr (by first | exact .head | exact .tail .head | exact .tail (.tail .head) | exact .tail (.tail (.tail .head)) | exact .tail (.tail (.tail (.tail .head)))) (by first | exact tab_done _ _ | exact flat_done (by intro _; rfl) _ | rfl | assumption)) .nil) (flags_fn _ (by omega)) ?_)
  refine w_move rfl rfl ?_
  refine w_extract rfl rfl rfl ?_
  refine w_extract rfl rfl rfl ?_
  refine w_assign rfl rfl ?_
  refine w_assign rfl rfl ?_
  refine ws_nil ?_
  rw [spans60 flags_out, spans60 flags_out]
  have hX := @flags_out a
  have hY := @flags_out b
  generalize flagsT a = X at hX ⊢
  generalize flagsT b = Y at hY ⊢
  have lX := S_len X
  have lY := S_len Y
  refine wc_seq ?_
  refine wc_cutX (σ := Nat × Nat × Nat) (fun s => [(2, AL eI r), (3, .int .i64 n), (9, .lst (tab 60 X) 60 false true), (10, AL eSp (S X)), (11, .lst (tab 60 Y) 60 false true), (12, AL eSp (S Y)), (13, .slice (some ⟨s.1, 0⟩) 60 (.exact 60)), (14, .slice (some ⟨s.2.1, 0⟩) 60 (.exact 60)), (15, .slice (some ⟨s.2.2, 0⟩) 60 (.exact 60))]) (fun s => [.obj s.1 (.row 4 1 false (repl 60 [.bool false])), .obj s.2.1 (.row 4 1 false (repl 60 [.bool false])), .obj s.2.2 (.row 4 1 false (repl 60 [.bool false]))]) ?_ ?_
  · skip
    refine wc_free [0, 0, 0, 1, 11, 31] (by kernel_rfl) (by kernel_rfl) (fun F => ?_)
    refine wr_next F (l := [0, 1, 2]) (by kernel_rfl) (by simp) (.cons rfl ?_ (.cons rfl ?_ (.cons rfl ?_ (.nil))))
    · skip
      refine w_makeS (l := 60) (c := 60) u31 b4 s4 z4 rfl rfl rfl (by omega) (by decide) (by decide) (fun o34 => ?_)
      refine ws_nil ?_
      refine wr_float F 3 rfl (by kernel_rfl) (.inl (by kernel_rfl)) ?_
      refine w_assign rfl rfl ?_
      refine ws_nil ?_
      refine wr_next F (l := [1, 2]) (by kernel_rfl) (by simp) (.cons rfl ?_ (.cons rfl ?_ (.nil)))
      · skip
        refine w_makeS (l := 60) (c := 60) u31 b4 s4 z4 rfl rfl rfl (by omega) (by decide) (by decide) (fun o35 => ?_)
        refine ws_nil ?_
        refine wr_float F 4 rfl (by kernel_rfl) (.inl (by kernel_rfl)) ?_
        refine w_assign rfl rfl ?_
        refine ws_nil ?_
        refine wr_next F (l := [2]) (by kernel_rfl) (by simp) (.cons rfl ?_ (.nil))
        refine w_makeS (l := 60) (c := 60) u31 b4 s4 z4 rfl rfl rfl (by omega) (by decide) (by decide) (fun o36 => ?_)
        refine ws_nil ?_
        refine wr_float F 5 rfl (by kernel_rfl) (.inl (by kernel_rfl)) ?_
        refine w_assign rfl rfl ?_
        refine ws_nil ?_
        refine wr_end F (by kernel_rfl) ?_
        exact ⟨rfl, (o34, o35, o36), (.cons rfl (.cons rfl (.cons rfl (.cons rfl (.cons rfl (.cons rfl (.cons rfl (.cons rfl (.cons rfl (.nil _)))))))))), (Sel.weak (.cons (by first | exact .head | exact .tail .head | exact .tail (.tail .head) | exact .tail (.tail (.tail .head)) | exact .tail (.tail (.tail (.tail .head)))) (.cons (by first | exact .head | exact .tail .head | exact .tail (.tail .head) | exact .tail (.tail (.tail .head)) | exact .tail (.tail (.tail (.tail .head)))) (.cons (by first | exact .head | exact .tail .head | exact .tail (.tail .head) | exact .tail (.tail (.tail .head)) | exact .tail (.tail (.tail (.tail .head)))) .nil))))⟩
      · skip
        refine w_makeS (l := 60) (c := 60) u31 b4 s4 z4 rfl rfl rfl (by omega) (by decide) (by decide) (fun o36 => ?_)
        refine ws_nil ?_
        refine wr_next F (l := [1]) (by kernel_rfl) (by simp) (.cons rfl ?_ (.nil))
        refine w_makeS (l := 60) (c := 60) u31 b4 s4 z4 rfl rfl rfl (by omega) (by decide) (by decide) (fun o35 => ?_)
        refine ws_nil ?_
        refine wr_float F 4 rfl (by kernel_rfl) (.inl (by kernel_rfl)) ?_
        refine w_assign rfl rfl ?_
        refine ws_nil ?_
        refine wr_float F 5 rfl (by kernel_rfl) (.inl (by kernel_rfl)) ?_
        refine w_assign rfl rfl ?_
        refine ws_nil ?_
        refine wr_end F (by kernel_rfl) ?_
        exact ⟨rfl, (o34, o35, o36), (.cons rfl (.cons rfl (.cons rfl (.cons rfl (.cons rfl (.cons rfl (.cons rfl (.cons rfl (.cons rfl (.nil _)))))))))), (Sel.weak (.cons (by first | exact .head | exact .tail .head | exact .tail (.tail .head) | exact .tail (.tail (.tail .head)) | exact .tail (.tail (.tail (.tail .head)))) (.cons (by first | exact .head | exact .tail .head | exact .tail (.tail .head) | exact .tail (.tail (.tail .head)) | exact .tail (.tail (.tail (.tail .head)))) (.cons (by first | exact .head | exact .tail .head | exact .tail (.tail .head) | exact .tail (.tail (.tail .head)) | exact .tail (.tail (.tail (.tail .head)))) .nil))))⟩
    · skip
      refine w_makeS (l := 60) (c := 60) u31 b4 s4 z4 rfl rfl rfl (by omega) (by decide) (by decide) (fun o35 => ?_)
      refine ws_nil ?_
      refine wr_next F (l := [0, 2]) (by kernel_rfl) (by simp) (.cons rfl ?_ (.cons rfl ?_ (.nil)))
      · skip
        refine w_makeS (l := 60) (c := 60) u31 b4 s4 z4 rfl rfl rfl (by omega) (by decide) (by decide) (fun o34 => ?_)
        refine ws_nil ?_
        refine wr_float F 3 rfl (by kernel_rfl) (.inl (by kernel_rfl)) ?_
        refine w_assign rfl rfl ?_
        refine ws_nil ?_
        refine wr_float F 4 rfl (by kernel_rfl) (.inl (by kernel_rfl)) ?_
        refine w_assign rfl rfl ?_
        refine ws_nil ?_
        refine wr_next F (l := [2]) (by kernel_rfl) (by simp) (.cons rfl ?_ (.nil))
        refine w_makeS (l := 60) (c := 60) u31 b4 s4 z4 rfl rfl rfl (by omega) (by decide) (by decide) (fun o36 => ?_)
        refine ws_nil ?_
        refine wr_float F 5 rfl (by kernel_rfl) (.inl (by kernel_rfl)) ?_
        refine w_assign rfl rfl ?_
        refine ws_nil ?_
        refine wr_end F (by kernel_rfl) ?_
        exact ⟨rfl, (o34, o35, o36), (.cons rfl (.cons rfl (.cons rfl (.cons rfl (.cons rfl (.cons rfl (.cons rfl (.cons rfl (.cons rfl (.nil _)))))))))), (Sel.weak (.cons (by first | exact .head | exact .tail .head | exact .tail (.tail .head) | exact .tail (.tail (.tail .head)) | exact .tail (.tail (.tail (.tail .head)))) (.cons (by first | exact .head | exact .tail .head | exact .tail (.tail .head) | exact .tail (.tail (.tail .head)) | exact .tail (.tail (.tail (.tail .head)))) (.cons (by first | exact .head | exact .tail .head | exact .tail (.tail .head) | exact .tail (.tail (.tail .head)) | exact .tail (.tail (.tail (.tail .head)))) .nil))))⟩
      · skip
        refine w_makeS (l := 60) (c := 60) u31 b4 s4 z4 rfl rfl rfl (by omega) (by decide) (by decide) (fun o36 => ?_)
        refine ws_nil ?_
        refine wr_next F (l := [0]) (by kernel_rfl) (by simp) (.cons rfl ?_ (.nil))
        refine w_makeS (l := 60) (c := 60) u31 b4 s4 z4 rfl rfl rfl (by omega) (by decide) (by decide) (fun o34 => ?_)
        refine ws_nil ?_
        refine wr_float F 3 rfl (by kernel_rfl) (.inl (by kernel_rfl)) ?_
        refine w_assign rfl rfl ?_
        refine ws_nil ?_
        refine wr_float F 4 rfl (by kernel_rfl) (.inl (by kernel_rfl)) ?_
        refine w_assign rfl rfl ?_
        refine ws_nil ?_
        refine wr_float F 5 rfl (by kernel_rfl) (.inl (by kernel_rfl)) ?_
        refine w_assign rfl rfl ?_
        refine ws_nil ?_
        refine wr_end F (by kernel_rfl) ?_
        exact ⟨rfl, (o34, o35, o36), (.cons rfl (.cons rfl (.cons rfl (.cons rfl (.cons rfl (.cons rfl (.cons rfl (.cons rfl (.cons rfl (.nil _)))))))))), (Sel.weak (.cons (by first | exact .head | exact .tail .head | exact .tail (.tail .head) | exact .tail (.tail (.tail .head)) | exact .tail (.tail (.tail (.tail .head)))) (.cons (by first | exact .head | exact .tail .head | exact .tail (.tail .head) | exact .tail (.tail (.tail .head)) | exact .tail (.tail (.tail (.tail .head)))) (.cons (by first | exact .head | exact .tail .head | exact .tail (.tail .head) | exact .tail (.tail (.tail .head)) | exact .tail (.tail (.tail (.tail .head)))) .nil))))⟩
    · skip
      refine w_makeS (l := 60) (c := 60) u31 b4 s4 z4 rfl rfl rfl (by omega) (by decide) (by decide) (fun o36 => ?_)
      refine ws_nil ?_
      refine wr_next F (l := [0, 1]) (by kernel_rfl) (by simp) (.cons rfl ?_ (.cons rfl ?_ (.nil)))
      · skip
        refine w_makeS (l := 60) (c := 60) u31 b4 s4 z4 rfl rfl rfl (by omega) (by decide) (by decide) (fun o34 => ?_)
        refine ws_nil ?_
        refine wr_float F 3 rfl (by kernel_rfl) (.inl (by kernel_rfl)) ?_
        refine w_assign rfl rfl ?_
        refine ws_nil ?_
        refine wr_next F (l := [1]) (by kernel_rfl) (by simp) (.cons rfl ?_ (.nil))
        refine w_makeS (l := 60) (c := 60) u31 b4 s4 z4 rfl rfl rfl (by omega) (by decide) (by decide) (fun o35 => ?_)
        refine ws_nil ?_
        refine wr_float F 4 rfl (by kernel_rfl) (.inl (by kernel_rfl)) ?_
        refine w_assign rfl rfl ?_
        refine ws_nil ?_
        refine wr_float F 5 rfl (by kernel_rfl) (.inl (by kernel_rfl)) ?_
        refine w_assign rfl rfl ?_
        refine ws_nil ?_
        refine wr_end F (by kernel_rfl) ?_
        exact ⟨rfl, (o34, o35, o36), (.cons rfl (.cons rfl (.cons rfl (.cons rfl (.cons rfl (.cons rfl (.cons rfl (.cons rfl (.cons rfl (.nil _)))))))))), (Sel.weak (.cons (by first | exact .head | exact .tail .head | exact .tail (.tail .head) | exact .tail (.tail (.tail .head)) | exact .tail (.tail (.tail (.tail .head)))) (.cons (by first | exact .head | exact .tail .head | exact .tail (.tail .head) | exact .tail (.tail (.tail .head)) | exact .tail (.tail (.tail (.tail .head)))) (.cons (by first | exact .head | exact .tail .head | exact .tail (.tail .head) | exact .tail (.tail (.tail .head)) | exact .tail (.tail (.tail (.tail .head)))) .nil))))⟩
      · skip
        refine w_makeS (l := 60) (c := 60) u31 b4 s4 z4 rfl rfl rfl (by omega) (by decide) (by decide) (fun o35 => ?_)
        refine ws_nil ?_
        refine wr_next F (l := [0]) (by kernel_rfl) (by simp) (.cons rfl ?_ (.nil))
        refine w_makeS (l := 60) (c := 60) u31 b4 s4 z4 rfl rfl rfl (by omega) (by decide) (by decide) (fun o34 => ?_)
        refine ws_nil ?_
        refine wr_float F 3 rfl (by kernel_rfl) (.inl (by kernel_rfl)) ?_
        refine w_assign rfl rfl ?_
        refine ws_nil ?_
        refine wr_float F 4 rfl (by kernel_rfl) (.inl (by kernel_rfl)) ?_
        refine w_assign rfl rfl ?_
        refine ws_nil ?_
        refine wr_float F 5 rfl (by kernel_rfl) (.inl (by kernel_rfl)) ?_
        refine w_assign rfl rfl ?_
        refine ws_nil ?_
        refine wr_end F (by kernel_rfl) ?_
        exact ⟨rfl, (o34, o35, o36), (.cons rfl (.cons rfl (.cons rfl (.cons rfl (.cons rfl (.cons rfl (.cons rfl (.cons rfl (.cons rfl (.nil _)))))))))), (Sel.weak (.cons (by first | exact .head | exact .tail .head | exact .tail (.tail .head) | exact .tail (.tail (.tail .head)) | exact .tail (.tail (.tail (.tail .head)))) (.cons (by first | exact .head | exact .tail .head | exact .tail (.tail .head) | exact .tail (.tail (.tail .head)) | exact .tail (.tail (.tail (.tail .head)))) (.cons (by first | exact .head | exact .tail .head | exact .tail (.tail .head) | exact .tail (.tail (.tail .head)) | exact .tail (.tail (.tail (.tail .head)))) .nil))))⟩
  rintro ⟨o34, o35, o36⟩
  dsimp only
  refine wc_seq ?_
  refine wc_text ?_
  refine w_assign rfl rfl ?_
  refine ws_nil ?_
  refine WC.recell (o := o34) (tab 60 (upTo60 0 (orT X Y))) (by first | exact .head | exact .tail .head | exact .tail (.tail .head) | exact .tail (.tail (.tail .head)) | exact .tail (.tail (.tail (.tail .head)))) ((repl_tab 60 false).trans (tab_congr fun i _ => by simp [upTo60])) ?_
  refine WC.recell (o := o35) (tab 60 (upTo60 0 (andT X Y))) (by first | exact .head | exact .tail .head | exact .tail (.tail .head) | exact .tail (.tail (.tail .head)) | exact .tail (.tail (.tail (.tail .head)))) ((repl_tab 60 false).trans (tab_congr fun i _ => by simp [upTo60])) ?_
  refine WC.recell (o := o36) (tab 60 (upTo60 0 (lessT X Y))) (by first | exact .head | exact .tail .head | exact .tail (.tail .head) | exact .tail (.tail (.tail .head)) | exact .tail (.tail (.tail (.tail .head)))) ((repl_tab 60 false).trans (tab_congr fun i _ => by simp [upTo60])) ?_
  refine wc_seq ?_
  refine wc_seq ?_
  refine wc_text ?_
  refine w_move rfl rfl ?_
  first | refine w_len rfl rfl (len_lst u31) ?_ | refine w_len rfl rfl (len_slice u31) ?_ | refine w_lenO rfl u31 rfl rfl (by first | exact .head | exact .tail .head | exact .tail (.tail .head) | exact .tail (.tail (.tail .head)) | exact .tail (.tail (.tail (.tail .head)))) ?_
  refine w_move rfl rfl ?_
  refine ws_nil ?_
  refine wc_block ?_
  refine wc_loop (σ := { k : Nat // k ≤ 60 }) (fun s => [(2, AL eI r), (3, .int .i64 n), (9, .lst (tab 60 X) 60 false true), (10, AL eSp (S X)), (11, .lst (tab 60 Y) 60 false true), (12, AL eSp (S Y)), (13, .slice (some ⟨o34, 0⟩) 60 (.exact 60)), (14, .slice (some ⟨o35, 0⟩) 60 (.exact 60)), (15, .slice (some ⟨o36, 0⟩) 60 (.exact 60)), (16, .int .i64 ((ticksTo X s.1).length : Nat)), (37, .lst (tab 60 X) 60 false true), (38, .int .i64 (60 : Nat)), (39, .int .i64 (s.1 : Nat))]) (fun s => [.obj o34 (.row 4 1 false (tab 60 (upTo60 s.1 (orT X Y)))), .obj o35 (.row 4 1 false (tab 60 (upTo60 s.1 (andT X Y)))), .obj o36 (.row 4 1 false (tab 60 (upTo60 s.1 (lessT X Y))))]) (fun s => 60 - s.1) ?_ ⟨0, Nat.zero_le _⟩ (.cons rfl (.cons rfl (.cons rfl (.cons rfl (.cons rfl (.cons rfl (.cons rfl (.cons rfl (.cons rfl (.cons rfl (.cons rfl (.cons rfl (.cons rfl (.nil _)))))))))))))) (Sel.weak (.cons (by first | exact .head | exact .tail .head | exact .tail (.tail .head) | exact .tail (.tail (.tail .head)) | exact .tail (.tail (.tail (.tail .head)))) (.cons (by first | exact .head | exact .tail .head | exact .tail (.tail .head) | exact .tail (.tail (.tail .head)) | exact .tail (.tail (.tail (.tail .head)))) (.cons (by first | exact .head | exact .tail .head | exact .tail (.tail .head) | exact .tail (.tail (.tail .head)) | exact .tail (.tail (.tail (.tail .head)))) .nil))))
  rintro ⟨k, hk⟩
  dsimp only
  have htl := ticksTo_le X k
  refine wc_seq ?_
  refine wc_text ?_
  refine w_lss u3 rfl rfl rfl ?_
  refine ws_nil ?_
  refine wc_seq ?_
  refine wc_cond rfl (fun h6 => ?_) (fun h6 => ?_)
  · first | replace h6 := of_decide_eq_true h6 | replace h6 := of_decide_eq_false h6 | replace h6 := of_decide_eq_false (nb_T h6) | replace h6 := of_decide_eq_true (nb_F h6) | replace h6 := nb_T h6 | replace h6 := nb_F h6 | skip
    first | replace h6 := Int.not_lt.mp h6 | replace h6 := Int.not_le.mp h6 | replace h6 := Decidable.not_not.mp h6 | skip
    refine wc_stay ?_
    refine wc_seq ?_
    refine wc_block ?_
    refine wc_seq ?_
    refine wc_text ?_
    refine w_move rfl rfl ?_
    refine w_assign rfl rfl ?_
    refine ws_nil ?_
    refine wc_seq ?_
    refine wc_cut [(2, AL eI r), (3, .int .i64 n), (9, .lst (tab 60 X) 60 false true), (10, AL eSp (S X)), (11, .lst (tab 60 Y) 60 false true), (12, AL eSp (S Y)), (13, .slice (some ⟨o34, 0⟩) 60 (.exact 60)), (14, .slice (some ⟨o35, 0⟩) 60 (.exact 60)), (15, .slice (some ⟨o36, 0⟩) 60 (.exact 60)), (16, .int .i64 ((ticksTo X k).length : Nat)), (37, .lst (tab 60 X) 60 false true), (38, .int .i64 (60 : Nat)), (39, .int .i64 (k : Nat)), (17, .int .i64 (k : Nat))] [.obj o34 (.row 4 1 false (tab 60 (upTo60 (k + 1) (orT X Y)))), .obj o35 (.row 4 1 false (tab 60 (upTo60 (k + 1) (andT X Y)))), .obj o36 (.row 4 1 false (tab 60 (upTo60 (k + 1) (lessT X Y))))] ?_ ?_
    · skip
      refine wc_free [0, 0, 0, 0, 0, 0, 0, 0, 192, 448, 960, 1984, 1984, 8128, 16320, 32704, 0, 0, 196608, 458752, 985024, 2033600, 2033600, 8325056, 16713664, 33490880, 0, 0, 201326592, 469762048, 1008666560, 2082408384, 2082408384, 8524859328, 17114793920, 34294663104, 68654401472, 34326183875, 171765137347, 446676598735, 996432412623, 2199023255551, 4398046511103] (by kernel_rfl) (by kernel_rfl) (fun F => ?_)
      skip
      refine wr_float F 0 rfl (by kernel_rfl) (.inl (by kernel_rfl)) ?_
      refine w_move rfl rfl ?_
      refine ws_nil ?_
      refine wr_float F 1 rfl (by kernel_rfl) (.inl (by kernel_rfl)) ?_
      refine w_move rfl rfl ?_
      refine ws_nil ?_
      refine wr_float F 2 rfl (by kernel_rfl) (.inl (by kernel_rfl)) ?_
      refine w_move rfl rfl ?_
      refine ws_nil ?_
      refine wr_float F 3 rfl (by kernel_rfl) (.inl (by kernel_rfl)) ?_
      refine w_move rfl rfl ?_
      refine ws_nil ?_
      refine wr_float F 4 rfl (by kernel_rfl) (.inl (by kernel_rfl)) ?_
      refine w_move rfl rfl ?_
      refine ws_nil ?_
      refine wr_float F 5 rfl (by kernel_rfl) (.inl (by kernel_rfl)) ?_
      refine w_move rfl rfl ?_
      refine ws_nil ?_
      refine wr_float F 6 rfl (by kernel_rfl) (.inl (by kernel_rfl)) ?_
      refine w_move rfl rfl ?_
      refine ws_nil ?_
      refine wr_float F 7 rfl (by kernel_rfl) (.inl (by kernel_rfl)) ?_
      refine w_move rfl rfl ?_
      refine ws_nil ?_
      refine wr_float F 8 rfl (by kernel_rfl) (.inl (by kernel_rfl)) ?_
      first | refine w_lidx u31 s4 rfl rfl rfl (by omega) ?_ | refine w_slidx u31 s4 rfl rfl rfl (by omega) ?_
      refine ws_nil ?_
      refine wr_pure F 9 rfl (by kernel_rfl) rfl rfl (pf_ldC1 a4 rfl (by first | exact tab_getL (by omega) | exact tab_getP (by omega) | exact flat_getI0 (by intro _; rfl) (by assumption) (by first | rfl | omega) (by decide) rfl | exact flat_getI (by intro _; rfl) (by assumption) (by first | rfl | omega) (by decide) rfl | rfl)) (.inl rfl) ?_
      refine wr_float F 10 rfl (by kernel_rfl) (.inl (by kernel_rfl)) ?_
      refine w_move rfl rfl ?_
      refine ws_nil ?_
      refine wr_split (t := 52) rfl (fun g52 => ?_) (fun g52 => ?_)
      · first | replace g52 := of_decide_eq_true g52 | replace g52 := of_decide_eq_false g52 | replace g52 := of_decide_eq_false (nb_T g52) | replace g52 := of_decide_eq_true (nb_F g52) | replace g52 := nb_T g52 | replace g52 := nb_F g52 | skip
        first | replace g52 := Int.not_lt.mp g52 | replace g52 := Int.not_le.mp g52 | replace g52 := Decidable.not_not.mp g52 | skip
        refine wr_float F 11 rfl (by kernel_rfl) (.inr (off_of rfl rfl rfl rfl)) ?_
        refine ws_off rfl rfl rfl rfl ?_
        refine ws_nil ?_
        refine wr_float F 12 rfl (by kernel_rfl) (.inr (off_of rfl rfl rfl rfl)) ?_
        refine ws_off rfl rfl rfl rfl ?_
        refine ws_nil ?_
        refine wr_float F 13 rfl (by kernel_rfl) (.inr (off_of rfl rfl rfl rfl)) ?_
        refine ws_off rfl rfl rfl rfl ?_
        refine ws_nil ?_
        refine wr_float F 14 rfl (by kernel_rfl) (.inr (off_of rfl rfl rfl rfl)) ?_
        refine ws_off rfl rfl rfl rfl ?_
        refine ws_nil ?_
        refine wr_float F 15 rfl (by kernel_rfl) (.inl (by kernel_rfl)) ?_
        first | refine w_pickT rfl rfl rfl ⟨_, rfl⟩ ?_ | refine w_pickF rfl rfl ⟨_, rfl⟩ rfl ?_ | refine w_pick rfl rfl rfl rfl ?_
        refine ws_nil ?_
        refine wr_float F 16 rfl (by kernel_rfl) (.inl (by kernel_rfl)) ?_
        refine w_move rfl rfl ?_
        refine ws_nil ?_
        refine wr_float F 17 rfl (by kernel_rfl) (.inl (by kernel_rfl)) ?_
        refine w_move rfl rfl ?_
        refine ws_nil ?_
        refine wr_float F 18 rfl (by kernel_rfl) (.inl (by kernel_rfl)) ?_
        first | refine w_lidx u31 s4 rfl rfl rfl (by omega) ?_ | refine w_slidx u31 s4 rfl rfl rfl (by omega) ?_
        refine ws_nil ?_
        refine wr_pure F 19 rfl (by kernel_rfl) rfl rfl (pf_ldC1 a4 rfl (by first | exact tab_getL (by omega) | exact tab_getP (by omega) | exact flat_getI0 (by intro _; rfl) (by assumption) (by first | rfl | omega) (by decide) rfl | exact flat_getI (by intro _; rfl) (by assumption) (by first | rfl | omega) (by decide) rfl | rfl)) (.inl rfl) ?_
        refine wr_float F 20 rfl (by kernel_rfl) (.inl (by kernel_rfl)) ?_
        refine w_move rfl rfl ?_
        refine ws_nil ?_
        refine wr_split (t := 62) rfl (fun g62 => ?_) (fun g62 => ?_)
        · first | replace g62 := of_decide_eq_true g62 | replace g62 := of_decide_eq_false g62 | replace g62 := of_decide_eq_false (nb_T g62) | replace g62 := of_decide_eq_true (nb_F g62) | replace g62 := nb_T g62 | replace g62 := nb_F g62 | skip
          first | replace g62 := Int.not_lt.mp g62 | replace g62 := Int.not_le.mp g62 | replace g62 := Decidable.not_not.mp g62 | skip
          refine wr_float F 21 rfl (by kernel_rfl) (.inl (by kernel_rfl)) ?_
          refine ws_on rfl rfl ?_ (hn := rfl)
          refine w_move rfl rfl ?_
          refine ws_nil ?_
          refine wr_float F 22 rfl (by kernel_rfl) (.inl (by kernel_rfl)) ?_
          refine ws_on rfl rfl ?_ (hn := rfl)
          refine w_move rfl rfl ?_
          refine ws_nil ?_
          refine wr_float F 23 rfl (by kernel_rfl) (.inl (by kernel_rfl)) ?_
          refine ws_on rfl rfl ?_ (hn := rfl)
          first | refine w_lidx u31 s4 rfl rfl rfl (by omega) ?_ | refine w_slidx u31 s4 rfl rfl rfl (by omega) ?_
          refine ws_nil ?_
          refine wr_pure F 24 rfl (by kernel_rfl) rfl rfl (pf_ldC1 a4 rfl (by first | exact tab_getL (by omega) | exact tab_getP (by omega) | exact flat_getI0 (by intro _; rfl) (by assumption) (by first | rfl | omega) (by decide) rfl | exact flat_getI (by intro _; rfl) (by assumption) (by first | rfl | omega) (by decide) rfl | rfl)) (.inr ⟨_, _, _, rfl, rfl, rfl⟩) ?_
          refine wr_float F 25 rfl (by kernel_rfl) (.inl (by kernel_rfl)) ?_
          first | refine w_pickT rfl rfl rfl ⟨_, rfl⟩ ?_ | refine w_pickF rfl rfl ⟨_, rfl⟩ rfl ?_ | refine w_pick rfl rfl rfl rfl ?_
          refine ws_nil ?_
          refine wr_float F 26 rfl (by kernel_rfl) (.inl (by kernel_rfl)) ?_
          refine w_move rfl rfl ?_
          refine ws_nil ?_
          refine wr_float F 27 rfl (by kernel_rfl) (.inl (by kernel_rfl)) ?_
          refine w_move rfl rfl ?_
          refine ws_nil ?_
          refine wr_float F 28 rfl (by kernel_rfl) (.inl (by kernel_rfl)) ?_
          first | refine w_lidx u31 s4 rfl rfl rfl (by omega) ?_ | refine w_slidx u31 s4 rfl rfl rfl (by omega) ?_
          refine ws_nil ?_
          refine wr_pure F 29 rfl (by kernel_rfl) rfl rfl (pf_ldC1 a4 rfl (by first | exact tab_getL (by omega) | exact tab_getP (by omega) | exact flat_getI0 (by intro _; rfl) (by assumption) (by first | rfl | omega) (by decide) rfl | exact flat_getI (by intro _; rfl) (by assumption) (by first | rfl | omega) (by decide) rfl | rfl)) (.inl rfl) ?_
          refine wr_float F 30 rfl (by kernel_rfl) (.inl (by kernel_rfl)) ?_
          refine w_move rfl rfl ?_
          refine ws_nil ?_
          refine wr_split (t := 72) rfl (fun g72 => ?_) (fun g72 => ?_)
          · first | replace g72 := of_decide_eq_true g72 | replace g72 := of_decide_eq_false g72 | replace g72 := of_decide_eq_false (nb_T g72) | replace g72 := of_decide_eq_true (nb_F g72) | replace g72 := nb_T g72 | replace g72 := nb_F g72 | skip
            first | replace g72 := Int.not_lt.mp g72 | replace g72 := Int.not_le.mp g72 | replace g72 := Decidable.not_not.mp g72 | skip
            refine wr_float F 31 rfl (by kernel_rfl) (.inl (by kernel_rfl)) ?_
            refine ws_on rfl rfl ?_ (hn := rfl)
            refine w_move rfl rfl ?_
            refine ws_nil ?_
            refine wr_float F 32 rfl (by kernel_rfl) (.inl (by kernel_rfl)) ?_
            refine ws_on rfl rfl ?_ (hn := rfl)
            refine w_move rfl rfl ?_
            refine ws_nil ?_
            refine wr_float F 33 rfl (by kernel_rfl) (.inl (by kernel_rfl)) ?_
            refine ws_on rfl rfl ?_ (hn := rfl)
            first | refine w_lidx u31 s4 rfl rfl rfl (by omega) ?_ | refine w_slidx u31 s4 rfl rfl rfl (by omega) ?_
            refine ws_nil ?_
            refine wr_pure F 34 rfl (by kernel_rfl) rfl rfl (pf_ldC1 a4 rfl (by first | exact tab_getL (by omega) | exact tab_getP (by omega) | exact flat_getI0 (by intro _; rfl) (by assumption) (by first | rfl | omega) (by decide) rfl | exact flat_getI (by intro _; rfl) (by assumption) (by first | rfl | omega) (by decide) rfl | rfl)) (.inr ⟨_, _, _, rfl, rfl, rfl⟩) ?_
            refine wr_float F 35 rfl (by kernel_rfl) (.inl (by kernel_rfl)) ?_
            refine ws_on rfl rfl ?_ (hn := rfl)
            refine w_not rfl rfl ?_
            refine ws_nil ?_
            refine wr_float F 36 rfl (by kernel_rfl) (.inl (by kernel_rfl)) ?_
            first | refine w_pickT rfl rfl rfl ⟨_, rfl⟩ ?_ | refine w_pickF rfl rfl ⟨_, rfl⟩ rfl ?_ | refine w_pick rfl rfl rfl rfl ?_
            refine ws_nil ?_
            refine wr_float F 37 rfl (by kernel_rfl) (.inl (by kernel_rfl)) ?_
            first | refine w_lidx u31 s4 rfl rfl rfl (by omega) ?_ | refine w_slidx u31 s4 rfl rfl rfl (by omega) ?_
            refine ws_nil ?_
            refine wr_next F (l := [38]) (by kernel_rfl) (by simp) (.cons rfl ?_ (.nil))
            refine w_st s4 rfl rfl rfl (by first | exact .head | exact .tail .head | exact .tail (.tail .head) | exact .tail (.tail (.tail .head)) | exact .tail (.tail (.tail (.tail .head)))) rfl rfl (by first | exact tab_setP (by omega) | exact flat_setP (off := 0) (by intro _; rfl) (by assumption) (by first | rfl | omega) rfl | exact flat_setP (off := 1) (by intro _; rfl) (by assumption) (by first | rfl | omega) rfl | rfl) ?_
            refine ws_nil ?_
            refine wr_float F 39 rfl (by kernel_rfl) (.inl (by kernel_rfl)) ?_
            first | refine w_lidx u31 s4 rfl rfl rfl (by omega) ?_ | refine w_slidx u31 s4 rfl rfl rfl (by omega) ?_
            refine ws_nil ?_
            refine wr_next F (l := [40]) (by kernel_rfl) (by simp) (.cons rfl ?_ (.nil))
            refine w_st s4 rfl rfl rfl (by first | exact .head | exact .tail .head | exact .tail (.tail .head) | exact .tail (.tail (.tail .head)) | exact .tail (.tail (.tail (.tail .head)))) rfl rfl (by first | exact tab_setP (by omega) | exact flat_setP (off := 0) (by intro _; rfl) (by assumption) (by first | rfl | omega) rfl | exact flat_setP (off := 1) (by intro _; rfl) (by assumption) (by first | rfl | omega) rfl | rfl) ?_
            refine ws_nil ?_
            refine wr_float F 41 rfl (by kernel_rfl) (.inl (by kernel_rfl)) ?_
            first | refine w_lidx u31 s4 rfl rfl rfl (by omega) ?_ | refine w_slidx u31 s4 rfl rfl rfl (by omega) ?_
            refine ws_nil ?_
            refine wr_next F (l := [42]) (by kernel_rfl) (by simp) (.cons rfl ?_ (.nil))
            refine w_st s4 rfl rfl rfl (by first | exact .head | exact .tail .head | exact .tail (.tail .head) | exact .tail (.tail (.tail .head)) | exact .tail (.tail (.tail (.tail .head)))) rfl rfl (by first | exact tab_setP (by omega) | exact flat_setP (off := 0) (by intro _; rfl) (by assumption) (by first | rfl | omega) rfl | exact flat_setP (off := 1) (by intro _; rfl) (by assumption) (by first | rfl | omega) rfl | rfl) ?_
            refine ws_nil ?_
            refine WR.retab (o := o34) (upTo60 (k + 1) (orT X Y)) (by first | exact .head | exact .tail .head | exact .tail (.tail .head) | exact .tail (.tail (.tail .head)) | exact .tail (.tail (.tail (.tail .head)))) (fun j _ => up_step (by simp only [Int.toNat_natCast] at g52; simp [orT, g52])) ?_
            refine WR.retab (o := o35) (upTo60 (k + 1) (andT X Y)) (by first | exact .head | exact .tail .head | exact .tail (.tail .head) | exact .tail (.tail (.tail .head)) | exact .tail (.tail (.tail (.tail .head)))) (fun j _ => up_step (by simp only [Int.toNat_natCast] at g52; simp [andT, g52])) ?_
            refine WR.retab (o := o36) (upTo60 (k + 1) (lessT X Y)) (by first | exact .head | exact .tail .head | exact .tail (.tail .head) | exact .tail (.tail (.tail .head)) | exact .tail (.tail (.tail (.tail .head)))) (fun j _ => up_step (by simp only [Int.toNat_natCast] at g52; simp [lessT, g52])) ?_
            refine wr_end F (by kernel_rfl) ?_
            exact ⟨rfl, (.cons (by first | rfl | (refine congrArg some (congrArg AV.bool ?_); simp_all)) (.cons (by first | rfl | (refine congrArg some (congrArg AV.bool ?_); simp_all)) (.cons (by first | rfl | (refine congrArg some (congrArg AV.bool ?_); simp_all)) (.cons (by first | rfl | (refine congrArg some (congrArg AV.bool ?_); simp_all)) (.cons (by first | rfl | (refine congrArg some (congrArg AV.bool ?_); simp_all)) (.cons (by first | rfl | (refine congrArg some (congrArg AV.bool ?_); simp_all)) (.cons (by first | rfl | (refine congrArg some (congrArg AV.bool ?_); simp_all)) (.cons (by first | rfl | (refine congrArg some (congrArg AV.bool ?_); simp_all)) (.cons (by first | rfl | (refine congrArg some (congrArg AV.bool ?_); simp_all)) (.cons (by first | rfl | (refine congrArg some (congrArg AV.bool ?_); simp_all)) (.cons (by first | rfl | (refine congrArg some (congrArg AV.bool ?_); simp_all)) (.cons (by first | rfl | (refine congrArg some (congrArg AV.bool ?_); simp_all)) (.cons (by first | rfl | (refine congrArg some (congrArg AV.bool ?_); simp_all)) (.cons (by first | rfl | (refine congrArg some (congrArg AV.bool ?_); simp_all)) (.nil _))))))))))))))), (Sel.weak (.cons (by first | exact .head | exact .tail .head | exact .tail (.tail .head) | exact .tail (.tail (.tail .head)) | exact .tail (.tail (.tail (.tail .head)))) (.cons (by first | exact .head | exact .tail .head | exact .tail (.tail .head) | exact .tail (.tail (.tail .head)) | exact .tail (.tail (.tail (.tail .head)))) (.cons (by first | exact .head | exact .tail .head | exact .tail (.tail .head) | exact .tail (.tail (.tail .head)) | exact .tail (.tail (.tail (.tail .head)))) .nil))))⟩
          · first | replace g72 := of_decide_eq_true g72 | replace g72 := of_decide_eq_false g72 | replace g72 := of_decide_eq_false (nb_T g72) | replace g72 := of_decide_eq_true (nb_F g72) | replace g72 := nb_T g72 | replace g72 := nb_F g72 | skip
            first | replace g72 := Int.not_lt.mp g72 | replace g72 := Int.not_le.mp g72 | replace g72 := Decidable.not_not.mp g72 | skip
            rw [g52] at g72; cases g72
        · first | replace g62 := of_decide_eq_true g62 | replace g62 := of_decide_eq_false g62 | replace g62 := of_decide_eq_false (nb_T g62) | replace g62 := of_decide_eq_true (nb_F g62) | replace g62 := nb_T g62 | replace g62 := nb_F g62 | skip
          first | replace g62 := Int.not_lt.mp g62 | replace g62 := Int.not_le.mp g62 | replace g62 := Decidable.not_not.mp g62 | skip
          rw [g52] at g62; cases g62
      · first | replace g52 := of_decide_eq_true g52 | replace g52 := of_decide_eq_false g52 | replace g52 := of_decide_eq_false (nb_T g52) | replace g52 := of_decide_eq_true (nb_F g52) | replace g52 := nb_T g52 | replace g52 := nb_F g52 | skip
        first | replace g52 := Int.not_lt.mp g52 | replace g52 := Int.not_le.mp g52 | replace g52 := Decidable.not_not.mp g52 | skip
        refine wr_float F 11 rfl (by kernel_rfl) (.inl (by kernel_rfl)) ?_
        refine ws_on rfl rfl ?_ (hn := rfl)
        refine w_move rfl rfl ?_
        refine ws_nil ?_
        refine wr_float F 12 rfl (by kernel_rfl) (.inl (by kernel_rfl)) ?_
        refine ws_on rfl rfl ?_ (hn := rfl)
        refine w_move rfl rfl ?_
        refine ws_nil ?_
        refine wr_float F 13 rfl (by kernel_rfl) (.inl (by kernel_rfl)) ?_
        refine ws_on rfl rfl ?_ (hn := rfl)
        first | refine w_lidx u31 s4 rfl rfl rfl (by omega) ?_ | refine w_slidx u31 s4 rfl rfl rfl (by omega) ?_
        refine ws_nil ?_
        refine wr_pure F 14 rfl (by kernel_rfl) rfl rfl (pf_ldC1 a4 rfl (by first | exact tab_getL (by omega) | exact tab_getP (by omega) | exact flat_getI0 (by intro _; rfl) (by assumption) (by first | rfl | omega) (by decide) rfl | exact flat_getI (by intro _; rfl) (by assumption) (by first | rfl | omega) (by decide) rfl | rfl)) (.inr ⟨_, _, _, rfl, rfl, rfl⟩) ?_
        refine wr_float F 15 rfl (by kernel_rfl) (.inl (by kernel_rfl)) ?_
        first | refine w_pickT rfl rfl rfl ⟨_, rfl⟩ ?_ | refine w_pickF rfl rfl ⟨_, rfl⟩ rfl ?_ | refine w_pick rfl rfl rfl rfl ?_
        refine ws_nil ?_
        refine wr_float F 16 rfl (by kernel_rfl) (.inl (by kernel_rfl)) ?_
        refine w_move rfl rfl ?_
        refine ws_nil ?_
        refine wr_float F 17 rfl (by kernel_rfl) (.inl (by kernel_rfl)) ?_
        refine w_move rfl rfl ?_
        refine ws_nil ?_
        refine wr_float F 18 rfl (by kernel_rfl) (.inl (by kernel_rfl)) ?_
        first | refine w_lidx u31 s4 rfl rfl rfl (by omega) ?_ | refine w_slidx u31 s4 rfl rfl rfl (by omega) ?_
        refine ws_nil ?_
        refine wr_pure F 19 rfl (by kernel_rfl) rfl rfl (pf_ldC1 a4 rfl (by first | exact tab_getL (by omega) | exact tab_getP (by omega) | exact flat_getI0 (by intro _; rfl) (by assumption) (by first | rfl | omega) (by decide) rfl | exact flat_getI (by intro _; rfl) (by assumption) (by first | rfl | omega) (by decide) rfl | rfl)) (.inl rfl) ?_
        refine wr_float F 20 rfl (by kernel_rfl) (.inl (by kernel_rfl)) ?_
        refine w_move rfl rfl ?_
        refine ws_nil ?_
        refine wr_split (t := 62) rfl (fun g62 => ?_) (fun g62 => ?_)
        · first | replace g62 := of_decide_eq_true g62 | replace g62 := of_decide_eq_false g62 | replace g62 := of_decide_eq_false (nb_T g62) | replace g62 := of_decide_eq_true (nb_F g62) | replace g62 := nb_T g62 | replace g62 := nb_F g62 | skip
          first | replace g62 := Int.not_lt.mp g62 | replace g62 := Int.not_le.mp g62 | replace g62 := Decidable.not_not.mp g62 | skip
          rw [g52] at g62; cases g62
        · first | replace g62 := of_decide_eq_true g62 | replace g62 := of_decide_eq_false g62 | replace g62 := of_decide_eq_false (nb_T g62) | replace g62 := of_decide_eq_true (nb_F g62) | replace g62 := nb_T g62 | replace g62 := nb_F g62 | skip
          first | replace g62 := Int.not_lt.mp g62 | replace g62 := Int.not_le.mp g62 | replace g62 := Decidable.not_not.mp g62 | skip
          refine wr_float F 21 rfl (by kernel_rfl) (.inr (off_of rfl rfl rfl rfl)) ?_
          refine ws_off rfl rfl rfl rfl ?_
          refine ws_nil ?_
          refine wr_float F 22 rfl (by kernel_rfl) (.inr (off_of rfl rfl rfl rfl)) ?_
          refine ws_off rfl rfl rfl rfl ?_
          refine ws_nil ?_
          refine wr_float F 23 rfl (by kernel_rfl) (.inr (off_of rfl rfl rfl rfl)) ?_
          refine ws_off rfl rfl rfl rfl ?_
          refine ws_nil ?_
          refine wr_float F 24 rfl (by kernel_rfl) (.inr (off_of rfl rfl rfl rfl)) ?_
          refine ws_off rfl rfl rfl rfl ?_
          refine ws_nil ?_
          refine wr_float F 25 rfl (by kernel_rfl) (.inl (by kernel_rfl)) ?_
          first | refine w_pickT rfl rfl rfl ⟨_, rfl⟩ ?_ | refine w_pickF rfl rfl ⟨_, rfl⟩ rfl ?_ | refine w_pick rfl rfl rfl rfl ?_
          refine ws_nil ?_
          refine wr_float F 26 rfl (by kernel_rfl) (.inl (by kernel_rfl)) ?_
          refine w_move rfl rfl ?_
          refine ws_nil ?_
          refine wr_float F 27 rfl (by kernel_rfl) (.inl (by kernel_rfl)) ?_
          refine w_move rfl rfl ?_
          refine ws_nil ?_
          refine wr_float F 28 rfl (by kernel_rfl) (.inl (by kernel_rfl)) ?_
          first | refine w_lidx u31 s4 rfl rfl rfl (by omega) ?_ | refine w_slidx u31 s4 rfl rfl rfl (by omega) ?_
          refine ws_nil ?_
          refine wr_pure F 29 rfl (by kernel_rfl) rfl rfl (pf_ldC1 a4 rfl (by first | exact tab_getL (by omega) | exact tab_getP (by omega) | exact flat_getI0 (by intro _; rfl) (by assumption) (by first | rfl | omega) (by decide) rfl | exact flat_getI (by intro _; rfl) (by assumption) (by first | rfl | omega) (by decide) rfl | rfl)) (.inl rfl) ?_
          refine wr_float F 30 rfl (by kernel_rfl) (.inl (by kernel_rfl)) ?_
          refine w_move rfl rfl ?_
          refine ws_nil ?_
          refine wr_split (t := 72) rfl (fun g72 => ?_) (fun g72 => ?_)
          · first | replace g72 := of_decide_eq_true g72 | replace g72 := of_decide_eq_false g72 | replace g72 := of_decide_eq_false (nb_T g72) | replace g72 := of_decide_eq_true (nb_F g72) | replace g72 := nb_T g72 | replace g72 := nb_F g72 | skip
            first | replace g72 := Int.not_lt.mp g72 | replace g72 := Int.not_le.mp g72 | replace g72 := Decidable.not_not.mp g72 | skip
            rw [g52] at g72; cases g72
          · first | replace g72 := of_decide_eq_true g72 | replace g72 := of_decide_eq_false g72 | replace g72 := of_decide_eq_false (nb_T g72) | replace g72 := of_decide_eq_true (nb_F g72) | replace g72 := nb_T g72 | replace g72 := nb_F g72 | skip
            first | replace g72 := Int.not_lt.mp g72 | replace g72 := Int.not_le.mp g72 | replace g72 := Decidable.not_not.mp g72 | skip
            refine wr_float F 31 rfl (by kernel_rfl) (.inr (off_of rfl rfl rfl rfl)) ?_
            refine ws_off rfl rfl rfl rfl ?_
            refine ws_nil ?_
            refine wr_float F 32 rfl (by kernel_rfl) (.inr (off_of rfl rfl rfl rfl)) ?_
            refine ws_off rfl rfl rfl rfl ?_
            refine ws_nil ?_
            refine wr_float F 33 rfl (by kernel_rfl) (.inr (off_of rfl rfl rfl rfl)) ?_
            refine ws_off rfl rfl rfl rfl ?_
            refine ws_nil ?_
            refine wr_float F 34 rfl (by kernel_rfl) (.inr (off_of rfl rfl rfl rfl)) ?_
            refine ws_off rfl rfl rfl rfl ?_
            refine ws_nil ?_
            refine wr_float F 35 rfl (by kernel_rfl) (.inr (off_of rfl rfl rfl rfl)) ?_
            refine ws_off rfl rfl rfl rfl ?_
            refine ws_nil ?_
            refine wr_float F 36 rfl (by kernel_rfl) (.inl (by kernel_rfl)) ?_
            first | refine w_pickT rfl rfl rfl ⟨_, rfl⟩ ?_ | refine w_pickF rfl rfl ⟨_, rfl⟩ rfl ?_ | refine w_pick rfl rfl rfl rfl ?_
            refine ws_nil ?_
            refine wr_float F 37 rfl (by kernel_rfl) (.inl (by kernel_rfl)) ?_
            first | refine w_lidx u31 s4 rfl rfl rfl (by omega) ?_ | refine w_slidx u31 s4 rfl rfl rfl (by omega) ?_
            refine ws_nil ?_
            refine wr_next F (l := [38]) (by kernel_rfl) (by simp) (.cons rfl ?_ (.nil))
            refine w_st s4 rfl rfl rfl (by first | exact .head | exact .tail .head | exact .tail (.tail .head) | exact .tail (.tail (.tail .head)) | exact .tail (.tail (.tail (.tail .head)))) rfl rfl (by first | exact tab_setP (by omega) | exact flat_setP (off := 0) (by intro _; rfl) (by assumption) (by first | rfl | omega) rfl | exact flat_setP (off := 1) (by intro _; rfl) (by assumption) (by first | rfl | omega) rfl | rfl) ?_
            refine ws_nil ?_
            refine wr_float F 39 rfl (by kernel_rfl) (.inl (by kernel_rfl)) ?_
            first | refine w_lidx u31 s4 rfl rfl rfl (by omega) ?_ | refine w_slidx u31 s4 rfl rfl rfl (by omega) ?_
            refine ws_nil ?_
            refine wr_next F (l := [40]) (by kernel_rfl) (by simp) (.cons rfl ?_ (.nil))
            refine w_st s4 rfl rfl rfl (by first | exact .head | exact .tail .head | exact .tail (.tail .head) | exact .tail (.tail (.tail .head)) | exact .tail (.tail (.tail (.tail .head)))) rfl rfl (by first | exact tab_setP (by omega) | exact flat_setP (off := 0) (by intro _; rfl) (by assumption) (by first | rfl | omega) rfl | exact flat_setP (off := 1) (by intro _; rfl) (by assumption) (by first | rfl | omega) rfl | rfl) ?_
            refine ws_nil ?_
            refine wr_float F 41 rfl (by kernel_rfl) (.inl (by kernel_rfl)) ?_
            first | refine w_lidx u31 s4 rfl rfl rfl (by omega) ?_ | refine w_slidx u31 s4 rfl rfl rfl (by omega) ?_
            refine ws_nil ?_
            refine wr_next F (l := [42]) (by kernel_rfl) (by simp) (.cons rfl ?_ (.nil))
            refine w_st s4 rfl rfl rfl (by first | exact .head | exact .tail .head | exact .tail (.tail .head) | exact .tail (.tail (.tail .head)) | exact .tail (.tail (.tail (.tail .head)))) rfl rfl (by first | exact tab_setP (by omega) | exact flat_setP (off := 0) (by intro _; rfl) (by assumption) (by first | rfl | omega) rfl | exact flat_setP (off := 1) (by intro _; rfl) (by assumption) (by first | rfl | omega) rfl | rfl) ?_
            refine ws_nil ?_
            refine WR.retab (o := o34) (upTo60 (k + 1) (orT X Y)) (by first | exact .head | exact .tail .head | exact .tail (.tail .head) | exact .tail (.tail (.tail .head)) | exact .tail (.tail (.tail (.tail .head)))) (fun j _ => up_step (by simp only [Int.toNat_natCast] at g52; simp [orT, g52])) ?_
            refine WR.retab (o := o35) (upTo60 (k + 1) (andT X Y)) (by first | exact .head | exact .tail .head | exact .tail (.tail .head) | exact .tail (.tail (.tail .head)) | exact .tail (.tail (.tail (.tail .head)))) (fun j _ => up_step (by simp only [Int.toNat_natCast] at g52; simp [andT, g52])) ?_
            refine WR.retab (o := o36) (upTo60 (k + 1) (lessT X Y)) (by first | exact .head | exact .tail .head | exact .tail (.tail .head) | exact .tail (.tail (.tail .head)) | exact .tail (.tail (.tail (.tail .head)))) (fun j _ => up_step (by simp only [Int.toNat_natCast] at g52; simp [lessT, g52])) ?_
            refine wr_end F (by kernel_rfl) ?_
            exact ⟨rfl, (.cons (by first | rfl | (refine congrArg some (congrArg AV.bool ?_); simp_all)) (.cons (by first | rfl | (refine congrArg some (congrArg AV.bool ?_); simp_all)) (.cons (by first | rfl | (refine congrArg some (congrArg AV.bool ?_); simp_all)) (.cons (by first | rfl | (refine congrArg some (congrArg AV.bool ?_); simp_all)) (.cons (by first | rfl | (refine congrArg some (congrArg AV.bool ?_); simp_all)) (.cons (by first | rfl | (refine congrArg some (congrArg AV.bool ?_); simp_all)) (.cons (by first | rfl | (refine congrArg some (congrArg AV.bool ?_); simp_all)) (.cons (by first | rfl | (refine congrArg some (congrArg AV.bool ?_); simp_all)) (.cons (by first | rfl | (refine congrArg some (congrArg AV.bool ?_); simp_all)) (.cons (by first | rfl | (refine congrArg some (congrArg AV.bool ?_); simp_all)) (.cons (by first | rfl | (refine congrArg some (congrArg AV.bool ?_); simp_all)) (.cons (by first | rfl | (refine congrArg some (congrArg AV.bool ?_); simp_all)) (.cons (by first | rfl | (refine congrArg some (congrArg AV.bool ?_); simp_all)) (.cons (by first | rfl | (refine congrArg some (congrArg AV.bool ?_); simp_all)) (.nil _))))))))))))))), (Sel.weak (.cons (by first | exact .head | exact .tail .head | exact .tail (.tail .head) | exact .tail (.tail (.tail .head)) | exact .tail (.tail (.tail (.tail .head)))) (.cons (by first | exact .head | exact .tail .head | exact .tail (.tail .head) | exact .tail (.tail (.tail .head)) | exact .tail (.tail (.tail (.tail .head)))) (.cons (by first | exact .head | exact .tail .head | exact .tail (.tail .head) | exact .tail (.tail (.tail .head)) | exact .tail (.tail (.tail (.tail .head)))) .nil))))⟩
    refine wc_seq ?_
    refine wc_text ?_
    skip
    refine w_move rfl rfl ?_
    refine w_move rfl rfl ?_
    first | refine w_lidx u31 s4 rfl rfl rfl (by omega) ?_ | refine w_slidx u31 s4 rfl rfl rfl (by omega) ?_
    first | refine w_ldC1 a4 rfl rfl (by first | exact tab_getL (by omega) | exact tab_getP (by omega) | exact flat_getI0 (by intro _; rfl) (by assumption) (by first | rfl | omega) (by decide) rfl | exact flat_getI (by intro _; rfl) (by assumption) (by first | rfl | omega) (by decide) rfl | rfl) ?_ | refine w_ldP1 a4 rfl rfl (by first | exact .head | exact .tail .head | exact .tail (.tail .head) | exact .tail (.tail (.tail .head)) | exact .tail (.tail (.tail (.tail .head)))) (by first | exact tab_getP (by omega) | exact flat_getP0 (by intro _; rfl) (by assumption) (by first | rfl | omega) (by decide) rfl | exact flat_getP (by intro _; rfl) (by assumption) (by first | rfl | omega) (by decide) rfl | rfl) ?_
    refine ws_nil ?_
    refine wc_cond rfl (fun h9 => ?_) (fun h9 => ?_)
    · simp only [Int.toNat_natCast] at h9
      refine wc_text ?_
      refine w_move rfl rfl ?_
      refine w_add u3 rfl rfl rfl (by omega) ?_
      refine w_assign rfl rfl ?_
      refine ws_nil ?_
      rw [ticks_on h9]
      refine wc_text ?_
      refine w_add u3 rfl rfl rfl (by omega) ?_
      refine w_move rfl rfl ?_
      refine ws_nil ?_
      exact ⟨⟨k + 1, by omega⟩, by simp only; omega, (.cons rfl (.cons rfl (.cons rfl (.cons rfl (.cons rfl (.cons rfl (.cons rfl (.cons rfl (.cons rfl (.cons rfl (.cons rfl (.cons rfl (.cons rfl (.nil _)))))))))))))), (Sel.weak (.cons (by first | exact .head | exact .tail .head | exact .tail (.tail .head) | exact .tail (.tail (.tail .head)) | exact .tail (.tail (.tail (.tail .head)))) (.cons (by first | exact .head | exact .tail .head | exact .tail (.tail .head) | exact .tail (.tail (.tail .head)) | exact .tail (.tail (.tail (.tail .head)))) (.cons (by first | exact .head | exact .tail .head | exact .tail (.tail .head) | exact .tail (.tail (.tail .head)) | exact .tail (.tail (.tail (.tail .head)))) .nil))))⟩
    · simp only [Int.toNat_natCast] at h9
      rw [ticks_off h9]
      refine wc_stay ?_
      refine wc_text ?_
      refine w_add u3 rfl rfl rfl (by omega) ?_
      refine w_move rfl rfl ?_
      refine ws_nil ?_
      exact ⟨⟨k + 1, by omega⟩, by simp only; omega, (.cons rfl (.cons rfl (.cons rfl (.cons rfl (.cons rfl (.cons rfl (.cons rfl (.cons rfl (.cons rfl (.cons rfl (.cons rfl (.cons rfl (.cons rfl (.nil _)))))))))))))), (Sel.weak (.cons (by first | exact .head | exact .tail .head | exact .tail (.tail .head) | exact .tail (.tail (.tail .head)) | exact .tail (.tail (.tail (.tail .head)))) (.cons (by first | exact .head | exact .tail .head | exact .tail (.tail .head) | exact .tail (.tail (.tail .head)) | exact .tail (.tail (.tail (.tail .head)))) (.cons (by first | exact .head | exact .tail .head | exact .tail (.tail .head) | exact .tail (.tail (.tail .head)) | exact .tail (.tail (.tail (.tail .head)))) .nil))))⟩
  · first | replace h6 := of_decide_eq_true h6 | replace h6 := of_decide_eq_false h6 | replace h6 := of_decide_eq_false (nb_T h6) | replace h6 := of_decide_eq_true (nb_F h6) | replace h6 := nb_T h6 | replace h6 := nb_F h6 | skip
    first | replace h6 := Int.not_lt.mp h6 | replace h6 := Int.not_le.mp h6 | replace h6 := Decidable.not_not.mp h6 | skip
    refine wc_exit ?_
    refine wc_seq ?_
    refine wc_text ?_
    have hw := withinV_in n 0 59 (by omega)
    refine w_move rfl rfl ?_
    refine w_call rfl rfl (cw_fn rfl rfl (.cons (by first | exact .closed rfl | exact .nil | exact .ownV rfl (by first | exact .head | exact .tail .head | exact .tail (.tail .head) | exact .tail (.tail (.tail .head)) | exact .tail (.tail (.tail (.tail .head)))) (by first | exact tab_done _ _ | exact flat_done (by intro _; rfl) _ | rfl | assumption) | exact .objV rfl (by first | exact .head | exact .tail .head | exact .tail (.tail .head) | exact .tail (.tail (.tail .head)) | exact .tail (.tail (.tail (.tail .head)))) (by first | exact tab_length _ _ | exact flat_length (by intro _; rfl) _ | exact (flat_length (s := 1) (by intro _; rfl) _).trans (by simp only [*]) | exact (flat_length (s := 2) (by intro _; rfl) _).trans (by simp only [*]) | exact (flat_length (s := 3) (by intro _; rfl) _).trans (by simp only [*]) | exact (flat_length (s := 4) (by intro _; rfl) _).trans (by simp only [*]) | exact (flat_length (s := 5) (by intro _; rfl) _).trans (by simp only [*]) | exact (flat_length (s := 6) (by intro _; rfl) _).trans (by simp only [*]) | rfl) (by first | exact tab_done _ _ | exact flat_done (by intro _; rfl) _ | rfl | assumption) | exact .ownK rfl (by first | exact .head | exact .tail .head | exact .tail (.tail .head) | exact .tail (.tail (.tail .head)) | exact .tail (.tail (.tail (.tail .head)))) (by first | exact tab_done _ _ | exact flat_done (by intro _; rfl) _ | rfl | assumption) | exact .objK rfl (by omega) (by first | exact .head | exact .tail .head | exact .tail (.tail .head) | exact .tail (.tail (.tail .head)) | exact .tail (.tail (.tail (.tail .head)))) (by first | exact tab_length _ _ | exact flat_length (by intro _; rfl) _ | exact (flat_length (s := 1) (by intro _; rfl) _).trans (by simp only [*]) | exact (flat_length (s := 2) (by intro _; rfl) _).trans (by simp only [*]) | exact (flat_length (s := 3) (by intro _; rfl) _).trans (by simp only [*]) | exact (flat_length (s := 4) (by intro _; rfl) _).trans (by simp only [*]) | exact (flat_length (s := 5) (by intro _; rfl) _).trans (by simp only [*]) | exact (flat_length (s := 6) (by intro _; rfl) _).trans (by simp only [*]) | rfl) (by first | exact tab_done _ _ | exact flat_done (by intro _; rfl) _ | rfl | assumption) | exact .ptr (by first | exact .head | exact .tail .head | exact .tail (.tail .head) | exact .tail (.tail (.tail .head)) | exact .tail (.tail (.tail (.tail .head)))) (by first | exact tab_done _ _ | exact flat_done (by intro _; rfl) _ | rfl | assumption)) (.cons (by first | exact .closed rfl | exact .nil | exact .ownV rfl (by first | exact .head | exact .tail .head | exact .tail (.tail .head) | exact .tail (.tail (.tail .head)) | exact .tail (.tail (.tail (.tail .head)))) (by first | exact tab_done _ _ | exact flat_done (by intro _; rfl) _ | rfl | assumption) | exact .objV rfl (by first | exact .head | exact .tail .head | exact .tail (.tail .head) | exact .tail (.tail (.tail .head)) | exact .tail (.tail (.tail (.tail .head)))) (by first | exact tab_length _ _ | exact flat_length (by intro _; rfl) _ | exact (flat_length (s := 1) (by intro _; rfl) _).trans (by simp only [*]) | exact (flat_length (s := 2) (by intro _; rfl) _).trans (by simp only [*]) | exact (flat_length (s := 3) (by intro _; rfl) _).trans (by simp only [*]) | exact (flat_length (s := 4) (by intro _; rfl) _).trans (by simp only [*]) | exact (flat_length (s := 5) (by intro _; rfl) _).trans (by simp only [*]) | exact (flat_length (s := 6) (by intro _; rfl) _).trans (by simp only [*]) | rfl) (by first | exact tab_done _ _ | exact flat_done (by intro _; rfl) _ | rfl | assumption) | exact .ownK rfl (by first | exact .head | exact .tail .head | exact .tail (.tail .head) | exact .tail (.tail (.tail .head)) | exact .tail (.tail (.tail (.tail .head)))) (by first | exact tab_done _ _ | exact flat_done (by intro _; rfl) _ | rfl | assumption) | exact .objK rfl (by omega) (by first | exact .head | exact .tail .head | exact .tail (.tail .head) | exact .tail (.tail (.tail .head)) | exact .tail (.tail (.tail (.tail .head)))) (by first | exact tab_length _ _ | exact flat_length (by intro _; rfl) _ | exact (flat_length (s := 1) (by intro _; rfl) _).trans (by simp only [*]) | exact (flat_length (s := 2) (by intro _; rfl) _).trans (by simp only [*]) | exact (flat_length (s := 3) (by intro _; rfl) _).trans (by simp only [*]) | exact (flat_length (s := 4) (by intro _; rfl) _).trans (by simp only [*]) | exact (flat_length (s := 5) (by intro _; rfl) _).trans (by simp only [*]) | exact (flat_length (s := 6) (by intro _; rfl) _).trans (by simp only [*]) | rfl) (by first | exact tab_done _ _ | exact flat_done (by intro _; rfl) _ | rfl | assumption) | exact .ptr (by first | exact .head | exact .tail .head | exact .tail (.tail .head) | exact .tail (.tail (.tail .head)) | exact .tail (.tail (.tail (.tail .head)))) (by first | exact tab_done _ _ | exact flat_done (by intro _; rfl) _ | rfl | assumption)) (.cons (by first | exact .closed rfl | exact .nil | exact .ownV rfl (by first | exact .head | exact .tail .head | exact .tail (.tail .head) | exact .tail (.tail (.tail .head)) | exact .tail (.tail (.tail (.tail .head)))) (by first | exact tab_done _ _ | exact flat_done (by intro _; rfl) _ | rfl | assumption) | exact .objV rfl (by first | exact .head | exact .tail .head | exact .tail (.tail .head) | exact .tail (.tail (.tail .head)) | exact .tail (.tail (.tail (.tail .head)))) (by first | exact tab_length _ _ | exact flat_length (by intro _; rfl) _ | exact (flat_length (s := 1) (by intro _; rfl) _).trans (by simp only [*]) | exact (flat_length (s := 2) (by intro _; rfl) _).trans (by simp only [*]) | exact (flat_length (s := 3) (by intro _; rfl) _).trans (by simp only [*]) | exact (flat_length (s := 4) (by intro _; rfl) _).trans (by simp only [*]) | exact (flat_length (s := 5) (by intro _; rfl) _).trans (by simp only [*]) | exact (flat_length (s := 6) (by intro _; rfl) _).trans (by simp only [*]) | rfl) (by first | exact tab_done _ _ | exact flat_done (by intro _; rfl) _ | rfl | assumption) | exact .ownK rfl (by first | exact .head | exact .tail .head | exact .tail (.tail .head) | exact .tail (.tail (.tail .head)) | exact .tail (.tail (.tail (.tail .head)))) (by first | exact tab_done _ _ | exact flat_done (by intro _; rfl) _ | rfl | assumption) | exact .objK rfl (by omega) (by first | exact .head | exact .tail .head | exact .tail (.tail .head) | exact .tail (.tail (.tail .head)) | exact .tail (.tail (.tail (.tail .head)))) (by first | exact tab_length _ _ | exact flat_length (by intro _; rfl) _ | exact (flat_length (s := 1) (by intro _; rfl) _).trans (by simp only [*]) | exact (flat_length (s := 2) (by intro _; rfl) _).trans (by simp only [*]) | exact (flat_length (s := 3) (by intro _; rfl) _).trans (by simp only [*]) | exact (flat_length (s := 4) (by intro _; rfl) _).trans (by simp only [*]) | exact (flat_length (s := 5) (by intro _; rfl) _).trans (by simp only [*]) | exact (flat_length (s := 6) (by intro _; rfl) _).trans (by simp only [*]) | rfl) (by first | exact tab_done _ _ | exact flat_done (by intro _; rfl) _ | rfl | assumption) | exact .ptr (by first | exact .head | exact .tail .head | exact .tail (.tail .head) | exact .tail (.tail (.tail .head)) | exact .tail (.tail (.tail (.tail .head)))) (by first | exact tab_done _ _ | exact flat_done (by intro _; rfl) _ | rfl | assumption)) .nil))) (within_fn _ _ _ (by omega) (by omega) (by omega)) ?_)
    refine w_assign rfl rfl ?_
    refine ws_nil ?_
    refine wc_seq ?_
    refine wc_text ?_
    have hk2 : k = 60 := by omega
    subst hk2
    have hR : ((r.drop 0).take (min r.length 20 - 0)).length ≤ 20 := by simp; omega
    refine w_move rfl rfl ?_
    refine w_move rfl rfl ?_
    first | refine w_len rfl rfl (len_lst u30) ?_ | refine w_len rfl rfl (len_slice u30) ?_ | refine w_lenO rfl u30 rfl rfl (by first | exact .head | exact .tail .head | exact .tail (.tail .head) | exact .tail (.tail (.tail .head)) | exact .tail (.tail (.tail (.tail .head)))) ?_
    refine w_min rfl rfl rfl ?_
    refine w_slice rfl rfl rfl rfl rfl (slice_al (i := 0) (j := min r.length 20) u30 s3 (by intro _; rfl) (by rfl) (natOr_of (by omega)) (by omega) (by omega)) ?_
    refine w_assign rfl rfl ?_
    refine ws_nil ?_
    refine wc_seq ?_
    refine wc_text ?_
    refine w_makeS (l := 200) (c := 200) u31 b4 s4 z4 rfl rfl rfl (by omega) (by decide) (by decide) (fun o96 => ?_)
    refine w_assign rfl rfl ?_
    refine ws_nil ?_
    refine WC.recell (o := o96) (tab 200 (tabOf (ones (((r.drop 0).take (min r.length 20 - 0)).take 0)))) (by first | exact .head | exact .tail .head | exact .tail (.tail .head) | exact .tail (.tail (.tail .head)) | exact .tail (.tail (.tail (.tail .head)))) ((repl_tab 200 false).trans (tab_congr fun i _ => rfl)) ?_
    refine wc_seq ?_
    refine wc_seq ?_
    refine wc_text ?_
    refine w_move rfl rfl ?_
    first | refine w_len rfl rfl (len_lst u30) ?_ | refine w_len rfl rfl (len_slice u30) ?_ | refine w_lenO rfl u30 rfl rfl (by first | exact .head | exact .tail .head | exact .tail (.tail .head) | exact .tail (.tail (.tail .head)) | exact .tail (.tail (.tail (.tail .head)))) ?_
    refine w_move rfl rfl ?_
    refine ws_nil ?_
    refine wc_block ?_
    refine wc_loop (σ := { k : Nat // k ≤ ((r.drop 0).take (min r.length 20 - 0)).length }) (fun s => [(9, .lst (tab 60 X) 60 false true), (10, AL eSp (S X)), (12, AL eSp (S Y)), (13, .slice (some ⟨o34, 0⟩) 60 (.exact 60)), (14, .slice (some ⟨o35, 0⟩) 60 (.exact 60)), (15, .slice (some ⟨o36, 0⟩) 60 (.exact 60)), (16, .int .i64 ((ticksTo X 60).length : Nat)), (18, .int .i64 (withinV n 0 59)), (19, AL eI ((r.drop 0).take (min r.length 20 - 0))), (20, .slice (some ⟨o96, 0⟩) 200 (.exact 200)), (97, AL eI ((r.drop 0).take (min r.length 20 - 0))), (98, .int .i64 (((r.drop 0).take (min r.length 20 - 0)).length : Nat)), (99, .int .i64 (s.1 : Nat))]) (fun s => [.obj o96 (.row 4 1 false (tab 200 (tabOf (ones (((r.drop 0).take (min r.length 20 - 0)).take s.1))))), .obj o34 (.row 4 1 false (tab 60 (upTo60 60 (orT X Y)))), .obj o35 (.row 4 1 false (tab 60 (upTo60 60 (andT X Y)))), .obj o36 (.row 4 1 false (tab 60 (upTo60 60 (lessT X Y))))]) (fun s => ((r.drop 0).take (min r.length 20 - 0)).length - s.1) ?_ ⟨0, Nat.zero_le _⟩ (.cons rfl (.cons rfl (.cons rfl (.cons rfl (.cons rfl (.cons rfl (.cons rfl (.cons rfl (.cons rfl (.cons rfl (.cons rfl (.cons rfl (.cons rfl (.nil _)))))))))))))) (Sel.weak (.cons (by first | exact .head | exact .tail .head | exact .tail (.tail .head) | exact .tail (.tail (.tail .head)) | exact .tail (.tail (.tail (.tail .head)))) (.cons (by first | exact .head | exact .tail .head | exact .tail (.tail .head) | exact .tail (.tail (.tail .head)) | exact .tail (.tail (.tail (.tail .head)))) (.cons (by first | exact .head | exact .tail .head | exact .tail (.tail .head) | exact .tail (.tail (.tail .head)) | exact .tail (.tail (.tail (.tail .head)))) (.cons (by first | exact .head | exact .tail .head | exact .tail (.tail .head) | exact .tail (.tail (.tail .head)) | exact .tail (.tail (.tail (.tail .head)))) .nil)))))
    rintro ⟨k, hk⟩
    dsimp only
    refine wc_seq ?_
    refine wc_text ?_
    refine w_lss u3 rfl rfl rfl ?_
    refine ws_nil ?_
    refine wc_seq ?_
    refine wc_cond rfl (fun h16 => ?_) (fun h16 => ?_)
    · first | replace h16 := of_decide_eq_true h16 | replace h16 := of_decide_eq_false h16 | replace h16 := of_decide_eq_false (nb_T h16) | replace h16 := of_decide_eq_true (nb_F h16) | replace h16 := nb_T h16 | replace h16 := nb_F h16 | skip
      first | replace h16 := Int.not_lt.mp h16 | replace h16 := Int.not_le.mp h16 | replace h16 := Decidable.not_not.mp h16 | skip
      refine wc_stay ?_
      refine wc_seq ?_
      refine wc_block ?_
      refine wc_seq ?_
      refine wc_text ?_
      obtain ⟨x, hx⟩ := get_of_lt (l := ((r.drop 0).take (min r.length 20 - 0))) (k := k) (by omega)
      first | refine w_lidx u30 s3 rfl rfl rfl (by omega) ?_ | refine w_slidx u30 s3 rfl rfl rfl (by omega) ?_
      first | refine w_ldC1 a3 rfl rfl (by first | exact tab_getL (by omega) | exact tab_getP (by omega) | exact flat_getI0 (by intro _; rfl) (by assumption) (by first | rfl | omega) (by decide) rfl | exact flat_getI (by intro _; rfl) (by assumption) (by first | rfl | omega) (by decide) rfl | rfl) ?_ | refine w_ldP1 a3 rfl rfl (by first | exact .head | exact .tail .head | exact .tail (.tail .head) | exact .tail (.tail (.tail .head)) | exact .tail (.tail (.tail (.tail .head)))) (by first | exact tab_getP (by omega) | exact flat_getP0 (by intro _; rfl) (by assumption) (by first | rfl | omega) (by decide) rfl | exact flat_getP (by intro _; rfl) (by assumption) (by first | rfl | omega) (by decide) rfl | rfl) ?_
      refine w_assign rfl rfl ?_
      refine ws_nil ?_
      refine wc_seq ?_
      refine wc_text ?_
      refine w_move rfl rfl ?_
      refine w_geq u3 rfl rfl rfl ?_
      refine w_move rfl rfl ?_
      refine ws_split (t := 105) rfl (fun g105 => ?_) (fun g105 => ?_)
      · first | replace g105 := of_decide_eq_true g105 | replace g105 := of_decide_eq_false g105 | replace g105 := of_decide_eq_false (nb_T g105) | replace g105 := of_decide_eq_true (nb_F g105) | replace g105 := nb_T g105 | replace g105 := nb_F g105 | skip
        first | replace g105 := Int.not_lt.mp g105 | replace g105 := Int.not_le.mp g105 | replace g105 := Decidable.not_not.mp g105 | skip
        refine ws_on rfl rfl ?_
        refine w_move rfl rfl ?_
        refine ws_on rfl rfl ?_
        refine w_lss u3 rfl rfl rfl ?_
        first | refine w_pickT rfl rfl rfl ⟨_, rfl⟩ ?_ | refine w_pickF rfl rfl ⟨_, rfl⟩ rfl ?_ | refine w_pick rfl rfl rfl rfl ?_
        refine ws_nil ?_
        refine wc_cond rfl (fun h18 => ?_) (fun h18 => ?_)
        · first | replace h18 := of_decide_eq_true h18 | replace h18 := of_decide_eq_false h18 | replace h18 := of_decide_eq_false (nb_T h18) | replace h18 := of_decide_eq_true (nb_F h18) | replace h18 := nb_T h18 | replace h18 := nb_F h18 | skip
          first | replace h18 := Int.not_lt.mp h18 | replace h18 := Int.not_le.mp h18 | replace h18 := Decidable.not_not.mp h18 | skip
          refine wc_text ?_
          refine w_move rfl rfl ?_
          refine w_move rfl rfl ?_
          first | refine w_lidx u31 s4 rfl rfl rfl (by omega) ?_ | refine w_slidx u31 s4 rfl rfl rfl (by omega) ?_
          refine w_st s4 rfl rfl rfl (by first | exact .head | exact .tail .head | exact .tail (.tail .head) | exact .tail (.tail (.tail .head)) | exact .tail (.tail (.tail (.tail .head)))) rfl rfl (by first | exact tab_setP (by omega) | exact flat_setP (off := 0) (by intro _; rfl) (by assumption) (by first | rfl | omega) rfl | exact flat_setP (off := 1) (by intro _; rfl) (by assumption) (by first | rfl | omega) rfl | rfl) ?_
          refine ws_nil ?_
          refine WC.retab (o := o96) (tabOf (ones (((r.drop 0).take (min r.length 20 - 0)).take (k + 1)))) (by first | exact .head | exact .tail .head | exact .tail (.tail .head) | exact .tail (.tail (.tail .head)) | exact .tail (.tail (.tail (.tail .head)))) (fun j _ => in_set hx (by omega)) ?_
          refine wc_text ?_
          refine w_add u3 rfl rfl rfl (by omega) ?_
          refine w_move rfl rfl ?_
          refine ws_nil ?_
          exact ⟨⟨k + 1, by omega⟩, by simp only; omega, (.cons rfl (.cons rfl (.cons rfl (.cons rfl (.cons rfl (.cons rfl (.cons rfl (.cons rfl (.cons rfl (.cons rfl (.cons rfl (.cons rfl (.cons rfl (.nil _)))))))))))))), (Sel.weak (.cons (by first | exact .head | exact .tail .head | exact .tail (.tail .head) | exact .tail (.tail (.tail .head)) | exact .tail (.tail (.tail (.tail .head)))) (.cons (by first | exact .head | exact .tail .head | exact .tail (.tail .head) | exact .tail (.tail (.tail .head)) | exact .tail (.tail (.tail (.tail .head)))) (.cons (by first | exact .head | exact .tail .head | exact .tail (.tail .head) | exact .tail (.tail (.tail .head)) | exact .tail (.tail (.tail (.tail .head)))) (.cons (by first | exact .head | exact .tail .head | exact .tail (.tail .head) | exact .tail (.tail (.tail .head)) | exact .tail (.tail (.tail (.tail .head)))) .nil)))))⟩
        · simp only [decide_eq_false_iff_not, Int.not_lt] at h18
          refine WC.retab (o := o96) (tabOf (ones (((r.drop 0).take (min r.length 20 - 0)).take (k + 1)))) (by first | exact .head | exact .tail .head | exact .tail (.tail .head) | exact .tail (.tail (.tail .head)) | exact .tail (.tail (.tail (.tail .head)))) (fun j hj => in_out hx (by omega) hj) ?_
          refine wc_stay ?_
          refine wc_text ?_
          refine w_add u3 rfl rfl rfl (by omega) ?_
          refine w_move rfl rfl ?_
          refine ws_nil ?_
          exact ⟨⟨k + 1, by omega⟩, by simp only; omega, (.cons rfl (.cons rfl (.cons rfl (.cons rfl (.cons rfl (.cons rfl (.cons rfl (.cons rfl (.cons rfl (.cons rfl (.cons rfl (.cons rfl (.cons rfl (.nil _)))))))))))))), (Sel.weak (.cons (by first | exact .head | exact .tail .head | exact .tail (.tail .head) | exact .tail (.tail (.tail .head)) | exact .tail (.tail (.tail (.tail .head)))) (.cons (by first | exact .head | exact .tail .head | exact .tail (.tail .head) | exact .tail (.tail (.tail .head)) | exact .tail (.tail (.tail (.tail .head)))) (.cons (by first | exact .head | exact .tail .head | exact .tail (.tail .head) | exact .tail (.tail (.tail .head)) | exact .tail (.tail (.tail (.tail .head)))) (.cons (by first | exact .head | exact .tail .head | exact .tail (.tail .head) | exact .tail (.tail (.tail .head)) | exact .tail (.tail (.tail (.tail .head)))) .nil)))))⟩
      · first | replace g105 := of_decide_eq_true g105 | replace g105 := of_decide_eq_false g105 | replace g105 := of_decide_eq_false (nb_T g105) | replace g105 := of_decide_eq_true (nb_F g105) | replace g105 := nb_T g105 | replace g105 := nb_F g105 | skip
        first | replace g105 := Int.not_lt.mp g105 | replace g105 := Int.not_le.mp g105 | replace g105 := Decidable.not_not.mp g105 | skip
        refine ws_off rfl rfl rfl rfl ?_
        refine ws_off rfl rfl rfl rfl ?_
        first | refine w_pickT rfl rfl rfl ⟨_, rfl⟩ ?_ | refine w_pickF rfl rfl ⟨_, rfl⟩ rfl ?_ | refine w_pick rfl rfl rfl rfl ?_
        refine ws_nil ?_
        refine wc_condF rfl ?_
        refine WC.retab (o := o96) (tabOf (ones (((r.drop 0).take (min r.length 20 - 0)).take (k + 1)))) (by first | exact .head | exact .tail .head | exact .tail (.tail .head) | exact .tail (.tail (.tail .head)) | exact .tail (.tail (.tail (.tail .head)))) (fun j hj => in_out hx (by omega) hj) ?_
        refine wc_stay ?_
        refine wc_text ?_
        refine w_add u3 rfl rfl rfl (by omega) ?_
        refine w_move rfl rfl ?_
        refine ws_nil ?_
        exact ⟨⟨k + 1, by omega⟩, by simp only; omega, (.cons rfl (.cons rfl (.cons rfl (.cons rfl (.cons rfl (.cons rfl (.cons rfl (.cons rfl (.cons rfl (.cons rfl (.cons rfl (.cons rfl (.cons rfl (.nil _)))))))))))))), (Sel.weak (.cons (by first | exact .head | exact .tail .head | exact .tail (.tail .head) | exact .tail (.tail (.tail .head)) | exact .tail (.tail (.tail (.tail .head)))) (.cons (by first | exact .head | exact .tail .head | exact .tail (.tail .head) | exact .tail (.tail (.tail .head)) | exact .tail (.tail (.tail (.tail .head)))) (.cons (by first | exact .head | exact .tail .head | exact .tail (.tail .head) | exact .tail (.tail (.tail .head)) | exact .tail (.tail (.tail (.tail .head)))) (.cons (by first | exact .head | exact .tail .head | exact .tail (.tail .head) | exact .tail (.tail (.tail .head)) | exact .tail (.tail (.tail (.tail .head)))) .nil)))))⟩
    · first | replace h16 := of_decide_eq_true h16 | replace h16 := of_decide_eq_false h16 | replace h16 := of_decide_eq_false (nb_T h16) | replace h16 := of_decide_eq_true (nb_F h16) | replace h16 := nb_T h16 | replace h16 := nb_F h16 | skip
      first | replace h16 := Int.not_lt.mp h16 | replace h16 := Int.not_le.mp h16 | replace h16 := Decidable.not_not.mp h16 | skip
      refine wc_exit ?_
      refine wc_seq ?_
      refine wc_text ?_
      have hk3 : k = ((r.drop 0).take (min r.length 20 - 0)).length := by omega
      subst hk3
      rw [List.take_length]
      refine w_move rfl rfl ?_
      refine w_build (v := .agg [_, _]) B26 rfl rfl rfl ?_
      refine w_call rfl rfl (cw_fn rfl rfl (.cons (by first | exact .closed rfl | exact .nil | exact .ownV rfl (by first | exact .head | exact .tail .head | exact .tail (.tail .head) | exact .tail (.tail (.tail .head)) | exact .tail (.tail (.tail (.tail .head)))) (by first | exact tab_done _ _ | exact flat_done (by intro _; rfl) _ | rfl | assumption) | exact .objV rfl (by first | exact .head | exact .tail .head | exact .tail (.tail .head) | exact .tail (.tail (.tail .head)) | exact .tail (.tail (.tail (.tail .head)))) (by first | exact tab_length _ _ | exact flat_length (by intro _; rfl) _ | exact (flat_length (s := 1) (by intro _; rfl) _).trans (by simp only [*]) | exact (flat_length (s := 2) (by intro _; rfl) _).trans (by simp only [*]) | exact (flat_length (s := 3) (by intro _; rfl) _).trans (by simp only [*]) | exact (flat_length (s := 4) (by intro _; rfl) _).trans (by simp only [*]) | exact (flat_length (s := 5) (by intro _; rfl) _).trans (by simp only [*]) | exact (flat_length (s := 6) (by intro _; rfl) _).trans (by simp only [*]) | rfl) (by first | exact tab_done _ _ | exact flat_done (by intro _; rfl) _ | rfl | assumption) | exact .ownK rfl (by first | exact .head | exact .tail .head | exact .tail (.tail .head) | exact .tail (.tail (.tail .head)) | exact .tail (.tail (.tail (.tail .head)))) (by first | exact tab_done _ _ | exact flat_done (by intro _; rfl) _ | rfl | assumption) | exact .objK rfl (by omega) (by first | exact .head | exact .tail .head | exact .tail (.tail .head) | exact .tail (.tail (.tail .head)) | exact .tail (.tail (.tail (.tail .head)))) (by first | exact tab_length _ _ | exact flat_length (by intro _; rfl) _ | exact (flat_length (s := 1) (by intro _; rfl) _).trans (by simp only [*]) | exact (flat_length (s := 2) (by intro _; rfl) _).trans (by simp only [*]) | exact (flat_length (s := 3) (by intro _; rfl) _).trans (by simp only [*]) | exact (flat_length (s := 4) (by intro _; rfl) _).trans (by simp only [*]) | exact (flat_length (s := 5) (by intro _; rfl) _).trans (by simp only [*]) | exact (flat_length (s := 6) (by intro _; rfl) _).trans (by simp only [*]) | rfl) (by first | exact tab_done _ _ | exact flat_done (by intro _; rfl) _ | rfl | assumption) | exact .ptr (by first | exact .head | exact .tail .head | exact .tail (.tail .head) | exact .tail (.tail (.tail .head)) | exact .tail (.tail (.tail (.tail .head)))) (by first | exact tab_done _ _ | exact flat_done (by intro _; rfl) _ | rfl | assumption)) (.cons (by first | exact .closed rfl | exact .nil | exact .ownV rfl (by first | exact .head | exact .tail .head | exact .tail (.tail .head) | exact .tail (.tail (.tail .head)) | exact .tail (.tail (.tail (.tail .head)))) (by first | exact tab_done _ _ | exact flat_done (by intro _; rfl) _ | rfl | assumption) | exact .objV rfl (by first | exact .head | exact .tail .head | exact .tail (.tail .head) | exact .tail (.tail (.tail .head)) | exact .tail (.tail (.tail (.tail .head)))) (by first | exact tab_length _ _ | exact flat_length (by intro _; rfl) _ | exact (flat_length (s := 1) (by intro _; rfl) _).trans (by simp only [*]) | exact (flat_length (s := 2) (by intro _; rfl) _).trans (by simp only [*]) | exact (flat_length (s := 3) (by intro _; rfl) _).trans (by simp only [*]) | exact (flat_length (s := 4) (by intro _; rfl) _).trans (by simp only [*]) | exact (flat_length (s := 5) (by intro _; rfl) _).trans (by simp only [*]) | exact (flat_length (s := 6) (by intro _; rfl) _).trans (by simp only [*]) | rfl) (by first | exact tab_done _ _ | exact flat_done (by intro _; rfl) _ | rfl | assumption) | exact .ownK rfl (by first | exact .head | exact .tail .head | exact .tail (.tail .head) | exact .tail (.tail (.tail .head)) | exact .tail (.tail (.tail (.tail .head)))) (by first | exact tab_done _ _ | exact flat_done (by intro _; rfl) _ | rfl | assumption) | exact .objK rfl (by omega) (by first | exact .head | exact .tail .head | exact .tail (.tail .head) | exact .tail (.tail (.tail .head)) | exact .tail (.tail (.tail (.tail .head)))) (by first | exact tab_length _ _ | exact flat_length (by intro _; rfl) _ | exact (flat_length (s := 1) (by intro _; rfl) _).trans (by simp only [*]) | exact (flat_length (s := 2) (by intro _; rfl) _).trans (by simp only [*]) | exact (flat_length (s := 3) (by intro _; rfl) _).trans (by simp only [*]) | exact (flat_length (s := 4) (by intro _; rfl) _).trans (by simp only [*]) | exact (flat_length (s := 5) (by intro _; rfl) _).trans (by simp only [*]) | exact (flat_length (s := 6) (by intro _; rfl) _).trans (by simp only [*]) | rfl) (by first | exact tab_done _ _ | exact flat_done (by intro _; rfl) _ | rfl | assumption) | exact .ptr (by first | exact .head | exact .tail .head | exact .tail (.tail .head) | exact .tail (.tail (.tail .head)) | exact .tail (.tail (.tail (.tail .head)))) (by first | exact tab_done _ _ | exact flat_done (by intro _; rfl) _ | rfl | assumption)) .nil)) (roomy_fn _ _ _ (by omega)) ?_)
      refine w_assign rfl rfl ?_
      refine ws_nil ?_
      refine wc_seq ?_
      refine wc_seq ?_
      refine wc_text ?_
      have hroom := roomL_length (S X) (9, 0) (j := 80) (by omega)
      have law1 : normL [S X, S Y].flatten = spansTo (upTo60 60 (orT X Y)) 60 := by rw [join_S, spans_up, spans60 (orT_out hX hY)]
      have law2 : bothL (S X) (S Y) = spansTo (upTo60 60 (andT X Y)) 60 := by rw [both_S, spans_up, spans60 (andT_out hX)]
      have law3 : lessL (S X) (S Y) = spansTo (upTo60 60 (lessT X Y)) 60 := by rw [less_S, spans_up, spans60 (lessT_out hX)]
      refine w_move rfl rfl ?_
      refine w_move rfl rfl ?_
      first | refine w_len rfl rfl (len_lst u22) ?_ | refine w_len rfl rfl (len_slice u22) ?_ | refine w_lenO rfl u22 rfl rfl (by first | exact .head | exact .tail .head | exact .tail (.tail .head) | exact .tail (.tail (.tail .head)) | exact .tail (.tail (.tail (.tail .head)))) ?_
      refine w_slice rfl rfl rfl rfl rfl (slice_al u22 s26 (by intro _; rfl) (by rfl) (by rfl) (by omega) (by omega)) ?_
      rw [room_take]
      refine w_move rfl rfl ?_
      refine w_buildS (cs := [_, _]) u59 s22 z22 (by decide) rfl rfl rfl (fun o121 => ?_)
      refine w_call rfl rfl (cw_fn rfl rfl (.cons (by first | exact .closed rfl | exact .nil | exact .ownV rfl (by first | exact .head | exact .tail .head | exact .tail (.tail .head) | exact .tail (.tail (.tail .head)) | exact .tail (.tail (.tail (.tail .head)))) (by first | exact tab_done _ _ | exact flat_done (by intro _; rfl) _ | rfl | assumption) | exact .objV rfl (by first | exact .head | exact .tail .head | exact .tail (.tail .head) | exact .tail (.tail (.tail .head)) | exact .tail (.tail (.tail (.tail .head)))) (by first | exact tab_length _ _ | exact flat_length (by intro _; rfl) _ | exact (flat_length (s := 1) (by intro _; rfl) _).trans (by simp only [*]) | exact (flat_length (s := 2) (by intro _; rfl) _).trans (by simp only [*]) | exact (flat_length (s := 3) (by intro _; rfl) _).trans (by simp only [*]) | exact (flat_length (s := 4) (by intro _; rfl) _).trans (by simp only [*]) | exact (flat_length (s := 5) (by intro _; rfl) _).trans (by simp only [*]) | exact (flat_length (s := 6) (by intro _; rfl) _).trans (by simp only [*]) | rfl) (by first | exact tab_done _ _ | exact flat_done (by intro _; rfl) _ | rfl | assumption) | exact .ownK rfl (by first | exact .head | exact .tail .head | exact .tail (.tail .head) | exact .tail (.tail (.tail .head)) | exact .tail (.tail (.tail (.tail .head)))) (by first | exact tab_done _ _ | exact flat_done (by intro _; rfl) _ | rfl | assumption) | exact .objK rfl (by omega) (by first | exact .head | exact .tail .head | exact .tail (.tail .head) | exact .tail (.tail (.tail .head)) | exact .tail (.tail (.tail (.tail .head)))) (by first | exact tab_length _ _ | exact flat_length (by intro _; rfl) _ | exact (flat_length (s := 1) (by intro _; rfl) _).trans (by simp only [*]) | exact (flat_length (s := 2) (by intro _; rfl) _).trans (by simp only [*]) | exact (flat_length (s := 3) (by intro _; rfl) _).trans (by simp only [*]) | exact (flat_length (s := 4) (by intro _; rfl) _).trans (by simp only [*]) | exact (flat_length (s := 5) (by intro _; rfl) _).trans (by simp only [*]) | exact (flat_length (s := 6) (by intro _; rfl) _).trans (by simp only [*]) | rfl) (by first | exact tab_done _ _ | exact flat_done (by intro _; rfl) _ | rfl | assumption) | exact .ptr (by first | exact .head | exact .tail .head | exact .tail (.tail .head) | exact .tail (.tail (.tail .head)) | exact .tail (.tail (.tail (.tail .head)))) (by first | exact tab_done _ _ | exact flat_done (by intro _; rfl) _ | rfl | assumption)) .nil) (join_fn [S X, S Y] (by simp) (by intro x hx; simp only [List.mem_cons, List.not_mem_nil, or_false] at hx; rcases hx with rfl | rfl <;> omega)) ?_)
      refine w_move rfl rfl ?_
      refine w_call rfl rfl (cw_fn rfl rfl (.cons (by first | exact .closed rfl | exact .nil | exact .ownV rfl (by first | exact .head | exact .tail .head | exact .tail (.tail .head) | exact .tail (.tail (.tail .head)) | exact .tail (.tail (.tail (.tail .head)))) (by first | exact tab_done _ _ | exact flat_done (by intro _; rfl) _ | rfl | assumption) | exact .objV rfl (by first | exact .head | exact .tail .head | exact .tail (.tail .head) | exact .tail (.tail (.tail .head)) | exact .tail (.tail (.tail (.tail .head)))) (by first | exact tab_length _ _ | exact flat_length (by intro _; rfl) _ | exact (flat_length (s := 1) (by intro _; rfl) _).trans (by simp only [*]) | exact (flat_length (s := 2) (by intro _; rfl) _).trans (by simp only [*]) | exact (flat_length (s := 3) (by intro _; rfl) _).trans (by simp only [*]) | exact (flat_length (s := 4) (by intro _; rfl) _).trans (by simp only [*]) | exact (flat_length (s := 5) (by intro _; rfl) _).trans (by simp only [*]) | exact (flat_length (s := 6) (by intro _; rfl) _).trans (by simp only [*]) | rfl) (by first | exact tab_done _ _ | exact flat_done (by intro _; rfl) _ | rfl | assumption) | exact .ownK rfl (by first | exact .head | exact .tail .head | exact .tail (.tail .head) | exact .tail (.tail (.tail .head)) | exact .tail (.tail (.tail (.tail .head)))) (by first | exact tab_done _ _ | exact flat_done (by intro _; rfl) _ | rfl | assumption) | exact .objK rfl (by omega) (by first | exact .head | exact .tail .head | exact .tail (.tail .head) | exact .tail (.tail (.tail .head)) | exact .tail (.tail (.tail (.tail .head)))) (by first | exact tab_length _ _ | exact flat_length (by intro _; rfl) _ | exact (flat_length (s := 1) (by intro _; rfl) _).trans (by simp only [*]) | exact (flat_length (s := 2) (by intro _; rfl) _).trans (by simp only [*]) | exact (flat_length (s := 3) (by intro _; rfl) _).trans (by simp only [*]) | exact (flat_length (s := 4) (by intro _; rfl) _).trans (by simp only [*]) | exact (flat_length (s := 5) (by intro _; rfl) _).trans (by simp only [*]) | exact (flat_length (s := 6) (by intro _; rfl) _).trans (by simp only [*]) | rfl) (by first | exact tab_done _ _ | exact flat_done (by intro _; rfl) _ | rfl | assumption) | exact .ptr (by first | exact .head | exact .tail .head | exact .tail (.tail .head) | exact .tail (.tail (.tail .head)) | exact .tail (.tail (.tail (.tail .head)))) (by first | exact tab_done _ _ | exact flat_done (by intro _; rfl) _ | rfl | assumption)) .nil) (ref_fn _ _ (by omega)) ?_)
      refine w_call rfl rfl (cw_fn rfl rfl (.cons (by first | exact .closed rfl | exact .nil | exact .ownV rfl (by first | exact .head | exact .tail .head | exact .tail (.tail .head) | exact .tail (.tail (.tail .head)) | exact .tail (.tail (.tail (.tail .head)))) (by first | exact tab_done _ _ | exact flat_done (by intro _; rfl) _ | rfl | assumption) | exact .objV rfl (by first | exact .head | exact .tail .head | exact .tail (.tail .head) | exact .tail (.tail (.tail .head)) | exact .tail (.tail (.tail (.tail .head)))) (by first | exact tab_length _ _ | exact flat_length (by intro _; rfl) _ | exact (flat_length (s := 1) (by intro _; rfl) _).trans (by simp only [*]) | exact (flat_length (s := 2) (by intro _; rfl) _).trans (by simp only [*]) | exact (flat_length (s := 3) (by intro _; rfl) _).trans (by simp only [*]) | exact (flat_length (s := 4) (by intro _; rfl) _).trans (by simp only [*]) | exact (flat_length (s := 5) (by intro _; rfl) _).trans (by simp only [*]) | exact (flat_length (s := 6) (by intro _; rfl) _).trans (by simp only [*]) | rfl) (by first | exact tab_done _ _ | exact flat_done (by intro _; rfl) _ | rfl | assumption) | exact .ownK rfl (by first | exact .head | exact .tail .head | exact .tail (.tail .head) | exact .tail (.tail (.tail .head)) | exact .tail (.tail (.tail (.tail .head)))) (by first | exact tab_done _ _ | exact flat_done (by intro _; rfl) _ | rfl | assumption) | exact .objK rfl (by omega) (by first | exact .head | exact .tail .head | exact .tail (.tail .head) | exact .tail (.tail (.tail .head)) | exact .tail (.tail (.tail (.tail .head)))) (by first | exact tab_length _ _ | exact flat_length (by intro _; rfl) _ | exact (flat_length (s := 1) (by intro _; rfl) _).trans (by simp only [*]) | exact (flat_length (s := 2) (by intro _; rfl) _).trans (by simp only [*]) | exact (flat_length (s := 3) (by intro _; rfl) _).trans (by simp only [*]) | exact (flat_length (s := 4) (by intro _; rfl) _).trans (by simp only [*]) | exact (flat_length (s := 5) (by intro _; rfl) _).trans (by simp only [*]) | exact (flat_length (s := 6) (by intro _; rfl) _).trans (by simp only [*]) | rfl) (by first | exact tab_done _ _ | exact flat_done (by intro _; rfl) _ | rfl | assumption) | exact .ptr (by first | exact .head | exact .tail .head | exact .tail (.tail .head) | exact .tail (.tail (.tail .head)) | exact .tail (.tail (.tail (.tail .head)))) (by first | exact tab_done _ _ | exact flat_done (by intro _; rfl) _ | rfl | assumption)) (.cons (by first | exact .closed rfl | exact .nil | exact .ownV rfl (by first | exact .head | exact .tail .head | exact .tail (.tail .head) | exact .tail (.tail (.tail .head)) | exact .tail (.tail (.tail (.tail .head)))) (by first | exact tab_done _ _ | exact flat_done (by intro _; rfl) _ | rfl | assumption) | exact .objV rfl (by first | exact .head | exact .tail .head | exact .tail (.tail .head) | exact .tail (.tail (.tail .head)) | exact .tail (.tail (.tail (.tail .head)))) (by first | exact tab_length _ _ | exact flat_length (by intro _; rfl) _ | exact (flat_length (s := 1) (by intro _; rfl) _).trans (by simp only [*]) | exact (flat_length (s := 2) (by intro _; rfl) _).trans (by simp only [*]) | exact (flat_length (s := 3) (by intro _; rfl) _).trans (by simp only [*]) | exact (flat_length (s := 4) (by intro _; rfl) _).trans (by simp only [*]) | exact (flat_length (s := 5) (by intro _; rfl) _).trans (by simp only [*]) | exact (flat_length (s := 6) (by intro _; rfl) _).trans (by simp only [*]) | rfl) (by first | exact tab_done _ _ | exact flat_done (by intro _; rfl) _ | rfl | assumption) | exact .ownK rfl (by first | exact .head | exact .tail .head | exact .tail (.tail .head) | exact .tail (.tail (.tail .head)) | exact .tail (.tail (.tail (.tail .head)))) (by first | exact tab_done _ _ | exact flat_done (by intro _; rfl) _ | rfl | assumption) | exact .objK rfl (by omega) (by first | exact .head | exact .tail .head | exact .tail (.tail .head) | exact .tail (.tail (.tail .head)) | exact .tail (.tail (.tail (.tail .head)))) (by first | exact tab_length _ _ | exact flat_length (by intro _; rfl) _ | exact (flat_length (s := 1) (by intro _; rfl) _).trans (by simp only [*]) | exact (flat_length (s := 2) (by intro _; rfl) _).trans (by simp only [*]) | exact (flat_length (s := 3) (by intro _; rfl) _).trans (by simp only [*]) | exact (flat_length (s := 4) (by intro _; rfl) _).trans (by simp only [*]) | exact (flat_length (s := 5) (by intro _; rfl) _).trans (by simp only [*]) | exact (flat_length (s := 6) (by intro _; rfl) _).trans (by simp only [*]) | rfl) (by first | exact tab_done _ _ | exact flat_done (by intro _; rfl) _ | rfl | assumption) | exact .ptr (by first | exact .head | exact .tail .head | exact .tail (.tail .head) | exact .tail (.tail (.tail .head)) | exact .tail (.tail (.tail (.tail .head)))) (by first | exact tab_done _ _ | exact flat_done (by intro _; rfl) _ | rfl | assumption)) .nil)) (sameSp_fn _ _ (by first | omega | exact Nat.lt_of_le_of_lt (spansTo_bound _ 200).1 (by decide) | (simp only [List.length_take, List.length_drop]; omega))) ?_)
      refine w_not rfl rfl ?_
      refine w_move rfl rfl ?_
      refine ws_split (t := 127) rfl (fun g127 => ?_) (fun g127 => ?_)
      · first | replace g127 := of_decide_eq_true g127 | replace g127 := of_decide_eq_false g127 | replace g127 := of_decide_eq_false (nb_T g127) | replace g127 := of_decide_eq_true (nb_F g127) | replace g127 := nb_T g127 | replace g127 := nb_F g127 | skip
        first | replace g127 := Int.not_lt.mp g127 | replace g127 := Int.not_le.mp g127 | replace g127 := Decidable.not_not.mp g127 | skip
        exact absurd law1 g127
      · first | replace g127 := of_decide_eq_true g127 | replace g127 := of_decide_eq_false g127 | replace g127 := of_decide_eq_false (nb_T g127) | replace g127 := of_decide_eq_true (nb_F g127) | replace g127 := nb_T g127 | replace g127 := nb_F g127 | skip
        first | replace g127 := Int.not_lt.mp g127 | replace g127 := Int.not_le.mp g127 | replace g127 := Decidable.not_not.mp g127 | skip
        refine ws_on rfl rfl ?_
        refine w_move rfl rfl ?_
        refine ws_on rfl rfl ?_
        refine w_move rfl rfl ?_
        refine ws_on rfl rfl ?_
        first | refine w_len rfl rfl (len_lst u22) ?_ | refine w_len rfl rfl (len_slice u22) ?_ | refine w_lenO rfl u22 rfl rfl (by first | exact .head | exact .tail .head | exact .tail (.tail .head) | exact .tail (.tail (.tail .head)) | exact .tail (.tail (.tail (.tail .head)))) ?_
        refine ws_on rfl rfl ?_
        refine w_slice rfl rfl rfl rfl rfl (slice_al u22 s26 (by intro _; rfl) (by rfl) (by rfl) (by omega) (by omega)) ?_
        rw [room_take]
        refine ws_on rfl rfl ?_
        refine w_move rfl rfl ?_
        refine ws_on rfl rfl ?_
        refine w_call rfl rfl (cw_fn rfl rfl (.cons (by first | exact .closed rfl | exact .nil | exact .ownV rfl (by first | exact .head | exact .tail .head | exact .tail (.tail .head) | exact .tail (.tail (.tail .head)) | exact .tail (.tail (.tail (.tail .head)))) (by first | exact tab_done _ _ | exact flat_done (by intro _; rfl) _ | rfl | assumption) | exact .objV rfl (by first | exact .head | exact .tail .head | exact .tail (.tail .head) | exact .tail (.tail (.tail .head)) | exact .tail (.tail (.tail (.tail .head)))) (by first | exact tab_length _ _ | exact flat_length (by intro _; rfl) _ | exact (flat_length (s := 1) (by intro _; rfl) _).trans (by simp only [*]) | exact (flat_length (s := 2) (by intro _; rfl) _).trans (by simp only [*]) | exact (flat_length (s := 3) (by intro _; rfl) _).trans (by simp only [*]) | exact (flat_length (s := 4) (by intro _; rfl) _).trans (by simp only [*]) | exact (flat_length (s := 5) (by intro _; rfl) _).trans (by simp only [*]) | exact (flat_length (s := 6) (by intro _; rfl) _).trans (by simp only [*]) | rfl) (by first | exact tab_done _ _ | exact flat_done (by intro _; rfl) _ | rfl | assumption) | exact .ownK rfl (by first | exact .head | exact .tail .head | exact .tail (.tail .head) | exact .tail (.tail (.tail .head)) | exact .tail (.tail (.tail (.tail .head)))) (by first | exact tab_done _ _ | exact flat_done (by intro _; rfl) _ | rfl | assumption) | exact .objK rfl (by omega) (by first | exact .head | exact .tail .head | exact .tail (.tail .head) | exact .tail (.tail (.tail .head)) | exact .tail (.tail (.tail (.tail .head)))) (by first | exact tab_length _ _ | exact flat_length (by intro _; rfl) _ | exact (flat_length (s := 1) (by intro _; rfl) _).trans (by simp only [*]) | exact (flat_length (s := 2) (by intro _; rfl) _).trans (by simp only [*]) | exact (flat_length (s := 3) (by intro _; rfl) _).trans (by simp only [*]) | exact (flat_length (s := 4) (by intro _; rfl) _).trans (by simp only [*]) | exact (flat_length (s := 5) (by intro _; rfl) _).trans (by simp only [*]) | exact (flat_length (s := 6) (by intro _; rfl) _).trans (by simp only [*]) | rfl) (by first | exact tab_done _ _ | exact flat_done (by intro _; rfl) _ | rfl | assumption) | exact .ptr (by first | exact .head | exact .tail .head | exact .tail (.tail .head) | exact .tail (.tail (.tail .head)) | exact .tail (.tail (.tail (.tail .head)))) (by first | exact tab_done _ _ | exact flat_done (by intro _; rfl) _ | rfl | assumption)) (.cons (by first | exact .closed rfl | exact .nil | exact .ownV rfl (by first | exact .head | exact .tail .head | exact .tail (.tail .head) | exact .tail (.tail (.tail .head)) | exact .tail (.tail (.tail (.tail .head)))) (by first | exact tab_done _ _ | exact flat_done (by intro _; rfl) _ | rfl | assumption) | exact .objV rfl (by first | exact .head | exact .tail .head | exact .tail (.tail .head) | exact .tail (.tail (.tail .head)) | exact .tail (.tail (.tail (.tail .head)))) (by first | exact tab_length _ _ | exact flat_length (by intro _; rfl) _ | exact (flat_length (s := 1) (by intro _; rfl) _).trans (by simp only [*]) | exact (flat_length (s := 2) (by intro _; rfl) _).trans (by simp only [*]) | exact (flat_length (s := 3) (by intro _; rfl) _).trans (by simp only [*]) | exact (flat_length (s := 4) (by intro _; rfl) _).trans (by simp only [*]) | exact (flat_length (s := 5) (by intro _; rfl) _).trans (by simp only [*]) | exact (flat_length (s := 6) (by intro _; rfl) _).trans (by simp only [*]) | rfl) (by first | exact tab_done _ _ | exact flat_done (by intro _; rfl) _ | rfl | assumption) | exact .ownK rfl (by first | exact .head | exact .tail .head | exact .tail (.tail .head) | exact .tail (.tail (.tail .head)) | exact .tail (.tail (.tail (.tail .head)))) (by first | exact tab_done _ _ | exact flat_done (by intro _; rfl) _ | rfl | assumption) | exact .objK rfl (by omega) (by first | exact .head | exact .tail .head | exact .tail (.tail .head) | exact .tail (.tail (.tail .head)) | exact .tail (.tail (.tail (.tail .head)))) (by first | exact tab_length _ _ | exact flat_length (by intro _; rfl) _ | exact (flat_length (s := 1) (by intro _; rfl) _).trans (by simp only [*]) | exact (flat_length (s := 2) (by intro _; rfl) _).trans (by simp only [*]) | exact (flat_length (s := 3) (by intro _; rfl) _).trans (by simp only [*]) | exact (flat_length (s := 4) (by intro _; rfl) _).trans (by simp only [*]) | exact (flat_length (s := 5) (by intro _; rfl) _).trans (by simp only [*]) | exact (flat_length (s := 6) (by intro _; rfl) _).trans (by simp only [*]) | rfl) (by first | exact tab_done _ _ | exact flat_done (by intro _; rfl) _ | rfl | assumption) | exact .ptr (by first | exact .head | exact .tail .head | exact .tail (.tail .head) | exact .tail (.tail (.tail .head)) | exact .tail (.tail (.tail (.tail .head)))) (by first | exact tab_done _ _ | exact flat_done (by intro _; rfl) _ | rfl | assumption)) .nil)) (both_fn _ _ (by omega) (by omega)) ?_)
        refine ws_on rfl rfl ?_
        refine w_move rfl rfl ?_
        refine ws_on rfl rfl ?_
        refine w_call rfl rfl (cw_fn rfl rfl (.cons (by first | exact .closed rfl | exact .nil | exact .ownV rfl (by first | exact .head | exact .tail .head | exact .tail (.tail .head) | exact .tail (.tail (.tail .head)) | exact .tail (.tail (.tail (.tail .head)))) (by first | exact tab_done _ _ | exact flat_done (by intro _; rfl) _ | rfl | assumption) | exact .objV rfl (by first | exact .head | exact .tail .head | exact .tail (.tail .head) | exact .tail (.tail (.tail .head)) | exact .tail (.tail (.tail (.tail .head)))) (by first | exact tab_length _ _ | exact flat_length (by intro _; rfl) _ | exact (flat_length (s := 1) (by intro _; rfl) _).trans (by simp only [*]) | exact (flat_length (s := 2) (by intro _; rfl) _).trans (by simp only [*]) | exact (flat_length (s := 3) (by intro _; rfl) _).trans (by simp only [*]) | exact (flat_length (s := 4) (by intro _; rfl) _).trans (by simp only [*]) | exact (flat_length (s := 5) (by intro _; rfl) _).trans (by simp only [*]) | exact (flat_length (s := 6) (by intro _; rfl) _).trans (by simp only [*]) | rfl) (by first | exact tab_done _ _ | exact flat_done (by intro _; rfl) _ | rfl | assumption) | exact .ownK rfl (by first | exact .head | exact .tail .head | exact .tail (.tail .head) | exact .tail (.tail (.tail .head)) | exact .tail (.tail (.tail (.tail .head)))) (by first | exact tab_done _ _ | exact flat_done (by intro _; rfl) _ | rfl | assumption) | exact .objK rfl (by omega) (by first | exact .head | exact .tail .head | exact .tail (.tail .head) | exact .tail (.tail (.tail .head)) | exact .tail (.tail (.tail (.tail .head)))) (by first | exact tab_length _ _ | exact flat_length (by intro _; rfl) _ | exact (flat_length (s := 1) (by intro _; rfl) _).trans (by simp only [*]) | exact (flat_length (s := 2) (by intro _; rfl) _).trans (by simp only [*]) | exact (flat_length (s := 3) (by intro _; rfl) _).trans (by simp only [*]) | exact (flat_length (s := 4) (by intro _; rfl) _).trans (by simp only [*]) | exact (flat_length (s := 5) (by intro _; rfl) _).trans (by simp only [*]) | exact (flat_length (s := 6) (by intro _; rfl) _).trans (by simp only [*]) | rfl) (by first | exact tab_done _ _ | exact flat_done (by intro _; rfl) _ | rfl | assumption) | exact .ptr (by first | exact .head | exact .tail .head | exact .tail (.tail .head) | exact .tail (.tail (.tail .head)) | exact .tail (.tail (.tail (.tail .head)))) (by first | exact tab_done _ _ | exact flat_done (by intro _; rfl) _ | rfl | assumption)) .nil) (ref_fn _ _ (by omega)) ?_)
        refine ws_on rfl rfl ?_
        refine w_call rfl rfl (cw_fn rfl rfl (.cons (by first | exact .closed rfl | exact .nil | exact .ownV rfl (by first | exact .head | exact .tail .head | exact .tail (.tail .head) | exact .tail (.tail (.tail .head)) | exact .tail (.tail (.tail (.tail .head)))) (by first | exact tab_done _ _ | exact flat_done (by intro _; rfl) _ | rfl | assumption) | exact .objV rfl (by first | exact .head | exact .tail .head | exact .tail (.tail .head) | exact .tail (.tail (.tail .head)) | exact .tail (.tail (.tail (.tail .head)))) (by first | exact tab_length _ _ | exact flat_length (by intro _; rfl) _ | exact (flat_length (s := 1) (by intro _; rfl) _).trans (by simp only [*]) | exact (flat_length (s := 2) (by intro _; rfl) _).trans (by simp only [*]) | exact (flat_length (s := 3) (by intro _; rfl) _).trans (by simp only [*]) | exact (flat_length (s := 4) (by intro _; rfl) _).trans (by simp only [*]) | exact (flat_length (s := 5) (by intro _; rfl) _).trans (by simp only [*]) | exact (flat_length (s := 6) (by intro _; rfl) _).trans (by simp only [*]) | rfl) (by first | exact tab_done _ _ | exact flat_done (by intro _; rfl) _ | rfl | assumption) | exact .ownK rfl (by first | exact .head | exact .tail .head | exact .tail (.tail .head) | exact .tail (.tail (.tail .head)) | exact .tail (.tail (.tail (.tail .head)))) (by first | exact tab_done _ _ | exact flat_done (by intro _; rfl) _ | rfl | assumption) | exact .objK rfl (by omega) (by first | exact .head | exact .tail .head | exact .tail (.tail .head) | exact .tail (.tail (.tail .head)) | exact .tail (.tail (.tail (.tail .head)))) (by first | exact tab_length _ _ | exact flat_length (by intro _; rfl) _ | exact (flat_length (s := 1) (by intro _; rfl) _).trans (by simp only [*]) | exact (flat_length (s := 2) (by intro _; rfl) _).trans (by simp only [*]) | exact (flat_length (s := 3) (by intro _; rfl) _).trans (by simp only [*]) | exact (flat_length (s := 4) (by intro _; rfl) _).trans (by simp only [*]) | exact (flat_length (s := 5) (by intro _; rfl) _).trans (by simp only [*]) | exact (flat_length (s := 6) (by intro _; rfl) _).trans (by simp only [*]) | rfl) (by first | exact tab_done _ _ | exact flat_done (by intro _; rfl) _ | rfl | assumption) | exact .ptr (by first | exact .head | exact .tail .head | exact .tail (.tail .head) | exact .tail (.tail (.tail .head)) | exact .tail (.tail (.tail (.tail .head)))) (by first | exact tab_done _ _ | exact flat_done (by intro _; rfl) _ | rfl | assumption)) (.cons (by first | exact .closed rfl | exact .nil | exact .ownV rfl (by first | exact .head | exact .tail .head | exact .tail (.tail .head) | exact .tail (.tail (.tail .head)) | exact .tail (.tail (.tail (.tail .head)))) (by first | exact tab_done _ _ | exact flat_done (by intro _; rfl) _ | rfl | assumption) | exact .objV rfl (by first | exact .head | exact .tail .head | exact .tail (.tail .head) | exact .tail (.tail (.tail .head)) | exact .tail (.tail (.tail (.tail .head)))) (by first | exact tab_length _ _ | exact flat_length (by intro _; rfl) _ | exact (flat_length (s := 1) (by intro _; rfl) _).trans (by simp only [*]) | exact (flat_length (s := 2) (by intro _; rfl) _).trans (by simp only [*]) | exact (flat_length (s := 3) (by intro _; rfl) _).trans (by simp only [*]) | exact (flat_length (s := 4) (by intro _; rfl) _).trans (by simp only [*]) | exact (flat_length (s := 5) (by intro _; rfl) _).trans (by simp only [*]) | exact (flat_length (s := 6) (by intro _; rfl) _).trans (by simp only [*]) | rfl) (by first | exact tab_done _ _ | exact flat_done (by intro _; rfl) _ | rfl | assumption) | exact .ownK rfl (by first | exact .head | exact .tail .head | exact .tail (.tail .head) | exact .tail (.tail (.tail .head)) | exact .tail (.tail (.tail (.tail .head)))) (by first | exact tab_done _ _ | exact flat_done (by intro _; rfl) _ | rfl | assumption) | exact .objK rfl (by omega) (by first | exact .head | exact .tail .head | exact .tail (.tail .head) | exact .tail (.tail (.tail .head)) | exact .tail (.tail (.tail (.tail .head)))) (by first | exact tab_length _ _ | exact flat_length (by intro _; rfl) _ | exact (flat_length (s := 1) (by intro _; rfl) _).trans (by simp only [*]) | exact (flat_length (s := 2) (by intro _; rfl) _).trans (by simp only [*]) | exact (flat_length (s := 3) (by intro _; rfl) _).trans (by simp only [*]) | exact (flat_length (s := 4) (by intro _; rfl) _).trans (by simp only [*]) | exact (flat_length (s := 5) (by intro _; rfl) _).trans (by simp only [*]) | exact (flat_length (s := 6) (by intro _; rfl) _).trans (by simp only [*]) | rfl) (by first | exact tab_done _ _ | exact flat_done (by intro _; rfl) _ | rfl | assumption) | exact .ptr (by first | exact .head | exact .tail .head | exact .tail (.tail .head) | exact .tail (.tail (.tail .head)) | exact .tail (.tail (.tail (.tail .head)))) (by first | exact tab_done _ _ | exact flat_done (by intro _; rfl) _ | rfl | assumption)) .nil)) (sameSp_fn _ _ (by first | omega | exact Nat.lt_of_le_of_lt (spansTo_bound _ 200).1 (by decide) | (simp only [List.length_take, List.length_drop]; omega))) ?_)
        refine ws_on rfl rfl ?_
        refine w_not rfl rfl ?_
        first | refine w_pickT rfl rfl rfl ⟨_, rfl⟩ ?_ | refine w_pickF rfl rfl ⟨_, rfl⟩ rfl ?_ | refine w_pick rfl rfl rfl rfl ?_
        refine w_move rfl rfl ?_
        refine ws_split (t := 139) rfl (fun g139 => ?_) (fun g139 => ?_)
        · first | replace g139 := of_decide_eq_true g139 | replace g139 := of_decide_eq_false g139 | replace g139 := of_decide_eq_false (nb_T g139) | replace g139 := of_decide_eq_true (nb_F g139) | replace g139 := nb_T g139 | replace g139 := nb_F g139 | skip
          first | replace g139 := Int.not_lt.mp g139 | replace g139 := Int.not_le.mp g139 | replace g139 := Decidable.not_not.mp g139 | skip
          exact absurd law2 g139
        · first | replace g139 := of_decide_eq_true g139 | replace g139 := of_decide_eq_false g139 | replace g139 := of_decide_eq_false (nb_T g139) | replace g139 := of_decide_eq_true (nb_F g139) | replace g139 := nb_T g139 | replace g139 := nb_F g139 | skip
          first | replace g139 := Int.not_lt.mp g139 | replace g139 := Int.not_le.mp g139 | replace g139 := Decidable.not_not.mp g139 | skip
          refine ws_on rfl rfl ?_
          refine w_move rfl rfl ?_
          refine ws_on rfl rfl ?_
          refine w_move rfl rfl ?_
          refine ws_on rfl rfl ?_
          first | refine w_len rfl rfl (len_lst u22) ?_ | refine w_len rfl rfl (len_slice u22) ?_ | refine w_lenO rfl u22 rfl rfl (by first | exact .head | exact .tail .head | exact .tail (.tail .head) | exact .tail (.tail (.tail .head)) | exact .tail (.tail (.tail (.tail .head)))) ?_
          refine ws_on rfl rfl ?_
          refine w_slice rfl rfl rfl rfl rfl (slice_al u22 s26 (by intro _; rfl) (by rfl) (by rfl) (by omega) (by omega)) ?_
          rw [room_take]
          refine ws_on rfl rfl ?_
          refine w_move rfl rfl ?_
          refine ws_on rfl rfl ?_
          refine w_call rfl rfl (cw_fn rfl rfl (.cons (by first | exact .closed rfl | exact .nil | exact .ownV rfl (by first | exact .head | exact .tail .head | exact .tail (.tail .head) | exact .tail (.tail (.tail .head)) | exact .tail (.tail (.tail (.tail .head)))) (by first | exact tab_done _ _ | exact flat_done (by intro _; rfl) _ | rfl | assumption) | exact .objV rfl (by first | exact .head | exact .tail .head | exact .tail (.tail .head) | exact .tail (.tail (.tail .head)) | exact .tail (.tail (.tail (.tail .head)))) (by first | exact tab_length _ _ | exact flat_length (by intro _; rfl) _ | exact (flat_length (s := 1) (by intro _; rfl) _).trans (by simp only [*]) | exact (flat_length (s := 2) (by intro _; rfl) _).trans (by simp only [*]) | exact (flat_length (s := 3) (by intro _; rfl) _).trans (by simp only [*]) | exact (flat_length (s := 4) (by intro _; rfl) _).trans (by simp only [*]) | exact (flat_length (s := 5) (by intro _; rfl) _).trans (by simp only [*]) | exact (flat_length (s := 6) (by intro _; rfl) _).trans (by simp only [*]) | rfl) (by first | exact tab_done _ _ | exact flat_done (by intro _; rfl) _ | rfl | assumption) | exact .ownK rfl (by first | exact .head | exact .tail .head | exact .tail (.tail .head) | exact .tail (.tail (.tail .head)) | exact .tail (.tail (.tail (.tail .head)))) (by first | exact tab_done _ _ | exact flat_done (by intro _; rfl) _ | rfl | assumption) | exact .objK rfl (by omega) (by first | exact .head | exact .tail .head | exact .tail (.tail .head) | exact .tail (.tail (.tail .head)) | exact .tail (.tail (.tail (.tail .head)))) (by first | exact tab_length _ _ | exact flat_length (by intro _; rfl) _ | exact (flat_length (s := 1) (by intro _; rfl) _).trans (by simp only [*]) | exact (flat_length (s := 2) (by intro _; rfl) _).trans (by simp only [*]) | exact (flat_length (s := 3) (by intro _; rfl) _).trans (by simp only [*]) | exact (flat_length (s := 4) (by intro _; rfl) _).trans (by simp only [*]) | exact (flat_length (s := 5) (by intro _; rfl) _).trans (by simp only [*]) | exact (flat_length (s := 6) (by intro _; rfl) _).trans (by simp only [*]) | rfl) (by first | exact tab_done _ _ | exact flat_done (by intro _; rfl) _ | rfl | assumption) | exact .ptr (by first | exact .head | exact .tail .head | exact .tail (.tail .head) | exact .tail (.tail (.tail .head)) | exact .tail (.tail (.tail (.tail .head)))) (by first | exact tab_done _ _ | exact flat_done (by intro _; rfl) _ | rfl | assumption)) (.cons (by first | exact .closed rfl | exact .nil | exact .ownV rfl (by first | exact .head | exact .tail .head | exact .tail (.tail .head) | exact .tail (.tail (.tail .head)) | exact .tail (.tail (.tail (.tail .head)))) (by first | exact tab_done _ _ | exact flat_done (by intro _; rfl) _ | rfl | assumption) | exact .objV rfl (by first | exact .head | exact .tail .head | exact .tail (.tail .head) | exact .tail (.tail (.tail .head)) | exact .tail (.tail (.tail (.tail .head)))) (by first | exact tab_length _ _ | exact flat_length (by intro _; rfl) _ | exact (flat_length (s := 1) (by intro _; rfl) _).trans (by simp only [*]) | exact (flat_length (s := 2) (by intro _; rfl) _).trans (by simp only [*]) | exact (flat_length (s := 3) (by intro _; rfl) _).trans (by simp only [*]) | exact (flat_length (s := 4) (by intro _; rfl) _).trans (by simp only [*]) | exact (flat_length (s := 5) (by intro _; rfl) _).trans (by simp only [*]) | exact (flat_length (s := 6) (by intro _; rfl) _).trans (by simp only [*]) | rfl) (by first | exact tab_done _ _ | exact flat_done (by intro _; rfl) _ | rfl | assumption) | exact .ownK rfl (by first | exact .head | exact .tail .head | exact .tail (.tail .head) | exact .tail (.tail (.tail .head)) | exact .tail (.tail (.tail (.tail .head)))) (by first | exact tab_done _ _ | exact flat_done (by intro _; rfl) _ | rfl | assumption) | exact .objK rfl (by omega) (by first | exact .head | exact .tail .head | exact .tail (.tail .head) | exact .tail (.tail (.tail .head)) | exact .tail (.tail (.tail (.tail .head)))) (by first | exact tab_length _ _ | exact flat_length (by intro _; rfl) _ | exact (flat_length (s := 1) (by intro _; rfl) _).trans (by simp only [*]) | exact (flat_length (s := 2) (by intro _; rfl) _).trans (by simp only [*]) | exact (flat_length (s := 3) (by intro _; rfl) _).trans (by simp only [*]) | exact (flat_length (s := 4) (by intro _; rfl) _).trans (by simp only [*]) | exact (flat_length (s := 5) (by intro _; rfl) _).trans (by simp only [*]) | exact (flat_length (s := 6) (by intro _; rfl) _).trans (by simp only [*]) | rfl) (by first | exact tab_done _ _ | exact flat_done (by intro _; rfl) _ | rfl | assumption) | exact .ptr (by first | exact .head | exact .tail .head | exact .tail (.tail .head) | exact .tail (.tail (.tail .head)) | exact .tail (.tail (.tail (.tail .head)))) (by first | exact tab_done _ _ | exact flat_done (by intro _; rfl) _ | rfl | assumption)) .nil)) (less_fn _ _ (by omega) (by omega)) ?_)
          refine ws_on rfl rfl ?_
          refine w_move rfl rfl ?_
          refine ws_on rfl rfl ?_
          refine w_call rfl rfl (cw_fn rfl rfl (.cons (by first | exact .closed rfl | exact .nil | exact .ownV rfl (by first | exact .head | exact .tail .head | exact .tail (.tail .head) | exact .tail (.tail (.tail .head)) | exact .tail (.tail (.tail (.tail .head)))) (by first | exact tab_done _ _ | exact flat_done (by intro _; rfl) _ | rfl | assumption) | exact .objV rfl (by first | exact .head | exact .tail .head | exact .tail (.tail .head) | exact .tail (.tail (.tail .head)) | exact .tail (.tail (.tail (.tail .head)))) (by first | exact tab_length _ _ | exact flat_length (by intro _; rfl) _ | exact (flat_length (s := 1) (by intro _; rfl) _).trans (by simp only [*]) | exact (flat_length (s := 2) (by intro _; rfl) _).trans (by simp only [*]) | exact (flat_length (s := 3) (by intro _; rfl) _).trans (by simp only [*]) | exact (flat_length (s := 4) (by intro _; rfl) _).trans (by simp only [*]) | exact (flat_length (s := 5) (by intro _; rfl) _).trans (by simp only [*]) | exact (flat_length (s := 6) (by intro _; rfl) _).trans (by simp only [*]) | rfl) (by first | exact tab_done _ _ | exact flat_done (by intro _; rfl) _ | rfl | assumption) | exact .ownK rfl (by first | exact .head | exact .tail .head | exact .tail (.tail .head) | exact .tail (.tail (.tail .head)) | exact .tail (.tail (.tail (.tail .head)))) (by first | exact tab_done _ _ | exact flat_done (by intro _; rfl) _ | rfl | assumption) | exact .objK rfl (by omega) (by first | exact .head | exact .tail .head | exact .tail (.tail .head) | exact .tail (.tail (.tail .head)) | exact .tail (.tail (.tail (.tail .head)))) (by first | exact tab_length _ _ | exact flat_length (by intro _; rfl) _ | exact (flat_length (s := 1) (by intro _; rfl) _).trans (by simp only [*]) | exact (flat_length (s := 2) (by intro _; rfl) _).trans (by simp only [*]) | exact (flat_length (s := 3) (by intro _; rfl) _).trans (by simp only [*]) | exact (flat_length (s := 4) (by intro _; rfl) _).trans (by simp only [*]) | exact (flat_length (s := 5) (by intro _; rfl) _).trans (by simp only [*]) | exact (flat_length (s := 6) (by intro _; rfl) _).trans (by simp only [*]) | rfl) (by first | exact tab_done _ _ | exact flat_done (by intro _; rfl) _ | rfl | assumption) | exact .ptr (by first | exact .head | exact .tail .head | exact .tail (.tail .head) | exact .tail (.tail (.tail .head)) | exact .tail (.tail (.tail (.tail .head)))) (by first | exact tab_done _ _ | exact flat_done (by intro _; rfl) _ | rfl | assumption)) .nil) (ref_fn _ _ (by omega)) ?_)
          refine ws_on rfl rfl ?_
          refine w_call rfl rfl (cw_fn rfl rfl (.cons (by first | exact .closed rfl | exact .nil | exact .ownV rfl (by first | exact .head | exact .tail .head | exact .tail (.tail .head) | exact .tail (.tail (.tail .head)) | exact .tail (.tail (.tail (.tail .head)))) (by first | exact tab_done _ _ | exact flat_done (by intro _; rfl) _ | rfl | assumption) | exact .objV rfl (by first | exact .head | exact .tail .head | exact .tail (.tail .head) | exact .tail (.tail (.tail .head)) | exact .tail (.tail (.tail (.tail .head)))) (by first | exact tab_length _ _ | exact flat_length (by intro _; rfl) _ | exact (flat_length (s := 1) (by intro _; rfl) _).trans (by simp only [*]) | exact (flat_length (s := 2) (by intro _; rfl) _).trans (by simp only [*]) | exact (flat_length (s := 3) (by intro _; rfl) _).trans (by simp only [*]) | exact (flat_length (s := 4) (by intro _; rfl) _).trans (by simp only [*]) | exact (flat_length (s := 5) (by intro _; rfl) _).trans (by simp only [*]) | exact (flat_length (s := 6) (by intro _; rfl) _).trans (by simp only [*]) | rfl) (by first | exact tab_done _ _ | exact flat_done (by intro _; rfl) _ | rfl | assumption) | exact .ownK rfl (by first | exact .head | exact .tail .head | exact .tail (.tail .head) | exact .tail (.tail (.tail .head)) | exact .tail (.tail (.tail (.tail .head)))) (by first | exact tab_done _ _ | exact flat_done (by intro _; rfl) _ | rfl | assumption) | exact .objK rfl (by omega) (by first | exact .head | exact .tail .head | exact .tail (.tail .head) | exact .tail (.tail (.tail .head)) | exact .tail (.tail (.tail (.tail .head)))) (by first | exact tab_length _ _ | exact flat_length (by intro _; rfl) _ | exact (flat_length (s := 1) (by intro _; rfl) _).trans (by simp only [*]) | exact (flat_length (s := 2) (by intro _; rfl) _).trans (by simp only [*]) | exact (flat_length (s := 3) (by intro _; rfl) _).trans (by simp only [*]) | exact (flat_length (s := 4) (by intro _; rfl) _).trans (by simp only [*]) | exact (flat_length (s := 5) (by intro _; rfl) _).trans (by simp only [*]) | exact (flat_length (s := 6) (by intro _; rfl) _).trans (by simp only [*]) | rfl) (by first | exact tab_done _ _ | exact flat_done (by intro _; rfl) _ | rfl | assumption) | exact .ptr (by first | exact .head | exact .tail .head | exact .tail (.tail .head) | exact .tail (.tail (.tail .head)) | exact .tail (.tail (.tail (.tail .head)))) (by first | exact tab_done _ _ | exact flat_done (by intro _; rfl) _ | rfl | assumption)) (.cons (by first | exact .closed rfl | exact .nil | exact .ownV rfl (by first | exact .head | exact .tail .head | exact .tail (.tail .head) | exact .tail (.tail (.tail .head)) | exact .tail (.tail (.tail (.tail .head)))) (by first | exact tab_done _ _ | exact flat_done (by intro _; rfl) _ | rfl | assumption) | exact .objV rfl (by first | exact .head | exact .tail .head | exact .tail (.tail .head) | exact .tail (.tail (.tail .head)) | exact .tail (.tail (.tail (.tail .head)))) (by first | exact tab_length _ _ | exact flat_length (by intro _; rfl) _ | exact (flat_length (s := 1) (by intro _; rfl) _).trans (by simp only [*]) | exact (flat_length (s := 2) (by intro _; rfl) _).trans (by simp only [*]) | exact (flat_length (s := 3) (by intro _; rfl) _).trans (by simp only [*]) | exact (flat_length (s := 4) (by intro _; rfl) _).trans (by simp only [*]) | exact (flat_length (s := 5) (by intro _; rfl) _).trans (by simp only [*]) | exact (flat_length (s := 6) (by intro _; rfl) _).trans (by simp only [*]) | rfl) (by first | exact tab_done _ _ | exact flat_done (by intro _; rfl) _ | rfl | assumption) | exact .ownK rfl (by first | exact .head | exact .tail .head | exact .tail (.tail .head) | exact .tail (.tail (.tail .head)) | exact .tail (.tail (.tail (.tail .head)))) (by first | exact tab_done _ _ | exact flat_done (by intro _; rfl) _ | rfl | assumption) | exact .objK rfl (by omega) (by first | exact .head | exact .tail .head | exact .tail (.tail .head) | exact .tail (.tail (.tail .head)) | exact .tail (.tail (.tail (.tail .head)))) (by first | exact tab_length _ _ | exact flat_length (by intro _; rfl) _ | exact (flat_length (s := 1) (by intro _; rfl) _).trans (by simp only [*]) | exact (flat_length (s := 2) (by intro _; rfl) _).trans (by simp only [*]) | exact (flat_length (s := 3) (by intro _; rfl) _).trans (by simp only [*]) | exact (flat_length (s := 4) (by intro _; rfl) _).trans (by simp only [*]) | exact (flat_length (s := 5) (by intro _; rfl) _).trans (by simp only [*]) | exact (flat_length (s := 6) (by intro _; rfl) _).trans (by simp only [*]) | rfl) (by first | exact tab_done _ _ | exact flat_done (by intro _; rfl) _ | rfl | assumption) | exact .ptr (by first | exact .head | exact .tail .head | exact .tail (.tail .head) | exact .tail (.tail (.tail .head)) | exact .tail (.tail (.tail (.tail .head)))) (by first | exact tab_done _ _ | exact flat_done (by intro _; rfl) _ | rfl | assumption)) .nil)) (sameSp_fn _ _ (by first | omega | exact Nat.lt_of_le_of_lt (spansTo_bound _ 200).1 (by decide) | (simp only [List.length_take, List.length_drop]; omega))) ?_)
          refine ws_on rfl rfl ?_
          refine w_not rfl rfl ?_
          first | refine w_pickT rfl rfl rfl ⟨_, rfl⟩ ?_ | refine w_pickF rfl rfl ⟨_, rfl⟩ rfl ?_ | refine w_pick rfl rfl rfl rfl ?_
          refine w_move rfl rfl ?_
          refine ws_split (t := 151) rfl (fun g151 => ?_) (fun g151 => ?_)
          · first | replace g151 := of_decide_eq_true g151 | replace g151 := of_decide_eq_false g151 | replace g151 := of_decide_eq_false (nb_T g151) | replace g151 := of_decide_eq_true (nb_F g151) | replace g151 := nb_T g151 | replace g151 := nb_F g151 | skip
            first | replace g151 := Int.not_lt.mp g151 | replace g151 := Int.not_le.mp g151 | replace g151 := Decidable.not_not.mp g151 | skip
            exact absurd law3 g151
          · first | replace g151 := of_decide_eq_true g151 | replace g151 := of_decide_eq_false g151 | replace g151 := of_decide_eq_false (nb_T g151) | replace g151 := of_decide_eq_true (nb_F g151) | replace g151 := nb_T g151 | replace g151 := nb_F g151 | skip
            first | replace g151 := Int.not_lt.mp g151 | replace g151 := Int.not_le.mp g151 | replace g151 := Decidable.not_not.mp g151 | skip
            refine ws_on rfl rfl ?_
            refine w_move rfl rfl ?_
            refine ws_on rfl rfl ?_
            refine w_move rfl rfl ?_
            refine ws_on rfl rfl ?_
            refine w_build (v := .agg [_, _]) B26 rfl rfl rfl ?_
            refine ws_on rfl rfl ?_
            refine w_call rfl rfl (cw_fn rfl rfl (.cons (by first | exact .closed rfl | exact .nil | exact .ownV rfl (by first | exact .head | exact .tail .head | exact .tail (.tail .head) | exact .tail (.tail (.tail .head)) | exact .tail (.tail (.tail (.tail .head)))) (by first | exact tab_done _ _ | exact flat_done (by intro _; rfl) _ | rfl | assumption) | exact .objV rfl (by first | exact .head | exact .tail .head | exact .tail (.tail .head) | exact .tail (.tail (.tail .head)) | exact .tail (.tail (.tail (.tail .head)))) (by first | exact tab_length _ _ | exact flat_length (by intro _; rfl) _ | exact (flat_length (s := 1) (by intro _; rfl) _).trans (by simp only [*]) | exact (flat_length (s := 2) (by intro _; rfl) _).trans (by simp only [*]) | exact (flat_length (s := 3) (by intro _; rfl) _).trans (by simp only [*]) | exact (flat_length (s := 4) (by intro _; rfl) _).trans (by simp only [*]) | exact (flat_length (s := 5) (by intro _; rfl) _).trans (by simp only [*]) | exact (flat_length (s := 6) (by intro _; rfl) _).trans (by simp only [*]) | rfl) (by first | exact tab_done _ _ | exact flat_done (by intro _; rfl) _ | rfl | assumption) | exact .ownK rfl (by first | exact .head | exact .tail .head | exact .tail (.tail .head) | exact .tail (.tail (.tail .head)) | exact .tail (.tail (.tail (.tail .head)))) (by first | exact tab_done _ _ | exact flat_done (by intro _; rfl) _ | rfl | assumption) | exact .objK rfl (by omega) (by first | exact .head | exact .tail .head | exact .tail (.tail .head) | exact .tail (.tail (.tail .head)) | exact .tail (.tail (.tail (.tail .head)))) (by first | exact tab_length _ _ | exact flat_length (by intro _; rfl) _ | exact (flat_length (s := 1) (by intro _; rfl) _).trans (by simp only [*]) | exact (flat_length (s := 2) (by intro _; rfl) _).trans (by simp only [*]) | exact (flat_length (s := 3) (by intro _; rfl) _).trans (by simp only [*]) | exact (flat_length (s := 4) (by intro _; rfl) _).trans (by simp only [*]) | exact (flat_length (s := 5) (by intro _; rfl) _).trans (by simp only [*]) | exact (flat_length (s := 6) (by intro _; rfl) _).trans (by simp only [*]) | rfl) (by first | exact tab_done _ _ | exact flat_done (by intro _; rfl) _ | rfl | assumption) | exact .ptr (by first | exact .head | exact .tail .head | exact .tail (.tail .head) | exact .tail (.tail (.tail .head)) | exact .tail (.tail (.tail (.tail .head)))) (by first | exact tab_done _ _ | exact flat_done (by intro _; rfl) _ | rfl | assumption)) (.cons (by first | exact .closed rfl | exact .nil | exact .ownV rfl (by first | exact .head | exact .tail .head | exact .tail (.tail .head) | exact .tail (.tail (.tail .head)) | exact .tail (.tail (.tail (.tail .head)))) (by first | exact tab_done _ _ | exact flat_done (by intro _; rfl) _ | rfl | assumption) | exact .objV rfl (by first | exact .head | exact .tail .head | exact .tail (.tail .head) | exact .tail (.tail (.tail .head)) | exact .tail (.tail (.tail (.tail .head)))) (by first | exact tab_length _ _ | exact flat_length (by intro _; rfl) _ | exact (flat_length (s := 1) (by intro _; rfl) _).trans (by simp only [*]) | exact (flat_length (s := 2) (by intro _; rfl) _).trans (by simp only [*]) | exact (flat_length (s := 3) (by intro _; rfl) _).trans (by simp only [*]) | exact (flat_length (s := 4) (by intro _; rfl) _).trans (by simp only [*]) | exact (flat_length (s := 5) (by intro _; rfl) _).trans (by simp only [*]) | exact (flat_length (s := 6) (by intro _; rfl) _).trans (by simp only [*]) | rfl) (by first | exact tab_done _ _ | exact flat_done (by intro _; rfl) _ | rfl | assumption) | exact .ownK rfl (by first | exact .head | exact .tail .head | exact .tail (.tail .head) | exact .tail (.tail (.tail .head)) | exact .tail (.tail (.tail (.tail .head)))) (by first | exact tab_done _ _ | exact flat_done (by intro _; rfl) _ | rfl | assumption) | exact .objK rfl (by omega) (by first | exact .head | exact .tail .head | exact .tail (.tail .head) | exact .tail (.tail (.tail .head)) | exact .tail (.tail (.tail (.tail .head)))) (by first | exact tab_length _ _ | exact flat_length (by intro _; rfl) _ | exact (flat_length (s := 1) (by intro _; rfl) _).trans (by simp only [*]) | exact (flat_length (s := 2) (by intro _; rfl) _).trans (by simp only [*]) | exact (flat_length (s := 3) (by intro _; rfl) _).trans (by simp only [*]) | exact (flat_length (s := 4) (by intro _; rfl) _).trans (by simp only [*]) | exact (flat_length (s := 5) (by intro _; rfl) _).trans (by simp only [*]) | exact (flat_length (s := 6) (by intro _; rfl) _).trans (by simp only [*]) | rfl) (by first | exact tab_done _ _ | exact flat_done (by intro _; rfl) _ | rfl | assumption) | exact .ptr (by first | exact .head | exact .tail .head | exact .tail (.tail .head) | exact .tail (.tail (.tail .head)) | exact .tail (.tail (.tail (.tail .head)))) (by first | exact tab_done _ _ | exact flat_done (by intro _; rfl) _ | rfl | assumption)) (.cons (by first | exact .closed rfl | exact .nil | exact .ownV rfl (by first | exact .head | exact .tail .head | exact .tail (.tail .head) | exact .tail (.tail (.tail .head)) | exact .tail (.tail (.tail (.tail .head)))) (by first | exact tab_done _ _ | exact flat_done (by intro _; rfl) _ | rfl | assumption) | exact .objV rfl (by first | exact .head | exact .tail .head | exact .tail (.tail .head) | exact .tail (.tail (.tail .head)) | exact .tail (.tail (.tail (.tail .head)))) (by first | exact tab_length _ _ | exact flat_length (by intro _; rfl) _ | exact (flat_length (s := 1) (by intro _; rfl) _).trans (by simp only [*]) | exact (flat_length (s := 2) (by intro _; rfl) _).trans (by simp only [*]) | exact (flat_length (s := 3) (by intro _; rfl) _).trans (by simp only [*]) | exact (flat_length (s := 4) (by intro _; rfl) _).trans (by simp only [*]) | exact (flat_length (s := 5) (by intro _; rfl) _).trans (by simp only [*]) | exact (flat_length (s := 6) (by intro _; rfl) _).trans (by simp only [*]) | rfl) (by first | exact tab_done _ _ | exact flat_done (by intro _; rfl) _ | rfl | assumption) | exact .ownK rfl (by first | exact .head | exact .tail .head | exact .tail (.tail .head) | exact .tail (.tail (.tail .head)) | exact .tail (.tail (.tail (.tail .head)))) (by first | exact tab_done _ _ | exact flat_done (by intro _; rfl) _ | rfl | assumption) | exact .objK rfl (by omega) (by first | exact .head | exact .tail .head | exact .tail (.tail .head) | exact .tail (.tail (.tail .head)) | exact .tail (.tail (.tail (.tail .head)))) (by first | exact tab_length _ _ | exact flat_length (by intro _; rfl) _ | exact (flat_length (s := 1) (by intro _; rfl) _).trans (by simp only [*]) | exact (flat_length (s := 2) (by intro _; rfl) _).trans (by simp only [*]) | exact (flat_length (s := 3) (by intro _; rfl) _).trans (by simp only [*]) | exact (flat_length (s := 4) (by intro _; rfl) _).trans (by simp only [*]) | exact (flat_length (s := 5) (by intro _; rfl) _).trans (by simp only [*]) | exact (flat_length (s := 6) (by intro _; rfl) _).trans (by simp only [*]) | rfl) (by first | exact tab_done _ _ | exact flat_done (by intro _; rfl) _ | rfl | assumption) | exact .ptr (by first | exact .head | exact .tail .head | exact .tail (.tail .head) | exact .tail (.tail (.tail .head)) | exact .tail (.tail (.tail (.tail .head)))) (by first | exact tab_done _ _ | exact flat_done (by intro _; rfl) _ | rfl | assumption)) .nil))) (intact_fn _ _ _ _ (by omega) (by omega)) ?_)
            refine ws_on rfl rfl ?_
            refine w_not rfl rfl ?_
            first | refine w_pickT rfl rfl rfl ⟨_, rfl⟩ ?_ | refine w_pickF rfl rfl ⟨_, rfl⟩ rfl ?_ | refine w_pick rfl rfl rfl rfl ?_
            refine ws_nil ?_
            refine wc_cond rfl (fun h22 => ?_) (fun h22 => ?_)
            · simp only [Bool.not_eq_true', decide_eq_false_iff_not] at h22
              exact absurd (room_full _ _) h22
            · first | replace h22 := of_decide_eq_true h22 | replace h22 := of_decide_eq_false h22 | replace h22 := of_decide_eq_false (nb_T h22) | replace h22 := of_decide_eq_true (nb_F h22) | replace h22 := nb_T h22 | replace h22 := nb_F h22 | skip
              first | replace h22 := Int.not_lt.mp h22 | replace h22 := Int.not_le.mp h22 | replace h22 := Decidable.not_not.mp h22 | skip
              refine wc_stay ?_
              refine wc_seq ?_
              refine wc_free [0, 1, 0, 7, 15, 31, 63, 127, 255, 511, 1023, 2047, 1023, 8191, 16383, 32767, 65535, 65535, 262143, 65535, 65535, 1638399, 3735551, 8388607, 16777215, 33554431, 67108863, 134217727, 268435455, 536870911, 1073741823, 2147483647, 4294967295, 8589934591, 17179869183, 34359738367, 68719476735, 137438953471, 274877906943, 68719476735, 1099511627775, 2199023255551, 4398046511103, 8796093022207, 17592186044415, 35184372088831, 8796093022207, 140737488355327, 281474976710655, 562949953421311, 1125899906842623, 2251799813685247, 4503599627370495] (by kernel_rfl) (by kernel_rfl) (fun F => ?_)
              have law5 : ((countL (S X) : Nat) : Int) = ((ticksTo X 60).length : Nat) := by unfold countL; rw [ticks_S, ticks60 hX]
              have law6 : (hasL (S X) (withinV n 0 59) == X (withinV n 0 59).toNat) = true := by rw [has_S X (by omega)]; simp
              have law7 : normL (ones (ticksTo (tabOf (S X)) 200)) = S X := by rw [ticks_S, norm_ticks]
              have law8 : ((ticksTo (tabOf (S X)) 200).length : Int) = ((ticksTo X 60).length : Nat) := by rw [ticks_S, ticks60 hX]
              have law9 : hasL (S X) 60 = false := by rw [has_S X (by omega)]; exact hX _ (by decide)
              have ltl := ticksTo_le (tabOf (S X)) 200
              refine wr_float F 0 rfl (by kernel_rfl) (.inl (by kernel_rfl)) ?_
              refine w_move rfl rfl ?_
              refine ws_nil ?_
              refine wr_float F 2 rfl (by kernel_rfl) (.inl (by kernel_rfl)) ?_
              refine w_move rfl rfl ?_
              refine ws_nil ?_
              refine wr_next F (l := [1]) (by kernel_rfl) (by simp) (.cons rfl ?_ (.nil))
              refine w_call rfl rfl (cw_fn rfl rfl (.cons (by first | exact .closed rfl | exact .nil | exact .ownV rfl (by first | exact .head | exact .tail .head | exact .tail (.tail .head) | exact .tail (.tail (.tail .head)) | exact .tail (.tail (.tail (.tail .head)))) (by first | exact tab_done _ _ | exact flat_done (by intro _; rfl) _ | rfl | assumption) | exact .objV rfl (by first | exact .head | exact .tail .head | exact .tail (.tail .head) | exact .tail (.tail (.tail .head)) | exact .tail (.tail (.tail (.tail .head)))) (by first | exact tab_length _ _ | exact flat_length (by intro _; rfl) _ | exact (flat_length (s := 1) (by intro _; rfl) _).trans (by simp only [*]) | exact (flat_length (s := 2) (by intro _; rfl) _).trans (by simp only [*]) | exact (flat_length (s := 3) (by intro _; rfl) _).trans (by simp only [*]) | exact (flat_length (s := 4) (by intro _; rfl) _).trans (by simp only [*]) | exact (flat_length (s := 5) (by intro _; rfl) _).trans (by simp only [*]) | exact (flat_length (s := 6) (by intro _; rfl) _).trans (by simp only [*]) | rfl) (by first | exact tab_done _ _ | exact flat_done (by intro _; rfl) _ | rfl | assumption) | exact .ownK rfl (by first | exact .head | exact .tail .head | exact .tail (.tail .head) | exact .tail (.tail (.tail .head)) | exact .tail (.tail (.tail (.tail .head)))) (by first | exact tab_done _ _ | exact flat_done (by intro _; rfl) _ | rfl | assumption) | exact .objK rfl (by omega) (by first | exact .head | exact .tail .head | exact .tail (.tail .head) | exact .tail (.tail (.tail .head)) | exact .tail (.tail (.tail (.tail .head)))) (by first | exact tab_length _ _ | exact flat_length (by intro _; rfl) _ | exact (flat_length (s := 1) (by intro _; rfl) _).trans (by simp only [*]) | exact (flat_length (s := 2) (by intro _; rfl) _).trans (by simp only [*]) | exact (flat_length (s := 3) (by intro _; rfl) _).trans (by simp only [*]) | exact (flat_length (s := 4) (by intro _; rfl) _).trans (by simp only [*]) | exact (flat_length (s := 5) (by intro _; rfl) _).trans (by simp only [*]) | exact (flat_length (s := 6) (by intro _; rfl) _).trans (by simp only [*]) | rfl) (by first | exact tab_done _ _ | exact flat_done (by intro _; rfl) _ | rfl | assumption) | exact .ptr (by first | exact .head | exact .tail .head | exact .tail (.tail .head) | exact .tail (.tail (.tail .head)) | exact .tail (.tail (.tail (.tail .head)))) (by first | exact tab_done _ _ | exact flat_done (by intro _; rfl) _ | rfl | assumption)) .nil) (ofs_fn _ (by omega)) ?_)
              refine ws_nil ?_
              refine wr_next F (l := [3]) (by kernel_rfl) (by simp) (.cons rfl ?_ (.nil))
              refine w_call rfl rfl (cw_fn rfl rfl (.cons (by first | exact .closed rfl | exact .nil | exact .ownV rfl (by first | exact .head | exact .tail .head | exact .tail (.tail .head) | exact .tail (.tail (.tail .head)) | exact .tail (.tail (.tail (.tail .head)))) (by first | exact tab_done _ _ | exact flat_done (by intro _; rfl) _ | rfl | assumption) | exact .objV rfl (by first | exact .head | exact .tail .head | exact .tail (.tail .head) | exact .tail (.tail (.tail .head)) | exact .tail (.tail (.tail (.tail .head)))) (by first | exact tab_length _ _ | exact flat_length (by intro _; rfl) _ | exact (flat_length (s := 1) (by intro _; rfl) _).trans (by simp only [*]) | exact (flat_length (s := 2) (by intro _; rfl) _).trans (by simp only [*]) | exact (flat_length (s := 3) (by intro _; rfl) _).trans (by simp only [*]) | exact (flat_length (s := 4) (by intro _; rfl) _).trans (by simp only [*]) | exact (flat_length (s := 5) (by intro _; rfl) _).trans (by simp only [*]) | exact (flat_length (s := 6) (by intro _; rfl) _).trans (by simp only [*]) | rfl) (by first | exact tab_done _ _ | exact flat_done (by intro _; rfl) _ | rfl | assumption) | exact .ownK rfl (by first | exact .head | exact .tail .head | exact .tail (.tail .head) | exact .tail (.tail (.tail .head)) | exact .tail (.tail (.tail (.tail .head)))) (by first | exact tab_done _ _ | exact flat_done (by intro _; rfl) _ | rfl | assumption) | exact .objK rfl (by omega) (by first | exact .head | exact .tail .head | exact .tail (.tail .head) | exact .tail (.tail (.tail .head)) | exact .tail (.tail (.tail (.tail .head)))) (by first | exact tab_length _ _ | exact flat_length (by intro _; rfl) _ | exact (flat_length (s := 1) (by intro _; rfl) _).trans (by simp only [*]) | exact (flat_length (s := 2) (by intro _; rfl) _).trans (by simp only [*]) | exact (flat_length (s := 3) (by intro _; rfl) _).trans (by simp only [*]) | exact (flat_length (s := 4) (by intro _; rfl) _).trans (by simp only [*]) | exact (flat_length (s := 5) (by intro _; rfl) _).trans (by simp only [*]) | exact (flat_length (s := 6) (by intro _; rfl) _).trans (by simp only [*]) | rfl) (by first | exact tab_done _ _ | exact flat_done (by intro _; rfl) _ | rfl | assumption) | exact .ptr (by first | exact .head | exact .tail .head | exact .tail (.tail .head) | exact .tail (.tail (.tail .head)) | exact .tail (.tail (.tail (.tail .head)))) (by first | exact tab_done _ _ | exact flat_done (by intro _; rfl) _ | rfl | assumption)) .nil) (ref_fn _ _ (by omega)) ?_)
              refine ws_nil ?_
              refine wr_next F (l := [4]) (by kernel_rfl) (by simp) (.cons rfl ?_ (.nil))
              refine w_call rfl rfl (cw_fn rfl rfl (.cons (by first | exact .closed rfl | exact .nil | exact .ownV rfl (by first | exact .head | exact .tail .head | exact .tail (.tail .head) | exact .tail (.tail (.tail .head)) | exact .tail (.tail (.tail (.tail .head)))) (by first | exact tab_done _ _ | exact flat_done (by intro _; rfl) _ | rfl | assumption) | exact .objV rfl (by first | exact .head | exact .tail .head | exact .tail (.tail .head) | exact .tail (.tail (.tail .head)) | exact .tail (.tail (.tail (.tail .head)))) (by first | exact tab_length _ _ | exact flat_length (by intro _; rfl) _ | exact (flat_length (s := 1) (by intro _; rfl) _).trans (by simp only [*]) | exact (flat_length (s := 2) (by intro _; rfl) _).trans (by simp only [*]) | exact (flat_length (s := 3) (by intro _; rfl) _).trans (by simp only [*]) | exact (flat_length (s := 4) (by intro _; rfl) _).trans (by simp only [*]) | exact (flat_length (s := 5) (by intro _; rfl) _).trans (by simp only [*]) | exact (flat_length (s := 6) (by intro _; rfl) _).trans (by simp only [*]) | rfl) (by first | exact tab_done _ _ | exact flat_done (by intro _; rfl) _ | rfl | assumption) | exact .ownK rfl (by first | exact .head | exact .tail .head | exact .tail (.tail .head) | exact .tail (.tail (.tail .head)) | exact .tail (.tail (.tail (.tail .head)))) (by first | exact tab_done _ _ | exact flat_done (by intro _; rfl) _ | rfl | assumption) | exact .objK rfl (by omega) (by first | exact .head | exact .tail .head | exact .tail (.tail .head) | exact .tail (.tail (.tail .head)) | exact .tail (.tail (.tail (.tail .head)))) (by first | exact tab_length _ _ | exact flat_length (by intro _; rfl) _ | exact (flat_length (s := 1) (by intro _; rfl) _).trans (by simp only [*]) | exact (flat_length (s := 2) (by intro _; rfl) _).trans (by simp only [*]) | exact (flat_length (s := 3) (by intro _; rfl) _).trans (by simp only [*]) | exact (flat_length (s := 4) (by intro _; rfl) _).trans (by simp only [*]) | exact (flat_length (s := 5) (by intro _; rfl) _).trans (by simp only [*]) | exact (flat_length (s := 6) (by intro _; rfl) _).trans (by simp only [*]) | rfl) (by first | exact tab_done _ _ | exact flat_done (by intro _; rfl) _ | rfl | assumption) | exact .ptr (by first | exact .head | exact .tail .head | exact .tail (.tail .head) | exact .tail (.tail (.tail .head)) | exact .tail (.tail (.tail (.tail .head)))) (by first | exact tab_done _ _ | exact flat_done (by intro _; rfl) _ | rfl | assumption)) (.cons (by first | exact .closed rfl | exact .nil | exact .ownV rfl (by first | exact .head | exact .tail .head | exact .tail (.tail .head) | exact .tail (.tail (.tail .head)) | exact .tail (.tail (.tail (.tail .head)))) (by first | exact tab_done _ _ | exact flat_done (by intro _; rfl) _ | rfl | assumption) | exact .objV rfl (by first | exact .head | exact .tail .head | exact .tail (.tail .head) | exact .tail (.tail (.tail .head)) | exact .tail (.tail (.tail (.tail .head)))) (by first | exact tab_length _ _ | exact flat_length (by intro _; rfl) _ | exact (flat_length (s := 1) (by intro _; rfl) _).trans (by simp only [*]) | exact (flat_length (s := 2) (by intro _; rfl) _).trans (by simp only [*]) | exact (flat_length (s := 3) (by intro _; rfl) _).trans (by simp only [*]) | exact (flat_length (s := 4) (by intro _; rfl) _).trans (by simp only [*]) | exact (flat_length (s := 5) (by intro _; rfl) _).trans (by simp only [*]) | exact (flat_length (s := 6) (by intro _; rfl) _).trans (by simp only [*]) | rfl) (by first | exact tab_done _ _ | exact flat_done (by intro _; rfl) _ | rfl | assumption) | exact .ownK rfl (by first | exact .head | exact .tail .head | exact .tail (.tail .head) | exact .tail (.tail (.tail .head)) | exact .tail (.tail (.tail (.tail .head)))) (by first | exact tab_done _ _ | exact flat_done (by intro _; rfl) _ | rfl | assumption) | exact .objK rfl (by omega) (by first | exact .head | exact .tail .head | exact .tail (.tail .head) | exact .tail (.tail (.tail .head)) | exact .tail (.tail (.tail (.tail .head)))) (by first | exact tab_length _ _ | exact flat_length (by intro _; rfl) _ | exact (flat_length (s := 1) (by intro _; rfl) _).trans (by simp only [*]) | exact (flat_length (s := 2) (by intro _; rfl) _).trans (by simp only [*]) | exact (flat_length (s := 3) (by intro _; rfl) _).trans (by simp only [*]) | exact (flat_length (s := 4) (by intro _; rfl) _).trans (by simp only [*]) | exact (flat_length (s := 5) (by intro _; rfl) _).trans (by simp only [*]) | exact (flat_length (s := 6) (by intro _; rfl) _).trans (by simp only [*]) | rfl) (by first | exact tab_done _ _ | exact flat_done (by intro _; rfl) _ | rfl | assumption) | exact .ptr (by first | exact .head | exact .tail .head | exact .tail (.tail .head) | exact .tail (.tail (.tail .head)) | exact .tail (.tail (.tail (.tail .head)))) (by first | exact tab_done _ _ | exact flat_done (by intro _; rfl) _ | rfl | assumption)) .nil)) (sameSp_fn _ _ (by first | omega | exact Nat.lt_of_le_of_lt (spansTo_bound _ 200).1 (by decide) | (simp only [List.length_take, List.length_drop]; omega))) ?_)
              refine ws_nil ?_
              refine wr_float F 5 rfl (by kernel_rfl) (.inl (by kernel_rfl)) ?_
              refine w_move rfl rfl ?_
              refine ws_nil ?_
              refine wr_split (t := 163) rfl (fun g163 => ?_) (fun g163 => ?_)
              · first | replace g163 := of_decide_eq_true g163 | replace g163 := of_decide_eq_false g163 | replace g163 := of_decide_eq_false (nb_T g163) | replace g163 := of_decide_eq_true (nb_F g163) | replace g163 := nb_T g163 | replace g163 := nb_F g163 | skip
                first | replace g163 := Int.not_lt.mp g163 | replace g163 := Int.not_le.mp g163 | replace g163 := Decidable.not_not.mp g163 | skip
                refine wr_float F 6 rfl (by kernel_rfl) (.inl (by kernel_rfl)) ?_
                refine ws_on rfl rfl ?_ (hn := rfl)
                refine w_move rfl rfl ?_
                refine ws_nil ?_
                refine wr_next F (l := [7]) (by kernel_rfl) (by simp) (.cons rfl ?_ (.nil))
                refine ws_on rfl rfl ?_ (hn := rfl)
                refine w_call rfl rfl (cw_fn rfl rfl (.cons (by first | exact .closed rfl | exact .nil | exact .ownV rfl (by first | exact .head | exact .tail .head | exact .tail (.tail .head) | exact .tail (.tail (.tail .head)) | exact .tail (.tail (.tail (.tail .head)))) (by first | exact tab_done _ _ | exact flat_done (by intro _; rfl) _ | rfl | assumption) | exact .objV rfl (by first | exact .head | exact .tail .head | exact .tail (.tail .head) | exact .tail (.tail (.tail .head)) | exact .tail (.tail (.tail (.tail .head)))) (by first | exact tab_length _ _ | exact flat_length (by intro _; rfl) _ | exact (flat_length (s := 1) (by intro _; rfl) _).trans (by simp only [*]) | exact (flat_length (s := 2) (by intro _; rfl) _).trans (by simp only [*]) | exact (flat_length (s := 3) (by intro _; rfl) _).trans (by simp only [*]) | exact (flat_length (s := 4) (by intro _; rfl) _).trans (by simp only [*]) | exact (flat_length (s := 5) (by intro _; rfl) _).trans (by simp only [*]) | exact (flat_length (s := 6) (by intro _; rfl) _).trans (by simp only [*]) | rfl) (by first | exact tab_done _ _ | exact flat_done (by intro _; rfl) _ | rfl | assumption) | exact .ownK rfl (by first | exact .head | exact .tail .head | exact .tail (.tail .head) | exact .tail (.tail (.tail .head)) | exact .tail (.tail (.tail (.tail .head)))) (by first | exact tab_done _ _ | exact flat_done (by intro _; rfl) _ | rfl | assumption) | exact .objK rfl (by omega) (by first | exact .head | exact .tail .head | exact .tail (.tail .head) | exact .tail (.tail (.tail .head)) | exact .tail (.tail (.tail (.tail .head)))) (by first | exact tab_length _ _ | exact flat_length (by intro _; rfl) _ | exact (flat_length (s := 1) (by intro _; rfl) _).trans (by simp only [*]) | exact (flat_length (s := 2) (by intro _; rfl) _).trans (by simp only [*]) | exact (flat_length (s := 3) (by intro _; rfl) _).trans (by simp only [*]) | exact (flat_length (s := 4) (by intro _; rfl) _).trans (by simp only [*]) | exact (flat_length (s := 5) (by intro _; rfl) _).trans (by simp only [*]) | exact (flat_length (s := 6) (by intro _; rfl) _).trans (by simp only [*]) | rfl) (by first | exact tab_done _ _ | exact flat_done (by intro _; rfl) _ | rfl | assumption) | exact .ptr (by first | exact .head | exact .tail .head | exact .tail (.tail .head) | exact .tail (.tail (.tail .head)) | exact .tail (.tail (.tail (.tail .head)))) (by first | exact tab_done _ _ | exact flat_done (by intro _; rfl) _ | rfl | assumption)) .nil) (right_fn _ (by omega)) ?_)
                refine ws_nil ?_
                refine wr_float F 8 rfl (by kernel_rfl) (.inl (by kernel_rfl)) ?_
                first | refine w_pickT rfl rfl rfl ⟨_, rfl⟩ ?_ | refine w_pickF rfl rfl ⟨_, rfl⟩ rfl ?_ | refine w_pick rfl rfl rfl rfl ?_
                refine ws_nil ?_
                refine wr_float F 9 rfl (by kernel_rfl) (.inl (by kernel_rfl)) ?_
                refine w_move rfl rfl ?_
                refine ws_nil ?_
                refine wr_split (t := 167) rfl (fun g167 => ?_) (fun g167 => ?_)
                · first | replace g167 := of_decide_eq_true g167 | replace g167 := of_decide_eq_false g167 | replace g167 := of_decide_eq_false (nb_T g167) | replace g167 := of_decide_eq_true (nb_F g167) | replace g167 := nb_T g167 | replace g167 := nb_F g167 | skip
                  first | replace g167 := Int.not_lt.mp g167 | replace g167 := Int.not_le.mp g167 | replace g167 := Decidable.not_not.mp g167 | skip
                  refine wr_float F 10 rfl (by kernel_rfl) (.inl (by kernel_rfl)) ?_
                  refine ws_on rfl rfl ?_ (hn := rfl)
                  refine w_move rfl rfl ?_
                  refine ws_nil ?_
                  refine wr_float F 12 rfl (by kernel_rfl) (.inl (by kernel_rfl)) ?_
                  refine ws_on rfl rfl ?_ (hn := rfl)
                  refine w_move rfl rfl ?_
                  refine ws_nil ?_
                  refine wr_next F (l := [11]) (by kernel_rfl) (by simp) (.cons rfl ?_ (.nil))
                  refine ws_on rfl rfl ?_ (hn := rfl)
                  refine w_call rfl rfl (cw_fn rfl rfl (.cons (by first | exact .closed rfl | exact .nil | exact .ownV rfl (by first | exact .head | exact .tail .head | exact .tail (.tail .head) | exact .tail (.tail (.tail .head)) | exact .tail (.tail (.tail (.tail .head)))) (by first | exact tab_done _ _ | exact flat_done (by intro _; rfl) _ | rfl | assumption) | exact .objV rfl (by first | exact .head | exact .tail .head | exact .tail (.tail .head) | exact .tail (.tail (.tail .head)) | exact .tail (.tail (.tail (.tail .head)))) (by first | exact tab_length _ _ | exact flat_length (by intro _; rfl) _ | exact (flat_length (s := 1) (by intro _; rfl) _).trans (by simp only [*]) | exact (flat_length (s := 2) (by intro _; rfl) _).trans (by simp only [*]) | exact (flat_length (s := 3) (by intro _; rfl) _).trans (by simp only [*]) | exact (flat_length (s := 4) (by intro _; rfl) _).trans (by simp only [*]) | exact (flat_length (s := 5) (by intro _; rfl) _).trans (by simp only [*]) | exact (flat_length (s := 6) (by intro _; rfl) _).trans (by simp only [*]) | rfl) (by first | exact tab_done _ _ | exact flat_done (by intro _; rfl) _ | rfl | assumption) | exact .ownK rfl (by first | exact .head | exact .tail .head | exact .tail (.tail .head) | exact .tail (.tail (.tail .head)) | exact .tail (.tail (.tail (.tail .head)))) (by first | exact tab_done _ _ | exact flat_done (by intro _; rfl) _ | rfl | assumption) | exact .objK rfl (by omega) (by first | exact .head | exact .tail .head | exact .tail (.tail .head) | exact .tail (.tail (.tail .head)) | exact .tail (.tail (.tail (.tail .head)))) (by first | exact tab_length _ _ | exact flat_length (by intro _; rfl) _ | exact (flat_length (s := 1) (by intro _; rfl) _).trans (by simp only [*]) | exact (flat_length (s := 2) (by intro _; rfl) _).trans (by simp only [*]) | exact (flat_length (s := 3) (by intro _; rfl) _).trans (by simp only [*]) | exact (flat_length (s := 4) (by intro _; rfl) _).trans (by simp only [*]) | exact (flat_length (s := 5) (by intro _; rfl) _).trans (by simp only [*]) | exact (flat_length (s := 6) (by intro _; rfl) _).trans (by simp only [*]) | rfl) (by first | exact tab_done _ _ | exact flat_done (by intro _; rfl) _ | rfl | assumption) | exact .ptr (by first | exact .head | exact .tail .head | exact .tail (.tail .head) | exact .tail (.tail (.tail .head)) | exact .tail (.tail (.tail (.tail .head)))) (by first | exact tab_done _ _ | exact flat_done (by intro _; rfl) _ | rfl | assumption)) .nil) (count_fn _ (by omega)) ?_)
                  refine ws_nil ?_
                  refine wr_float F 13 rfl (by kernel_rfl) (.inl (by kernel_rfl)) ?_
                  refine ws_on rfl rfl ?_ (hn := rfl)
                  refine w_eql u3 rfl rfl rfl ?_
                  refine ws_nil ?_
                  refine wr_float F 14 rfl (by kernel_rfl) (.inl (by kernel_rfl)) ?_
                  first | refine w_pickT rfl rfl rfl ⟨_, rfl⟩ ?_ | refine w_pickF rfl rfl ⟨_, rfl⟩ rfl ?_ | refine w_pick rfl rfl rfl rfl ?_
                  refine ws_nil ?_
                  refine wr_float F 15 rfl (by kernel_rfl) (.inl (by kernel_rfl)) ?_
                  refine w_move rfl rfl ?_
                  refine ws_nil ?_
                  refine wr_split (t := 173) rfl (fun g173 => ?_) (fun g173 => ?_)
                  · first | replace g173 := of_decide_eq_true g173 | replace g173 := of_decide_eq_false g173 | replace g173 := of_decide_eq_false (nb_T g173) | replace g173 := of_decide_eq_true (nb_F g173) | replace g173 := nb_T g173 | replace g173 := nb_F g173 | skip
                    first | replace g173 := Int.not_lt.mp g173 | replace g173 := Int.not_le.mp g173 | replace g173 := Decidable.not_not.mp g173 | skip
                    refine wr_float F 16 rfl (by kernel_rfl) (.inl (by kernel_rfl)) ?_
                    refine ws_on rfl rfl ?_ (hn := rfl)
                    refine w_move rfl rfl ?_
                    refine ws_nil ?_
                    refine wr_float F 17 rfl (by kernel_rfl) (.inl (by kernel_rfl)) ?_
                    refine ws_on rfl rfl ?_ (hn := rfl)
                    refine w_move rfl rfl ?_
                    refine ws_nil ?_
                    refine wr_float F 19 rfl (by kernel_rfl) (.inl (by kernel_rfl)) ?_
                    refine ws_on rfl rfl ?_ (hn := rfl)
                    refine w_move rfl rfl ?_
                    refine ws_nil ?_
                    refine wr_float F 20 rfl (by kernel_rfl) (.inl (by kernel_rfl)) ?_
                    refine ws_on rfl rfl ?_ (hn := rfl)
                    refine w_move rfl rfl ?_
                    refine ws_nil ?_
                    refine wr_float F 21 rfl (by kernel_rfl) (.inl (by kernel_rfl)) ?_
                    refine ws_on rfl rfl ?_ (hn := rfl)
                    first | refine w_lidx u31 s4 rfl rfl rfl (by omega) ?_ | refine w_slidx u31 s4 rfl rfl rfl (by omega) ?_
                    refine ws_nil ?_
                    refine wr_pure F 22 rfl (by kernel_rfl) rfl rfl (pf_ldC1 a4 rfl (by first | exact tab_getL (by omega) | exact tab_getP (by omega) | exact flat_getI0 (by intro _; rfl) (by assumption) (by first | rfl | omega) (by decide) rfl | exact flat_getI (by intro _; rfl) (by assumption) (by first | rfl | omega) (by decide) rfl | rfl)) (.inr ⟨_, _, _, rfl, rfl, rfl⟩) ?_
                    refine wr_next F (l := [18]) (by kernel_rfl) (by simp) (.cons rfl ?_ (.nil))
                    refine ws_on rfl rfl ?_ (hn := rfl)
                    refine w_call rfl rfl (cw_fn rfl rfl (.cons (by first | exact .closed rfl | exact .nil | exact .ownV rfl (by first | exact .head | exact .tail .head | exact .tail (.tail .head) | exact .tail (.tail (.tail .head)) | exact .tail (.tail (.tail (.tail .head)))) (by first | exact tab_done _ _ | exact flat_done (by intro _; rfl) _ | rfl | assumption) | exact .objV rfl (by first | exact .head | exact .tail .head | exact .tail (.tail .head) | exact .tail (.tail (.tail .head)) | exact .tail (.tail (.tail (.tail .head)))) (by first | exact tab_length _ _ | exact flat_length (by intro _; rfl) _ | exact (flat_length (s := 1) (by intro _; rfl) _).trans (by simp only [*]) | exact (flat_length (s := 2) (by intro _; rfl) _).trans (by simp only [*]) | exact (flat_length (s := 3) (by intro _; rfl) _).trans (by simp only [*]) | exact (flat_length (s := 4) (by intro _; rfl) _).trans (by simp only [*]) | exact (flat_length (s := 5) (by intro _; rfl) _).trans (by simp only [*]) | exact (flat_length (s := 6) (by intro _; rfl) _).trans (by simp only [*]) | rfl) (by first | exact tab_done _ _ | exact flat_done (by intro _; rfl) _ | rfl | assumption) | exact .ownK rfl (by first | exact .head | exact .tail .head | exact .tail (.tail .head) | exact .tail (.tail (.tail .head)) | exact .tail (.tail (.tail (.tail .head)))) (by first | exact tab_done _ _ | exact flat_done (by intro _; rfl) _ | rfl | assumption) | exact .objK rfl (by omega) (by first | exact .head | exact .tail .head | exact .tail (.tail .head) | exact .tail (.tail (.tail .head)) | exact .tail (.tail (.tail (.tail .head)))) (by first | exact tab_length _ _ | exact flat_length (by intro _; rfl) _ | exact (flat_length (s := 1) (by intro _; rfl) _).trans (by simp only [*]) | exact (flat_length (s := 2) (by intro _; rfl) _).trans (by simp only [*]) | exact (flat_length (s := 3) (by intro _; rfl) _).trans (by simp only [*]) | exact (flat_length (s := 4) (by intro _; rfl) _).trans (by simp only [*]) | exact (flat_length (s := 5) (by intro _; rfl) _).trans (by simp only [*]) | exact (flat_length (s := 6) (by intro _; rfl) _).trans (by simp only [*]) | rfl) (by first | exact tab_done _ _ | exact flat_done (by intro _; rfl) _ | rfl | assumption) | exact .ptr (by first | exact .head | exact .tail .head | exact .tail (.tail .head) | exact .tail (.tail (.tail .head)) | exact .tail (.tail (.tail (.tail .head)))) (by first | exact tab_done _ _ | exact flat_done (by intro _; rfl) _ | rfl | assumption)) (.cons (by first | exact .closed rfl | exact .nil | exact .ownV rfl (by first | exact .head | exact .tail .head | exact .tail (.tail .head) | exact .tail (.tail (.tail .head)) | exact .tail (.tail (.tail (.tail .head)))) (by first | exact tab_done _ _ | exact flat_done (by intro _; rfl) _ | rfl | assumption) | exact .objV rfl (by first | exact .head | exact .tail .head | exact .tail (.tail .head) | exact .tail (.tail (.tail .head)) | exact .tail (.tail (.tail (.tail .head)))) (by first | exact tab_length _ _ | exact flat_length (by intro _; rfl) _ | exact (flat_length (s := 1) (by intro _; rfl) _).trans (by simp only [*]) | exact (flat_length (s := 2) (by intro _; rfl) _).trans (by simp only [*]) | exact (flat_length (s := 3) (by intro _; rfl) _).trans (by simp only [*]) | exact (flat_length (s := 4) (by intro _; rfl) _).trans (by simp only [*]) | exact (flat_length (s := 5) (by intro _; rfl) _).trans (by simp only [*]) | exact (flat_length (s := 6) (by intro _; rfl) _).trans (by simp only [*]) | rfl) (by first | exact tab_done _ _ | exact flat_done (by intro _; rfl) _ | rfl | assumption) | exact .ownK rfl (by first | exact .head | exact .tail .head | exact .tail (.tail .head) | exact .tail (.tail (.tail .head)) | exact .tail (.tail (.tail (.tail .head)))) (by first | exact tab_done _ _ | exact flat_done (by intro _; rfl) _ | rfl | assumption) | exact .objK rfl (by omega) (by first | exact .head | exact .tail .head | exact .tail (.tail .head) | exact .tail (.tail (.tail .head)) | exact .tail (.tail (.tail (.tail .head)))) (by first | exact tab_length _ _ | exact flat_length (by intro _; rfl) _ | exact (flat_length (s := 1) (by intro _; rfl) _).trans (by simp only [*]) | exact (flat_length (s := 2) (by intro _; rfl) _).trans (by simp only [*]) | exact (flat_length (s := 3) (by intro _; rfl) _).trans (by simp only [*]) | exact (flat_length (s := 4) (by intro _; rfl) _).trans (by simp only [*]) | exact (flat_length (s := 5) (by intro _; rfl) _).trans (by simp only [*]) | exact (flat_length (s := 6) (by intro _; rfl) _).trans (by simp only [*]) | rfl) (by first | exact tab_done _ _ | exact flat_done (by intro _; rfl) _ | rfl | assumption) | exact .ptr (by first | exact .head | exact .tail .head | exact .tail (.tail .head) | exact .tail (.tail (.tail .head)) | exact .tail (.tail (.tail (.tail .head)))) (by first | exact tab_done _ _ | exact flat_done (by intro _; rfl) _ | rfl | assumption)) .nil)) (has_fn _ _ (by omega)) ?_)
                    refine ws_nil ?_
                    refine wr_float F 23 rfl (by kernel_rfl) (.inl (by kernel_rfl)) ?_
                    refine ws_on rfl rfl ?_ (hn := rfl)
                    refine w_beql u4 rfl rfl rfl ?_
                    refine ws_nil ?_
                    refine wr_float F 24 rfl (by kernel_rfl) (.inl (by kernel_rfl)) ?_
                    first | refine w_pickT rfl rfl rfl ⟨_, rfl⟩ ?_ | refine w_pickF rfl rfl ⟨_, rfl⟩ rfl ?_ | refine w_pick rfl rfl rfl rfl ?_
                    refine ws_nil ?_
                    refine wr_float F 25 rfl (by kernel_rfl) (.inl (by kernel_rfl)) ?_
                    refine w_move rfl rfl ?_
                    refine ws_nil ?_
                    refine wr_split (t := 183) rfl (fun g183 => ?_) (fun g183 => ?_)
                    · first | replace g183 := of_decide_eq_true g183 | replace g183 := of_decide_eq_false g183 | replace g183 := of_decide_eq_false (nb_T g183) | replace g183 := of_decide_eq_true (nb_F g183) | replace g183 := nb_T g183 | replace g183 := nb_F g183 | skip
                      first | replace g183 := Int.not_lt.mp g183 | replace g183 := Int.not_le.mp g183 | replace g183 := Decidable.not_not.mp g183 | skip
                      refine wr_float F 26 rfl (by kernel_rfl) (.inl (by kernel_rfl)) ?_
                      refine ws_on rfl rfl ?_ (hn := rfl)
                      refine w_move rfl rfl ?_
                      refine ws_nil ?_
                      refine wr_next F (l := [27]) (by kernel_rfl) (by simp) (.cons rfl ?_ (.nil))
                      refine ws_on rfl rfl ?_ (hn := rfl)
                      refine w_call rfl rfl (cw_fn rfl rfl (.cons (by first | exact .closed rfl | exact .nil | exact .ownV rfl (by first | exact .head | exact .tail .head | exact .tail (.tail .head) | exact .tail (.tail (.tail .head)) | exact .tail (.tail (.tail (.tail .head)))) (by first | exact tab_done _ _ | exact flat_done (by intro _; rfl) _ | rfl | assumption) | exact .objV rfl (by first | exact .head | exact .tail .head | exact .tail (.tail .head) | exact .tail (.tail (.tail .head)) | exact .tail (.tail (.tail (.tail .head)))) (by first | exact tab_length _ _ | exact flat_length (by intro _; rfl) _ | exact (flat_length (s := 1) (by intro _; rfl) _).trans (by simp only [*]) | exact (flat_length (s := 2) (by intro _; rfl) _).trans (by simp only [*]) | exact (flat_length (s := 3) (by intro _; rfl) _).trans (by simp only [*]) | exact (flat_length (s := 4) (by intro _; rfl) _).trans (by simp only [*]) | exact (flat_length (s := 5) (by intro _; rfl) _).trans (by simp only [*]) | exact (flat_length (s := 6) (by intro _; rfl) _).trans (by simp only [*]) | rfl) (by first | exact tab_done _ _ | exact flat_done (by intro _; rfl) _ | rfl | assumption) | exact .ownK rfl (by first | exact .head | exact .tail .head | exact .tail (.tail .head) | exact .tail (.tail (.tail .head)) | exact .tail (.tail (.tail (.tail .head)))) (by first | exact tab_done _ _ | exact flat_done (by intro _; rfl) _ | rfl | assumption) | exact .objK rfl (by omega) (by first | exact .head | exact .tail .head | exact .tail (.tail .head) | exact .tail (.tail (.tail .head)) | exact .tail (.tail (.tail (.tail .head)))) (by first | exact tab_length _ _ | exact flat_length (by intro _; rfl) _ | exact (flat_length (s := 1) (by intro _; rfl) _).trans (by simp only [*]) | exact (flat_length (s := 2) (by intro _; rfl) _).trans (by simp only [*]) | exact (flat_length (s := 3) (by intro _; rfl) _).trans (by simp only [*]) | exact (flat_length (s := 4) (by intro _; rfl) _).trans (by simp only [*]) | exact (flat_length (s := 5) (by intro _; rfl) _).trans (by simp only [*]) | exact (flat_length (s := 6) (by intro _; rfl) _).trans (by simp only [*]) | rfl) (by first | exact tab_done _ _ | exact flat_done (by intro _; rfl) _ | rfl | assumption) | exact .ptr (by first | exact .head | exact .tail .head | exact .tail (.tail .head) | exact .tail (.tail (.tail .head)) | exact .tail (.tail (.tail (.tail .head)))) (by first | exact tab_done _ _ | exact flat_done (by intro _; rfl) _ | rfl | assumption)) (.cons (by first | exact .closed rfl | exact .nil | exact .ownV rfl (by first | exact .head | exact .tail .head | exact .tail (.tail .head) | exact .tail (.tail (.tail .head)) | exact .tail (.tail (.tail (.tail .head)))) (by first | exact tab_done _ _ | exact flat_done (by intro _; rfl) _ | rfl | assumption) | exact .objV rfl (by first | exact .head | exact .tail .head | exact .tail (.tail .head) | exact .tail (.tail (.tail .head)) | exact .tail (.tail (.tail (.tail .head)))) (by first | exact tab_length _ _ | exact flat_length (by intro _; rfl) _ | exact (flat_length (s := 1) (by intro _; rfl) _).trans (by simp only [*]) | exact (flat_length (s := 2) (by intro _; rfl) _).trans (by simp only [*]) | exact (flat_length (s := 3) (by intro _; rfl) _).trans (by simp only [*]) | exact (flat_length (s := 4) (by intro _; rfl) _).trans (by simp only [*]) | exact (flat_length (s := 5) (by intro _; rfl) _).trans (by simp only [*]) | exact (flat_length (s := 6) (by intro _; rfl) _).trans (by simp only [*]) | rfl) (by first | exact tab_done _ _ | exact flat_done (by intro _; rfl) _ | rfl | assumption) | exact .ownK rfl (by first | exact .head | exact .tail .head | exact .tail (.tail .head) | exact .tail (.tail (.tail .head)) | exact .tail (.tail (.tail (.tail .head)))) (by first | exact tab_done _ _ | exact flat_done (by intro _; rfl) _ | rfl | assumption) | exact .objK rfl (by omega) (by first | exact .head | exact .tail .head | exact .tail (.tail .head) | exact .tail (.tail (.tail .head)) | exact .tail (.tail (.tail (.tail .head)))) (by first | exact tab_length _ _ | exact flat_length (by intro _; rfl) _ | exact (flat_length (s := 1) (by intro _; rfl) _).trans (by simp only [*]) | exact (flat_length (s := 2) (by intro _; rfl) _).trans (by simp only [*]) | exact (flat_length (s := 3) (by intro _; rfl) _).trans (by simp only [*]) | exact (flat_length (s := 4) (by intro _; rfl) _).trans (by simp only [*]) | exact (flat_length (s := 5) (by intro _; rfl) _).trans (by simp only [*]) | exact (flat_length (s := 6) (by intro _; rfl) _).trans (by simp only [*]) | rfl) (by first | exact tab_done _ _ | exact flat_done (by intro _; rfl) _ | rfl | assumption) | exact .ptr (by first | exact .head | exact .tail .head | exact .tail (.tail .head) | exact .tail (.tail (.tail .head)) | exact .tail (.tail (.tail (.tail .head)))) (by first | exact tab_done _ _ | exact flat_done (by intro _; rfl) _ | rfl | assumption)) .nil)) (has_fn _ _ (by omega)) ?_)
                      refine ws_nil ?_
                      refine wr_float F 28 rfl (by kernel_rfl) (.inl (by kernel_rfl)) ?_
                      refine ws_on rfl rfl ?_ (hn := rfl)
                      refine w_not rfl rfl ?_
                      refine ws_nil ?_
                      refine wr_float F 29 rfl (by kernel_rfl) (.inl (by kernel_rfl)) ?_
                      first | refine w_pickT rfl rfl rfl ⟨_, rfl⟩ ?_ | refine w_pickF rfl rfl ⟨_, rfl⟩ rfl ?_ | refine w_pick rfl rfl rfl rfl ?_
                      refine ws_nil ?_
                      refine wr_float F 30 rfl (by kernel_rfl) (.inl (by kernel_rfl)) ?_
                      refine w_move rfl rfl ?_
                      refine ws_nil ?_
                      refine wr_split (t := 188) rfl (fun g188 => ?_) (fun g188 => ?_)
                      · first | replace g188 := of_decide_eq_true g188 | replace g188 := of_decide_eq_false g188 | replace g188 := of_decide_eq_false (nb_T g188) | replace g188 := of_decide_eq_true (nb_F g188) | replace g188 := nb_T g188 | replace g188 := nb_F g188 | skip
                        first | replace g188 := Int.not_lt.mp g188 | replace g188 := Int.not_le.mp g188 | replace g188 := Decidable.not_not.mp g188 | skip
                        refine wr_float F 31 rfl (by kernel_rfl) (.inl (by kernel_rfl)) ?_
                        refine ws_on rfl rfl ?_ (hn := rfl)
                        refine w_move rfl rfl ?_
                        refine ws_nil ?_
                        refine wr_next F (l := [32]) (by kernel_rfl) (by simp) (.cons rfl ?_ (.nil))
                        refine ws_on rfl rfl ?_ (hn := rfl)
                        refine w_call rfl rfl (cw_fn rfl rfl (.cons (by first | exact .closed rfl | exact .nil | exact .ownV rfl (by first | exact .head | exact .tail .head | exact .tail (.tail .head) | exact .tail (.tail (.tail .head)) | exact .tail (.tail (.tail (.tail .head)))) (by first | exact tab_done _ _ | exact flat_done (by intro _; rfl) _ | rfl | assumption) | exact .objV rfl (by first | exact .head | exact .tail .head | exact .tail (.tail .head) | exact .tail (.tail (.tail .head)) | exact .tail (.tail (.tail (.tail .head)))) (by first | exact tab_length _ _ | exact flat_length (by intro _; rfl) _ | exact (flat_length (s := 1) (by intro _; rfl) _).trans (by simp only [*]) | exact (flat_length (s := 2) (by intro _; rfl) _).trans (by simp only [*]) | exact (flat_length (s := 3) (by intro _; rfl) _).trans (by simp only [*]) | exact (flat_length (s := 4) (by intro _; rfl) _).trans (by simp only [*]) | exact (flat_length (s := 5) (by intro _; rfl) _).trans (by simp only [*]) | exact (flat_length (s := 6) (by intro _; rfl) _).trans (by simp only [*]) | rfl) (by first | exact tab_done _ _ | exact flat_done (by intro _; rfl) _ | rfl | assumption) | exact .ownK rfl (by first | exact .head | exact .tail .head | exact .tail (.tail .head) | exact .tail (.tail (.tail .head)) | exact .tail (.tail (.tail (.tail .head)))) (by first | exact tab_done _ _ | exact flat_done (by intro _; rfl) _ | rfl | assumption) | exact .objK rfl (by omega) (by first | exact .head | exact .tail .head | exact .tail (.tail .head) | exact .tail (.tail (.tail .head)) | exact .tail (.tail (.tail (.tail .head)))) (by first | exact tab_length _ _ | exact flat_length (by intro _; rfl) _ | exact (flat_length (s := 1) (by intro _; rfl) _).trans (by simp only [*]) | exact (flat_length (s := 2) (by intro _; rfl) _).trans (by simp only [*]) | exact (flat_length (s := 3) (by intro _; rfl) _).trans (by simp only [*]) | exact (flat_length (s := 4) (by intro _; rfl) _).trans (by simp only [*]) | exact (flat_length (s := 5) (by intro _; rfl) _).trans (by simp only [*]) | exact (flat_length (s := 6) (by intro _; rfl) _).trans (by simp only [*]) | rfl) (by first | exact tab_done _ _ | exact flat_done (by intro _; rfl) _ | rfl | assumption) | exact .ptr (by first | exact .head | exact .tail .head | exact .tail (.tail .head) | exact .tail (.tail (.tail .head)) | exact .tail (.tail (.tail (.tail .head)))) (by first | exact tab_done _ _ | exact flat_done (by intro _; rfl) _ | rfl | assumption)) (.cons (by first | exact .closed rfl | exact .nil | exact .ownV rfl (by first | exact .head | exact .tail .head | exact .tail (.tail .head) | exact .tail (.tail (.tail .head)) | exact .tail (.tail (.tail (.tail .head)))) (by first | exact tab_done _ _ | exact flat_done (by intro _; rfl) _ | rfl | assumption) | exact .objV rfl (by first | exact .head | exact .tail .head | exact .tail (.tail .head) | exact .tail (.tail (.tail .head)) | exact .tail (.tail (.tail (.tail .head)))) (by first | exact tab_length _ _ | exact flat_length (by intro _; rfl) _ | exact (flat_length (s := 1) (by intro _; rfl) _).trans (by simp only [*]) | exact (flat_length (s := 2) (by intro _; rfl) _).trans (by simp only [*]) | exact (flat_length (s := 3) (by intro _; rfl) _).trans (by simp only [*]) | exact (flat_length (s := 4) (by intro _; rfl) _).trans (by simp only [*]) | exact (flat_length (s := 5) (by intro _; rfl) _).trans (by simp only [*]) | exact (flat_length (s := 6) (by intro _; rfl) _).trans (by simp only [*]) | rfl) (by first | exact tab_done _ _ | exact flat_done (by intro _; rfl) _ | rfl | assumption) | exact .ownK rfl (by first | exact .head | exact .tail .head | exact .tail (.tail .head) | exact .tail (.tail (.tail .head)) | exact .tail (.tail (.tail (.tail .head)))) (by first | exact tab_done _ _ | exact flat_done (by intro _; rfl) _ | rfl | assumption) | exact .objK rfl (by omega) (by first | exact .head | exact .tail .head | exact .tail (.tail .head) | exact .tail (.tail (.tail .head)) | exact .tail (.tail (.tail (.tail .head)))) (by first | exact tab_length _ _ | exact flat_length (by intro _; rfl) _ | exact (flat_length (s := 1) (by intro _; rfl) _).trans (by simp only [*]) | exact (flat_length (s := 2) (by intro _; rfl) _).trans (by simp only [*]) | exact (flat_length (s := 3) (by intro _; rfl) _).trans (by simp only [*]) | exact (flat_length (s := 4) (by intro _; rfl) _).trans (by simp only [*]) | exact (flat_length (s := 5) (by intro _; rfl) _).trans (by simp only [*]) | exact (flat_length (s := 6) (by intro _; rfl) _).trans (by simp only [*]) | rfl) (by first | exact tab_done _ _ | exact flat_done (by intro _; rfl) _ | rfl | assumption) | exact .ptr (by first | exact .head | exact .tail .head | exact .tail (.tail .head) | exact .tail (.tail (.tail .head)) | exact .tail (.tail (.tail (.tail .head)))) (by first | exact tab_done _ _ | exact flat_done (by intro _; rfl) _ | rfl | assumption)) .nil)) (has_fn _ _ (by omega)) ?_)
                        refine ws_nil ?_
                        refine wr_float F 33 rfl (by kernel_rfl) (.inl (by kernel_rfl)) ?_
                        refine ws_on rfl rfl ?_ (hn := rfl)
                        refine w_not rfl rfl ?_
                        refine ws_nil ?_
                        refine wr_float F 34 rfl (by kernel_rfl) (.inl (by kernel_rfl)) ?_
                        first | refine w_pickT rfl rfl rfl ⟨_, rfl⟩ ?_ | refine w_pickF rfl rfl ⟨_, rfl⟩ rfl ?_ | refine w_pick rfl rfl rfl rfl ?_
                        refine ws_nil ?_
                        refine wr_float F 35 rfl (by kernel_rfl) (.inl (by kernel_rfl)) ?_
                        refine w_move rfl rfl ?_
                        refine ws_nil ?_
                        refine wr_split (t := 193) rfl (fun g193 => ?_) (fun g193 => ?_)
                        · first | replace g193 := of_decide_eq_true g193 | replace g193 := of_decide_eq_false g193 | replace g193 := of_decide_eq_false (nb_T g193) | replace g193 := of_decide_eq_true (nb_F g193) | replace g193 := nb_T g193 | replace g193 := nb_F g193 | skip
                          first | replace g193 := Int.not_lt.mp g193 | replace g193 := Int.not_le.mp g193 | replace g193 := Decidable.not_not.mp g193 | skip
                          refine wr_float F 36 rfl (by kernel_rfl) (.inl (by kernel_rfl)) ?_
                          refine ws_on rfl rfl ?_ (hn := rfl)
                          refine w_move rfl rfl ?_
                          refine ws_nil ?_
                          refine wr_float F 39 rfl (by kernel_rfl) (.inl (by kernel_rfl)) ?_
                          refine ws_on rfl rfl ?_ (hn := rfl)
                          refine w_move rfl rfl ?_
                          refine ws_nil ?_
                          refine wr_next F (l := [37]) (by kernel_rfl) (by simp) (.cons rfl ?_ (.nil))
                          refine ws_on rfl rfl ?_ (hn := rfl)
                          refine w_call rfl rfl (cw_fn rfl rfl (.cons (by first | exact .closed rfl | exact .nil | exact .ownV rfl (by first | exact .head | exact .tail .head | exact .tail (.tail .head) | exact .tail (.tail (.tail .head)) | exact .tail (.tail (.tail (.tail .head)))) (by first | exact tab_done _ _ | exact flat_done (by intro _; rfl) _ | rfl | assumption) | exact .objV rfl (by first | exact .head | exact .tail .head | exact .tail (.tail .head) | exact .tail (.tail (.tail .head)) | exact .tail (.tail (.tail (.tail .head)))) (by first | exact tab_length _ _ | exact flat_length (by intro _; rfl) _ | exact (flat_length (s := 1) (by intro _; rfl) _).trans (by simp only [*]) | exact (flat_length (s := 2) (by intro _; rfl) _).trans (by simp only [*]) | exact (flat_length (s := 3) (by intro _; rfl) _).trans (by simp only [*]) | exact (flat_length (s := 4) (by intro _; rfl) _).trans (by simp only [*]) | exact (flat_length (s := 5) (by intro _; rfl) _).trans (by simp only [*]) | exact (flat_length (s := 6) (by intro _; rfl) _).trans (by simp only [*]) | rfl) (by first | exact tab_done _ _ | exact flat_done (by intro _; rfl) _ | rfl | assumption) | exact .ownK rfl (by first | exact .head | exact .tail .head | exact .tail (.tail .head) | exact .tail (.tail (.tail .head)) | exact .tail (.tail (.tail (.tail .head)))) (by first | exact tab_done _ _ | exact flat_done (by intro _; rfl) _ | rfl | assumption) | exact .objK rfl (by omega) (by first | exact .head | exact .tail .head | exact .tail (.tail .head) | exact .tail (.tail (.tail .head)) | exact .tail (.tail (.tail (.tail .head)))) (by first | exact tab_length _ _ | exact flat_length (by intro _; rfl) _ | exact (flat_length (s := 1) (by intro _; rfl) _).trans (by simp only [*]) | exact (flat_length (s := 2) (by intro _; rfl) _).trans (by simp only [*]) | exact (flat_length (s := 3) (by intro _; rfl) _).trans (by simp only [*]) | exact (flat_length (s := 4) (by intro _; rfl) _).trans (by simp only [*]) | exact (flat_length (s := 5) (by intro _; rfl) _).trans (by simp only [*]) | exact (flat_length (s := 6) (by intro _; rfl) _).trans (by simp only [*]) | rfl) (by first | exact tab_done _ _ | exact flat_done (by intro _; rfl) _ | rfl | assumption) | exact .ptr (by first | exact .head | exact .tail .head | exact .tail (.tail .head) | exact .tail (.tail (.tail .head)) | exact .tail (.tail (.tail (.tail .head)))) (by first | exact tab_done _ _ | exact flat_done (by intro _; rfl) _ | rfl | assumption)) .nil) (ticks_fn _ (by omega)) ?_)
                          refine ws_nil ?_
                          refine wr_next F (l := [38]) (by kernel_rfl) (by simp) (.cons rfl ?_ (.nil))
                          refine ws_on rfl rfl ?_ (hn := rfl)
                          refine w_call rfl rfl (cw_fn rfl rfl (.cons (by first | exact .closed rfl | exact .nil | exact .ownV rfl (by first | exact .head | exact .tail .head | exact .tail (.tail .head) | exact .tail (.tail (.tail .head)) | exact .tail (.tail (.tail (.tail .head)))) (by first | exact tab_done _ _ | exact flat_done (by intro _; rfl) _ | rfl | assumption) | exact .objV rfl (by first | exact .head | exact .tail .head | exact .tail (.tail .head) | exact .tail (.tail (.tail .head)) | exact .tail (.tail (.tail (.tail .head)))) (by first | exact tab_length _ _ | exact flat_length (by intro _; rfl) _ | exact (flat_length (s := 1) (by intro _; rfl) _).trans (by simp only [*]) | exact (flat_length (s := 2) (by intro _; rfl) _).trans (by simp only [*]) | exact (flat_length (s := 3) (by intro _; rfl) _).trans (by simp only [*]) | exact (flat_length (s := 4) (by intro _; rfl) _).trans (by simp only [*]) | exact (flat_length (s := 5) (by intro _; rfl) _).trans (by simp only [*]) | exact (flat_length (s := 6) (by intro _; rfl) _).trans (by simp only [*]) | rfl) (by first | exact tab_done _ _ | exact flat_done (by intro _; rfl) _ | rfl | assumption) | exact .ownK rfl (by first | exact .head | exact .tail .head | exact .tail (.tail .head) | exact .tail (.tail (.tail .head)) | exact .tail (.tail (.tail (.tail .head)))) (by first | exact tab_done _ _ | exact flat_done (by intro _; rfl) _ | rfl | assumption) | exact .objK rfl (by omega) (by first | exact .head | exact .tail .head | exact .tail (.tail .head) | exact .tail (.tail (.tail .head)) | exact .tail (.tail (.tail (.tail .head)))) (by first | exact tab_length _ _ | exact flat_length (by intro _; rfl) _ | exact (flat_length (s := 1) (by intro _; rfl) _).trans (by simp only [*]) | exact (flat_length (s := 2) (by intro _; rfl) _).trans (by simp only [*]) | exact (flat_length (s := 3) (by intro _; rfl) _).trans (by simp only [*]) | exact (flat_length (s := 4) (by intro _; rfl) _).trans (by simp only [*]) | exact (flat_length (s := 5) (by intro _; rfl) _).trans (by simp only [*]) | exact (flat_length (s := 6) (by intro _; rfl) _).trans (by simp only [*]) | rfl) (by first | exact tab_done _ _ | exact flat_done (by intro _; rfl) _ | rfl | assumption) | exact .ptr (by first | exact .head | exact .tail .head | exact .tail (.tail .head) | exact .tail (.tail (.tail .head)) | exact .tail (.tail (.tail (.tail .head)))) (by first | exact tab_done _ _ | exact flat_done (by intro _; rfl) _ | rfl | assumption)) .nil) (ofs_fn _ (by omega)) ?_)
                          refine ws_nil ?_
                          refine wr_next F (l := [40]) (by kernel_rfl) (by simp) (.cons rfl ?_ (.nil))
                          refine ws_on rfl rfl ?_ (hn := rfl)
                          refine w_call rfl rfl (cw_fn rfl rfl (.cons (by first | exact .closed rfl | exact .nil | exact .ownV rfl (by first | exact .head | exact .tail .head | exact .tail (.tail .head) | exact .tail (.tail (.tail .head)) | exact .tail (.tail (.tail (.tail .head)))) (by first | exact tab_done _ _ | exact flat_done (by intro _; rfl) _ | rfl | assumption) | exact .objV rfl (by first | exact .head | exact .tail .head | exact .tail (.tail .head) | exact .tail (.tail (.tail .head)) | exact .tail (.tail (.tail (.tail .head)))) (by first | exact tab_length _ _ | exact flat_length (by intro _; rfl) _ | exact (flat_length (s := 1) (by intro _; rfl) _).trans (by simp only [*]) | exact (flat_length (s := 2) (by intro _; rfl) _).trans (by simp only [*]) | exact (flat_length (s := 3) (by intro _; rfl) _).trans (by simp only [*]) | exact (flat_length (s := 4) (by intro _; rfl) _).trans (by simp only [*]) | exact (flat_length (s := 5) (by intro _; rfl) _).trans (by simp only [*]) | exact (flat_length (s := 6) (by intro _; rfl) _).trans (by simp only [*]) | rfl) (by first | exact tab_done _ _ | exact flat_done (by intro _; rfl) _ | rfl | assumption) | exact .ownK rfl (by first | exact .head | exact .tail .head | exact .tail (.tail .head) | exact .tail (.tail (.tail .head)) | exact .tail (.tail (.tail (.tail .head)))) (by first | exact tab_done _ _ | exact flat_done (by intro _; rfl) _ | rfl | assumption) | exact .objK rfl (by omega) (by first | exact .head | exact .tail .head | exact .tail (.tail .head) | exact .tail (.tail (.tail .head)) | exact .tail (.tail (.tail (.tail .head)))) (by first | exact tab_length _ _ | exact flat_length (by intro _; rfl) _ | exact (flat_length (s := 1) (by intro _; rfl) _).trans (by simp only [*]) | exact (flat_length (s := 2) (by intro _; rfl) _).trans (by simp only [*]) | exact (flat_length (s := 3) (by intro _; rfl) _).trans (by simp only [*]) | exact (flat_length (s := 4) (by intro _; rfl) _).trans (by simp only [*]) | exact (flat_length (s := 5) (by intro _; rfl) _).trans (by simp only [*]) | exact (flat_length (s := 6) (by intro _; rfl) _).trans (by simp only [*]) | rfl) (by first | exact tab_done _ _ | exact flat_done (by intro _; rfl) _ | rfl | assumption) | exact .ptr (by first | exact .head | exact .tail .head | exact .tail (.tail .head) | exact .tail (.tail (.tail .head)) | exact .tail (.tail (.tail (.tail .head)))) (by first | exact tab_done _ _ | exact flat_done (by intro _; rfl) _ | rfl | assumption)) (.cons (by first | exact .closed rfl | exact .nil | exact .ownV rfl (by first | exact .head | exact .tail .head | exact .tail (.tail .head) | exact .tail (.tail (.tail .head)) | exact .tail (.tail (.tail (.tail .head)))) (by first | exact tab_done _ _ | exact flat_done (by intro _; rfl) _ | rfl | assumption) | exact .objV rfl (by first | exact .head | exact .tail .head | exact .tail (.tail .head) | exact .tail (.tail (.tail .head)) | exact .tail (.tail (.tail (.tail .head)))) (by first | exact tab_length _ _ | exact flat_length (by intro _; rfl) _ | exact (flat_length (s := 1) (by intro _; rfl) _).trans (by simp only [*]) | exact (flat_length (s := 2) (by intro _; rfl) _).trans (by simp only [*]) | exact (flat_length (s := 3) (by intro _; rfl) _).trans (by simp only [*]) | exact (flat_length (s := 4) (by intro _; rfl) _).trans (by simp only [*]) | exact (flat_length (s := 5) (by intro _; rfl) _).trans (by simp only [*]) | exact (flat_length (s := 6) (by intro _; rfl) _).trans (by simp only [*]) | rfl) (by first | exact tab_done _ _ | exact flat_done (by intro _; rfl) _ | rfl | assumption) | exact .ownK rfl (by first | exact .head | exact .tail .head | exact .tail (.tail .head) | exact .tail (.tail (.tail .head)) | exact .tail (.tail (.tail (.tail .head)))) (by first | exact tab_done _ _ | exact flat_done (by intro _; rfl) _ | rfl | assumption) | exact .objK rfl (by omega) (by first | exact .head | exact .tail .head | exact .tail (.tail .head) | exact .tail (.tail (.tail .head)) | exact .tail (.tail (.tail (.tail .head)))) (by first | exact tab_length _ _ | exact flat_length (by intro _; rfl) _ | exact (flat_length (s := 1) (by intro _; rfl) _).trans (by simp only [*]) | exact (flat_length (s := 2) (by intro _; rfl) _).trans (by simp only [*]) | exact (flat_length (s := 3) (by intro _; rfl) _).trans (by simp only [*]) | exact (flat_length (s := 4) (by intro _; rfl) _).trans (by simp only [*]) | exact (flat_length (s := 5) (by intro _; rfl) _).trans (by simp only [*]) | exact (flat_length (s := 6) (by intro _; rfl) _).trans (by simp only [*]) | rfl) (by first | exact tab_done _ _ | exact flat_done (by intro _; rfl) _ | rfl | assumption) | exact .ptr (by first | exact .head | exact .tail .head | exact .tail (.tail .head) | exact .tail (.tail (.tail .head)) | exact .tail (.tail (.tail (.tail .head)))) (by first | exact tab_done _ _ | exact flat_done (by intro _; rfl) _ | rfl | assumption)) .nil)) (sameSp_fn _ _ (by first | omega | exact Nat.lt_of_le_of_lt (spansTo_bound _ 200).1 (by decide) | (simp only [List.length_take, List.length_drop]; omega))) ?_)
                          refine ws_nil ?_
                          refine wr_float F 41 rfl (by kernel_rfl) (.inl (by kernel_rfl)) ?_
                          first | refine w_pickT rfl rfl rfl ⟨_, rfl⟩ ?_ | refine w_pickF rfl rfl ⟨_, rfl⟩ rfl ?_ | refine w_pick rfl rfl rfl rfl ?_
                          refine ws_nil ?_
                          refine wr_float F 42 rfl (by kernel_rfl) (.inl (by kernel_rfl)) ?_
                          refine w_move rfl rfl ?_
                          refine ws_nil ?_
                          refine wr_split (t := 200) rfl (fun g200 => ?_) (fun g200 => ?_)
                          · first | replace g200 := of_decide_eq_true g200 | replace g200 := of_decide_eq_false g200 | replace g200 := of_decide_eq_false (nb_T g200) | replace g200 := of_decide_eq_true (nb_F g200) | replace g200 := nb_T g200 | replace g200 := nb_F g200 | skip
                            first | replace g200 := Int.not_lt.mp g200 | replace g200 := Int.not_le.mp g200 | replace g200 := Decidable.not_not.mp g200 | skip
                            refine wr_float F 43 rfl (by kernel_rfl) (.inl (by kernel_rfl)) ?_
                            refine ws_on rfl rfl ?_ (hn := rfl)
                            refine w_move rfl rfl ?_
                            refine ws_nil ?_
                            refine wr_float F 46 rfl (by kernel_rfl) (.inl (by kernel_rfl)) ?_
                            refine ws_on rfl rfl ?_ (hn := rfl)
                            refine w_move rfl rfl ?_
                            refine ws_nil ?_
                            refine wr_next F (l := [44]) (by kernel_rfl) (by simp) (.cons rfl ?_ (.nil))
                            refine ws_on rfl rfl ?_ (hn := rfl)
                            refine w_call rfl rfl (cw_fn rfl rfl (.cons (by first | exact .closed rfl | exact .nil | exact .ownV rfl (by first | exact .head | exact .tail .head | exact .tail (.tail .head) | exact .tail (.tail (.tail .head)) | exact .tail (.tail (.tail (.tail .head)))) (by first | exact tab_done _ _ | exact flat_done (by intro _; rfl) _ | rfl | assumption) | exact .objV rfl (by first | exact .head | exact .tail .head | exact .tail (.tail .head) | exact .tail (.tail (.tail .head)) | exact .tail (.tail (.tail (.tail .head)))) (by first | exact tab_length _ _ | exact flat_length (by intro _; rfl) _ | exact (flat_length (s := 1) (by intro _; rfl) _).trans (by simp only [*]) | exact (flat_length (s := 2) (by intro _; rfl) _).trans (by simp only [*]) | exact (flat_length (s := 3) (by intro _; rfl) _).trans (by simp only [*]) | exact (flat_length (s := 4) (by intro _; rfl) _).trans (by simp only [*]) | exact (flat_length (s := 5) (by intro _; rfl) _).trans (by simp only [*]) | exact (flat_length (s := 6) (by intro _; rfl) _).trans (by simp only [*]) | rfl) (by first | exact tab_done _ _ | exact flat_done (by intro _; rfl) _ | rfl | assumption) | exact .ownK rfl (by first | exact .head | exact .tail .head | exact .tail (.tail .head) | exact .tail (.tail (.tail .head)) | exact .tail (.tail (.tail (.tail .head)))) (by first | exact tab_done _ _ | exact flat_done (by intro _; rfl) _ | rfl | assumption) | exact .objK rfl (by omega) (by first | exact .head | exact .tail .head | exact .tail (.tail .head) | exact .tail (.tail (.tail .head)) | exact .tail (.tail (.tail (.tail .head)))) (by first | exact tab_length _ _ | exact flat_length (by intro _; rfl) _ | exact (flat_length (s := 1) (by intro _; rfl) _).trans (by simp only [*]) | exact (flat_length (s := 2) (by intro _; rfl) _).trans (by simp only [*]) | exact (flat_length (s := 3) (by intro _; rfl) _).trans (by simp only [*]) | exact (flat_length (s := 4) (by intro _; rfl) _).trans (by simp only [*]) | exact (flat_length (s := 5) (by intro _; rfl) _).trans (by simp only [*]) | exact (flat_length (s := 6) (by intro _; rfl) _).trans (by simp only [*]) | rfl) (by first | exact tab_done _ _ | exact flat_done (by intro _; rfl) _ | rfl | assumption) | exact .ptr (by first | exact .head | exact .tail .head | exact .tail (.tail .head) | exact .tail (.tail (.tail .head)) | exact .tail (.tail (.tail (.tail .head)))) (by first | exact tab_done _ _ | exact flat_done (by intro _; rfl) _ | rfl | assumption)) .nil) (ticks_fn _ (by omega)) ?_)
                            refine ws_nil ?_
                            refine wr_float F 45 rfl (by kernel_rfl) (.inl (by kernel_rfl)) ?_
                            refine ws_on rfl rfl ?_ (hn := rfl)
                            first | refine w_len rfl rfl (len_lst u30) ?_ | refine w_len rfl rfl (len_slice u30) ?_ | refine w_lenO rfl u30 rfl rfl (by first | exact .head | exact .tail .head | exact .tail (.tail .head) | exact .tail (.tail (.tail .head)) | exact .tail (.tail (.tail (.tail .head)))) ?_
                            refine ws_nil ?_
                            refine wr_float F 47 rfl (by kernel_rfl) (.inl (by kernel_rfl)) ?_
                            refine ws_on rfl rfl ?_ (hn := rfl)
                            refine w_eql u3 rfl rfl rfl ?_
                            refine ws_nil ?_
                            refine wr_float F 48 rfl (by kernel_rfl) (.inl (by kernel_rfl)) ?_
                            first | refine w_pickT rfl rfl rfl ⟨_, rfl⟩ ?_ | refine w_pickF rfl rfl ⟨_, rfl⟩ rfl ?_ | refine w_pick rfl rfl rfl rfl ?_
                            refine ws_nil ?_
                            refine wr_float F 49 rfl (by kernel_rfl) (.inl (by kernel_rfl)) ?_
                            refine w_move rfl rfl ?_
                            refine ws_nil ?_
                            refine wr_split (t := 207) rfl (fun g207 => ?_) (fun g207 => ?_)
                            · first | replace g207 := of_decide_eq_true g207 | replace g207 := of_decide_eq_false g207 | replace g207 := of_decide_eq_false (nb_T g207) | replace g207 := of_decide_eq_true (nb_F g207) | replace g207 := nb_T g207 | replace g207 := nb_F g207 | skip
                              first | replace g207 := Int.not_lt.mp g207 | replace g207 := Int.not_le.mp g207 | replace g207 := Decidable.not_not.mp g207 | skip
                              refine wr_next F (l := [50]) (by kernel_rfl) (by simp) (.cons rfl ?_ (.nil))
                              refine ws_on rfl rfl ?_ (hn := rfl)
                              refine w_call rfl rfl (cw_fn rfl rfl .nil (runs_fn) ?_)
                              refine ws_nil ?_
                              refine wr_float F 51 rfl (by kernel_rfl) (.inl (by kernel_rfl)) ?_
                              first | refine w_pickT rfl rfl rfl ⟨_, rfl⟩ ?_ | refine w_pickF rfl rfl ⟨_, rfl⟩ rfl ?_ | refine w_pick rfl rfl rfl rfl ?_
                              refine ws_nil ?_
                              refine wr_float F 52 rfl (by kernel_rfl) (.inl (by kernel_rfl)) ?_
                              refine w_assign rfl rfl ?_
                              refine ws_nil ?_
                              refine wr_end F (by kernel_rfl) ?_
                              refine wc_ret ?_
                              refine ⟨_, (.cons (.tmp rfl) .nil), ?_, rfl⟩
                              rfl
                            · first | replace g207 := of_decide_eq_true g207 | replace g207 := of_decide_eq_false g207 | replace g207 := of_decide_eq_false (nb_T g207) | replace g207 := of_decide_eq_true (nb_F g207) | replace g207 := nb_T g207 | replace g207 := nb_F g207 | skip
                              first | replace g207 := Int.not_lt.mp g207 | replace g207 := Int.not_le.mp g207 | replace g207 := Decidable.not_not.mp g207 | skip
                              exact absurd law8 g207
                          · first | replace g200 := of_decide_eq_true g200 | replace g200 := of_decide_eq_false g200 | replace g200 := of_decide_eq_false (nb_T g200) | replace g200 := of_decide_eq_true (nb_F g200) | replace g200 := nb_T g200 | replace g200 := nb_F g200 | skip
                            first | replace g200 := Int.not_lt.mp g200 | replace g200 := Int.not_le.mp g200 | replace g200 := Decidable.not_not.mp g200 | skip
                            exact absurd law7 g200
                        · first | replace g193 := of_decide_eq_true g193 | replace g193 := of_decide_eq_false g193 | replace g193 := of_decide_eq_false (nb_T g193) | replace g193 := of_decide_eq_true (nb_F g193) | replace g193 := nb_T g193 | replace g193 := nb_F g193 | skip
                          first | replace g193 := Int.not_lt.mp g193 | replace g193 := Int.not_le.mp g193 | replace g193 := Decidable.not_not.mp g193 | skip
                          rw [law9] at g193; cases g193
                      · first | replace g188 := of_decide_eq_true g188 | replace g188 := of_decide_eq_false g188 | replace g188 := of_decide_eq_false (nb_T g188) | replace g188 := of_decide_eq_true (nb_F g188) | replace g188 := nb_T g188 | replace g188 := nb_F g188 | skip
                        first | replace g188 := Int.not_lt.mp g188 | replace g188 := Int.not_le.mp g188 | replace g188 := Decidable.not_not.mp g188 | skip
                        rw [has_S_neg _ (by omega)] at g188; cases g188
                    · first | replace g183 := of_decide_eq_true g183 | replace g183 := of_decide_eq_false g183 | replace g183 := of_decide_eq_false (nb_T g183) | replace g183 := of_decide_eq_true (nb_F g183) | replace g183 := nb_T g183 | replace g183 := nb_F g183 | skip
                      first | replace g183 := Int.not_lt.mp g183 | replace g183 := Int.not_le.mp g183 | replace g183 := Decidable.not_not.mp g183 | skip
                      exact absurd (has_S X (by omega)) g183
                  · first | replace g173 := of_decide_eq_true g173 | replace g173 := of_decide_eq_false g173 | replace g173 := of_decide_eq_false (nb_T g173) | replace g173 := of_decide_eq_true (nb_F g173) | replace g173 := nb_T g173 | replace g173 := nb_F g173 | skip
                    first | replace g173 := Int.not_lt.mp g173 | replace g173 := Int.not_le.mp g173 | replace g173 := Decidable.not_not.mp g173 | skip
                    exact absurd law5 g173
                · first | replace g167 := of_decide_eq_true g167 | replace g167 := of_decide_eq_false g167 | replace g167 := of_decide_eq_false (nb_T g167) | replace g167 := of_decide_eq_true (nb_F g167) | replace g167 := nb_T g167 | replace g167 := nb_F g167 | skip
                  first | replace g167 := Int.not_lt.mp g167 | replace g167 := Int.not_le.mp g167 | replace g167 := Decidable.not_not.mp g167 | skip
                  rw [right_S] at g167; cases g167
              · first | replace g163 := of_decide_eq_true g163 | replace g163 := of_decide_eq_false g163 | replace g163 := of_decide_eq_false (nb_T g163) | replace g163 := of_decide_eq_true (nb_F g163) | replace g163 := nb_T g163 | replace g163 := nb_F g163 | skip
                first | replace g163 := Int.not_lt.mp g163 | replace g163 := Int.not_le.mp g163 | replace g163 := Decidable.not_not.mp g163 | skip
                exact absurd rfl g163
end Go.Proofs.Ytlejcjgbkbmdmaa.sp
