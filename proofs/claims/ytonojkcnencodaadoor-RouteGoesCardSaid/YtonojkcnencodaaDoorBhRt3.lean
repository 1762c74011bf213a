/-
  Package route, and what it calls, walked by facts (printed by gen_rt.py).
-/
import Derived.Test.YtonojkcnencodaaDoorBhRt2
import Derived.Test.YtonojkcnencodaaDoorBhSort
import Derived.Test.YtonojkcnencodaaDoorBhRtShelf
namespace Go.Proofs.YtonojkcnencodaaDoor.rt
open Go Go.Proofs Go.Proofs.YtonojkcnencodaaDoor.BH Go.Proofs.YtonojkcnencodaaDoor.BH.Rt
open Go.Proofs.YtonojkcnencodaaDoor.BH.Dk (withinV withinV_in)
set_option maxRecDepth 100000
def eLL (s : List LD) : List AV := [AL eL s]
/-- Whom sets go to. -/
noncomputable def outV (r : Rt) (sets : List (List LD)) : List (List UInt8) := sets.flatMap fun s => ToV s r
theorem outV_next {r : Rt} {l : List (List LD)} {k : Nat} {x : List LD} (hx : l[k]? = some x) : outV r (l.take k) ++ ToV x r = outV r (l.take (k + 1)) := by
  rw [take_one hx]; simp [outV]
theorem sort_fn {o : Nat} {l : List (List UInt8)} {R : List HI} (h0 : 0 < l.length) (hl : l.length < 4611686018427387904) : CallW C 27 [.slice (some ⟨o, 0⟩) l.length (.op 0)] (.obj o (.row 9 1 false (l.flatMap eS)) :: R) fun v H => v = .tuple [] ∧ H = .obj o (.row 9 1 false ((sortS l).flatMap eS)) :: R :=
  sort_cw (C := C) (f := 27) Tryd.func27 (by kernel_rfl) rfl (fun blk off cap ss w h1 h2 h3 => Any.slices_Sort_string Tryd.laysSort blk off cap ss w h1 h2 h3) h0 hl
theorem compact_fn {o : Nat} {l : List (List UInt8)} {R : List HI} (h0 : 0 < l.length) (hl : l.length ≤ 9223372036854775807) (hc : (Lib.compact l).length ≤ l.length) : CallW C 28 [.slice (some ⟨o, 0⟩) l.length (.op 0)] (.obj o (.row 9 1 false (l.flatMap eS)) :: R) fun v H => v = .slice (some ⟨o, 0⟩) (Lib.compact l).length (.op 0) ∧ H = .obj o (.row 9 1 false ((Lib.compact l).flatMap eS)) :: R :=
  compact_cw (C := C) (f := 28) Tryd.func28 (by kernel_rfl) rfl (fun blk off cap zs w h1 h2 h3 => Any.slices_Compact_string Tryd.laysCompact blk off cap zs w h1 h2 h3) h0 hl hc

theorem All_fn (r : Rt) (hb : blk r ≤ 2000000) (sets : List (List LD)) (hs : sets.length ≤ 1000) (hs0 : ∀ s ∈ sets, s.length ≤ 9223372036854775807) (hol : ∀ k, (outV r (sets.take k)).length ≤ 2000000) (h0 : 0 < (outV r sets).length) (hc0 : 0 < (Lib.compact (sortS (outV r sets))).length) (hc1 : (Lib.compact (sortS (outV r sets))).length ≤ (outV r sets).length) : PFn C 15 [agR r, AL eLL sets] (AL eS (Lib.compact (sortS (outV r sets)))) := by
  refine fn_keep rfl rfl (fn := Tryd.f15) rfl rfl rfl rfl rfl ?_
  have hsl := sortS_len (outV r sets)
  have hol2 := hol sets.length
  rw [List.take_length] at hol2
  refine wc_seq ?_
  refine wc_text ?_
  refine w_box (cs := eR r) s28 rfl rfl rfl rfl rfl (fun o2 => ?_)
  refine w_assign rfl rfl ?_
  refine ws_nil ?_
  refine wc_seq ?_
  refine wc_text ?_
  refine w_assign rfl rfl ?_
  refine ws_nil ?_
  refine wc_seq ?_
  refine wc_seq ?_
  refine wc_text ?_
  refine w_move rfl rfl ?_
  first | refine w_len rfl rfl (len_lst u45) ?_ | refine w_len rfl rfl (len_slice u45) ?_ | refine w_lenO rfl u45 rfl rfl tk ?_
  refine w_move rfl rfl ?_
  refine ws_nil ?_
  refine WC.ownNil 9 1 ?_
  refine wc_block ?_
  refine wc_loop (σ := { u : Nat × AV // u.1 ≤ sets.length }) (fun u => [(2, .ptr (some ⟨o2, 0⟩)), (5, u.1.2), (8, AL eLL sets), (9, .int .i64 (sets.length : Nat)), (10, .int .i64 (u.1.1 : Nat))]) (fun u => [.own u.1.2 9 1 ((outV r (sets.take u.1.1)).flatMap eS) (outV r (sets.take u.1.1)).length, .obj o2 (.row 28 4 false (eR r))]) (fun u => sets.length - u.1.1) ?_ ⟨(0, nilSlice), Nat.zero_le _⟩ (.cons rfl (.cons rfl (.cons rfl (.cons rfl (.cons rfl (.nil _)))))) (Sel.weak (.cons tk (.cons tk .nil)))
  rintro ⟨⟨k, v⟩, hk⟩
  dsimp only
  simp only at hk
  refine wc_seq ?_
  refine wc_text ?_
  refine w_lss u3 rfl rfl rfl ?_
  refine ws_nil ?_
  refine wc_seq ?_
  refine wc_cond rfl (fun h3 => ?_) (fun h3 => ?_)
  · replace h3 := of_decide_eq_true h3
    refine wc_stay ?_
    refine wc_seq ?_
    refine wc_block ?_
    refine wc_seq ?_
    refine wc_text ?_
    obtain ⟨x, hx⟩ := get_of_lt (l := sets) (k := k) (by omega)
    have hxl := hs0 x (List.mem_of_getElem? hx)
    have ho1 := hol (k + 1)
    rw [← outV_next hx, List.length_append] at ho1
    first | refine w_lidx u45 s36 rfl rfl rfl (by omega) ?_ | refine w_slidx u45 s36 rfl rfl rfl (by omega) ?_
    first | refine w_ldC1 a36 rfl rfl rdc ?_ | refine w_ldP1 a36 rfl rfl tk rdp ?_
    refine w_assign rfl rfl ?_
    refine ws_nil ?_
    refine wc_text ?_
    refine w_move rfl rfl ?_
    first | refine w_ldC a28 s28 rfl rfl agc ?_ | refine w_ldP a28 s28 rfl rfl tk agp ?_
    refine w_move rfl rfl ?_
    refine w_call rfl rfl (cw_fn rfl rfl (.cons fz (.cons fz .nil)) (To_fn x hxl r hb) ?_)
    refine w_appO (enc := eS) (l := outV r (sets.take k)) (m := ToV x r) rfl u34 s9 b9 z9 u34 (by simp) rfl rfl rfl tk nw (by unfold bigBy; first | omega | (simp only [List.length_nil, List.length_cons, List.length_append, List.length_take, List.length_drop]; omega)) (by unfold bigBy; first | omega | (simp only [List.length_nil, List.length_cons, List.length_append, List.length_take, List.length_drop]; omega)) (fun v18 => ?_)
    refine w_assign rfl rfl ?_
    refine ws_nil ?_
    rw [outV_next hx]
    refine wc_text ?_
    refine w_add u3 rfl rfl rfl (by omega) ?_
    refine w_move rfl rfl ?_
    refine ws_nil ?_
    exact ⟨⟨(k + 1, v18), (by omega : k + 1 ≤ sets.length)⟩, by simp only; omega, (.cons rfl (.cons rfl (.cons rfl (.cons rfl (.cons rfl (.nil _)))))), (Sel.weak (.cons tk (.cons tk .nil)))⟩
  · replace h3 := of_decide_eq_false h3
    rw [List.take_of_length_le (by omega : sets.length ≤ k)]
    refine WC.openOwn (v := v) .head h0 (fun oa hoa => ?_)
    subst hoa
    refine wc_exit ?_
    refine wc_seq ?_
    refine wc_text ?_
    refine w_move rfl rfl ?_
    refine w_call rfl rfl (CallW.mono (CallW.weak (Sel.weak (.cons tk .rest)) (sort_fn h0 (by omega))) ?_)
    rintro _ _ ⟨rfl, rfl⟩
    try simp only [List.cons_append, List.nil_append]
    refine ws_nil ?_
    refine wc_seq ?_
    refine wc_text ?_
    refine w_move rfl rfl ?_
    rw [← hsl]
    refine w_call rfl rfl (CallW.mono (CallW.weak (Sel.weak (.cons tk .rest)) (compact_fn (l := sortS (outV r sets)) (by omega) (by omega) (by omega))) ?_)
    rintro _ _ ⟨rfl, rfl⟩
    try simp only [List.cons_append, List.nil_append]
    refine w_assign rfl rfl ?_
    refine ws_nil ?_
    refine wc_ret ?_
    refine ⟨_, _, _, (.cons (.tmp rfl) .nil), (.cons fr .nil), ?_, ?_⟩
    · first | rfl | simp [doneV]
    rfl
end Go.Proofs.YtonojkcnencodaaDoor.rt
