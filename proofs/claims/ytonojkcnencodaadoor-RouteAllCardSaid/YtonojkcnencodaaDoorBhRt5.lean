/-
  slices.Sort and slices.Compact at []int by the shelf's contracts, told as calls of this folder's.
-/
import Derived.Test.YtonojkcnencodaaDoorBhW16
import Derived.Test.YtonojkcnencodaaDoorBhW18
import Derived.Shelf.Slices.CompactI
import Derived.Shelf.Slices.In.SortNone
import Derived.Test.YtonojkcnencodaaDoorBhRt6
import Derived.Shelf.Slices.In.CompactS
import Derived.Test.YtonojkcnencodaaDoorBhRt1
import Derived.Test.YtonojkcnencodaaDoorBhDkL
section
namespace Go.Proofs.YtonojkcnencodaaDoor.BH
open Go Go.Proofs
set_option maxRecDepth 10000
/-- The sorted row. -/
def sortI (l : List Int) : List Int := l.mergeSort fun x y => decide (x ≤ y)
theorem str_len (l : List (List UInt8)) : (l.flatMap eS).length = l.length * 1 := flat_length (by intro _; rfl) l
end Go.Proofs.YtonojkcnencodaaDoor.BH

end
section
namespace Go.Proofs.YtonojkcnencodaaDoor.BH
open Go Go.Proofs
noncomputable section
theorem sortO_cw {C : Ctx} {f : FuncId} {fn : Func} {cd : Code} (hf : C.P.funcs[f]? = some fn) (hn : (fn.name == "runtime.NumGoroutine") = false) (hb : fn.body = some cd)
    (hsort : ∀ (blk off cap : Nat) (ss : List (List UInt8)) (w : World), Go.Sort.Holds encStr w blk off ss.toArray → blk < w.heap.size → ss.length < 4611686018427387904 →
      Calls C.P f #[.slice (some ⟨blk, off, none⟩) ss.length cap] w fun e w' => e = .returned (.tuple #[]) ∧ ∃ n os, w' = Go.Sort.grow (Go.Sort.putRow encStr (Go.Sort.ahead w n) blk off (ss.mergeSort fun x y => decide (x ≤ y)).toArray) os)
    (hnone : ∀ (p : Option Addr) (cap : Nat) (w : World), Calls C.P f #[.slice p 0 cap] w fun e w' => e = .returned (.tuple #[]) ∧ w' = w)
    {v : AV} {e : Nat} {l : List (List UInt8)} {R : List HI} (hl : l.length < 4611686018427387904) :
    CallW C f [v] (.own v e 1 (l.flatMap eS) l.length :: R) fun u H => u = .tuple [] ∧ H = .own v e 1 ((sortS l).flatMap eS) (sortS l).length :: R := by
  refine CallW.openOwn .head (fun h0 hv => ?_) (fun h0 o ho => ?_)
  · have : l = [] := List.eq_nil_of_length_eq_zero h0
    subst this
    intro h fp h1 h2 ρ w us hus H
    simp only [VRL] at hus
    obtain ⟨u, us', e1, hu, rfl⟩ := hus
    obtain ⟨p, c, rfl⟩ := hv ρ u hu
    have e2 : us = #[.slice p 0 c] := Array.ext' (by simpa using e1)
    subst e2
    have hname : ¬ fn.name = "runtime.NumGoroutine" := by simpa using hn
    refine .inl ⟨by simp [callFunc, hf, hname, hb], (hnone p c w).mono ?_⟩
    rintro ex w' ⟨rfl, rfl⟩
    exact ⟨_, rfl, .tuple [], ρ, h, fp, _, by simp only [VR, VRL]; exact ⟨#[], rfl, rfl⟩, .refl H, h1, h2, .refl _ _, rfl, by simp [sortS]⟩
  · subst ho
    refine CallW.post (sort_cw hf hn hb hsort h0 hl) ?_
    rintro u H ⟨rfl, rfl⟩
    exact ⟨_, weak_close (m := l.length) (by rw [str_len, sortS_len]), rfl, by rw [sortS_len]⟩
theorem compactO_cw {C : Ctx} {f : FuncId} {fn : Func} {cd : Code} (hf : C.P.funcs[f]? = some fn) (hn : (fn.name == "runtime.NumGoroutine") = false) (hb : fn.body = some cd)
    (hcomp : ∀ (blk off cap : Nat) (zs : List (List UInt8)) (w : World), Go.Sort.Holds encStr w blk off zs.toArray → zs.length ≤ 9223372036854775807 → zs.length ≤ cap →
      Calls C.P f #[.slice (some ⟨blk, off, none⟩) zs.length cap] w fun e w' => e = .returned (.slice (some ⟨blk, off, none⟩) (Lib.compact zs).length cap) ∧ ∃ q, w' = Go.Sort.putRow encStr (Go.Sort.ahead w q) blk off (Lib.compact zs ++ List.replicate (zs.length - (Lib.compact zs).length) []).toArray)
    (hnone : ∀ (a : Option Addr) (cap : Nat) (w : World), Calls C.P f #[.slice a 0 cap] w fun e w' => e = .returned (.slice a 0 cap) ∧ w' = w)
    {v : AV} {e : Nat} {l : List (List UInt8)} {R : List HI} (hl : l.length ≤ 9223372036854775807) (hc : (Lib.compact l).length ≤ l.length) :
    CallW C f [v] (.own v e 1 (l.flatMap eS) l.length :: R) fun u H => H = .own u e 1 ((Lib.compact l).flatMap eS) (Lib.compact l).length :: R := by
  refine CallW.openOwn .head (fun h0 hv => ?_) (fun h0 o ho => ?_)
  · have : l = [] := List.eq_nil_of_length_eq_zero h0
    subst this
    intro h fp h1 h2 ρ w us hus H
    simp only [VRL] at hus
    obtain ⟨u, us', e1, hu, rfl⟩ := hus
    obtain ⟨p, c, rfl⟩ := hv ρ u hu
    have e2 : us = #[.slice p 0 c] := Array.ext' (by simpa using e1)
    subst e2
    have hname : ¬ fn.name = "runtime.NumGoroutine" := by simpa using hn
    refine .inl ⟨by simp [callFunc, hf, hname, hb], (hnone p c w).mono ?_⟩
    rintro ex w' ⟨rfl, rfl⟩
    exact ⟨_, rfl, v, ρ, h, fp, _, hu, .refl H, h1, h2, .refl _ _, rfl⟩
  · subst ho
    refine CallW.post (compact_cw hf hn hb hcomp h0 hl hc) ?_
    rintro u H ⟨rfl, rfl⟩
    exact ⟨_, weak_close (by rw [str_len]), rfl⟩
theorem compact_leS (l : List (List UInt8)) : (Lib.compact l).length ≤ l.length := by
  have key : ∀ (d : Array (List UInt8)) (m : Nat), (Lib.compactUpTo d m).length ≤ m := by
    intro d m
    induction m with
    | zero => simp [Lib.compactUpTo]
    | succ m ih =>
      rw [Lib.compactUpTo_succ, List.length_append]
      split
      · simp only [List.length_cons, List.length_nil]; omega
      · simp only [List.length_nil]; omega
  exact key _ _
end
end Go.Proofs.YtonojkcnencodaaDoor.BH

end
section
namespace Go.Proofs.YtonojkcnencodaaDoor.rt
open Go Go.Proofs Go.Proofs.YtonojkcnencodaaDoor.BH Go.Proofs.YtonojkcnencodaaDoor.BH.Rt
open Go.Proofs.YtonojkcnencodaaDoor.BH.Dk (withinV withinV_in)
set_option maxRecDepth 100000
theorem sortO_fn {v : AV} {l : List (List UInt8)} {R : List HI} (hl : l.length < 4611686018427387904) : CallW C 27 [v] (.own v 9 1 (l.flatMap eS) l.length :: R) fun u H => u = .tuple [] ∧ H = .own v 9 1 ((sortS l).flatMap eS) (sortS l).length :: R :=
  sortO_cw (C := C) (f := 27) Tryd.func27 (by kernel_rfl) rfl (fun blk off cap ss w h1 h2 h3 => Any.slices_Sort_string Tryd.laysSort blk off cap ss w h1 h2 h3) (fun p cap w => Any.slices_Sort_string_none Tryd.laysSort p cap w) hl
theorem compactO_fn {v : AV} {l : List (List UInt8)} {R : List HI} (hl : l.length ≤ 9223372036854775807) : CallW C 28 [v] (.own v 9 1 (l.flatMap eS) l.length :: R) fun u H => H = .own u 9 1 ((Lib.compact l).flatMap eS) (Lib.compact l).length :: R :=
  compactO_cw (C := C) (f := 28) Tryd.func28 (by kernel_rfl) rfl (fun blk off cap zs w h1 h2 h3 => Any.slices_Compact_string Tryd.laysCompact blk off cap zs w h1 h2 h3) (fun a cap w => Any.slices_Compact_string_empty Tryd.laysCompact a cap w) hl (compact_leS l)

theorem AllO_fn (r : Rt) (hb : blk r ≤ 2000000) (sets : List (List LD)) (hs : sets.length ≤ 1000) (hs0 : ∀ s ∈ sets, s.length ≤ 9223372036854775807) (hol : ∀ k, (outV r (sets.take k)).length ≤ 2000000) : PFn C 15 [agR r, AL eLL sets] (AL eS (Lib.compact (sortS (outV r sets)))) := by
 refine fn_keep rfl rfl (fn := Tryd.f15) rfl rfl rfl rfl rfl ?_
 have hsl := sortS_len (outV r sets)
 have hol2 := hol sets.length
 rw [List.take_length] at hol2
 refine wc_seq ?_
 refine wc_text ?_
 refine w_box (cs := eR r) s28 rfl rfl rfl rfl rfl (fun o2 => ?_)
 refine w_assign rfl rfl ?_
 refine ws_nil ?_
 refine wc_seq ?_
 refine wc_text ?_
 refine w_assign rfl rfl ?_
 refine ws_nil ?_
 refine wc_seq ?_
 refine wc_seq ?_
 refine wc_text ?_
 refine w_move rfl rfl ?_
 first | refine w_len rfl rfl (len_lst u45) ?_ | refine w_len rfl rfl (len_slice u45) ?_ | refine w_lenO rfl u45 rfl rfl tk ?_
 refine w_move rfl rfl ?_
 refine ws_nil ?_
 refine WC.ownNil 9 1 ?_
 refine wc_block ?_
 refine wc_loop (σ := { u : Nat × AV // u.1 ≤ sets.length }) (fun u => [(2, .ptr (some ⟨o2, 0⟩)), (5, u.1.2), (8, AL eLL sets), (9, .int .i64 (sets.length : Nat)), (10, .int .i64 (u.1.1 : Nat))]) (fun u => [.own u.1.2 9 1 ((outV r (sets.take u.1.1)).flatMap eS) (outV r (sets.take u.1.1)).length, .obj o2 (.row 28 4 false (eR r))]) (fun u => sets.length - u.1.1) ?_ ⟨(0, nilSlice), Nat.zero_le _⟩ (.cons rfl (.cons rfl (.cons rfl (.cons rfl (.cons rfl (.nil _)))))) (Sel.weak (.cons tk (.cons tk .nil)))
 rintro ⟨⟨k, v⟩, hk⟩
 try dsimp only
 simp only at hk
 refine wc_seq ?_
 refine wc_text ?_
 refine w_lss u3 rfl rfl rfl ?_
 refine ws_nil ?_
 refine wc_seq ?_
 refine wc_cond rfl (fun h3 => ?_) (fun h3 => ?_)
 ·replace h3 := of_decide_eq_true h3
  refine wc_stay ?_
  refine wc_seq ?_
  refine wc_block ?_
  refine wc_seq ?_
  refine wc_text ?_
  obtain ⟨x, hx⟩ := get_of_lt (l := sets) (k := k) (by omega)
  have hxl := hs0 x (List.mem_of_getElem? hx)
  have ho1 := hol (k + 1)
  rw [← outV_next hx, List.length_append] at ho1
  first | refine w_lidx u45 s36 rfl rfl rfl (by omega) ?_ | refine w_slidx u45 s36 rfl rfl rfl (by omega) ?_
  first | refine w_ldC1 a36 rfl rfl rdc ?_ | refine w_ldP1 a36 rfl rfl tk rdp ?_
  refine w_assign rfl rfl ?_
  refine ws_nil ?_
  refine wc_text ?_
  refine w_move rfl rfl ?_
  first | refine w_ldC a28 s28 rfl rfl agc ?_ | refine w_ldP a28 s28 rfl rfl tk agp ?_
  refine w_move rfl rfl ?_
  refine w_call rfl rfl (cw_fn rfl rfl (.cons fz (.cons fz .nil)) (To_fn x hxl r hb) ?_)
  refine w_appO (enc := eS) (l := outV r (sets.take k)) (m := ToV x r) rfl u34 s9 b9 z9 u34 (by simp) rfl rfl rfl tk nw bg bg (fun v18 => ?_)
  refine w_assign rfl rfl ?_
  refine ws_nil ?_
  rw [outV_next hx]
  refine wc_text ?_
  refine w_add u3 rfl rfl rfl (by omega) ?_
  refine w_move rfl rfl ?_
  refine ws_nil ?_
  exact ⟨⟨(k + 1, v18), (by omega : k + 1 ≤ sets.length)⟩, by simp only; omega, (.cons rfl (.cons rfl (.cons rfl (.cons rfl (.cons rfl (.nil _)))))), (Sel.weak (.cons tk (.cons tk .nil)))⟩
 ·replace h3 := of_decide_eq_false h3
  rw [List.take_of_length_le (by omega : sets.length ≤ k)]
  refine wc_exit ?_
  refine wc_seq ?_
  refine wc_text ?_
  refine w_move rfl rfl ?_
  refine w_call rfl rfl (CallW.mono (CallW.take tk (sortO_fn (v := v) (l := outV r sets) (by omega))) ?_)
  rintro _ _ ⟨rfl, rfl⟩
  try simp only [List.cons_append, List.nil_append]
  refine ws_nil ?_
  refine wc_seq ?_
  refine wc_text ?_
  refine w_move rfl rfl ?_
  refine w_call rfl rfl (CallW.mono (CallW.take tk (compactO_fn (v := v) (l := sortS (outV r sets)) (by omega))) ?_)
  rintro v23 _ rfl
  try simp only [List.cons_append, List.nil_append]
  refine w_assign rfl rfl ?_
  refine ws_nil ?_
  refine wc_ret ?_
  refine ⟨_, _, _, (.cons (.tmp rfl) .nil), (.cons fr .nil), ?_, ?_⟩
  · first | rfl | simp [doneV]
  rfl
end Go.Proofs.YtonojkcnencodaaDoor.rt

end
section
namespace Go.Proofs.YtonojkcnencodaaDoor.rt
open Go Go.Proofs Go.Proofs.YtonojkcnencodaaDoor.BH Go.Proofs.YtonojkcnencodaaDoor.BH.Rt
open Go.Proofs.YtonojkcnencodaaDoor.BH.Dk (withinV withinV_in)
set_option maxRecDepth 100000
theorem runsR_fn : PFn C 14 [] (.bool true) := pfn_true (N := 100000) rfl (by kernel_rfl)
end Go.Proofs.YtonojkcnencodaaDoor.rt

end
