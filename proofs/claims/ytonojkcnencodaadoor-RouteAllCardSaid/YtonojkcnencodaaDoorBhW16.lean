/-
  slices.Sort at []string by the shelf's contract, told as a call of this folder's.
-/
import Derived.Test.YtonojkcnencodaaDoorBhRtArg
import Derived.Shelf.Sort.Plain
import Derived.Shelf.Slices.CompactS
import Derived.Test.YtonojkcnencodaaDoorProg
import Derived.Test.YtonojkcnencodaaDoorBhRt2
import Derived.Test.YtonojkcnencodaaDoorBhDkL
section
namespace Go.Proofs.YtonojkcnencodaaDoor.BH
open Go Go.Proofs
set_option maxRecDepth 10000
theorem Trans.more {ρ : Rho} {h : AHeap} {w w' : World} (H : HRel ρ h w) (same : ∀ b, b < w.heap.size → w'.heap[b]? = w.heap[b]?) (hs : w.heap.size ≤ w'.heap.size) (ho : w'.output = w.output) (hos : w'.os = w.os) : Trans ρ h w ρ h w' := by
  have same' : ∀ {b : Nat} {y : Obj}, w.heap[b]? = some y → w'.heap[b]? = some y := fun {b y} hy => by rw [same b (Array.getElem?_eq_some_iff.mp hy).1]; exact hy
  refine ⟨.refl ρ, ⟨fun o x hx => ?_, H.inj, H.fresh, fun b x hx => ?_, H.fixed⟩, fun b hb _ => same b hb, hs, ho, hos, fun o x c hx hf hc => .inl ⟨o, x, c, hx, hf, hc, rfl⟩, fun _ ho => .inl ho, Nat.le_refl _, fun _ hb => .inl hb, rfl⟩
  · obtain ⟨c, y, g1, g2, g3⟩ := H.objs o x hx
    exact ⟨c, y, g1, same' g2, g3⟩
  · obtain ⟨⟨e, fr, g1⟩, g2⟩ := H.rets b x hx
    exact ⟨⟨e, fr, same' g1⟩, g2⟩
theorem flat_str : ∀ l : List (List UInt8), l.flatMap eS = l.map fun z => AV.str z
  | [] => rfl
  | a :: r => by rw [List.flatMap_cons, flat_str r]; rfl
theorem put_trans {ρ : Rho} {h : AHeap} {w : World} (H : HRel ρ h w) {o e s : Nat} {l l' x : List (List UInt8)} {c : CLoc} (hx : h.get o = some (.row e s false (l.flatMap eS))) (hc : ρ o = some c) (hl : (l' ++ x).length = l.length) (n : Nat) (os : Array Obj) :
    Trans ρ h w ρ (h.set o (.row e s false (l'.flatMap eS))) (Go.Sort.grow (Go.Sort.putRow encStr (Go.Sort.ahead w n) c.blk c.base (l' ++ x).toArray) os) := by
  obtain ⟨c', y, g1, g2, g3⟩ := H.objs _ _ hx
  rw [hc] at g1; cases g1
  obtain ⟨cs, fr, rfl, q1, q2, q3, q4, q5, q6⟩ := g3
  rw [flat_str, List.length_map] at q1 q3
  have hl' : l'.length ≤ l.length := by rw [← hl, List.length_append]; omega
  have hsz : (Go.Sort.putCells encStr c.base (l' ++ x).toArray cs).size = cs.size := by unfold Go.Sort.putCells; simp
  have T1 : Trans ρ h w ρ (h.set o (.row e s false (l'.flatMap eS))) (Go.Sort.putRow encStr (Go.Sort.ahead w n) c.blk c.base (l' ++ x).toArray) := by
    refine Trans.ofSet (y' := .cells (Go.Sort.putCells encStr c.base (l' ++ x).toArray cs) e fr) H hx rfl hc ?_ ⟨_, fr, rfl, ?_, fun i a ha => ?_, ?_, ?_, ?_, ?_⟩ ?_ (fun b hb => ?_) rfl rfl
    · show (w.heap.modify c.blk (Go.Sort.onCells _))[c.blk]? = _
      rw [Array.getElem?_modify, if_pos rfl, g2]; rfl
    · rw [flat_str, List.length_map, hsz]; omega
    · rw [flat_str, List.getElem?_map] at ha
      obtain ⟨z, hx1, rfl⟩ := Option.map_eq_some_iff.mp ha
      obtain ⟨hi, hx2⟩ := List.getElem?_eq_some_iff.mp hx1
      have hi2 : i < (l' ++ x).length := by rw [List.length_append]; omega
      refine ⟨rfl, encStr z, ?_, by simp only [VR]⟩
      unfold Go.Sort.putCells
      rw [Array.getElem?_mapIdx, Array.getElem?_eq_getElem (by omega)]
      simp only [Option.map_some, List.size_toArray]
      rw [if_pos (by omega)]
      have : c.base + i - c.base = i := by omega
      rw [this, getElem!_pos _ i (by simpa using hi2)]
      simp [List.getElem_append_left hi, hx2]
    · rw [flat_str, List.length_map]; omega
    · rw [hsz]; exact q4
    · rw [hsz]; exact q5
    · rw [hsz]; exact q6
    · show (w.heap.modify c.blk _).size = _
      simp
    · show (w.heap.modify c.blk _)[b]? = _
      rw [Array.getElem?_modify, if_neg (Ne.symm hb)]
  refine T1.trans (Trans.more T1.rel (fun b hb => ?_) ?_ rfl rfl)
  · show (_ ++ os)[b]? = _
    rw [Array.getElem?_append_left hb]
  · show _ ≤ (_ ++ os).size
    simp
/-- The sorted row. -/
def sortS (l : List (List UInt8)) : List (List UInt8) := l.mergeSort fun x y => decide (x ≤ y)
theorem sortS_len (l : List (List UInt8)) : (sortS l).length = l.length := by simp [sortS]
theorem holds_of {ρ : Rho} {w : World} {c : CLoc} {e s : Nat} {l : List (List UInt8)} {y : Obj} (g2 : w.heap[c.blk]? = some y) (g3 : ORel ρ c (.row e s false (l.flatMap eS)) y) : Go.Sort.Holds encStr w c.blk c.base l.toArray := by
  obtain ⟨cs, fr, rfl, q1, q2, q3, q4, q5, q6⟩ := g3
  rw [flat_str] at q1 q2
  rw [List.length_map] at q1
  intro j hj
  have hj' : j < l.length := by simpa using hj
  obtain ⟨_, v, h1, h2⟩ := q2 j (.str l[j]) (by rw [List.getElem?_map, List.getElem?_eq_getElem hj']; rfl)
  simp only [VR] at h2
  subst h2
  constructor
  · unfold World.cell?
    rw [g2]
    show (if (none : Option _).isSome then none else cs[c.base + j]?) = _
    rw [if_neg (by simp), h1, getElem!_pos _ j (by simpa using hj')]
    simp
  · unfold World.frozen?
    rw [g2]
    have := q5 rfl (c.base + j) (by omega)
    simp only [Bool.and_eq_false_iff, decide_eq_false_iff_not]
    omega
theorem sort_cw {C : Ctx} {f : FuncId} {fn : Func} {cd : Code} (hf : C.P.funcs[f]? = some fn) (hn : (fn.name == "runtime.NumGoroutine") = false) (hb : fn.body = some cd)
    (hsort : ∀ (blk off cap : Nat) (ss : List (List UInt8)) (w : World), Go.Sort.Holds encStr w blk off ss.toArray → blk < w.heap.size → ss.length < 4611686018427387904 →
      Calls C.P f #[.slice (some ⟨blk, off, none⟩) ss.length cap] w fun e w' => e = .returned (.tuple #[]) ∧ ∃ n os, w' = Go.Sort.grow (Go.Sort.putRow encStr (Go.Sort.ahead w n) blk off (ss.mergeSort fun x y => decide (x ≤ y)).toArray) os)
    {o e s : Nat} {k : ACap} {l : List (List UInt8)} {R : List HI} (h0 : 0 < l.length) (hl : l.length < 4611686018427387904) :
    CallW C f [.slice (some ⟨o, 0⟩) l.length k] (.obj o (.row e s false (l.flatMap eS)) :: R) fun v H => v = .tuple [] ∧ H = .obj o (.row e s false ((sortS l).flatMap eS)) :: R := by
  intro h fp h1 h2 ρ w us hv H
  have hx := ((Take.head : Take (.obj o (.row e s false (l.flatMap eS)) :: R) (.obj o (.row e s false (l.flatMap eS))) R).obj h1).1
  obtain ⟨c, y, g1, g2, g3⟩ := H.objs _ _ hx
  simp only [VRL, VR] at hv
  obtain ⟨u, us', e1, ⟨c', ad, k1, rfl, k2, k3⟩, rfl⟩ := hv
  rw [g1] at k1; cases k1
  have hk : k.val c ≠ 0 := by omega
  have e2 : us = #[.slice (some ⟨c.blk, c.base, none⟩) l.length (k.val c)] := by
    rw [k3 hk] at e1
    exact Array.ext' (by simpa [CLoc.at] using e1)
  subst e2
  have hname : ¬ fn.name = "runtime.NumGoroutine" := by simpa using hn
  refine .inl ⟨by simp [callFunc, hf, hname, hb], (hsort c.blk c.base (k.val c) l w (holds_of g2 g3) (Array.getElem?_eq_some_iff.mp g2).1 hl).mono ?_⟩
  rintro ex w' ⟨rfl, n, os, rfl⟩
  obtain ⟨m1, m2, m3⟩ := sat_set (x' := .row e s false ((sortS l).flatMap eS)) h1 h2
  exact ⟨_, rfl, .tuple [], ρ, _, _, _, by simp only [VR, VRL]; exact ⟨#[], rfl, rfl⟩, by have T := put_trans (l' := sortS l) (x := []) H hx g1 (by simpa using sortS_len l) n os; rw [List.append_nil] at T; exact T, m1, m2, m3, rfl, rfl⟩
/-- slices.Compact at []string, likewise; the cells behind the new end are told no more. -/
theorem compact_cw {C : Ctx} {f : FuncId} {fn : Func} {cd : Code} (hf : C.P.funcs[f]? = some fn) (hn : (fn.name == "runtime.NumGoroutine") = false) (hb : fn.body = some cd)
    (hcomp : ∀ (blk off cap : Nat) (zs : List (List UInt8)) (w : World), Go.Sort.Holds encStr w blk off zs.toArray → zs.length ≤ 9223372036854775807 → zs.length ≤ cap →
      Calls C.P f #[.slice (some ⟨blk, off, none⟩) zs.length cap] w fun e w' => e = .returned (.slice (some ⟨blk, off, none⟩) (Lib.compact zs).length cap) ∧ ∃ q, w' = Go.Sort.putRow encStr (Go.Sort.ahead w q) blk off (Lib.compact zs ++ List.replicate (zs.length - (Lib.compact zs).length) []).toArray)
    {o e s : Nat} {k : ACap} {l : List (List UInt8)} {R : List HI} (h0 : 0 < l.length) (hl : l.length ≤ 9223372036854775807) (hc : (Lib.compact l).length ≤ l.length) :
    CallW C f [.slice (some ⟨o, 0⟩) l.length k] (.obj o (.row e s false (l.flatMap eS)) :: R) fun v H => v = .slice (some ⟨o, 0⟩) (Lib.compact l).length k ∧ H = .obj o (.row e s false ((Lib.compact l).flatMap eS)) :: R := by
  intro h fp h1 h2 ρ w us hv H
  have hx := ((Take.head : Take (.obj o (.row e s false (l.flatMap eS)) :: R) (.obj o (.row e s false (l.flatMap eS))) R).obj h1).1
  obtain ⟨c, y, g1, g2, g3⟩ := H.objs _ _ hx
  simp only [VRL, VR] at hv
  obtain ⟨u, us', e1, ⟨c', ad, k1, rfl, k2, k3⟩, rfl⟩ := hv
  rw [g1] at k1; cases k1
  have hk : k.val c ≠ 0 := by omega
  have e2 : us = #[.slice (some ⟨c.blk, c.base, none⟩) l.length (k.val c)] := by
    rw [k3 hk] at e1
    exact Array.ext' (by simpa [CLoc.at] using e1)
  subst e2
  have hname : ¬ fn.name = "runtime.NumGoroutine" := by simpa using hn
  refine .inl ⟨by simp [callFunc, hf, hname, hb], (hcomp c.blk c.base (k.val c) l w (holds_of g2 g3) hl k2).mono ?_⟩
  rintro ex w' ⟨rfl, n, rfl⟩
  obtain ⟨m1, m2, m3⟩ := sat_set (x' := .row e s false ((Lib.compact l).flatMap eS)) h1 h2
  have T := put_trans (l' := Lib.compact l) (x := List.replicate (l.length - (Lib.compact l).length) []) H hx g1 (by rw [List.length_append, List.length_replicate]; omega) n #[]
  rw [Go.Sort.grow_empty] at T
  exact ⟨_, rfl, .slice (some ⟨o, 0⟩) (Lib.compact l).length k, ρ, _, _, _, by simp only [VR]; exact ⟨c, _, g1, rfl, by omega, fun _ => by simp [CLoc.at]⟩, T, m1, m2, m3, rfl, rfl⟩
end Go.Proofs.YtonojkcnencodaaDoor.BH

end
section
namespace Go.Proofs
open Go.Shelf
def Tryd.laysSort_ren : Go.Shelf.Ren := ⟨fun | 190 => 27 | 125 => 35 | 258 => 34 | 128 => 50 | 129 => 51 | 302 => 41 | 303 => 42 | 304 => 43 | 305 => 44 | 306 => 45 | 307 => 46 | 308 => 47 | 309 => 48 | 310 => 49 | 333 => 62 | 329 => 63 | 330 => 64 | 334 => 65 | 335 => 66 | 336 => 67 | 344 => 74 | n => n, fun | 31 => 34 | 9 => 9 | 3 => 3 | 46 => 72 | 0 => 0 | 51 => 88 | 53 => 90 | 4 => 4 | 183 => 80 | 182 => 79 | 131 => 85 | 5 => 5 | 218 => 98 | 222 => 102 | 228 => 108 | 229 => 109 | n => n, fun | n => n⟩
theorem Tryd.laysSort : Go.Proofs.Lays.n190 Tryd.prog Tryd.laysSort_ren := {
  mixed := by kernel_rfl
  f125 := Tryd.func35.trans (congrArg some (by kernel_rfl))
  f128 := Tryd.func50.trans (congrArg some (by kernel_rfl))
  f129 := Tryd.func51.trans (congrArg some (by kernel_rfl))
  f190 := Tryd.func27.trans (congrArg some (by kernel_rfl))
  f258 := Tryd.func34.trans (congrArg some (by kernel_rfl))
  f302 := Tryd.func41.trans (congrArg some (by kernel_rfl))
  f303 := Tryd.func42.trans (congrArg some (by kernel_rfl))
  f304 := Tryd.func43.trans (congrArg some (by kernel_rfl))
  f305 := Tryd.func44.trans (congrArg some (by kernel_rfl))
  f306 := Tryd.func45.trans (congrArg some (by kernel_rfl))
  f307 := Tryd.func46.trans (congrArg some (by kernel_rfl))
  f308 := Tryd.func47.trans (congrArg some (by kernel_rfl))
  f309 := Tryd.func48.trans (congrArg some (by kernel_rfl))
  f310 := Tryd.func49.trans (congrArg some (by kernel_rfl))
  f329 := Tryd.func63.trans (congrArg some (by kernel_rfl))
  f330 := Tryd.func64.trans (congrArg some (by kernel_rfl))
  f333 := Tryd.func62.trans (congrArg some (by kernel_rfl))
  f334 := Tryd.func65.trans (congrArg some (by kernel_rfl))
  f335 := Tryd.func66.trans (congrArg some (by kernel_rfl))
  f336 := Tryd.func67.trans (congrArg some (by kernel_rfl))
  f344 := Tryd.func74.trans (congrArg some (by kernel_rfl))
  t0 := Tryd.underlying0
  a0 := Tryd.isAgg0
  z0 := Tryd.sizeOf0
  v0 := Tryd.zeroValue0
  t3 := Tryd.underlying3
  a3 := Tryd.isAgg3
  z3 := Tryd.sizeOf3
  v3 := Tryd.zeroValue3
  t4 := Tryd.underlying4
  a4 := Tryd.isAgg4
  z4 := Tryd.sizeOf4
  v4 := Tryd.zeroValue4
  t5 := Tryd.underlying5
  a5 := Tryd.isAgg5
  z5 := Tryd.sizeOf5
  v5 := Tryd.zeroValue5
  t9 := Tryd.underlying9
  a9 := Tryd.isAgg9
  z9 := Tryd.sizeOf9
  v9 := Tryd.zeroValue9
  t31 := Tryd.underlying34
  a31 := Tryd.isAgg34
  z31 := Tryd.sizeOf34
  v31 := Tryd.zeroValue34
  t46 := Tryd.underlying72
  a46 := Tryd.isAgg72
  z46 := Tryd.sizeOf72
  v46 := Tryd.zeroValue72
  t51 := Tryd.underlying88
  a51 := Tryd.isAgg88
  z51 := Tryd.sizeOf88
  v51 := Tryd.zeroValue88
  t53 := Tryd.underlying90
  a53 := Tryd.isAgg90
  z53 := Tryd.sizeOf90
  v53 := Tryd.zeroValue90
  t131 := Tryd.underlying85
  a131 := Tryd.isAgg85
  z131 := Tryd.sizeOf85
  v131 := Tryd.zeroValue85
  t182 := Tryd.underlying79
  a182 := Tryd.isAgg79
  z182 := Tryd.sizeOf79
  v182 := Tryd.zeroValue79
  t183 := Tryd.underlying80
  a183 := Tryd.isAgg80
  z183 := Tryd.sizeOf80
  v183 := Tryd.zeroValue80
  t218 := Tryd.underlying98
  a218 := Tryd.isAgg98
  z218 := Tryd.sizeOf98
  v218 := Tryd.zeroValue98
  t222 := Tryd.underlying102
  a222 := Tryd.isAgg102
  z222 := Tryd.sizeOf102
  v222 := Tryd.zeroValue102
  t228 := Tryd.underlying108
  a228 := Tryd.isAgg108
  z228 := Tryd.sizeOf108
  v228 := Tryd.zeroValue108
  t229 := Tryd.underlying109
  a229 := Tryd.isAgg109
  z229 := Tryd.sizeOf109
  v229 := Tryd.zeroValue109 }
def Tryd.laysCompact_ren : Go.Shelf.Ren := ⟨fun | 194 => 28 | n => n, fun | 31 => 34 | 9 => 9 | 3 => 3 | 4 => 4 | 0 => 0 | n => n, fun | n => n⟩
theorem Tryd.laysCompact : Go.Proofs.Lays.n194 Tryd.prog Tryd.laysCompact_ren := {
  mixed := by kernel_rfl
  f194 := Tryd.func28.trans (congrArg some (by kernel_rfl))
  t0 := Tryd.underlying0
  a0 := Tryd.isAgg0
  z0 := Tryd.sizeOf0
  v0 := Tryd.zeroValue0
  t3 := Tryd.underlying3
  a3 := Tryd.isAgg3
  z3 := Tryd.sizeOf3
  v3 := Tryd.zeroValue3
  t4 := Tryd.underlying4
  a4 := Tryd.isAgg4
  z4 := Tryd.sizeOf4
  v4 := Tryd.zeroValue4
  t9 := Tryd.underlying9
  a9 := Tryd.isAgg9
  z9 := Tryd.sizeOf9
  v9 := Tryd.zeroValue9
  t31 := Tryd.underlying34
  a31 := Tryd.isAgg34
  z31 := Tryd.sizeOf34
  v31 := Tryd.zeroValue34 }
end Go.Proofs

end
section
namespace Go.Proofs.YtonojkcnencodaaDoor.rt
open Go Go.Proofs Go.Proofs.YtonojkcnencodaaDoor.BH Go.Proofs.YtonojkcnencodaaDoor.BH.Rt
open Go.Proofs.YtonojkcnencodaaDoor.BH.Dk (withinV withinV_in)
set_option maxRecDepth 100000
def eLL (s : List LD) : List AV := [AL eL s]
/-- Whom sets go to. -/
noncomputable def outV (r : Rt) (sets : List (List LD)) : List (List UInt8) := sets.flatMap fun s => ToV s r
theorem outV_next {r : Rt} {l : List (List LD)} {k : Nat} {x : List LD} (hx : l[k]? = some x) : outV r (l.take k) ++ ToV x r = outV r (l.take (k + 1)) := by
  rw [take_one hx]; simp [outV]
end Go.Proofs.YtonojkcnencodaaDoor.rt

end
section
namespace Go.Proofs.YtonojkcnencodaaDoor.BH
open Go
section
variable {C : Ctx} {n : Nat} {E : Fs} {HF HF' HR HR0 : List HI}
theorem WC.freezeCell {c : Code} {Q : Post} {o e s i : Nat} {cs : List AV} {v v' : AV} (t0 : Take HF (.obj o (.row e s false cs)) HR0) (hi : cs[i]? = some v) (hf : FrzR true deep HF v v' HF') (hd : doneV v' = true) (hsc : v'.scalar = true)
    (t : Take HF' (.obj o (.row e s false cs)) HR) (h : WC C n c E (.obj o (.row e s false (cs.set i v')) :: HR) Q) : WC C n c E HF Q := fun e' hh fp h1 h2 h3 ρ w a he H => by
  obtain ⟨h', fp', k1, k2, k3, k4⟩ := hf.run h2 h3
  have hx0 := (t0.obj h2).1
  obtain ⟨cc, y, g1, g2, g3⟩ := H.objs _ _ hx0
  obtain ⟨us, fr, rfl, q1, q2, q3⟩ := g3
  obtain ⟨s1, u, s2, s3⟩ := q2 i v hi
  obtain ⟨ρ', T, g⟩ := frz_same k1 hd s3 H
  have hx := (t.obj k2).1
  obtain ⟨cc', y', r1, r2, r3⟩ := T.rel.objs _ _ hx
  have e1 := T.ext.loc _ _ g1
  rw [r1] at e1; cases e1
  rw [g2] at r2; cases r2
  obtain ⟨us', fr', hy, p1, p2, p3⟩ := r3
  cases hy
  obtain ⟨fp1, m0, m1⟩ := t.sat k2
  obtain ⟨z1, z2, z3⟩ := sat_set (x' := .row e s false (cs.set i v')) m0 k3
  have T2 : Trans ρ' h' w ρ' (h'.set o (.row e s false (cs.set i v'))) w := Trans.ofSet T.rel hx rfl r1 g2 ⟨us, fr, rfl, by rw [List.length_set]; exact p1, fun j b hb => by
    by_cases hj : j = i
    · subst hj
      have hlt : j < cs.length := (List.getElem?_eq_some_iff.mp hi).1
      rw [List.getElem?_set_self hlt] at hb
      cases hb
      exact ⟨hsc, u, s2, g⟩
    · rw [List.getElem?_set_ne (Ne.symm hj)] at hb
      exact p2 j b hb, by rw [List.length_set]; exact p3⟩ rfl (fun _ _ => rfl) rfl rfl
  refine wp_mono (h e' _ fp1 h1 z1 z2 ρ' w a (VRL.mono T.ext _ _ he) T2.rel) ?_
  rintro ex a' w' ⟨x, rfl, ρ2, e2, h2', fp2, E2, HF2, b1, b2, b3, b4, b5, b6, b7, b8⟩
  exact ⟨x, rfl, ρ2, e2, h2', fp2, E2, HF2, b1, b2, (T.trans T2).trans b3, b4, b5, b6, (k4.trans (z3.left m1)).trans b7, b8⟩
end
end Go.Proofs.YtonojkcnencodaaDoor.BH

end
section
namespace Go.Proofs.YtonojkcnencodaaDoor.BH.Rt
def toG (k : Nat) : List UInt8 := [UInt8.ofNat (97 + k)]
def kidG (goes : List Bool) (k : Nat) : Rt := .mk [] (toG k) (goes.getD k false) []
def kidsG (goes : List Bool) (i : Nat) : List Rt := (List.range i).map (kidG goes)
/-- Who is wanted, and whether that is all. -/
def wantG (goes : List Bool) : Nat → List (List UInt8) × Bool
  | 0 => ([], false)
  | i + 1 => if (wantG goes i).2 then wantG goes i else ((wantG goes i).1 ++ [toG i], !goes.getD i false)
theorem kidsK (l : List Rt) : VRLe (AL eR l) (.lst (kidsL l) l.length false true) := by rw [kids_al]; exact .refl _
theorem eR_done (r : Rt) : (eR r).all doneV = true := rfl
def upG (kids : List Rt) : Nat → Rt
  | 0 => .mk [] [114, 111, 111, 116] false kids
  | k + 1 => .mk [] [117, 112] false [upG kids k]
def lowG : Nat → Rt
  | 0 => .mk [] [120] false []
  | j + 1 => .mk [] [120] false [lowG j]
def wideL (j : Nat) : List Rt := List.replicate j (.mk [] [121] false []) ++ List.replicate (16 - j) (.mk [] [] false [])
def wideT : Rt := .mk [] [120] false (wideL 16)
end Go.Proofs.YtonojkcnencodaaDoor.BH.Rt

end
section
namespace Go.Proofs.YtonojkcnencodaaDoor.BH.Rt
open Go.Proofs.YtonojkcnencodaaDoor.BH.Dk (withinV withinV_in)
noncomputable section
structure Nd where
  ms : List MD
  to : List UInt8
  goes : Bool
def eN (n : Nd) : List AV := [AL eM n.ms, .str n.to, .bool n.goes, nilSlice]
def kidsI (under : List Int) (a : Nat) (k : Nat) : List Nat := (List.range k).filter fun j => decide (under[j]? = some (a : Int))
def growV (nodes : List Nd) (under : List Int) : Nat → Nat → Rt
  | 0, a => .mk ((nodes[a]?).map Nd.ms |>.getD []) ((nodes[a]?).map Nd.to |>.getD []) ((nodes[a]?).map Nd.goes |>.getD false) []
  | f + 1, a => .mk ((nodes[a]?).map Nd.ms |>.getD []) ((nodes[a]?).map Nd.to |>.getD []) ((nodes[a]?).map Nd.goes |>.getD false) ((kidsI under a nodes.length).map (growV nodes under f))
theorem kids_yes {under : List Int} {a k : Nat} {z : Int} (hz : under[k]? = some z) (h : z = a) : kidsI under a k ++ [k] = kidsI under a (k + 1) := by
  unfold kidsI
  rw [List.range_succ, List.filter_append]
  simp [hz, h]
theorem kids_no {under : List Int} {a k : Nat} {z : Int} (hz : under[k]? = some z) (h : ¬ z = a) : kidsI under a k = kidsI under a (k + 1) := by
  unfold kidsI
  rw [List.range_succ, List.filter_append]
  simp [hz, h]
theorem kids_len (under : List Int) (a k : Nat) : (kidsI under a k).length ≤ k := by
  unfold kidsI
  exact Nat.le_trans (List.length_filter_le _ _) (by simp)
theorem grow_eq (nodes : List Nd) (under : List Int) (f a : Nat) (x : Nd) (hx : nodes[a]? = some x) : growV nodes under (f + 1) a = .mk x.ms x.to x.goes ((kidsI under a nodes.length).map (growV nodes under f)) := by
  rw [growV, hx]; rfl
theorem nodeM_le (ms : List MD) (to : List UInt8) (g : Bool) (l : List Rt) : LeL [AL eM ms, .str to, .bool g, AL eR l] (eR (.mk ms to g l)) := .cons (.refl _) (.cons (.refl _) (.cons (.refl _) (.cons (kidsK l) .nil)))
def namesV : List (List UInt8) := [[97], [98], [99], [110, 97, 109, 101]]
def valuesV : List (List UInt8) := [[120], [121], [120, 121], [49], [34], [92], [123, 125], [122, 32, 122]]
def pickK (l : List Int) (i : Nat) : Int := if l = [] then 0 else (l[i % l.length]?).getD 0
def andK (v m : Int) : Int := wrapF .i64 ((BitVec.ofInt IntKind.i64.bits v &&& BitVec.ofInt IntKind.i64.bits m).toNat)
def withinN (n hi : Int) : Nat := (withinV n 0 hi).toNat
theorem withinN_is (n : Int) {hi : Int} (h : 0 ≤ hi) : withinV n 0 hi = (withinN n hi : Nat) := by
  have := (withinV_in n 0 hi h).1
  unfold withinN; omega
theorem withinN_le (n : Int) {hi : Int} (h : 0 ≤ hi) : (withinN n hi : Int) ≤ hi := by
  have := (withinV_in n 0 hi h).2
  rw [← withinN_is n h]; exact this
def lbT (i : Nat) : UInt8 := UInt8.ofNat (97 + i % 5)
theorem lbT_wrap {i : Nat} (h : i < 8) : IntKind.u8.wrap (97 + ((i : Nat) : Int).tmod 5) = ((lbT i).toNat : Int) := by
  have : ∀ i, i < 8 → IntKind.u8.wrap (97 + ((i : Nat) : Int).tmod 5) = ((lbT i).toNat : Int) := by decide
  exact this i h
def mdT (n : Int) : MD := ⟨(namesV[withinN (IntKind.i64.wrap (n.tdiv 4)) 2]?).getD [], (valuesV[withinN (IntKind.i64.wrap (n.tdiv 16)) 3]?).getD [], withinV n 1 4⟩
def msT (n : Int) : List MD := if andK n 3 = 3 then [] else [mdT n]
def ndT (M G : List Int) (i : Nat) : Nd := ⟨msT (pickK M i), [lbT i], decide (andK (pickK G i) 1 = 1)⟩
def parT (us : List Int) (z : Int) (k : Nat) : Nat := if 0 < withinN z k ∧ 0 < (us[withinN z k]?).getD 0 then 0 else withinN z k
def ndsT (M G : List Int) : Nat → List Nd
  | 0 => [⟨[], [114], false⟩]
  | i + 1 => ndsT M G i ++ [ndT M G i]
def undT (U : List Int) : Nat → List Int
  | 0 => [-1]
  | i + 1 => undT U i ++ [((parT (undT U i) ((U[i]?).getD 0) i : Nat) : Int)]
theorem nds_len (M G : List Int) : ∀ i, (ndsT M G i).length = i + 1
  | 0 => rfl
  | i + 1 => by rw [ndsT, List.length_append, nds_len M G i]; rfl
theorem und_len (U : List Int) : ∀ i, (undT U i).length = i + 1
  | 0 => rfl
  | i + 1 => by rw [undT, List.length_append, und_len U i]; rfl
theorem par_le (us : List Int) (z : Int) (k : Nat) : parT us z k ≤ k := by
  have := withinN_le z (hi := k) (by omega)
  unfold parT; split <;> omega
theorem und_up (U : List Int) : ∀ (i j : Nat) (z : Int), (undT U i)[j]? = some z → z < j
  | 0, j, z, h => by
    rw [undT] at h
    cases j with
    | zero => simp at h; omega
    | succ j => simp at h
  | i + 1, j, z, h => by
    rw [undT] at h
    have hl := und_len U i
    rcases Nat.lt_or_ge j (undT U i).length with hj | hj
    · rw [List.getElem?_append_left hj] at h; exact und_up U i j z h
    · rw [List.getElem?_append_right hj] at h
      have hj2 : j - (undT U i).length = 0 := by
        rcases Nat.eq_zero_or_pos (j - (undT U i).length) with h0 | h0
        · exact h0
        · rw [List.getElem?_eq_none (by simp; omega)] at h; cases h
      rw [hj2] at h
      simp at h
      have := par_le (undT U i) ((U[i]?).getD 0) i
      omega
def treeV (U M G : List Int) : Rt := growV (ndsT M G (min U.length 8)) (undT U (min U.length 8)) ((min U.length 8) + 3) 0
theorem rootK : LeL [nilSlice, .str [114], .bool false, nilSlice] (eN ⟨[], [114], false⟩) := .cons (nil_le false true rfl) (.cons (.refl _) (.cons (.refl _) (.cons (.refl _) .nil)))
theorem bareK (to : List UInt8) (g : Bool) : LeL [nilSlice, .str to, .bool g, nilSlice] (eN ⟨[], to, g⟩) := .cons (nil_le false true rfl) (.cons (.refl _) (.cons (.refl _) (.cons (.refl _) .nil)))
end
end Go.Proofs.YtonojkcnencodaaDoor.BH.Rt

end
section
namespace Go.Proofs.YtonojkcnencodaaDoor.BH
open Go
section
variable {C : Ctx} {n d : Nat} {all r : List Oper} {E : Fs} {HF : List HI}
end
end Go.Proofs.YtonojkcnencodaaDoor.BH

end
