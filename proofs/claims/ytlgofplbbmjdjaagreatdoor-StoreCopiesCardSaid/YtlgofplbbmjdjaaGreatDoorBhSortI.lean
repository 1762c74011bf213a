/-
  slices.Sort at []string by the shelf's contract, told as a call of this folder's.
-/
import Derived.Test.YtlgofplbbmjdjaaGreatDoorBhW18
import Derived.Shelf.Sort.Plain
import Derived.Shelf.Slices.CompactS
import Derived.Shelf.Slices.CompactI
import Derived.Shelf.Slices.In.SortNone
namespace Go.Proofs.YtlgofplbbmjdjaaGreatDoor.BH
open Go Go.Proofs
set_option maxRecDepth 10000
theorem Trans.more {ρ : Rho} {h : AHeap} {w w' : World} (H : HRel ρ h w) (same : ∀ b, b < w.heap.size → w'.heap[b]? = w.heap[b]?) (hs : w.heap.size ≤ w'.heap.size) (ho : w'.output = w.output) (hos : w'.os = w.os) : Trans ρ h w ρ h w' := by
  have same' : ∀ {b : Nat} {y : Obj}, w.heap[b]? = some y → w'.heap[b]? = some y := fun {b y} hy => by rw [same b (Array.getElem?_eq_some_iff.mp hy).1]; exact hy
  refine ⟨.refl ρ, ⟨fun o x hx => ?_, H.inj, H.fresh, fun b x hx => ?_, H.fixed⟩, fun b hb _ => same b hb, hs, ho, hos, fun o x c hx hf hc => .inl ⟨o, x, c, hx, hf, hc, rfl⟩, fun _ ho => .inl ho, Nat.le_refl _, fun _ hb => .inl hb, rfl⟩
  · obtain ⟨c, y, g1, g2, g3⟩ := H.objs o x hx
    exact ⟨c, y, g1, same' g2, g3⟩
  · obtain ⟨⟨e, fr, g1⟩, g2⟩ := H.rets b x hx
    exact ⟨⟨e, fr, same' g1⟩, g2⟩
/-- The sorted row. -/
def sortS (l : List (List UInt8)) : List (List UInt8) := l.mergeSort fun x y => decide (x ≤ y)
end Go.Proofs.YtlgofplbbmjdjaaGreatDoor.BH
namespace Go.Proofs.YtlgofplbbmjdjaaGreatDoor.BH
open Go Go.Proofs
set_option maxRecDepth 10000
theorem flat_int : ∀ l : List Int, l.flatMap eI = l.map fun z => AV.int .i64 z
  | [] => rfl
  | a :: r => by rw [List.flatMap_cons, flat_int r]; rfl
theorem put_transI {ρ : Rho} {h : AHeap} {w : World} (H : HRel ρ h w) {o e s : Nat} {l l' x : List Int} {c : CLoc} (hx : h.get o = some (.row e s false (l.flatMap eI))) (hc : ρ o = some c) (hl : (l' ++ x).length = l.length) (n : Nat) (os : Array Obj) :
    Trans ρ h w ρ (h.set o (.row e s false (l'.flatMap eI))) (Go.Sort.grow (Go.Sort.putRow (Value.int .i64) (Go.Sort.ahead w n) c.blk c.base (l' ++ x).toArray) os) := by
  obtain ⟨c', y, g1, g2, g3⟩ := H.objs _ _ hx
  rw [hc] at g1; cases g1
  obtain ⟨cs, fr, rfl, q1, q2, q3, q4, q5, q6⟩ := g3
  rw [flat_int, List.length_map] at q1 q3
  have hl' : l'.length ≤ l.length := by rw [← hl, List.length_append]; omega
  have hsz : (Go.Sort.putCells (Value.int .i64) c.base (l' ++ x).toArray cs).size = cs.size := by unfold Go.Sort.putCells; simp
  have T1 : Trans ρ h w ρ (h.set o (.row e s false (l'.flatMap eI))) (Go.Sort.putRow (Value.int .i64) (Go.Sort.ahead w n) c.blk c.base (l' ++ x).toArray) := by
    refine Trans.ofSet (y' := .cells (Go.Sort.putCells (Value.int .i64) c.base (l' ++ x).toArray cs) e fr) H hx rfl hc ?_ ⟨_, fr, rfl, ?_, fun i a ha => ?_, ?_, ?_, ?_, ?_⟩ ?_ (fun b hb => ?_) rfl rfl
    · show (w.heap.modify c.blk (Go.Sort.onCells _))[c.blk]? = _
      rw [Array.getElem?_modify, if_pos rfl, g2]; rfl
    · rw [flat_int, List.length_map, hsz]; omega
    · rw [flat_int, List.getElem?_map] at ha
      obtain ⟨z, hx1, rfl⟩ := Option.map_eq_some_iff.mp ha
      obtain ⟨hi, hx2⟩ := List.getElem?_eq_some_iff.mp hx1
      have hi2 : i < (l' ++ x).length := by rw [List.length_append]; omega
      refine ⟨rfl, (Value.int .i64) z, ?_, by simp only [VR]⟩
      unfold Go.Sort.putCells
      rw [Array.getElem?_mapIdx, Array.getElem?_eq_getElem (by omega)]
      simp only [Option.map_some, List.size_toArray]
      rw [if_pos (by omega)]
      have : c.base + i - c.base = i := by omega
      rw [this, getElem!_pos _ i (by simpa using hi2)]
      simp [List.getElem_append_left hi, hx2]
    · rw [flat_int, List.length_map]; omega
    · rw [hsz]; exact q4
    · rw [hsz]; exact q5
    · rw [hsz]; exact q6
    · show (w.heap.modify c.blk _).size = _
      simp
    · show (w.heap.modify c.blk _)[b]? = _
      rw [Array.getElem?_modify, if_neg (Ne.symm hb)]
  refine T1.trans (Trans.more T1.rel (fun b hb => ?_) ?_ rfl rfl)
  · show (_ ++ os)[b]? = _
    rw [Array.getElem?_append_left hb]
  · show _ ≤ (_ ++ os).size
    simp
/-- The sorted row. -/
def sortI (l : List Int) : List Int := l.mergeSort fun x y => decide (x ≤ y)
theorem sortI_len (l : List Int) : (sortI l).length = l.length := by simp [sortI]
theorem holds_ofI {ρ : Rho} {w : World} {c : CLoc} {e s : Nat} {l : List Int} {y : Obj} (g2 : w.heap[c.blk]? = some y) (g3 : ORel ρ c (.row e s false (l.flatMap eI)) y) : Go.Sort.Holds (Value.int .i64) w c.blk c.base l.toArray := by
  obtain ⟨cs, fr, rfl, q1, q2, q3, q4, q5, q6⟩ := g3
  rw [flat_int] at q1 q2
  rw [List.length_map] at q1
  intro j hj
  have hj' : j < l.length := by simpa using hj
  obtain ⟨_, v, h1, h2⟩ := q2 j (.int .i64 l[j]) (by rw [List.getElem?_map, List.getElem?_eq_getElem hj']; rfl)
  simp only [VR] at h2
  subst h2
  constructor
  · unfold World.cell?
    rw [g2]
    show (if (none : Option _).isSome then none else cs[c.base + j]?) = _
    rw [if_neg (by simp), h1, getElem!_pos _ j (by simpa using hj')]
    simp
  · unfold World.frozen?
    rw [g2]
    have := q5 rfl (c.base + j) (by omega)
    simp only [Bool.and_eq_false_iff, decide_eq_false_iff_not]
    omega
theorem sort_cwI {C : Ctx} {f : FuncId} {fn : Func} {cd : Code} (hf : C.P.funcs[f]? = some fn) (hn : (fn.name == "runtime.NumGoroutine") = false) (hb : fn.body = some cd)
    (hsort : ∀ (blk off cap : Nat) (ss : List Int) (w : World), Go.Sort.Holds (Value.int .i64) w blk off ss.toArray → blk < w.heap.size → ss.length < 4611686018427387904 →
      Calls C.P f #[.slice (some ⟨blk, off, none⟩) ss.length cap] w fun e w' => e = .returned (.tuple #[]) ∧ ∃ n os, w' = Go.Sort.grow (Go.Sort.putRow (Value.int .i64) (Go.Sort.ahead w n) blk off (ss.mergeSort fun x y => decide (x ≤ y)).toArray) os)
    {o e s : Nat} {k : ACap} {l : List Int} {R : List HI} (h0 : 0 < l.length) (hl : l.length < 4611686018427387904) :
    CallW C f [.slice (some ⟨o, 0⟩) l.length k] (.obj o (.row e s false (l.flatMap eI)) :: R) fun v H => v = .tuple [] ∧ H = .obj o (.row e s false ((sortI l).flatMap eI)) :: R := by
  intro h fp h1 h2 ρ w us hv H
  have hx := ((Take.head : Take (.obj o (.row e s false (l.flatMap eI)) :: R) (.obj o (.row e s false (l.flatMap eI))) R).obj h1).1
  obtain ⟨c, y, g1, g2, g3⟩ := H.objs _ _ hx
  simp only [VRL, VR] at hv
  obtain ⟨u, us', e1, ⟨c', ad, k1, rfl, k2, k3⟩, rfl⟩ := hv
  rw [g1] at k1; cases k1
  have hk : k.val c ≠ 0 := by omega
  have e2 : us = #[.slice (some ⟨c.blk, c.base, none⟩) l.length (k.val c)] := by
    rw [k3 hk] at e1
    exact Array.ext' (by simpa [CLoc.at] using e1)
  subst e2
  have hname : ¬ fn.name = "runtime.NumGoroutine" := by simpa using hn
  refine .inl ⟨by simp [callFunc, hf, hname, hb], (hsort c.blk c.base (k.val c) l w (holds_ofI g2 g3) (Array.getElem?_eq_some_iff.mp g2).1 hl).mono ?_⟩
  rintro ex w' ⟨rfl, n, os, rfl⟩
  obtain ⟨m1, m2, m3⟩ := sat_set (x' := .row e s false ((sortI l).flatMap eI)) h1 h2
  exact ⟨_, rfl, .tuple [], ρ, _, _, _, by simp only [VR, VRL]; exact ⟨#[], rfl, rfl⟩, by have T := put_transI (l' := sortI l) (x := []) H hx g1 (by simpa using sortI_len l) n os; rw [List.append_nil] at T; exact T, m1, m2, m3, rfl, rfl⟩
/-- slices.Compact at []string, likewise; the cells behind the new end are told no more. -/
theorem compact_cwI {C : Ctx} {f : FuncId} {fn : Func} {cd : Code} (hf : C.P.funcs[f]? = some fn) (hn : (fn.name == "runtime.NumGoroutine") = false) (hb : fn.body = some cd)
    (hcomp : ∀ (blk off cap : Nat) (zs : List Int) (w : World), Go.Sort.Holds (Value.int .i64) w blk off zs.toArray → zs.length ≤ 9223372036854775807 → zs.length ≤ cap →
      Calls C.P f #[.slice (some ⟨blk, off, none⟩) zs.length cap] w fun e w' => e = .returned (.slice (some ⟨blk, off, none⟩) (Lib.compact zs).length cap) ∧ ∃ q, w' = Go.Sort.putRow (Value.int .i64) (Go.Sort.ahead w q) blk off (Lib.compact zs ++ List.replicate (zs.length - (Lib.compact zs).length) 0).toArray)
    {o e s : Nat} {k : ACap} {l : List Int} {R : List HI} (h0 : 0 < l.length) (hl : l.length ≤ 9223372036854775807) (hc : (Lib.compact l).length ≤ l.length) :
    CallW C f [.slice (some ⟨o, 0⟩) l.length k] (.obj o (.row e s false (l.flatMap eI)) :: R) fun v H => v = .slice (some ⟨o, 0⟩) (Lib.compact l).length k ∧ H = .obj o (.row e s false ((Lib.compact l).flatMap eI)) :: R := by
  intro h fp h1 h2 ρ w us hv H
  have hx := ((Take.head : Take (.obj o (.row e s false (l.flatMap eI)) :: R) (.obj o (.row e s false (l.flatMap eI))) R).obj h1).1
  obtain ⟨c, y, g1, g2, g3⟩ := H.objs _ _ hx
  simp only [VRL, VR] at hv
  obtain ⟨u, us', e1, ⟨c', ad, k1, rfl, k2, k3⟩, rfl⟩ := hv
  rw [g1] at k1; cases k1
  have hk : k.val c ≠ 0 := by omega
  have e2 : us = #[.slice (some ⟨c.blk, c.base, none⟩) l.length (k.val c)] := by
    rw [k3 hk] at e1
    exact Array.ext' (by simpa [CLoc.at] using e1)
  subst e2
  have hname : ¬ fn.name = "runtime.NumGoroutine" := by simpa using hn
  refine .inl ⟨by simp [callFunc, hf, hname, hb], (hcomp c.blk c.base (k.val c) l w (holds_ofI g2 g3) hl k2).mono ?_⟩
  rintro ex w' ⟨rfl, n, rfl⟩
  obtain ⟨m1, m2, m3⟩ := sat_set (x' := .row e s false ((Lib.compact l).flatMap eI)) h1 h2
  have T := put_transI (l' := Lib.compact l) (x := List.replicate (l.length - (Lib.compact l).length) 0) H hx g1 (by rw [List.length_append, List.length_replicate]; omega) n #[]
  rw [Go.Sort.grow_empty] at T
  exact ⟨_, rfl, .slice (some ⟨o, 0⟩) (Lib.compact l).length k, ρ, _, _, _, by simp only [VR]; exact ⟨c, _, g1, rfl, by omega, fun _ => by simp [CLoc.at]⟩, T, m1, m2, m3, rfl, rfl⟩
theorem int_len (l : List Int) : (l.flatMap eI).length = l.length * 1 := flat_length (by intro _; rfl) l
/-- .. of what is our own. -/
theorem sortO_cwI {C : Ctx} {f : FuncId} {fn : Func} {cd : Code} (hf : C.P.funcs[f]? = some fn) (hn : (fn.name == "runtime.NumGoroutine") = false) (hb : fn.body = some cd)
    (hsort : ∀ (blk off cap : Nat) (ss : List Int) (w : World), Go.Sort.Holds (Value.int .i64) w blk off ss.toArray → blk < w.heap.size → ss.length < 4611686018427387904 →
      Calls C.P f #[.slice (some ⟨blk, off, none⟩) ss.length cap] w fun e w' => e = .returned (.tuple #[]) ∧ ∃ n os, w' = Go.Sort.grow (Go.Sort.putRow (Value.int .i64) (Go.Sort.ahead w n) blk off (ss.mergeSort fun x y => decide (x ≤ y)).toArray) os)
    (hnone : ∀ (p : Option Addr) (cap : Nat) (w : World), Calls C.P f #[.slice p 0 cap] w fun e w' => e = .returned (.tuple #[]) ∧ w' = w)
    {v : AV} {e : Nat} {l : List Int} {R : List HI} (hl : l.length < 4611686018427387904) :
    CallW C f [v] (.own v e 1 (l.flatMap eI) l.length :: R) fun u H => u = .tuple [] ∧ H = .own v e 1 ((sortI l).flatMap eI) (sortI l).length :: R := by
  refine CallW.openOwn .head (fun h0 hv => ?_) (fun h0 o ho => ?_)
  · have : l = [] := List.eq_nil_of_length_eq_zero h0
    subst this
    intro h fp h1 h2 ρ w us hus H
    simp only [VRL] at hus
    obtain ⟨u, us', e1, hu, rfl⟩ := hus
    obtain ⟨p, c, rfl⟩ := hv ρ u hu
    have e2 : us = #[.slice p 0 c] := Array.ext' (by simpa using e1)
    subst e2
    have hname : ¬ fn.name = "runtime.NumGoroutine" := by simpa using hn
    refine .inl ⟨by simp [callFunc, hf, hname, hb], (hnone p c w).mono ?_⟩
    rintro ex w' ⟨rfl, rfl⟩
    exact ⟨_, rfl, .tuple [], ρ, h, fp, _, by simp only [VR, VRL]; exact ⟨#[], rfl, rfl⟩, .refl H, h1, h2, .refl _ _, rfl, by simp [sortI]⟩
  · subst ho
    refine CallW.post (sort_cwI hf hn hb hsort h0 hl) ?_
    rintro u H ⟨rfl, rfl⟩
    exact ⟨_, weak_close (m := l.length) (by rw [int_len, sortI_len]), rfl, by rw [sortI_len]⟩
theorem compactO_cwI {C : Ctx} {f : FuncId} {fn : Func} {cd : Code} (hf : C.P.funcs[f]? = some fn) (hn : (fn.name == "runtime.NumGoroutine") = false) (hb : fn.body = some cd)
    (hcomp : ∀ (blk off cap : Nat) (zs : List Int) (w : World), Go.Sort.Holds (Value.int .i64) w blk off zs.toArray → zs.length ≤ 9223372036854775807 → zs.length ≤ cap →
      Calls C.P f #[.slice (some ⟨blk, off, none⟩) zs.length cap] w fun e w' => e = .returned (.slice (some ⟨blk, off, none⟩) (Lib.compact zs).length cap) ∧ ∃ q, w' = Go.Sort.putRow (Value.int .i64) (Go.Sort.ahead w q) blk off (Lib.compact zs ++ List.replicate (zs.length - (Lib.compact zs).length) 0).toArray)
    (hnone : ∀ (a : Option Addr) (cap : Nat) (w : World), Calls C.P f #[.slice a 0 cap] w fun e w' => e = .returned (.slice a 0 cap) ∧ w' = w)
    {v : AV} {e : Nat} {l : List Int} {R : List HI} (hl : l.length ≤ 9223372036854775807) (hc : (Lib.compact l).length ≤ l.length) :
    CallW C f [v] (.own v e 1 (l.flatMap eI) l.length :: R) fun u H => H = .own u e 1 ((Lib.compact l).flatMap eI) (Lib.compact l).length :: R := by
  refine CallW.openOwn .head (fun h0 hv => ?_) (fun h0 o ho => ?_)
  · have : l = [] := List.eq_nil_of_length_eq_zero h0
    subst this
    intro h fp h1 h2 ρ w us hus H
    simp only [VRL] at hus
    obtain ⟨u, us', e1, hu, rfl⟩ := hus
    obtain ⟨p, c, rfl⟩ := hv ρ u hu
    have e2 : us = #[.slice p 0 c] := Array.ext' (by simpa using e1)
    subst e2
    have hname : ¬ fn.name = "runtime.NumGoroutine" := by simpa using hn
    refine .inl ⟨by simp [callFunc, hf, hname, hb], (hnone p c w).mono ?_⟩
    rintro ex w' ⟨rfl, rfl⟩
    exact ⟨_, rfl, v, ρ, h, fp, _, hu, .refl H, h1, h2, .refl _ _, rfl⟩
  · subst ho
    refine CallW.post (compact_cwI hf hn hb hcomp h0 hl hc) ?_
    rintro u H ⟨rfl, rfl⟩
    exact ⟨_, weak_close (by rw [int_len]), rfl⟩
theorem compact_leI (l : List Int) : (Lib.compact l).length ≤ l.length := by
  have key : ∀ (d : Array Int) (m : Nat), (Lib.compactUpTo d m).length ≤ m := by
    intro d m
    induction m with
    | zero => simp [Lib.compactUpTo]
    | succ m ih =>
      rw [Lib.compactUpTo_succ, List.length_append]
      split
      · simp only [List.length_cons, List.length_nil]; omega
      · simp only [List.length_nil]; omega
  exact key _ _
end Go.Proofs.YtlgofplbbmjdjaaGreatDoor.BH
