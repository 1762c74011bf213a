/-
  What the kit's contracts ('Calls') of functions that only read, and make memory of their own, are as pure functions here.
-/
import Derived.Test.YtlgofplbbmjdjaaGreatDoorBhW18
import Derived.Below
import Derived.Lib.Join
namespace Go.Proofs.YtlgofplbbmjdjaaGreatDoor.BH
open Go Go.RowKit
set_option maxRecDepth 10000
theorem trans_below {ρ : Rho} {h : AHeap} {w w' : World} (H : HRel ρ h w) (same : ∀ b, b < w.heap.size → w'.heap[b]? = w.heap[b]?) (hs : w.heap.size ≤ w'.heap.size) (ho : w'.output = w.output) (hos : w'.os = w.os) : Trans ρ h w ρ h w' := by
  have same' : ∀ {b : Nat} {y : Obj}, w.heap[b]? = some y → w'.heap[b]? = some y := fun {b y} hy => by rw [same b (Array.getElem?_eq_some_iff.mp hy).1]; exact hy
  refine ⟨.refl ρ, ⟨fun o x hx => ?_, H.inj, H.fresh, fun b x hx => ?_, H.fixed⟩, fun b hb _ => same b hb, hs, ho, hos, fun o x c hx hf hc => .inl ⟨o, x, c, hx, hf, hc, rfl⟩, fun _ ho => .inl ho, Nat.le_refl _, fun _ hb => .inl hb, rfl⟩
  · obtain ⟨c, y, g1, g2, g3⟩ := H.objs o x hx
    exact ⟨c, y, g1, same' g2, g3⟩
  · obtain ⟨⟨e, fr, g1⟩, g2⟩ := H.rets b x hx
    exact ⟨⟨e, fr, same' g1⟩, g2⟩
theorem pfn_of_calls {C : Ctx} {f : FuncId} {fn : Func} {cd : Code} (hf : C.P.funcs[f]? = some fn) (hn : (fn.name == "runtime.NumGoroutine") = false) (hb : fn.body = some cd) {l : List AV} {v : AV} (hc : l.all closedV = true) (hk : (C.cfg.kind f).keep = false) (hp : plainV v = true)
    (h : ∀ ρ w us, VRL ρ l us.toList → HRel ρ AHeap.empty w → Calls C.P f us w fun e w' => ∃ u, e = .returned u ∧ VR ρ v u ∧ Below w.heap.size w w') : PFn C f l v := by
  refine ⟨hc, fun ρ w us hv H => ?_⟩
  have hname : ¬ fn.name = "runtime.NumGoroutine" := by simpa using hn
  refine .inl ⟨by simp [callFunc, hf, hname, hb], (h ρ w us hv H).mono ?_⟩
  rintro ex w' ⟨u, rfl, hu, hB⟩
  exact ⟨_, rfl, ρ, _, v, hu, trans_below H (fun b hb => hB.block b hb) hB.size hB.output hB.os, .inl ⟨hk, rfl, hp⟩⟩
theorem cells_of {ρ : Rho} {w : World} (H : HRel ρ AHeap.empty w) {l : List (List UInt8)} {u : Value} (hv : VR ρ (AL eS l) u) : ∃ ao cap, u = .slice ao l.length cap ∧ l.length ≤ cap ∧
    (l = [] ∨ ∃ b off, ao = some ⟨b, off, none⟩ ∧ b < w.heap.size ∧ ∀ (j : Nat) (x : List UInt8), l[j]? = some x → w.cell? ⟨b, off + j, none⟩ = some (.string ⟨x.toArray⟩)) := by
  unfold AL at hv
  simp only [VR] at hv
  obtain ⟨ao, cap, rfl, h2, _, _, _, h5⟩ := hv
  refine ⟨ao, cap, rfl, h2, ?_⟩
  rcases h5 with ⟨h0, _⟩ | ⟨b, off, x, us, rfl, k2, k3, k4⟩
  · exact .inl (List.eq_nil_of_length_eq_zero h0)
  · obtain ⟨⟨e, fr, g1⟩, _⟩ := H.rets b x (.inl k2)
    refine .inr ⟨b, off, rfl, (Array.getElem?_eq_some_iff.mp g1).1, fun j z hz => ?_⟩
    have hz' : (l.flatMap eS)[j]? = some (.str z) := by
      have := flat_get (enc := eS) (s := 1) (fun _ => rfl) hz (off := 0) (by decide)
      simpa [eS] using this
    obtain ⟨q, m1, m2⟩ := VRL.get k3 hz'
    simp only [VR] at m2
    subst m2
    have := k4 j _ m1
    unfold World.cell?
    rw [g1]
    exact this
theorem map_toList (l : List (List UInt8)) : (l.map fun x => (⟨x.toArray⟩ : ByteArray)).map (·.data.toList) = l := by
  rw [List.map_map]
  conv => rhs; rw [← List.map_id l]
  apply List.map_congr_left
  intro x _; rfl
/-- strings.Join. -/
theorem join_pfn {C : Ctx} {f : FuncId} {fn : Func} {cd : Code} (hf : C.P.funcs[f]? = some fn) (hn : (fn.name == "runtime.NumGoroutine") = false) (hb : fn.body = some cd) (hk : (C.cfg.kind f).keep = false)
    (hj : ∀ (bk o c : Nat) (xs : List ByteArray) (sep : ByteArray) (w : World), (∀ (j : Nat) x, xs[j]? = some x → w.cell? ⟨bk, o + j, none⟩ = some (.string x)) → bk < w.heap.size → xs.length ≤ 140737488355328 → xs.length ≤ c →
      (Lib.join (xs.map (·.data.toList)) sep.data.toList).length ≤ 140737488355328 → Calls C.P f #[.slice (some ⟨bk, o, none⟩) xs.length c, .string sep] w fun e w' => e = .returned (.string ⟨(Lib.join (xs.map (·.data.toList)) sep.data.toList).toArray⟩) ∧ Below w.heap.size w w')
    (hj0 : ∀ (a : Option Addr) (c : Nat) (sep : ByteArray) (w : World), Calls C.P f #[.slice a 0 c, .string sep] w fun e w' => e = .returned (.string ⟨#[]⟩) ∧ w' = w)
    (l : List (List UInt8)) (sep : List UInt8) (hl : l.length ≤ 140737488355328) (hlen : (sep.intercalate l).length ≤ 140737488355328) : PFn C f [AL eS l, .str sep] (.str (sep.intercalate l)) := by
  refine pfn_of_calls hf hn hb (by rfl) hk rfl fun ρ w us hv H => ?_
  simp only [VRL] at hv
  obtain ⟨u, us', e1, hu, u2, us2, e2, hs, e3⟩ := hv
  simp only [VR] at hs
  subst hs; subst e3; subst e2
  obtain ⟨ao, cap, rfl, hcap, hcase⟩ := cells_of H hu
  have e2 : us = #[.slice ao l.length cap, .string ⟨sep.toArray⟩] := Array.ext' (by simpa using e1)
  subst e2
  rcases hcase with rfl | ⟨b, off, rfl, hbk, hcell⟩
  · refine (hj0 ao cap ⟨sep.toArray⟩ w).mono ?_
    rintro e w' ⟨rfl, rfl⟩
    refine ⟨_, rfl, ?_, Below.refl _ _⟩
    simp only [VR]; rfl
  · have hh := hj b off cap (l.map fun x => ⟨x.toArray⟩) ⟨sep.toArray⟩ w (fun j x hx => by
      rw [List.getElem?_map] at hx
      obtain ⟨z, hz, rfl⟩ := Option.map_eq_some_iff.mp hx
      exact hcell j z hz) hbk (by simpa using hl) (by simpa using hcap) (by rw [map_toList]; exact hlen)
    rw [map_toList, List.length_map] at hh
    refine hh.mono ?_
    rintro e w' ⟨rfl, hB⟩
    exact ⟨_, rfl, by simp only [VR]; rfl, hB⟩
/-- A function of one text, telling a text. -/
theorem text_pfn {C : Ctx} {f : FuncId} {fn : Func} {cd : Code} (hf : C.P.funcs[f]? = some fn) (hn : (fn.name == "runtime.NumGoroutine") = false) (hb : fn.body = some cd) (hk : (C.cfg.kind f).keep = false) (s r : List UInt8)
    (h : ∀ w : World, Calls C.P f #[.string ⟨s.toArray⟩] w fun e w' => e = .returned (.string ⟨r.toArray⟩) ∧ Below w.heap.size w w') : PFn C f [.str s] (.str r) := by
  refine pfn_of_calls hf hn hb rfl hk rfl fun ρ w us hv H => ?_
  simp only [VRL] at hv
  obtain ⟨u, us', e1, hu, e3⟩ := hv
  simp only [VR] at hu
  subst hu; subst e3
  have e2 : us = #[.string ⟨s.toArray⟩] := Array.ext' (by simpa using e1)
  subst e2
  refine (h w).mono ?_
  rintro e w' ⟨rfl, hB⟩
  exact ⟨_, rfl, by simp only [VR], hB⟩
end Go.Proofs.YtlgofplbbmjdjaaGreatDoor.BH
