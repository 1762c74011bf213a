/-
  RouteGoes returns true at any turns and any depth, in every world in which the variables that its row lists hold what the program's text lays. The tied card.
  The functions that it calls are walked one by one by facts; slices.Sort and slices.Compact are taken by the kit's shelf.
-/
import Derived.Test.YtonojkcnencodaaDoorCards
import Derived.Test.YtonojkcnencodaaDoorTie
import Derived.Deep.DeepHandedRow
import Derived.Lib.LaidTab
import Derived.Test.YtonojkcnencodaaDoorBhRt4
import Derived.Test.YtonojkcnencodaaDoorBhArg
namespace Go.Proofs.YtonojkcnencodaaDoor.routeGoes
open Go.ChangeShapes Go.WideShapes Go.ChangeAt Go.RowKit Go.Proofs.YtonojkcnencodaaDoor.BH Go.Proofs.YtonojkcnencodaaDoor.BH.Rt Go.Proofs.YtonojkcnencodaaDoor.rt

theorem own : ownKnob Tryd.prog.godebug = none := by kernel_rfl
theorem laid : laidOutB Tryd.prog = true := by kernel_rfl
theorem cells4 : Tryd.prog.cellsOf 4 = 1 := by kernel_rfl
theorem turns_arg {H : Type} {e' : TypeId × Value → H} {W : World} {v : Value} {d : DataW H} {ps : List MemPlace} (hs : ∃ a len cap, v = .slice a len cap) (h : DataW.Trod e' Tryd.prog W 0 (fun _ => true) true 48 v d ps) : ∃ l : List Bool, VRL (Rho.data W) [AL eT l] [v] ∧ l.length ≤ 9223372036854775807 := by
  obtain ⟨a, len, cap, rfl⟩ := hs
  obtain ⟨l, h1, h2⟩ := arg_one h (fun n => dec_slice Tryd.underlying48 cells4 (by decide) (fun _ => rfl) (fun _ => rfl) (fun m _ => dec_bool Tryd.underlying4 m)) (fun _ _ _ => rfl)
  exact ⟨l, h1, h2.2⟩

set_option maxRecDepth 100000 in
theorem contract (H : Type) (enc : TypeId × Value → H) (W : World) (base : Nat) (args : Array Value) (ds gs : List (DataW H)) (before : List MemPlace) (hval : ∀ (j : Nat) t v, Tryd.f5.params[j]? = some t → args[j]? = some v → Value.okWide Tryd.prog W .any base t v)
    (hW : DataW.Whole enc Tryd.prog Tryd.f5.params.toList Rows.routeGoesSpec.vars false W args.toList ds gs before) :
    Calls Tryd.prog 5 args W fun e W' => ∃ v, e = .returned v ∧ Rows.routeGoesSpec.post enc Tryd.prog Tryd.f5 false true false false W args v W' := by
  have hW' := hW
  obtain ⟨p, q, hA0, hV, rfl, _, _⟩ := hW
  have hA : DataW.TrodAll enc Tryd.prog W 0 (fun _ => true) true Tryd.f5.params.toList args.toList ds p := hA0
  rw [Tryd.params5] at hA hval
  obtain ⟨v0, v1, d0, d1, p0, p1, rfl, rfl, rfl, h0, h1⟩ := trodAll_two hA
  obtain ⟨rfl, rfl⟩ := trodVars_none hV
  obtain ⟨l0, n0, k0⟩ := turns_arg (okWide_slice Tryd.underlying48 (hval 0 48 v0 rfl rfl)) h0
  obtain ⟨x1, rfl, rfl, rfl, _⟩ := open_int Tryd.underlying3 (hval 1 3 v1 rfl rfl) h1
  have hargs : VRL (Rho.data W) [AL eT l0, .int .i64 x1] [v0, .int .i64 x1] := VRL.append n0 (VRL.cons (by simp only [VR]) VRL.nil)
  refine (law_calls (C := C) (by rfl) (fn := Tryd.f5) rfl rfl rfl (goes_law l0 x1 k0) hargs).mono fun e W' ⟨he, hk⟩ => ?_
  exact ⟨_, he, post_of_old laid (by rw [Tryd.params5]; kernel_rfl) rfl hW' (fun _ _ _ => trodAll_mk1 (shut_bool Tryd.underlying4 true)) rfl rfl hk (ok_one (by kernel_rfl) rfl (okWide_bool_mk Tryd.underlying4 true))⟩

/-! A world for the witness: the settled one, each listed variable holding what its initialiser lays. -/
mutual
def flat : DataW Unit → List Value
  | .lit (.int k n) => [.int k n]
  | .lit (.bool b) => [.bool b]
  | .lit (.string s) => [.string ⟨s.toArray⟩]
  | .agg l => flatAll l
  | _ => []
def flatAll : List (DataW Unit) → List Value
  | [] => []
  | d :: r => flat d ++ flatAll r
end
def turned0 (h : Array Obj) : Array Obj := h.modify 2 fun
  | .cells _ ty frozen => .cells (flat Rows.laid_unicode_utf8_acceptRanges).toArray ty frozen
  | o => o
def turned1 (h : Array Obj) : Array Obj := h.modify 1 fun
  | .cells _ ty frozen => .cells (flat Rows.laid_unicode_utf8_first).toArray ty frozen
  | o => o
noncomputable def laidWorld (os : Os) : World :=
  { World.holding Tryd.prog os ⟨#[], #[.slice none 0 0, .int .i64 0], []⟩ with heap := turned1 (turned0 ((World.holding Tryd.prog os ⟨#[], #[.slice none 0 0, .int .i64 0], []⟩).heap)) }
set_option maxRecDepth 100000 in
theorem laid_met (os : Os) : laidMet Tryd.prog Rows.routeGoesRow.laid ((laidWorld os).forCall (fun _ _ => 0) ⟨#[], #[.slice none 0 0, .int .i64 0], []⟩).memory :=
  laidMet_of_run' 8 (by kernel_rfl) (by kernel_rfl)
theorem reads (os : Os) {H : Type} (enc : TypeId × Value → H) : ∃ places, DataW.whole enc Tryd.prog ((laidWorld os).forCall (fun _ _ => 0) ⟨#[], #[.slice none 0 0, .int .i64 0], []⟩).memory Tryd.f5.params.toList Rows.routeGoesSpec.vars false (#[.slice none 0 0, .int .i64 0] : Array Value).toList 8 = some ([.nil, .lit (.int .i64 0)], [], places) :=
  ⟨[], by kernel_rfl⟩

set_option maxRecDepth 100000 in
theorem lifted (os : Os) (started : os.Started) (H : Type) (enc : TypeId × Value → H) (F : Stop.Interp) :
    ReturnsInHanded {} Tryd.checked os 5 .any ((OpenSpec.ofChange Rows.routeGoesSpec).preRow enc Tryd.prog Tryd.f5 Rows.routeGoesRow.domain false Rows.routeGoesRow.laid) (((OpenSpec.ofChange Rows.routeGoesSpec).at F).post enc Tryd.prog Tryd.f5 false true false false) := by
  obtain ⟨places, hx⟩ := reads os enc
  refine returnsInHanded_of_row (C := Tryd.checked) (s := OpenSpec.ofChange Rows.routeGoesSpec) own started (by kernel_rfl) Tryd.func5
    (witness_row_at (enc := enc) (C := Tryd.checked) false (laidWorld os) #[.slice none 0 0, .int .i64 0] rfl (by kernel_rfl) (by kernel_rfl) (by kernel_rfl)
      (OpenSpec.preRow_of_cond 8 hx (by kernel_rfl) (fun k hk => by cases hk) (by kernel_rfl) (laid_met os))) ?_
  intro W base args ds gs before hval hW _ _ _ hL _ _
  exact contract H enc W base args ds gs before hval hW

theorem said : Rows.RouteGoesSaid :=
  OpenClaim.holds_of_cond 5 Tryd.f5 rfl rfl rfl rfl rfl rfl rfl ⟨rfl, rfl, rfl, rfl, rfl⟩ rfl rfl rfl rfl rfl (by kernel_rfl) Tryd.func5 (by kernel_rfl)
    (of_decide_eq_true (by kernel_rfl)) (by unfold Func.isWrapper; first | (rw [if_pos (by decide +kernel)]; kernel_rfl) | (rw [if_neg (by decide +kernel)]; exact ⟨rfl, rfl⟩))
    (fun os started H enc _ F => by rw [OpenClaim.pre_eq_preRow]; exact lifted os started H enc F)

theorem plain (f : FuncId) (fn : Func) (hf : Tryd.pinned.checked.prog.funcNamed "klaxon/klaxonlaw17.RouteGoes" = some f) (hfn : Tryd.pinned.checked.prog.funcs[f]? = some fn) :
    false = Tryd.pinned.checked.prog.looks [] ∧ ∀ (j : Nat) t, fn.params[j]? = some t → Tryd.pinned.checked.prog.wantsStandIn t = false := by
  obtain rfl : f = 5 := Option.some.inj ((show Tryd.prog.funcNamed "klaxon/klaxonlaw17.RouteGoes" = some 5 by kernel_rfl).symm.trans hf) |>.symm
  obtain rfl : fn = Tryd.f5 := (Option.some.inj (Tryd.func5.symm.trans hfn)).symm
  refine ⟨by kernel_rfl, fun j t ht => ?_⟩
  rw [Tryd.params5] at ht
  match j with
  | 0 =>
    obtain rfl : t = 48 := by simpa using ht.symm
    show Tryd.prog.wantsStandIn 48 = false
    kernel_rfl
  | 1 =>
    obtain rfl : t = 3 := by simpa using ht.symm
    show Tryd.prog.wantsStandIn 3 = false
    kernel_rfl
  | j + 2 => simp at ht

theorem card : Rows.RouteGoesCardSaid :=
  Claim7.holds_tied_plain_at .later [] _ _ _ _ said (fun _ h => by cases h) (by kernel_rfl) (fun _ h => by cases h) routeGoes_row_tie rfl ⟨rfl, rfl⟩ (by kernel_rfl) rfl plain (by kernel_rfl)

end Go.Proofs.YtonojkcnencodaaDoor.routeGoes
