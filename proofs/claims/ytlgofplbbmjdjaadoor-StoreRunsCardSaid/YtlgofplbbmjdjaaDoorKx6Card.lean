/-
  StoreRuns returns true, in every world in which the variables that its row lists hold what the program's text lays; it takes nothing. The tied card.
  The functions that it calls are walked one by one by facts; slices.Sort, slices.Compact, slices.Insert lean on the kit's shelf.
-/
import Derived.Test.YtlgofplbbmjdjaaDoorCards
import Derived.Test.YtlgofplbbmjdjaaDoorTie
import Derived.Deep.DeepHandedRow
import Derived.Lib.LaidTab
import Derived.Test.YtlgofplbbmjdjaaDoorBhArg
import Derived.Test.YtlgofplbbmjdjaaDoorKx6Runs
namespace Go.Proofs.YtlgofplbbmjdjaaDoor.storeRuns
open Go.ChangeShapes Go.WideShapes Go.ChangeAt Go.RowKit Go.Proofs.YtlgofplbbmjdjaaDoor.BH Go.Proofs.YtlgofplbbmjdjaaDoor.kx

theorem own : ownKnob Tryd.prog.godebug = none := by kernel_rfl
theorem laid : laidOutB Tryd.prog = true := by kernel_rfl

set_option maxRecDepth 100000 in
theorem contract (H : Type) (enc : TypeId × Value → H) (W : World) (args : Array Value) (ds gs : List (DataW H)) (before : List MemPlace)
    (hW : DataW.Whole enc Tryd.prog Tryd.f3.params.toList Rows.storeRunsSpec.vars false W args.toList ds gs before) :
    Calls Tryd.prog 3 args W fun e W' => ∃ v, e = .returned v ∧ Rows.storeRunsSpec.post enc Tryd.prog Tryd.f3 false true false false W args v W' := by
  have hW' := hW
  obtain ⟨p, q, hA0, hV, rfl, hfz, hnd⟩ := hW
  have hA : DataW.TrodAll enc Tryd.prog W 0 (fun _ => true) true Tryd.f3.params.toList args.toList ds p := hA0
  rw [Tryd.params3] at hA
  obtain ⟨rfl, rfl, rfl⟩ := trodAll_none hA
  obtain ⟨rfl, rfl⟩ := trodVars_none hV
  refine (law_calls (C := C) (by rfl) (fn := Tryd.f3) rfl rfl rfl runs_law (VRL.nil (ρ := Rho.data W))).mono fun e W' ⟨he, hk⟩ => ?_
  exact ⟨_, he, post_of_old laid (by rw [Tryd.params3]; kernel_rfl) rfl hW' (fun _ _ _ => trodAll_mk1 (shut_bool Tryd.underlying4 true)) rfl rfl hk (ok_one (by kernel_rfl) rfl (okWide_bool_mk Tryd.underlying4 true))⟩

/-! A world for the witness: the settled one, each listed variable holding what its initialiser lays. -/
mutual
def flat : DataW Unit → List Value
  | .lit (.int k n) => [.int k n]
  | .lit (.bool b) => [.bool b]
  | .lit (.string s) => [.string ⟨s.toArray⟩]
  | .agg l => flatAll l
  | _ => []
def flatAll : List (DataW Unit) → List Value
  | [] => []
  | d :: r => flat d ++ flatAll r
end
def turned0 (h : Array Obj) : Array Obj := h.modify 2 fun
  | .cells _ ty frozen => .cells (flat Rows.laid_unicode_utf8_acceptRanges).toArray ty frozen
  | o => o
def turned1 (h : Array Obj) : Array Obj := h.modify 1 fun
  | .cells _ ty frozen => .cells (flat Rows.laid_unicode_utf8_first).toArray ty frozen
  | o => o
noncomputable def laidWorld (os : Os) : World :=
  { World.holding Tryd.prog os ⟨#[], #[], []⟩ with heap := turned1 (turned0 ((World.holding Tryd.prog os ⟨#[], #[], []⟩).heap)) }
set_option maxRecDepth 100000 in
theorem laid_met (os : Os) : laidMet Tryd.prog Rows.storeRunsRow.laid ((laidWorld os).forCall (fun _ _ => 0) ⟨#[], #[], []⟩).memory :=
  laidMet_of_run' 8 (by kernel_rfl) (by kernel_rfl)
theorem reads (os : Os) {H : Type} (enc : TypeId × Value → H) : ∃ places, DataW.whole enc Tryd.prog ((laidWorld os).forCall (fun _ _ => 0) ⟨#[], #[], []⟩).memory Tryd.f3.params.toList Rows.storeRunsSpec.vars false (#[] : Array Value).toList 8 = some ([], [], places) :=
  ⟨[], by kernel_rfl⟩

set_option maxRecDepth 100000 in
theorem lifted (os : Os) (started : os.Started) (H : Type) (enc : TypeId × Value → H) (F : Stop.Interp) :
    ReturnsInHanded {} Tryd.checked os 3 .any ((OpenSpec.ofChange Rows.storeRunsSpec).preRow enc Tryd.prog Tryd.f3 Rows.storeRunsRow.domain false Rows.storeRunsRow.laid) (((OpenSpec.ofChange Rows.storeRunsSpec).at F).post enc Tryd.prog Tryd.f3 false true false false) := by
  obtain ⟨places, hx⟩ := reads os enc
  refine returnsInHanded_of_row (C := Tryd.checked) (s := OpenSpec.ofChange Rows.storeRunsSpec) own started (by kernel_rfl) Tryd.func3
    (witness_row_at (enc := enc) (C := Tryd.checked) false (laidWorld os) #[] rfl (by kernel_rfl) (by kernel_rfl) (by kernel_rfl)
      (OpenSpec.preRow_of_cond 8 hx (by kernel_rfl) (fun k hk => by cases hk) (by kernel_rfl) (laid_met os))) ?_
  intro W base args ds gs before hval hW _ _ _ hL _ _
  exact contract H enc W args ds gs before hW

theorem said : Rows.StoreRunsSaid :=
  OpenClaim.holds_of_cond 3 Tryd.f3 rfl rfl rfl rfl rfl rfl rfl ⟨rfl, rfl, rfl, rfl, rfl⟩ rfl rfl rfl rfl rfl (by kernel_rfl) Tryd.func3 (by kernel_rfl)
    (of_decide_eq_true (by kernel_rfl)) (by unfold Func.isWrapper; first | (rw [if_pos (by decide +kernel)]; kernel_rfl) | (rw [if_neg (by decide +kernel)]; exact ⟨rfl, rfl⟩))
    (fun os started H enc _ F => by rw [OpenClaim.pre_eq_preRow]; exact lifted os started H enc F)

theorem plain (f : FuncId) (fn : Func) (hf : Tryd.pinned.checked.prog.funcNamed "klaxon/klaxonlaw6.StoreRuns" = some f) (hfn : Tryd.pinned.checked.prog.funcs[f]? = some fn) :
    false = Tryd.pinned.checked.prog.looks [] ∧ ∀ (j : Nat) t, fn.params[j]? = some t → Tryd.pinned.checked.prog.wantsStandIn t = false := by
  obtain rfl : f = 3 := Option.some.inj ((show Tryd.prog.funcNamed "klaxon/klaxonlaw6.StoreRuns" = some 3 by kernel_rfl).symm.trans hf) |>.symm
  obtain rfl : fn = Tryd.f3 := (Option.some.inj (Tryd.func3.symm.trans hfn)).symm
  refine ⟨by kernel_rfl, fun j t ht => ?_⟩
  rw [Tryd.params3] at ht
  simp at ht

theorem card : Rows.StoreRunsCardSaid :=
  Claim7.holds_tied_plain_at .later [] _ _ _ _ said (fun _ h => by cases h) (by kernel_rfl) (fun _ h => by cases h) storeRuns_row_tie rfl ⟨rfl, rfl⟩ (by kernel_rfl) rfl plain (by kernel_rfl)

end Go.Proofs.YtlgofplbbmjdjaaDoor.storeRuns
