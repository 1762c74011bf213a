/-
  StoreCopies returns true, in every world in which the variables that its row lists hold what the program's text lays; at any arguments. The tied card.
  The functions that it calls are walked one by one by facts; slices.Sort, slices.Compact, slices.Insert lean on the kit's shelf.
-/
import Derived.Test.YtlgofplbbmjdjaaGreatDoorCards
import Derived.Test.YtlgofplbbmjdjaaGreatDoorTie
import Derived.Deep.DeepHandedRow
import Derived.Lib.LaidTab
import Derived.Test.YtlgofplbbmjdjaaGreatDoorKxArg
import Derived.Test.YtlgofplbbmjdjaaGreatDoorKx6zLaw3
namespace Go.Proofs.YtlgofplbbmjdjaaGreatDoor.storeCopies
open Go.ChangeShapes Go.WideShapes Go.ChangeAt Go.RowKit Go.Proofs.YtlgofplbbmjdjaaGreatDoor.BH Go.Proofs.YtlgofplbbmjdjaaGreatDoor.BH.Rt Go.Proofs.YtlgofplbbmjdjaaGreatDoor.BH.Kx Go.Proofs.YtlgofplbbmjdjaaGreatDoor.kx

theorem own : ownKnob Tryz.prog.godebug = none := by kernel_rfl
theorem laid : laidOutB Tryz.prog = true := by kernel_rfl

theorem cells3 : Tryz.prog.cellsOf 3 = 1 := by kernel_rfl
theorem cells33 : Tryz.prog.cellsOf 33 = 1 := by kernel_rfl
theorem cells95 : Tryz.prog.cellsOf 95 = 1 + 1 := by kernel_rfl
theorem cells22 : Tryz.prog.cellsOf 22 = 1 := by kernel_rfl
theorem cells23 : Tryz.prog.cellsOf 23 = 1 := by kernel_rfl
theorem cells25 : Tryz.prog.cellsOf 25 = 1 + 1 := by kernel_rfl
theorem dec_li (n : Nat) : DecN Tryz.prog 33 (fun l => [AL eI l]) (fun l => l.length ≤ 9223372036854775807) n := by
  intro H e' W held cs x hx
  obtain ⟨l, h1, h2⟩ := dec_slice Tryz.underlying33 cells3 (by decide) (fun _ => rfl) (fun _ => rfl) (fun m _ => dec_int Tryz.underlying3 m) e' W held cs x hx
  exact ⟨l, h1, h2.2⟩
def KB (k : KS) : Prop := k.has.length ≤ 9223372036854775807 ∧ k.vals.length ≤ 9223372036854775807
theorem dec_ks (n : Nat) : DecN Tryz.prog 95 eKS KB n := by
  intro H e' W held cs x hx
  exact DecN.map (n := n) (dec_s2 Tryz.underlying95 cells95 cells33 cells33 rfl rfl (fun m _ => dec_li m) (fun m _ => dec_li m)) (enc' := eKS) (good' := KB) (fun p : List Int × List Int => (⟨p.1, p.2⟩ : KS)) (fun _ => rfl) (fun _ h => h) e' W held cs x hx
theorem dec_store (n : Nat) : DecN Tryz.prog 25 (fun p : List KS × List (List Int) => [AL eKS p.1, AL eLL p.2]) (fun p => ((∀ k ∈ p.1, KB k) ∧ p.1.length ≤ 9223372036854775807) ∧ (∀ l ∈ p.2, l.length ≤ 9223372036854775807) ∧ p.2.length ≤ 9223372036854775807) n := by
  intro H e' W held cs x hx
  exact dec_s2 Tryz.underlying25 cells25 cells22 cells23 rfl rfl (fun m _ => dec_slice Tryz.underlying22 cells95 (by decide) (fun _ => rfl) (fun _ => rfl) (fun q _ => dec_ks q)) (fun m _ => dec_slice (enc := eLL) Tryz.underlying23 cells33 (by decide) (fun _ => rfl) (fun _ => rfl) (fun q _ => dec_li q)) e' W held cs x hx

set_option maxRecDepth 100000 in
theorem contract (H : Type) (enc : TypeId × Value → H) (W : World) (base : Nat) (args : Array Value) (ds gs : List (DataW H)) (before : List MemPlace) (hval : ∀ (j : Nat) t v, Tryz.f5.params[j]? = some t → args[j]? = some v → Value.okWide Tryz.prog W .any base t v)
    (hW : DataW.Whole enc Tryz.prog Tryz.f5.params.toList Rows.storeCopiesSpec.vars false W args.toList ds gs before) :
    Calls Tryz.prog 5 args W fun e W' => ∃ v, e = .returned v ∧ Rows.storeCopiesSpec.post enc Tryz.prog Tryz.f5 false true false false W args v W' := by
  have hW' := hW
  obtain ⟨p, q, hA0, hV, rfl, _, _⟩ := hW
  have hA : DataW.TrodAll enc Tryz.prog W 0 (fun _ => true) true Tryz.f5.params.toList args.toList ds p := hA0
  rw [Tryz.params5] at hA hval
  obtain ⟨v0, v1, d0, d1, p0, p1, rfl, rfl, rfl, h0, h1⟩ := trodAll_two hA
  obtain ⟨rfl, rfl⟩ := trodVars_none hV
  obtain ⟨⟨k0, l0⟩, n0, ⟨b0, c0⟩, e0, f0⟩ := arg_struct (okWide_struct Tryz.underlying25 (hval 0 25 v0 rfl rfl)) h0 (fun n => dec_store n)
  obtain ⟨x1, rfl, rfl, rfl, _⟩ := open_int Tryz.underlying3 (hval 1 3 v1 rfl rfl) h1
  have hargs := VRL.append n0 ((VRL.cons (by simp only [VR]) VRL.nil : VRL (Rho.data W) [.int .i64 x1] [.int .i64 x1]))
  refine (law_calls (C := C) (by rfl) (fn := Tryz.f5) rfl rfl rfl (copies_law k0 l0 x1 c0 f0 b0 e0) hargs).mono fun e W' ⟨he, hk⟩ => ?_
  exact ⟨_, he, post_of_old laid (by rw [Tryz.params5]; kernel_rfl) rfl hW' (fun _ _ _ => trodAll_mk1 (shut_bool Tryz.underlying4 true)) rfl rfl hk (ok_one (by kernel_rfl) rfl (okWide_bool_mk Tryz.underlying4 true))⟩

/-! A world for the witness: the settled one, each listed variable holding what its initialiser lays. -/
mutual
def flat : DataW Unit → List Value
  | .lit (.int k n) => [.int k n]
  | .lit (.bool b) => [.bool b]
  | .lit (.string s) => [.string ⟨s.toArray⟩]
  | .agg l => flatAll l
  | _ => []
def flatAll : List (DataW Unit) → List Value
  | [] => []
  | d :: r => flat d ++ flatAll r
end
def turned0 (h : Array Obj) : Array Obj := h.modify 2 fun
  | .cells _ ty frozen => .cells (flat Rows.laid_unicode_utf8_acceptRanges).toArray ty frozen
  | o => o
def turned1 (h : Array Obj) : Array Obj := h.modify 1 fun
  | .cells _ ty frozen => .cells (flat Rows.laid_unicode_utf8_first).toArray ty frozen
  | o => o
noncomputable def laidWorld (os : Os) : World :=
  { World.holding Tryz.prog os ⟨#[], #[.agg #[.slice none 0 0, .slice none 0 0], .int .i64 0], []⟩ with heap := turned1 (turned0 ((World.holding Tryz.prog os ⟨#[], #[.agg #[.slice none 0 0, .slice none 0 0], .int .i64 0], []⟩).heap)) }
set_option maxRecDepth 100000 in
theorem laid_met (os : Os) : laidMet Tryz.prog Rows.storeCopiesRow.laid ((laidWorld os).forCall (fun _ _ => 0) ⟨#[], #[.agg #[.slice none 0 0, .slice none 0 0], .int .i64 0], []⟩).memory :=
  laidMet_of_run' 8 (by kernel_rfl) (by kernel_rfl)
theorem reads (os : Os) {H : Type} (enc : TypeId × Value → H) : ∃ places, DataW.whole enc Tryz.prog ((laidWorld os).forCall (fun _ _ => 0) ⟨#[], #[.agg #[.slice none 0 0, .slice none 0 0], .int .i64 0], []⟩).memory Tryz.f5.params.toList Rows.storeCopiesSpec.vars false (#[.agg #[.slice none 0 0, .slice none 0 0], .int .i64 0] : Array Value).toList 8 = some ([.agg [.nil, .nil], .lit (.int .i64 0)], [], places) :=
  ⟨[], by kernel_rfl⟩

set_option maxRecDepth 100000 in
theorem lifted (os : Os) (started : os.Started) (H : Type) (enc : TypeId × Value → H) (F : Stop.Interp) :
    ReturnsInHanded {} Tryz.checked os 5 .any ((OpenSpec.ofChange Rows.storeCopiesSpec).preRow enc Tryz.prog Tryz.f5 Rows.storeCopiesRow.domain false Rows.storeCopiesRow.laid) (((OpenSpec.ofChange Rows.storeCopiesSpec).at F).post enc Tryz.prog Tryz.f5 false true false false) := by
  obtain ⟨places, hx⟩ := reads os enc
  refine returnsInHanded_of_row (C := Tryz.checked) (s := OpenSpec.ofChange Rows.storeCopiesSpec) own started (by kernel_rfl) Tryz.func5
    (witness_row_at (enc := enc) (C := Tryz.checked) false (laidWorld os) #[.agg #[.slice none 0 0, .slice none 0 0], .int .i64 0] rfl (by kernel_rfl) (by kernel_rfl) (by kernel_rfl)
      (OpenSpec.preRow_of_cond 8 hx (by kernel_rfl) (fun k hk => by cases hk) (by kernel_rfl) (laid_met os))) ?_
  intro W base args ds gs before hval hW _ _ _ hL _ _
  exact contract H enc W base args ds gs before hval hW

theorem said : Rows.StoreCopiesSaid :=
  OpenClaim.holds_of_cond 5 Tryz.f5 rfl rfl rfl rfl rfl rfl rfl ⟨rfl, rfl, rfl, rfl, rfl⟩ rfl rfl rfl rfl rfl (by kernel_rfl) Tryz.func5 (by kernel_rfl)
    (of_decide_eq_true (by kernel_rfl)) (by unfold Func.isWrapper; first | (rw [if_pos (by decide +kernel)]; kernel_rfl) | (rw [if_neg (by decide +kernel)]; exact ⟨rfl, rfl⟩))
    (fun os started H enc _ F => by rw [OpenClaim.pre_eq_preRow]; exact lifted os started H enc F)

theorem plain (f : FuncId) (fn : Func) (hf : Tryz.pinned.checked.prog.funcNamed "klaxon/klaxonlaw6.StoreCopies" = some f) (hfn : Tryz.pinned.checked.prog.funcs[f]? = some fn) :
    false = Tryz.pinned.checked.prog.looks [] ∧ ∀ (j : Nat) t, fn.params[j]? = some t → Tryz.pinned.checked.prog.wantsStandIn t = false := by
  obtain rfl : f = 5 := Option.some.inj ((show Tryz.prog.funcNamed "klaxon/klaxonlaw6.StoreCopies" = some 5 by kernel_rfl).symm.trans hf) |>.symm
  obtain rfl : fn = Tryz.f5 := (Option.some.inj (Tryz.func5.symm.trans hfn)).symm
  refine ⟨by kernel_rfl, fun j t ht => ?_⟩
  rw [Tryz.params5] at ht
  match j with
  | 0 =>
    obtain rfl : t = 25 := by simpa using ht.symm
    show Tryz.prog.wantsStandIn 25 = false
    kernel_rfl
  | 1 =>
    obtain rfl : t = 3 := by simpa using ht.symm
    show Tryz.prog.wantsStandIn 3 = false
    kernel_rfl
  | j + 2 => simp at ht

theorem card : Rows.StoreCopiesCardSaid :=
  Claim7.holds_tied_plain_at .later [] _ _ _ _ said (fun _ h => by cases h) (by kernel_rfl) (fun _ h => by cases h) storeCopies_row_tie rfl ⟨rfl, rfl⟩ (by kernel_rfl) rfl plain (by kernel_rfl)

end Go.Proofs.YtlgofplbbmjdjaaGreatDoor.storeCopies
