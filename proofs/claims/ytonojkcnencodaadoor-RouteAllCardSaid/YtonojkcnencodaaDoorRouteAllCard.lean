/-
  RouteAll returns true, in every world in which the variables that its row lists hold what the program's text lays; at any arguments. The tied card.
  The functions that it calls are walked one by one by facts; slices.Sort, slices.Compact, slices.Insert lean on the kit's shelf.
-/
import Derived.Test.YtonojkcnencodaaDoorCards
import Derived.Test.YtonojkcnencodaaDoorTie
import Derived.Deep.DeepHandedRow
import Derived.Lib.LaidTab
import Derived.Test.YtonojkcnencodaaDoorBhRtArg
import Derived.Test.YtonojkcnencodaaDoorBhRt8
namespace Go.Proofs.YtonojkcnencodaaDoor.routeAll
open Go.ChangeShapes Go.WideShapes Go.ChangeAt Go.RowKit Go.Proofs.YtonojkcnencodaaDoor.BH Go.Proofs.YtonojkcnencodaaDoor.BH.Rt Go.Proofs.YtonojkcnencodaaDoor.BH.Kx Go.Proofs.YtonojkcnencodaaDoor.rt

theorem own : ownKnob Tryd.prog.godebug = none := by kernel_rfl
theorem laid : laidOutB Tryd.prog = true := by kernel_rfl

theorem cells3 : Tryd.prog.cellsOf 3 = 1 := by kernel_rfl
theorem cells22 : Tryd.prog.cellsOf 22 = 1 := by kernel_rfl
theorem dec_li (n : Nat) : DecN Tryd.prog 22 (fun l => [AL eI l]) (fun l => l.length ≤ 9223372036854775807) n := by
  intro H e' W held cs x hx
  obtain ⟨l, h1, h2⟩ := dec_slice Tryd.underlying22 cells3 (by decide) (fun _ => rfl) (fun _ => rfl) (fun m _ => dec_int Tryd.underlying3 m) e' W held cs x hx
  exact ⟨l, h1, h2.2⟩
theorem cells30 : Tryd.prog.cellsOf 30 = 1 + 1 := by kernel_rfl
def KB (k : KS) : Prop := k.has.length ≤ 9223372036854775807 ∧ k.vals.length ≤ 9223372036854775807
theorem dec_ks (n : Nat) : DecN Tryd.prog 30 eKS KB n := by
  intro H e' W held cs x hx
  exact DecN.map (n := n) (dec_s2 Tryd.underlying30 cells30 cells22 cells22 rfl rfl (fun m _ => dec_li m) (fun m _ => dec_li m)) (enc' := eKS) (good' := KB) (fun p : List Int × List Int => (⟨p.1, p.2⟩ : KS)) (fun _ => rfl) (fun _ h => h) e' W held cs x hx
theorem kss_arg {H : Type} {e' : TypeId × Value → H} {W : World} {v : Value} {d : DataW H} {ps : List MemPlace} (hs : ∃ a len cap, v = .slice a len cap) (h : DataW.Trod e' Tryd.prog W 0 (fun _ => true) true 43 v d ps) : ∃ l : List KS, VRL (Rho.data W) [AL eKS l] [v] ∧ (∀ k ∈ l, KB k) ∧ l.length ≤ 9223372036854775807 := by
  obtain ⟨a, len, cap, rfl⟩ := hs
  obtain ⟨l, h1, h2⟩ := arg_one h (fun n => dec_slice Tryd.underlying43 cells30 (by decide) (fun _ => rfl) (fun _ => rfl) (fun m _ => dec_ks m)) (fun _ _ _ => rfl)
  exact ⟨l, h1, h2⟩
theorem cells24 : Tryd.prog.cellsOf 24 = 1 + 1 + 1 := by kernel_rfl
theorem dec_tree (n : Nat) : DecN Tryd.prog 24 (fun p : List Int × List Int × List Int => [AL eI p.1, AL eI p.2.1, AL eI p.2.2]) (fun p => p.1.length ≤ 9223372036854775807 ∧ p.2.1.length ≤ 9223372036854775807 ∧ p.2.2.length ≤ 9223372036854775807) n := by
  intro H e' W held cs x hx
  exact dec_s3 Tryd.underlying24 cells24 cells22 cells22 cells22 rfl rfl rfl (fun m _ => dec_li m) (fun m _ => dec_li m) (fun m _ => dec_li m) e' W held cs x hx

set_option maxRecDepth 100000 in
theorem contract (H : Type) (enc : TypeId × Value → H) (W : World) (base : Nat) (args : Array Value) (ds gs : List (DataW H)) (before : List MemPlace) (hval : ∀ (j : Nat) t v, Tryd.f4.params[j]? = some t → args[j]? = some v → Value.okWide Tryd.prog W .any base t v)
    (hW : DataW.Whole enc Tryd.prog Tryd.f4.params.toList Rows.routeAllSpec.vars false W args.toList ds gs before) :
    Calls Tryd.prog 4 args W fun e W' => ∃ v, e = .returned v ∧ Rows.routeAllSpec.post enc Tryd.prog Tryd.f4 false true false false W args v W' := by
  have hW' := hW
  obtain ⟨p, q, hA0, hV, rfl, _, _⟩ := hW
  have hA : DataW.TrodAll enc Tryd.prog W 0 (fun _ => true) true Tryd.f4.params.toList args.toList ds p := hA0
  rw [Tryd.params4] at hA hval
  obtain ⟨v0, v1, d0, d1, p0, p1, rfl, rfl, rfl, h0, h1⟩ := trodAll_two hA
  obtain ⟨rfl, rfl⟩ := trodVars_none hV
  obtain ⟨⟨k0, l0, m0⟩, n0, ⟨b0, c0, f0⟩⟩ := arg_struct (okWide_struct Tryd.underlying24 (hval 0 24 v0 rfl rfl)) h0 (fun n => dec_tree n)
  obtain ⟨l1, n1, b1, k1⟩ := kss_arg (okWide_slice Tryd.underlying43 (hval 1 43 v1 rfl rfl)) h1
  have hargs := VRL.append n0 (n1)
  refine (law_calls (C := C) (by rfl) (fn := Tryd.f4) rfl rfl rfl (all_law k0 l0 m0 l1 b0 c0 f0 k1 b1) hargs).mono fun e W' ⟨he, hk⟩ => ?_
  exact ⟨_, he, post_of_old laid (by rw [Tryd.params4]; kernel_rfl) rfl hW' (fun _ _ _ => trodAll_mk1 (shut_bool Tryd.underlying4 true)) rfl rfl hk (ok_one (by kernel_rfl) rfl (okWide_bool_mk Tryd.underlying4 true))⟩

/-! A world for the witness: the settled one, each listed variable holding what its initialiser lays. -/
mutual
def flat : DataW Unit → List Value
  | .lit (.int k n) => [.int k n]
  | .lit (.bool b) => [.bool b]
  | .lit (.string s) => [.string ⟨s.toArray⟩]
  | .agg l => flatAll l
  | _ => []
def flatAll : List (DataW Unit) → List Value
  | [] => []
  | d :: r => flat d ++ flatAll r
end
def turned0 (h : Array Obj) : Array Obj := h.modify 2 fun
  | .cells _ ty frozen => .cells (flat Rows.laid_unicode_utf8_acceptRanges).toArray ty frozen
  | o => o
def turned1 (h : Array Obj) : Array Obj := h.modify 1 fun
  | .cells _ ty frozen => .cells (flat Rows.laid_unicode_utf8_first).toArray ty frozen
  | o => o
noncomputable def laidWorld (os : Os) : World :=
  { World.holding Tryd.prog os ⟨#[], #[.agg #[.slice none 0 0, .slice none 0 0, .slice none 0 0], .slice none 0 0], []⟩ with heap := turned1 (turned0 ((World.holding Tryd.prog os ⟨#[], #[.agg #[.slice none 0 0, .slice none 0 0, .slice none 0 0], .slice none 0 0], []⟩).heap)) }
set_option maxRecDepth 100000 in
theorem laid_met (os : Os) : laidMet Tryd.prog Rows.routeAllRow.laid ((laidWorld os).forCall (fun _ _ => 0) ⟨#[], #[.agg #[.slice none 0 0, .slice none 0 0, .slice none 0 0], .slice none 0 0], []⟩).memory :=
  laidMet_of_run' 8 (by kernel_rfl) (by kernel_rfl)
theorem reads (os : Os) {H : Type} (enc : TypeId × Value → H) : ∃ places, DataW.whole enc Tryd.prog ((laidWorld os).forCall (fun _ _ => 0) ⟨#[], #[.agg #[.slice none 0 0, .slice none 0 0, .slice none 0 0], .slice none 0 0], []⟩).memory Tryd.f4.params.toList Rows.routeAllSpec.vars false (#[.agg #[.slice none 0 0, .slice none 0 0, .slice none 0 0], .slice none 0 0] : Array Value).toList 8 = some ([.agg [.nil, .nil, .nil], .nil], [], places) :=
  ⟨[], by kernel_rfl⟩

set_option maxRecDepth 100000 in
theorem lifted (os : Os) (started : os.Started) (H : Type) (enc : TypeId × Value → H) (F : Stop.Interp) :
    ReturnsInHanded {} Tryd.checked os 4 .any ((OpenSpec.ofChange Rows.routeAllSpec).preRow enc Tryd.prog Tryd.f4 Rows.routeAllRow.domain false Rows.routeAllRow.laid) (((OpenSpec.ofChange Rows.routeAllSpec).at F).post enc Tryd.prog Tryd.f4 false true false false) := by
  obtain ⟨places, hx⟩ := reads os enc
  refine returnsInHanded_of_row (C := Tryd.checked) (s := OpenSpec.ofChange Rows.routeAllSpec) own started (by kernel_rfl) Tryd.func4
    (witness_row_at (enc := enc) (C := Tryd.checked) false (laidWorld os) #[.agg #[.slice none 0 0, .slice none 0 0, .slice none 0 0], .slice none 0 0] rfl (by kernel_rfl) (by kernel_rfl) (by kernel_rfl)
      (OpenSpec.preRow_of_cond 8 hx (by kernel_rfl) (fun k hk => by cases hk) (by kernel_rfl) (laid_met os))) ?_
  intro W base args ds gs before hval hW _ _ _ hL _ _
  exact contract H enc W base args ds gs before hval hW

theorem said : Rows.RouteAllSaid :=
  OpenClaim.holds_of_cond 4 Tryd.f4 rfl rfl rfl rfl rfl rfl rfl ⟨rfl, rfl, rfl, rfl, rfl⟩ rfl rfl rfl rfl rfl (by kernel_rfl) Tryd.func4 (by kernel_rfl)
    (of_decide_eq_true (by kernel_rfl)) (by unfold Func.isWrapper; first | (rw [if_pos (by decide +kernel)]; kernel_rfl) | (rw [if_neg (by decide +kernel)]; exact ⟨rfl, rfl⟩))
    (fun os started H enc _ F => by rw [OpenClaim.pre_eq_preRow]; exact lifted os started H enc F)

theorem plain (f : FuncId) (fn : Func) (hf : Tryd.pinned.checked.prog.funcNamed "klaxon/klaxonlaw17.RouteAll" = some f) (hfn : Tryd.pinned.checked.prog.funcs[f]? = some fn) :
    false = Tryd.pinned.checked.prog.looks [] ∧ ∀ (j : Nat) t, fn.params[j]? = some t → Tryd.pinned.checked.prog.wantsStandIn t = false := by
  obtain rfl : f = 4 := Option.some.inj ((show Tryd.prog.funcNamed "klaxon/klaxonlaw17.RouteAll" = some 4 by kernel_rfl).symm.trans hf) |>.symm
  obtain rfl : fn = Tryd.f4 := (Option.some.inj (Tryd.func4.symm.trans hfn)).symm
  refine ⟨by kernel_rfl, fun j t ht => ?_⟩
  rw [Tryd.params4] at ht
  match j with
  | 0 =>
    obtain rfl : t = 24 := by simpa using ht.symm
    show Tryd.prog.wantsStandIn 24 = false
    kernel_rfl
  | 1 =>
    obtain rfl : t = 43 := by simpa using ht.symm
    show Tryd.prog.wantsStandIn 43 = false
    kernel_rfl
  | j + 2 => simp at ht

theorem card : Rows.RouteAllCardSaid :=
  Claim7.holds_tied_plain_at .later [] _ _ _ _ said (fun _ h => by cases h) (by kernel_rfl) (fun _ h => by cases h) routeAll_row_tie rfl ⟨rfl, rfl⟩ (by kernel_rfl) rfl plain (by kernel_rfl)

end Go.Proofs.YtonojkcnencodaaDoor.routeAll
