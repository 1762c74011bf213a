/-
  SpanLaws returns true at all ticks and any spans; what it is handed reads behind the call as it did before. No condition.
  The functions that it calls are walked one by one; the laws of sets of ticks are shown in plain Lean.
-/
import Derived.Test.YtlejcjgbkbmdmaaRows
import Derived.Test.YtlejcjgbkbmdmaaSpLaws
import Derived.Test.YtlejcjgbkbmdmaaSpArgs
namespace Go.Proofs.Ytlejcjgbkbmdmaa.spanLaws
open Go.ChangeShapes Go.WideShapes Go.ChangeAt Go.RowKit Go.Proofs.Ytlejcjgbkbmdmaa.AH Go.Proofs.Ytlejcjgbkbmdmaa.span

set_option maxRecDepth 100000 in
theorem lifted (os : Os) (started : os.Started) (H : Type) (enc : TypeId × Value → H) :
    ReturnsInHanded {} Try.checked os 4 .any (Rows.spanLawsSpec.pre6 enc Try.prog Try.f4 Rows.spanLawsRow.domain false) (Rows.spanLawsSpec.post enc Try.prog Try.f4 false true false false) := by
  refine returnsInHanded_of_change (C := Try.checked) own started (by kernel_rfl) Try.func4
    (ChangeSpec.witness6 (enc := enc) (C := Try.checked) false ⟨#[], #[.slice none 0 0, .slice none 0 0, .slice none 0 0, .slice none 0 0], []⟩ 8 (by kernel_rfl) (by kernel_rfl) (by kernel_rfl) (by kernel_rfl)) ?_
  intro W base args ds gs before hval0 hW _ _
  have hval : ∀ (j : Nat) t v, Try.f4.params[j]? = some t → args[j]? = some v → Value.okWide Try.prog W .any base t v := hval0
  have hW' := hW
  obtain ⟨p, q, hA0, hV, rfl, _, _⟩ := hW
  have hA : DataW.TrodAll enc Try.prog W 0 (fun _ => true) true Try.f4.params.toList args.toList ds p := hA0
  rw [Try.params4] at hA hval
  obtain ⟨v0, v1, v2, v3, d0, d1, d2, d3, p0, p1, p2, p3, rfl, rfl, rfl, h0, h1, h2, h3⟩ := trodAll_four hA
  obtain ⟨rfl, rfl⟩ := trodVars_none hV
  obtain ⟨a0, l0, c0, rfl, n0, k0, m0⟩ := ints_arg (okWide_slice Try.underlying30 (hval 0 30 v0 rfl rfl)) h0
  obtain ⟨a1, l1, c1, rfl, n1, k1, m1⟩ := ints_arg (okWide_slice Try.underlying30 (hval 1 30 v1 rfl rfl)) h1
  obtain ⟨a2, l2, c2, rfl, n2, k2, m2⟩ := ints_arg (okWide_slice Try.underlying30 (hval 2 30 v2 rfl rfl)) h2
  obtain ⟨a3, l3, c3, rfl, n3, k3, m3⟩ := spans_arg (okWide_slice Try.underlying22 (hval 3 22 v3 rfl rfl)) h3
  refine (laws_walk a0 a1 a2 a3 l0 l1 l2 l3 c0 c1 c2 c3 W n0 n1 n2 n3 (by omega) (by omega) (by omega) k3 m3).mono fun e W' ⟨he, hk⟩ => ?_
  exact ⟨_, he, post_of_old laid (by rw [Try.params4]; kernel_rfl) rfl hW' (fun _ _ _ => trodAll_mk1 (shut_bool Try.underlying4 true)) rfl rfl hk (ok_one (by kernel_rfl) rfl (okWide_bool_mk Try.underlying4 true))⟩

theorem holds : Rows.SpanLawsSaid :=
  OpenClaim.holds_of_wide 4 Try.f4 rfl rfl rfl rfl rfl rfl rfl ⟨rfl, rfl, rfl, rfl, rfl⟩ rfl rfl rfl rfl rfl (by kernel_rfl) Try.func4 (by kernel_rfl)
    (of_decide_eq_true (by kernel_rfl)) (by unfold Func.isWrapper; first | (rw [if_pos (by decide +kernel)]; kernel_rfl) | (rw [if_neg (by decide +kernel)]; exact ⟨rfl, rfl⟩))
    (fun os started H enc _ => lifted os started H enc)

end Go.Proofs.Ytlejcjgbkbmdmaa.spanLaws
