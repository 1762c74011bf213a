/-
  MailOrder returns true at any room and any number; what it is handed reads behind the call as it did before. No condition.
  The functions that it calls are walked one by one by facts; what a box's calls come to is shown in plain Lean.
-/
import Derived.Test.YtknpdigpendnjaaRows
import Derived.Test.YtknpdigpendnjaaChecked
import Derived.Test.YtknpdigpendnjaaBhMl3
import Derived.Test.YtknpdigpendnjaaBhArg
namespace Go.Proofs.Ytknpdigpendnjaa.mailOrder
open Go Go.Proofs Go.ChangeShapes Go.WideShapes Go.ChangeAt Go.RowKit Go.Proofs.Ytknpdigpendnjaa.BH Go.Proofs.Ytknpdigpendnjaa.BH.Ml Go.Proofs.Ytknpdigpendnjaa.ml

theorem own : ownKnob Try.prog.godebug = none := by kernel_rfl
theorem laid : laidOutB Try.prog = true := by kernel_rfl
set_option maxRecDepth 100000 in
theorem lifted (os : Os) (started : os.Started) (H : Type) (enc : TypeId × Value → H) :
    ReturnsInHanded {} Try.checked os 5 .any (Rows.mailOrderSpec.pre6 enc Try.prog Try.f5 Rows.mailOrderRow.domain false) (Rows.mailOrderSpec.post enc Try.prog Try.f5 false true false false) := by
  refine returnsInHanded_of_change (C := Try.checked) own started (by kernel_rfl) Try.func5
    (ChangeSpec.witness6 (enc := enc) (C := Try.checked) false ⟨#[], #[.int .i64 0, .int .i64 0], []⟩ 8 (by kernel_rfl) (by kernel_rfl) (by kernel_rfl) (by kernel_rfl)) ?_
  intro W base args ds gs before hval0 hW _ _
  have hval : ∀ (j : Nat) t v, Try.f5.params[j]? = some t → args[j]? = some v → Value.okWide Try.prog W .any base t v := hval0
  have hW' := hW
  obtain ⟨p, q, hA0, hV, rfl, _, _⟩ := hW
  have hA : DataW.TrodAll enc Try.prog W 0 (fun _ => true) true Try.f5.params.toList args.toList ds p := hA0
  rw [Try.params5] at hA hval
  obtain ⟨v0, v1, d0, d1, p0, p1, rfl, rfl, rfl, h0, h1⟩ := trodAll_two hA
  obtain ⟨rfl, rfl⟩ := trodVars_none hV
  obtain ⟨x0, rfl, rfl, rfl, _⟩ := open_int Try.underlying3 (hval 0 3 v0 rfl rfl) h0
  obtain ⟨x1, rfl, rfl, rfl, _⟩ := open_int Try.underlying3 (hval 1 3 v1 rfl rfl) h1
  have hargs : VRL (Rho.data W) [.int .i64 x0, .int .i64 x1] [.int .i64 x0, .int .i64 x1] := VRL.cons (by simp only [VR]) (VRL.cons (by simp only [VR]) VRL.nil)
  refine (law_calls (C := C) (by rfl) (fn := Try.f5) rfl rfl rfl (order_law x0 x1) hargs).mono fun e W' ⟨he, hk⟩ => ?_
  exact ⟨_, he, post_of_old laid (by rw [Try.params5]; kernel_rfl) rfl hW' (fun _ _ _ => trodAll_mk1 (shut_bool Try.underlying4 true)) rfl rfl hk (ok_one (by kernel_rfl) rfl (okWide_bool_mk Try.underlying4 true))⟩

theorem holds : Rows.MailOrderSaid :=
  OpenClaim.holds_of_wide 5 Try.f5 rfl rfl rfl rfl rfl rfl rfl ⟨rfl, rfl, rfl, rfl, rfl⟩ rfl rfl rfl rfl rfl (by kernel_rfl) Try.func5 (by kernel_rfl)
    (of_decide_eq_true (by kernel_rfl)) (by unfold Func.isWrapper; first | (rw [if_pos (by decide +kernel)]; kernel_rfl) | (rw [if_neg (by decide +kernel)]; exact ⟨rfl, rfl⟩))
    (fun os started H enc _ => lifted os started H enc)

end Go.Proofs.Ytknpdigpendnjaa.mailOrder
