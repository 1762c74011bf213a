/-
  MailRuns returns true, whatever the world that it is called in; it takes nothing. No condition.
  By the evaluator of this folder (AH), which is proved to tell what the model does: the run is reckoned by the kernel once.
-/
import Derived.Test.YtcabgmhgjajbgaaRows
import Derived.Test.YtcabgmhgjajbgaaAhLaw
namespace Go.Proofs.Ytcabgmhgjajbgaa.mailRuns
open Go.ChangeShapes Go.WideShapes Go.ChangeAt Go.RowKit Go.Proofs.Ytcabgmhgjajbgaa.AH

theorem own : ownKnob Try.prog.godebug = none := by kernel_rfl
theorem mixed : Try.prog.follows .mixedOrders = true := by kernel_rfl
theorem run : isTrue (callF Try.prog (regionF Try.prog) 100000 3 [] (AHeap.init 0)) = true := by kernel_rfl

set_option maxRecDepth 100000 in
theorem lifted (os : Os) (started : os.Started) (H : Type) (enc : TypeId × Value → H) :
    ReturnsInHanded {} Try.checked os 3 .any (Rows.mailRunsSpec.pre6 enc Try.prog Try.f3 Rows.mailRunsRow.domain false) (Rows.mailRunsSpec.post enc Try.prog Try.f3 false true false false) := by
  refine returnsInHanded_of_change (C := Try.checked) own started (by kernel_rfl) Try.func3
    (ChangeSpec.witness6 (enc := enc) (C := Try.checked) false ⟨#[], #[], []⟩ 8 (by kernel_rfl) (by kernel_rfl) (by kernel_rfl) (by kernel_rfl)) ?_
  intro W base args ds gs before _ hW _ _
  have hW' := hW
  obtain ⟨p, q, hA0, hV, rfl, hfz, hnd⟩ := hW
  have hA : DataW.TrodAll enc Try.prog W 0 (fun _ => true) true Try.f3.params.toList args.toList ds p := hA0
  rw [Try.params3] at hA
  obtain ⟨rfl, rfl, rfl⟩ := trodAll_none hA
  obtain ⟨rfl, rfl⟩ := trodVars_none hV
  refine (closed_calls mixed Try.func3 (by kernel_rfl) rfl run W).mono fun e W' ⟨he, hk⟩ => ?_
  exact ⟨_, he, post_of_kept (by rw [Try.params3]) rfl hW' (fun _ _ _ => trodAll_mk1 (shut_bool Try.underlying4 true)) rfl rfl hk (ok_one (by kernel_rfl) rfl (okWide_bool_mk Try.underlying4 true))⟩

theorem holds : Rows.MailRunsSaid :=
  OpenClaim.holds_of_wide 3 Try.f3 rfl rfl rfl rfl rfl rfl rfl ⟨rfl, rfl, rfl, rfl, rfl⟩ rfl rfl rfl rfl rfl (by kernel_rfl) Try.func3 (by kernel_rfl)
    (of_decide_eq_true (by kernel_rfl)) (by unfold Func.isWrapper; first | (rw [if_pos (by decide +kernel)]; kernel_rfl) | (rw [if_neg (by decide +kernel)]; exact ⟨rfl, rfl⟩))
    (fun os started H enc _ => lifted os started H enc)

end Go.Proofs.Ytcabgmhgjajbgaa.mailRuns
