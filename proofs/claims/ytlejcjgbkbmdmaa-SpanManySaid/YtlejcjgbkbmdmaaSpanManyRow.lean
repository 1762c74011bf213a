/-
  SpanMany returns true at all ticks and all cuts; what it is handed reads behind the call as it did before. No condition.
  The functions that it calls are walked one by one by facts; that spans of ticks in any order, in parts joined, are the same, and that counts add up, is shown in plain Lean.
-/
import Derived.Test.YtlejcjgbkbmdmaaRows
import Derived.Test.YtlejcjgbkbmdmaaChecked
import Derived.Test.YtlejcjgbkbmdmaaBhSp4
import Derived.Test.YtlejcjgbkbmdmaaBhArg
namespace Go.Proofs.Ytlejcjgbkbmdmaa.spanMany
open Go Go.Proofs Go.ChangeShapes Go.WideShapes Go.ChangeAt Go.RowKit Go.Proofs.Ytlejcjgbkbmdmaa.BH Go.Proofs.Ytlejcjgbkbmdmaa.BH.Sp Go.Proofs.Ytlejcjgbkbmdmaa.sp

theorem own : ownKnob Try.prog.godebug = none := by kernel_rfl
theorem laid : laidOutB Try.prog = true := by kernel_rfl
theorem cells3 : Try.prog.cellsOf 3 = 1 := by kernel_rfl

theorem ints_arg {H : Type} {e' : TypeId × Value → H} {W : World} {v : Value} {d : DataW H} {ps : List MemPlace} (hs : ∃ a len cap, v = .slice a len cap) (h : DataW.Trod e' Try.prog W 0 (fun _ => true) true 30 v d ps) : ∃ l : List Int, VRL (Rho.data W) [AL eI l] [v] ∧ l.length ≤ 9223372036854775807 := by
  obtain ⟨a, len, cap, rfl⟩ := hs
  obtain ⟨l, h1, h2⟩ := arg_one h (fun n => dec_slice Try.underlying30 cells3 (by decide) eI_len (fun _ => rfl) (fun m _ => dec_int Try.underlying3 m)) (fun _ _ _ => rfl)
  exact ⟨l, h1, h2.2⟩

set_option maxRecDepth 100000 in
theorem lifted (os : Os) (started : os.Started) (H : Type) (enc : TypeId × Value → H) :
    ReturnsInHanded {} Try.checked os 5 .any (Rows.spanManySpec.pre6 enc Try.prog Try.f5 Rows.spanManyRow.domain false) (Rows.spanManySpec.post enc Try.prog Try.f5 false true false false) := by
  refine returnsInHanded_of_change (C := Try.checked) own started (by kernel_rfl) Try.func5
    (ChangeSpec.witness6 (enc := enc) (C := Try.checked) false ⟨#[], #[.slice none 0 0, .slice none 0 0, .int .i64 0], []⟩ 8 (by kernel_rfl) (by kernel_rfl) (by kernel_rfl) (by kernel_rfl)) ?_
  intro W base args ds gs before hval0 hW _ _
  have hval : ∀ (j : Nat) t v, Try.f5.params[j]? = some t → args[j]? = some v → Value.okWide Try.prog W .any base t v := hval0
  have hW' := hW
  obtain ⟨p, q, hA0, hV, rfl, _, _⟩ := hW
  have hA : DataW.TrodAll enc Try.prog W 0 (fun _ => true) true Try.f5.params.toList args.toList ds p := hA0
  rw [Try.params5] at hA hval
  obtain ⟨v0, v1, v2, d0, d1, d2, p0, p1, p2, rfl, rfl, rfl, h0, h1, h2⟩ := trodAll_three hA
  obtain ⟨rfl, rfl⟩ := trodVars_none hV
  obtain ⟨l0, n0, k0⟩ := ints_arg (okWide_slice Try.underlying30 (hval 0 30 v0 rfl rfl)) h0
  obtain ⟨l1, n1, k1⟩ := ints_arg (okWide_slice Try.underlying30 (hval 1 30 v1 rfl rfl)) h1
  obtain ⟨x2, rfl, rfl, rfl, _⟩ := open_int Try.underlying3 (hval 2 3 v2 rfl rfl) h2
  have hargs : VRL (Rho.data W) [AL eI l0, AL eI l1, .int .i64 x2] [v0, v1, .int .i64 x2] := VRL.append n0 (VRL.append n1 (VRL.cons (by simp only [VR]) VRL.nil))
  refine (law_calls (C := C) (by rfl) (fn := Try.f5) rfl rfl rfl (many_fn l0 l1 x2 k0 k1) hargs).mono fun e W' ⟨he, hk⟩ => ?_
  exact ⟨_, he, post_of_old laid (by rw [Try.params5]; kernel_rfl) rfl hW' (fun _ _ _ => trodAll_mk1 (shut_bool Try.underlying4 true)) rfl rfl hk (ok_one (by kernel_rfl) rfl (okWide_bool_mk Try.underlying4 true))⟩

theorem holds : Rows.SpanManySaid :=
  OpenClaim.holds_of_wide 5 Try.f5 rfl rfl rfl rfl rfl rfl rfl ⟨rfl, rfl, rfl, rfl, rfl⟩ rfl rfl rfl rfl rfl (by kernel_rfl) Try.func5 (by kernel_rfl)
    (of_decide_eq_true (by kernel_rfl)) (by unfold Func.isWrapper; first | (rw [if_pos (by decide +kernel)]; kernel_rfl) | (rw [if_neg (by decide +kernel)]; exact ⟨rfl, rfl⟩))
    (fun os started H enc _ => lifted os started H enc)

end Go.Proofs.Ytlejcjgbkbmdmaa.spanMany
