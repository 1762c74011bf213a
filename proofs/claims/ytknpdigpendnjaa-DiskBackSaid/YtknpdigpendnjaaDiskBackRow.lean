/-
  DiskBack returns true at all bytes, cuts and rooms; what it is handed reads behind the call as it did before. No condition.
  The functions that it calls are walked one by one by facts; what a disk's calls come to is shown in plain Lean.
-/
import Derived.Test.YtknpdigpendnjaaRows
import Derived.Test.YtknpdigpendnjaaChecked
import Derived.Test.YtknpdigpendnjaaBhDk3
import Derived.Test.YtknpdigpendnjaaBhArg
namespace Go.Proofs.Ytknpdigpendnjaa.diskBack
open Go Go.Proofs Go.ChangeShapes Go.WideShapes Go.ChangeAt Go.RowKit Go.Proofs.Ytknpdigpendnjaa.BH Go.Proofs.Ytknpdigpendnjaa.BH.Dk Go.Proofs.Ytknpdigpendnjaa.dk

theorem own : ownKnob Try.prog.godebug = none := by kernel_rfl
theorem laid : laidOutB Try.prog = true := by kernel_rfl
theorem cells5 : Try.prog.cellsOf 5 = 1 := by kernel_rfl

theorem bytes_arg {H : Type} {e' : TypeId × Value → H} {W : World} {v : Value} {d : DataW H} {ps : List MemPlace} (hs : ∃ a len cap, v = .slice a len cap) (h : DataW.Trod e' Try.prog W 0 (fun _ => true) true 37 v d ps) : ∃ l : List UInt8, VRL (Rho.data W) [AL eB l] [v] ∧ l.length ≤ 9223372036854775807 := by
  obtain ⟨a, len, cap, rfl⟩ := hs
  obtain ⟨l, h1, h2⟩ := arg_one h (fun n => dec_slice Try.underlying37 cells5 (by decide) eB_len (fun _ => rfl) (fun m _ => dec_byte Try.underlying5 m)) (fun _ _ _ => rfl)
  exact ⟨l, h1, h2.2⟩

set_option maxRecDepth 100000 in
theorem lifted (os : Os) (started : os.Started) (H : Type) (enc : TypeId × Value → H) :
    ReturnsInHanded {} Try.checked os 10 .any (Rows.diskBackSpec.pre6 enc Try.prog Try.f10 Rows.diskBackRow.domain false) (Rows.diskBackSpec.post enc Try.prog Try.f10 false true false false) := by
  refine returnsInHanded_of_change (C := Try.checked) own started (by kernel_rfl) Try.func10
    (ChangeSpec.witness6 (enc := enc) (C := Try.checked) false ⟨#[], #[.slice none 0 0, .slice none 0 0, .int .i64 0, .int .i64 0, .int .i64 0], []⟩ 8 (by kernel_rfl) (by kernel_rfl) (by kernel_rfl) (by kernel_rfl)) ?_
  intro W base args ds gs before hval0 hW _ _
  have hval : ∀ (j : Nat) t v, Try.f10.params[j]? = some t → args[j]? = some v → Value.okWide Try.prog W .any base t v := hval0
  have hW' := hW
  obtain ⟨p, q, hA0, hV, rfl, _, _⟩ := hW
  have hA : DataW.TrodAll enc Try.prog W 0 (fun _ => true) true Try.f10.params.toList args.toList ds p := hA0
  rw [Try.params10] at hA hval
  obtain ⟨v0, v1, v2, v3, v4, d0, d1, d2, d3, d4, p0, p1, p2, p3, p4, rfl, rfl, rfl, h0, h1, h2, h3, h4⟩ := trodAll_five hA
  obtain ⟨rfl, rfl⟩ := trodVars_none hV
  obtain ⟨l0, n0, k0⟩ := bytes_arg (okWide_slice Try.underlying37 (hval 0 37 v0 rfl rfl)) h0
  obtain ⟨l1, n1, k1⟩ := bytes_arg (okWide_slice Try.underlying37 (hval 1 37 v1 rfl rfl)) h1
  obtain ⟨x2, rfl, rfl, rfl, _⟩ := open_int Try.underlying3 (hval 2 3 v2 rfl rfl) h2
  obtain ⟨x3, rfl, rfl, rfl, _⟩ := open_int Try.underlying3 (hval 3 3 v3 rfl rfl) h3
  obtain ⟨x4, rfl, rfl, rfl, _⟩ := open_int Try.underlying3 (hval 4 3 v4 rfl rfl) h4
  have hargs : VRL (Rho.data W) [AL eB l0, AL eB l1, .int .i64 x2, .int .i64 x3, .int .i64 x4] [v0, v1, .int .i64 x2, .int .i64 x3, .int .i64 x4] := VRL.append n0 (VRL.append n1 (VRL.cons (by simp only [VR]) (VRL.cons (by simp only [VR]) (VRL.cons (by simp only [VR]) VRL.nil))))
  refine (law_calls (C := C) (by rfl) (fn := Try.f10) rfl rfl rfl (back_law l0 l1 x2 x3 x4 k0 k1) hargs).mono fun e W' ⟨he, hk⟩ => ?_
  exact ⟨_, he, post_of_old laid (by rw [Try.params10]; kernel_rfl) rfl hW' (fun _ _ _ => trodAll_mk1 (shut_bool Try.underlying4 true)) rfl rfl hk (ok_one (by kernel_rfl) rfl (okWide_bool_mk Try.underlying4 true))⟩

theorem holds : Rows.DiskBackSaid :=
  OpenClaim.holds_of_wide 10 Try.f10 rfl rfl rfl rfl rfl rfl rfl ⟨rfl, rfl, rfl, rfl, rfl⟩ rfl rfl rfl rfl rfl (by kernel_rfl) Try.func10 (by kernel_rfl)
    (of_decide_eq_true (by kernel_rfl)) (by unfold Func.isWrapper; first | (rw [if_pos (by decide +kernel)]; kernel_rfl) | (rw [if_neg (by decide +kernel)]; exact ⟨rfl, rfl⟩))
    (fun os started H enc _ => lifted os started H enc)

end Go.Proofs.Ytknpdigpendnjaa.diskBack
