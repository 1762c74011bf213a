/-
  DiskPlays returns true at any room and any calls; what it is handed reads behind the call as it did before. No condition.
  The functions that it calls are walked one by one by facts; what a disk's calls come to is shown in plain Lean.
-/
import Derived.Test.YtknpdigpendnjaaRows
import Derived.Test.YtknpdigpendnjaaChecked
import Derived.Test.YtknpdigpendnjaaBhDk5
import Derived.Test.YtknpdigpendnjaaBhArg
namespace Go.Proofs.Ytknpdigpendnjaa.diskPlays
open Go Go.Proofs Go.ChangeShapes Go.WideShapes Go.ChangeAt Go.RowKit Go.Proofs.Ytknpdigpendnjaa.BH Go.Proofs.Ytknpdigpendnjaa.BH.Dk Go.Proofs.Ytknpdigpendnjaa.dk

theorem own : ownKnob Try.prog.godebug = none := by kernel_rfl
theorem laid : laidOutB Try.prog = true := by kernel_rfl
theorem cells5 : Try.prog.cellsOf 5 = 1 := by kernel_rfl

theorem cells56 : Try.prog.cellsOf 56 = 1 + 1 + 1 + 1 := by kernel_rfl
theorem cells3 : Try.prog.cellsOf 3 = 1 := by kernel_rfl
theorem cells37 : Try.prog.cellsOf 37 = 1 := by kernel_rfl
theorem dec_ask (n : Nat) : DecN Try.prog 56 eAsk AskOk n := by
  have hb : ∀ m, DecN Try.prog 37 (fun l => [AL eB l]) (fun l => (∀ x ∈ l, True) ∧ l.length ≤ 9223372036854775807) m := fun m => dec_slice Try.underlying37 cells5 (by decide) eB_len (fun _ => rfl) (fun m _ => dec_byte Try.underlying5 m)
  intro H e' W held cs x hx
  exact DecN.map (n := n) (dec_s4 Try.underlying56 cells56 cells3 cells3 cells37 cells37 rfl rfl rfl rfl (fun m _ => dec_int Try.underlying3 m) (fun m _ => dec_int Try.underlying3 m) (fun m _ => hb m) (fun m _ => hb m))
    (enc' := eAsk) (good' := AskOk) (fun p : Int × Int × List UInt8 × List UInt8 => (⟨p.1, p.2.1, p.2.2.1, p.2.2.2⟩ : AskD)) (fun _ => rfl) (fun p h => ⟨h.2.1.1, h.2.1.2, h.2.2.1.2, h.2.2.2.2⟩) e' W held cs x hx
theorem asks_arg {H : Type} {e' : TypeId × Value → H} {W : World} {v : Value} {d : DataW H} {ps : List MemPlace} (hs : ∃ a len cap, v = .slice a len cap) (h : DataW.Trod e' Try.prog W 0 (fun _ => true) true 54 v d ps) : ∃ l : List AskD, VRL (Rho.data W) [AL eAsk l] [v] ∧ l.length ≤ 9223372036854775807 ∧ ∀ q ∈ l, AskOk q := by
  obtain ⟨a, len, cap, rfl⟩ := hs
  obtain ⟨l, h1, h2⟩ := arg_one h (fun n => dec_slice Try.underlying54 cells56 (by decide) (fun _ => rfl) (fun _ => rfl) (fun m _ => dec_ask m)) (fun _ _ _ => rfl)
  exact ⟨l, h1, h2.2, h2.1⟩

set_option maxRecDepth 100000 in
theorem lifted (os : Os) (started : os.Started) (H : Type) (enc : TypeId × Value → H) :
    ReturnsInHanded {} Try.checked os 9 .any (Rows.diskPlaysSpec.pre6 enc Try.prog Try.f9 Rows.diskPlaysRow.domain false) (Rows.diskPlaysSpec.post enc Try.prog Try.f9 false true false false) := by
  refine returnsInHanded_of_change (C := Try.checked) own started (by kernel_rfl) Try.func9
    (ChangeSpec.witness6 (enc := enc) (C := Try.checked) false ⟨#[], #[.int .i64 0, .slice none 0 0], []⟩ 8 (by kernel_rfl) (by kernel_rfl) (by kernel_rfl) (by kernel_rfl)) ?_
  intro W base args ds gs before hval0 hW _ _
  have hval : ∀ (j : Nat) t v, Try.f9.params[j]? = some t → args[j]? = some v → Value.okWide Try.prog W .any base t v := hval0
  have hW' := hW
  obtain ⟨p, q, hA0, hV, rfl, _, _⟩ := hW
  have hA : DataW.TrodAll enc Try.prog W 0 (fun _ => true) true Try.f9.params.toList args.toList ds p := hA0
  rw [Try.params9] at hA hval
  obtain ⟨v0, v1, d0, d1, p0, p1, rfl, rfl, rfl, h0, h1⟩ := trodAll_two hA
  obtain ⟨rfl, rfl⟩ := trodVars_none hV
  obtain ⟨x0, rfl, rfl, rfl, _⟩ := open_int Try.underlying3 (hval 0 3 v0 rfl rfl) h0
  obtain ⟨l1, n1, k1, k2⟩ := asks_arg (okWide_slice Try.underlying54 (hval 1 54 v1 rfl rfl)) h1
  have hargs : VRL (Rho.data W) [.int .i64 x0, AL eAsk l1] [.int .i64 x0, v1] := VRL.cons (by simp only [VR]) n1
  refine (law_calls (C := C) (by rfl) (fn := Try.f9) rfl rfl rfl (plays_law x0 l1 k1 k2) hargs).mono fun e W' ⟨he, hk⟩ => ?_
  exact ⟨_, he, post_of_old laid (by rw [Try.params9]; kernel_rfl) rfl hW' (fun _ _ _ => trodAll_mk1 (shut_bool Try.underlying4 true)) rfl rfl hk (ok_one (by kernel_rfl) rfl (okWide_bool_mk Try.underlying4 true))⟩

theorem holds : Rows.DiskPlaysSaid :=
  OpenClaim.holds_of_wide 9 Try.f9 rfl rfl rfl rfl rfl rfl rfl ⟨rfl, rfl, rfl, rfl, rfl⟩ rfl rfl rfl rfl rfl (by kernel_rfl) Try.func9 (by kernel_rfl)
    (of_decide_eq_true (by kernel_rfl)) (by unfold Func.isWrapper; first | (rw [if_pos (by decide +kernel)]; kernel_rfl) | (rw [if_neg (by decide +kernel)]; exact ⟨rfl, rfl⟩))
    (fun os started H enc _ => lifted os started H enc)

end Go.Proofs.Ytknpdigpendnjaa.diskPlays
