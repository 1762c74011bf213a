/-
  MailPlays returns true at any room and any calls; what it is handed reads behind the call as it did before. No condition.
  The functions that it calls are walked one by one by facts; what a box's calls come to is shown in plain Lean.
-/
import Derived.Test.YtknpdigpendnjaaRows
import Derived.Test.YtknpdigpendnjaaChecked
import Derived.Test.YtknpdigpendnjaaBhMl4
import Derived.Test.YtknpdigpendnjaaBhArg
namespace Go.Proofs.Ytknpdigpendnjaa.mailPlays
open Go Go.Proofs Go.ChangeShapes Go.WideShapes Go.ChangeAt Go.RowKit Go.Proofs.Ytknpdigpendnjaa.BH Go.Proofs.Ytknpdigpendnjaa.BH.Ml Go.Proofs.Ytknpdigpendnjaa.ml

theorem own : ownKnob Try.prog.godebug = none := by kernel_rfl
theorem laid : laidOutB Try.prog = true := by kernel_rfl
theorem cells36 : Try.prog.cellsOf 36 = 1 + 1 := by kernel_rfl
theorem cells3 : Try.prog.cellsOf 3 = 1 := by kernel_rfl
/-- A struct of two fields. -/
theorem dec_s2 {P : Program} {α β : Type} {t : TypeId} {f0 f1 : Field} {n0 n1 n : Nat} {e0 : α → List AV} {e1 : β → List AV} {g0 : α → Prop} {g1 : β → Prop} (ht : P.underlying t = some (.struct #[f0, f1]))
    (hc : P.cellsOf t = n0 + n1) (h0 : P.cellsOf f0.type = n0) (h1 : P.cellsOf f1.type = n1) (o0 : f0.offset = 0) (o1 : f1.offset = n0)
    (D0 : ∀ m, m < n → DecN P f0.type e0 g0 m) (D1 : ∀ m, m < n → DecN P f1.type e1 g1 m) :
    DecN P t (fun p : α × β => e0 p.1 ++ e1 p.2) (fun p => g0 p.1 ∧ g1 p.2) n := by
  intro H e' W held cs x hx
  obtain ⟨xs, m, hn, rfl, hl, hlen, hf⟩ := DataW.trod_struct ht hx
  match xs, hlen with
  | [y0, y1], _ =>
    have k0 := hf 0 f0 rfl
    have k1 := hf 1 f1 rfl
    rw [h0, o0] at k0; rw [h1, o1] at k1
    obtain ⟨a, a1, a2⟩ := D0 m (by omega) e' W held _ _ k0
    obtain ⟨b, b1, b2⟩ := D1 m (by omega) e' W held _ _ k1
    refine ⟨(a, b), ?_, a2, b2⟩
    have hcs : cs = (cs.drop 0).take n0 ++ (cs.drop n0).take n1 := by
      have e3 : (cs.drop n0).take n1 = cs.drop n0 := List.take_of_length_le (by rw [List.length_drop]; omega)
      rw [e3, List.drop_zero, List.take_append_drop]
    rw [hcs]
    exact VRL.append a1 b1
theorem dec_ask (n : Nat) : DecN Try.prog 36 eQ (fun _ => True) n := by
  intro H e' W held cs x hx
  exact DecN.map (n := n) (dec_s2 Try.underlying36 cells36 cells3 cells3 rfl rfl (fun m _ => dec_int Try.underlying3 m) (fun m _ => dec_int Try.underlying3 m))
    (enc' := eQ) (good' := fun _ => True) (fun p : Int × Int => (⟨p.1, p.2⟩ : AskM)) (fun _ => rfl) (fun _ _ => trivial) e' W held cs x hx
theorem asks_arg {H : Type} {e' : TypeId × Value → H} {W : World} {v : Value} {d : DataW H} {ps : List MemPlace} (hs : ∃ a len cap, v = .slice a len cap) (h : DataW.Trod e' Try.prog W 0 (fun _ => true) true 32 v d ps) : ∃ l : List AskM, VRL (Rho.data W) [AL eQ l] [v] ∧ l.length ≤ 9223372036854775807 := by
  obtain ⟨a, len, cap, rfl⟩ := hs
  obtain ⟨l, h1, h2⟩ := arg_one h (fun n => dec_slice Try.underlying32 cells36 (by decide) (fun _ => rfl) (fun _ => rfl) (fun m _ => dec_ask m)) (fun _ _ _ => rfl)
  exact ⟨l, h1, h2.2⟩

set_option maxRecDepth 100000 in
theorem lifted (os : Os) (started : os.Started) (H : Type) (enc : TypeId × Value → H) :
    ReturnsInHanded {} Try.checked os 4 .any (Rows.mailPlaysSpec.pre6 enc Try.prog Try.f4 Rows.mailPlaysRow.domain false) (Rows.mailPlaysSpec.post enc Try.prog Try.f4 false true false false) := by
  refine returnsInHanded_of_change (C := Try.checked) own started (by kernel_rfl) Try.func4
    (ChangeSpec.witness6 (enc := enc) (C := Try.checked) false ⟨#[], #[.int .i64 0, .slice none 0 0], []⟩ 8 (by kernel_rfl) (by kernel_rfl) (by kernel_rfl) (by kernel_rfl)) ?_
  intro W base args ds gs before hval0 hW _ _
  have hval : ∀ (j : Nat) t v, Try.f4.params[j]? = some t → args[j]? = some v → Value.okWide Try.prog W .any base t v := hval0
  have hW' := hW
  obtain ⟨p, q, hA0, hV, rfl, _, _⟩ := hW
  have hA : DataW.TrodAll enc Try.prog W 0 (fun _ => true) true Try.f4.params.toList args.toList ds p := hA0
  rw [Try.params4] at hA hval
  obtain ⟨v0, v1, d0, d1, p0, p1, rfl, rfl, rfl, h0, h1⟩ := trodAll_two hA
  obtain ⟨rfl, rfl⟩ := trodVars_none hV
  obtain ⟨x0, rfl, rfl, rfl, _⟩ := open_int Try.underlying3 (hval 0 3 v0 rfl rfl) h0
  obtain ⟨l1, n1, k1⟩ := asks_arg (okWide_slice Try.underlying32 (hval 1 32 v1 rfl rfl)) h1
  have hargs : VRL (Rho.data W) [.int .i64 x0, AL eQ l1] [.int .i64 x0, v1] := VRL.cons (by simp only [VR]) n1
  refine (law_calls (C := C) (by rfl) (fn := Try.f4) rfl rfl rfl (plays_law x0 l1 k1) hargs).mono fun e W' ⟨he, hk⟩ => ?_
  exact ⟨_, he, post_of_old laid (by rw [Try.params4]; kernel_rfl) rfl hW' (fun _ _ _ => trodAll_mk1 (shut_bool Try.underlying4 true)) rfl rfl hk (ok_one (by kernel_rfl) rfl (okWide_bool_mk Try.underlying4 true))⟩

theorem holds : Rows.MailPlaysSaid :=
  OpenClaim.holds_of_wide 4 Try.f4 rfl rfl rfl rfl rfl rfl rfl ⟨rfl, rfl, rfl, rfl, rfl⟩ rfl rfl rfl rfl rfl (by kernel_rfl) Try.func4 (by kernel_rfl)
    (of_decide_eq_true (by kernel_rfl)) (by unfold Func.isWrapper; first | (rw [if_pos (by decide +kernel)]; kernel_rfl) | (rw [if_neg (by decide +kernel)]; exact ⟨rfl, rfl⟩))
    (fun os started H enc _ => lifted os started H enc)

end Go.Proofs.Ytknpdigpendnjaa.mailPlays
