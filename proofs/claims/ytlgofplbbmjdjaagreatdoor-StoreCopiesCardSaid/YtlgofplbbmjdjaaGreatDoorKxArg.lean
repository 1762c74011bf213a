/-
  What came in, read as structs of two or three fields; a struct handed over.
-/
import Derived.Test.YtlgofplbbmjdjaaGreatDoorBhArg
import Derived.Test.YtlgofplbbmjdjaaGreatDoorKxCp
namespace Go.Proofs.YtlgofplbbmjdjaaGreatDoor.BH.Kx
open Go.Proofs.YtlgofplbbmjdjaaGreatDoor.BH Go.Proofs.YtlgofplbbmjdjaaGreatDoor.BH.Rt Go.ChangeShapes Go.WideShapes
/-- A struct of two fields. -/
theorem dec_s2 {P : Program} {α β : Type} {t : TypeId} {f0 f1 : Field} {n0 n1 n : Nat} {e0 : α → List AV} {e1 : β → List AV} {g0 : α → Prop} {g1 : β → Prop} (ht : P.underlying t = some (.struct #[f0, f1]))
    (hc : P.cellsOf t = n0 + n1) (h0 : P.cellsOf f0.type = n0) (h1 : P.cellsOf f1.type = n1) (o0 : f0.offset = 0) (o1 : f1.offset = n0)
    (D0 : ∀ m, m < n → DecN P f0.type e0 g0 m) (D1 : ∀ m, m < n → DecN P f1.type e1 g1 m) :
    DecN P t (fun p : α × β => e0 p.1 ++ e1 p.2) (fun p => g0 p.1 ∧ g1 p.2) n := by
  intro H e' W held cs x hx
  obtain ⟨xs, m, hn, rfl, hl, hlen, hf⟩ := DataW.trod_struct ht hx
  match xs, hlen with
  | [y0, y1], _ =>
    have k0 := hf 0 f0 rfl
    have k1 := hf 1 f1 rfl
    rw [h0, o0] at k0; rw [h1, o1] at k1
    obtain ⟨a, a1, a2⟩ := D0 m (by omega) e' W held _ _ k0
    obtain ⟨b, b1, b2⟩ := D1 m (by omega) e' W held _ _ k1
    refine ⟨(a, b), ?_, a2, b2⟩
    have hcs : cs = (cs.drop 0).take n0 ++ (cs.drop n0).take n1 := by
      have e3 : (cs.drop n0).take n1 = cs.drop n0 := List.take_of_length_le (by rw [List.length_drop]; omega)
      rw [e3, List.drop_zero, List.take_append_drop]
    rw [hcs]
    exact VRL.append a1 b1
/-- A struct that is handed over. -/
theorem arg_struct {P : Program} {α : Type} {H : Type} {e' : TypeId × Value → H} {W : World} {held : Bool} {t : TypeId} {v : Value} {d : DataW H} {ps : List MemPlace} {enc : α → List AV} {good : α → Prop} (hs : ∃ cs, v = .agg cs ∧ cs.size = P.cellsOf t) (h : DataW.Trod e' P W 0 (fun _ => true) held t v d ps) (D : ∀ n, DecN P t enc good n) :
    ∃ a, VRL (Rho.data W) [.agg (enc a)] [v] ∧ good a := by
  obtain ⟨cs, rfl, _⟩ := hs
  obtain ⟨fuel, hf⟩ := h
  obtain ⟨a, h1, h2⟩ := D fuel e' W held _ _ hf
  exact ⟨a, VRL.cons (by simp only [VR]; exact ⟨cs, rfl, h1⟩) VRL.nil, h2⟩
end Go.Proofs.YtlgofplbbmjdjaaGreatDoor.BH.Kx
