/-
  BH: from a run of the evaluator to a row: a law that takes nothing.
-/
import Derived.Test.YtlgofplbbmjdjaaGreatDoorBhDraw3
import Derived.ProofKit
namespace Go.Proofs.YtlgofplbbmjdjaaGreatDoor.BH
open Go.ChangeShapes Go.WideShapes Go.ChangeAt Go.RowKit

def isTrue : Option (AV × AHeap) → Bool
  | some (.bool true, _) => true
  | _ => false

/-- What a call may leave behind, where it is handed nothing. -/
structure Kept (W W' : World) : Prop where
  kept : W.keptBut W' (fun _ => False)
  size : W.heap.size ≤ W'.heap.size
  frozen : ∀ a, a.block < W.heap.size → W'.frozen? a = W.frozen? a

theorem HRel.init (n : Nat) (W : World) : HRel Rho.zero (AHeap.init n) W where
  objs := by
    intro o x hx
    have : (AHeap.init n).get o = none := by
      unfold AHeap.init AHeap.get
      simp [T.get_leaf]
    rw [this] at hx; cases hx
  inj := by
    intro o o' x x' c c' hx
    have : (AHeap.init n).get o = none := by
      unfold AHeap.init AHeap.get
      simp [T.get_leaf]
    rw [this] at hx; cases hx
  fresh := fun _ _ => rfl
  rets := by
    intro b x hb
    rcases hb with hb | hb <;> cases hb
  fixed := by
    intro o x c hx hf hc
    cases hc

theorem Trans.keeps {n : Nat} {W W' : World} {ρ' : Rho} {h' : AHeap} (T : Trans Rho.zero (AHeap.init n) W ρ' h' W') : Kept W W' := by
  have same : ∀ b, b < W.heap.size → W'.heap[b]? = W.heap[b]? := fun b hb => T.kept b hb fun o x c _ _ hc => by cases hc
  refine ⟨⟨T.os, T.outp, fun i hi => ?_⟩, T.size, fun a ha => ?_⟩
  · rw [same i hi]
    split
    · rename_i c t fr c' t' fr' h1 h2
      rw [h1] at h2; cases h2
      exact ⟨rfl, rfl, rfl, fun _ _ => rfl⟩
    · rename_i es cl es' cl' h1 h2
      rw [h1] at h2; cases h2
      exact .inr ⟨rfl, rfl⟩
    · rfl
  · unfold World.frozen?
    rw [same _ ha]

end Go.Proofs.YtlgofplbbmjdjaaGreatDoor.BH
