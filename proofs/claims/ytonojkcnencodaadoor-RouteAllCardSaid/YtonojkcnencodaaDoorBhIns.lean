/-
  slices.Insert of one element into a slice of our own: where there is room (told by a walk of the world), and where there is none (told by a call).
-/
import Derived.Test.YtonojkcnencodaaDoorBhW18
import Derived.Laws.IdiomCopy
namespace Go.Proofs.YtonojkcnencodaaDoor.BH
open Go Go.RowKit
set_option maxRecDepth 10000
theorem ones {ρ : Rho} {l : List AV} {m : List Value} (h : VRL ρ l m) (hs : l.all AV.scalar = true) : ∀ v ∈ m, v.oneCell' = true := by
  intro v hv
  obtain ⟨i, hi⟩ := List.getElem?_of_mem hv
  have hi' : i < l.length := by rw [← h.length]; exact (List.getElem?_eq_some_iff.mp hi).1
  obtain ⟨u, h1, h2⟩ := h.get (List.getElem?_eq_getElem hi')
  rw [hi] at h1; cases h1
  exact h2.oneCell (List.all_eq_true.mp hs _ (List.getElem_mem hi'))

end Go.Proofs.YtonojkcnencodaaDoor.BH
