/-
  BH: walking by facts: short words for what the walks say again and again.
-/
import Derived.Test.YtonojkcnencodaaDoorBhW10
namespace Go.Proofs.YtonojkcnencodaaDoor.BH
noncomputable section

theorem tk {HF HR : List HI} {i : HI} (h : Take HF i HR := by first | exact .head | exact .tail .head | exact .tail (.tail .head) | exact .tail (.tail (.tail .head)) | exact .tail (.tail (.tail (.tail .head))) | exact .tail (.tail (.tail (.tail (.tail .head)))) | exact .tail (.tail (.tail (.tail (.tail (.tail .head)))))) : Take HF i HR := h
theorem dn {cs : List AV} (h : cs.all doneV = true := by first | exact tab_done _ _ | exact flat_done (by intro _; rfl) _ | rfl | assumption) : cs.all doneV = true := h
theorem ln {α : Type} {l : List α} {k : Nat} (h : l.length = k := by first | exact tab_length _ _ | exact flat_length (by intro _; rfl) _ | exact (flat_length (s := 1) (by intro _; rfl) _).trans (by simp only [*]) | exact (flat_length (s := 2) (by intro _; rfl) _).trans (by simp only [*]) | exact (flat_length (s := 3) (by intro _; rfl) _).trans (by simp only [*]) | exact (flat_length (s := 4) (by intro _; rfl) _).trans (by simp only [*]) | exact (flat_length (s := 5) (by intro _; rfl) _).trans (by simp only [*]) | exact (flat_length (s := 6) (by intro _; rfl) _).trans (by simp only [*]) | rfl) : l.length = k := h
/-- What a call is handed. -/
theorem fz {keep : Bool} {f : Nat} {HF HF' : List HI} {v v' : AV} (h : FrzR keep f HF v v' HF' := by first | exact .closed rfl | exact .nil | exact .ownV rfl tk dn | exact .objV rfl tk ln dn | exact .ownK rfl tk dn | exact .objK rfl (by omega) tk ln dn | exact .ptr tk dn) : FrzR keep f HF v v' HF' := h
/-- What a function returns. -/
theorem fr {keep : Bool} {f : Nat} {HF HF' : List HI} {v v' : AV} (h : FrzR keep f HF v v' HF' := by first | exact .closed rfl | exact .nil | exact .ownK rfl tk dn | exact .objK rfl (by omega) tk ln dn) : FrzR keep f HF v v' HF' := h
theorem rdp {cs : List AV} {i : Nat} {v : AV} (h : cs[i]? = some v := by first | exact tab_getP (by omega) | exact flat_getP0 (by intro _; rfl) (by assumption) (by first | rfl | omega) (by decide) rfl | exact flat_getP (by intro _; rfl) (by assumption) (by first | rfl | omega) (by decide) rfl | rfl) : cs[i]? = some v := h
theorem rdc {cs : List AV} {i : Nat} {v : AV} (h : cs[i]? = some v := by first | exact tab_getL (by omega) | exact tab_getP (by omega) | exact flat_getI0 (by intro _; rfl) (by assumption) (by first | rfl | omega) (by decide) rfl | exact flat_getI (by intro _; rfl) (by assumption) (by first | rfl | omega) (by decide) rfl | rfl) : cs[i]? = some v := h
theorem ovw {cs vs cs' : List AV} {i : Nat} (h : over cs i vs = some cs' := by first | exact tab_setP (by omega) | exact flat_setP (off := 0) (by intro _; rfl) (by assumption) (by first | rfl | omega) rfl | exact flat_setP (off := 1) (by intro _; rfl) (by assumption) (by first | rfl | omega) rfl | rfl) : over cs i vs = some cs' := h
theorem agc {cs l : List AV} {i k : Nat} (h : slots cs i k = some l := by first | exact flat_aggs (by intro _; rfl) (by assumption) | exact flat_aggsI (by intro _; rfl) (by assumption) (by first | rfl | omega) | rfl) : slots cs i k = some l := h
theorem agp {cs l : List AV} {i k : Nat} (h : slots cs i k = some l := by first | exact flat_aggsP (by intro _; rfl) (by assumption) (by first | rfl | omega) | rfl) : slots cs i k = some l := h
theorem nw {size k : Nat} {HF : List HI} {a : AV} {new : List AV} (h : NewR size HF a k new := by first | exact new_obj tk rfl rfl | exact new_flat (by intro _; rfl) (by intro _; rfl) | exact new_own tk (flat_length (by intro _; rfl) _) (flat_scalar (by intro _; rfl) _) | exact new_lst rfl rfl) : NewR size HF a k new := h
end
end Go.Proofs.YtonojkcnencodaaDoor.BH
