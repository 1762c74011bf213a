/-
  slices.Insert where there is room.
-/
import Derived.Test.YtlgofplbbmjdjaaGreatDoorBhW19
import Derived.Test.YtlgofplbbmjdjaaGreatDoorProg
import Derived.Shelf.Spec.SlicesInsert
namespace Go.Proofs
open Go.Shelf Go.RowKit Go.Lib
set_option maxRecDepth 100000
set_option maxHeartbeats 4000000 in
theorem Tryz.insert_one (b off n c i vb voff vc : Nat) (cs vs : List Value) (w : World) (hi : i < n) (hroom : n + 1 ≤ c) (hn : n ≤ 1000000) (hvb : vb ≠ b) (hcl : cs.length = n * 2) (hvl : vs.length = 2)
    (hcs : ∀ j v, cs[j]? = some v → w.cell? ⟨b, off + j, none⟩ = some v) (hsp : ∀ j, j < (n + 1) * 2 → (w.cell? ⟨b, off + j, none⟩).isSome = true) (hfz : ∀ j, j < (n + 1) * 2 → w.frozen? ⟨b, off + j, none⟩ = false)
    (hvs : ∀ j v, vs[j]? = some v → w.cell? ⟨vb, voff + j, none⟩ = some v) (h1c : ∀ v ∈ cs, v.oneCell' = true) (h1v : ∀ v ∈ vs, v.oneCell' = true)
    (tA tB : TypeId) (kA kB : Nat) (hsa : w.shape? vb = some (tA, kA)) (hsb : w.shape? b = some (tB, kB)) (hkB : kB ≠ 0) (hfa : w.frozen? ⟨vb, voff, none⟩ = false) (hfe : w.frozen? ⟨vb, kA, none⟩ = false) :
    Calls Tryz.prog 42 #[.slice (some ⟨b, off, none⟩) n c, .int .i64 i, .slice (some ⟨vb, voff, none⟩) 1 vc] w fun e w' =>
      e = .returned (.slice (some ⟨b, off, none⟩) (n + 1) c) ∧ w' = (w.drew.setCells b (off + (i + 1) * 2) (cs.drop (i * 2))).setCells b (off + i * 2) vs := by
  have mixed : Tryz.prog.follows .mixedOrders = true := by kernel_rfl
  have hz2 : ¬ ((i : Int) = (n : Int)) := by omega
  have hsz : (Tryz.prog.info? 104).map (·.size) = some 2 := by kernel_rfl
  have hov : ∀ lb cb, (callFunc 80 #[.slice (some ⟨vb, voff, none⟩) 1 vc, .slice (some ⟨b, off + (i + 1) * 2, none⟩) lb cb]).run Tryz.prog w = .ok (.value (.bool false)) w := fun lb cb => by
    rw [run_callFunc_extern Tryz.func80 (by kernel_rfl) (by kernel_rfl) (by kernel_rfl) (e := Extern.SlicesOverlaps.overlaps #[90, 90] #[4]) (by kernel_rfl),
      Lib.run_overlaps_apart w 90 4 104 Tryz.underlying90 2 Tryz.sizeOf104 ⟨vb, voff, none⟩ ⟨b, off + (i + 1) * 2, none⟩ 1 vc lb cb hvb tA tB kA kB hsa hsb hkB hfa hfe]
    rfl
  have hdl : (cs.drop (i * 2)).length = n * 2 - i * 2 := by rw [List.length_drop, hcl]
  have hw1 : IntKind.i64.wrap ((i : Int) + 1) = (i : Int) + 1 := by rw [IntKind.wrap_i64]; omega
  have hw2 : IntKind.i64.wrap ((n : Int) + 1) = (n : Int) + 1 := by rw [IntKind.wrap_i64]; omega
  have hb1 : (0 : Int) ≤ (i : Int) + 1 := by omega
  have hb1' : (0 : Int) ≤ (n : Int) + 1 := by omega
  have hin : i ≤ n := by omega
  have htn : ((i : Int) + 1).toNat = i + 1 := by omega
  have htn2 : ((n : Int) + 1).toNat = n + 1 := by omega
  have hb2 : ¬ (c = i + 1) := by omega
  have hb3 : (i : Int) ≤ (n : Int) + 1 := by omega
  have hb4 : ¬ (c = i) := by omega
  have hb5 : (i : Int) + 1 ≤ (n : Int) + 1 := by omega
  have hb6 : (n : Int) + 1 ≤ (c : Int) := by omega
  have hb7 : n + 1 ≤ c := hroom
  have hcp1 : ∀ ty dc sc, (Builtin.copy_ #[90, 90] ty #[.slice (some ⟨b, off + (i + 1) * 2, none⟩) (n - i) dc, .slice (some ⟨b, off + i * 2, none⟩) (n + 1 - i) sc]).run Tryz.prog w.drew = .ok (goInt (Nat.min (n + 1 - i) (n - i) : Nat)) (w.drew.setCells b (off + (i + 1) * 2) (cs.drop (i * 2))) := fun ty dc sc =>
    Go.Proofs.YtlgofplbbmjdjaaGreatDoor.BH.run_copy_k w.drew _ _ ty 104 2 b (off + (i + 1) * 2) (n - i) dc ⟨b, off + i * 2, none⟩ (n + 1 - i) sc (cs.drop (i * 2)) Tryz.underlying90 hsz (by rw [hdl]; simp only [Nat.min_def]; split <;> omega)
      (fun j v hj => by rw [Addr.add_lit, Nat.add_assoc]; exact hcs (i * 2 + j) v (by rwa [List.getElem?_drop] at hj))
      (fun j hj => by rw [Nat.add_assoc]; exact hsp _ (by omega)) (fun j hj => by rw [Nat.add_assoc]; exact hfz _ (by omega)) (fun v hv => h1c v (List.mem_of_mem_drop hv))
  obtain ⟨W1, hW1⟩ : ∃ W1, W1 = w.drew.setCells b (off + (i + 1) * 2) (cs.drop (i * 2)) := ⟨_, rfl⟩
  have hsp1 : ∀ j, j < (n + 1) * 2 → (W1.cell? ⟨b, off + j, none⟩).isSome = true := fun j hj => by
    rw [hW1]
    exact isSome_setCells b _ _ _ (fun l hl => by rw [Nat.add_assoc]; exact hsp _ (by omega)) _ (hsp j hj)
  have hcp2 : ∀ (W : World), (∀ x, W.cell? x = W1.cell? x) → (∀ x, W.frozen? x = W1.frozen? x) → ∀ ty dc, (Builtin.copy_ #[90, 90] ty #[.slice (some ⟨b, off + i * 2, none⟩) (n + 1 - i) dc, .slice (some ⟨vb, voff, none⟩) 1 vc]).run Tryz.prog W = .ok (goInt (Nat.min 1 (n + 1 - i) : Nat)) (W.setCells b (off + i * 2) vs) := fun W hWc hWf ty dc =>
    Go.Proofs.YtlgofplbbmjdjaaGreatDoor.BH.run_copy_k W _ _ ty 104 2 b (off + i * 2) (n + 1 - i) dc ⟨vb, voff, none⟩ 1 vc vs Tryz.underlying90 hsz (by rw [hvl]; simp only [Nat.min_def]; split <;> omega)
      (fun j v hj => by
        rw [Addr.add_lit, hWc, hW1, World.cell?_setCells_out b _ _ _ _ (fun h _ => absurd h hvb)]
        exact hvs j v hj)
      (fun j hj => by rw [hWc, Nat.add_assoc]; exact hsp1 _ (by omega)) (fun j hj => by rw [hWf, hW1, World.frozen?_setCells, Nat.add_assoc]; exact hfz _ (by omega)) h1v
  rw [← hW1] at hcp1
  clear hsp1 hdl hcs hsp hfz hvs
  go_enter Tryz.func42, Tryz.ntmps42
  go_wp2_with (simp only [hov])
  go_region_law_o (refine step_copy_runI rfl _ _ 90 90 rfl _ _ (by simp [Act.eval, Act.put]) (by simp [Act.eval, Act.put]) (hcp1 _ _ _) ?_)
  go_wp2_with (at_builtin; refine wpList_copy_runI _ rfl _ _ 90 90 rfl _ _ rfl rfl (hcp2 _ (fun _ => rfl) (fun _ => rfl) _ _) ?_)
  go_ret
  first | exact ⟨rfl, rfl⟩ | exact ⟨rfl, by rw [hW1]⟩
end Go.Proofs
