/-
  BH: append, copy, clear; bytes to a string; lengths.
-/
import Derived.Test.YtlgofplbbmjdjaaGreatDoorBhOps6
namespace Go.Proofs.YtlgofplbbmjdjaaGreatDoor.BH

section
variable {P : Program} {ρ : Rho} {h : AHeap} {w : World}

theorem growBy_le (newLen : Nat) (hp : 256 ≤ newLen) : ∀ (r c : Nat), c ≤ 3 * newLen → Builtin.growBy newLen r c ≤ 3 * newLen
  | 0, c, hc => by unfold Builtin.growBy; exact hc
  | r + 1, c, hc => by
    unfold Builtin.growBy
    split
    · exact hc
    · exact growBy_le newLen hp r _ (by omega)
theorem nextslicecap_le {need c : Nat} (hc : c < need) : Builtin.nextslicecap need c ≤ 3 * need := by
  unfold Builtin.nextslicecap
  split
  · omega
  · split
    · omega
    · exact growBy_le need (by omega) 4 c (by omega)

/-- The first cells of what is read: a slice's, a string's. -/
theorem firstCells_run (H : HRel ρ h w) {size n m : Nat} {x : AV} {u : Value} {l : List AV} (hx : VR ρ x u) (hl : lenV x = some m) (hn : n ≤ m) (hr : firstV h size n x = some l) {w₁ : World} (e : w₁.heap = w.heap) :
    ∃ us : List Value, (Builtin.firstCells size n u).run P w₁ = .ok us.toArray w₁ ∧ VRL ρ l us ∧ us.length = n * size ∧ l.all AV.scalar = true := by
  cases x with
  | slice a k c =>
    simp only [firstV] at hr
    rw [cnd_eq] at hr
    split at hr
    · rename_i h0
      rw [beqN] at h0
      subst h0; cases hr
      refine ⟨[], ?_, VRL.nil, by simp, rfl⟩
      cases a with
      | none => simp only [VR] at hx; obtain ⟨_, _, rfl⟩ := hx; rfl
      | some a =>
        simp only [VR] at hx
        obtain ⟨c', ad, _, rfl, _⟩ := hx
        simp only [Builtin.firstCells, Nat.zero_mul]; rfl
    · rename_i h0
      rw [beqN] at h0
      obtain ⟨a', ha, hr⟩ := bnd_eq_some.mp hr
      subst ha
      simp only [lenV] at hl; cases hl
      simp only [VR] at hx
      obtain ⟨c', ad, hc', rfl, h1, h2⟩ := hx
      obtain ⟨c2, us, hc2, hv, hlen, hs, hcell⟩ := readRow_run H hr
      rw [hc'] at hc2; cases hc2
      refine ⟨us, ?_, hv, hlen, hs⟩
      rw [h2 (by omega)]
      simp only [Builtin.firstCells]
      rw [← hlen]
      exact run_loadCells us a'.off fun j v hv' => by
        have := hcell j v hv'
        unfold World.cell? at this ⊢
        rw [e]; exact this
  | str s =>
    simp only [firstV] at hr
    rw [cnd_eq] at hr
    split at hr
    · rename_i h1
      rw [beqN] at h1
      cases hr
      simp only [lenV, lenA_eq] at hl; cases hl
      simp only [VR] at hx; subst hx
      refine ⟨byteVals (s.take n), ?_, by rw [takeB_eq]; exact byteCells_VRL _, by rw [byteVals_length, List.length_take, h1]; omega, by rw [takeB_eq]; exact byteCells_scalar _⟩
      simp only [Builtin.firstCells, Sem.run_pure]
      congr 1
      rw [ByteArray.extract_mk]
      apply Array.ext'
      simp [byteVals]
    · cases hr
  | lst cs k f pf =>
    replace hr : takeN (n * size) cs = some l := hr
    simp only [lenV] at hl; cases hl
    simp only [VR] at hx
    obtain ⟨ao, cap, rfl, k2, k3, k4, _, ⟨rfl, rfl, _⟩ | ⟨b, off, xs, us, rfl, g1, g2, g3⟩⟩ := hx
    · have h0 : n = 0 := by omega
      subst h0
      obtain ⟨_, g⟩ := takeN_eq_some hr
      subst g
      refine ⟨[], ?_, by simpa using VRL.nil, by simp, by simp⟩
      cases ao with
      | none => rfl
      | some a => simp only [Builtin.firstCells, Nat.zero_mul]; rfl
    · have hr' : slots cs 0 (n * size) = some l := hr
      obtain ⟨us', q1, q2, q3⟩ := still_cells H (.inr g1) g2 g3 hr'
      obtain ⟨_, q4⟩ := takeN_eq_some hr
      refine ⟨us', ?_, VRL.mono (inner_ext ρ pf) _ _ q1, q2, by
        rw [q4, List.all_eq_true]; intro a ha; exact List.all_eq_true.mp k4 a (List.mem_of_mem_take ha)⟩
      simp only [Builtin.firstCells]
      rw [← q2]
      have := run_loadCells (P := P) (w := w₁) (c := ⟨b, off, 0⟩) us' 0 fun j v hv' => by
        have := q3 j v hv'
        unfold World.cell? at this ⊢
        rw [e]; exact this
      simpa [CLoc.at] using this
  | _ => simp [firstV] at hr

theorem lenV_run {x : AV} {u : Value} {m : Nat} (hx : VR ρ x u) (hl : lenV x = some m) : (Builtin.lenOf u).run P w = .ok m w := by
  cases x with
  | slice a k c =>
    simp only [lenV] at hl; cases hl
    cases a with
    | none => simp only [VR] at hx; obtain ⟨rfl, _, rfl⟩ := hx; rfl
    | some a => simp only [VR] at hx; obtain ⟨c', ad, _, rfl, _⟩ := hx; rfl
  | str s =>
    simp only [lenV, lenA_eq] at hl; cases hl
    simp only [VR] at hx; subst hx
    simp [Builtin.lenOf, ByteArray.size]
  | lst cs k f pf =>
    simp only [lenV] at hl; cases hl
    simp only [VR] at hx
    obtain ⟨ao, cap, rfl, _⟩ := hx
    cases ao <;> rfl
  | _ => simp [lenV] at hl

/-- Does what is appended come as a number of zero values? -/
def zerosOf (P : Program) : Option TypeId → Bool
  | none => false
  | some t => match undOf P t with
    | some (.int _) => true
    | _ => false

theorem zeroCells_range (zs : Array Value) (n : Nat) : Builtin.zeroCells zs n = (Array.range (n * zs.size)).map (zs[· % zs.size]!) := rfl

/-- What is appended: how much it is, and its cells. -/
theorem newF_run (H : HRel ρ h w) {e size bytes n : Nat} {t : Option TypeId} {x : AV} {u : Value} {new : List AV} (hs : szOf P e = some size) (hpos : 0 < size) (hx : VR ρ x u)
    (hr : (newF P e size bytes t).run h x = some (n, new)) :
    (zerosOf P t = false → (Builtin.lenOf u).run P w = .ok n w) ∧ (zerosOf P t = true → u = .int .i64 (n : Int) ∧ n * bytes ≤ bigBy ∧ n ≤ bigBy) ∧
    (∀ t', t = some t' → ∃ d, undOf P t' = some d) ∧
    ∀ w₁ : World, w₁.heap = w.heap → ∃ us : List Value, VRL ρ new us ∧ us.length = n * size ∧ new.all AV.scalar = true ∧
      (zerosOf P t = false → (Builtin.firstCells size n u).run P w₁ = .ok us.toArray w₁) ∧
      (zerosOf P t = true → n * size ≠ 0 → ∃ zv, (zeroValue e).run P w₁ = .ok zv w₁ ∧ Builtin.zeroCells zv.cells n = us.toArray) ∧ (zerosOf P t = true → n * size = 0 → us = []) := by
  have reads : newOf size h x = some (n, new) → (Builtin.lenOf u).run P w = .ok n w ∧
      ∀ w₁ : World, w₁.heap = w.heap → ∃ us : List Value, VRL ρ new us ∧ us.length = n * size ∧ new.all AV.scalar = true ∧ (Builtin.firstCells size n u).run P w₁ = .ok us.toArray w₁ := by
    intro hr
    unfold newOf at hr
    obtain ⟨m, hm, hr⟩ := bnd_eq_some.mp hr
    obtain ⟨cs, hcs, hr⟩ := bnd_eq_some.mp hr
    cases hr
    refine ⟨lenV_run hx hm, fun w₁ e1 => ?_⟩
    obtain ⟨us, f1, f2, f3, f4⟩ := firstCells_run (P := P) H hx hm (Nat.le_refl _) hcs e1
    exact ⟨us, f2, f3, f4, f1⟩
  unfold newF at hr
  cases t with
  | none =>
    obtain ⟨r1, r2⟩ := reads hr
    refine ⟨fun _ => r1, fun hh => by (cases hh), fun _ hh => by (cases hh), fun w₁ e1 => ?_⟩
    obtain ⟨us, f1, f2, f3, f4⟩ := r2 w₁ e1
    exact ⟨us, f1, f2, f3, fun _ => f4, fun hh => by (cases hh), fun hh => by (cases hh)⟩
  | some t =>
    simp only at hr
    cases hu : undOf P t with
    | none => rw [hu] at hr; cases hr
    | some D =>
      rw [hu] at hr
      have other : (∀ k, D ≠ .int k) → newOf size h x = some (n, new) →
          (zerosOf P (some t) = false → (Builtin.lenOf u).run P w = .ok n w) ∧ (zerosOf P (some t) = true → u = .int .i64 (n : Int) ∧ n * bytes ≤ bigBy ∧ n ≤ bigBy) ∧
          (∀ t', some t = some t' → ∃ d, undOf P t' = some d) ∧
          ∀ w₁ : World, w₁.heap = w.heap → ∃ us : List Value, VRL ρ new us ∧ us.length = n * size ∧ new.all AV.scalar = true ∧
            (zerosOf P (some t) = false → (Builtin.firstCells size n u).run P w₁ = .ok us.toArray w₁) ∧
            (zerosOf P (some t) = true → n * size ≠ 0 → ∃ zv, (zeroValue e).run P w₁ = .ok zv w₁ ∧ Builtin.zeroCells zv.cells n = us.toArray) ∧ (zerosOf P (some t) = true → n * size = 0 → us = []) := by
        intro hk hr
        have hz : zerosOf P (some t) = false := by
          unfold zerosOf; simp only [hu]
          cases D <;> first | rfl | (exact absurd rfl (hk _))
        obtain ⟨r1, r2⟩ := reads hr
        refine ⟨fun _ => r1, fun hh => by (rw [hz] at hh; cases hh), fun t' hh => by (cases hh; exact ⟨D, hu⟩), fun w₁ e1 => ?_⟩
        obtain ⟨us, f1, f2, f3, f4⟩ := r2 w₁ e1
        exact ⟨us, f1, f2, f3, fun _ => f4, fun hh => by (rw [hz] at hh; cases hh), fun hh => by (rw [hz] at hh; cases hh)⟩
      cases D with
      | int k =>
        have hz : zerosOf P (some t) = true := by unfold zerosOf; simp only [hu]
        cases hzc : zeroCells P e with
        | none => simp only [hzc] at hr; cases hr
        | some z =>
          simp only [hzc] at hr
          have hr : newZeros bytes z x = some (n, new) := hr
          unfold newZeros at hr
          obtain ⟨i, hi, hr⟩ := bnd_eq_some.mp hr
          rw [cnd_eq] at hr
          split at hr
          · rename_i hk
            obtain ⟨m, hm, hr⟩ := bnd_eq_some.mp hr
            rw [cnd_eq] at hr
            split at hr
            · rename_i hle
              cases hr
              rw [Bool.and_eq_true, bleN, bleN] at hle
              have hx' := intOf_VR hi hx
              rw [kno_inj hk, natI_eq hm] at hx'
              refine ⟨fun hh => by (rw [hz] at hh; cases hh), fun _ => ⟨hx', hle.1, hle.2⟩, fun t' hh => by (cases hh; exact ⟨_, hu⟩), fun w₁ e1 => ?_⟩
              obtain ⟨zv, z1, z2, z3, z4⟩ := zeroCells_run (w := w₁) ρ hzc
              rw [hs] at z3; cases z3
              have hzl : zv.cells.size = z.length := by rw [← Array.length_toList, z2.length]
              refine ⟨(Builtin.zeroCells zv.cells n).toList, ?_, ?_, repl_scalar z4 n, fun hh => by (rw [hz] at hh; cases hh), fun _ _ => ⟨zv, z1, by simp⟩, fun _ h0 => ?_⟩
              · rw [zeroCells_range, hzl]
                have := repl_range z2 n
                rw [hzl] at this; exact this
              · rw [zeroCells_range]; simp [hzl]
              · rw [zeroCells_range, hzl, h0]; simp
            · cases hr
          · cases hr
      | _ => exact other (by simp) hr

end
end Go.Proofs.YtlgofplbbmjdjaaGreatDoor.BH
