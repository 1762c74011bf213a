/-
  BH: building, conversions, storing, making, appending, copying.
-/
import Derived.Test.YtonojkcnencodaaDoorBhOps4
namespace Go.Proofs.YtonojkcnencodaaDoor.BH

section
variable {P : Program} {ρ : Rho} {h : AHeap} {w : World}

/-! ### a run over a list -/
/-! ### building -/
theorem foldl_cells : ∀ (l : List Value) (s off : Nat) (cs : Array Value), off + s + l.length ≤ cs.size →
    ((l.zipIdx s).foldl (fun cs (c, j) => cs.setIfInBounds (off + j) c) cs).size = cs.size ∧
    ∀ k : Nat, ((l.zipIdx s).foldl (fun (cs : Array Value) (c, j) => cs.setIfInBounds (off + j) c) cs)[k]? = if off + s ≤ k ∧ k < off + s + l.length then l[k - (off + s)]? else cs[k]?
  | [], s, off, cs, _ => by simp; intro k hk1 hk2; omega
  | v :: r, s, off, cs, hl => by
    rw [List.zipIdx_cons, List.foldl_cons]
    simp only [List.length_cons] at hl ⊢
    obtain ⟨h1, h2⟩ := foldl_cells r (s + 1) off (cs.setIfInBounds (off + s) v) (by rw [Array.size_setIfInBounds]; omega)
    refine ⟨by rw [h1, Array.size_setIfInBounds], fun k => ?_⟩
    rw [h2, Array.getElem?_setIfInBounds]
    by_cases hk : k = off + s
    · subst hk
      rw [if_neg (by omega), if_pos rfl, if_pos (by omega), if_pos (by omega)]; simp
    · by_cases hk2 : off + (s + 1) ≤ k ∧ k < off + (s + 1) + r.length
      · rw [if_pos hk2, if_pos (by omega), show k - (off + s) = (k - (off + (s + 1))) + 1 by omega, List.getElem?_cons_succ]
      · rw [if_neg hk2, if_neg (fun hh => hk hh.symm), if_neg (by omega)]

def PartsR (ρ : Rho) : List (Nat × AV) → List (Nat × Value) → Prop
  | [], l => l = []
  | x :: r, l => ∃ v l', l = (x.1, v) :: l' ∧ VR ρ x.2 v ∧ PartsR ρ r l'

theorem fill_run {place : Nat → Option (Nat × Nat)} : ∀ {ps : List (Nat × AV)} {ps' : List (Nat × Value)} {cells r : List AV} {us : Array Value},
    fillV place cells ps = some r → PartsR ρ ps ps' → VRL ρ cells us.toList → cells.all AV.scalar = true →
    ∃ us', Instr.fill place us ps' = some us' ∧ VRL ρ r us'.toList ∧ r.length = cells.length ∧ r.all AV.scalar = true
  | [], ps', cells, r, us, hf, hp, hv, hs => by
    cases hf
    simp only [PartsR] at hp; subst hp
    exact ⟨us, rfl, hv, rfl, hs⟩
  | x :: t, ps', cells, r, us, hf, hp, hv, hs => by
    simp only [PartsR] at hp
    obtain ⟨v, l', rfl, hxv, hp⟩ := hp
    have hf : bnd (place x.1) (fun p => cnd (Nat.beq (lenA x.2.cells) p.2 && allA AV.scalar x.2.cells && Nat.ble (Nat.add p.1 p.2) (lenA cells)) (bnd (over cells p.1 x.2.cells) fun cs => fillV place cs t) none) = some r := hf
    obtain ⟨p, hp1, hf⟩ := bnd_eq_some.mp hf
    rw [cnd_eq] at hf
    split at hf
    · rename_i hh
      simp only [Bool.and_eq_true, beqN, bleN, lenA_eq, allA_eq] at hh
      obtain ⟨⟨hh1, hh2⟩, hh3⟩ := hh
      have hh3 : p.1 + p.2 ≤ cells.length := hh3
      obtain ⟨cs, hcs, hf⟩ := bnd_eq_some.mp hf
      obtain ⟨o1, o2, o3⟩ := over_eq_some hcs
      have hvc := hxv.cells hh2
      have hvl := hvc.length
      have hul := hv.length
      rw [Array.length_toList] at hvl hul
      obtain ⟨f1, f2⟩ := foldl_cells v.cells.toList 0 p.1 us (by rw [Array.length_toList]; omega)
      have hv2 : VRL ρ cs ((v.cells.toList.zipIdx 0).foldl (fun (cs : Array Value) (c, j) => cs.setIfInBounds (p.1 + j) c) us).toList := by
        refine VRL.of_get (by rw [Array.length_toList, f1, hul, o2]) fun i a ha => ?_
        rw [o3] at ha
        rw [Array.getElem?_toList, f2]
        by_cases hi : p.1 ≤ i ∧ i < p.1 + x.2.cells.length
        · rw [if_pos hi] at ha
          rw [if_pos (by rw [Array.length_toList]; omega)]
          exact hvc.get ha
        · rw [if_neg hi] at ha
          rw [if_neg (by rw [Array.length_toList]; omega), ← Array.getElem?_toList]
          exact hv.get ha
      have hs2 : cs.all AV.scalar = true := by
        rw [List.all_eq_true]
        intro a ha
        obtain ⟨i, hi⟩ := List.getElem?_of_mem ha
        rw [o3] at hi
        split at hi
        · exact List.all_eq_true.mp hh2 _ (List.mem_of_getElem? hi)
        · exact List.all_eq_true.mp hs _ (List.mem_of_getElem? hi)
      obtain ⟨us', g1, g2, g3, g4⟩ := fill_run hf hp hv2 hs2
      refine ⟨us', ?_, g2, by rw [g3, o2], g4⟩
      unfold Instr.fill
      simp only [hp1]
      have e1 : (decide (v.cells.size ≠ p.2) || decide (p.1 + v.cells.size > us.size)) = false := by
        simp; omega
      simp only [e1, Bool.false_eq_true, if_false]
      rw [← g1]
      congr 1
      rw [← Array.foldl_toList, Array.toList_zipIdx]
    · cases hf

theorem fieldPlaces_run : ∀ {fs : List Field} {pl : List (Nat × Nat)}, fieldPlaces P fs = some pl →
    (fs.mapM (m := Sem) fun f => do pure (f.offset, ← sizeOf f.type)).run P w = .ok pl w
  | [], _, hp => by cases hp; simp
  | f :: r, _, hp => by
    unfold fieldPlaces at hp
    obtain ⟨s, hs, hp⟩ := bnd_eq_some.mp hp
    obtain ⟨l, hl, hp⟩ := bnd_eq_some.mp hp
    cases hp
    rw [List.mapM_cons]
    simp only [Sem.run_bind, run_sizeOf' hs, Result.andThen_ok, Sem.run_pure, fieldPlaces_run hl]

theorem build_run {t : TypeId} {ps : List (Nat × AV)} {ps' : Array (Nat × Value)} {r : AV} (hp : PartsR ρ ps ps'.toList) (hr : (buildF P t).run ps = some r) :
    ∃ r', (Instr.build t ps').run P w = .ok r' w ∧ VR ρ r r' := by
  unfold buildF at hr
  cases hz : zeroCells P t with
  | none => rw [hz] at hr; cases hr
  | some z =>
    rw [hz] at hr
    obtain ⟨zv, z1, z2, z3, z4⟩ := zeroCells_run (w := w) ρ hz
    cases hu : undOf P t with
    | none => rw [hu] at hr; cases hr
    | some D =>
      rw [hu] at hr
      cases D with
      | struct fs =>
        cases hpl : fieldPlaces P fs.toList with
        | none => simp only [hpl] at hr; cases hr
        | some pl =>
          simp only [hpl] at hr
          obtain ⟨l, hl, hr⟩ := bnd_eq_some.mp hr
          cases hr
          obtain ⟨us', g1, g2, _⟩ := fill_run hl hp z2 z4
          refine ⟨.agg us', ?_, by simp only [VR]; exact ⟨us', rfl, g2⟩⟩
          unfold Instr.build
          have e1 : (fs.mapM (m := Sem) fun f => do pure (f.offset, ← sizeOf f.type)).run P w = .ok pl.toArray w := by
            rw [Array.mapM_eq_mapM_toList, Sem.run_map, fieldPlaces_run hpl]; rfl
          have e2 : (fun i => pairAt pl i) = fun i => (pl.toArray)[i]? := by funext i; simp
          rw [show pairAt pl = fun i => (pl.toArray)[i]? from e2] at g1
          simp only [Sem.run_bind, z1, Result.andThen_ok, run_und hu, e1, g1]
          rfl
      | array n e =>
        cases hs : szOf P e with
        | none => simp only [hs] at hr; cases hr
        | some s =>
          simp only [hs] at hr
          obtain ⟨l, hl, hr⟩ := bnd_eq_some.mp hr
          cases hr
          obtain ⟨us', g1, g2, _⟩ := fill_run hl hp z2 z4
          refine ⟨.agg us', ?_, by simp only [VR]; exact ⟨us', rfl, g2⟩⟩
          unfold Instr.build
          simp only [Sem.run_bind, z1, Result.andThen_ok, run_und hu, run_sizeOf' hs, g1]
          rfl
      | _ => cases hr

/-! ### zero cells, many times -/
theorem repl_VRL {z : List AV} {us : List Value} (hz : VRL ρ z us) (hpos : us ≠ []) : ∀ n : Nat, VRL ρ (repl n z) ((List.range (n * us.length)).map fun i => us[i % us.length]!)
  | 0 => by simp [repl]; exact VRL.nil
  | n + 1 => by
    rw [repl_succ]
    have hl : 0 < us.length := List.length_pos_iff.mpr hpos
    have e : (List.range ((n + 1) * us.length)).map (fun i => us[i % us.length]!) = us ++ (List.range (n * us.length)).map fun i => us[i % us.length]! := by
      refine List.ext_getElem? fun i => ?_
      rw [List.getElem?_map]
      by_cases h1 : i < us.length
      · rw [List.getElem?_append_left h1, List.getElem?_range (by rw [Nat.succ_mul]; omega)]
        simp only [Option.map_some, Nat.mod_eq_of_lt h1]
        rw [List.getElem?_eq_getElem h1]; simp [h1]
      · rw [List.getElem?_append_right (by omega), List.getElem?_map]
        by_cases h2 : i < (n + 1) * us.length
        · rw [List.getElem?_range h2, List.getElem?_range (by rw [Nat.succ_mul] at h2; omega)]
          simp only [Option.map_some]
          rw [Nat.mod_eq_sub_mod (by omega)]
        · rw [List.getElem?_eq_none (by simp; omega), List.getElem?_eq_none (by simp; rw [Nat.succ_mul] at h2; omega)]
    rw [e]
    exact VRL.append hz (repl_VRL hz hpos n)
theorem repl_scalar {z : List AV} (hz : z.all AV.scalar = true) : ∀ n : Nat, (repl n z).all AV.scalar = true
  | 0 => rfl
  | n + 1 => by rw [repl_succ, List.all_append, hz, repl_scalar hz n]; rfl


/-! ### allocation -/
theorem alloc_run (H : HRel ρ h w) {t : TypeId} {v : AV} {h' : AHeap} (hr : (allocF P t).run h = some (v, h')) :
    ∃ ρ' w' v', (Instr.alloc t true (.tuple #[])).run P w = .ok v' w' ∧ VR ρ' v v' ∧ Trans ρ h w ρ' h' w' := by
  unfold allocF at hr
  cases hz : zeroCells P t with
  | none => rw [hz] at hr; cases hr
  | some z =>
    rw [hz] at hr
    obtain ⟨zv, z1, z2, z3, z4⟩ := zeroCells_run (w := w) ρ hz
    simp only [z3] at hr
    cases hr
    obtain ⟨w', n1, n2⟩ := newRow_run (P := P) H (e := t) (s := z.length) (k := 1) z2 z4 (by omega)
    refine ⟨_, w', .pointer (some ⟨w.heap.size, 0, none⟩), ?_, ?_, n2⟩
    · unfold Instr.alloc newVar
      simp only [Sem.run_bind, z1, Result.andThen_ok, n1]
      rfl
    · simp only [VR]
      exact ⟨_, upd_self _ _ _, rfl⟩

theorem box_run (H : HRel ρ h w) {t : TypeId} {x v : AV} {u : Value} {h' : AHeap} (hx : VR ρ x u) (hr : boxV P t h x = some (v, h')) :
    ∃ ρ' w' v', (Instr.box t u).run P w = .ok v' w' ∧ VR ρ' v v' ∧ Trans ρ h w ρ' h' w' := by
  unfold boxV at hr
  obtain ⟨n, hn, hr⟩ := bnd_eq_some.mp hr
  rw [cnd_eq] at hr
  split at hr
  · rename_i hh
    cases hr
    simp only [Bool.and_eq_true, beqN, lenA_eq, allA_eq] at hh
    obtain ⟨w', n1, n2⟩ := newRow_run (P := P) H (e := t) (s := n) (k := 1) (hx.cells hh.2) hh.2 (by omega)
    refine ⟨_, w', .pointer (some ⟨w.heap.size, 0, none⟩), ?_, ?_, n2⟩
    · unfold Instr.box newVar
      simp only [Sem.run_bind, n1, Result.andThen_ok]
      rfl
    · simp only [VR]
      exact ⟨_, upd_self _ _ _, rfl⟩
  · cases hr

theorem store_run (H : HRel ρ h w) {t : TypeId} {x v : AV} {u u' : Value} {h' : AHeap} (hx : VR ρ x u) (hv : VR ρ v u') (hr : storeN (szOf P t) h x v = some h') :
    ∃ w', (Instr.storeAt t u u').run P w = .ok () w' ∧ Trans ρ h w ρ h' w' := by
  unfold storeN at hr
  obtain ⟨n, hn, hr⟩ := bnd_eq_some.mp hr
  obtain ⟨p, hp, hr⟩ := bnd_eq_some.mp hr
  rw [cnd_eq] at hr
  split at hr
  · rename_i hh
    rw [beqN, lenA_eq] at hh
    obtain ⟨c, hc, rfl⟩ := ptrOf_VR hp hx
    have hall : v.cells.all AV.scalar = true := by
      unfold writeRow at hr
      obtain ⟨r, _, hr⟩ := bnd_eq_some.mp hr
      rw [cnd_eq] at hr
      split at hr
      · cases hr
      · rw [cnd_eq] at hr
        split at hr
        · rename_i h1; rw [allA_eq] at h1; exact h1
        · cases hr
    have hvc := hv.cells hall
    obtain ⟨c', w', hc', s1, s2⟩ := writeRow_run (P := P) H hr hvc
    rw [hc] at hc'; cases hc'
    refine ⟨w', ?_, s2⟩
    unfold Instr.storeAt storeVar
    have e1 : u'.cells.size = n := by rw [← Array.length_toList, hvc.length, hh]
    simp only [Sem.run_bind, sureAddr_run, Result.andThen_ok, run_sizeOf' hn, e1, ne_eq, not_true_eq_false, if_false]
    simpa using s1
  · cases hr

end
end Go.Proofs.YtonojkcnencodaaDoor.BH
