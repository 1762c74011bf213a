/-
  BH: memory: what reading, writing and making rows of cells does to a world, and to the heap that stands for it.
-/
import Derived.Test.YtonojkcnencodaaDoorBhRel
namespace Go.Proofs.YtonojkcnencodaaDoor.BH

/-! ### types -/
section
variable {P : Program} {t : TypeId} {w : World}
theorem info_of {i : TypeInfo} (h : tyOf P t = some i) : P.info? t = some i := by
  unfold tyOf at h
  have hlt : t < P.types.size := (Array.getElem?_eq_some_iff.mp h).1
  show Tables.info? P.toTables t = some i
  unfold Tables.info?
  rw [if_pos hlt]; exact h
theorem underlying_of {d : TypeDesc} (h : undOf P t = some d) : P.underlying t = some d := by
  unfold undOf at h
  cases ht : tyOf P t with
  | none => rw [ht] at h; cases h
  | some i =>
    rw [ht] at h
    have hi := info_of ht
    unfold Program.underlying
    rw [hi]
    cases i
    rename_i desc _ _ _ _ _ _ _ _ _
    cases desc with
    | named n u =>
      simp only at h ⊢
      cases hu : tyOf P u with
      | none => rw [hu] at h; cases h
      | some j => rw [hu] at h; rw [info_of hu]; exact h
    | _ => exact h
theorem run_typeInfo {i : TypeInfo} (h : tyOf P t = some i) : (typeInfo t).run P w = .ok i w := by
  unfold typeInfo; simp [info_of h]
theorem run_und {d : TypeDesc} (h : undOf P t = some d) : (underlying t).run P w = .ok d w := by
  unfold underlying; simp [underlying_of h]
theorem run_sizeOf' {n : Nat} (h : szOf P t = some n) : (sizeOf t).run P w = .ok n w := by
  unfold szOf at h
  cases ht : tyOf P t with
  | none => rw [ht] at h; cases h
  | some i => rw [ht] at h; cases h; unfold sizeOf; simp [run_typeInfo ht]
theorem run_bytes {n : Nat} (h : bytesOf P t = some n) : ∃ i, (typeInfo t).run P w = .ok i w ∧ i.bytes = n := by
  unfold bytesOf at h
  cases ht : tyOf P t with
  | none => rw [ht] at h; cases h
  | some i => rw [ht] at h; cases h; exact ⟨i, run_typeInfo ht, rfl⟩
theorem run_isAgg' {b : Bool} (h : aggOf P t = some b) : (isAgg t).run P w = .ok b w := by
  unfold aggOf at h
  cases hd : undOf P t with
  | none => rw [hd] at h; cases h
  | some d =>
    rw [hd] at h
    unfold isAgg
    simp only [Sem.run_bind, run_und hd, Result.andThen_ok]
    cases d <;> simp at h <;> subst h <;> rfl
end

/-! ### constants and zero values -/
theorem ofScalar_VR {ρ : Rho} {v : Value} {a : AV} (h : ofScalar v = some a) : VR ρ a v := by
  unfold ofScalar at h
  split at h <;> first | cases h | skip
  all_goals simp [VR]
theorem ofScalars_VRL {ρ : Rho} : ∀ {l : List Value} {r : List AV}, ofScalars l = some r → VRL ρ r l
  | [], _, h => by cases h; exact VRL.nil
  | v :: t, _, h => by
    unfold ofScalars at h
    obtain ⟨a, ha, h⟩ := bnd_eq_some.mp h
    obtain ⟨l, hl, h⟩ := bnd_eq_some.mp h
    cases h
    exact VRL.cons (ofScalar_VR ha) (ofScalars_VRL hl)
theorem ofValue_VR {ρ : Rho} {v : Value} {a : AV} (h : ofValue v = some a) : VR ρ a v := by
  unfold ofValue at h
  split at h
  · rename_i cs
    cases hc : ofScalars cs.toList with
    | none => rw [hc] at h; cases h
    | some l => rw [hc] at h; cases h; simp only [VR]; exact ⟨cs, rfl, ofScalars_VRL hc⟩
  · rename_i cs
    split at h
    · rename_i he
      cases h
      simp only [VR]; exact ⟨cs, rfl, by rw [he]; exact VRL.nil⟩
    · cases h
  · exact ofScalar_VR h
theorem zeroOf_run {P : Program} {t : TypeId} {a : AV} {w : World} (ρ : Rho) (h : zeroOf P t = some a) : ∃ v, (zeroValue t).run P w = .ok v w ∧ VR ρ a v := by
  unfold zeroOf at h
  obtain ⟨i, hi, h⟩ := bnd_eq_some.mp h
  obtain ⟨v, hv, h⟩ := bnd_eq_some.mp h
  refine ⟨v, ?_, ofValue_VR h⟩
  unfold zeroValue
  simp only [Sem.run_bind, run_typeInfo hi, Result.andThen_ok, hv]
  rfl
theorem zeroCells_run {P : Program} {t : TypeId} {z : List AV} {w : World} (ρ : Rho) (h : zeroCells P t = some z) :
    ∃ v, (zeroValue t).run P w = .ok v w ∧ VRL ρ z v.cells.toList ∧ szOf P t = some z.length ∧ z.all AV.scalar = true := by
  unfold zeroCells at h
  obtain ⟨a, ha, h⟩ := bnd_eq_some.mp h
  obtain ⟨n, hn, h⟩ := bnd_eq_some.mp h
  rw [cnd_eq] at h
  split at h
  · rename_i hc
    cases h
    simp only [lenA_eq, allA_eq, Bool.and_eq_true, beqN] at hc
    obtain ⟨v, hv, hr⟩ := zeroOf_run (w := w) ρ ha
    exact ⟨v, hv, hr.cells hc.2, by rw [hn, hc.1], hc.2⟩
  · cases h

/-! ### one row in a world -/
theorem at_add (c : CLoc) (o n : Nat) : (c.at o).add n = c.at (o + n) := by
  unfold CLoc.at Addr.add
  by_cases h : n = 0
  · subst h; rfl
  · rw [if_neg h]; simp [Nat.add_assoc]

theorem cell_at {w : World} {c : CLoc} {cs : Array Value} {e : TypeId} {fr : Nat × Nat} (h : w.heap[c.blk]? = some (.cells cs e fr)) (o : Nat) :
    w.cell? (c.at o) = cs[c.base + o]? := by
  unfold World.cell? CLoc.at; simp only [h]; rfl

theorem row_of {h : AHeap} {o : Nat} {r : ARow} (hr : rowAt h o = some r) : h.get o = some (.row r.elem r.esz r.froz r.cells) := by
  unfold rowAt at hr
  split at hr
  · rename_i hg; cases hr; exact hg
  · cases hr

theorem run_loadCellsFrom {P : Program} {w : World} {c : CLoc} : ∀ (us : List Value) (o i : Nat) (acc : Array Value),
    (∀ (j : Nat) (u : Value), us[j]? = some u → w.cell? (c.at (o + i + j)) = some u) →
    (loadCellsFrom (c.at o) i us.length acc).run P w = .ok (acc ++ us.toArray) w
  | [], _, _, acc, _ => by simp [loadCellsFrom]
  | u :: r, o, i, acc, h => by
    show (loadCellsFrom (c.at o) i (r.length + 1) acc).run P w = _
    unfold loadCellsFrom
    have h0 := h 0 u rfl
    simp only [Sem.run_bind, run_load, at_add, Nat.add_zero] at h0 ⊢
    rw [h0]
    simp only [Result.andThen_ok]
    rw [run_loadCellsFrom r o (i + 1) (acc.push u) fun j v hv => by
      have := h (j + 1) v (by simpa using hv)
      rw [show o + (i + 1) + j = o + i + (j + 1) by omega]; exact this]
    simp

theorem run_loadCells {P : Program} {w : World} {c : CLoc} (us : List Value) (o : Nat)
    (h : ∀ (j : Nat) (u : Value), us[j]? = some u → w.cell? (c.at (o + j)) = some u) :
    (loadCells (c.at o) us.length).run P w = .ok us.toArray w := by
  unfold loadCells
  rw [run_loadCellsFrom us o 0 #[] (by simpa using h)]; simp

theorem run_storeCells {P : Program} : ∀ (us : List Value) (i : Nat) (w : World) (c : CLoc) (o : Nat) (cs : Array Value) (e : TypeId) (fr : Nat × Nat),
    w.heap[c.blk]? = some (.cells cs e fr) → (us = [] ∨ c.base + (o + i) + us.length ≤ cs.size) →
    (∀ j, j < us.length → ¬ (fr.1 ≤ c.base + (o + i) + j ∧ c.base + (o + i) + j < fr.2)) → (∀ u ∈ us, u.oneCell' = true) →
    ∃ w' cs', (storeCells (c.at o) us i).run P w = .ok () w' ∧ w'.heap[c.blk]? = some (.cells cs' e fr) ∧ cs'.size = cs.size ∧
      (∀ k : Nat, cs'[k]? = if c.base + (o + i) ≤ k ∧ k < c.base + (o + i) + us.length then us[k - (c.base + (o + i))]? else cs[k]?) ∧
      w'.heap.size = w.heap.size ∧ (∀ b, b ≠ c.blk → w'.heap[b]? = w.heap[b]?) ∧ w'.output = w.output ∧ w'.os = w.os
  | [], i, w, c, o, cs, e, fr, hb, _, _, _ => by
    refine ⟨w, cs, by unfold storeCells; rfl, hb, rfl, fun k => ?_, rfl, fun _ _ => rfl, rfl, rfl⟩
    rw [if_neg (by simp)]
  | u :: r, i, w, c, o, cs, e, fr, hb, hl, hf, ho => by
    have hl' : c.base + (o + i) + (r.length + 1) ≤ cs.size := by
      rcases hl with hl | hl
      · cases hl
      · simpa using hl
    have hlt : c.base + (o + i) < cs.size := by omega
    have hcell : w.cell? (c.at (o + i)) = some cs[c.base + (o + i)] := by rw [cell_at hb]; exact Array.getElem?_eq_getElem hlt
    have hfz : w.frozen? (c.at (o + i)) = false := by
      have := hf 0 (by simp)
      unfold World.frozen? CLoc.at
      simp only [hb]
      rw [← Bool.not_eq_true, Bool.and_eq_true, decide_eq_true_eq, decide_eq_true_eq]
      simpa using this
    have hlb : c.blk < w.heap.size := (Array.getElem?_eq_some_iff.mp hb).1
    have hb1 : (w.setCell (c.at (o + i)) u).heap[c.blk]? = some (.cells (cs.setIfInBounds (c.base + (o + i)) u) e fr) := by
      unfold World.setCell CLoc.at
      simp only [Array.getElem?_modify, if_true, hb]
      rfl
    have hb2 : ∀ b, b ≠ c.blk → (w.setCell (c.at (o + i)) u).heap[b]? = w.heap[b]? := by
      intro b hne
      unfold World.setCell CLoc.at
      simp only [Array.getElem?_modify]
      rw [if_neg (fun hh => hne hh.symm)]
    obtain ⟨w', cs', h1, h2, h3, h4, h5, h6, h7, h8⟩ := run_storeCells r (i + 1) (w.setCell (c.at (o + i)) u) c o (cs.setIfInBounds (c.base + (o + i)) u) e fr hb1
      (by rw [Array.size_setIfInBounds]; right; omega)
      (fun j hj => by have := hf (j + 1) (by simp; omega); rw [show c.base + (o + (i + 1)) + j = c.base + (o + i) + (j + 1) by omega]; exact this)
      (fun v hv => ho v (List.mem_cons_of_mem _ hv))
    refine ⟨w', cs', ?_, h2, by rw [h3, Array.size_setIfInBounds], fun k => ?_, by rw [h5]; unfold World.setCell; simp, fun b hne => (h6 b hne).trans (hb2 b hne), by rw [h7]; rfl, by rw [h8]; rfl⟩
    · unfold storeCells
      simp only [Sem.run_bind, at_add]
      rw [run_store P w _ u _ (ho u List.mem_cons_self), hcell]
      simp only [hfz, Bool.false_eq_true, if_false, Result.andThen_ok]
      exact h1
    · rw [h4 k, Array.getElem?_setIfInBounds]
      by_cases hk : k = c.base + (o + i)
      · subst hk
        rw [if_neg (by omega), if_pos rfl, if_pos hlt, if_pos (by simp)]; simp
      · by_cases hk2 : c.base + (o + (i + 1)) ≤ k ∧ k < c.base + (o + (i + 1)) + r.length
        · rw [if_pos hk2, if_pos (by simp; omega)]
          have : k - (c.base + (o + i)) = (k - (c.base + (o + (i + 1)))) + 1 := by omega
          rw [this, List.getElem?_cons_succ]
        · rw [if_neg hk2, if_neg (fun hh => hk hh.symm), if_neg (by simp; omega)]

/-! ### reading -/
theorem readRow_run {ρ : Rho} {h : AHeap} {w : World} (H : HRel ρ h w) {a : ALoc} {n : Nat} {l : List AV} (hr : readRow h a n = some l) :
    ∃ c us, ρ a.obj = some c ∧ VRL ρ l us ∧ us.length = n ∧ l.all AV.scalar = true ∧ ∀ (j : Nat) (u : Value), us[j]? = some u → w.cell? (c.at (a.off + j)) = some u := by
  unfold readRow at hr
  obtain ⟨r, hrow, hs⟩ := bnd_eq_some.mp hr
  obtain ⟨c, y, hc, hy, hrel⟩ := H.objs _ _ (row_of hrow)
  obtain ⟨cs, fr, rfl, hsz, hcells, _⟩ := hrel
  obtain ⟨h1, h2⟩ := slots_eq_some hs
  subst h2
  refine ⟨c, ((cs.toList.drop (c.base + a.off)).take n), hc, ?_, ?_, ?_, ?_⟩
  · refine VRL.of_get ?_ fun i b hb => ?_
    · simp; omega
    · rw [List.getElem?_take] at hb ⊢
      split at hb
      · rename_i hi
        rw [if_pos hi, List.getElem?_drop]
        rw [List.getElem?_drop] at hb
        obtain ⟨_, v, hv, hvr⟩ := hcells _ _ hb
        exact ⟨v, by rw [Array.getElem?_toList, Nat.add_assoc]; exact hv, hvr⟩
      · cases hb
  · simp; omega
  · rw [List.all_eq_true]
    intro b hb
    obtain ⟨i, hi⟩ := List.getElem?_of_mem hb
    rw [List.getElem?_take] at hi
    split at hi
    · rw [List.getElem?_drop] at hi; exact (hcells _ _ hi).1
    · cases hi
  · intro j u hu
    rw [cell_at hy]
    rw [List.getElem?_take] at hu
    split at hu
    · rw [List.getElem?_drop, Array.getElem?_toList] at hu
      rw [← Nat.add_assoc]; exact hu
    · cases hu

/-! ### an object turned, an object made, an object that takes another one's place -/
theorem Trans.ofSet {ρ : Rho} {h : AHeap} {w w' : World} (H : HRel ρ h w) {o : Nat} {x x' : AObj} {c : CLoc} {y' : Obj}
    (hx : h.get o = some x) (hf : x.fix = false) (hc : ρ o = some c) (hy : w'.heap[c.blk]? = some y') (hr : ORel ρ c x' y') (hs : w'.heap.size = w.heap.size)
    (hk : ∀ b, b ≠ c.blk → w'.heap[b]? = w.heap[b]?) (ho : w'.output = w.output) (hos : w'.os = w.os) (hf' : x'.fix = false := by rfl) : Trans ρ h w ρ (h.set o x') w' where
  ext := .refl ρ
  rel := {
    objs := by
      intro p z hz
      rw [AHeap.get_set] at hz
      by_cases e : p = o
      · rw [if_pos e] at hz; cases hz; subst e
        exact ⟨c, y', hc, hy, hr⟩
      · rw [if_neg e] at hz
        obtain ⟨d, y, h1, h2, h3⟩ := H.objs p z hz
        refine ⟨d, y, h1, ?_, h3⟩
        rw [hk _ fun hh => (H.inj p o z x d c hz hx h1 hc hh).elim e fun hh => by rw [hf] at hh; cases hh.2]; exact h2
    inj := by
      intro p q z z' d d' hz hz' hd hd' hb
      rw [AHeap.get_set] at hz hz'
      have f : ∀ p z, (if p = o then some x' else h.get p) = some z → ∃ z', h.get p = some z' ∧ (z'.fix = true → z.fix = true) := by
        intro p z hz
        by_cases e : p = o
        · subst e; exact ⟨x, hx, fun hh => by rw [hf] at hh; cases hh⟩
        · rw [if_neg e] at hz; exact ⟨z, hz, id⟩
      obtain ⟨_, g1, k1⟩ := f p z hz
      obtain ⟨_, g2, k2⟩ := f q z' hz'
      exact (H.inj p q _ _ d d' g1 g2 hd hd' hb).imp id fun hh => ⟨k1 hh.1, k2 hh.2⟩
    fresh := fun p hp => H.fresh p hp
    rets := by
      intro b z hz
      obtain ⟨⟨e, fr, g1⟩, g2⟩ := H.rets b z hz
      refine ⟨⟨e, fr, by rw [hk b fun hh => g2 o x c hx hf hc hh.symm]; exact g1⟩, fun p y d hy hyf hd => ?_⟩
      rw [AHeap.get_set] at hy
      by_cases e : p = o
      · subst e; exact g2 p x d hx hf hd
      · rw [if_neg e] at hy; exact g2 p y d hy hyf hd
    fixed := by
      intro p y d hy hyf hd
      rw [AHeap.get_set] at hy
      by_cases e : p = o
      · rw [if_pos e] at hy; cases hy; rw [hf'] at hyf; cases hyf
      · rw [if_neg e] at hy; exact H.fixed p y d hy hyf hd }
  kept := by
    intro b _ hn
    exact hk b fun hh => hn o x c hx hf hc hh.symm
  size := by omega
  outp := ho
  os := hos
  blks := by
    intro p z d hz hzf hd
    rw [AHeap.get_set] at hz
    by_cases e : p = o
    · subst e; exact .inl ⟨p, x, d, hx, hf, hd, rfl⟩
    · rw [if_neg e] at hz; exact .inl ⟨p, z, d, hz, hzf, hd, rfl⟩
  ids := fun _ hp => .inl hp
  next := Nat.le_refl _
  rids := fun _ hb => .inl hb
  views := rfl

def upd (ρ : Rho) (o : Nat) (c : CLoc) : Rho := ⟨fun p => if p = o then some c else ρ p, ρ.ret, ρ.view⟩
theorem upd_self (ρ : Rho) (o : Nat) (c : CLoc) : upd ρ o c o = some c := if_pos rfl
theorem upd_ne {ρ : Rho} {o p : Nat} {c : CLoc} (h : p ≠ o) : upd ρ o c p = ρ p := if_neg h
theorem ext_upd {ρ : Rho} {o : Nat} {c : CLoc} (h : ρ o = none) : Ext ρ (upd ρ o c) := by
  refine ⟨?_, fun _ _ h => h, fun _ _ h => h⟩
  intro p d hd
  rw [upd_ne]
  · exact hd
  · intro e; subst e; rw [h] at hd; cases hd

theorem Trans.ofPush {ρ : Rho} {h : AHeap} {w w' : World} (H : HRel ρ h w) {x : AObj} {y : Obj} {k : Nat}
    (hy : w'.heap = w.heap.push y) (hr : ORel (upd ρ h.next ⟨w.heap.size, 0, k⟩) ⟨w.heap.size, 0, k⟩ x y) (ho : w'.output = w.output) (hos : w'.os = w.os) (hf' : x.fix = false := by rfl) :
    Trans ρ h w (upd ρ h.next ⟨w.heap.size, 0, k⟩) (h.push x) w' where
  ext := ext_upd (H.fresh _ (Nat.le_refl _))
  rel := {
    objs := by
      intro p z hz
      rw [AHeap.get_push] at hz
      by_cases e : p = h.next
      · rw [if_pos e] at hz; cases hz; subst e
        exact ⟨_, y, upd_self _ _ _, by rw [hy]; simp, hr⟩
      · rw [if_neg e] at hz
        obtain ⟨d, z', h1, h2, h3⟩ := H.objs p z hz
        refine ⟨d, z', by rw [upd_ne e]; exact h1, ?_, ORel.mono (ext_upd (H.fresh _ (Nat.le_refl _))) _ _ h3⟩
        rw [hy, Array.getElem?_push_lt (H.blk hz h1)]
        rw [Array.getElem?_eq_getElem (H.blk hz h1)] at h2; exact h2
    inj := by
      intro p q z z' d d' hz hz' hd hd' hb
      rw [AHeap.get_push] at hz hz'
      by_cases e : p = h.next
      · by_cases e' : q = h.next
        · exact .inl (by rw [e, e'])
        · rw [if_neg e'] at hz'
          rw [e, upd_self] at hd; cases hd
          rw [upd_ne e'] at hd'
          have := H.blk hz' hd'
          simp at hb; omega
      · rw [if_neg e] at hz
        rw [upd_ne e] at hd
        by_cases e' : q = h.next
        · rw [e', upd_self] at hd'; cases hd'
          have := H.blk hz hd
          simp at hb; omega
        · rw [if_neg e'] at hz'
          rw [upd_ne e'] at hd'
          exact H.inj p q z z' d d' hz hz' hd hd' hb
    fresh := by
      intro p hp
      simp at hp
      rw [upd_ne (by omega)]; exact H.fresh p (by omega)
    rets := by
      intro b z hz
      obtain ⟨⟨e, fr, g1⟩, g2⟩ := H.rets b z hz
      have hlt : b < w.heap.size := (Array.getElem?_eq_some_iff.mp g1).1
      refine ⟨⟨e, fr, by rw [hy, Array.getElem?_push_lt hlt, ← Array.getElem?_eq_getElem hlt]; exact g1⟩, fun p y d hy hyf hd => ?_⟩
      rw [AHeap.get_push] at hy
      by_cases e : p = h.next
      · rw [e, upd_self] at hd; cases hd; simp only; omega
      · rw [if_neg e] at hy; rw [upd_ne e] at hd; exact g2 p y d hy hyf hd
    fixed := by
      intro p y d hy hyf hd
      rw [AHeap.get_push] at hy
      by_cases e : p = h.next
      · rw [if_pos e] at hy; cases hy; rw [hf'] at hyf; cases hyf
      · rw [if_neg e] at hy; rw [upd_ne e] at hd; exact H.fixed p y d hy hyf hd }
  kept := by
    intro b hb _
    rw [hy, Array.getElem?_push_lt hb, Array.getElem?_eq_getElem hb]
  size := by rw [hy]; simp
  outp := ho
  os := hos
  blks := by
    intro p z d hz hzf hd
    rw [AHeap.get_push] at hz
    by_cases e : p = h.next
    · rw [e, upd_self] at hd; cases hd; exact .inr (Nat.le_refl _)
    · rw [if_neg e] at hz; rw [upd_ne e] at hd; exact .inl ⟨p, z, d, hz, hzf, hd, rfl⟩
  ids := by
    intro p hp
    by_cases e : p = h.next
    · right; subst e; simp
    · rw [upd_ne e] at hp; exact .inl hp
  next := by simp
  rids := fun _ hb => .inl hb
  views := rfl

/-- An object that takes another one's block (the other one is gone). -/
theorem Trans.ofMove {ρ : Rho} {h : AHeap} {w w' : World} (H : HRel ρ h w) {o : Nat} {x x' : AObj} {c d : CLoc} {y' : Obj}
    (hx : h.get o = some x) (hf : x.fix = false) (hc : ρ o = some c) (hd : d.blk = c.blk) (hy : w'.heap[c.blk]? = some y') (hr : ORel (upd ρ h.next d) d x' y') (hs : w'.heap.size = w.heap.size)
    (hk : ∀ b, b ≠ c.blk → w'.heap[b]? = w.heap[b]?) (ho : w'.output = w.output) (hos : w'.os = w.os) (hf' : x'.fix = false := by rfl) : Trans ρ h w (upd ρ h.next d) ((h.del o).push x') w' where
  ext := ext_upd (H.fresh _ (Nat.le_refl _))
  rel := {
    objs := by
      intro p z hz
      rw [AHeap.get_push, AHeap.get_del] at hz
      by_cases e : p = h.next
      · rw [if_pos (by simpa using e)] at hz; cases hz; subst e
        exact ⟨d, y', upd_self _ _ _, by rw [hd]; exact hy, hr⟩
      · rw [if_neg (by simpa using e)] at hz
        by_cases e' : p = o
        · rw [if_pos e'] at hz; cases hz
        · rw [if_neg e'] at hz
          obtain ⟨g, z', h1, h2, h3⟩ := H.objs p z hz
          refine ⟨g, z', by rw [upd_ne e]; exact h1, ?_, ORel.mono (ext_upd (H.fresh _ (Nat.le_refl _))) _ _ h3⟩
          rw [hk _ fun hh => (H.inj p o z x g c hz hx h1 hc hh).elim e' fun hh => by rw [hf] at hh; cases hh.2]; exact h2
    inj := by
      intro p q z z' g g' hz hz' hg hg' hb
      rw [AHeap.get_push, AHeap.get_del] at hz hz'
      by_cases e : p = h.next
      · by_cases e' : q = h.next
        · exact .inl (by rw [e, e'])
        · rw [if_neg (by simpa using e')] at hz'
          by_cases eo : q = o
          · rw [if_pos eo] at hz'; cases hz'
          · rw [if_neg eo] at hz'
            rw [e, upd_self] at hg; cases hg
            rw [upd_ne e'] at hg'
            exact (H.inj q o z' x g' c hz' hx hg' hc (by rw [← hb, hd])).elim (fun hh => absurd hh eo) fun hh => by rw [hf] at hh; cases hh.2
      · rw [if_neg (by simpa using e)] at hz
        rw [upd_ne e] at hg
        by_cases eo : p = o
        · rw [if_pos eo] at hz; cases hz
        · rw [if_neg eo] at hz
          by_cases e' : q = h.next
          · rw [e', upd_self] at hg'; cases hg'
            exact (H.inj p o z x g c hz hx hg hc (by rw [hb, hd])).elim (fun hh => absurd hh eo) fun hh => by rw [hf] at hh; cases hh.2
          · rw [if_neg (by simpa using e')] at hz'
            rw [upd_ne e'] at hg'
            by_cases eo' : q = o
            · rw [if_pos eo'] at hz'; cases hz'
            · rw [if_neg eo'] at hz'
              exact H.inj p q z z' g g' hz hz' hg hg' hb
    fresh := by
      intro p hp
      simp at hp
      rw [upd_ne (by omega)]; exact H.fresh p (by omega)
    rets := by
      intro b z hz
      obtain ⟨⟨e, fr, g1⟩, g2⟩ := H.rets b z hz
      refine ⟨⟨e, fr, by rw [hk b fun hh => g2 o x c hx hf hc hh.symm]; exact g1⟩, fun p y g hy hyf hg => ?_⟩
      rw [AHeap.get_push, AHeap.get_del] at hy
      by_cases e : p = h.next
      · rw [e, upd_self] at hg; cases hg; rw [hd]; exact g2 o x c hx hf hc
      · rw [if_neg (by simpa using e)] at hy; rw [upd_ne e] at hg
        by_cases eo : p = o
        · rw [if_pos eo] at hy; cases hy
        · rw [if_neg eo] at hy; exact g2 p y g hy hyf hg
    fixed := by
      intro p y g hy hyf hg
      rw [AHeap.get_push, AHeap.get_del] at hy
      by_cases e : p = h.next
      · rw [if_pos (by simpa using e)] at hy; cases hy; rw [hf'] at hyf; cases hyf
      · rw [if_neg (by simpa using e)] at hy; rw [upd_ne e] at hg
        by_cases eo : p = o
        · rw [if_pos eo] at hy; cases hy
        · rw [if_neg eo] at hy; exact H.fixed p y g hy hyf hg }
  kept := by
    intro b _ hn
    exact hk b fun hh => hn o x c hx hf hc hh.symm
  size := by omega
  outp := ho
  os := hos
  blks := by
    intro p z g hz hzf hg
    rw [AHeap.get_push, AHeap.get_del] at hz
    by_cases e : p = h.next
    · rw [e, upd_self] at hg; cases hg; exact .inl ⟨o, x, c, hx, hf, hc, hd.symm⟩
    · rw [if_neg (by simpa using e)] at hz; rw [upd_ne e] at hg
      by_cases eo : p = o
      · rw [if_pos eo] at hz; cases hz
      · rw [if_neg eo] at hz; exact .inl ⟨p, z, g, hz, hzf, hg, rfl⟩
  ids := by
    intro p hp
    by_cases e : p = h.next
    · right; subst e; simp
    · rw [upd_ne e] at hp; exact .inl hp
  next := by simp
  rids := fun _ hb => .inl hb
  views := rfl

/-- An object that is gone. -/
theorem HRel.del {ρ : Rho} {h : AHeap} {w : World} (H : HRel ρ h w) (o : Nat) : HRel ρ (h.del o) w where
  objs := by
    intro p z hz
    rw [AHeap.get_del] at hz
    split at hz
    · cases hz
    · exact H.objs p z hz
  inj := by
    intro p q z z' d d' hz hz' hd hd' hb
    rw [AHeap.get_del] at hz hz'
    split at hz
    · cases hz
    · split at hz'
      · cases hz'
      · exact H.inj p q z z' d d' hz hz' hd hd' hb
  fresh := H.fresh
  rets := by
    intro b z hz
    obtain ⟨g1, g2⟩ := H.rets b z hz
    refine ⟨g1, fun p y d hy hyf hd => ?_⟩
    rw [AHeap.get_del] at hy
    split at hy
    · cases hy
    · exact g2 p y d hy hyf hd
  fixed := by
    intro p y d hy hyf hd
    rw [AHeap.get_del] at hy
    split at hy
    · cases hy
    · exact H.fixed p y d hy hyf hd
theorem Trans.ofDel {ρ : Rho} {h : AHeap} {w : World} (H : HRel ρ h w) (o : Nat) : Trans ρ h w ρ (h.del o) w where
  ext := .refl ρ
  rel := H.del o
  kept := fun _ _ _ => rfl
  size := Nat.le_refl _
  outp := rfl
  os := rfl
  blks := by
    intro p z d hz hzf hd
    rw [AHeap.get_del] at hz
    split at hz
    · cases hz
    · exact .inl ⟨p, z, d, hz, hzf, hd, rfl⟩
  ids := fun _ hp => .inl hp
  next := Nat.le_refl _
  rids := fun _ hb => .inl hb
  views := rfl

/-! ### writing -/
theorem writeRow_run {P : Program} {ρ : Rho} {h h' : AHeap} {w : World} (H : HRel ρ h w) {a : ALoc} {vs : List AV} {us : List Value}
    (hw : writeRow h a vs = some h') (hv : VRL ρ vs us) :
    ∃ c w', ρ a.obj = some c ∧ (storeCells (c.at a.off) us).run P w = .ok () w' ∧ Trans ρ h w ρ h' w' := by
  unfold writeRow at hw
  obtain ⟨r, hrow, hw⟩ := bnd_eq_some.mp hw
  rw [cnd_eq] at hw
  split at hw
  · cases hw
  · rename_i hfz
    rw [cnd_eq] at hw
    split at hw
    · rename_i hall
      rw [allA_eq] at hall
      obtain ⟨cs', hov, hw⟩ := bnd_eq_some.mp hw
      cases hw
      have hfz' : r.froz = false := by simpa using hfz
      have hg := row_of hrow
      obtain ⟨c, y, hc, hy, hrel⟩ := H.objs _ _ hg
      obtain ⟨cs, fr, rfl, hsz, hcells, hcap1, hcap2, hfro, hend⟩ := hrel
      obtain ⟨o1, o2, o3⟩ := over_eq_some hov
      have hlen := hv.length
      obtain ⟨w', cs2, s1, s2, s3, s4, s5, s6, s7, s8⟩ := run_storeCells (P := P) us 0 w c a.off cs r.elem fr hy
        (by
          rcases o1 with o1 | o1
          · left; rw [o1] at hlen; exact List.length_eq_zero_iff.mp hlen
          · right; rw [hlen]; omega)
        (fun j hj => hfro hfz' _ (by
          rcases o1 with o1 | o1
          · rw [o1] at hlen; simp at hlen; subst hlen; simp at hj
          · omega))
        (fun u hu => by
          obtain ⟨i, hi⟩ := List.getElem?_of_mem hu
          have hi' : i < vs.length := by rw [← hlen]; exact (List.getElem?_eq_some_iff.mp hi).1
          obtain ⟨v, hv1, hv2⟩ := hv.get (List.getElem?_eq_getElem hi')
          rw [hi] at hv1; cases hv1
          exact hv2.oneCell (List.all_eq_true.mp hall _ (List.getElem_mem hi')))
      refine ⟨c, w', hc, s1, Trans.ofSet H hg hfz' hc s2 ?_ s5 s6 s7 s8⟩
      refine ⟨cs2, fr, rfl, by rw [o2, s3]; exact hsz, ?_, by rw [o2]; exact hcap1, by rw [s3]; exact hcap2, fun _ i hi => hfro hfz' i (by rw [s3] at hi; exact hi), fun h1 => by rw [s3]; exact hend h1⟩
      intro i b hb
      rw [o3] at hb
      rw [s4]
      by_cases hi : a.off ≤ i ∧ i < a.off + vs.length
      · rw [if_pos hi] at hb
        rw [if_pos (by rw [hlen]; omega)]
        obtain ⟨v, g1, g2⟩ := hv.get hb
        exact ⟨List.all_eq_true.mp hall _ (List.mem_of_getElem? hb), v, by rw [show c.base + i - (c.base + (a.off + 0)) = i - a.off by omega]; exact g1, g2⟩
      · rw [if_neg hi] at hb
        rw [if_neg (by rw [hlen]; omega)]
        exact hcells i b hb
    · cases hw

/-! ### making -/
theorem ORel.ofCells {ρ : Rho} {b k e s : Nat} {cells : List AV} {us : List Value} {rest : List Value} (hv : VRL ρ cells us) (hs : cells.all AV.scalar = true)
    (hk : cells.length ≤ k * s) (hr : k * s ≤ us.length + rest.length) :
    ORel ρ ⟨b, 0, k⟩ (.row e s false cells) (.cells ((us ++ rest).toArray) e) := by
  have hl := hv.length
  refine ⟨(us ++ rest).toArray, (0, 0), rfl, by simp; omega, ?_, hk, by simp; omega, fun _ i _ => by simp, fun _ => by simp⟩
  intro i a ha
  refine ⟨List.all_eq_true.mp hs _ (List.mem_of_getElem? ha), ?_⟩
  obtain ⟨v, g1, g2⟩ := hv.get ha
  refine ⟨v, ?_, g2⟩
  have : i < us.length := (List.getElem?_eq_some_iff.mp g1).1
  simp only [Nat.zero_add, List.getElem?_toArray]
  rw [List.getElem?_append_left this]; exact g1

theorem newRow_run {P : Program} {ρ : Rho} {h : AHeap} {w : World} (H : HRel ρ h w) {e s k : Nat} {cells : List AV} {us : Array Value}
    (hv : VRL ρ cells us.toList) (hs : cells.all AV.scalar = true) (hk : cells.length = k * s) :
    ∃ w', (newRow e us).run P w = .ok ⟨w.heap.size, 0, none⟩ w' ∧ Trans ρ h w (upd ρ h.next ⟨w.heap.size, 0, k⟩) (h.push (.row e s false cells)) w' := by
  refine ⟨{ w with heap := w.heap.push (.cells us e) }, by unfold newRow; simp, Trans.ofPush H rfl ?_ rfl rfl⟩
  have := ORel.ofCells (ρ := upd ρ h.next ⟨w.heap.size, 0, k⟩) (b := w.heap.size) (k := k) (e := e) (s := s) (us := us.toList) (rest := [])
    (VRL.mono (ext_upd (H.fresh _ (Nat.le_refl _))) _ _ hv) hs (by omega) (by simp; rw [← Array.length_toList, hv.length]; omega)
  simpa using this

end Go.Proofs.YtonojkcnencodaaDoor.BH
