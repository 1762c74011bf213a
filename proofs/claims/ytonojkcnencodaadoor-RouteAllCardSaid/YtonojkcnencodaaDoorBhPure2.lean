/-
  BH: freezing is sound.
-/
import Derived.Test.YtonojkcnencodaaDoorBhPure
import Derived.Test.YtonojkcnencodaaDoorBhFun
namespace Go.Proofs.YtonojkcnencodaaDoor.BH

section
variable {P : Program} {ρ : Rho} {h : AHeap} {w : World}

noncomputable def closedL (l : List AV) : Bool :=
  AV.rec_1 (motive_1 := fun _ => Bool) (motive_2 := fun _ => Bool) (fun _ => true) (fun _ _ => true) (fun _ => true) (fun a => notSome a) (fun _ _ _ => false) (fun r => notSome r) (fun r => notSome r)
    (fun _ _ _ i j => cnd i j false) true (fun _ _ i => i) true (fun _ i => i) (fun _ i => i) (fun _ n f _ _ => cnd f (cnd (Nat.beq n 0) false true) true) (fun _ _ _ => true) true (fun _ _ i j => cnd i j false) l
noncomputable def doneL (l : List AV) : Bool :=
  AV.rec_1 (motive_1 := fun _ => Bool) (motive_2 := fun _ => Bool) (fun _ => true) (fun _ _ => true) (fun _ => true) (fun a => notSome a) (fun _ _ _ => false) (fun r => notSome r) (fun r => notSome r)
    (fun _ _ _ i j => cnd i j false) true (fun _ _ i => i) true (fun _ i => i) (fun _ i => i) (fun _ n f pf _ => cnd pf (cnd f (cnd (Nat.beq n 0) false true) true) false) (fun _ _ _ => false) true (fun _ _ i j => cnd i j false) l
noncomputable def plainL (l : List AV) : Bool :=
  AV.rec_1 (motive_1 := fun _ => Bool) (motive_2 := fun _ => Bool) (fun _ => true) (fun _ _ => true) (fun _ => true) (fun a => notSome a) (fun _ _ _ => false) (fun r => notSome r) (fun r => notSome r)
    (fun _ _ _ i j => cnd i j false) true (fun _ _ i => i) true (fun _ i => i) (fun _ i => i) (fun _ _ _ _ _ => false) (fun _ _ _ => false) true (fun _ _ i j => cnd i j false) l

theorem cnd_and {a b : Bool} (h : cnd a b false = true) : a = true ∧ b = true := by
  cases a
  · cases h
  · exact ⟨rfl, h⟩
theorem closedL_eq : ∀ l : List AV, closedL l = l.all closedV
  | [] => rfl
  | a :: r => by
    show cnd (closedV a) (closedL r) false = _
    rw [closedL_eq r]; cases ha : closedV a <;> simp [ha]
theorem doneL_eq : ∀ l : List AV, doneL l = l.all doneV
  | [] => rfl
  | a :: r => by
    show cnd (doneV a) (doneL r) false = _
    rw [doneL_eq r]; cases ha : doneV a <;> simp [ha]

mutual
theorem closed_noloc {ρ : Rho} : ∀ (a : AV) (v : Value), closedV a = true → VR ρ a v → VR ρ.noloc a v
  | .bool _, _, _, h => by simp only [VR] at h ⊢; exact h
  | .int _ _, _, _, h => by simp only [VR] at h ⊢; exact h
  | .str _, _, _, h => by simp only [VR] at h ⊢; exact h
  | .ptr none, _, _, h => by simp only [VR] at h ⊢; exact h
  | .ptr (some a), _, c, _ => by cases c
  | .slice _ _ _, _, c, _ => by cases c
  | .map none, _, _, h => by simp only [VR] at h ⊢; exact h
  | .map (some r), _, c, _ => by cases c
  | .chan none, _, _, h => by simp only [VR] at h ⊢; exact h
  | .chan (some r), _, c, _ => by cases c
  | .func _ a b, _, c, h => by
    have c : cnd (closedL a) (closedL b) false = true := c
    simp only [VR] at h ⊢; obtain ⟨x, y, h1, h2, h3⟩ := h
    exact ⟨x, y, h1, closedL_noloc a _ (cnd_and c).1 h2, closedL_noloc b _ (cnd_and c).2 h3⟩
  | .nilFunc, _, _, h => by simp only [VR] at h ⊢; exact h
  | .iface _ x, _, c, h => by
    have c : closedV x = true := c
    simp only [VR] at h ⊢; obtain ⟨y, h1, h2⟩ := h; exact ⟨y, h1, closed_noloc x y c h2⟩
  | .nilIface, _, _, h => by simp only [VR] at h ⊢; exact h
  | .agg cs, _, c, h => by
    have c : closedL cs = true := c
    simp only [VR] at h ⊢; obtain ⟨x, h1, h2⟩ := h; exact ⟨x, h1, closedL_noloc cs _ c h2⟩
  | .tuple cs, _, c, h => by
    have c : closedL cs = true := c
    simp only [VR] at h ⊢; obtain ⟨x, h1, h2⟩ := h; exact ⟨x, h1, closedL_noloc cs _ c h2⟩
  | .lst _ _ _ pf, _, _, h => by
    simp only [VR] at h ⊢
    cases pf <;> exact h
  | .cptr _ _, _, _, h => by simp only [VR] at h ⊢; exact h
theorem closedL_noloc {ρ : Rho} : ∀ (l : List AV) (m : List Value), closedL l = true → VRL ρ l m → VRL ρ.noloc l m
  | [], _, _, h => by simp only [VRL] at h ⊢; exact h
  | a :: r, _, c, h => by
    have c : cnd (closedV a) (closedL r) false = true := c
    simp only [VRL] at h ⊢; obtain ⟨v, l', h1, h2, h3⟩ := h
    exact ⟨v, l', h1, closed_noloc a v (cnd_and c).1 h2, closedL_noloc r l' (cnd_and c).2 h3⟩
end

mutual
theorem done_noview {ρ : Rho} : ∀ (a : AV) (v : Value), doneV a = true → VR ρ a v → VR ρ.noview a v
  | .bool _, _, _, h => by simp only [VR] at h ⊢; exact h
  | .int _ _, _, _, h => by simp only [VR] at h ⊢; exact h
  | .str _, _, _, h => by simp only [VR] at h ⊢; exact h
  | .ptr none, _, _, h => by simp only [VR] at h ⊢; exact h
  | .ptr (some a), _, c, _ => by cases c
  | .slice _ _ _, _, c, _ => by cases c
  | .map none, _, _, h => by simp only [VR] at h ⊢; exact h
  | .map (some r), _, c, _ => by cases c
  | .chan none, _, _, h => by simp only [VR] at h ⊢; exact h
  | .chan (some r), _, c, _ => by cases c
  | .func _ a b, _, c, h => by
    have c : cnd (doneL a) (doneL b) false = true := c
    simp only [VR] at h ⊢; obtain ⟨x, y, h1, h2, h3⟩ := h
    exact ⟨x, y, h1, doneL_noview a _ (cnd_and c).1 h2, doneL_noview b _ (cnd_and c).2 h3⟩
  | .nilFunc, _, _, h => by simp only [VR] at h ⊢; exact h
  | .iface _ x, _, c, h => by
    have c : doneV x = true := c
    simp only [VR] at h ⊢; obtain ⟨y, h1, h2⟩ := h; exact ⟨y, h1, done_noview x y c h2⟩
  | .nilIface, _, _, h => by simp only [VR] at h ⊢; exact h
  | .agg cs, _, c, h => by
    have c : doneL cs = true := c
    simp only [VR] at h ⊢; obtain ⟨x, h1, h2⟩ := h; exact ⟨x, h1, doneL_noview cs _ c h2⟩
  | .tuple cs, _, c, h => by
    have c : doneL cs = true := c
    simp only [VR] at h ⊢; obtain ⟨x, h1, h2⟩ := h; exact ⟨x, h1, doneL_noview cs _ c h2⟩
  | .lst _ _ _ pf, _, c, h => by
    have c : pf = true := (cnd_and c).1
    subst c
    simp only [VR] at h ⊢; exact h
  | .cptr _ _, _, c, _ => by cases c
theorem doneL_noview {ρ : Rho} : ∀ (l : List AV) (m : List Value), doneL l = true → VRL ρ l m → VRL ρ.noview l m
  | [], _, _, h => by simp only [VRL] at h ⊢; exact h
  | a :: r, _, c, h => by
    have c : cnd (doneV a) (doneL r) false = true := c
    simp only [VRL] at h ⊢; obtain ⟨v, l', h1, h2, h3⟩ := h
    exact ⟨v, l', h1, done_noview a v (cnd_and c).1 h2, doneL_noview r l' (cnd_and c).2 h3⟩
end

mutual
theorem plain_any {ρ σ : Rho} : ∀ (a : AV) (v : Value), plainV a = true → VR ρ a v → VR σ a v
  | .bool _, _, _, h => by simp only [VR] at h ⊢; exact h
  | .int _ _, _, _, h => by simp only [VR] at h ⊢; exact h
  | .str _, _, _, h => by simp only [VR] at h ⊢; exact h
  | .ptr none, _, _, h => by simp only [VR] at h ⊢; exact h
  | .ptr (some a), _, c, _ => by cases c
  | .slice _ _ _, _, c, _ => by cases c
  | .map none, _, _, h => by simp only [VR] at h ⊢; exact h
  | .map (some r), _, c, _ => by cases c
  | .chan none, _, _, h => by simp only [VR] at h ⊢; exact h
  | .chan (some r), _, c, _ => by cases c
  | .func _ a b, _, c, h => by
    have c : cnd (plainL a) (plainL b) false = true := c
    simp only [VR] at h ⊢; obtain ⟨x, y, h1, h2, h3⟩ := h
    exact ⟨x, y, h1, plainL_any a _ (cnd_and c).1 h2, plainL_any b _ (cnd_and c).2 h3⟩
  | .nilFunc, _, _, h => by simp only [VR] at h ⊢; exact h
  | .iface _ x, _, c, h => by
    have c : plainV x = true := c
    simp only [VR] at h ⊢; obtain ⟨y, h1, h2⟩ := h; exact ⟨y, h1, plain_any x y c h2⟩
  | .nilIface, _, _, h => by simp only [VR] at h ⊢; exact h
  | .agg cs, _, c, h => by
    have c : plainL cs = true := c
    simp only [VR] at h ⊢; obtain ⟨x, h1, h2⟩ := h; exact ⟨x, h1, plainL_any cs _ c h2⟩
  | .tuple cs, _, c, h => by
    have c : plainL cs = true := c
    simp only [VR] at h ⊢; obtain ⟨x, h1, h2⟩ := h; exact ⟨x, h1, plainL_any cs _ c h2⟩
  | .lst _ _ _ _, _, c, _ => by cases c
  | .cptr _ _, _, c, _ => by cases c
theorem plainL_any {ρ σ : Rho} : ∀ (l : List AV) (m : List Value), plainL l = true → VRL ρ l m → VRL σ l m
  | [], _, _, h => by simp only [VRL] at h ⊢; exact h
  | a :: r, _, c, h => by
    have c : cnd (plainV a) (plainL r) false = true := c
    simp only [VRL] at h ⊢; obtain ⟨v, l', h1, h2, h3⟩ := h
    exact ⟨v, l', h1, plain_any a v (cnd_and c).1 h2, plainL_any r l' (cnd_and c).2 h3⟩
end

/-! ### blocks -/
def cellsOf (w : World) (b : Nat) : Option (Array Value) :=
  match w.heap[b]? with
  | some (.cells x _ _) => some x
  | _ => none
theorem cellsOf_of {b : Nat} {x : Array Value} {e : TypeId} {fr : Nat × Nat} (h : w.heap[b]? = some (.cells x e fr)) : cellsOf w b = some x := by
  unfold cellsOf; rw [h]
theorem of_cellsOf {b : Nat} {x : Array Value} (h : cellsOf w b = some x) : ∃ e fr, w.heap[b]? = some (.cells x e fr) := by
  unfold cellsOf at h
  split at h
  · rename_i hh; cases h; exact ⟨_, _, hh⟩
  · cases h
/-- As a callee sees it: nothing is its own; what is frozen is so; all the rest may be looked at. -/
def Rho.call (ρ : Rho) (w : World) (A : Nat → Bool) : Rho := ⟨fun _ => none, ρ.ret, fun b => cnd (A b) none (cellsOf w b)⟩
/-- Blocks that are nobody's here. -/
structure Clear (A : Nat → Bool) (ρ : Rho) (h : AHeap) (w : World) : Prop where
  lt : ∀ b, A b = true → b < w.heap.size
  ret : ∀ b, A b = true → ρ.ret b = none
  view : ∀ b, A b = true → ρ.view b = none
  objs : ∀ b o x c, A b = true → h.get o = some x → ρ o = some c → c.blk ≠ b
theorem Clear.no (ρ : Rho) (h : AHeap) (w : World) : Clear (fun _ => false) ρ h w := ⟨fun _ h => (by cases h), fun _ h => (by cases h), fun _ h => (by cases h), fun _ _ _ _ h => (by cases h)⟩
def Rho.all (w : World) : Rho := ⟨fun _ => none, cellsOf w, cellsOf w⟩

theorem HRel.cellsOf (H : HRel ρ h w) {b : Nat} {x : Array Value} (hb : ρ.ret b = some x ∨ ρ.view b = some x) : BH.cellsOf w b = some x := by
  obtain ⟨⟨e, fr, h1⟩, _⟩ := H.rets b x hb
  exact cellsOf_of h1
theorem call_view {A : Nat → Bool} {b : Nat} {x : Array Value} (hA : A b = false) (hx : BH.cellsOf w b = some x) : (ρ.call w A).view b = some x := by
  show cnd (A b) none (BH.cellsOf w b) = some x
  rw [hA]; exact hx
theorem call_ext {A : Nat → Bool} (H : HRel ρ h w) (C : Clear A ρ h w) : Ext ρ.noloc (ρ.call w A) := by
  refine ⟨fun _ _ h => (by cases h), fun _ _ h => h, fun b x hx => call_view ?_ (H.cellsOf (.inr hx))⟩
  cases hA : A b with
  | false => rfl
  | true => have := C.view b hA; replace hx : ρ.view b = some x := hx; rw [this] at hx; cases hx
theorem all_ext (H : HRel ρ h w) : Ext ρ.noloc (Rho.all w) := ⟨fun _ _ h => (by cases h), fun _ _ h => H.cellsOf (.inl h), fun _ _ h => H.cellsOf (.inr h)⟩
theorem call_mono {A : Nat → Bool} {ρ' : Rho} (he : Ext ρ ρ') : Ext (ρ.call w A) (ρ'.call w A) := ⟨fun _ _ h => (by cases h), he.ret, fun _ _ h => h⟩
theorem call_inner (ρ : Rho) (w : World) (A : Nat → Bool) (pf : Bool) {cs : List AV} {us : List Value} (hp : pf = true → cs.all doneV = true) (hv : VRL (ρ.call w A) cs us) : VRL ((ρ.call w A).inner pf) cs us := by
  cases pf
  · exact hv
  · exact doneL_noview cs us (by rw [doneL_eq]; exact hp rfl) hv
theorem all_inner (w : World) (pf : Bool) {cs : List AV} {us : List Value} (hp : pf = true → cs.all doneV = true) (hv : VRL (Rho.all w) cs us) : VRL ((Rho.all w).inner pf) cs us := by
  cases pf
  · exact hv
  · exact doneL_noview cs us (by rw [doneL_eq]; exact hp rfl) hv

/-- What a row is in a world. -/
theorem row_block (H : HRel ρ h w) {o : Nat} {r : ARow} (hr : rowAt h o = some r) : ∃ c x e fr, ρ o = some c ∧ w.heap[c.blk]? = some (.cells x e fr) ∧
    ∀ (off n : Nat) (l : List AV), slots r.cells off n = some l → l.all AV.scalar = true ∧ ∃ us, VRL ρ l us ∧ ∀ (i : Nat) (u : Value), us[i]? = some u → x[c.base + off + i]? = some u := by
  obtain ⟨c, y, hc, hy, hrel⟩ := H.objs _ _ (row_of hr)
  obtain ⟨x, fr, rfl, _, hcells, _⟩ := hrel
  refine ⟨c, x, _, fr, hc, hy, fun off n l hl => ?_⟩
  obtain ⟨h1, h2⟩ := slots_eq_some hl
  subst h2
  refine ⟨?_, ((x.toList.drop (c.base + off)).take ((r.cells.drop off).take n).length), ?_, ?_⟩
  · rw [List.all_eq_true]
    intro a ha
    obtain ⟨i, hi⟩ := List.getElem?_of_mem ha
    rw [List.getElem?_take] at hi
    split at hi
    · rw [List.getElem?_drop] at hi; exact (hcells _ _ hi).1
    · cases hi
  · refine VRL.of_get ?_ fun i a ha => ?_
    · by_cases h0 : ((r.cells.drop off).take n).length = 0
      · simp [h0]
      · have hlast : ((r.cells.drop off).take n).length - 1 < ((r.cells.drop off).take n).length := by omega
        have hg := List.getElem?_eq_getElem hlast
        rw [List.getElem?_take] at hg
        split at hg
        · rw [List.getElem?_drop] at hg
          obtain ⟨_, v, hv, _⟩ := hcells _ _ hg
          have hsz := (Array.getElem?_eq_some_iff.mp hv).1
          have e2 : x.toList.length = x.size := by simp
          refine List.length_take_of_le ?_
          rw [List.length_drop, e2]
          omega
        · cases hg
    · have hi := (List.getElem?_eq_some_iff.mp ha).1
      rw [List.getElem?_take, if_pos hi, List.getElem?_drop]
      rw [List.getElem?_take] at ha
      split at ha
      · rw [List.getElem?_drop] at ha
        obtain ⟨_, v, hv, hvr⟩ := hcells _ _ ha
        exact ⟨v, by rw [Array.getElem?_toList, Nat.add_assoc]; exact hv, hvr⟩
      · cases ha
  · intro i u hu
    rw [List.getElem?_take] at hu
    split at hu
    · rw [List.getElem?_drop, Array.getElem?_toList] at hu; exact hu
    · cases hu

/-! ### a row frozen -/
/-- What freezing keeps: the places. -/
structure FT (ρ : Rho) (h : AHeap) (ρ' : Rho) (h' : AHeap) (w : World) : Prop where
  t : Trans ρ h w ρ' h' w
  loc : ρ'.loc = ρ.loc
  next : h'.next = h.next
  objs : ∀ o x, h'.get o = some x → ∃ x₀, h.get o = some x₀
theorem FT.refl (H : HRel ρ h w) : FT ρ h ρ h w := ⟨.refl H, rfl, rfl, fun _ x h => ⟨x, h⟩⟩
theorem FT.clear {A : Nat → Bool} {ρ' : Rho} {h' : AHeap} (a : FT ρ h ρ' h' w) (C : Clear A ρ h w) : Clear A ρ' h' w := by
  refine ⟨C.lt, fun b hA => ?_, fun b hA => by rw [a.t.views]; exact C.view b hA, fun b o x c hA hx hc => ?_⟩
  · cases hr : ρ'.ret b with
    | none => rfl
    | some z =>
      rcases a.t.rids b (by rw [hr]; simp) with hh | hh | ⟨o, x, c, hx, _, hc, e⟩
      · exact absurd (C.ret b hA) hh
      · have := C.lt b hA; omega
      · exact absurd e (C.objs b o x c hA hx hc)
  · obtain ⟨x₀, h₀⟩ := a.objs o x hx
    exact C.objs b o x₀ c hA h₀ (by rw [← a.loc]; exact hc)
theorem FT.trans {ρ' ρ'' : Rho} {h' h'' : AHeap} (a : FT ρ h ρ' h' w) (b : FT ρ' h' ρ'' h'' w) : FT ρ h ρ'' h'' w := ⟨a.t.trans b.t, b.loc.trans a.loc, b.next.trans a.next, fun o x hx => let ⟨x₁, h₁⟩ := b.objs o x hx; a.objs o x₁ h₁⟩

theorem still_ok (H : HRel ρ h w) {o : Nat} {h' : AHeap} (hs : still h o = some h') : ∃ ρ', FT ρ h ρ' h' w ∧ ∀ c, ρ o = some c → ρ'.ret c.blk = BH.cellsOf w c.blk ∧ ρ'.ret c.blk ≠ none := by
  unfold still at hs
  obtain ⟨r, hr, hs⟩ := bnd_eq_some.mp hs
  rw [cnd_eq] at hs
  split at hs
  · rename_i hf
    cases hs
    refine ⟨ρ, FT.refl H, fun c hc => ?_⟩
    have := H.fixed o _ c (row_of hr) (by simpa [AObj.fix] using hf) hc
    refine ⟨?_, this⟩
    cases hx : ρ.ret c.blk with
    | none => exact absurd hx this
    | some x => exact (H.cellsOf (.inl hx)).symm
  · rename_i hf
    cases hs
    have hff : r.froz = false := by simpa using hf
    obtain ⟨c, y, hc, hy, hrel⟩ := H.objs _ _ (row_of hr)
    obtain ⟨x, fr, rfl, q1, q2, q3, q4, _, q6⟩ := hrel
    have hnew : ∀ b, (if b = c.blk then some x else ρ.ret b) ≠ none → ρ.ret b ≠ none ∨ b = c.blk := by
      intro b hb
      by_cases e : b = c.blk
      · exact .inr e
      · rw [if_neg e] at hb; exact .inl hb
    have hnone : ρ.ret c.blk = none := by
      cases hx : ρ.ret c.blk with
      | none => rfl
      | some z => exact absurd rfl ((H.rets c.blk z (.inl hx)).2 o _ c (row_of hr) (by simpa [AObj.fix] using hff) hc)
    have hext : Ext ρ ⟨ρ.loc, fun b => if b = c.blk then some x else ρ.ret b, ρ.view⟩ := by
      refine ⟨fun _ _ h => h, fun b z hz => ?_, fun _ _ h => h⟩
      by_cases e : b = c.blk
      · subst e; rw [hnone] at hz; cases hz
      · simp only [if_neg e]; exact hz
    refine ⟨⟨ρ.loc, fun b => if b = c.blk then some x else ρ.ret b, ρ.view⟩, ⟨⟨hext, ?_, fun _ _ _ => rfl, Nat.le_refl _, rfl, rfl, ?_, fun _ ho => .inl ho, Nat.le_refl _, ?_, rfl⟩, rfl, rfl, ?_⟩, ?_⟩
    · refine ⟨?_, ?_, H.fresh, ?_, ?_⟩
      · intro p z hz
        rw [AHeap.get_set] at hz
        by_cases e : p = o
        · rw [if_pos e] at hz; cases hz; subst e
          exact ⟨c, _, hc, hy, x, fr, rfl, q1, fun i a ha => let ⟨g1, v, g2, g3⟩ := q2 i a ha; ⟨g1, v, g2, VR.mono hext _ _ g3⟩, q3, q4, (fun hh => by cases hh), q6⟩
        · rw [if_neg e] at hz
          obtain ⟨d, y', g1, g2, g3⟩ := H.objs p z hz
          exact ⟨d, y', g1, g2, ORel.mono hext _ _ g3⟩
      · intro p q z z' d d' hz hz' hd hd' hb
        rw [AHeap.get_set] at hz hz'
        by_cases e : p = o
        · by_cases e' : q = o
          · exact .inl (e.trans e'.symm)
          · rw [if_neg e'] at hz'
            subst e
            rcases H.inj p q _ z' d d' (row_of hr) hz' hd hd' hb with hh | ⟨hh, _⟩
            · exact absurd hh.symm e'
            · simp [AObj.fix, hff] at hh
        · rw [if_neg e] at hz
          by_cases e' : q = o
          · subst e'
            rcases H.inj p q z _ d d' hz (row_of hr) hd hd' hb with hh | ⟨_, hh⟩
            · exact absurd hh e
            · simp [AObj.fix, hff] at hh
          · rw [if_neg e'] at hz'; exact H.inj p q z z' d d' hz hz' hd hd' hb
      · intro b z hz
        by_cases e : b = c.blk
        · subst e
          have hzx : z = x := by
            rcases hz with hz | hz
            · simp only [if_true] at hz; cases hz; rfl
            · have := H.cellsOf (.inr hz)
              rw [cellsOf_of hy] at this; cases this; rfl
          subst hzx
          refine ⟨⟨_, _, hy⟩, fun p y d hp hpf hd => ?_⟩
          rw [AHeap.get_set] at hp
          by_cases e : p = o
          · rw [if_pos e] at hp; cases hp; simp [AObj.fix] at hpf
          · rw [if_neg e] at hp
            intro hb
            rcases H.inj p o y _ d c hp (row_of hr) hd hc hb with hh | ⟨hh, _⟩
            · exact e hh
            · rw [hpf] at hh; cases hh
        · simp only [if_neg e] at hz
          obtain ⟨g1, g2⟩ := H.rets b z hz
          refine ⟨g1, fun p y d hp hpf hd => ?_⟩
          rw [AHeap.get_set] at hp
          by_cases e : p = o
          · rw [if_pos e] at hp; cases hp; simp [AObj.fix] at hpf
          · rw [if_neg e] at hp; exact g2 p y d hp hpf hd
      · intro p y d hp hpf hd
        rw [AHeap.get_set] at hp
        by_cases e : p = o
        · subst e
          have hd' : ρ p = some d := hd
          rw [hc] at hd'; cases hd'
          simp
        · rw [if_neg e] at hp
          have := H.fixed p y d hp hpf hd
          by_cases e2 : d.blk = c.blk
          · simp [e2]
          · simp only [if_neg e2]; exact this
    · intro p z d hz hzf hd
      rw [AHeap.get_set] at hz
      by_cases e : p = o
      · rw [if_pos e] at hz; cases hz; simp [AObj.fix] at hzf
      · rw [if_neg e] at hz; exact .inl ⟨p, z, d, hz, hzf, hd, rfl⟩
    · intro b hb
      rcases hnew b hb with hb | hb
      · exact .inl hb
      · exact .inr (.inr ⟨o, _, c, row_of hr, by simpa [AObj.fix] using hff, hc, hb.symm⟩)
    · intro p z hz
      rw [AHeap.get_set] at hz
      by_cases e : p = o
      · subst e; exact ⟨_, row_of hr⟩
      · rw [if_neg e] at hz; exact ⟨z, hz⟩
    · intro d hd
      rw [hc] at hd; cases hd
      refine ⟨?_, by simp⟩
      simp only [if_true]; exact (cellsOf_of hy).symm

/-! ### freezing -/
def FzOk (A : Nat → Bool) (f : Fz) (w : World) : Prop := ∀ (v : AV) (h : AHeap) (v' : AV) (h' : AHeap) (ρ : Rho) (u : Value), f v h = some (v', h') → VR ρ v u → HRel ρ h w → Clear A ρ h w →
  v'.scalar = v.scalar ∧ ∃ ρ', FT ρ h ρ' h' w ∧ VR (ρ'.call w A) v' u
def FzView (f : Fz) (w : World) : Prop := ∀ (v : AV) (h : AHeap) (v' : AV) (h' : AHeap) (ρ : Rho) (u : Value), f v h = some (v', h') → VR ρ v u → HRel ρ h w →
  v'.scalar = v.scalar ∧ h' = h ∧ VR (Rho.all w) v' u

theorem frzL_ok {A : Nat → Bool} {f : Fz} (hf : FzOk A f w) : ∀ (cs : List AV) (h : AHeap) (cs' : List AV) (h' : AHeap) (ρ : Rho) (us : List Value), frzL f cs h = some (cs', h') → VRL ρ cs us → HRel ρ h w → Clear A ρ h w →
    (cs.all AV.scalar = true → cs'.all AV.scalar = true) ∧ ∃ ρ', FT ρ h ρ' h' w ∧ VRL (ρ'.call w A) cs' us
  | [], h, cs', h', ρ, us, hr, hv, H, C => by
    cases hr
    simp only [VRL] at hv; subst hv
    exact ⟨fun h => h, ρ, .refl H, VRL.nil⟩
  | a :: r, h, cs', h', ρ, us, hr, hv, H, C => by
    replace hr : (bnd (f a h) fun x => bnd (frzL f r x.2) fun y => some (x.1 :: y.1, y.2)) = some (cs', h') := hr
    obtain ⟨x, hx, hr⟩ := bnd_eq_some.mp hr
    obtain ⟨y, hy, hr⟩ := bnd_eq_some.mp hr
    cases hr
    simp only [VRL] at hv
    obtain ⟨u, us', rfl, h1, h2⟩ := hv
    obtain ⟨s1, ρ1, t1, v1⟩ := hf _ _ _ _ _ _ hx h1 H C
    obtain ⟨s2, ρ2, t2, v2⟩ := frzL_ok hf r _ _ _ ρ1 us' hy (VRL.mono t1.t.ext _ _ h2) t1.t.rel (t1.clear C)
    refine ⟨fun hs => ?_, ρ2, t1.trans t2, VRL.cons (VR.mono (call_mono t2.t.ext) _ _ v1) v2⟩
    rw [List.all_cons, Bool.and_eq_true] at hs ⊢
    exact ⟨by rw [s1]; exact hs.1, s2 hs.2⟩
theorem frzL_view {f : Fz} (hf : FzView f w) : ∀ (cs : List AV) (h : AHeap) (cs' : List AV) (h' : AHeap) (ρ : Rho) (us : List Value), frzL f cs h = some (cs', h') → VRL ρ cs us → HRel ρ h w →
    (cs.all AV.scalar = true → cs'.all AV.scalar = true) ∧ h' = h ∧ VRL (Rho.all w) cs' us
  | [], h, cs', h', ρ, us, hr, hv, H => by
    cases hr
    simp only [VRL] at hv; subst hv
    exact ⟨fun h => h, rfl, VRL.nil⟩
  | a :: r, h, cs', h', ρ, us, hr, hv, H => by
    replace hr : (bnd (f a h) fun x => bnd (frzL f r x.2) fun y => some (x.1 :: y.1, y.2)) = some (cs', h') := hr
    obtain ⟨x, hx, hr⟩ := bnd_eq_some.mp hr
    obtain ⟨y, hy, hr⟩ := bnd_eq_some.mp hr
    cases hr
    simp only [VRL] at hv
    obtain ⟨u, us', rfl, h1, h2⟩ := hv
    obtain ⟨s1, e1, v1⟩ := hf _ _ _ _ _ _ hx h1 H
    rw [e1] at hy
    obtain ⟨s2, e2, v2⟩ := frzL_view hf r _ _ _ ρ us' hy h2 H
    refine ⟨fun hs => ?_, e2, VRL.cons v1 v2⟩
    rw [List.all_cons, Bool.and_eq_true] at hs ⊢
    exact ⟨by rw [s1]; exact hs.1, s2 hs.2⟩

theorem done_closed : ∀ l : List AV, l.all doneV = true → closedL l = true := by
  have key : (∀ a : AV, doneV a = true → closedV a = true) ∧ (∀ l : List AV, doneL l = true → closedL l = true) := by
    refine ⟨fun a => AV.rec (motive_1 := fun a => doneV a = true → closedV a = true) (motive_2 := fun l => doneL l = true → closedL l = true)
      (fun _ _ => rfl) (fun _ _ _ => rfl) (fun _ _ => rfl) (fun _ h => h) (fun _ _ _ h => h) (fun _ h => h) (fun _ h => h)
      (fun _ a b i j h => ?_) (fun _ => rfl) (fun _ _ i h => i h) (fun _ => rfl) (fun _ i h => i h) (fun _ i h => i h) (fun _ _ _ _ _ h => (cnd_and h).2) (fun _ _ _ _ => rfl) (fun _ => rfl) (fun a l i j h => ?_) a,
      fun l => AV.rec_1 (motive_1 := fun a => doneV a = true → closedV a = true) (motive_2 := fun l => doneL l = true → closedL l = true)
      (fun _ _ => rfl) (fun _ _ _ => rfl) (fun _ _ => rfl) (fun _ h => h) (fun _ _ _ h => h) (fun _ h => h) (fun _ h => h)
      (fun _ a b i j h => ?_) (fun _ => rfl) (fun _ _ i h => i h) (fun _ => rfl) (fun _ i h => i h) (fun _ i h => i h) (fun _ _ _ _ _ h => (cnd_and h).2) (fun _ _ _ _ => rfl) (fun _ => rfl) (fun a l i j h => ?_) l⟩
    all_goals
      first
        | (have h : cnd (doneL a) (doneL b) false = true := h
           show cnd (closedL a) (closedL b) false = true
           rw [i (cnd_and h).1, j (cnd_and h).2]; rfl)
        | (have h : cnd (doneV a) (doneL l) false = true := h
           show cnd (closedV a) (closedL l) false = true
           rw [i (cnd_and h).1, j (cnd_and h).2]; rfl)
  intro l hl
  exact key.2 l (by rw [doneL_eq]; exact hl)

theorem frzCells_ok {A : Nat → Bool} {f : Fz} (hf : FzOk A f w) {cs : List AV} {h : AHeap} {x : List AV × AHeap × Bool} {ρ : Rho} {us : List Value} (hr : frzCells f cs h = some x) (hv : VRL ρ cs us) (H : HRel ρ h w) (C : Clear A ρ h w) :
    (cs.all AV.scalar = true → x.1.all AV.scalar = true) ∧ ∃ ρ', FT ρ h ρ' x.2.1 w ∧ VRL (ρ'.call w A) x.1 us ∧ (x.2.2 = true → x.1.all doneV = true) := by
  unfold frzCells at hr
  rw [cnd_eq] at hr
  split at hr
  · rename_i hd
    rw [allA_eq] at hd
    cases hr
    exact ⟨fun h => h, ρ, .refl H, VRL.mono (call_ext H C) _ _ (closedL_noloc _ _ (done_closed _ hd) hv), fun _ => hd⟩
  · obtain ⟨y, hy, hr⟩ := bnd_eq_some.mp hr
    cases hr
    obtain ⟨s, ρ', t, v⟩ := frzL_ok hf _ _ _ _ _ _ hy hv H C
    exact ⟨s, ρ', t, v, fun hd => by rw [allA_eq] at hd; exact hd⟩
theorem frzCells_view {f : Fz} (hf : FzView f w) {cs : List AV} {h : AHeap} {x : List AV × AHeap × Bool} {ρ : Rho} {us : List Value} (hr : frzCells f cs h = some x) (hv : VRL ρ cs us) (H : HRel ρ h w) :
    (cs.all AV.scalar = true → x.1.all AV.scalar = true) ∧ x.2.1 = h ∧ VRL (Rho.all w) x.1 us ∧ (x.2.2 = true → x.1.all doneV = true) := by
  unfold frzCells at hr
  rw [cnd_eq] at hr
  split at hr
  · rename_i hd
    rw [allA_eq] at hd
    cases hr
    exact ⟨fun h => h, rfl, VRL.mono (all_ext H) _ _ (closedL_noloc _ _ (done_closed _ hd) hv), fun _ => hd⟩
  · obtain ⟨y, hy, hr⟩ := bnd_eq_some.mp hr
    cases hr
    obtain ⟨s, t, v⟩ := frzL_view hf _ _ _ _ _ _ hy hv H
    exact ⟨s, t, v, fun hd => by rw [allA_eq] at hd; exact hd⟩

theorem exactly_eq {c : ACap} {n : Nat} (d : CLoc) (h : exactly c n = true) : c.val d = n := by
  cases c with
  | exact k => have h : Nat.beq k n = true := h; rw [beqN] at h; exact h
  | op _ => cases h

theorem slots_all (cs : List AV) : slots cs 0 cs.length = some cs := by
  have : ∀ cs : List AV, takeN cs.length cs = some cs := by
    intro cs
    induction cs with
    | nil => rfl
    | cons a r ih => show (bnd (takeN r.length r) fun l => some (a :: l)) = _; rw [ih]; rfl
  exact this cs

theorem frzStep_ok {A : Nat → Bool} {f : Fz} (hf : FzOk A f w) : FzOk A (frzStep f true) w := by
  intro v h v' h' ρ u hr hv H C
  unfold frzStep at hr
  split at hr
  · cases hr
    simp only [VR] at hv
    obtain ⟨rfl, rfl, rfl⟩ := hv
    refine ⟨rfl, ρ, .refl H, ?_⟩
    simp only [VR]
    exact ⟨none, 0, rfl, Nat.le_refl _, fun _ => rfl, rfl, fun _ => rfl, .inl ⟨trivial, trivial, fun h => by cases h⟩⟩
  · rename_i a n c
    simp only [VR] at hv
    obtain ⟨d, ad, hd, rfl, hn, had⟩ := hv
    unfold frzSlice at hr
    rw [cnd_eq] at hr
    split at hr
    · rename_i h0
      rw [beqN] at h0
      subst h0
      cases hr
      refine ⟨rfl, ρ, .refl H, ?_⟩
      simp only [VR]
      exact ⟨_, _, rfl, Nat.zero_le _, fun hh => (by cases hh), rfl, fun h => (by cases h), .inl ⟨trivial, trivial, fun h => by cases h⟩⟩
    · rename_i h0
      rw [beqN] at h0
      obtain ⟨r, hrow, hr⟩ := bnd_eq_some.mp hr
      obtain ⟨cs, hcs, hr⟩ := bnd_eq_some.mp hr
      obtain ⟨x, hx, hr⟩ := bnd_eq_some.mp hr
      obtain ⟨h2, hst, hr⟩ := bnd_eq_some.mp hr
      cases hr
      replace hst : still x.2.1 a.obj = some h' := hst
      obtain ⟨d', bx, e, fr, hd', hblk, hcell⟩ := row_block H hrow
      rw [hd] at hd'; cases hd'
      obtain ⟨g1, us, g2, g3⟩ := hcell _ _ _ hcs
      obtain ⟨s1, ρ1, t1, v1, p1⟩ := frzCells_ok hf hx g2 H C
      obtain ⟨ρ2, t2, k2⟩ := still_ok t1.t.rel hst
      obtain ⟨k3, k4⟩ := k2 d (by rw [t1.loc]; exact hd)
      refine ⟨rfl, ρ2, t1.trans t2, ?_⟩
      simp only [VR]
      refine ⟨_, _, rfl, hn, fun hh => (by cases hh), s1 g1, fun h => (by cases h), .inr ⟨d.blk, d.base + a.off, bx, us, ?_, ?_, ?_, g3⟩⟩
      · rw [had (by omega)]; rfl
      · show ρ2.ret d.blk = some bx
        rw [k3, cellsOf_of hblk]
      · exact call_inner ρ2 w A _ p1 (VRL.mono (call_mono t2.t.ext) _ _ v1)
  · rename_i a
    simp only [VR] at hv
    obtain ⟨d, hd, rfl⟩ := hv
    unfold frzPtr at hr
    obtain ⟨r, hrow, hr⟩ := bnd_eq_some.mp hr
    obtain ⟨x, hx, hr⟩ := bnd_eq_some.mp hr
    cases hr
    obtain ⟨d', bx, e, fr, hd', hblk, hcell⟩ := row_block H hrow
    rw [hd] at hd'; cases hd'
    obtain ⟨g1, us, g2, g3⟩ := hcell _ _ _ (slots_all r.cells)
    obtain ⟨s1, ρ1, t1, v1, p1⟩ := frzCells_ok hf hx g2 H C
    refine ⟨rfl, ρ1, t1, ?_⟩
    simp only [VR]
    refine ⟨d.blk, d.base, bx, us, rfl, ?_, s1 g1, v1, fun i u hu => ?_⟩
    · refine .inl (call_view ?_ (cellsOf_of hblk))
      cases hA : A d.blk with
      | false => rfl
      | true => exact absurd rfl (C.objs _ _ _ _ hA (row_of hrow) hd)
    · have := g3 i u hu
      rwa [Nat.add_zero] at this
  · rename_i cs
    obtain ⟨x, hx, hr⟩ := bnd_eq_some.mp hr
    cases hr
    simp only [VR] at hv
    obtain ⟨vs, rfl, g2⟩ := hv
    obtain ⟨_, ρ1, t1, v1⟩ := frzL_ok hf _ _ _ _ _ _ hx g2 H C
    exact ⟨rfl, ρ1, t1, by simp only [VR]; exact ⟨vs, rfl, v1⟩⟩
  · rename_i cs
    obtain ⟨x, hx, hr⟩ := bnd_eq_some.mp hr
    cases hr
    simp only [VR] at hv
    obtain ⟨vs, rfl, g2⟩ := hv
    obtain ⟨_, ρ1, t1, v1⟩ := frzL_ok hf _ _ _ _ _ _ hx g2 H C
    exact ⟨rfl, ρ1, t1, by simp only [VR]; exact ⟨vs, rfl, v1⟩⟩
  · rename_i fn a b
    obtain ⟨x, hx, hr⟩ := bnd_eq_some.mp hr
    obtain ⟨y, hy, hr⟩ := bnd_eq_some.mp hr
    cases hr
    simp only [VR] at hv
    obtain ⟨va, vb, rfl, g2, g3⟩ := hv
    obtain ⟨_, ρ1, t1, v1⟩ := frzL_ok hf _ _ _ _ _ _ hx g2 H C
    obtain ⟨_, ρ2, t2, v2⟩ := frzL_ok hf _ _ _ _ _ _ hy (VRL.mono t1.t.ext _ _ g3) t1.t.rel (t1.clear C)
    exact ⟨rfl, ρ2, t1.trans t2, by simp only [VR]; exact ⟨va, vb, rfl, VRL.mono (call_mono t2.t.ext) _ _ v1, v2⟩⟩
  · rename_i t v
    obtain ⟨x, hx, hr⟩ := bnd_eq_some.mp hr
    cases hr
    simp only [VR] at hv
    obtain ⟨y, rfl, g2⟩ := hv
    obtain ⟨_, ρ1, t1, v1⟩ := hf _ _ _ _ _ _ hx g2 H C
    exact ⟨rfl, ρ1, t1, by simp only [VR]; exact ⟨y, rfl, v1⟩⟩
  · rename_i cs n f p
    rw [cnd_eq] at hr
    split at hr
    · rename_i h0
      rw [beqN] at h0
      subst h0
      cases hr
      simp only [VR] at hv
      obtain ⟨ao, cap, rfl, _, _, _, k5, _⟩ := hv
      refine ⟨rfl, ρ, .refl H, ?_⟩
      simp only [VR]
      exact ⟨ao, cap, rfl, Nat.zero_le _, fun h => (by cases h), rfl, k5, .inl ⟨trivial, trivial, fun h => by cases h⟩⟩
    · cases hr
  · cases hr

theorem frzStep_view {f : Fz} (hf : FzView f w) : FzView (frzStep f false) w := by
  intro v h v' h' ρ u hr hv H
  unfold frzStep at hr
  split at hr
  · cases hr
    simp only [VR] at hv
    obtain ⟨rfl, rfl, rfl⟩ := hv
    refine ⟨rfl, rfl, ?_⟩
    simp only [VR]
    exact ⟨none, 0, rfl, Nat.le_refl _, fun _ => rfl, rfl, fun _ => rfl, .inl ⟨trivial, trivial, fun h => by cases h⟩⟩
  · rename_i a n c
    simp only [VR] at hv
    obtain ⟨d, ad, hd, rfl, hn, had⟩ := hv
    unfold frzSlice at hr
    rw [cnd_eq] at hr
    split at hr
    · rename_i h0
      rw [beqN] at h0
      subst h0
      cases hr
      refine ⟨rfl, rfl, ?_⟩
      simp only [VR]
      exact ⟨_, _, rfl, Nat.zero_le _, fun hh => (by cases hh), rfl, fun h => (by cases h), .inl ⟨trivial, trivial, fun h => by cases h⟩⟩
    · rename_i h0
      rw [beqN] at h0
      obtain ⟨r, hrow, hr⟩ := bnd_eq_some.mp hr
      obtain ⟨cs, hcs, hr⟩ := bnd_eq_some.mp hr
      obtain ⟨x, hx, hr⟩ := bnd_eq_some.mp hr
      obtain ⟨h2, hst, hr⟩ := bnd_eq_some.mp hr
      cases hr
      replace hst : some x.2.1 = some h' := hst
      obtain ⟨d', bx, e, fr, hd', hblk, hcell⟩ := row_block H hrow
      rw [hd] at hd'; cases hd'
      obtain ⟨g1, us, g2, g3⟩ := hcell _ _ _ hcs
      obtain ⟨s1, t1, v1, p1⟩ := frzCells_view hf hx g2 H
      cases hst
      refine ⟨rfl, t1, ?_⟩
      simp only [VR]
      refine ⟨_, _, rfl, hn, fun hh => (by cases hh), s1 g1, fun h => (by cases h), .inr ⟨d.blk, d.base + a.off, bx, us, ?_, cellsOf_of hblk, all_inner w _ p1 v1, g3⟩⟩
      rw [had (by omega)]; rfl
  · rename_i a
    simp only [VR] at hv
    obtain ⟨d, hd, rfl⟩ := hv
    unfold frzPtr at hr
    obtain ⟨r, hrow, hr⟩ := bnd_eq_some.mp hr
    obtain ⟨x, hx, hr⟩ := bnd_eq_some.mp hr
    cases hr
    obtain ⟨d', bx, e, fr, hd', hblk, hcell⟩ := row_block H hrow
    rw [hd] at hd'; cases hd'
    obtain ⟨g1, us, g2, g3⟩ := hcell _ _ _ (slots_all r.cells)
    obtain ⟨s1, t1, v1, p1⟩ := frzCells_view hf hx g2 H
    refine ⟨rfl, t1, ?_⟩
    simp only [VR]
    refine ⟨d.blk, d.base, bx, us, rfl, .inl (cellsOf_of hblk), s1 g1, v1, fun i u hu => ?_⟩
    have := g3 i u hu
    rwa [Nat.add_zero] at this
  · rename_i cs
    obtain ⟨x, hx, hr⟩ := bnd_eq_some.mp hr
    cases hr
    simp only [VR] at hv
    obtain ⟨vs, rfl, g2⟩ := hv
    obtain ⟨_, t1, v1⟩ := frzL_view hf _ _ _ _ _ _ hx g2 H
    exact ⟨rfl, t1, by simp only [VR]; exact ⟨vs, rfl, v1⟩⟩
  · rename_i cs
    obtain ⟨x, hx, hr⟩ := bnd_eq_some.mp hr
    cases hr
    simp only [VR] at hv
    obtain ⟨vs, rfl, g2⟩ := hv
    obtain ⟨_, t1, v1⟩ := frzL_view hf _ _ _ _ _ _ hx g2 H
    exact ⟨rfl, t1, by simp only [VR]; exact ⟨vs, rfl, v1⟩⟩
  · rename_i fn a b
    obtain ⟨x, hx, hr⟩ := bnd_eq_some.mp hr
    obtain ⟨y, hy, hr⟩ := bnd_eq_some.mp hr
    cases hr
    simp only [VR] at hv
    obtain ⟨va, vb, rfl, g2, g3⟩ := hv
    obtain ⟨_, t1, v1⟩ := frzL_view hf _ _ _ _ _ _ hx g2 H
    rw [t1] at hy
    obtain ⟨_, t2, v2⟩ := frzL_view hf _ _ _ _ _ _ hy g3 H
    exact ⟨rfl, t2, by simp only [VR]; exact ⟨va, vb, rfl, v1, v2⟩⟩
  · rename_i t v
    obtain ⟨x, hx, hr⟩ := bnd_eq_some.mp hr
    cases hr
    simp only [VR] at hv
    obtain ⟨y, rfl, g2⟩ := hv
    obtain ⟨_, t1, v1⟩ := hf _ _ _ _ _ _ hx g2 H
    exact ⟨rfl, t1, by simp only [VR]; exact ⟨y, rfl, v1⟩⟩
  · rename_i cs n f p
    rw [cnd_eq] at hr
    split at hr
    · rename_i h0
      rw [beqN] at h0
      subst h0
      cases hr
      simp only [VR] at hv
      obtain ⟨ao, cap, rfl, _, _, _, k5, _⟩ := hv
      refine ⟨rfl, rfl, ?_⟩
      simp only [VR]
      exact ⟨ao, cap, rfl, Nat.zero_le _, fun h => (by cases h), rfl, k5, .inl ⟨trivial, trivial, fun h => by cases h⟩⟩
    · cases hr
  · cases hr

theorem frz_ok (A : Nat → Bool) (w : World) : ∀ n : Nat, FzOk A (frz true n) w
  | 0 => fun v h v' h' ρ u hr => by cases hr
  | n + 1 => by
    intro v h v' h' ρ u hr hv H C
    replace hr : cnd (closedV v) (some (v, h)) (frzStep (frz true n) true v h) = some (v', h') := hr
    rw [cnd_eq] at hr
    split at hr
    · rename_i hc
      cases hr
      exact ⟨rfl, ρ, .refl H, VR.mono (call_ext H C) _ _ (closed_noloc _ _ hc hv)⟩
    · exact frzStep_ok (frz_ok A w n) _ _ _ _ _ _ hr hv H C
theorem frz_view (w : World) : ∀ n : Nat, FzView (frz false n) w
  | 0 => fun v h v' h' ρ u hr => by cases hr
  | n + 1 => by
    intro v h v' h' ρ u hr hv H
    replace hr : cnd (closedV v) (some (v, h)) (frzStep (frz false n) false v h) = some (v', h') := hr
    rw [cnd_eq] at hr
    split at hr
    · rename_i hc
      cases hr
      exact ⟨rfl, rfl, VR.mono (all_ext H) _ _ (closed_noloc _ _ hc hv)⟩
    · exact frzStep_view (frz_view w n) _ _ _ _ _ _ hr hv H

theorem frzArgs_ok {A : Nat → Bool} {args : List AV} {h : AHeap} {x : List AV × AHeap} {us : List Value} (hr : frzArgs true args h = some x) (hv : VRL ρ args us) (H : HRel ρ h w) (C : Clear A ρ h w) :
    ∃ ρ', FT ρ h ρ' x.2 w ∧ VRL (ρ'.call w A) x.1 us := by
  unfold frzArgs at hr
  rw [cnd_eq] at hr
  split at hr
  · rename_i hc
    rw [allA_eq] at hc
    cases hr
    exact ⟨ρ, .refl H, VRL.mono (call_ext H C) _ _ (closedL_noloc _ _ (by rw [closedL_eq]; exact hc) hv)⟩
  · exact (frzL_ok (frz_ok A w _) _ _ _ _ _ _ hr hv H C).2
theorem frzArgs_view {args : List AV} {h : AHeap} {x : List AV × AHeap} {us : List Value} (hr : frzArgs false args h = some x) (hv : VRL ρ args us) (H : HRel ρ h w) :
    VRL (Rho.all w) x.1 us := by
  unfold frzArgs at hr
  rw [cnd_eq] at hr
  split at hr
  · rename_i hc
    rw [allA_eq] at hc
    cases hr
    exact VRL.mono (all_ext H) _ _ (closedL_noloc _ _ (by rw [closedL_eq]; exact hc) hv)
  · exact (frzL_view (frz_view w _) _ _ _ _ _ _ hr hv H).2.2

end
end Go.Proofs.YtonojkcnencodaaDoor.BH
