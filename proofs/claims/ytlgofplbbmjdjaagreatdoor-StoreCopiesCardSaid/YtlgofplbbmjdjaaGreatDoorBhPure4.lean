/-
  BH: freezing is sound.
-/
import Derived.Test.YtlgofplbbmjdjaaGreatDoorBhPure
import Derived.Test.YtlgofplbbmjdjaaGreatDoorBhFun
import Derived.Test.YtlgofplbbmjdjaaGreatDoorBhDraw3
namespace Go.Proofs.YtlgofplbbmjdjaaGreatDoor.BH

section
variable {P : Program} {ρ : Rho} {h : AHeap} {w : World}

noncomputable def closedL (l : List AV) : Bool :=
  AV.rec_1 (motive_1 := fun _ => Bool) (motive_2 := fun _ => Bool) (fun _ => true) (fun _ _ => true) (fun _ => true) (fun a => notSome a) (fun _ _ _ => false) (fun r => notSome r) (fun r => notSome r)
    (fun _ _ _ i j => cnd i j false) true (fun _ _ i => i) true (fun _ i => i) (fun _ i => i) (fun _ n f _ _ => cnd f (cnd (Nat.beq n 0) false true) true) (fun _ _ _ => true) true (fun _ _ i j => cnd i j false) l
noncomputable def doneL (l : List AV) : Bool :=
  AV.rec_1 (motive_1 := fun _ => Bool) (motive_2 := fun _ => Bool) (fun _ => true) (fun _ _ => true) (fun _ => true) (fun a => notSome a) (fun _ _ _ => false) (fun r => notSome r) (fun r => notSome r)
    (fun _ _ _ i j => cnd i j false) true (fun _ _ i => i) true (fun _ i => i) (fun _ i => i) (fun _ n f pf _ => cnd pf (cnd f (cnd (Nat.beq n 0) false true) true) false) (fun _ _ _ => false) true (fun _ _ i j => cnd i j false) l
noncomputable def plainL (l : List AV) : Bool :=
  AV.rec_1 (motive_1 := fun _ => Bool) (motive_2 := fun _ => Bool) (fun _ => true) (fun _ _ => true) (fun _ => true) (fun a => notSome a) (fun _ _ _ => false) (fun r => notSome r) (fun r => notSome r)
    (fun _ _ _ i j => cnd i j false) true (fun _ _ i => i) true (fun _ i => i) (fun _ i => i) (fun _ _ _ _ _ => false) (fun _ _ _ => false) true (fun _ _ i j => cnd i j false) l

theorem cnd_and {a b : Bool} (h : cnd a b false = true) : a = true ∧ b = true := by
  cases a
  · cases h
  · exact ⟨rfl, h⟩
theorem closedL_eq : ∀ l : List AV, closedL l = l.all closedV
  | [] => rfl
  | a :: r => by
    show cnd (closedV a) (closedL r) false = _
    rw [closedL_eq r]; cases ha : closedV a <;> simp [ha]
theorem doneL_eq : ∀ l : List AV, doneL l = l.all doneV
  | [] => rfl
  | a :: r => by
    show cnd (doneV a) (doneL r) false = _
    rw [doneL_eq r]; cases ha : doneV a <;> simp [ha]

mutual
theorem closed_noloc {ρ : Rho} : ∀ (a : AV) (v : Value), closedV a = true → VR ρ a v → VR ρ.noloc a v
  | .bool _, _, _, h => by simp only [VR] at h ⊢; exact h
  | .int _ _, _, _, h => by simp only [VR] at h ⊢; exact h
  | .str _, _, _, h => by simp only [VR] at h ⊢; exact h
  | .ptr none, _, _, h => by simp only [VR] at h ⊢; exact h
  | .ptr (some a), _, c, _ => by cases c
  | .slice _ _ _, _, c, _ => by cases c
  | .map none, _, _, h => by simp only [VR] at h ⊢; exact h
  | .map (some r), _, c, _ => by cases c
  | .chan none, _, _, h => by simp only [VR] at h ⊢; exact h
  | .chan (some r), _, c, _ => by cases c
  | .func _ a b, _, c, h => by
    have c : cnd (closedL a) (closedL b) false = true := c
    simp only [VR] at h ⊢; obtain ⟨x, y, h1, h2, h3⟩ := h
    exact ⟨x, y, h1, closedL_noloc a _ (cnd_and c).1 h2, closedL_noloc b _ (cnd_and c).2 h3⟩
  | .nilFunc, _, _, h => by simp only [VR] at h ⊢; exact h
  | .iface _ x, _, c, h => by
    have c : closedV x = true := c
    simp only [VR] at h ⊢; obtain ⟨y, h1, h2⟩ := h; exact ⟨y, h1, closed_noloc x y c h2⟩
  | .nilIface, _, _, h => by simp only [VR] at h ⊢; exact h
  | .agg cs, _, c, h => by
    have c : closedL cs = true := c
    simp only [VR] at h ⊢; obtain ⟨x, h1, h2⟩ := h; exact ⟨x, h1, closedL_noloc cs _ c h2⟩
  | .tuple cs, _, c, h => by
    have c : closedL cs = true := c
    simp only [VR] at h ⊢; obtain ⟨x, h1, h2⟩ := h; exact ⟨x, h1, closedL_noloc cs _ c h2⟩
  | .lst _ _ _ pf, _, _, h => by
    simp only [VR] at h ⊢
    cases pf <;> exact h
  | .cptr _ _, _, _, h => by simp only [VR] at h ⊢; exact h
theorem closedL_noloc {ρ : Rho} : ∀ (l : List AV) (m : List Value), closedL l = true → VRL ρ l m → VRL ρ.noloc l m
  | [], _, _, h => by simp only [VRL] at h ⊢; exact h
  | a :: r, _, c, h => by
    have c : cnd (closedV a) (closedL r) false = true := c
    simp only [VRL] at h ⊢; obtain ⟨v, l', h1, h2, h3⟩ := h
    exact ⟨v, l', h1, closed_noloc a v (cnd_and c).1 h2, closedL_noloc r l' (cnd_and c).2 h3⟩
end

mutual
theorem done_noview {ρ : Rho} : ∀ (a : AV) (v : Value), doneV a = true → VR ρ a v → VR ρ.noview a v
  | .bool _, _, _, h => by simp only [VR] at h ⊢; exact h
  | .int _ _, _, _, h => by simp only [VR] at h ⊢; exact h
  | .str _, _, _, h => by simp only [VR] at h ⊢; exact h
  | .ptr none, _, _, h => by simp only [VR] at h ⊢; exact h
  | .ptr (some a), _, c, _ => by cases c
  | .slice _ _ _, _, c, _ => by cases c
  | .map none, _, _, h => by simp only [VR] at h ⊢; exact h
  | .map (some r), _, c, _ => by cases c
  | .chan none, _, _, h => by simp only [VR] at h ⊢; exact h
  | .chan (some r), _, c, _ => by cases c
  | .func _ a b, _, c, h => by
    have c : cnd (doneL a) (doneL b) false = true := c
    simp only [VR] at h ⊢; obtain ⟨x, y, h1, h2, h3⟩ := h
    exact ⟨x, y, h1, doneL_noview a _ (cnd_and c).1 h2, doneL_noview b _ (cnd_and c).2 h3⟩
  | .nilFunc, _, _, h => by simp only [VR] at h ⊢; exact h
  | .iface _ x, _, c, h => by
    have c : doneV x = true := c
    simp only [VR] at h ⊢; obtain ⟨y, h1, h2⟩ := h; exact ⟨y, h1, done_noview x y c h2⟩
  | .nilIface, _, _, h => by simp only [VR] at h ⊢; exact h
  | .agg cs, _, c, h => by
    have c : doneL cs = true := c
    simp only [VR] at h ⊢; obtain ⟨x, h1, h2⟩ := h; exact ⟨x, h1, doneL_noview cs _ c h2⟩
  | .tuple cs, _, c, h => by
    have c : doneL cs = true := c
    simp only [VR] at h ⊢; obtain ⟨x, h1, h2⟩ := h; exact ⟨x, h1, doneL_noview cs _ c h2⟩
  | .lst _ _ _ pf, _, c, h => by
    have c : pf = true := (cnd_and c).1
    subst c
    simp only [VR] at h ⊢; exact h
  | .cptr _ _, _, c, _ => by cases c
theorem doneL_noview {ρ : Rho} : ∀ (l : List AV) (m : List Value), doneL l = true → VRL ρ l m → VRL ρ.noview l m
  | [], _, _, h => by simp only [VRL] at h ⊢; exact h
  | a :: r, _, c, h => by
    have c : cnd (doneV a) (doneL r) false = true := c
    simp only [VRL] at h ⊢; obtain ⟨v, l', h1, h2, h3⟩ := h
    exact ⟨v, l', h1, done_noview a v (cnd_and c).1 h2, doneL_noview r l' (cnd_and c).2 h3⟩
end

mutual
theorem plain_any {ρ σ : Rho} : ∀ (a : AV) (v : Value), plainV a = true → VR ρ a v → VR σ a v
  | .bool _, _, _, h => by simp only [VR] at h ⊢; exact h
  | .int _ _, _, _, h => by simp only [VR] at h ⊢; exact h
  | .str _, _, _, h => by simp only [VR] at h ⊢; exact h
  | .ptr none, _, _, h => by simp only [VR] at h ⊢; exact h
  | .ptr (some a), _, c, _ => by cases c
  | .slice _ _ _, _, c, _ => by cases c
  | .map none, _, _, h => by simp only [VR] at h ⊢; exact h
  | .map (some r), _, c, _ => by cases c
  | .chan none, _, _, h => by simp only [VR] at h ⊢; exact h
  | .chan (some r), _, c, _ => by cases c
  | .func _ a b, _, c, h => by
    have c : cnd (plainL a) (plainL b) false = true := c
    simp only [VR] at h ⊢; obtain ⟨x, y, h1, h2, h3⟩ := h
    exact ⟨x, y, h1, plainL_any a _ (cnd_and c).1 h2, plainL_any b _ (cnd_and c).2 h3⟩
  | .nilFunc, _, _, h => by simp only [VR] at h ⊢; exact h
  | .iface _ x, _, c, h => by
    have c : plainV x = true := c
    simp only [VR] at h ⊢; obtain ⟨y, h1, h2⟩ := h; exact ⟨y, h1, plain_any x y c h2⟩
  | .nilIface, _, _, h => by simp only [VR] at h ⊢; exact h
  | .agg cs, _, c, h => by
    have c : plainL cs = true := c
    simp only [VR] at h ⊢; obtain ⟨x, h1, h2⟩ := h; exact ⟨x, h1, plainL_any cs _ c h2⟩
  | .tuple cs, _, c, h => by
    have c : plainL cs = true := c
    simp only [VR] at h ⊢; obtain ⟨x, h1, h2⟩ := h; exact ⟨x, h1, plainL_any cs _ c h2⟩
  | .lst _ _ _ _, _, c, _ => by cases c
  | .cptr _ _, _, c, _ => by cases c
theorem plainL_any {ρ σ : Rho} : ∀ (l : List AV) (m : List Value), plainL l = true → VRL ρ l m → VRL σ l m
  | [], _, _, h => by simp only [VRL] at h ⊢; exact h
  | a :: r, _, c, h => by
    have c : cnd (plainV a) (plainL r) false = true := c
    simp only [VRL] at h ⊢; obtain ⟨v, l', h1, h2, h3⟩ := h
    exact ⟨v, l', h1, plain_any a v (cnd_and c).1 h2, plainL_any r l' (cnd_and c).2 h3⟩
end

/-! ### blocks -/
def cellsOf (w : World) (b : Nat) : Option (Array Value) :=
  match w.heap[b]? with
  | some (.cells x _ _) => some x
  | _ => none
theorem cellsOf_of {b : Nat} {x : Array Value} {e : TypeId} {fr : Nat × Nat} (h : w.heap[b]? = some (.cells x e fr)) : cellsOf w b = some x := by
  unfold cellsOf; rw [h]
theorem of_cellsOf {b : Nat} {x : Array Value} (h : cellsOf w b = some x) : ∃ e fr, w.heap[b]? = some (.cells x e fr) := by
  unfold cellsOf at h
  split at h
  · rename_i hh; cases h; exact ⟨_, _, hh⟩
  · cases h
/-- As a callee sees it: nothing is its own; what is frozen is so; all the rest may be looked at. -/
def Rho.call (ρ : Rho) (w : World) (A : Nat → Bool) : Rho := ⟨fun _ => none, ρ.ret, fun b => cnd (A b) none (cellsOf w b)⟩
/-- Blocks that are nobody's here. -/
structure Clear (A : Nat → Bool) (ρ : Rho) (h : AHeap) (w : World) : Prop where
  lt : ∀ b, A b = true → b < w.heap.size
  ret : ∀ b, A b = true → ρ.ret b = none
  view : ∀ b, A b = true → ρ.view b = none
  objs : ∀ b o x c, A b = true → h.get o = some x → ρ o = some c → c.blk ≠ b
theorem Clear.no (ρ : Rho) (h : AHeap) (w : World) : Clear (fun _ => false) ρ h w := ⟨fun _ h => (by cases h), fun _ h => (by cases h), fun _ h => (by cases h), fun _ _ _ _ h => (by cases h)⟩
def Rho.all (w : World) : Rho := ⟨fun _ => none, cellsOf w, cellsOf w⟩

theorem HRel.cellsOf (H : HRel ρ h w) {b : Nat} {x : Array Value} (hb : ρ.ret b = some x ∨ ρ.view b = some x) : BH.cellsOf w b = some x := by
  obtain ⟨⟨e, fr, h1⟩, _⟩ := H.rets b x hb
  exact cellsOf_of h1
theorem call_view {A : Nat → Bool} {b : Nat} {x : Array Value} (hA : A b = false) (hx : BH.cellsOf w b = some x) : (ρ.call w A).view b = some x := by
  show cnd (A b) none (BH.cellsOf w b) = some x
  rw [hA]; exact hx
theorem call_ext {A : Nat → Bool} (H : HRel ρ h w) (C : Clear A ρ h w) : Ext ρ.noloc (ρ.call w A) := by
  refine ⟨fun _ _ h => (by cases h), fun _ _ h => h, fun b x hx => call_view ?_ (H.cellsOf (.inr hx))⟩
  cases hA : A b with
  | false => rfl
  | true => have := C.view b hA; replace hx : ρ.view b = some x := hx; rw [this] at hx; cases hx
theorem all_ext (H : HRel ρ h w) : Ext ρ.noloc (Rho.all w) := ⟨fun _ _ h => (by cases h), fun _ _ h => H.cellsOf (.inl h), fun _ _ h => H.cellsOf (.inr h)⟩
theorem call_mono {A : Nat → Bool} {ρ' : Rho} (he : Ext ρ ρ') : Ext (ρ.call w A) (ρ'.call w A) := ⟨fun _ _ h => (by cases h), he.ret, fun _ _ h => h⟩
theorem call_inner (ρ : Rho) (w : World) (A : Nat → Bool) (pf : Bool) {cs : List AV} {us : List Value} (hp : pf = true → cs.all doneV = true) (hv : VRL (ρ.call w A) cs us) : VRL ((ρ.call w A).inner pf) cs us := by
  cases pf
  · exact hv
  · exact doneL_noview cs us (by rw [doneL_eq]; exact hp rfl) hv
theorem all_inner (w : World) (pf : Bool) {cs : List AV} {us : List Value} (hp : pf = true → cs.all doneV = true) (hv : VRL (Rho.all w) cs us) : VRL ((Rho.all w).inner pf) cs us := by
  cases pf
  · exact hv
  · exact doneL_noview cs us (by rw [doneL_eq]; exact hp rfl) hv

/-- What a row is in a world. -/
theorem row_block (H : HRel ρ h w) {o : Nat} {r : ARow} (hr : rowAt h o = some r) : ∃ c x e fr, ρ o = some c ∧ w.heap[c.blk]? = some (.cells x e fr) ∧
    ∀ (off n : Nat) (l : List AV), slots r.cells off n = some l → l.all AV.scalar = true ∧ ∃ us, VRL ρ l us ∧ ∀ (i : Nat) (u : Value), us[i]? = some u → x[c.base + off + i]? = some u := by
  obtain ⟨c, y, hc, hy, hrel⟩ := H.objs _ _ (row_of hr)
  obtain ⟨x, fr, rfl, _, hcells, _⟩ := hrel
  refine ⟨c, x, _, fr, hc, hy, fun off n l hl => ?_⟩
  obtain ⟨h1, h2⟩ := slots_eq_some hl
  subst h2
  refine ⟨?_, ((x.toList.drop (c.base + off)).take ((r.cells.drop off).take n).length), ?_, ?_⟩
  · rw [List.all_eq_true]
    intro a ha
    obtain ⟨i, hi⟩ := List.getElem?_of_mem ha
    rw [List.getElem?_take] at hi
    split at hi
    · rw [List.getElem?_drop] at hi; exact (hcells _ _ hi).1
    · cases hi
  · refine VRL.of_get ?_ fun i a ha => ?_
    · by_cases h0 : ((r.cells.drop off).take n).length = 0
      · simp [h0]
      · have hlast : ((r.cells.drop off).take n).length - 1 < ((r.cells.drop off).take n).length := by omega
        have hg := List.getElem?_eq_getElem hlast
        rw [List.getElem?_take] at hg
        split at hg
        · rw [List.getElem?_drop] at hg
          obtain ⟨_, v, hv, _⟩ := hcells _ _ hg
          have hsz := (Array.getElem?_eq_some_iff.mp hv).1
          have e2 : x.toList.length = x.size := by simp
          refine List.length_take_of_le ?_
          rw [List.length_drop, e2]
          omega
        · cases hg
    · have hi := (List.getElem?_eq_some_iff.mp ha).1
      rw [List.getElem?_take, if_pos hi, List.getElem?_drop]
      rw [List.getElem?_take] at ha
      split at ha
      · rw [List.getElem?_drop] at ha
        obtain ⟨_, v, hv, hvr⟩ := hcells _ _ ha
        exact ⟨v, by rw [Array.getElem?_toList, Nat.add_assoc]; exact hv, hvr⟩
      · cases ha
  · intro i u hu
    rw [List.getElem?_take] at hu
    split at hu
    · rw [List.getElem?_drop, Array.getElem?_toList] at hu; exact hu
    · cases hu

/-! ### a row frozen -/
/-- What freezing keeps: the places. -/
structure FT (ρ : Rho) (h : AHeap) (ρ' : Rho) (h' : AHeap) (w : World) : Prop where
  t : Trans ρ h w ρ' h' w
  loc : ρ'.loc = ρ.loc
  next : h'.next = h.next
  objs : ∀ o x, h'.get o = some x → ∃ x₀, h.get o = some x₀
theorem FT.refl (H : HRel ρ h w) : FT ρ h ρ h w := ⟨.refl H, rfl, rfl, fun _ x h => ⟨x, h⟩⟩
theorem FT.clear {A : Nat → Bool} {ρ' : Rho} {h' : AHeap} (a : FT ρ h ρ' h' w) (C : Clear A ρ h w) : Clear A ρ' h' w := by
  refine ⟨C.lt, fun b hA => ?_, fun b hA => by rw [a.t.views]; exact C.view b hA, fun b o x c hA hx hc => ?_⟩
  · cases hr : ρ'.ret b with
    | none => rfl
    | some z =>
      rcases a.t.rids b (by rw [hr]; simp) with hh | hh | ⟨o, x, c, hx, _, hc, e⟩
      · exact absurd (C.ret b hA) hh
      · have := C.lt b hA; omega
      · exact absurd e (C.objs b o x c hA hx hc)
  · obtain ⟨x₀, h₀⟩ := a.objs o x hx
    exact C.objs b o x₀ c hA h₀ (by rw [← a.loc]; exact hc)
theorem FT.trans {ρ' ρ'' : Rho} {h' h'' : AHeap} (a : FT ρ h ρ' h' w) (b : FT ρ' h' ρ'' h'' w) : FT ρ h ρ'' h'' w := ⟨a.t.trans b.t, b.loc.trans a.loc, b.next.trans a.next, fun o x hx => let ⟨x₁, h₁⟩ := b.objs o x hx; a.objs o x₁ h₁⟩

theorem still_ok (H : HRel ρ h w) {o : Nat} {h' : AHeap} (hs : still h o = some h') : ∃ ρ', FT ρ h ρ' h' w ∧ ∀ c, ρ o = some c → ρ'.ret c.blk = BH.cellsOf w c.blk ∧ ρ'.ret c.blk ≠ none := by
  unfold still at hs
  obtain ⟨r, hr, hs⟩ := bnd_eq_some.mp hs
  rw [cnd_eq] at hs
  split at hs
  · rename_i hf
    cases hs
    refine ⟨ρ, FT.refl H, fun c hc => ?_⟩
    have := H.fixed o _ c (row_of hr) (by simpa [AObj.fix] using hf) hc
    refine ⟨?_, this⟩
    cases hx : ρ.ret c.blk with
    | none => exact absurd hx this
    | some x => exact (H.cellsOf (.inl hx)).symm
  · rename_i hf
    cases hs
    have hff : r.froz = false := by simpa using hf
    obtain ⟨c, y, hc, hy, hrel⟩ := H.objs _ _ (row_of hr)
    obtain ⟨x, fr, rfl, q1, q2, q3, q4, _, q6⟩ := hrel
    have hnew : ∀ b, (if b = c.blk then some x else ρ.ret b) ≠ none → ρ.ret b ≠ none ∨ b = c.blk := by
      intro b hb
      by_cases e : b = c.blk
      · exact .inr e
      · rw [if_neg e] at hb; exact .inl hb
    have hnone : ρ.ret c.blk = none := by
      cases hx : ρ.ret c.blk with
      | none => rfl
      | some z => exact absurd rfl ((H.rets c.blk z (.inl hx)).2 o _ c (row_of hr) (by simpa [AObj.fix] using hff) hc)
    have hext : Ext ρ ⟨ρ.loc, fun b => if b = c.blk then some x else ρ.ret b, ρ.view⟩ := by
      refine ⟨fun _ _ h => h, fun b z hz => ?_, fun _ _ h => h⟩
      by_cases e : b = c.blk
      · subst e; rw [hnone] at hz; cases hz
      · simp only [if_neg e]; exact hz
    refine ⟨⟨ρ.loc, fun b => if b = c.blk then some x else ρ.ret b, ρ.view⟩, ⟨⟨hext, ?_, fun _ _ _ => rfl, Nat.le_refl _, rfl, rfl, ?_, fun _ ho => .inl ho, Nat.le_refl _, ?_, rfl⟩, rfl, rfl, ?_⟩, ?_⟩
    · refine ⟨?_, ?_, H.fresh, ?_, ?_⟩
      · intro p z hz
        rw [AHeap.get_set] at hz
        by_cases e : p = o
        · rw [if_pos e] at hz; cases hz; subst e
          exact ⟨c, _, hc, hy, x, fr, rfl, q1, fun i a ha => let ⟨g1, v, g2, g3⟩ := q2 i a ha; ⟨g1, v, g2, VR.mono hext _ _ g3⟩, q3, q4, (fun hh => by cases hh), q6⟩
        · rw [if_neg e] at hz
          obtain ⟨d, y', g1, g2, g3⟩ := H.objs p z hz
          exact ⟨d, y', g1, g2, ORel.mono hext _ _ g3⟩
      · intro p q z z' d d' hz hz' hd hd' hb
        rw [AHeap.get_set] at hz hz'
        by_cases e : p = o
        · by_cases e' : q = o
          · exact .inl (e.trans e'.symm)
          · rw [if_neg e'] at hz'
            subst e
            rcases H.inj p q _ z' d d' (row_of hr) hz' hd hd' hb with hh | ⟨hh, _⟩
            · exact absurd hh.symm e'
            · simp [AObj.fix, hff] at hh
        · rw [if_neg e] at hz
          by_cases e' : q = o
          · subst e'
            rcases H.inj p q z _ d d' hz (row_of hr) hd hd' hb with hh | ⟨_, hh⟩
            · exact absurd hh e
            · simp [AObj.fix, hff] at hh
          · rw [if_neg e'] at hz'; exact H.inj p q z z' d d' hz hz' hd hd' hb
      · intro b z hz
        by_cases e : b = c.blk
        · subst e
          have hzx : z = x := by
            rcases hz with hz | hz
            · simp only [if_true] at hz; cases hz; rfl
            · have := H.cellsOf (.inr hz)
              rw [cellsOf_of hy] at this; cases this; rfl
          subst hzx
          refine ⟨⟨_, _, hy⟩, fun p y d hp hpf hd => ?_⟩
          rw [AHeap.get_set] at hp
          by_cases e : p = o
          · rw [if_pos e] at hp; cases hp; simp [AObj.fix] at hpf
          · rw [if_neg e] at hp
            intro hb
            rcases H.inj p o y _ d c hp (row_of hr) hd hc hb with hh | ⟨hh, _⟩
            · exact e hh
            · rw [hpf] at hh; cases hh
        · simp only [if_neg e] at hz
          obtain ⟨g1, g2⟩ := H.rets b z hz
          refine ⟨g1, fun p y d hp hpf hd => ?_⟩
          rw [AHeap.get_set] at hp
          by_cases e : p = o
          · rw [if_pos e] at hp; cases hp; simp [AObj.fix] at hpf
          · rw [if_neg e] at hp; exact g2 p y d hp hpf hd
      · intro p y d hp hpf hd
        rw [AHeap.get_set] at hp
        by_cases e : p = o
        · subst e
          have hd' : ρ p = some d := hd
          rw [hc] at hd'; cases hd'
          simp
        · rw [if_neg e] at hp
          have := H.fixed p y d hp hpf hd
          by_cases e2 : d.blk = c.blk
          · simp [e2]
          · simp only [if_neg e2]; exact this
    · intro p z d hz hzf hd
      rw [AHeap.get_set] at hz
      by_cases e : p = o
      · rw [if_pos e] at hz; cases hz; simp [AObj.fix] at hzf
      · rw [if_neg e] at hz; exact .inl ⟨p, z, d, hz, hzf, hd, rfl⟩
    · intro b hb
      rcases hnew b hb with hb | hb
      · exact .inl hb
      · exact .inr (.inr ⟨o, _, c, row_of hr, by simpa [AObj.fix] using hff, hc, hb.symm⟩)
    · intro p z hz
      rw [AHeap.get_set] at hz
      by_cases e : p = o
      · subst e; exact ⟨_, row_of hr⟩
      · rw [if_neg e] at hz; exact ⟨z, hz⟩
    · intro d hd
      rw [hc] at hd; cases hd
      refine ⟨?_, by simp⟩
      simp only [if_true]; exact (cellsOf_of hy).symm

/-! ### freezing -/
def FzOk (A : Nat → Bool) (f : Fz) (w : World) : Prop := ∀ (v : AV) (h : AHeap) (v' : AV) (h' : AHeap) (ρ : Rho) (u : Value), f v h = some (v', h') → VR ρ v u → HRel ρ h w → Clear A ρ h w →
  v'.scalar = v.scalar ∧ ∃ ρ', FT ρ h ρ' h' w ∧ VR (ρ'.call w A) v' u
def FzView (f : Fz) (w : World) : Prop := ∀ (v : AV) (h : AHeap) (v' : AV) (h' : AHeap) (ρ : Rho) (u : Value), f v h = some (v', h') → VR ρ v u → HRel ρ h w →
  v'.scalar = v.scalar ∧ h' = h ∧ VR (Rho.all w) v' u

theorem frzL_ok {A : Nat → Bool} {f : Fz} (hf : FzOk A f w) : ∀ (cs : List AV) (h : AHeap) (cs' : List AV) (h' : AHeap) (ρ : Rho) (us : List Value), frzL f cs h = some (cs', h') → VRL ρ cs us → HRel ρ h w → Clear A ρ h w →
    (cs.all AV.scalar = true → cs'.all AV.scalar = true) ∧ ∃ ρ', FT ρ h ρ' h' w ∧ VRL (ρ'.call w A) cs' us
  | [], h, cs', h', ρ, us, hr, hv, H, C => by
    cases hr
    simp only [VRL] at hv; subst hv
    exact ⟨fun h => h, ρ, .refl H, VRL.nil⟩
  | a :: r, h, cs', h', ρ, us, hr, hv, H, C => by
    replace hr : (bnd (f a h) fun x => bnd (frzL f r x.2) fun y => some (x.1 :: y.1, y.2)) = some (cs', h') := hr
    obtain ⟨x, hx, hr⟩ := bnd_eq_some.mp hr
    obtain ⟨y, hy, hr⟩ := bnd_eq_some.mp hr
    cases hr
    simp only [VRL] at hv
    obtain ⟨u, us', rfl, h1, h2⟩ := hv
    obtain ⟨s1, ρ1, t1, v1⟩ := hf _ _ _ _ _ _ hx h1 H C
    obtain ⟨s2, ρ2, t2, v2⟩ := frzL_ok hf r _ _ _ ρ1 us' hy (VRL.mono t1.t.ext _ _ h2) t1.t.rel (t1.clear C)
    refine ⟨fun hs => ?_, ρ2, t1.trans t2, VRL.cons (VR.mono (call_mono t2.t.ext) _ _ v1) v2⟩
    rw [List.all_cons, Bool.and_eq_true] at hs ⊢
    exact ⟨by rw [s1]; exact hs.1, s2 hs.2⟩
theorem frzL_view {f : Fz} (hf : FzView f w) : ∀ (cs : List AV) (h : AHeap) (cs' : List AV) (h' : AHeap) (ρ : Rho) (us : List Value), frzL f cs h = some (cs', h') → VRL ρ cs us → HRel ρ h w →
    (cs.all AV.scalar = true → cs'.all AV.scalar = true) ∧ h' = h ∧ VRL (Rho.all w) cs' us
  | [], h, cs', h', ρ, us, hr, hv, H => by
    cases hr
    simp only [VRL] at hv; subst hv
    exact ⟨fun h => h, rfl, VRL.nil⟩
  | a :: r, h, cs', h', ρ, us, hr, hv, H => by
    replace hr : (bnd (f a h) fun x => bnd (frzL f r x.2) fun y => some (x.1 :: y.1, y.2)) = some (cs', h') := hr
    obtain ⟨x, hx, hr⟩ := bnd_eq_some.mp hr
    obtain ⟨y, hy, hr⟩ := bnd_eq_some.mp hr
    cases hr
    simp only [VRL] at hv
    obtain ⟨u, us', rfl, h1, h2⟩ := hv
    obtain ⟨s1, e1, v1⟩ := hf _ _ _ _ _ _ hx h1 H
    rw [e1] at hy
    obtain ⟨s2, e2, v2⟩ := frzL_view hf r _ _ _ ρ us' hy h2 H
    refine ⟨fun hs => ?_, e2, VRL.cons v1 v2⟩
    rw [List.all_cons, Bool.and_eq_true] at hs ⊢
    exact ⟨by rw [s1]; exact hs.1, s2 hs.2⟩

theorem done_closed : ∀ l : List AV, l.all doneV = true → closedL l = true := by
  have key : (∀ a : AV, doneV a = true → closedV a = true) ∧ (∀ l : List AV, doneL l = true → closedL l = true) := by
    refine ⟨fun a => AV.rec (motive_1 := fun a => doneV a = true → closedV a = true) (motive_2 := fun l => doneL l = true → closedL l = true)
      (fun _ _ => rfl) (fun _ _ _ => rfl) (fun _ _ => rfl) (fun _ h => h) (fun _ _ _ h => h) (fun _ h => h) (fun _ h => h)
      (fun _ a b i j h => ?_) (fun _ => rfl) (fun _ _ i h => i h) (fun _ => rfl) (fun _ i h => i h) (fun _ i h => i h) (fun _ _ _ _ _ h => (cnd_and h).2) (fun _ _ _ _ => rfl) (fun _ => rfl) (fun a l i j h => ?_) a,
      fun l => AV.rec_1 (motive_1 := fun a => doneV a = true → closedV a = true) (motive_2 := fun l => doneL l = true → closedL l = true)
      (fun _ _ => rfl) (fun _ _ _ => rfl) (fun _ _ => rfl) (fun _ h => h) (fun _ _ _ h => h) (fun _ h => h) (fun _ h => h)
      (fun _ a b i j h => ?_) (fun _ => rfl) (fun _ _ i h => i h) (fun _ => rfl) (fun _ i h => i h) (fun _ i h => i h) (fun _ _ _ _ _ h => (cnd_and h).2) (fun _ _ _ _ => rfl) (fun _ => rfl) (fun a l i j h => ?_) l⟩
    all_goals
      first
        | (have h : cnd (doneL a) (doneL b) false = true := h
           show cnd (closedL a) (closedL b) false = true
           rw [i (cnd_and h).1, j (cnd_and h).2]; rfl)
        | (have h : cnd (doneV a) (doneL l) false = true := h
           show cnd (closedV a) (closedL l) false = true
           rw [i (cnd_and h).1, j (cnd_and h).2]; rfl)
  intro l hl
  exact key.2 l (by rw [doneL_eq]; exact hl)

theorem frzCells_ok {A : Nat → Bool} {f : Fz} (hf : FzOk A f w) {cs : List AV} {h : AHeap} {x : List AV × AHeap × Bool} {ρ : Rho} {us : List Value} (hr : frzCells f cs h = some x) (hv : VRL ρ cs us) (H : HRel ρ h w) (C : Clear A ρ h w) :
    (cs.all AV.scalar = true → x.1.all AV.scalar = true) ∧ ∃ ρ', FT ρ h ρ' x.2.1 w ∧ VRL (ρ'.call w A) x.1 us ∧ (x.2.2 = true → x.1.all doneV = true) := by
  unfold frzCells at hr
  rw [cnd_eq] at hr
  split at hr
  · rename_i hd
    rw [allA_eq] at hd
    cases hr
    exact ⟨fun h => h, ρ, .refl H, VRL.mono (call_ext H C) _ _ (closedL_noloc _ _ (done_closed _ hd) hv), fun _ => hd⟩
  · obtain ⟨y, hy, hr⟩ := bnd_eq_some.mp hr
    cases hr
    obtain ⟨s, ρ', t, v⟩ := frzL_ok hf _ _ _ _ _ _ hy hv H C
    exact ⟨s, ρ', t, v, fun hd => by rw [allA_eq] at hd; exact hd⟩
theorem frzCells_view {f : Fz} (hf : FzView f w) {cs : List AV} {h : AHeap} {x : List AV × AHeap × Bool} {ρ : Rho} {us : List Value} (hr : frzCells f cs h = some x) (hv : VRL ρ cs us) (H : HRel ρ h w) :
    (cs.all AV.scalar = true → x.1.all AV.scalar = true) ∧ x.2.1 = h ∧ VRL (Rho.all w) x.1 us ∧ (x.2.2 = true → x.1.all doneV = true) := by
  unfold frzCells at hr
  rw [cnd_eq] at hr
  split at hr
  · rename_i hd
    rw [allA_eq] at hd
    cases hr
    exact ⟨fun h => h, rfl, VRL.mono (all_ext H) _ _ (closedL_noloc _ _ (done_closed _ hd) hv), fun _ => hd⟩
  · obtain ⟨y, hy, hr⟩ := bnd_eq_some.mp hr
    cases hr
    obtain ⟨s, t, v⟩ := frzL_view hf _ _ _ _ _ _ hy hv H
    exact ⟨s, t, v, fun hd => by rw [allA_eq] at hd; exact hd⟩

theorem exactly_eq {c : ACap} {n : Nat} (d : CLoc) (h : exactly c n = true) : c.val d = n := by
  cases c with
  | exact k => have h : Nat.beq k n = true := h; rw [beqN] at h; exact h
  | op _ => cases h

theorem slots_all (cs : List AV) : slots cs 0 cs.length = some cs := by
  have : ∀ cs : List AV, takeN cs.length cs = some cs := by
    intro cs
    induction cs with
    | nil => rfl
    | cons a r ih => show (bnd (takeN r.length r) fun l => some (a :: l)) = _; rw [ih]; rfl
  exact this cs

theorem frzStep_ok {A : Nat → Bool} {f : Fz} (hf : FzOk A f w) : FzOk A (frzStep f true) w := by
  intro v h v' h' ρ u hr hv H C
  unfold frzStep at hr
  split at hr
  · cases hr
    simp only [VR] at hv
    obtain ⟨rfl, rfl, rfl⟩ := hv
    refine ⟨rfl, ρ, .refl H, ?_⟩
    simp only [VR]
    exact ⟨none, 0, rfl, Nat.le_refl _, fun _ => rfl, rfl, fun _ => rfl, .inl ⟨trivial, trivial, fun h => by cases h⟩⟩
  · rename_i a n c
    simp only [VR] at hv
    obtain ⟨d, ad, hd, rfl, hn, had⟩ := hv
    unfold frzSlice at hr
    rw [cnd_eq] at hr
    split at hr
    · rename_i h0
      rw [beqN] at h0
      subst h0
      cases hr
      refine ⟨rfl, ρ, .refl H, ?_⟩
      simp only [VR]
      exact ⟨_, _, rfl, Nat.zero_le _, fun hh => (by cases hh), rfl, fun h => (by cases h), .inl ⟨trivial, trivial, fun h => by cases h⟩⟩
    · rename_i h0
      rw [beqN] at h0
      obtain ⟨r, hrow, hr⟩ := bnd_eq_some.mp hr
      obtain ⟨cs, hcs, hr⟩ := bnd_eq_some.mp hr
      obtain ⟨x, hx, hr⟩ := bnd_eq_some.mp hr
      obtain ⟨h2, hst, hr⟩ := bnd_eq_some.mp hr
      cases hr
      replace hst : still x.2.1 a.obj = some h' := hst
      obtain ⟨d', bx, e, fr, hd', hblk, hcell⟩ := row_block H hrow
      rw [hd] at hd'; cases hd'
      obtain ⟨g1, us, g2, g3⟩ := hcell _ _ _ hcs
      obtain ⟨s1, ρ1, t1, v1, p1⟩ := frzCells_ok hf hx g2 H C
      obtain ⟨ρ2, t2, k2⟩ := still_ok t1.t.rel hst
      obtain ⟨k3, k4⟩ := k2 d (by rw [t1.loc]; exact hd)
      refine ⟨rfl, ρ2, t1.trans t2, ?_⟩
      simp only [VR]
      refine ⟨_, _, rfl, hn, fun hh => (by cases hh), s1 g1, fun h => (by cases h), .inr ⟨d.blk, d.base + a.off, bx, us, ?_, ?_, ?_, g3⟩⟩
      · rw [had (by omega)]; rfl
      · show ρ2.ret d.blk = some bx
        rw [k3, cellsOf_of hblk]
      · exact call_inner ρ2 w A _ p1 (VRL.mono (call_mono t2.t.ext) _ _ v1)
  · rename_i a
    simp only [VR] at hv
    obtain ⟨d, hd, rfl⟩ := hv
    unfold frzPtr at hr
    obtain ⟨r, hrow, hr⟩ := bnd_eq_some.mp hr
    obtain ⟨x, hx, hr⟩ := bnd_eq_some.mp hr
    cases hr
    obtain ⟨d', bx, e, fr, hd', hblk, hcell⟩ := row_block H hrow
    rw [hd] at hd'; cases hd'
    obtain ⟨g1, us, g2, g3⟩ := hcell _ _ _ (slots_all r.cells)
    obtain ⟨s1, ρ1, t1, v1, p1⟩ := frzCells_ok hf hx g2 H C
    refine ⟨rfl, ρ1, t1, ?_⟩
    simp only [VR]
    refine ⟨d.blk, d.base, bx, us, rfl, ?_, s1 g1, v1, fun i u hu => ?_⟩
    · refine .inl (call_view ?_ (cellsOf_of hblk))
      cases hA : A d.blk with
      | false => rfl
      | true => exact absurd rfl (C.objs _ _ _ _ hA (row_of hrow) hd)
    · have := g3 i u hu
      rwa [Nat.add_zero] at this
  · rename_i cs
    obtain ⟨x, hx, hr⟩ := bnd_eq_some.mp hr
    cases hr
    simp only [VR] at hv
    obtain ⟨vs, rfl, g2⟩ := hv
    obtain ⟨_, ρ1, t1, v1⟩ := frzL_ok hf _ _ _ _ _ _ hx g2 H C
    exact ⟨rfl, ρ1, t1, by simp only [VR]; exact ⟨vs, rfl, v1⟩⟩
  · rename_i cs
    obtain ⟨x, hx, hr⟩ := bnd_eq_some.mp hr
    cases hr
    simp only [VR] at hv
    obtain ⟨vs, rfl, g2⟩ := hv
    obtain ⟨_, ρ1, t1, v1⟩ := frzL_ok hf _ _ _ _ _ _ hx g2 H C
    exact ⟨rfl, ρ1, t1, by simp only [VR]; exact ⟨vs, rfl, v1⟩⟩
  · rename_i fn a b
    obtain ⟨x, hx, hr⟩ := bnd_eq_some.mp hr
    obtain ⟨y, hy, hr⟩ := bnd_eq_some.mp hr
    cases hr
    simp only [VR] at hv
    obtain ⟨va, vb, rfl, g2, g3⟩ := hv
    obtain ⟨_, ρ1, t1, v1⟩ := frzL_ok hf _ _ _ _ _ _ hx g2 H C
    obtain ⟨_, ρ2, t2, v2⟩ := frzL_ok hf _ _ _ _ _ _ hy (VRL.mono t1.t.ext _ _ g3) t1.t.rel (t1.clear C)
    exact ⟨rfl, ρ2, t1.trans t2, by simp only [VR]; exact ⟨va, vb, rfl, VRL.mono (call_mono t2.t.ext) _ _ v1, v2⟩⟩
  · rename_i t v
    obtain ⟨x, hx, hr⟩ := bnd_eq_some.mp hr
    cases hr
    simp only [VR] at hv
    obtain ⟨y, rfl, g2⟩ := hv
    obtain ⟨_, ρ1, t1, v1⟩ := hf _ _ _ _ _ _ hx g2 H C
    exact ⟨rfl, ρ1, t1, by simp only [VR]; exact ⟨y, rfl, v1⟩⟩
  · rename_i cs n f p
    rw [cnd_eq] at hr
    split at hr
    · rename_i h0
      rw [beqN] at h0
      subst h0
      cases hr
      simp only [VR] at hv
      obtain ⟨ao, cap, rfl, _, _, _, k5, _⟩ := hv
      refine ⟨rfl, ρ, .refl H, ?_⟩
      simp only [VR]
      exact ⟨ao, cap, rfl, Nat.zero_le _, fun h => (by cases h), rfl, k5, .inl ⟨trivial, trivial, fun h => by cases h⟩⟩
    · cases hr
  · cases hr

theorem frzStep_view {f : Fz} (hf : FzView f w) : FzView (frzStep f false) w := by
  intro v h v' h' ρ u hr hv H
  unfold frzStep at hr
  split at hr
  · cases hr
    simp only [VR] at hv
    obtain ⟨rfl, rfl, rfl⟩ := hv
    refine ⟨rfl, rfl, ?_⟩
    simp only [VR]
    exact ⟨none, 0, rfl, Nat.le_refl _, fun _ => rfl, rfl, fun _ => rfl, .inl ⟨trivial, trivial, fun h => by cases h⟩⟩
  · rename_i a n c
    simp only [VR] at hv
    obtain ⟨d, ad, hd, rfl, hn, had⟩ := hv
    unfold frzSlice at hr
    rw [cnd_eq] at hr
    split at hr
    · rename_i h0
      rw [beqN] at h0
      subst h0
      cases hr
      refine ⟨rfl, rfl, ?_⟩
      simp only [VR]
      exact ⟨_, _, rfl, Nat.zero_le _, fun hh => (by cases hh), rfl, fun h => (by cases h), .inl ⟨trivial, trivial, fun h => by cases h⟩⟩
    · rename_i h0
      rw [beqN] at h0
      obtain ⟨r, hrow, hr⟩ := bnd_eq_some.mp hr
      obtain ⟨cs, hcs, hr⟩ := bnd_eq_some.mp hr
      obtain ⟨x, hx, hr⟩ := bnd_eq_some.mp hr
      obtain ⟨h2, hst, hr⟩ := bnd_eq_some.mp hr
      cases hr
      replace hst : some x.2.1 = some h' := hst
      obtain ⟨d', bx, e, fr, hd', hblk, hcell⟩ := row_block H hrow
      rw [hd] at hd'; cases hd'
      obtain ⟨g1, us, g2, g3⟩ := hcell _ _ _ hcs
      obtain ⟨s1, t1, v1, p1⟩ := frzCells_view hf hx g2 H
      cases hst
      refine ⟨rfl, t1, ?_⟩
      simp only [VR]
      refine ⟨_, _, rfl, hn, fun hh => (by cases hh), s1 g1, fun h => (by cases h), .inr ⟨d.blk, d.base + a.off, bx, us, ?_, cellsOf_of hblk, all_inner w _ p1 v1, g3⟩⟩
      rw [had (by omega)]; rfl
  · rename_i a
    simp only [VR] at hv
    obtain ⟨d, hd, rfl⟩ := hv
    unfold frzPtr at hr
    obtain ⟨r, hrow, hr⟩ := bnd_eq_some.mp hr
    obtain ⟨x, hx, hr⟩ := bnd_eq_some.mp hr
    cases hr
    obtain ⟨d', bx, e, fr, hd', hblk, hcell⟩ := row_block H hrow
    rw [hd] at hd'; cases hd'
    obtain ⟨g1, us, g2, g3⟩ := hcell _ _ _ (slots_all r.cells)
    obtain ⟨s1, t1, v1, p1⟩ := frzCells_view hf hx g2 H
    refine ⟨rfl, t1, ?_⟩
    simp only [VR]
    refine ⟨d.blk, d.base, bx, us, rfl, .inl (cellsOf_of hblk), s1 g1, v1, fun i u hu => ?_⟩
    have := g3 i u hu
    rwa [Nat.add_zero] at this
  · rename_i cs
    obtain ⟨x, hx, hr⟩ := bnd_eq_some.mp hr
    cases hr
    simp only [VR] at hv
    obtain ⟨vs, rfl, g2⟩ := hv
    obtain ⟨_, t1, v1⟩ := frzL_view hf _ _ _ _ _ _ hx g2 H
    exact ⟨rfl, t1, by simp only [VR]; exact ⟨vs, rfl, v1⟩⟩
  · rename_i cs
    obtain ⟨x, hx, hr⟩ := bnd_eq_some.mp hr
    cases hr
    simp only [VR] at hv
    obtain ⟨vs, rfl, g2⟩ := hv
    obtain ⟨_, t1, v1⟩ := frzL_view hf _ _ _ _ _ _ hx g2 H
    exact ⟨rfl, t1, by simp only [VR]; exact ⟨vs, rfl, v1⟩⟩
  · rename_i fn a b
    obtain ⟨x, hx, hr⟩ := bnd_eq_some.mp hr
    obtain ⟨y, hy, hr⟩ := bnd_eq_some.mp hr
    cases hr
    simp only [VR] at hv
    obtain ⟨va, vb, rfl, g2, g3⟩ := hv
    obtain ⟨_, t1, v1⟩ := frzL_view hf _ _ _ _ _ _ hx g2 H
    rw [t1] at hy
    obtain ⟨_, t2, v2⟩ := frzL_view hf _ _ _ _ _ _ hy g3 H
    exact ⟨rfl, t2, by simp only [VR]; exact ⟨va, vb, rfl, v1, v2⟩⟩
  · rename_i t v
    obtain ⟨x, hx, hr⟩ := bnd_eq_some.mp hr
    cases hr
    simp only [VR] at hv
    obtain ⟨y, rfl, g2⟩ := hv
    obtain ⟨_, t1, v1⟩ := hf _ _ _ _ _ _ hx g2 H
    exact ⟨rfl, t1, by simp only [VR]; exact ⟨y, rfl, v1⟩⟩
  · rename_i cs n f p
    rw [cnd_eq] at hr
    split at hr
    · rename_i h0
      rw [beqN] at h0
      subst h0
      cases hr
      simp only [VR] at hv
      obtain ⟨ao, cap, rfl, _, _, _, k5, _⟩ := hv
      refine ⟨rfl, rfl, ?_⟩
      simp only [VR]
      exact ⟨ao, cap, rfl, Nat.zero_le _, fun h => (by cases h), rfl, k5, .inl ⟨trivial, trivial, fun h => by cases h⟩⟩
    · cases hr
  · cases hr

theorem frz_ok (A : Nat → Bool) (w : World) : ∀ n : Nat, FzOk A (frz true n) w
  | 0 => fun v h v' h' ρ u hr => by cases hr
  | n + 1 => by
    intro v h v' h' ρ u hr hv H C
    replace hr : cnd (closedV v) (some (v, h)) (frzStep (frz true n) true v h) = some (v', h') := hr
    rw [cnd_eq] at hr
    split at hr
    · rename_i hc
      cases hr
      exact ⟨rfl, ρ, .refl H, VR.mono (call_ext H C) _ _ (closed_noloc _ _ hc hv)⟩
    · exact frzStep_ok (frz_ok A w n) _ _ _ _ _ _ hr hv H C
theorem frz_view (w : World) : ∀ n : Nat, FzView (frz false n) w
  | 0 => fun v h v' h' ρ u hr => by cases hr
  | n + 1 => by
    intro v h v' h' ρ u hr hv H
    replace hr : cnd (closedV v) (some (v, h)) (frzStep (frz false n) false v h) = some (v', h') := hr
    rw [cnd_eq] at hr
    split at hr
    · rename_i hc
      cases hr
      exact ⟨rfl, rfl, VR.mono (all_ext H) _ _ (closed_noloc _ _ hc hv)⟩
    · exact frzStep_view (frz_view w n) _ _ _ _ _ _ hr hv H

theorem frzArgs_ok {A : Nat → Bool} {args : List AV} {h : AHeap} {x : List AV × AHeap} {us : List Value} (hr : frzArgs true args h = some x) (hv : VRL ρ args us) (H : HRel ρ h w) (C : Clear A ρ h w) :
    ∃ ρ', FT ρ h ρ' x.2 w ∧ VRL (ρ'.call w A) x.1 us := by
  unfold frzArgs at hr
  rw [cnd_eq] at hr
  split at hr
  · rename_i hc
    rw [allA_eq] at hc
    cases hr
    exact ⟨ρ, .refl H, VRL.mono (call_ext H C) _ _ (closedL_noloc _ _ (by rw [closedL_eq]; exact hc) hv)⟩
  · exact (frzL_ok (frz_ok A w _) _ _ _ _ _ _ hr hv H C).2
theorem frzArgs_view {args : List AV} {h : AHeap} {x : List AV × AHeap} {us : List Value} (hr : frzArgs false args h = some x) (hv : VRL ρ args us) (H : HRel ρ h w) :
    VRL (Rho.all w) x.1 us := by
  unfold frzArgs at hr
  rw [cnd_eq] at hr
  split at hr
  · rename_i hc
    rw [allA_eq] at hc
    cases hr
    exact VRL.mono (all_ext H) _ _ (closedL_noloc _ _ (by rw [closedL_eq]; exact hc) hv)
  · exact (frzL_view (frz_view w _) _ _ _ _ _ _ hr hv H).2.2

end
end Go.Proofs.YtlgofplbbmjdjaaGreatDoor.BH
namespace Go.Proofs.YtlgofplbbmjdjaaGreatDoor.BH

section
variable {P : Program} {ρ : Rho} {h : AHeap} {w : World}

theorem empty_get (o : Nat) : AHeap.empty.get o = none := by unfold AHeap.empty AHeap.get; simp [T.get_leaf]

/-- The places, with other frozen blocks. -/
def Rho.rets (ρ : Rho) (r : Nat → Option (Array Value)) : Rho := ⟨ρ.loc, r, ρ.view⟩

theorem FT.blks' {ρ' : Rho} {h' : AHeap} (a : FT ρ h ρ' h' w) {o : Nat} {x : AObj} {c : CLoc} (hx : h'.get o = some x) (hf : x.fix = false) (hc : ρ' o = some c) :
    ∃ o₀ x₀ c₀, h.get o₀ = some x₀ ∧ x₀.fix = false ∧ ρ o₀ = some c₀ ∧ c₀.blk = c.blk := by
  rcases a.t.blks o x c hx hf hc with hh | hh
  · exact hh
  · have := a.t.rel.blk hx hc; omega
theorem FT.rids' {ρ' : Rho} {h' : AHeap} (a : FT ρ h ρ' h' w) {b : Nat} (hb : ρ'.ret b ≠ none) : ρ.ret b ≠ none ∨ ∃ o x c, h.get o = some x ∧ x.fix = false ∧ ρ o = some c ∧ c.blk = b := by
  rcases a.t.rids b hb with hh | hh | hh
  · exact .inl hh
  · cases hr : ρ'.ret b with
    | none => exact absurd hr hb
    | some z =>
      obtain ⟨⟨e, fr, g⟩, _⟩ := a.t.rel.rets b z (.inl hr)
      have := (Array.getElem?_eq_some_iff.mp g).1
      omega
  · exact .inr hh

/-- An object that joins a heap. -/
theorem HRel.add {ρ' : Rho} {h' : AHeap} (H : HRel ρ h w) {o : Nat} {x : AObj} {c : CLoc} {y : Obj} (he : Ext ρ ρ') (er : ρ'.ret = ρ.ret) (ev : ρ'.view = ρ.view) (el : ∀ p, p ≠ o → ρ' p = ρ p)
    (hg : ∀ p, h'.get p = if p = o then some x else h.get p) (hn : ∀ p, h'.next ≤ p → ρ' p = none) (hc : ρ' o = some c) (hf : x.fix = false) (hy : w.heap[c.blk]? = some y) (hr : ORel ρ' c x y)
    (hret : ρ.ret c.blk = none) (hview : ρ.view c.blk = none) (hap : ∀ p z d, p ≠ o → h.get p = some z → z.fix = false → ρ p = some d → d.blk ≠ c.blk) : HRel ρ' h' w where
  objs := by
    intro p z hz
    rw [hg] at hz
    by_cases e : p = o
    · rw [if_pos e] at hz; cases hz; subst e; exact ⟨c, y, hc, hy, hr⟩
    · rw [if_neg e] at hz
      obtain ⟨d, y', g1, g2, g3⟩ := H.objs p z hz
      exact ⟨d, y', he.loc _ _ g1, g2, ORel.mono he _ _ g3⟩
  inj := by
    have apart : ∀ p z d, p ≠ o → h.get p = some z → ρ p = some d → d.blk ≠ c.blk := by
      intro p z d hp hz hd
      cases hzf : z.fix with
      | false => exact hap p z d hp hz hzf hd
      | true => intro e; exact H.fixed p z d hz hzf hd (by rw [e]; exact hret)
    intro p q z z' d d' hz hz' hd hd' hb
    rw [hg] at hz hz'
    by_cases e : p = o
    · by_cases e' : q = o
      · exact .inl (e.trans e'.symm)
      · rw [if_neg e'] at hz'
        subst e
        rw [hc] at hd; cases hd
        exact absurd hb.symm (apart q z' d' e' hz' (by rw [← el q e']; exact hd'))
    · rw [if_neg e] at hz
      by_cases e' : q = o
      · subst e'
        rw [hc] at hd'; cases hd'
        exact absurd hb (apart p z d e hz (by rw [← el p e]; exact hd))
      · rw [if_neg e'] at hz'
        exact H.inj p q z z' d d' hz hz' (by rw [← el p e]; exact hd) (by rw [← el q e']; exact hd') hb
  fresh := hn
  rets := by
    intro b z hz
    rw [er, ev] at hz
    obtain ⟨g1, g2⟩ := H.rets b z hz
    refine ⟨g1, fun p y d hp hpf hd => ?_⟩
    rw [hg] at hp
    by_cases e : p = o
    · subst e
      rw [hc] at hd; cases hd
      intro e; subst e
      rcases hz with hz | hz
      · rw [hret] at hz; cases hz
      · rw [hview] at hz; cases hz
    · rw [if_neg e] at hp; exact g2 p y d hp hpf (by rw [← el p e]; exact hd)
  fixed := by
    intro p z d hz hzf hd
    rw [hg] at hz
    rw [er]
    by_cases e : p = o
    · rw [if_pos e] at hz; cases hz; rw [hf] at hzf; cases hzf
    · rw [if_neg e] at hz; exact H.fixed p z d hz hzf (by rw [← el p e]; exact hd)

/-! ### behind a callee -/
/-- A callee's heap and its caller's, side by side. w: ahead of the call. -/
structure J (ρ0 : Rho) (h0 : AHeap) (ρ1 : Rho) (h1 : AHeap) (w w' : World) (ρc : Rho) (hc : AHeap) (ρ : Rho) (h : AHeap) : Prop where
  a : Trans ρ0 h0 w ρc hc w'
  b : Trans ρ1 h1 w ρ h w'
  ret : ρ.ret = ρc.ret
  disj : ∀ o x c o' x' c', hc.get o = some x → x.fix = false → ρc o = some c → h.get o' = some x' → x'.fix = false → ρ o' = some c' → c.blk ≠ c'.blk
  vdisj : ∀ o x c, hc.get o = some x → x.fix = false → ρc o = some c → ρ.view c.blk = none
  new : ∀ o x c, hc.get o = some x → x.fix = false → ρc o = some c → w.heap.size ≤ c.blk

variable {ρ0 ρ1 : Rho} {h0 h1 : AHeap} {w' : World} {ρc : Rho} {hc : AHeap}

/-- Something of the callee's is frozen. -/
theorem J.step (q : J ρ0 h0 ρ1 h1 w w' ρc hc ρ h) {ρc' : Rho} {hc' : AHeap} (t : FT ρc hc ρc' hc' w') : J ρ0 h0 ρ1 h1 w w' ρc' hc' (ρ.rets ρc'.ret) h ∧ Ext ρ (ρ.rets ρc'.ret) := by
  have hext : Ext ρ (ρ.rets ρc'.ret) := ⟨fun _ _ h => h, fun b x hx => t.t.ext.ret b x (by rw [← q.ret]; exact hx), fun _ _ h => h⟩
  refine ⟨⟨q.a.trans t.t, ⟨q.b.ext.trans hext, ?_, q.b.kept, q.b.size, q.b.outp, q.b.os, q.b.blks, q.b.ids, q.b.next, ?_, q.b.views⟩, rfl, ?_, ?_, ?_⟩, hext⟩
  · have H := q.b.rel
    refine ⟨fun p z hz => ?_, H.inj, H.fresh, ?_, ?_⟩
    · obtain ⟨d, y, g1, g2, g3⟩ := H.objs p z hz
      exact ⟨d, y, g1, g2, ORel.mono hext _ _ g3⟩
    · intro b z hz
      rcases hz with hz | hz
      · replace hz : ρc'.ret b = some z := hz
        refine ⟨(t.t.rel.rets b z (.inl hz)).1, fun p y d hp hpf hd hb => ?_⟩
        rcases t.rids' (b := b) (by rw [hz]; simp) with hh | ⟨o, x, c, k1, k2, k3, k4⟩
        · rw [← q.ret] at hh
          cases hr : ρ.ret b with
          | none => exact hh hr
          | some z' => exact (H.rets b z' (.inl hr)).2 p y d hp hpf hd hb
        · exact q.disj o x c p y d k1 k2 k3 hp hpf hd (k4.trans hb.symm)
      · exact H.rets b z (.inr hz)
    · intro p z d hz hzf hd
      have := H.fixed p z d hz hzf hd
      intro hh
      cases hr : ρ.ret d.blk with
      | none => exact this hr
      | some z' => have := hext.ret _ _ hr; rw [hh] at this; cases this
  · intro b hb
    replace hb : ρc'.ret b ≠ none := hb
    rcases t.rids' hb with hh | ⟨o, x, c, k1, k2, k3, k4⟩
    · rw [← q.ret] at hh; exact q.b.rids b hh
    · have := q.new o x c k1 k2 k3
      exact .inr (.inl (by omega))
  · intro o x c o' x' c' hx hf hcc hx' hf' hcc'
    obtain ⟨o₀, x₀, c₀, g1, g2, g3, g4⟩ := t.blks' hx hf hcc
    rw [← g4]; exact q.disj o₀ x₀ c₀ o' x' c' g1 g2 g3 hx' hf' hcc'
  · intro o x c hx hf hcc
    obtain ⟨o₀, x₀, c₀, g1, g2, g3, g4⟩ := t.blks' hx hf hcc
    rw [← g4]; exact q.vdisj o₀ x₀ c₀ g1 g2 g3
  · intro o x c hx hf hcc
    obtain ⟨o₀, x₀, c₀, g1, g2, g3, g4⟩ := t.blks' hx hf hcc
    rw [← g4]; exact q.new o₀ x₀ c₀ g1 g2 g3

theorem done_caller {σ ρ' : Rho} {A : Nat → Bool} (e : σ.ret = ρ'.ret) {v : AV} {u : Value} (hd : doneV v = true) (hv : VR (σ.call w A) v u) : VR ρ' v u := by
  refine VR.mono ?_ _ _ (done_noview _ _ hd hv)
  exact ⟨fun _ _ h => (by cases h), fun b x h => by rw [← e]; exact h, fun _ _ h => (by cases h)⟩

theorem giveFrz_ok (q : J ρ0 h0 ρ1 h1 w w' ρc hc ρ h) {v : AV} {u : Value} {r : AV × AHeap × AHeap} (hr : giveFrz v hc h = some r) (hv : VR ρc v u) :
    ∃ ρc' ρ', J ρ0 h0 ρ1 h1 w w' ρc' r.2.1 ρ' r.2.2 ∧ VR ρ' r.1 u ∧ Ext ρc ρc' ∧ Ext ρ ρ' := by
  unfold giveFrz at hr
  rw [cnd_eq] at hr
  split at hr
  · rename_i hd
    cases hr
    refine ⟨ρc, ρ, q, ?_, .refl _, .refl _⟩
    refine VR.mono ?_ _ _ (done_noview _ _ hd hv)
    exact ⟨fun _ _ h => (by cases h), fun b x h => by rw [q.ret]; exact h, fun _ _ h => (by cases h)⟩
  · obtain ⟨x, hx, hr⟩ := bnd_eq_some.mp hr
    rw [cnd_eq] at hr
    split at hr
    · rename_i hd
      cases hr
      obtain ⟨_, ρc', t, hv'⟩ := frz_ok (fun _ => false) w' _ _ _ _ _ _ _ hx hv q.a.rel (Clear.no _ _ _)
      obtain ⟨q', he⟩ := q.step t
      exact ⟨ρc', _, q', done_caller rfl hd hv', t.t.ext, he⟩
    · cases hr

theorem ftDel (H : HRel ρ h w) (o : Nat) : FT ρ h ρ (h.del o) w := by
  refine ⟨Trans.ofDel H o, rfl, rfl, fun p x hx => ?_⟩
  rw [AHeap.get_del] at hx
  split at hx
  · cases hx
  · exact ⟨x, hx⟩

/-- A row's cells, frozen: the row again, as another heap has it. -/
theorem row_again (H : HRel ρ h w) {o : Nat} {r : ARow} (hr : rowAt h o = some r) (hf : r.froz = false) :
    ∃ c y us, ρ o = some c ∧ w.heap[c.blk]? = some y ∧ VRL ρ r.cells us ∧ r.cells.all AV.scalar = true ∧ ρ.ret c.blk = none ∧ ρ.view c.blk = none ∧ (∀ p z d, p ≠ o → h.get p = some z → ρ p = some d → d.blk ≠ c.blk) ∧
      ∀ (ρ' : Rho) (cs' : List AV), cs'.all AV.scalar = true → VRL ρ' cs' us → ORel ρ' c (.row r.elem r.esz false cs') y := by
  obtain ⟨c, y, hc, hy, hrel⟩ := H.objs _ _ (row_of hr)
  obtain ⟨x, fr, rfl, q1, q2, q3, q4, q5, q6⟩ := hrel
  obtain ⟨c', x', e', fr', hc', hy', hcell⟩ := row_block H hr
  rw [hc] at hc'; cases hc'
  rw [hy] at hy'; cases hy'
  obtain ⟨g1, us, g2, g3⟩ := hcell _ _ _ (slots_all r.cells)
  have hfix : (AObj.row r.elem r.esz r.froz r.cells).fix = false := hf
  have hret : ρ.ret c.blk = none := by
    cases hx : ρ.ret c.blk with
    | none => rfl
    | some z => exact absurd rfl ((H.rets c.blk z (.inl hx)).2 _ _ _ (row_of hr) hfix hc)
  have hview : ρ.view c.blk = none := by
    cases hx : ρ.view c.blk with
    | none => rfl
    | some z => exact absurd rfl ((H.rets c.blk z (.inr hx)).2 _ _ _ (row_of hr) hfix hc)
  refine ⟨c, _, us, hc, hy, g2, g1, hret, hview, fun p z d hp hz hd hb => ?_, fun ρ' cs' hs hv => ?_⟩
  · rcases H.inj p o z _ d c hz (row_of hr) hd hc hb with hh | ⟨_, hh⟩
    · exact hp hh
    · rw [hfix] at hh; cases hh
  · have hl : cs'.length = r.cells.length := by rw [← hv.length, ← g2.length]
    refine ⟨x, fr, rfl, by rw [hl]; exact q1, fun i a ha => ?_, by rw [hl]; exact q3, q4, fun _ => q5 hf, q6⟩
    obtain ⟨v, k1, k2⟩ := hv.get ha
    refine ⟨List.all_eq_true.mp hs _ (List.mem_of_getElem? ha), v, ?_, k2⟩
    have := g3 i v k1
    rwa [Nat.add_zero] at this

theorem done_callerL {σ ρ' : Rho} {A : Nat → Bool} (e : σ.ret = ρ'.ret) {v : List AV} {u : List Value} (hd : v.all doneV = true) (hv : VRL (σ.call w A) v u) : VRL ρ' v u := by
  refine VRL.mono ?_ _ _ (doneL_noview _ _ (by rw [doneL_eq]; exact hd) hv)
  exact ⟨fun _ _ h => (by cases h), fun b x h => by rw [← e]; exact h, fun _ _ h => (by cases h)⟩

theorem giveOwn_ok (q : J ρ0 h0 ρ1 h1 w w' ρc hc ρ h) {a : ALoc} {n : Nat} {k : ACap} {row : ARow} (hrow : rowAt hc a.obj = some row) {u : Value} {r : AV × AHeap × AHeap} (hr : giveOwn a n k row hc h = some r) (hv : VR ρc (.slice (some a) n k) u) :
    ∃ ρc' ρ', J ρ0 h0 ρ1 h1 w w' ρc' r.2.1 ρ' r.2.2 ∧ VR ρ' r.1 u ∧ Ext ρc ρc' ∧ Ext ρ ρ' := by
  unfold giveOwn at hr
  rw [cnd_eq] at hr
  split at hr
  · cases hr
  rename_i hfz
  have hfz : row.froz = false := by simpa using hfz
  obtain ⟨x, hx, hr⟩ := bnd_eq_some.mp hr
  rw [cnd_eq] at hr
  split at hr
  case isFalse => cases hr
  rename_i hpf
  cases hr
  have hfix : (AObj.row row.elem row.esz row.froz row.cells).fix = false := hfz
  obtain ⟨c, y, us, hcc, hy, g1, g2, hret, _, hap, hor⟩ := row_again q.a.rel hrow hfz
  -- the callee's heap without the row
  obtain ⟨q1, e1⟩ := q.step (ftDel q.a.rel a.obj)
  have apart1 : ∀ p z d, (hc.del a.obj).get p = some z → ρc p = some d → d.blk ≠ c.blk := by
    intro p z d hz hd
    rw [AHeap.get_del] at hz
    split at hz
    · cases hz
    · rename_i hne; exact hap p z d hne hz hd
  obtain ⟨s1, ρc', t, v1, p1⟩ := frzCells_ok (frz_ok (fun _ => false) w' deep) hx g1 q1.a.rel (Clear.no _ _ _)
  obtain ⟨q2, e2⟩ := q1.step t
  have hret2 : ρc'.ret c.blk = none := by
    cases hr : ρc'.ret c.blk with
    | none => rfl
    | some z =>
      rcases t.rids' (b := c.blk) (by rw [hr]; simp) with hh | ⟨o, x, d, k1, k2, k3, k4⟩
      · exact absurd hret hh
      · exact absurd k4 (apart1 o x d k1 k3)
  generalize hσ : (ρ.rets ρc.ret).rets ρc'.ret = σ at q2 e2
  have eσ : σ.ret = ρc'.ret := by rw [← hσ]; rfl
  have lσ : ∀ p, σ p = ρ p := by intro p; rw [← hσ]; rfl
  have vσ : σ.view = ρ.view := by rw [← hσ]; rfl
  have hfr : σ h.next = none := q2.b.rel.fresh _ (Nat.le_refl _)
  have hview : σ.view c.blk = none := by rw [vσ]; exact q.vdisj _ _ _ (row_of hrow) hfix hcc
  have hcs : VRL (upd σ h.next c) x.1 us := done_callerL (ρ' := upd σ h.next c) (by show ρc'.ret = σ.ret; rw [eσ]) (p1 hpf) v1
  have hcsd : ∀ o x' c', h.get o = some x' → x'.fix = false → ρ o = some c' → c'.blk ≠ c.blk := fun o x' c' k1 k2 k3 hb => q.disj _ _ _ _ _ _ (row_of hrow) hfix hcc k1 k2 k3 hb.symm
  have hrel' : HRel (upd σ h.next c) (h.push (.row row.elem row.esz false x.1)) w' := by
    refine HRel.add q2.b.rel (ext_upd hfr) rfl rfl (fun p hp => upd_ne hp) (fun p => AHeap.get_push _ _ _) ?_ (upd_self _ _ _) rfl hy (hor _ _ (s1 g2) hcs) (by rw [eσ]; exact hret2) hview ?_
    · intro p hp
      simp at hp
      rw [upd_ne (by omega)]; exact q2.b.rel.fresh p (by omega)
    · intro p z d hp hz hzf hd
      exact hcsd p z d hz hzf (by rw [← lσ]; exact hd)
  have hge : w.heap.size ≤ c.blk := q.new _ _ _ (row_of hrow) hfix hcc
  refine ⟨ρc', upd σ h.next c, ⟨q2.a, ⟨q2.b.ext.trans (ext_upd hfr), hrel', q2.b.kept, q2.b.size, q2.b.outp, q2.b.os, ?_, ?_, ?_, q2.b.rids, q2.b.views⟩, ?_, ?_, ?_, q2.new⟩, ?_, t.t.ext, (e1.trans e2).trans (ext_upd hfr)⟩
  · intro p z d hz hzf hd
    rw [AHeap.get_push] at hz
    by_cases e : p = h.next
    · rw [e, upd_self] at hd; cases hd; exact .inr hge
    · rw [if_neg e] at hz; rw [upd_ne e] at hd; exact q2.b.blks p z d hz hzf hd
  · intro p hp
    by_cases e : p = h.next
    · right
      have := q2.b.next
      subst e; simp; omega
    · rw [upd_ne e] at hp
      rcases q2.b.ids p hp with hh | ⟨h2, h3⟩
      · exact .inl hh
      · right; simp; omega
  · have := q2.b.next
    simp; omega
  · show σ.ret = ρc'.ret
    exact eσ
  · intro o x₂ c₂ o' x' c' k1 k2 k3 k4 k5 k6
    rw [AHeap.get_push] at k4
    by_cases e : o' = h.next
    · rw [e, upd_self] at k6; cases k6
      obtain ⟨o₀, x₀, c₀, m1, m2, m3, m4⟩ := t.blks' k1 k2 k3
      rw [← m4]; exact apart1 o₀ x₀ c₀ m1 m3
    · rw [if_neg e] at k4; rw [upd_ne e] at k6
      exact q2.disj o x₂ c₂ o' x' c' k1 k2 k3 k4 k5 k6
  · intro o x₂ c₂ k1 k2 k3
    exact q2.vdisj o x₂ c₂ k1 k2 k3
  · simp only [VR] at hv ⊢
    obtain ⟨c', ad, m1, rfl, m3, m4⟩ := hv
    rw [hcc] at m1; cases m1
    exact ⟨c, ad, upd_self _ _ _, rfl, m3, m4⟩

theorem giveV_ok (q : J ρ0 h0 ρ1 h1 w w' ρc hc ρ h) {own : Bool} {v : AV} {u : Value} {r : AV × AHeap × AHeap} (hr : giveV own v hc h = some r) (hv : VR ρc v u) :
    ∃ ρc' ρ', J ρ0 h0 ρ1 h1 w w' ρc' r.2.1 ρ' r.2.2 ∧ VR ρ' r.1 u ∧ Ext ρc ρc' ∧ Ext ρ ρ' := by
  unfold giveV at hr
  split at hr
  · rw [cnd_eq] at hr
    split at hr
    · cases hr
      refine ⟨ρc, ρ, q, ?_, .refl _, .refl _⟩
      simp only [VR] at hv
      obtain ⟨rfl, rfl, rfl⟩ := hv
      simp only [VR]
      exact ⟨none, 0, rfl, Nat.le_refl _, fun _ => rfl, rfl, fun _ => rfl, .inl ⟨trivial, trivial, fun h => by cases h⟩⟩
    · exact giveFrz_ok q hr hv
  · rw [cnd_eq] at hr
    split at hr
    · rw [cnd_eq] at hr
      split at hr
      · rename_i h0
        rw [beqN] at h0
        subst h0
        cases hr
        refine ⟨ρc, ρ, q, ?_, .refl _, .refl _⟩
        simp only [VR] at hv
        obtain ⟨d, ad, _, rfl, _, _⟩ := hv
        simp only [VR]
        exact ⟨_, _, rfl, Nat.zero_le _, fun hh => exactly_eq d hh, rfl, fun h => (by cases h), .inl ⟨trivial, trivial, fun h => by cases h⟩⟩
      · obtain ⟨row, hrow, hr⟩ := bnd_eq_some.mp hr
        rw [cnd_eq] at hr
        split at hr
        · exact giveFrz_ok q hr hv
        · exact giveOwn_ok q hrow hr hv
    · exact giveFrz_ok q hr hv
  · exact giveFrz_ok q hr hv

theorem giveL_ok {own : Bool} : ∀ (vs : List AV) {ρc : Rho} {hc : AHeap} {ρ : Rho} {h : AHeap} {us : List Value} {r : List AV × AHeap × AHeap}, J ρ0 h0 ρ1 h1 w w' ρc hc ρ h → giveL own vs hc h = some r → VRL ρc vs us →
    ∃ ρc' ρ', J ρ0 h0 ρ1 h1 w w' ρc' r.2.1 ρ' r.2.2 ∧ VRL ρ' r.1 us ∧ Ext ρc ρc' ∧ Ext ρ ρ'
  | [], ρc, hc, ρ, h, us, r, q, hr, hv => by
    cases hr
    simp only [VRL] at hv; subst hv
    exact ⟨ρc, ρ, q, VRL.nil, .refl _, .refl _⟩
  | a :: l, ρc, hc, ρ, h, us, r, q, hr, hv => by
    replace hr : (bnd (giveV own a hc h) fun x => bnd (giveL own l x.2.1 x.2.2) fun y => some (x.1 :: y.1, y.2.1, y.2.2)) = some r := hr
    obtain ⟨x, hx, hr⟩ := bnd_eq_some.mp hr
    obtain ⟨y, hy, hr⟩ := bnd_eq_some.mp hr
    cases hr
    simp only [VRL] at hv
    obtain ⟨u, us', rfl, k1, k2⟩ := hv
    obtain ⟨ρc1, ρ2, q1, v1, e1, e2⟩ := giveV_ok q hx k1
    obtain ⟨ρc3, ρ4, q3, v3, e3, e4⟩ := giveL_ok l q1 hy (VRL.mono e1 _ _ k2)
    exact ⟨ρc3, ρ4, q3, VRL.cons (VR.mono e4 _ _ v1) v3, e1.trans e3, e2.trans e4⟩

theorem give_ok (q : J ρ0 h0 ρ1 h1 w w' ρc hc ρ h) {own : Bool} {v : AV} {u : Value} {r : AV × AHeap × AHeap} (hr : give own v hc h = some r) (hv : VR ρc v u) :
    ∃ ρ', Trans ρ1 h1 w ρ' r.2.2 w' ∧ VR ρ' r.1 u := by
  unfold give at hr
  split at hr
  · rename_i vs
    obtain ⟨x, hx, hr⟩ := bnd_eq_some.mp hr
    cases hr
    simp only [VR] at hv
    obtain ⟨us, rfl, k⟩ := hv
    obtain ⟨ρc', ρ', q', v', _, _⟩ := giveL_ok vs q hx k
    exact ⟨ρ', q'.b, by simp only [VR]; exact ⟨us, rfl, v'⟩⟩
  · obtain ⟨ρc', ρ', q', v', _, _⟩ := giveV_ok q hr hv
    exact ⟨ρ', q'.b, v'⟩

/-! ### the calls -/
theorem CallOk.mono {f : FuncId} {us : Array Value} {R S : Value → World → Prop} (h : CallOk P f us w R) (k : ∀ v w', R v w' → S v w') : CallOk P f us w S := by
  rcases h with ⟨h1, h2⟩ | ⟨v, w', h1, h2⟩
  · exact .inl ⟨h1, h2.mono fun e w' ⟨v, e1, e2⟩ => ⟨v, e1, k v w' e2⟩⟩
  · exact .inr ⟨v, w', h1, k v w' h2⟩

/-- A body that is sound, as a function's. -/
def BodySound (P : Program) (f : FuncId) (body : Body) : Prop := ∀ (args : List AV) (h : AHeap) (v : AV) (h' : AHeap) (ρ : Rho) (w : World) (us : Array Value), body args h = some (v, h') → VRL ρ args us.toList → HRel ρ h w →
  CallOk P f us w fun v' w' => ∃ ρ', VR ρ' v v' ∧ Trans ρ h w ρ' h' w'

theorem empty_rel (ret : Nat → Option (Array Value)) (A : Nat → Bool) (hret : ∀ b x, ret b = some x → cellsOf w b = some x) : HRel ⟨fun _ => none, ret, fun b => cnd (A b) none (cellsOf w b)⟩ AHeap.empty w where
  objs := by intro o x hx; rw [empty_get] at hx; cases hx
  inj := by intro o o' x x' c c' hx; rw [empty_get] at hx; cases hx
  fresh := fun _ _ => rfl
  rets := by
    intro b x hb
    refine ⟨?_, fun o y c hx => by rw [empty_get] at hx; cases hx⟩
    rcases hb with hb | hb
    · exact of_cellsOf (hret b x hb)
    · replace hb : cnd (A b) none (cellsOf w b) = some x := hb
      cases hA : A b <;> rw [hA] at hb
      · exact of_cellsOf hb
      · cases hb
  fixed := by intro o x c hx; rw [empty_get] at hx; cases hx

theorem callView_sound {f : FuncId} {body : Body} (hb : BodySound P f body) : BodySound P f (callView body) := by
  intro args h v h' ρ w us hr hv H
  replace hr : (bnd (frzArgs false args h) fun a => bnd (body a.1 .empty) fun r => cnd (plainV r.1) (some (r.1, h)) none) = some (v, h') := hr
  obtain ⟨a, ha, hr⟩ := bnd_eq_some.mp hr
  obtain ⟨r, hbr, hr⟩ := bnd_eq_some.mp hr
  rw [cnd_eq] at hr
  split at hr
  case isFalse => cases hr
  rename_i hp
  cases hr
  have hv' := frzArgs_view ha hv H
  refine (hb _ _ _ _ (Rho.all w) w us hbr hv' (empty_rel (w := w) (cellsOf w) (fun _ => false) fun _ _ h => h)).mono ?_
  rintro v' w' ⟨ρ', k1, T⟩
  have same : ∀ b, b < w.heap.size → w'.heap[b]? = w.heap[b]? := fun b hb => T.kept b hb fun o x c hx => by rw [empty_get] at hx; cases hx
  have same' : ∀ {b : Nat} {y : Obj}, w.heap[b]? = some y → w'.heap[b]? = some y := fun {b y} hy => by rw [same b (Array.getElem?_eq_some_iff.mp hy).1]; exact hy
  refine ⟨ρ, plain_any _ _ hp k1, .refl ρ, ⟨fun o x hx => ?_, H.inj, H.fresh, fun b x hx => ?_, H.fixed⟩, fun b hb _ => same b hb, T.size, T.outp, T.os, fun o x c hx hf hc => .inl ⟨o, x, c, hx, hf, hc, rfl⟩, fun _ ho => .inl ho, Nat.le_refl _, fun _ hb => .inl hb, rfl⟩
  · obtain ⟨c, y, g1, g2, g3⟩ := H.objs o x hx
    exact ⟨c, y, g1, same' g2, g3⟩
  · obtain ⟨⟨e, fr, g1⟩, g2⟩ := H.rets b x hx
    exact ⟨⟨e, fr, same' g1⟩, g2⟩

theorem emptyOf_any {σ : Rho} {v x : AV} {u : Value} (he : emptyOf v = some x) (hv : VR ρ v u) : VR σ x u := by
  unfold emptyOf at he
  split at he
  · cases he
    simp only [VR] at hv
    obtain ⟨rfl, rfl, rfl⟩ := hv
    simp only [VR]
    exact ⟨none, 0, rfl, Nat.le_refl _, fun _ => rfl, rfl, fun _ => rfl, .inl ⟨trivial, trivial, fun h => by cases h⟩⟩
  · rw [cnd_eq] at he
    split at he
    · rename_i h0
      rw [beqN] at h0
      subst h0
      cases he
      simp only [VR] at hv
      obtain ⟨d, ad, _, rfl, _, _⟩ := hv
      simp only [VR]
      exact ⟨_, _, rfl, Nat.zero_le _, fun hh => exactly_eq d hh, rfl, fun h => (by cases h), .inl ⟨trivial, trivial, fun h => by cases h⟩⟩
    · cases he
  · rw [cnd_eq] at he
    split at he
    · rename_i h0
      rw [beqN] at h0
      subst h0
      cases he
      simp only [VR] at hv
      obtain ⟨ao, cap, rfl, _, k3, _, k5, _⟩ := hv
      simp only [VR]
      exact ⟨ao, cap, rfl, Nat.zero_le _, k3, rfl, k5, .inl ⟨trivial, trivial, fun h => by cases h⟩⟩
    · cases he
  · rw [cnd_eq] at he
    split at he
    · rename_i hp
      cases he
      exact plain_any _ _ hp hv
    · cases he

theorem viewE_sound {f : FuncId} {body : Body} (hb : BodySound P f body) {args : List AV} {h : AHeap} {x : AV} {ρ : Rho} {w : World} {us : Array Value} (hr : viewE body args h = some x) (hv : VRL ρ args us.toList) (H : HRel ρ h w) :
    CallOk P f us w fun v' w' => (∀ σ, VR σ x v') ∧ Trans ρ h w ρ h w' := by
  unfold viewE at hr
  obtain ⟨a, ha, hr⟩ := bnd_eq_some.mp hr
  obtain ⟨r, hbr, hr⟩ := bnd_eq_some.mp hr
  have hv' := frzArgs_view ha hv H
  refine (hb _ _ _ _ (Rho.all w) w us hbr hv' (empty_rel (w := w) (cellsOf w) (fun _ => false) fun _ _ h => h)).mono ?_
  rintro v' w' ⟨ρ', k1, T⟩
  have same : ∀ b, b < w.heap.size → w'.heap[b]? = w.heap[b]? := fun b hb => T.kept b hb fun o x c hx => by rw [empty_get] at hx; cases hx
  have same' : ∀ {b : Nat} {y : Obj}, w.heap[b]? = some y → w'.heap[b]? = some y := fun {b y} hy => by rw [same b (Array.getElem?_eq_some_iff.mp hy).1]; exact hy
  refine ⟨fun σ => emptyOf_any hr k1, .refl ρ, ⟨fun o x hx => ?_, H.inj, H.fresh, fun b x hx => ?_, H.fixed⟩, fun b hb _ => same b hb, T.size, T.outp, T.os, fun o x c hx hf hc => .inl ⟨o, x, c, hx, hf, hc, rfl⟩, fun _ ho => .inl ho, Nat.le_refl _, fun _ hb => .inl hb, rfl⟩
  · obtain ⟨c, y, g1, g2, g3⟩ := H.objs o x hx
    exact ⟨c, y, g1, same' g2, g3⟩
  · obtain ⟨⟨e, fr, g1⟩, g2⟩ := H.rets b x hx
    exact ⟨⟨e, fr, same' g1⟩, g2⟩

/-- A slice that may be nil is one or the other. -/
theorem alts_ok : ∀ {args : List AV} {us : List Value}, VRL ρ args us → ∃ l ∈ alts args, VRL ρ l us
  | [], us, hv => ⟨[], by show [] ∈ [[]]; simp, hv⟩
  | a :: r, us, hv => by
    simp only [VRL] at hv
    obtain ⟨u, us', rfl, h1, h2⟩ := hv
    obtain ⟨l, hl, hlv⟩ := alts_ok h2
    show ∃ l ∈ cnd (isEmp a) ((alts r).map (fun l => AV.slice none 0 (.exact 0) :: l) ++ (alts r).map (fun l => empNot a :: l)) ((alts r).map fun l => a :: l), VRL ρ l (u :: us')
    cases he : isEmp a with
    | false => exact ⟨a :: l, by rw [cnd_false]; exact List.mem_map.mpr ⟨l, hl, rfl⟩, VRL.cons h1 hlv⟩
    | true =>
      rw [cnd_true]
      cases a <;> simp [isEmp] at he
      rename_i cs n f pf
      have hn : n = 0 := by
        cases hb : Nat.beq n 0 with
        | true => rwa [beqN] at hb
        | false => rw [hb] at he; cases he
      subst hn
      simp only [VR] at h1
      obtain ⟨ao, cap, rfl, _, k3, _, k5, _⟩ := h1
      cases ao with
      | none =>
        have := k5 rfl
        subst this
        exact ⟨_, List.mem_append_left _ (List.mem_map.mpr ⟨l, hl, rfl⟩), VRL.cons (by simp [VR]) hlv⟩
      | some ad =>
        refine ⟨_, List.mem_append_right _ (List.mem_map.mpr ⟨l, hl, rfl⟩), VRL.cons ?_ hlv⟩
        show VR ρ (.lst [] 0 f false) _
        simp only [VR]
        exact ⟨_, _, rfl, Nat.zero_le _, k3, rfl, fun h => (by cases h), .inl ⟨trivial, trivial, fun _ h => by cases h⟩⟩
theorem eqRes_VR {σ : Rho} {x y : AV} {u : Value} (he : eqRes y x = true) (hv : VR σ y u) : VR σ x u := by
  unfold eqRes at he
  split at he
  · rename_i c n f p d m g q
    cases c <;> cases d <;> simp [lcase] at he
    obtain ⟨⟨h1, rfl⟩, rfl⟩ := he
    subst h1
    exact hv
  · rename_i k a l b
    rw [Bool.and_eq_true] at he
    obtain ⟨h1, h2⟩ := he
    have := kno_inj h1
    subst this
    rw [eqI_eq] at h2
    have : a = b := by simpa using h2
    subst this; exact hv
  · rename_i a b
    have : a = b := by simpa using he
    subst this; exact hv
  · rename_i a b
    rw [same_eq] at he
    have : a = b := by simpa using he
    subst this; exact hv
  · cases he

theorem callKeep_sound {f : FuncId} {body : Body} (own : Bool) (hb : BodySound P f body) : BodySound P f (callKeep own body) := by
  intro args h v h' ρ w us hr hv H
  replace hr : (bnd (frzArgs true args h) fun a => bnd (body a.1 .empty) fun r => bnd (give own r.1 r.2 a.2) fun x => some (x.1, x.2.2)) = some (v, h') := hr
  obtain ⟨a, ha, hr⟩ := bnd_eq_some.mp hr
  obtain ⟨r, hbr, hr⟩ := bnd_eq_some.mp hr
  obtain ⟨x, hx, hr⟩ := bnd_eq_some.mp hr
  cases hr
  obtain ⟨ρ1, t, hv'⟩ := frzArgs_ok (A := fun _ => false) ha hv H (Clear.no _ _ _)
  have H1 := t.t.rel
  refine (hb _ _ _ _ (ρ1.call w fun _ => false) w us hbr hv' (empty_rel (w := w) ρ1.ret (fun _ => false) fun b x hx => H1.cellsOf (.inl hx))).mono ?_
  rintro v' w' ⟨ρc, k1, T⟩
  have same : ∀ b, b < w.heap.size → w'.heap[b]? = w.heap[b]? := fun b hb => T.kept b hb fun o x c hx => by rw [empty_get] at hx; cases hx
  have same' : ∀ {b : Nat} {y : Obj}, w.heap[b]? = some y → w'.heap[b]? = some y := fun {b y} hy => by rw [same b (Array.getElem?_eq_some_iff.mp hy).1]; exact hy
  have hrid : ∀ b, ρc.ret b ≠ none → ρ1.ret b ≠ none ∨ w.heap.size ≤ b := by
    intro b hb
    rcases T.rids b hb with hh | hh | ⟨o, x, c, hx, _⟩
    · exact .inl hh
    · exact .inr hh
    · rw [empty_get] at hx; cases hx
  have hext : Ext ρ1 (ρ1.rets ρc.ret) := ⟨fun _ _ h => h, T.ext.ret, fun _ _ h => h⟩
  have hnew : ∀ o x c, r.2.get o = some x → x.fix = false → ρc o = some c → w.heap.size ≤ c.blk := by
    intro o x c hx hf hc
    rcases T.blks o x c hx hf hc with ⟨o₀, x₀, c₀, g, _⟩ | hh
    · rw [empty_get] at g; cases g
    · exact hh
  have j : J (ρ1.call w fun _ => false) .empty ρ h w w' ρc r.2 (ρ1.rets ρc.ret) a.2 := by
    refine ⟨T, t.t.trans ⟨hext, ⟨fun o x hx => ?_, H1.inj, H1.fresh, ?_, ?_⟩, fun b hb _ => same b hb, T.size, T.outp, T.os, fun o x c hx hf hc => .inl ⟨o, x, c, hx, hf, hc, rfl⟩, fun _ ho => .inl ho, Nat.le_refl _, fun b hb => ?_, rfl⟩, rfl, ?_, ?_, hnew⟩
    · obtain ⟨c, y, g1, g2, g3⟩ := H1.objs o x hx
      exact ⟨c, y, g1, same' g2, ORel.mono hext _ _ g3⟩
    · intro b z hz
      rcases hz with hz | hz
      · replace hz : ρc.ret b = some z := hz
        refine ⟨(T.rel.rets b z (.inl hz)).1, fun o y c hy hf hc hb => ?_⟩
        rcases hrid b (by rw [hz]; simp) with hh | hh
        · cases hr : ρ1.ret b with
          | none => exact hh hr
          | some z' => exact (H1.rets b z' (.inl hr)).2 o y c hy hf hc hb
        · have := H1.blk hy hc
          omega
      · obtain ⟨⟨e, fr, g1⟩, g2⟩ := H1.rets b z (.inr hz)
        exact ⟨⟨e, fr, same' g1⟩, g2⟩
    · intro o x c hx hf hc hh
      have := H1.fixed o x c hx hf hc
      cases hr : ρ1.ret c.blk with
      | none => exact this hr
      | some z' => have := hext.ret _ _ hr; rw [hh] at this; cases this
    · rcases hrid b hb with hh | hh
      · exact .inl hh
      · exact .inr (.inl hh)
    · intro o x c o' x' c' hx hf hc hx' _ hc' hb
      have h1 := hnew o x c hx hf hc
      have h2 := H1.blk hx' hc'
      omega
    · intro o x c hx hf hc
      have h1 := hnew o x c hx hf hc
      cases hr : (ρ1.rets ρc.ret).view c.blk with
      | none => rfl
      | some z =>
        obtain ⟨⟨e, fr, g1⟩, _⟩ := H1.rets c.blk z (.inr hr)
        have := (Array.getElem?_eq_some_iff.mp g1).1
        omega
  obtain ⟨ρ', T', v''⟩ := give_ok j hx k1
  exact ⟨ρ', v'', T'⟩

end
end Go.Proofs.YtlgofplbbmjdjaaGreatDoor.BH
namespace Go.Proofs.YtlgofplbbmjdjaaGreatDoor.BH

section
variable {P : Program} {ρ : Rho} {h : AHeap} {w : World}

theorem lent_get (r : ARow) (cs : List AV) (o : Nat) : (lent r cs).get o = if o = 0 then some (.row r.elem r.esz false cs) else none := by
  unfold lent
  rw [AHeap.get_push]
  show (if o = 0 then _ else AHeap.empty.get o) = _
  rw [empty_get]
theorem lent_next (r : ARow) (cs : List AV) : (lent r cs).next = 1 := rfl

theorem callLent_sound {f : FuncId} {body : Body} (own : Bool) (hb : BodySound P f body) {o : Nat} {rest : List AV} {r : ARow} {v : AV} {h' : AHeap} {us : Array Value} (hrow : rowAt h o = some r)
    (hr : callLent own body o rest h r = some (v, h')) (hv : VRL ρ (.ptr (some ⟨o, 0⟩) :: rest) us.toList) (H : HRel ρ h w) :
    CallOk P f us w fun v' w' => ∃ ρ', VR ρ' v v' ∧ Trans ρ h w ρ' h' w' := by
  unfold callLent at hr
  rw [cnd_eq] at hr
  split at hr
  · cases hr
  rename_i hfz
  have hfz : r.froz = false := by simpa using hfz
  obtain ⟨x, hx, hr⟩ := bnd_eq_some.mp hr
  obtain ⟨a, ha, hr⟩ := bnd_eq_some.mp hr
  obtain ⟨q, hq, hr⟩ := bnd_eq_some.mp hr
  obtain ⟨r', hr', hr⟩ := bnd_eq_some.mp hr
  rw [cnd_eq] at hr
  split at hr
  · cases hr
  rename_i hfz'
  have hfz' : r'.froz = false := by simpa using hfz'
  obtain ⟨y, hy, hr⟩ := bnd_eq_some.mp hr
  obtain ⟨z, hz, hr⟩ := bnd_eq_some.mp hr
  cases hr
  obtain ⟨c, yo, uo, hc, hyo, g1, g2, hret, hview, hap, hor⟩ := row_again H hrow hfz
  have hfix : (AObj.row r.elem r.esz r.froz r.cells).fix = false := hfz
  have hclt : c.blk < w.heap.size := (Array.getElem?_eq_some_iff.mp hyo).1
  -- the caller's heap without the object
  have Hd : HRel ρ (h.del o) w := H.del o
  let A : Nat → Bool := fun b => Nat.beq b c.blk
  have hA : ∀ b, A b = true ↔ b = c.blk := fun b => beqN b c.blk
  have C0 : Clear A ρ (h.del o) w := by
    refine ⟨fun b hb => by rw [(hA b).mp hb]; exact hclt, fun b hb => by rw [(hA b).mp hb]; exact hret, fun b hb => by rw [(hA b).mp hb]; exact hview, fun b p z d hb hz hd => ?_⟩
    rw [AHeap.get_del] at hz
    split at hz
    · cases hz
    · rename_i hne; rw [(hA b).mp hb]; exact hap p z d hne hz hd
  obtain ⟨s1, ρ1, t1, v1, _⟩ := frzCells_ok (frz_ok A w deep) hx g1 Hd C0
  simp only [VRL] at hv
  obtain ⟨u0, ur, hus, hv0, hvr⟩ := hv
  obtain ⟨ρ2, t2, v2⟩ := frzArgs_ok (A := A) ha (VRL.mono t1.t.ext _ _ hvr) t1.t.rel (t1.clear C0)
  have t12 := t1.trans t2
  have C2 : Clear A ρ2 a.2 w := t12.clear C0
  have H2 := t12.t.rel
  -- the callee's beginning
  let ρ0 : Rho := ⟨fun p => if p = 0 then some c else none, ρ2.ret, fun b => cnd (A b) none (cellsOf w b)⟩
  have h00 : ρ0 0 = some c := by show (if (0 : Nat) = 0 then some c else none) = some c; rfl
  have e20 : Ext (ρ2.call w A) ρ0 := ⟨fun _ _ h => (by cases h), fun _ _ h => h, fun _ _ h => h⟩
  have HE : HRel (ρ2.call w A) AHeap.empty w := empty_rel (w := w) ρ2.ret A fun b x hx => H2.cellsOf (.inl hx)
  have H0 : HRel ρ0 (lent r x.1) w := by
    refine HRel.add HE e20 rfl rfl (fun p hp => if_neg hp) (o := 0) (fun p => ?_) (fun p hp => ?_) h00 rfl hyo (hor ρ0 x.1 (s1 g2) ?_) (C2.ret _ ((hA _).mpr rfl)) ?_ ?_
    · rw [lent_get, empty_get]
    · rw [lent_next] at hp; exact if_neg (by omega)
    · exact VRL.mono ((call_mono t2.t.ext).trans e20) _ _ v1
    · show cnd (A c.blk) none _ = none
      rw [(hA _).mpr rfl]; rfl
    · intro p z d _ hz; rw [empty_get] at hz; cases hz
  have hu0 : u0 = .pointer (some (c.at 0)) := by
    simp only [VR] at hv0
    obtain ⟨c', k1, k2⟩ := hv0
    rw [hc] at k1; cases k1; exact k2
  refine (hb _ _ _ _ ρ0 w us hq (by rw [hus, hu0]; exact VRL.cons (by simp only [VR]; exact ⟨c, h00, rfl⟩) (VRL.mono e20 _ _ v2)) H0).mono ?_
  rintro v' w' ⟨ρc, k1, T⟩
  have same : ∀ b, b < w.heap.size → b ≠ c.blk → w'.heap[b]? = w.heap[b]? := by
    intro b hb hne
    refine T.kept b hb fun p z d hz _ hd => ?_
    rw [lent_get] at hz
    split at hz
    · rename_i e; subst e; rw [h00] at hd; cases hd; exact hne.symm
    · cases hz
  have same' : ∀ {b : Nat} {y : Obj}, b ≠ c.blk → w.heap[b]? = some y → w'.heap[b]? = some y := fun {b y} hne hy => by rw [same b (Array.getElem?_eq_some_iff.mp hy).1 hne]; exact hy
  -- the object behind the call
  obtain ⟨c', yo', uo', hc', hyo', g1', g2', hret', hview', hap', hor'⟩ := row_again T.rel hr' hfz'
  have hcc : c' = c := by have := T.ext.loc 0 c h00; rw [hc'] at this; cases this; rfl
  subst hcc
  have hfix' : (AObj.row r'.elem r'.esz r'.froz r'.cells).fix = false := hfz'
  have td := ftDel T.rel 0
  have Cd : Clear A ρc (q.2.del 0) w' := by
    refine ⟨fun b hb => by rw [(hA b).mp hb]; exact (Array.getElem?_eq_some_iff.mp hyo').1, fun b hb => by rw [(hA b).mp hb]; exact hret', fun b hb => by rw [(hA b).mp hb]; exact hview', fun b p z d hb hz hd => ?_⟩
    rw [AHeap.get_del] at hz
    split at hz
    · cases hz
    · rename_i hne; rw [(hA b).mp hb]; exact hap' p z d hne hz hd
  obtain ⟨s3, ρ3, t3, v3, p3⟩ := frzCells_ok (A := A) (frz_ok A w' deep) hy g1' td.t.rel Cd
  have C3 : Clear A ρ3 y.2.1 w' := t3.clear Cd
  have T3 : Trans ρ0 (lent r x.1) w ρ3 y.2.1 w' := T.trans (td.t.trans t3.t)
  have hblk : ∀ p z d, y.2.1.get p = some z → z.fix = false → ρ3 p = some d → w.heap.size ≤ d.blk := by
    intro p z d hz hzf hd
    rcases T3.blks p z d hz hzf hd with ⟨p₀, z₀, d₀, m1, m2, m3, m4⟩ | hh
    · rw [lent_get] at m1
      split at m1
      · rename_i e; subst e; rw [h00] at m3; cases m3
        exact absurd m4.symm (C3.objs _ p z d ((hA _).mpr rfl) hz hd)
      · cases m1
    · exact hh
  have hrid : ∀ b, ρ3.ret b ≠ none → ρ2.ret b ≠ none ∨ w.heap.size ≤ b := by
    intro b hb
    rcases T3.rids b hb with hh | hh | ⟨p, z, d, m1, m2, m3, m4⟩
    · exact .inl hh
    · exact .inr hh
    · rw [lent_get] at m1
      split at m1
      · rename_i e; subst e; rw [h00] at m3; cases m3
        exact absurd (C3.ret _ ((hA _).mpr m4.symm)) hb
      · cases m1
  have hext : Ext ρ2 (ρ2.rets ρ3.ret) := ⟨fun _ _ h => h, fun b z hz => T3.ext.ret b z hz, fun _ _ h => h⟩
  -- the caller's heap behind the call, without the object
  have Hc : HRel (ρ2.rets ρ3.ret) a.2 w' := by
    refine ⟨fun p z hz => ?_, H2.inj, H2.fresh, ?_, ?_⟩
    · obtain ⟨d, y', m1, m2, m3⟩ := H2.objs p z hz
      exact ⟨d, y', m1, same' (C2.objs _ p z d ((hA _).mpr rfl) hz m1) m2, ORel.mono hext _ _ m3⟩
    · intro b z' hz'
      rcases hz' with hz' | hz'
      · replace hz' : ρ3.ret b = some z' := hz'
        refine ⟨(t3.t.rel.rets b z' (.inl hz')).1, fun p y' d hp hpf hd hb => ?_⟩
        rcases hrid b (by rw [hz']; simp) with hh | hh
        · cases hr : ρ2.ret b with
          | none => exact hh hr
          | some z'' => exact (H2.rets b z'' (.inl hr)).2 p y' d hp hpf hd hb
        · have := H2.blk hp hd
          omega
      · replace hz' : ρ2.view b = some z' := hz'
        obtain ⟨⟨e, fr, m1⟩, m2⟩ := H2.rets b z' (.inr hz')
        refine ⟨⟨e, fr, same' (fun hh => ?_) m1⟩, m2⟩
        rw [C2.view b ((hA b).mpr hh)] at hz'; cases hz'
    · intro p z d hz' hzf hd hh
      have := H2.fixed p z d hz' hzf hd
      cases hr : ρ2.ret d.blk with
      | none => exact this hr
      | some z' => have := hext.ret _ _ hr; rw [hh] at this; cases this
  -- .. and with it
  have hlo : (ρ2.rets ρ3.ret) o = some c' := by
    show ρ2 o = some c'
    rw [t12.loc]; exact hc
  have hdone : y.2.2 = true ∨ y.2.2 = false := by cases y.2.2 <;> simp
  rcases hdone with hdone | hdone
  case inr => rw [hdone] at hz; cases hz
  rw [hdone] at hz
  replace hz : give own q.1 y.2.1 (a.2.set o (.row r'.elem r'.esz false y.1)) = some z := hz
  have hcs : VRL (ρ2.rets ρ3.ret) y.1 uo' := done_callerL (ρ' := ρ2.rets ρ3.ret) rfl (p3 hdone) v3
  have Ho : HRel (ρ2.rets ρ3.ret) (a.2.set o (.row r'.elem r'.esz false y.1)) w' := by
    refine HRel.add Hc (.refl _) rfl rfl (fun _ _ => rfl) (fun p => AHeap.get_set _ _ _ _) (fun p hp => Hc.fresh p hp) hlo rfl hyo' (hor' _ _ (s3 g2') hcs) (C3.ret _ ((hA _).mpr rfl)) (C2.view _ ((hA _).mpr rfl)) ?_
    intro p z d _ hz _ hd
    exact C2.objs _ p z d ((hA _).mpr rfl) hz hd
  have back : ∀ p z d, a.2.get p = some z → z.fix = false → ρ2 p = some d → ∃ o₀ x₀ c₀, h.get o₀ = some x₀ ∧ x₀.fix = false ∧ ρ o₀ = some c₀ ∧ c₀.blk = d.blk := by
    intro p z d m1 m2 m3
    obtain ⟨o₀, x₀, c₀, n1, n2, n3, n4⟩ := t12.blks' m1 m2 m3
    rw [AHeap.get_del] at n1
    split at n1
    · cases n1
    · exact ⟨o₀, x₀, c₀, n1, n2, n3, n4⟩
  have j : J ρ0 (lent r x.1) ρ h w w' ρ3 y.2.1 (ρ2.rets ρ3.ret) (a.2.set o (.row r'.elem r'.esz false y.1)) := by
    refine ⟨T3, ⟨t12.t.ext.trans hext, Ho, fun b hb hn => ?_, T.size, T.outp, T.os, fun p z d hz hzf hd => ?_, fun p hp => .inl ?_, ?_, fun b hb => ?_, t12.t.views⟩, rfl, ?_, ?_, hblk⟩
    · exact same b hb fun e => hn o _ c' (row_of hrow) hfix hc e.symm
    · rw [AHeap.get_set] at hz
      by_cases e : p = o
      · subst e
        rw [hlo] at hd; cases hd
        exact .inl ⟨p, _, c', row_of hrow, hfix, hc, rfl⟩
      · rw [if_neg e] at hz; exact .inl (back p z d hz hzf hd)
    · have : (ρ2.rets ρ3.ret) p = ρ p := by show ρ2 p = ρ p; rw [t12.loc]
      rw [← this]; exact hp
    · show h.next ≤ a.2.next
      rw [t12.next]; exact Nat.le_refl _
    · rcases hrid b hb with hh | hh
      · rcases t12.rids' hh with hh | ⟨p, z, d, m1, m2, m3, m4⟩
        · exact .inl hh
        · rw [AHeap.get_del] at m1
          split at m1
          · cases m1
          · exact .inr (.inr ⟨p, z, d, m1, m2, m3, m4⟩)
      · exact .inr (.inl hh)
    · intro p z d p' z' d' m1 m2 m3 m4 m5 m6
      have hge := hblk p z d m1 m2 m3
      rw [AHeap.get_set] at m4
      by_cases e : p' = o
      · subst e
        rw [hlo] at m6; cases m6
        omega
      · rw [if_neg e] at m4
        have := H2.blk m4 m6
        omega
    · intro p z d m1 m2 m3
      have hge := hblk p z d m1 m2 m3
      cases hr : (ρ2.rets ρ3.ret).view d.blk with
      | none => rfl
      | some z' =>
        obtain ⟨⟨e, fr, m4⟩, _⟩ := H2.rets d.blk z' (.inr hr)
        have := (Array.getElem?_eq_some_iff.mp m4).1
        omega
  obtain ⟨ρ', T', v''⟩ := give_ok j hz (VR.mono ((td.t.trans t3.t).ext) _ _ k1)
  exact ⟨ρ', v'', T'⟩

theorem callBor_sound {f : FuncId} {body : Body} (own : Bool) (hb : BodySound P f body) : BodySound P f (callBor own body) := by
  intro args h v h' ρ w us hr hv H
  unfold callBor at hr
  cases args with
  | nil => cases hr
  | cons p rest =>
    replace hr : (bnd (ptrOf p) fun a => cnd (Nat.beq a.off 0) (bnd (rowAt h a.obj) fun r => callLent own body a.obj rest h r) none) = some (v, h') := hr
    obtain ⟨a, ha, hr⟩ := bnd_eq_some.mp hr
    rw [cnd_eq] at hr
    split at hr
    · rename_i h0
      rw [beqN] at h0
      obtain ⟨r, hrow, hrl⟩ := bnd_eq_some.mp hr
      have hp : p = .ptr (some ⟨a.obj, 0⟩) := by
        cases p <;> simp [ptrOf] at ha
        subst ha; rw [← h0]
      subst hp
      exact callLent_sound own hb hrow (show callLent own body a.obj rest h r = some (v, h') from hrl) hv H
    · cases hr

theorem kindCall_sound {f : FuncId} {body : Body} (k : Kind) (hb : BodySound P f body) : BodySound P f (kindCall k body) := by
  intro args h v h' ρ w us hr hv H
  unfold kindCall at hr
  rw [cnd_eq] at hr
  split at hr
  · rw [cnd_eq] at hr
    split at hr
    · exact callBor_sound k.own hb _ _ _ _ _ _ _ hr hv H
    · rw [cnd_eq] at hr
      split at hr
      · exact callKeep_sound k.own hb _ _ _ _ _ _ _ hr hv H
      · exact callView_sound hb _ _ _ _ _ _ _ hr hv H
  · exact hb _ _ _ _ _ _ _ hr hv H

theorem allSame_mem {run : List AV → Option AV} {a : List AV} {r : List (List AV)} {x : AV} (h : allSame run a r = some x) : ∀ l ∈ a :: r, ∃ y, run l = some y ∧ (y = x ∨ eqRes y x = true) := by
  unfold allSame at h
  obtain ⟨z, hz, h⟩ := bnd_eq_some.mp h
  rw [cnd_eq] at h
  split at h
  case isFalse => cases h
  rename_i hall
  cases h
  intro l hl
  rcases List.mem_cons.mp hl with rfl | hl
  · exact ⟨x, hz, .inl rfl⟩
  · have key : ∀ r : List (List AV), (lrec true (fun l _ ih => ocase (run l) false fun y => cnd (eqRes y x) ih false) r) = true → ∀ l ∈ r, ∃ y, run l = some y ∧ eqRes y x = true := by
      intro r
      induction r with
      | nil => intro _ l hl; cases hl
      | cons b t ih =>
        intro h l hl
        replace h : (ocase (run b) false fun y => cnd (eqRes y x) (lrec true (fun l _ ih => ocase (run l) false fun y => cnd (eqRes y x) ih false) t) false) = true := h
        cases hb : run b with
        | none => rw [hb] at h; cases h
        | some y =>
          rw [hb] at h
          obtain ⟨h1, h2⟩ := cnd_and h
          rcases List.mem_cons.mp hl with rfl | hl
          · exact ⟨y, hb, h1⟩
          · exact ih h2 l hl
    obtain ⟨y, h1, h2⟩ := key r hall l hl
    exact ⟨y, h1, .inr h2⟩
theorem kindSplit_sound {f : FuncId} {body : Body} (k : Kind) (hb : BodySound P f body) : BodySound P f (kindSplit k body) := by
  intro args h v h' ρ w us hr hv H
  unfold kindSplit at hr
  rw [cnd_eq] at hr
  split at hr
  · unfold splitCall at hr
    obtain ⟨l, hl, hlv⟩ := alts_ok hv
    cases ha : alts args with
    | nil => rw [ha] at hl; cases hl
    | cons a r =>
      rw [ha] at hr hl
      cases r with
      | nil =>
        replace hr : kindCall k body a h = some (v, h') := hr
        rcases List.mem_cons.mp hl with rfl | hl
        · exact kindCall_sound k hb _ _ _ _ _ _ _ hr hlv H
        · cases hl
      | cons b t =>
        replace hr : (bnd (allSame (fun l => viewE body l h) a (b :: t)) fun x => some (x, h)) = some (v, h') := hr
        obtain ⟨x, hx, hr⟩ := bnd_eq_some.mp hr
        cases hr
        obtain ⟨y, hy, he⟩ := allSame_mem hx l hl
        refine (viewE_sound hb hy hlv H).mono ?_
        rintro v' w' ⟨k1, T⟩
        refine ⟨ρ, ?_, T⟩
        rcases he with rfl | he
        · exact k1 ρ
        · exact eqRes_VR he (k1 ρ)
  · exact kindCall_sound k hb _ _ _ _ _ _ _ hr hv H

/-- Summaries that are sound. -/
def SumsSound (P : Program) (cfg : Cfg) : Prop := ∀ f s, cfg.sum f = some s → BodySound P f s.run

theorem callX_sound {region : Array Oper → Bool → StepsF} (hR : RegionSound P region) {cfg : Cfg} (hS : SumsSound P cfg) : ∀ n : Nat, CallSound P (callX P region cfg n)
  | 0 => fun f args h v h' ρ w us hr => by cases hr
  | n + 1 => fun f args h v h' ρ w us hr hv H => by
    replace hr : (ocase (cfg.sum f) (kindSplit (cfg.kind f) ((funF P region f).run (callX P region cfg n) (n + 1)) args h) fun s => s.run args h) = some (v, h') := hr
    cases hs : cfg.sum f with
    | some s => rw [hs] at hr; exact hS f s hs _ _ _ _ _ _ _ hr hv H
    | none =>
      rw [hs] at hr
      exact kindSplit_sound (cfg.kind f) (fun args h v h' ρ w us hr hv H => funF_sound hR (callX_sound hR hS n) (n + 1) f args h v h' ρ w us hr hv H) _ _ _ _ _ _ _ hr hv H

end
end Go.Proofs.YtlgofplbbmjdjaaGreatDoor.BH
