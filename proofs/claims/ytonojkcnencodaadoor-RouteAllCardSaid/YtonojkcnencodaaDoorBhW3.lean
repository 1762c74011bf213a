/-
  BH: walking by facts: operations on the heap.
-/
import Derived.Test.YtonojkcnencodaaDoorBhW2
namespace Go.Proofs.YtonojkcnencodaaDoor.BH
noncomputable section

/-! ### items of the heap taken out, turned -/
inductive Take : List HI → HI → List HI → Prop where
  | head {i : HI} {r : List HI} : Take (i :: r) i r
  | tail {i j : HI} {r r' : List HI} (h : Take r i r') : Take (j :: r) i (j :: r')

/-- An item alone: what it says of a heap, with its own places. -/
def HI.on (i : HI) (own : List Nat) (h : AHeap) : Prop :=
  match i with
  | .obj o x => own = [o] ∧ h.get o = some x
  | .own v e s cells n => (own = [] ∧ EmptyV v ∧ cells = [] ∧ n = 0) ∨ ∃ o, own = [o] ∧ v = .slice (some ⟨o, 0⟩) n (.op 0) ∧ h.get o = some (.row e s false cells) ∧ cells.length = n * s
  | .sep p => p.P own h
theorem satH_cons {i : HI} {r : List HI} {fp : List Nat} {h : AHeap} : SatH (i :: r) fp h ↔ ∃ own fp', fp = own ++ fp' ∧ i.on own h ∧ (∀ o ∈ own, o ∉ fp') ∧ SatH r fp' h := by
  cases i with
  | obj o x =>
    constructor
    · rintro ⟨fp', rfl, h1, h2, h3⟩
      exact ⟨[o], fp', rfl, ⟨rfl, h1⟩, by simpa using h2, h3⟩
    · rintro ⟨own, fp', rfl, ⟨rfl, h1⟩, h2, h3⟩
      exact ⟨fp', rfl, h1, by simpa using h2, h3⟩
  | own v e s cells n =>
    constructor
    · rintro (⟨h1, h2, h3, h4⟩ | ⟨o, fp', rfl, h1, h2, h3, h4, h5⟩)
      · exact ⟨[], fp, rfl, .inl ⟨rfl, h1, h2, h3⟩, by simp, h4⟩
      · exact ⟨[o], fp', rfl, .inr ⟨o, rfl, h1, h2, h3⟩, by simpa using h4, h5⟩
    · rintro ⟨own, fp', rfl, (⟨rfl, h1, h2, h3⟩ | ⟨o, rfl, h1, h2, h3⟩), h4, h5⟩
      · exact .inl ⟨h1, h2, h3, h5⟩
      · exact .inr ⟨o, fp', rfl, h1, h2, h3, by simpa using h4, h5⟩
  | sep p => exact Iff.rfl

theorem Take.sat {HF r : List HI} {i : HI} (t : Take HF i r) : ∀ {fp : List Nat} {h : AHeap}, SatH HF fp h → ∃ fp', SatH (i :: r) fp' h ∧ ∀ o, o ∈ fp' ↔ o ∈ fp := by
  induction t with
  | head => intro fp h hs; exact ⟨fp, hs, fun _ => Iff.rfl⟩
  | @tail i j r r' t ih =>
    intro fp h hs
    obtain ⟨own, fp1, rfl, h1, h2, h3⟩ := satH_cons.mp hs
    obtain ⟨fp2, k1, k2⟩ := ih h3
    obtain ⟨own', fp3, rfl, m1, m2, m3⟩ := satH_cons.mp k1
    refine ⟨own' ++ (own ++ fp3), satH_cons.mpr ⟨own', _, rfl, m1, fun o ho hh => ?_, satH_cons.mpr ⟨own, fp3, rfl, h1, fun o ho hh => ?_, m3⟩⟩, fun o => ?_⟩
    · rcases List.mem_append.mp hh with hh | hh
      · exact h2 o hh ((k2 o).mp (List.mem_append_left _ ho))
      · exact m2 o ho hh
    · exact h2 o ho ((k2 o).mp (List.mem_append_right _ hh))
    · rw [List.mem_append, List.mem_append, List.mem_append, ← k2 o, List.mem_append]
      constructor
      · rintro (hh | hh | hh)
        · exact .inr (.inl hh)
        · exact .inl hh
        · exact .inr (.inr hh)
      · rintro (hh | hh | hh)
        · exact .inr (.inl hh)
        · exact .inl hh
        · exact .inr (.inr hh)
theorem Frame.left {fp fp1 fp' : List Nat} {h h' : AHeap} (e : ∀ o, o ∈ fp1 ↔ o ∈ fp) (f : Frame fp1 h fp' h') : Frame fp h fp' h' :=
  ⟨fun o ho => f.keep o fun hh => ho ((e o).mp hh), f.next, fun o ho => (f.fps o ho).imp (e o).mp id⟩

section
variable {C : Ctx} {n d : Nat} {all r : List Oper} {ty : TypeId} {pos : String} {after : Array Edge} {E : Fs} {HF HR : List HI} {Q : Fs → List HI → Prop}

/-- Items in another order; fewer of them. -/
theorem WS.take {i : HI} (t : Take HF i HR) (h : WS C n all r E (i :: HR) Q) : WS C n all r E HF Q :=
  WS.pre fun e hh fp h1 h2 h3 => let ⟨fp1, k1, k2⟩ := t.sat h2; ⟨fp1, E, _, h1, k1, fun o ho => (k2 o).mp ho, h⟩
theorem SatH.tl {i : HI} {fp : List Nat} {h : AHeap} (hs : SatH (i :: HR) fp h) : ∃ fp', SatH HR fp' h ∧ ∀ o ∈ fp', o ∈ fp := by
  obtain ⟨own, fp1, rfl, h1, h2, h3⟩ := satH_cons.mp hs
  exact ⟨fp1, h3, fun o ho => List.mem_append_right _ ho⟩
/-- Some items, in some order. -/
inductive Sel : List HI → List HI → Prop where
  | nil {A : List HI} : Sel A []
  | cons {A R B : List HI} {i : HI} (t : Take A i R) (h : Sel R B) : Sel A (i :: B)
  | rest {A : List HI} : Sel A A
theorem Sel.weak {A B : List HI} (s : Sel A B) : Weak A B := by
  induction s with
  | nil => intro fp h _; exact ⟨[], rfl, fun _ h => by cases h⟩
  | rest => intro fp h hs; exact ⟨fp, hs, fun _ h => h⟩
  | @cons A R B i t _ ih =>
    intro fp h hs
    obtain ⟨fp1, k1, k2⟩ := t.sat hs
    obtain ⟨own, fp2, rfl, m1, m2, m3⟩ := satH_cons.mp k1
    obtain ⟨fp3, g1, g2⟩ := ih fp2 h m3
    refine ⟨own ++ fp3, satH_cons.mpr ⟨own, fp3, rfl, m1, fun o ho hh => m2 o ho (g2 o hh), g1⟩, fun o ho => (k2 o).mp ?_⟩
    rcases List.mem_append.mp ho with ho | ho
    · exact List.mem_append_left _ ho
    · exact List.mem_append_right _ (g2 o ho)
theorem WS.drop {i : HI} (t : Take HF i HR) (h : WS C n all r E HR Q) : WS C n all r E HF Q :=
  WS.pre fun e hh fp h1 h2 h3 => let ⟨fp1, k1, k2⟩ := t.sat h2; let ⟨fp2, k3, k4⟩ := k1.tl; ⟨fp2, E, _, h1, k3, fun o ho => (k2 o).mp (k4 o ho), h⟩
theorem WC.take {c : Code} {i : HI} {Q : Post} (t : Take HF i HR) (h : WC C n c E (i :: HR) Q) : WC C n c E HF Q :=
  WC.pre fun e hh fp h1 h2 h3 => let ⟨fp1, k1, k2⟩ := t.sat h2; ⟨fp1, E, _, h1, k1, fun o ho => (k2 o).mp ho, h⟩
theorem WC.drop {c : Code} {i : HI} {Q : Post} (t : Take HF i HR) (h : WC C n c E HR Q) : WC C n c E HF Q :=
  WC.pre fun e hh fp h1 h2 h3 => let ⟨fp1, k1, k2⟩ := t.sat h2; let ⟨fp2, k3, k4⟩ := k1.tl; ⟨fp2, E, _, h1, k3, fun o ho => (k2 o).mp (k4 o ho), h⟩

theorem WF.push {h : AHeap} (hw : WF h) (x : AObj) : WF (h.push x) := by
  intro o y hy
  rw [AHeap.get_push] at hy
  simp only [AHeap.next_push]
  split at hy
  · omega
  · have := hw o y hy; omega
theorem WF.del {h : AHeap} (hw : WF h) (p : Nat) : WF (h.del p) := by
  intro o y hy
  rw [AHeap.get_del] at hy
  split at hy
  · cases hy
  · exact hw o y hy
theorem WF.set {h : AHeap} (hw : WF h) {p : Nat} {x : AObj} (hp : p < h.next) : WF (h.set p x) := by
  intro o y hy
  rw [AHeap.get_set] at hy
  split at hy
  · rename_i e; subst e; exact hp
  · exact hw o y hy

/-- A new object joins what is known. -/
theorem sat_push {fp : List Nat} {h : AHeap} (hs : SatH HF fp h) (hw : WF h) (x : AObj) : SatH (.obj h.next x :: HF) (h.next :: fp) (h.push x) ∧ Frame fp h (h.next :: fp) (h.push x) := by
  have hlt := hs.lt hw
  refine ⟨⟨fp, rfl, by rw [AHeap.get_push, if_pos rfl], fun hh => by have := hlt _ hh; omega, hs.frame fun o ho => ?_⟩, ⟨fun o ho hl => ?_, by simp, fun o ho => ?_⟩⟩
  · rw [AHeap.get_push, if_neg]; have := hlt o ho; omega
  · rw [AHeap.get_push, if_neg (by omega)]
  · rcases List.mem_cons.mp ho with rfl | ho
    · exact .inr (Nat.le_refl _)
    · exact .inl ho

theorem w_new {op : Op} {x : AObj} (hd : Nat.blt d n = true) (hop : ∀ e h call, Sat n E e → (operTF C.P op).run call e h = some (.ptr (some ⟨h.next, 0⟩), h.push x))
    (hk : ∀ o, WS C n all r ((d, .ptr (some ⟨o, 0⟩)) :: E) (.obj o x :: HF) Q) : WS C n all (⟨some d, op, ty, pos, after, none⟩ :: r) E HF Q :=
  ws_stepX rfl fun e h fp h1 h2 h3 => by
    obtain ⟨k1, k2⟩ := sat_push h2 h3 x
    exact ⟨_, _, _, _, _, ⟨0, fun m _ => hop e h _ h1⟩, h1.put d _ hd, k1, h3.push x, k2, hk h.next⟩
theorem w_alloc {t : TypeId} {z : List AV} {k : Nat} (hz : zeroCells C.P t = some z) (hs : szOf C.P t = some k) (hd : Nat.blt d n = true)
    (hk : ∀ o, WS C n all r ((d, .ptr (some ⟨o, 0⟩)) :: E) (.obj o (.row t k false z) :: HF) Q) : WS C n all (⟨some d, .alloc t, ty, pos, after, none⟩ :: r) E HF Q :=
  w_new hd (fun e h _ _ => by
    show (allocF C.P t).run h = _
    unfold allocF; simp only [hz, hs]; rfl) hk
theorem w_box {t : TypeId} {x : Operand} {v : AV} {cs : List AV} {k : Nat} (hs : szOf C.P t = some k) (hd : Nat.blt d n = true) (hx : ev E x = some v) (hc : v.cells = cs) (hl : cs.length = k) (ha : cs.all AV.scalar = true)
    (hk : ∀ o, WS C n all r ((d, .ptr (some ⟨o, 0⟩)) :: E) (.obj o (.row t k false cs) :: HF) Q) : WS C n all (⟨some d, .box t x, ty, pos, after, none⟩ :: r) E HF Q :=
  w_new hd (fun e h _ h1 => by
    show (bnd (opv e x) fun a => boxV C.P t h a) = _
    rw [ev_opv h1 hx]
    show (bnd (szOf C.P t) fun n => cnd (Nat.beq (lenA v.cells) n && allA AV.scalar v.cells) (some (newRowV h t n v.cells)) none) = _
    rw [hs, hc]
    simp only [bnd_some, lenA_eq, hl, allA_eq, ha]
    rw [show Nat.beq k k = true from (beqN k k).mpr rfl]; rfl) hk

/-! reading and writing objects -/
theorem Take.get {i : HI} (t : Take HF i HR) {fp : List Nat} {h : AHeap} (hs : SatH HF fp h) : ∃ own, i.on own h ∧ ∀ o ∈ own, o ∈ fp := by
  obtain ⟨fp1, k1, k2⟩ := t.sat hs
  obtain ⟨own, fp2, rfl, h1, _, _⟩ := satH_cons.mp k1
  exact ⟨own, h1, fun o ho => (k2 o).mp (List.mem_append_left _ ho)⟩
theorem Take.obj {o : Nat} {x : AObj} (t : Take HF (.obj o x) HR) {fp : List Nat} {h : AHeap} (hs : SatH HF fp h) : h.get o = some x ∧ o ∈ fp := by
  obtain ⟨own, ⟨rfl, h1⟩, h2⟩ := t.get hs
  exact ⟨h1, h2 o (by simp)⟩
theorem rowAt_of {h : AHeap} {o : Nat} {e s : Nat} {f : Bool} {cs : List AV} (hg : h.get o = some (.row e s f cs)) : rowAt h o = some ⟨e, s, f, cs⟩ := by unfold rowAt; rw [hg]

theorem w_ldP {t : TypeId} {x : Operand} {k o off e s : Nat} {f : Bool} {cs l : List AV} (ha : aggOf C.P t = some true) (hz : szOf C.P t = some k) (hd : Nat.blt d n = true) (hx : ev E x = some (.ptr (some ⟨o, off⟩)))
    (ht : Take HF (.obj o (.row e s f cs)) HR) (hl : slots cs off k = some l) (hk : WS C n all r ((d, .agg l) :: E) HF Q) : WS C n all (⟨some d, .load t x, ty, pos, after, none⟩ :: r) E HF Q :=
  ws_step rfl (fun e h fp h1 h2 h3 => by
    refine ⟨.agg l, h, fp, ⟨0, fun m _ => ?_⟩, h1.put d _ hd, h2, h3, .refl _ _⟩
    show (bnd (opv e x) fun a => bnd ((loadF C.P t).run h a) fun v => some (v, h)) = _
    rw [ev_opv h1 hx]
    unfold loadF; simp only [ha, hz, bnd_some]
    show (bnd (bnd (bnd (rowAt h o) fun r => slots r.cells off k) fun l => some (AV.agg l)) fun v => some (v, h)) = _
    rw [rowAt_of (ht.obj h2).1, bnd_some, hl]; rfl) hk
theorem w_ldP1 {t : TypeId} {x : Operand} {o off e s : Nat} {f : Bool} {cs : List AV} {v : AV} (ha : aggOf C.P t = some false) (hd : Nat.blt d n = true) (hx : ev E x = some (.ptr (some ⟨o, off⟩)))
    (ht : Take HF (.obj o (.row e s f cs)) HR) (hl : cs[off]? = some v) (hk : WS C n all r ((d, v) :: E) HF Q) : WS C n all (⟨some d, .load t x, ty, pos, after, none⟩ :: r) E HF Q :=
  ws_step rfl (fun e h fp h1 h2 h3 => by
    refine ⟨v, h, fp, ⟨0, fun m _ => ?_⟩, h1.put d _ hd, h2, h3, .refl _ _⟩
    show (bnd (opv e x) fun a => bnd ((loadF C.P t).run h a) fun v => some (v, h)) = _
    rw [ev_opv h1 hx]
    unfold loadF; simp only [ha, bnd_some]
    show (bnd (bnd (rowAt h o) fun r => cellAt r.cells off) fun v => some (v, h)) = _
    rw [rowAt_of (ht.obj h2).1, bnd_some, cellAt_eq, hl]; rfl) hk

/-- An object turned, where it stands. -/
theorem sat_set {o : Nat} {x x' : AObj} {fp : List Nat} {h : AHeap} (hs : SatH (.obj o x :: HR) fp h) (hw : WF h) : SatH (.obj o x' :: HR) fp (h.set o x') ∧ WF (h.set o x') ∧ Frame fp h fp (h.set o x') := by
  have hlt := hs.lt hw
  obtain ⟨fp', rfl, h1, h2, h3⟩ := hs
  refine ⟨⟨fp', rfl, by rw [AHeap.get_set, if_pos rfl], h2, h3.frame fun p hp => ?_⟩, hw.set (hlt o List.mem_cons_self), ⟨fun p hp _ => ?_, Nat.le_refl _, fun p hp => .inl hp⟩⟩
  · rw [AHeap.get_set, if_neg]; rintro rfl; exact h2 hp
  · rw [AHeap.get_set, if_neg]; rintro rfl; exact hp List.mem_cons_self
theorem w_st {t : TypeId} {x y : Operand} {k o off e s : Nat} {cs cs' : List AV} {v : AV} {d : Option Tmp} (hz : szOf C.P t = some k) (hx : ev E x = some (.ptr (some ⟨o, off⟩))) (hy : ev E y = some v) (hd : d = none)
    (ht : Take HF (.obj o (.row e s false cs)) HR) (hl : v.cells.length = k) (hs : v.cells.all AV.scalar = true) (ho : over cs off v.cells = some cs') (hk : WS C n all r E (.obj o (.row e s false cs') :: HR) Q) :
    WS C n all (⟨d, .store t x y, ty, pos, after, none⟩ :: r) E HF Q := by
  subst hd
  refine ws_step rfl (fun e' h fp h1 h2 h3 => ?_) hk
  obtain ⟨fp1, k1, k2⟩ := ht.sat h2
  obtain ⟨m1, m2, m3⟩ := sat_set (x' := .row e s false cs') k1 h3
  refine ⟨.undef, _, fp1, ⟨0, fun m _ => ?_⟩, h1, m1, m2, m3.left k2⟩
  show (bnd (opv e' x) fun a => bnd (opv e' y) fun b => bnd (storeN (szOf C.P t) h a b) fun h' => some (AV.undef, h')) = _
  rw [ev_opv h1 hx, ev_opv h1 hy]
  show (bnd (storeN (szOf C.P t) h (.ptr (some ⟨o, off⟩)) v) fun h' => some (AV.undef, h')) = _
  unfold storeN; rw [hz]
  show (bnd (cnd (Nat.beq (lenA v.cells) k) (writeRow h ⟨o, off⟩ v.cells) none) fun h' => some (AV.undef, h')) = _
  rw [lenA_eq, hl, show Nat.beq k k = true from (beqN k k).mpr rfl]
  unfold writeRow
  rw [rowAt_of (ht.obj h2).1]
  simp only [cnd_true, bnd_some, cnd_false, allA_eq, hs, ho]

/-! slices built -/
theorem w_newS {op : Op} {m : Nat} {c : ACap} {x : AObj} (hd : Nat.blt d n = true) (hop : ∀ e h call, Sat n E e → (operTF C.P op).run call e h = some (.slice (some ⟨h.next, 0⟩) m c, h.push x))
    (hk : ∀ o, WS C n all r ((d, .slice (some ⟨o, 0⟩) m c) :: E) (.obj o x :: HF) Q) : WS C n all (⟨some d, op, ty, pos, after, none⟩ :: r) E HF Q :=
  ws_stepX rfl fun e h fp h1 h2 h3 => by
    obtain ⟨k1, k2⟩ := sat_push h2 h3 x
    exact ⟨_, _, _, _, _, ⟨0, fun m _ => hop e h _ h1⟩, h1.put d _ hd, k1, h3.push x, k2, hk h.next⟩
theorem w_buildS {t e s m : Nat} {ps : Array (Nat × Operand)} {l : List (Nat × AV)} {z cs : List AV} (hu : undOf C.P t = some (.slice e)) (hz : szOf C.P e = some s) (hzc : zeroCells C.P e = some z) (hle : m * s ≤ 65536) (hd : Nat.blt d n = true)
    (hl : evp E ps.toList = some l) (hf : fillV (fun i => some (i * s, s)) (repl m z) l = some cs) (hk : ∀ o, WS C n all r ((d, .slice (some ⟨o, 0⟩) m (.exact m)) :: E) (.obj o (.row e s false cs) :: HF) Q) :
    WS C n all (⟨some d, .buildSlice t m ps, ty, pos, after, none⟩ :: r) E HF Q :=
  w_newS hd (fun e' h _ h1 => by
    show (bnd (parts e' ps.toList) fun l => (buildSliceF C.P t m).run h l) = _
    rw [evp_parts h1 hl]
    unfold buildSliceF; simp only [hu, hz, hzc, (bleN _ _).mpr hle, cnd_true, bnd_some, hf]) hk
/-! what is appended to -/
/-- What an operand holds as elements: how many, their cells. -/
def NewR (size : Nat) (HF : List HI) (a : AV) (k : Nat) (new : List AV) : Prop := ∀ h fp, SatH HF fp h → WF h → newOf size h a = some (k, new) ∧ new.length = k * size ∧ new.all AV.scalar = true
theorem new_lst {size k : Nat} {cs : List AV} {f p : Bool} (hl : cs.length = k * size) (hs : cs.all AV.scalar = true) : NewR size HF (.lst cs k f p) k cs := by
  intro h fp _ _
  refine ⟨?_, hl, hs⟩
  show (bnd (takeN (k * size) cs) fun c => some (k, c)) = _
  have := slots_of (cs := cs) (o := 0) (k := k * size) (by omega)
  rw [show takeN (k * size) cs = some ((cs.drop 0).take (k * size)) from this, ← hl]; simp
theorem new_obj {size o k e s : Nat} {f : Bool} {c : ACap} {cs : List AV} (t : Take HF (.obj o (.row e s f cs)) HR) (hl : cs.length = k * size) (hs : cs.all AV.scalar = true) : NewR size HF (.slice (some ⟨o, 0⟩) k c) k cs := by
  intro h fp h2 _
  refine ⟨?_, hl, hs⟩
  show (bnd (cnd (Nat.beq k 0) (some []) (bnd (rowAt h o) fun r => slots r.cells 0 (k * size))) fun c => some (k, c)) = _
  rw [cnd_eq]
  split
  · rename_i h0
    rw [beqN] at h0; subst h0
    have : cs = [] := List.length_eq_zero_iff.mp (by omega)
    rw [this]; rfl
  · rw [rowAt_of (t.obj h2).1, bnd_some]
    show (bnd (slots cs 0 (k * size)) fun c => some (k, c)) = _
    rw [slots_of (by omega), ← hl]; simp
theorem new_own {size k e s : Nat} {v : AV} {cs : List AV} (t : Take HF (.own v e s cs k) HR) (hl : cs.length = k * size) (hs : cs.all AV.scalar = true) : NewR size HF v k cs := by
  intro h fp h2 _
  refine ⟨?_, hl, hs⟩
  obtain ⟨own, h1, _⟩ := t.get h2
  rcases h1 with ⟨_, ⟨a, rfl⟩ | rfl, rfl, rfl⟩ | ⟨o, _, rfl, h3, _⟩
  · rfl
  · show (bnd (takeN (0 * size) []) fun cs => some (0, cs)) = _
    rw [Nat.zero_mul]; rfl
  · show (bnd (cnd (Nat.beq k 0) (some []) (bnd (rowAt h o) fun r => slots r.cells 0 (k * size))) fun c => some (k, c)) = _
    rw [cnd_eq]
    split
    · rename_i h0
      rw [beqN] at h0; subst h0
      have : cs = [] := List.length_eq_zero_iff.mp (by omega)
      rw [this]; rfl
    · rw [rowAt_of h3, bnd_some]
      show (bnd (slots cs 0 (k * size)) fun c => some (k, c)) = _
      rw [slots_of (by omega), ← hl]; simp

theorem app_run {P : Program} {t e k b : Nat} {z : List AV} {ts : List TypeId} {h : AHeap} {s x : AV} {m : Nat} {new : List AV} (hu : undOf P t = some (.slice e)) (hz : szOf P e = some (k + 1)) (hb : bytesOf P e = some b) (hzc : zeroCells P e = some z)
    (hn : (newF P e (k + 1) b ts.head?).run h x = some (m, new)) (hs : isSliceV s = true) : (appendF P (t :: ts)).run h s x = appendTo e (k + 1) b h s m new := by
  unfold appendF; simp only [hu, hz, hb, hzc]
  show (bnd ((newF P e (k + 1) b ts.head?).run h x) fun r => cnd (isSliceV s) (appendTo e (k + 1) b h s r.1 r.2) none) = _
  rw [hn, bnd_some, hs]; rfl
theorem newF_slice {P : Program} {e size b t' : Nat} {ts : List TypeId} {D : TypeDesc} {h : AHeap} {x : AV} (hu : undOf P t' = some D) (hD : ∀ k, D ≠ .int k) : (newF P e size b (t' :: ts).head?).run h x = newOf size h x := by
  unfold newF
  simp only [List.head?_cons, hu]

theorem app_own {fp : List Nat} {h : AHeap} {v : AV} {e k b m j : Nat} {cells new : List AV} (hs : SatH (.own v e (k + 1) cells m :: HR) fp h) (hw : WF h) (hl : new.length = j * (k + 1)) (hsc : new.all AV.scalar = true)
    (h1 : (m + j) * b ≤ bigBy) (h2 : m + j ≤ bigBy) :
    isSliceV v = true ∧ ∃ v' h' fp', appendTo e (k + 1) b h v j new = some (v', h') ∧ SatH (.own v' e (k + 1) (cells ++ new) (m + j) :: HR) fp' h' ∧ WF h' ∧ Frame fp h fp' h' := by
  have hlt := hs.lt hw
  have hs0 := hs
  by_cases hj : j = 0
  · subst hj
    have hnew : new = [] := List.length_eq_zero_iff.mp (by omega)
    subst hnew
    refine ⟨?_, v, h, fp, rfl, by simpa using hs, hw, .refl _ _⟩
    rcases hs with ⟨⟨a, rfl⟩ | rfl, _⟩ | ⟨o, fp', _, rfl, _⟩ <;> rfl
  have hbj : Nat.beq j 0 = false := by rw [← Bool.not_eq_true, beqN]; exact hj
  rcases hs with ⟨he, rfl, rfl, h4⟩ | ⟨o, fp', rfl, rfl, g1, g2, g3, g4⟩
  · refine ⟨by rcases he with ⟨a, rfl⟩ | rfl <;> rfl, .slice (some ⟨h.next, 0⟩) j (.op 0), h.push (.row e (k + 1) false new), h.next :: fp, ?_, ?_, hw.push _, ?_⟩
    · have e0 : appendTo e (k + 1) b h v j new = growNew e (k + 1) b h j new := by
        rcases he with ⟨a, rfl⟩ | rfl
        · cases a with
          | none =>
            show cnd (Nat.beq j 0) _ (growNew e (k + 1) b h j new) = _
            rw [hbj, cnd_false]
          | some a =>
            show cnd (Nat.beq j 0) _ (cnd (Nat.ble (0 + j) 0) _ (bnd (some []) fun old => growNew e (k + 1) b h (0 + j) (app old new))) = _
            rw [hbj, cnd_false, show Nat.ble (0 + j) 0 = false by rw [← Bool.not_eq_true, bleN]; omega, cnd_false, bnd_some, Nat.zero_add]; rfl
        · show cnd (Nat.beq j 0) _ (bnd (takeN (0 * (k + 1)) []) fun old => growNew e (k + 1) b h (0 + j) (app old new)) = _
          rw [hbj, cnd_false, Nat.zero_mul, Nat.zero_add]; rfl
      rw [e0]
      show cnd (Nat.ble (j * b) bigBy && Nat.ble j bigBy) (some (AV.slice (some ⟨h.next, 0⟩) j (.op 0), h.push (.row e (k + 1) false new))) none = _
      rw [(bleN _ _).mpr (by simpa using h1), (bleN _ _).mpr (by simpa using h2)]; rfl
    · obtain ⟨q1, _⟩ := sat_push h4 hw (.row e (k + 1) false new)
      obtain ⟨fp', e1, q2, q3, q4⟩ := q1
      exact .inr ⟨h.next, fp', e1, by simp, by simpa using q2, by simpa using hl, q3, q4⟩
    · exact (sat_push h4 hw _).2
  · have hlto := hlt o List.mem_cons_self
    refine ⟨rfl, .slice (some ⟨h.next, 0⟩) (m + j) (.op 0), (h.del o).push (.row e (k + 1) false (cells ++ new)), h.next :: fp', ?_, ?_, (hw.del o).push _, ?_⟩
    · show cnd (Nat.beq j 0) _ (appendOpen e (k + 1) b h ⟨o, 0⟩ m 0 j new) = _
      rw [hbj, cnd_false]
      unfold appendOpen
      rw [rowAt_of g1]
      simp only [bnd_some, allA_eq, hsc, lenA_eq]
      have e1 : Nat.beq e e = true := (beqN e e).mpr rfl
      have e2 : Nat.beq (k + 1) (k + 1) = true := (beqN _ _).mpr rfl
      have e3 : Nat.beq 0 (0 * (k + 1)) = true := (beqN _ _).mpr (by simp)
      have e4 : Nat.ble (0 + (m + j) * (k + 1)) cells.length = false := by
        rw [← Bool.not_eq_true, bleN, g2, Nat.add_mul]
        have : 0 < j * (k + 1) := Nat.mul_pos (by omega) (by omega)
        omega
      rw [e1, e2, e3, e4]
      simp only [Bool.not_false, Bool.and_self, cnd_true, cnd_false]
      have e5 : slots cells 0 (m * (k + 1)) = some cells := by rw [← g2]; exact slots_all cells
      rw [e5, bnd_some]
      show cnd (Nat.ble ((m + j) * b) bigBy && Nat.ble (m + j) bigBy) (some (AV.slice (some ⟨(h.del o).next, 0⟩) (m + j) (.op 0), (h.del o).push (.row e (k + 1) false (app cells new)))) none = _
      rw [(bleN _ _).mpr h1, (bleN _ _).mpr h2, app_eq]; rfl
    · have hs' : SatH HR fp' (h.del o) := g4.frame fun p hp => by rw [AHeap.get_del, if_neg]; rintro rfl; exact g3 hp
      obtain ⟨q1, _⟩ := sat_push hs' (hw.del o) (.row e (k + 1) false (cells ++ new))
      obtain ⟨fp2, e1, q2, q3, q4⟩ := q1
      exact .inr ⟨h.next, fp2, e1, rfl, q2, by rw [List.length_append, g2, hl, Nat.add_mul], q3, q4⟩
    · refine ⟨fun p hp hl => ?_, by simp, fun p hp => ?_⟩
      · rw [AHeap.get_push, if_neg (by simp; omega), AHeap.get_del, if_neg]
        rintro rfl; exact hp List.mem_cons_self
      · rcases List.mem_cons.mp hp with rfl | hp
        · exact .inr (Nat.le_refl _)
        · exact .inl (List.mem_cons_of_mem _ hp)

/-- Append to a slice that is nobody else's. -/
theorem w_app {t e k b m j t' : Nat} {ts : List TypeId} {x y : Operand} {v a : AV} {z cells new : List AV} {D : TypeDesc} {tys : Array TypeId} (htys : tys.toList = t :: t' :: ts) (hu : undOf C.P t = some (.slice e)) (hz : szOf C.P e = some (k + 1)) (hb : bytesOf C.P e = some b) (hzc : zeroCells C.P e = some z)
    (hu' : undOf C.P t' = some D) (hD : ∀ k, D ≠ .int k) (hd : Nat.blt d n = true) (hx : ev E x = some v) (hy : ev E y = some a) (ht : Take HF (.own v e (k + 1) cells m) HR) (hn : NewR (k + 1) HF a j new) (h1 : (m + j) * b ≤ bigBy) (h2 : m + j ≤ bigBy)
    (hk : ∀ v', WS C n all r ((d, v') :: E) (.own v' e (k + 1) (cells ++ new) (m + j) :: HR) Q) : WS C n all (⟨some d, .call ⟨.builtin .append, #[x, y], tys⟩, ty, pos, after, none⟩ :: r) E HF Q :=
  ws_stepX rfl fun e' h fp hs hh hw => by
    obtain ⟨n1, n2, n3⟩ := hn h fp hh hw
    obtain ⟨fp1, k1, k2⟩ := ht.sat hh
    obtain ⟨s1, v', h', fp', q1, q2, q3, q4⟩ := app_own (b := b) k1 hw n2 n3 h1 h2
    refine ⟨v', h', fp', _, _, ⟨0, fun q _ => ?_⟩, hs.put d _ hd, q2, q3, q4.left k2, hk v'⟩
    show (bnd (opvs e' [x, y]) fun l => (built2 (appendF C.P tys.toList)).run h l) = _
    rw [show opvs e' [x, y] = some [v, a] from evs_opvs hs (by show (bnd (ev E x) fun a => bnd (bnd (ev E y) fun b => bnd (some []) fun l => some (b :: l)) fun l => some (a :: l)) = _; rw [hx, hy]; rfl)]
    show (appendF C.P tys.toList).run h v a = _
    rw [htys, app_run hu hz hb hzc (by rw [newF_slice hu' hD]; exact n1) s1]
    exact q1

/-- A slice that is nobody else's, known again as its row. -/
theorem WS.openOwn {v : AV} {e s m : Nat} {cells : List AV} (t : Take HF (.own v e s cells m) HR) (hm : 0 < m) (h : ∀ o, v = .slice (some ⟨o, 0⟩) m (.op 0) → WS C n all r E (.obj o (.row e s false cells) :: HR) Q) : WS C n all r E HF Q := by
  refine WS.take t (WS.pre fun e' hh fp h1 h2 h3 => ?_)
  rcases h2 with ⟨_, _, e0, _⟩ | ⟨o, fp', rfl, e1, g1, g2, g3, g4⟩
  · omega
  · exact ⟨_, E, .obj o (.row e s false cells) :: HR, h1, ⟨fp', rfl, g1, g3, g4⟩, fun _ h => h, h o e1⟩
theorem WC.openOwn {c : Code} {Q : Post} {v : AV} {e s m : Nat} {cells : List AV} (t : Take HF (.own v e s cells m) HR) (hm : 0 < m) (h : ∀ o, v = .slice (some ⟨o, 0⟩) m (.op 0) → WC C n c E (.obj o (.row e s false cells) :: HR) Q) : WC C n c E HF Q := by
  refine WC.take t (WC.pre fun e' hh fp h1 h2 h3 => ?_)
  rcases h2 with ⟨_, _, e0, _⟩ | ⟨o, fp', rfl, e1, g1, g2, g3, g4⟩
  · omega
  · exact ⟨_, E, .obj o (.row e s false cells) :: HR, h1, ⟨fp', rfl, g1, g3, g4⟩, fun _ h => h, h o e1⟩
theorem WS.closeOwn {e s m o : Nat} {cells : List AV} (t : Take HF (.obj o (.row e s false cells)) HR) (hl : cells.length = m * s) (h : WS C n all r E (.own (.slice (some ⟨o, 0⟩) m (.op 0)) e s cells m :: HR) Q) : WS C n all r E HF Q := by
  refine WS.take t (WS.pre fun e' hh fp h1 h2 h3 => ?_)
  obtain ⟨fp', rfl, g1, g3, g4⟩ := h2
  exact ⟨_, E, .own (.slice (some ⟨o, 0⟩) m (.op 0)) e s cells m :: HR, h1, .inr ⟨o, fp', rfl, rfl, g1, hl, g3, g4⟩, fun _ h => h, h⟩
theorem WC.closeOwn {c : Code} {Q : Post} {e s m o : Nat} {cells : List AV} (t : Take HF (.obj o (.row e s false cells)) HR) (hl : cells.length = m * s) (h : WC C n c E (.own (.slice (some ⟨o, 0⟩) m (.op 0)) e s cells m :: HR) Q) : WC C n c E HF Q := by
  refine WC.take t (WC.pre fun e' hh fp h1 h2 h3 => ?_)
  obtain ⟨fp', rfl, g1, g3, g4⟩ := h2
  exact ⟨_, E, .own (.slice (some ⟨o, 0⟩) m (.op 0)) e s cells m :: HR, h1, .inr ⟨o, fp', rfl, rfl, g1, hl, g3, g4⟩, fun _ h => h, h⟩
/-- The nil slice may be appended to. -/
theorem WC.ownNil {c : Code} {Q : Post} (e s : Nat) (h : WC C n c E (.own nilSlice e s [] 0 :: HF) Q) : WC C n c E HF Q :=
  WC.pre fun e' hh fp h1 h2 h3 => ⟨fp, E, .own nilSlice e s [] 0 :: HF, h1, .inl ⟨emptyNil, rfl, rfl, h2⟩, fun _ h => h, h⟩
theorem WS.ownNil (e s : Nat) (h : WS C n all r E (.own nilSlice e s [] 0 :: HF) Q) : WS C n all r E HF Q :=
  WS.pre fun e' hh fp h1 h2 h3 => ⟨fp, E, .own nilSlice e s [] 0 :: HF, h1, .inl ⟨emptyNil, rfl, rfl, h2⟩, fun _ h => h, h⟩
/-- A slice of no room may be appended to. -/
theorem WS.ownEmpty {v : AV} (hv : EmptyV v) (e s : Nat) (h : WS C n all r E (.own v e s [] 0 :: HF) Q) : WS C n all r E HF Q :=
  WS.pre fun e' hh fp h1 h2 h3 => ⟨fp, E, .own v e s [] 0 :: HF, h1, .inl ⟨hv, rfl, rfl, h2⟩, fun _ h => h, h⟩
theorem WC.ownEmpty {c : Code} {Q : Post} {v : AV} (hv : EmptyV v) (e s : Nat) (h : WC C n c E (.own v e s [] 0 :: HF) Q) : WC C n c E HF Q :=
  WC.pre fun e' hh fp h1 h2 h3 => ⟨fp, E, .own v e s [] 0 :: HF, h1, .inl ⟨hv, rfl, rfl, h2⟩, fun _ h => h, h⟩
theorem w_lenO {t e' e s m : Nat} {ts : List TypeId} {tys : Array TypeId} {x : Operand} {v : AV} {cells : List AV} (htys : tys.toList = t :: ts) (hu : undOf C.P t = some (.slice e')) (hd : Nat.blt d n = true) (hx : ev E x = some v) (ht : Take HF (.own v e s cells m) HR)
    (hk : WS C n all r ((d, .int .i64 m) :: E) HF Q) : WS C n all (⟨some d, .call ⟨.builtin .len, #[x], tys⟩, ty, pos, after, none⟩ :: r) E HF Q :=
  ws_step rfl (fun ee h fp h1 h2 h3 => by
    refine ⟨.int .i64 m, h, fp, ⟨0, fun q _ => ?_⟩, h1.put d _ hd, h2, h3, .refl _ _⟩
    show (bnd (opvs ee [x]) fun l => (builtR (lenF C.P tys.toList)).run h l) = _
    rw [show opvs ee [x] = some [v] from evs_opvs h1 (by show (bnd (ev E x) fun a => bnd (some []) fun l => some (a :: l)) = _; rw [hx]; rfl)]
    show (bnd ((lenF C.P tys.toList).run h v) fun v => some (v, h)) = _
    rw [htys]
    obtain ⟨own, q1, _⟩ := ht.get h2
    rcases q1 with ⟨_, ⟨a, rfl⟩ | rfl, _, rfl⟩ | ⟨o, _, rfl, _⟩
    · rw [len_slice hu]; rfl
    · rw [len_lst hu]; rfl
    · rw [len_slice hu]; rfl) hk

end
end
end Go.Proofs.YtonojkcnencodaaDoor.BH
