/-
  BH: walking by facts: what is known of a frame's slots and of the heap; steps, codes, loops, calls.
-/
import Derived.Test.YtonojkcnencodaaDoorBhPure4
namespace Go.Proofs.YtonojkcnencodaaDoor.BH
noncomputable section

/-- A program, and how its calls are taken. -/
structure Ctx where
  P : Program
  cfg : Cfg
  sums : SumsSound P cfg
  mixed : P.follows .mixedOrders = true

section
variable {C : Ctx}

/-! ### what is known of slots -/
abbrev Fs := List (Nat × AV)
def lk (E : Fs) (t : Nat) : Option AV := lrec none (fun p _ ih => Prod.casesOn p fun s v => cnd (Nat.beq s t) (some v) ih) E
structure Sat (n : Nat) (E : Fs) (e : Env) : Prop where
  len : e.length = n
  get : ∀ t v, lk E t = some v → nth e t = v

def ev (E : Fs) : Operand → Option AV
  | .tmp t => lk E t
  | .const v => ofValue v
  | .global _ => none
  | .func f => some (.func (.func f) [] [])
def evs (E : Fs) : List Operand → Option (List AV)
  | [] => some []
  | x :: r => bnd (ev E x) fun a => bnd (evs E r) fun l => some (a :: l)

theorem lk_cons (E : Fs) (s t : Nat) (v : AV) : lk ((s, v) :: E) t = if s = t then some v else lk E t := by
  show cnd (Nat.beq s t) (some v) (lk E t) = _
  rw [cnd_eq]; simp only [beqN]
theorem ev_opv {n : Nat} {E : Fs} {e : Env} (hs : Sat n E e) {x : Operand} {v : AV} (h : ev E x = some v) : opv e x = some v := by
  cases x with
  | tmp t => show some (nth e t) = some v; rw [hs.get t v h]
  | const c => exact h
  | global _ => cases h
  | func f => exact h
theorem evs_opvs {n : Nat} {E : Fs} {e : Env} (hs : Sat n E e) : ∀ {l : List Operand} {vs : List AV}, evs E l = some vs → opvs e l = some vs
  | [], _, h => h
  | x :: r, vs, h => by
    obtain ⟨a, ha, h⟩ := bnd_eq_some.mp h
    obtain ⟨l, hl, h⟩ := bnd_eq_some.mp h
    cases h
    show (bnd (opv e x) fun a => bnd (opvs e r) fun l => some (a :: l)) = _
    rw [ev_opv hs ha, bnd_some, evs_opvs hs hl, bnd_some]
/-- Parts of a struct. -/
def evp (E : Fs) : List (Nat × Operand) → Option (List (Nat × AV))
  | [] => some []
  | x :: r => Prod.casesOn x fun i y => bnd (ev E y) fun a => bnd (evp E r) fun l => some ((i, a) :: l)
theorem evp_parts {n : Nat} {E : Fs} {e : Env} (hs : Sat n E e) : ∀ {l : List (Nat × Operand)} {vs : List (Nat × AV)}, evp E l = some vs → parts e l = some vs
  | [], _, h => h
  | (i, x) :: r, vs, h => by
    obtain ⟨a, ha, h⟩ := bnd_eq_some.mp (show (bnd (ev E x) fun a => bnd (evp E r) fun l => some ((i, a) :: l)) = some vs from h)
    obtain ⟨l, hl, h⟩ := bnd_eq_some.mp h
    cases h
    show (bnd (opv e x) fun a => bnd (parts e r) fun l => some ((i, a) :: l)) = _
    rw [ev_opv hs ha, bnd_some, evp_parts hs hl, bnd_some]
theorem Sat.put {n : Nat} {E : Fs} {e : Env} (hs : Sat n E e) (d : Nat) (v : AV) (hd : Nat.blt d n = true) : Sat n ((d, v) :: E) (putD e (some d) v) := by
  have hd' : d < e.length := by rw [hs.len]; simpa using hd
  refine ⟨?_, fun t u ht => ?_⟩
  · show (setN e d v).length = n
    rw [setN_eq, List.length_set]; exact hs.len
  · show nth (setN e d v) t = u
    rw [setN_eq, nth_eq]
    rw [lk_cons] at ht
    by_cases e1 : d = t
    · subst e1
      rw [if_pos rfl] at ht; cases ht
      simp [List.getD_eq_getElem?_getD, List.getElem?_set_self hd']
    · rw [if_neg e1] at ht
      have := hs.get t u ht
      rw [nth_eq] at this
      simp only [List.getD_eq_getElem?_getD, List.getElem?_set_ne e1] at this ⊢
      exact this
/-- Some facts out of others. -/
def Sub (E E' : Fs) : Prop := ∀ p ∈ E', lk E p.1 = some p.2
theorem lk_mem {E : Fs} {t : Nat} {v : AV} (h : lk E t = some v) : (t, v) ∈ E := by
  induction E with
  | nil => cases h
  | cons p r ih =>
    obtain ⟨s, u⟩ := p
    rw [lk_cons] at h
    split at h
    · rename_i e; subst e; cases h; exact List.mem_cons_self
    · exact List.mem_cons_of_mem _ (ih h)
theorem Sat.sub {n : Nat} {E E' : Fs} {e : Env} (hs : Sat n E e) (h : Sub E E') : Sat n E' e := ⟨hs.len, fun t v ht => hs.get t v (h (t, v) (lk_mem ht))⟩
theorem Sub.nil (E : Fs) : Sub E [] := fun _ h => by cases h
theorem Sub.cons {E E' : Fs} {t : Nat} {v : AV} (h : lk E t = some v) (hr : Sub E E') : Sub E ((t, v) :: E') := by
  intro p hp
  rcases List.mem_cons.mp hp with rfl | hp
  · exact h
  · exact hr p hp

/-! ### what is known of the heap -/
def nilSlice : AV := .slice none 0 (.exact 0)
/-- Nothing, to be appended to. -/
def EmptyV (v : AV) : Prop := (∃ a, v = .slice a 0 (.exact 0)) ∨ v = .lst [] 0 true true
theorem emptyNil : EmptyV nilSlice := .inl ⟨none, rfl⟩
def WF (h : AHeap) : Prop := ∀ o x, h.get o = some x → o < h.next
/-- Whatever may be said of a heap, over places of its own. -/
structure Sep where
  P : List Nat → AHeap → Prop
  frame : ∀ fp h h', P fp h → (∀ o ∈ fp, h'.get o = h.get o) → P fp h'
  lt : ∀ fp h, P fp h → WF h → ∀ o ∈ fp, o < h.next
inductive HI where
  | obj (o : Nat) (x : AObj)
  /-- a slice of a row that is nobody else's, or nil: it is appended to -/
  | own (v : AV) (e s : Nat) (cells : List AV) (n : Nat)
  | sep (p : Sep)

def SatH : List HI → List Nat → AHeap → Prop
  | [], fp, _ => fp = []
  | .obj o x :: r, fp, h => ∃ fp', fp = o :: fp' ∧ h.get o = some x ∧ o ∉ fp' ∧ SatH r fp' h
  | .own v e s cells n :: r, fp, h => (EmptyV v ∧ cells = [] ∧ n = 0 ∧ SatH r fp h) ∨
      ∃ o fp', fp = o :: fp' ∧ v = .slice (some ⟨o, 0⟩) n (.op 0) ∧ h.get o = some (.row e s false cells) ∧ cells.length = n * s ∧ o ∉ fp' ∧ SatH r fp' h
  | .sep p :: r, fp, h => ∃ own fp', fp = own ++ fp' ∧ p.P own h ∧ (∀ o ∈ own, o ∉ fp') ∧ SatH r fp' h

theorem SatH.frame : ∀ {HF : List HI} {fp : List Nat} {h h' : AHeap}, SatH HF fp h → (∀ o ∈ fp, h'.get o = h.get o) → SatH HF fp h'
  | [], _, _, _, hs, _ => hs
  | .obj o x :: r, fp, h, h', hs, hk => by
    obtain ⟨fp', rfl, h1, h2, h3⟩ := hs
    exact ⟨fp', rfl, by rw [hk o List.mem_cons_self]; exact h1, h2, h3.frame fun p hp => hk p (List.mem_cons_of_mem _ hp)⟩
  | .own v e s cells n :: r, fp, h, h', hs, hk => by
    rcases hs with ⟨h1, h2, h3, h4⟩ | ⟨o, fp', rfl, h1, h2, h3, h4, h5⟩
    · exact .inl ⟨h1, h2, h3, h4.frame hk⟩
    · exact .inr ⟨o, fp', rfl, h1, by rw [hk o List.mem_cons_self]; exact h2, h3, h4, h5.frame fun p hp => hk p (List.mem_cons_of_mem _ hp)⟩
  | .sep p :: r, fp, h, h', hs, hk => by
    obtain ⟨own, fp', rfl, h1, h2, h3⟩ := hs
    exact ⟨own, fp', rfl, p.frame _ _ _ h1 fun o ho => hk o (List.mem_append_left _ ho), h2, h3.frame fun o ho => hk o (List.mem_append_right _ ho)⟩
theorem SatH.lt : ∀ {HF : List HI} {fp : List Nat} {h : AHeap}, SatH HF fp h → WF h → ∀ o ∈ fp, o < h.next
  | [], _, _, hs, _ => by
    replace hs : _ = [] := hs
    subst hs; intro o ho; cases ho
  | .obj o x :: r, fp, h, hs, hw => by
    obtain ⟨fp', rfl, h1, h2, h3⟩ := hs
    intro p hp
    rcases List.mem_cons.mp hp with rfl | hp
    · exact hw _ _ h1
    · exact h3.lt hw p hp
  | .own v e s cells n :: r, fp, h, hs, hw => by
    rcases hs with ⟨h1, h2, h3, h4⟩ | ⟨o, fp', rfl, h1, h2, h3, h4, h5⟩
    · exact h4.lt hw
    · intro p hp
      rcases List.mem_cons.mp hp with rfl | hp
      · exact hw _ _ h2
      · exact h5.lt hw p hp
  | .sep q :: r, fp, h, hs, hw => by
    obtain ⟨own, fp', rfl, h1, h2, h3⟩ := hs
    intro p hp
    rcases List.mem_append.mp hp with hp | hp
    · exact q.lt _ _ h1 hw p hp
    · exact h3.lt hw p hp

/-- What a walk does to a heap: only what lies in its footprint turns; what is in the new footprint was in the old one, or is new. -/
structure Frame (fp : List Nat) (h : AHeap) (fp' : List Nat) (h' : AHeap) : Prop where
  keep : ∀ o, o ∉ fp → o < h.next → h'.get o = h.get o
  next : h.next ≤ h'.next
  fps : ∀ o ∈ fp', o ∈ fp ∨ h.next ≤ o
theorem Frame.refl (fp : List Nat) (h : AHeap) : Frame fp h fp h := ⟨fun _ _ _ => rfl, Nat.le_refl _, fun _ h => .inl h⟩
theorem Frame.trans {fp fp' fp'' : List Nat} {h h' h'' : AHeap} (a : Frame fp h fp' h') (b : Frame fp' h' fp'' h'') : Frame fp h fp'' h'' where
  keep := by
    intro o ho hlt
    rw [b.keep o (fun hh => (a.fps o hh).elim ho fun hh => by omega) (Nat.lt_of_lt_of_le hlt a.next)]
    exact a.keep o ho hlt
  next := Nat.le_trans a.next b.next
  fps := by
    intro o ho
    rcases b.fps o ho with hh | hh
    · exact a.fps o hh
    · exact .inr (Nat.le_trans a.next hh)

theorem Frame.more {fp fp1 fp' : List Nat} {h h' : AHeap} (e : ∀ o ∈ fp1, o ∈ fp) (f : Frame fp1 h fp' h') : Frame fp h fp' h' :=
  ⟨fun o ho => f.keep o fun hh => ho (e o hh), f.next, fun o ho => (f.fps o ho).imp (e o) id⟩
/-- Less is known. -/
def Weak (A B : List HI) : Prop := ∀ fp h, SatH A fp h → ∃ fp', SatH B fp' h ∧ ∀ o ∈ fp', o ∈ fp
theorem Weak.refl (A : List HI) : Weak A A := fun fp _ h => ⟨fp, h, fun _ h => h⟩

/-! ### steps of a region -/
def noSel (o : Oper) : Bool :=
  match o.op with
  | .select _ _ => false
  | _ => true
theorem noSel_oper {P : Program} {o : Oper} (h : noSel o = true) : operTF P o.op = operF P o.op := by
  unfold noSel at h
  unfold operTF
  split
  · rename_i hh; rw [hh] at h; cases h
  · rfl
/-- An operation run: in the text's order, and (but for a select) in any. -/
def StepS (P : Program) (o : Oper) (a : Act) (w : World) (R : Value → World → Prop) : Prop := OpOk P o a w R ∧ (noSel o = true → ExecOk P o a w R)
theorem OpOk.mono {P : Program} {o : Oper} {a : Act} {w : World} {R S : Value → World → Prop} (h : OpOk P o a w R) (k : ∀ v w', R v w' → S v w') : OpOk P o a w S := fun b ops i rest kk cs ho hw =>
  let ⟨v, w', hr, hs⟩ := h b ops i rest kk cs ho hw; ⟨v, w', k v w' hr, hs⟩
theorem ExecOk.mono {P : Program} {o : Oper} {a : Act} {w : World} {R S : Value → World → Prop} (h : ExecOk P o a w R) (k : ∀ v w', R v w' → S v w') : ExecOk P o a w S := by
  rcases h with ⟨r, v, w', h1, h2, h3⟩ | ⟨f, us, h1, h2⟩
  · exact .inl ⟨r, v, w', h1, h2, k v w' h3⟩
  · exact .inr ⟨f, us, h1, h2.mono k⟩
theorem StepS.mono {P : Program} {o : Oper} {a : Act} {w : World} {R S : Value → World → Prop} (h : StepS P o a w R) (k : ∀ v w', R v w' → S v w') : StepS P o a w S := ⟨h.1.mono k, fun hs => (h.2 hs).mono k⟩
theorem StepS.of {P : Program} {o : Oper} {a : Act} {w : World} {R : Value → World → Prop} (h : ExecOk P o a w R) : StepS P o a w R := ⟨h.ok, fun _ => h⟩
def guardOn (all : List Oper) (o : Oper) (e : Env) : Bool :=
  match o.guard with
  | none => true
  | some (j, want) => guardV ((all[j]?).bind Oper.dst) want e

/-- A frame's slots as an operation sees them. -/
def Sees (all : List Oper) (o : Oper) (e ea : Env) : Prop := (∀ t ∈ looks all o, nth ea t = nth e t) ∧ (noSel o = false → ea = e)
theorem Sees.refl (all : List Oper) (o : Oper) (e : Env) : Sees all o e e := ⟨fun _ _ => rfl, fun _ => rfl⟩
theorem Sees.opv {all : List Oper} {o : Oper} {e ea : Env} (h : Sees all o e ea) {x : Operand} (hx : x ∈ o.op.operands) : opv ea x = opv e x := opv_congr fun t ht => h.1 t (by
  subst ht
  unfold looks
  exact List.mem_append_left _ (List.mem_filterMap.mpr ⟨.tmp t, by simpa using hx, rfl⟩))

def WS (C : Ctx) (n : Nat) (all : List Oper) : List Oper → Fs → List HI → (Fs → List HI → Prop) → Prop
  | [], E, HF, Q => ∀ e h fp, Sat n E e → SatH HF fp h → WF h → ∃ fp' E' HF', Sat n E' e ∧ SatH HF' fp' h ∧ (∀ o ∈ fp', o ∈ fp) ∧ Q E' HF'
  | o :: r, E, HF, Q => ∀ e h fp, Sat n E e → SatH HF fp h → WF h →
      (guardOn all o e = true → (∀ ρ w a ea, EnvR ρ ea a → Sees all o e ea → HRel ρ h w → StepS C.P o a w fun u w' => ∃ v ρ' h' fp' E' HF', VR ρ' v u ∧ Trans ρ h w ρ' h' w' ∧ Sat n E' (putD e o.dst v) ∧ SatH HF' fp' h' ∧ WF h' ∧ Frame fp h fp' h' ∧ WS C n all r E' HF' Q) ∧
        (opKind C.P o.op = 0 → ∃ call v, CallSound C.P call ∧ (∀ g, (operF C.P o.op).run call e g = some (v, g)) ∧ ∃ fp' E' HF', Sat n E' (putD e o.dst v) ∧ SatH HF' fp' h ∧ (∀ o ∈ fp', o ∈ fp) ∧ WS C n all r E' HF' Q)) ∧
      (guardOn all o e = false → ∃ fp' E' HF', Sat n E' (putD e o.dst .undef) ∧ SatH HF' fp' h ∧ (∀ o ∈ fp', o ∈ fp) ∧ WS C n all r E' HF' Q)

theorem ws_nil {n : Nat} {all : List Oper} {E : Fs} {HF : List HI} {Q : Fs → List HI → Prop} (h : Q E HF) : WS C n all [] E HF Q :=
  fun _ _ fp h1 h2 _ => ⟨fp, E, HF, h1, h2, fun _ h => h, h⟩
/-- What is known told in other words, ahead of whatever comes. -/
theorem WS.pre {n : Nat} {all l : List Oper} {E : Fs} {HF : List HI} {Q : Fs → List HI → Prop}
    (h : ∀ e h fp, Sat n E e → SatH HF fp h → WF h → ∃ fp' E' HF', Sat n E' e ∧ SatH HF' fp' h ∧ (∀ o ∈ fp', o ∈ fp) ∧ WS C n all l E' HF' Q) : WS C n all l E HF Q := by
  cases l with
  | nil =>
    intro e hh fp h1 h2 h3
    obtain ⟨fp', E', HF', k1, k2, k3, k4⟩ := h e hh fp h1 h2 h3
    obtain ⟨fp2, E2, HF2, m1, m2, m3, m4⟩ := k4 e hh fp' k1 k2 h3
    exact ⟨fp2, E2, HF2, m1, m2, fun o ho => k3 o (m3 o ho), m4⟩
  | cons o r =>
    intro e hh fp h1 h2 h3
    obtain ⟨fp', E', HF', k1, k2, k3, k4⟩ := h e hh fp h1 h2 h3
    obtain ⟨m1, m2⟩ := k4 e hh fp' k1 k2 h3
    refine ⟨fun hg => ⟨fun ρ w a ea he hs H => ?_, fun hk => ?_⟩, fun hg => ?_⟩
    · have mono : ∀ u w', (∃ v ρ' h' fp'' E'' HF'', VR ρ' v u ∧ Trans ρ hh w ρ' h' w' ∧ Sat n E'' (putD e o.dst v) ∧ SatH HF'' fp'' h' ∧ WF h' ∧ Frame fp' hh fp'' h' ∧ WS C n all r E'' HF'' Q) →
          ∃ v ρ' h' fp'' E'' HF'', VR ρ' v u ∧ Trans ρ hh w ρ' h' w' ∧ Sat n E'' (putD e o.dst v) ∧ SatH HF'' fp'' h' ∧ WF h' ∧ Frame fp hh fp'' h' ∧ WS C n all r E'' HF'' Q := by
        rintro u w' ⟨v, ρ', h', fp2, E2, HF2, g1, g2, g3, g4, g5, g6, g7⟩
        exact ⟨v, ρ', h', fp2, E2, HF2, g1, g2, g3, g4, g5, g6.more k3, g7⟩
      exact StepS.mono ((m1 hg).1 ρ w a ea he hs H) mono
    · obtain ⟨call, v, g1, g2, fp2, E2, HF2, g3, g4, g5, g6⟩ := (m1 hg).2 hk
      exact ⟨call, v, g1, g2, fp2, E2, HF2, g3, g4, fun o ho => k3 o (g5 o ho), g6⟩
    · obtain ⟨fp2, E2, HF2, g1, g2, g3, g4⟩ := m2 hg
      exact ⟨fp2, E2, HF2, g1, g2, fun o ho => k3 o (g3 o ho), g4⟩

/-- One operation, whatever it does. -/
theorem ws_opX {n : Nat} {all r : List Oper} {o : Oper} {E : Fs} {HF : List HI} {Q : Fs → List HI → Prop} (hg : o.guard = none) (hk : opKind C.P o.op ≠ 0)
    (hop : ∀ e h fp, Sat n E e → SatH HF fp h → WF h → ∀ ρ w a ea, EnvR ρ ea a → Sees all o e ea → HRel ρ h w → StepS C.P o a w fun u w' => ∃ v ρ' h' fp' E' HF', VR ρ' v u ∧ Trans ρ h w ρ' h' w' ∧ Sat n E' (putD e o.dst v) ∧ SatH HF' fp' h' ∧ WF h' ∧ Frame fp h fp' h' ∧
      WS C n all r E' HF' Q) : WS C n all (o :: r) E HF Q := fun e h fp h1 h2 h3 =>
  ⟨fun _ => ⟨hop e h fp h1 h2 h3, fun h0 => absurd h0 hk⟩, fun hh => by unfold guardOn at hh; rw [hg] at hh; cases hh⟩
theorem ws_stepX {n : Nat} {all r : List Oper} {o : Oper} {E : Fs} {HF : List HI} {Q : Fs → List HI → Prop} (hg : o.guard = none)
    (hop : ∀ e h fp, Sat n E e → SatH HF fp h → WF h → ∃ v h' fp' E' HF', (∃ N, ∀ m, N ≤ m → (operTF C.P o.op).run (callX C.P (regionF C.P) C.cfg m) e h = some (v, h')) ∧ Sat n E' (putD e o.dst v) ∧ SatH HF' fp' h' ∧ WF h' ∧ Frame fp h fp' h' ∧
      WS C n all r E' HF' Q) : WS C n all (o :: r) E HF Q :=
  fun e h fp h1 h2 h3 => by
    obtain ⟨v, h', fp', E', HF', ⟨N, hN⟩, s1, s2, s3, s4, hk⟩ := hop e h fp h1 h2 h3
    have hc := callX_sound (regionF_sound C.mixed) C.sums N
    have r := hN N (Nat.le_refl _)
    refine ⟨fun _ => ⟨fun ρ w a ea he hse H => ?_, fun h0 => ?_⟩, fun hh => by unfold guardOn at hh; rw [hg] at hh; cases hh⟩
    · have fin : ∀ u w', (∃ ρ', VR ρ' v u ∧ Trans ρ h w ρ' h' w') → ∃ v ρ' h' fp' E' HF', VR ρ' v u ∧ Trans ρ h w ρ' h' w' ∧ Sat n E' (putD e o.dst v) ∧ SatH HF' fp' h' ∧ WF h' ∧ Frame fp h fp' h' ∧ WS C n all _ E' HF' Q :=
        fun u w' ⟨ρ', g1, g2⟩ => ⟨v, ρ', h', fp', E', HF', g1, g2, s1, s2, s3, s4, hk⟩
      cases hs : noSel o with
      | true =>
        rw [noSel_oper hs, ← operF_congr o.op fun x hx => hse.opv hx] at r
        exact .of (ExecOk.mono (operF_sound hc o ea h v h' ρ w a r he H) fin)
      | false =>
        have := hse.2 hs
        subst this
        exact ⟨OpOk.mono (operTF_sound hc o ea h v h' ρ w a r he H) fin, fun hh => by rw [hs] at hh; cases hh⟩
    · have hs : noSel o = true := by
        unfold noSel
        split
        · rename_i hh; rw [hh] at h0; cases h0
        · rfl
      rw [noSel_oper hs] at r
      obtain ⟨e1, e2⟩ := oper_light o.op (by rw [h0]; decide) r
      subst e1
      refine ⟨_, v, hc, e2 h0, fp', E', HF', s1, s2, fun p hp => ?_, hk⟩
      rcases s4.fps p hp with hh | hh
      · exact hh
      · have := s2.lt s3 p hp; omega
theorem ws_step {n : Nat} {all r : List Oper} {o : Oper} {E E' : Fs} {HF HF' : List HI} {Q : Fs → List HI → Prop} (hg : o.guard = none)
    (hop : ∀ e h fp, Sat n E e → SatH HF fp h → WF h → ∃ v h' fp', (∃ N, ∀ m, N ≤ m → (operTF C.P o.op).run (callX C.P (regionF C.P) C.cfg m) e h = some (v, h')) ∧ Sat n E' (putD e o.dst v) ∧ SatH HF' fp' h' ∧ WF h' ∧ Frame fp h fp' h')
    (hk : WS C n all r E' HF' Q) : WS C n all (o :: r) E HF Q :=
  ws_stepX hg fun e h fp h1 h2 h3 => let ⟨v, h', fp', k1, k2, k3, k4, k5⟩ := hop e h fp h1 h2 h3; ⟨v, h', fp', E', HF', k1, k2, k3, k4, k5, hk⟩

/-- An operation that reads slots alone. -/
theorem ws_pure {n d : Nat} {all r : List Oper} {op : Op} {ty : TypeId} {pos : String} {after : Array Edge} {E : Fs} {HF : List HI} {Q : Fs → List HI → Prop} {v : AV} (hd : Nat.blt d n = true)
    (hop : ∀ e h call, Sat n E e → (operTF C.P op).run call e h = some (v, h)) (hk : WS C n all r ((d, v) :: E) HF Q) :
    WS C n all (⟨some d, op, ty, pos, after, none⟩ :: r) E HF Q :=
  ws_step rfl (fun e h fp h1 h2 h3 => ⟨v, h, fp, ⟨0, fun m _ => hop e h _ h1⟩, h1.put d v hd, h2, h3, .refl _ _⟩) hk
/-- Facts that hold behind some steps, for a world. -/
structure Reach (C : Ctx) (n : Nat) (ρ : Rho) (h : AHeap) (fp : List Nat) (w : World) (a : Act) (Q : Fs → List HI → Prop) (a' : Act) (w' : World) : Prop where
  ex : ∃ ρ' e' h' fp' E' HF', EnvR ρ' e' a' ∧ a'.defers = a.defers ∧ Trans ρ h w ρ' h' w' ∧ Sat n E' e' ∧ SatH HF' fp' h' ∧ WF h' ∧ Frame fp h fp' h' ∧ Q E' HF'

theorem guardOn_wanted {ρ : Rho} {ops : Array Oper} {o : Oper} {e : Env} {a : Act} (he : EnvR ρ e a) : guardOn ops.toList o e = Region.wanted o (yielded ops a.tmps) := by
  unfold guardOn Region.wanted
  cases hg : o.guard with
  | none => rfl
  | some g =>
    obtain ⟨j, want⟩ := g
    exact guard_iff (ops := ops) he

theorem ws_text {n : Nat} {ops : Array Oper} {Q : Fs → List HI → Prop} : ∀ (todo : List Nat) (l : List Oper), Matches ops todo l → ∀ (E : Fs) (HF : List HI), WS C n ops.toList l E HF Q →
    ∀ (e : Env) (h : AHeap) (fp : List Nat) (ρ : Rho) (w : World) (a : Act), Sat n E e → SatH HF fp h → WF h → EnvR ρ e a → HRel ρ h w → ∀ (b : Go.Frame) (k : List Item) (cs : List Go.Frame),
    ∃ a' w', Reach C n ρ h fp w a Q a' w' ∧ Steps C.P (lone (b.at a (.inRegion ops todo :: k)) cs w) (lone (b.at a' (.inRegion ops [] :: k)) cs w')
  | [], l, hm, E, HF, hs, e, h, fp, ρ, w, a, h1, h2, h3, he, H, b, k, cs => by
    simp only [Matches] at hm; subst hm
    obtain ⟨fp', E', HF', k1, k2, k3, k4⟩ := hs e h fp h1 h2 h3
    exact ⟨a, w, ⟨ρ, e, h, fp', E', HF', he, rfl, .refl H, k1, k2, h3, ⟨fun _ _ _ => rfl, Nat.le_refl _, fun o ho => .inl (k3 o ho)⟩, k4⟩, .refl _ _⟩
  | i :: t, l, hm, E, HF, hs, e, h, fp, ρ, w, a, h1, h2, h3, he, H, b, k, cs => by
    simp only [Matches] at hm
    obtain ⟨o, r, rfl, ho, hm⟩ := hm
    obtain ⟨m1, m2⟩ := hs e h fp h1 h2 h3
    rw [guardOn_wanted he] at m1 m2
    by_cases hw : Region.wanted o (yielded ops a.tmps) = true
    · obtain ⟨u, w1, ⟨v, ρ1, h', fp1, E1, HF1, g1, g2, g3, g4, g5, g6, g7⟩, st⟩ := ((m1 hw).1 ρ w a e he (.refl _ _ _) H).1 b ops i t k cs ho hw
      obtain ⟨a', w', ⟨ρ2, e2, h2', fp2, E2, HF2, q1, q2, q3, q4, q5, q6, q7, q8⟩, st2⟩ := ws_text t r hm E1 HF1 g7 _ h' fp1 ρ1 w1 (a.put o.dst u) g3 g4 g5 (put_R (he.mono g2.ext) g1) g2.rel b k cs
      exact ⟨a', w', ⟨ρ2, e2, h2', fp2, E2, HF2, q1, by rw [q2, put_defers], g2.trans q3, q4, q5, q6, g6.trans q7, q8⟩, st.trans st2⟩
    · have hw' : Region.wanted o (yielded ops a.tmps) = false := by simpa using hw
      obtain ⟨fp1, E1, HF1, g1, g2, g3, g4⟩ := m2 hw'
      obtain ⟨a', w', ⟨ρ2, e2, h2', fp2, E2, HF2, q1, q2, q3, q4, q5, q6, q7, q8⟩, st2⟩ := ws_text t r hm E1 HF1 g4 _ h fp1 ρ w (a.put o.dst Go.undef) g1 g2 h3 (put_R he VR.undef) H b k cs
      refine ⟨a', w', ⟨ρ2, e2, h2', fp2, E2, HF2, q1, by rw [q2, put_defers], q3, q4, q5, q6, q7.more g3, q8⟩, .head ?_ st2⟩
      have hs := step_op_skip (P := C.P) (b := b) (a := a) (k := k) (cs := cs) (w := w) (ops := ops) (i := i) (rest := t)
        (by simp only [ho, Option.map_some, Option.getD_some]; exact hw')
      simp only [ho, Option.bind_some] at hs
      exact hs

/-! ### code -/
abbrev Post := AExit → Fs → List HI → Prop
def WC (C : Ctx) (n : Nat) (c : Code) (E : Fs) (HF : List HI) (Q : Post) : Prop :=
  ∀ e h fp, Sat n E e → SatH HF fp h → WF h → ∀ ρ w a, EnvR ρ e a → HRel ρ h w → c.wp C.P (fun ex a' w' => ∃ x, ex = x.to ∧ Reach C n ρ h fp w a (Q x) a' w') a w

def thenQ (C : Ctx) (n : Nat) (b : Code) (Q : Post) : Post := fun x E HF =>
  match x with
  | .normal => WC C n b E HF Q
  | .exit i => Q (.exit i) E HF
  | .ret => Q .ret E HF
def blockQ (id : Nat) (Q : Post) : Post := fun x E HF =>
  match x with
  | .normal => Q .normal E HF
  | .exit i => cnd (Nat.beq i id) (Q .normal E HF) (Q (.exit i) E HF)
  | .ret => Q .ret E HF

section
variable {n : Nat} {E : Fs} {HF : List HI} {Q : Post}

theorem Reach.here {ρ : Rho} {e : Env} {h : AHeap} {fp : List Nat} {w : World} {a : Act} {R : Fs → List HI → Prop} (h1 : Sat n E e) (h2 : SatH HF fp h) (h3 : WF h) (he : EnvR ρ e a) (H : HRel ρ h w) (hq : R E HF) : Reach C n ρ h fp w a R a w :=
  ⟨ρ, e, h, fp, E, HF, he, rfl, .refl H, h1, h2, h3, .refl _ _, hq⟩
theorem Reach.mono {ρ : Rho} {h : AHeap} {fp : List Nat} {w w' : World} {a a' : Act} {R S : Fs → List HI → Prop} (r : Reach C n ρ h fp w a R a' w') (k : ∀ E HF, R E HF → S E HF) : Reach C n ρ h fp w a S a' w' := by
  obtain ⟨ρ', e', h', fp', E', HF', g1, g2, g3, g4, g5, g6, g7, g8⟩ := r
  exact ⟨ρ', e', h', fp', E', HF', g1, g2, g3, g4, g5, g6, g7, k _ _ g8⟩
/-- What a code comes to from a place that was reached. -/
theorem Reach.more {ρ : Rho} {h : AHeap} {fp : List Nat} {w w1 : World} {a a1 : Act} {R : Fs → List HI → Prop} {c : Code} {K : Exit → Act → World → Prop} (r : Reach C n ρ h fp w a R a1 w1)
    (k : ∀ ρ1 e1 h1 fp1 E1 HF1, R E1 HF1 → Sat n E1 e1 → SatH HF1 fp1 h1 → WF h1 → EnvR ρ1 e1 a1 → HRel ρ1 h1 w1 →
      c.wp C.P (fun ex a' w' => ∃ S : AExit → Fs → List HI → Prop, ∃ x, ex = x.to ∧ Reach C n ρ1 h1 fp1 w1 a1 (S x) a' w' ∧ ∀ a'' w'', Reach C n ρ h fp w a (S x) a'' w'' → K x.to a'' w'') a1 w1) : c.wp C.P K a1 w1 := by
  obtain ⟨ρ1, e1, h1, fp1, E1, HF1, g1, g2, g3, g4, g5, g6, g7, g8⟩ := r
  refine wp_mono (k ρ1 e1 h1 fp1 E1 HF1 g8 g4 g5 g6 g1 g3.rel) ?_
  rintro ex a' w' ⟨S, x, rfl, ⟨ρ2, e2, h2, fp2, E2, HF2, q1, q2, q3, q4, q5, q6, q7, q8⟩, hk⟩
  exact hk a' w' ⟨ρ2, e2, h2, fp2, E2, HF2, q1, q2.trans g2, g3.trans q3, q4, q5, q6, g7.trans q7, q8⟩
theorem wc_stay (h : Q .normal E HF) : WC C n .skip E HF Q := fun _ _ _ h1 h2 h3 _ _ _ he H => wp_skip ⟨.normal, rfl, .here h1 h2 h3 he H h⟩
theorem wc_label {l : Nat} (h : Q .normal E HF) : WC C n (.label l) E HF Q := fun _ _ _ h1 h2 h3 _ _ _ he H => wp_label ⟨.normal, rfl, .here h1 h2 h3 he H h⟩
theorem wc_exit {id : Nat} (h : Q (.exit id) E HF) : WC C n (.exit id) E HF Q := fun _ _ _ h1 h2 h3 _ _ _ he H => wp_exit ⟨.exit id, rfl, .here h1 h2 h3 he H h⟩
theorem wc_ret (h : Q .ret E HF) : WC C n .ret E HF Q := fun _ _ _ h1 h2 h3 _ _ _ he H => wp_ret ⟨.ret, rfl, .here h1 h2 h3 he H h⟩
theorem wc_scope {c : Code} (h : WC C n c E HF Q) : WC C n (.scope c) E HF Q := fun e hh fp h1 h2 h3 ρ w a he H => by
  refine wp_scope_straight (wp_mono (h e hh fp h1 h2 h3 ρ w a he H) ?_)
  rintro ex a' w' ⟨x, rfl, g⟩
  cases x <;> exact ⟨_, rfl, g⟩
theorem wc_text {id : Nat} {ops : Array Oper} (h : WS C n ops.toList ops.toList E HF fun E HF => Q .normal E HF) : WC C n (.region id ops false) E HF Q := fun e hh fp h1 h2 h3 ρ w a he H b k cs => by
  obtain ⟨a', w', r, st⟩ := ws_text _ _ (matches_range ops) E HF h e hh fp ρ w a h1 h2 h3 he H b k cs
  exact ⟨.normal, a', w', ⟨.normal, rfl, r⟩, .head step_region (st.trans (.one step_region_end))⟩
theorem wc_seq {a b : Code} (h : WC C n a E HF (thenQ C n b Q)) : WC C n (.seq a b) E HF Q := fun e hh fp h1 h2 h3 ρ w ac he H => by
  refine wp_seq (wp_mono (h e hh fp h1 h2 h3 ρ w ac he H) ?_)
  rintro ex a1 w1 ⟨x, rfl, r⟩
  cases x with
  | normal =>
    refine Reach.more r fun ρ1 e1 h1' fp1 E1 HF1 q m1 m2 m3 m4 m5 => wp_mono (q e1 h1' fp1 m1 m2 m3 ρ1 w1 a1 m4 m5) ?_
    rintro ex a' w' ⟨x, rfl, r'⟩
    exact ⟨Q, x, rfl, r', fun a'' w'' r'' => ⟨x, rfl, r''⟩⟩
  | exit i => exact ⟨.exit i, rfl, r⟩
  | ret => exact ⟨.ret, rfl, r⟩
theorem wc_block {id : Nat} {c : Code} (h : WC C n c E HF (blockQ id Q)) : WC C n (.block id c) E HF Q := fun e hh fp h1 h2 h3 ρ w a he H => by
  refine wp_block (wp_mono (h e hh fp h1 h2 h3 ρ w a he H) ?_)
  rintro ex a1 w1 ⟨x, rfl, r⟩
  cases x with
  | normal => exact ⟨.normal, rfl, r⟩
  | ret => exact ⟨.ret, rfl, r⟩
  | exit i =>
    show (if i = id then _ else _)
    cases hb : Nat.beq i id with
    | true =>
      rw [if_pos ((beqN i id).mp hb)]
      refine ⟨.normal, rfl, r.mono fun E' HF' q => ?_⟩
      replace q : cnd (Nat.beq i id) (Q .normal E' HF') (Q (.exit i) E' HF') := q
      rw [hb] at q; exact q
    | false =>
      rw [if_neg (fun hh => by rw [(beqN i id).mpr hh] at hb; cases hb)]
      refine ⟨.exit i, rfl, r.mono fun E' HF' q => ?_⟩
      replace q : cnd (Nat.beq i id) (Q .normal E' HF') (Q (.exit i) E' HF') := q
      rw [hb] at q; exact q
theorem wc_cond {c : Operand} {a b : Code} {t : Bool} (hc : ev E c = some (.bool t)) (ha : t = true → WC C n a E HF Q) (hb : t = false → WC C n b E HF Q) : WC C n (.cond c a b) E HF Q := fun e hh fp h1 h2 h3 ρ w ac he H => by
  refine wp_cond (boolOf_VR (show boolOf (.bool t) = some t from rfl) (opv_VR he (ev_opv h1 hc))) ?_
  cases t with
  | true => exact ha rfl e hh fp h1 h2 h3 ρ w ac he H
  | false => exact hb rfl e hh fp h1 h2 h3 ρ w ac he H

/-- A loop: what is known at its head (a state, a measure), and one round. -/
theorem wc_loop {σ : Type} {c : Code} (EE : σ → Fs) (HH : σ → List HI) (m : σ → Nat)
    (hr : ∀ s, WC C n c (EE s) (HH s) fun x E' HF' => match x with
      | .normal => ∃ s', m s' < m s ∧ Sub E' (EE s') ∧ Weak HF' (HH s')
      | x => Q x E' HF') (s : σ) (h0 : Sub E (EE s)) (hh : Weak HF (HH s)) : WC C n (.loop c) E HF Q := by
  have key : ∀ k s, m s < k → ∀ e h fp, Sat n (EE s) e → SatH (HH s) fp h → WF h → ∀ ρ w a, EnvR ρ e a → HRel ρ h w → ∀ (b : Go.Frame) (kk : List Item) (cs : List Go.Frame),
      ∃ ex a' w', (∃ x, ex = AExit.to x ∧ Reach C n ρ h fp w a (Q x) a' w') ∧ Arrives C.P (lone (b.at a (.code c :: .inLoop c :: kk)) cs w) b kk cs ex a' w' := by
    intro k
    induction k with
    | zero => intro s hs; omega
    | succ k ih =>
      intro s hs e h fp h1 h2 h3 ρ w a he H b kk cs
      obtain ⟨ex, a1, w1, ⟨x, rfl, r⟩, harr⟩ := hr s e h fp h1 h2 h3 ρ w a he H b (.inLoop c :: kk) cs
      cases x with
      | normal =>
        obtain ⟨ρ1, e1, h1', fp1, E1, HF1, g1, g2, g3, g4, g5, g6, g7, s', hm, hsub, hweak⟩ := r
        obtain ⟨fpw, kw1, kw2⟩ := hweak fp1 h1' g5
        obtain ⟨ex, a2, w2, ⟨x, rfl, ρ2, e2, h2', fp2, E2, HF2, q1, q2, q3, q4, q5, q6, q7, q8⟩, harr2⟩ := ih s' (by omega) e1 h1' fpw (g4.sub hsub) kw1 g6 ρ1 w1 a1 g1 g3.rel b kk cs
        exact ⟨x.to, a2, w2, ⟨x, rfl, ρ2, e2, h2', fp2, E2, HF2, q1, q2.trans g2, g3.trans q3, q4, q5, q6, g7.trans (q7.more kw2), q8⟩, .of_steps (Steps.trans harr (.one step_inLoop)) harr2⟩
      | exit i => exact ⟨_, a1, w1, ⟨.exit i, rfl, r⟩, .pass (x := .inLoop c) rfl (fun _ _ => .inl (by simp [AExit.to])) harr⟩
      | ret => exact ⟨_, a1, w1, ⟨.ret, rfl, r⟩, .pass (x := .inLoop c) rfl (fun _ _ => .inl (by simp [AExit.to])) harr⟩
  intro e h fp h1 h2 h3 ρ w a he H b kk cs
  obtain ⟨fpw, kw1, kw2⟩ := hh fp h h2
  obtain ⟨ex, a', w', ⟨x, rfl, ρ2, e2, h2', fp2, E2, HF2, q1, q2, q3, q4, q5, q6, q7, q8⟩, harr⟩ := key (m s + 1) s (Nat.lt_succ_self _) e h fpw (h1.sub h0) kw1 h3 ρ w a he H b kk cs
  exact ⟨x.to, a', w', ⟨x, rfl, ρ2, e2, h2', fp2, E2, HF2, q1, q2, q3, q4, q5, q6, q7.more kw2, q8⟩, .of_steps (.one step_loop) harr⟩

theorem WC.mono {c : Code} {Q' : Post} (h : WC C n c E HF Q) (k : ∀ x E HF, Q x E HF → Q' x E HF) : WC C n c E HF Q' := fun e hh fp h1 h2 h3 ρ w a he H => by
  refine wp_mono (h e hh fp h1 h2 h3 ρ w a he H) ?_
  rintro ex a' w' ⟨x, rfl, r⟩
  exact ⟨x, rfl, r.mono (k x)⟩
theorem WC.sub {c : Code} {E' : Fs} (h : WC C n c E' HF Q) (k : Sub E E') : WC C n c E HF Q := fun e hh fp h1 h2 h3 => h e hh fp (h1.sub k) h2 h3
/-- What is known told in other words, ahead of a code. -/
theorem WC.pre {c : Code} (h : ∀ e hh fp, Sat n E e → SatH HF fp hh → WF hh → ∃ fp' E' HF', Sat n E' e ∧ SatH HF' fp' hh ∧ (∀ o ∈ fp', o ∈ fp) ∧ WC C n c E' HF' Q) : WC C n c E HF Q := fun e hh fp h1 h2 h3 ρ w a he H => by
  obtain ⟨fp', E', HF', k1, k2, k3, k4⟩ := h e hh fp h1 h2 h3
  refine wp_mono (k4 e hh fp' k1 k2 h3 ρ w a he H) ?_
  rintro ex a' w' ⟨x, rfl, ρ2, e2, h2', fp2, E2, HF2, q1, q2, q3, q4, q5, q6, q7, q8⟩
  exact ⟨x, rfl, ρ2, e2, h2', fp2, E2, HF2, q1, q2, q3, q4, q5, q6, q7.more k3, q8⟩
end
end
end
end Go.Proofs.YtonojkcnencodaaDoor.BH
