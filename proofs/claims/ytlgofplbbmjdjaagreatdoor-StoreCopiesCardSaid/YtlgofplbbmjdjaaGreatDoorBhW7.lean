/-
  BH: walking by facts: guarded operations, cuts, objects that are lent or shared; tables of cells.
-/
import Derived.Test.YtlgofplbbmjdjaaGreatDoorBhW6
namespace Go.Proofs.YtlgofplbbmjdjaaGreatDoor.BH
noncomputable section
section
variable {C : Ctx} {n d : Nat} {all r : List Oper} {ty : TypeId} {pos : String} {after : Array Edge} {E : Fs} {HF : List HI} {Q : Fs → List HI → Prop}

/-- A truth parted. -/
theorem ws_split {t : Nat} {b : Bool} (hl : lk E t = some (.bool b)) (h1 : b = true → WS C n all r ((t, .bool true) :: E) HF Q) (h2 : b = false → WS C n all r ((t, .bool false) :: E) HF Q) : WS C n all r E HF Q := by
  have hs : ∀ e, Sat n E e → Sat n ((t, .bool b) :: E) e := fun e hs => ⟨hs.len, fun s v hv => by
    rw [lk_cons] at hv
    split at hv
    · rename_i e1; subst e1; cases hv; exact hs.get _ _ hl
    · exact hs.get _ _ hv⟩
  cases b with
  | true => exact WS.pre fun e h fp k1 k2 k3 => ⟨fp, _, _, hs e k1, k2, fun _ h => h, h1 rfl⟩
  | false => exact WS.pre fun e h fp k1 k2 k3 => ⟨fp, _, _, hs e k1, k2, fun _ h => h, h2 rfl⟩

theorem ws_on {dd : Option Tmp} {op : Op} {j g : Nat} {want : Bool} (hj : (all[j]?).bind Oper.dst = some g) (hl : lk E g = some (.bool want)) (h : WS C n all (⟨dd, op, ty, pos, after, none⟩ :: r) E HF Q) (hn : noSel ⟨dd, op, ty, pos, after, none⟩ = true := by rfl) :
    WS C n all (⟨dd, op, ty, pos, after, some (j, want)⟩ :: r) E HF Q := by
  intro e hh fp k1 k2 k3
  have hg := guardOn_lk (o := ⟨dd, op, ty, pos, after, some (j, want)⟩) rfl hj hl k1
  rw [show (want == want) = true by cases want <;> rfl] at hg
  refine ⟨fun _ => ⟨fun ρ w a ea he hse H => ?_, fun h0 => ((h e hh fp k1 k2 k3).1 rfl).2 h0⟩, fun hf => by rw [hg] at hf; cases hf⟩
  have := (((h e hh fp k1 k2 k3).1 rfl).1 ρ w a ea he ⟨fun t ht => hse.1 t (by
    unfold looks at ht ⊢
    rw [List.mem_append] at ht
    rcases ht with ht | ht
    · exact List.mem_append_left _ ht
    · simp at ht), fun hs => by rw [hn] at hs; cases hs⟩ H).2 hn
  exact .of (show ExecOk C.P ⟨dd, op, ty, pos, after, some (j, want)⟩ a w _ from this)
theorem ws_off {op : Op} {j g : Nat} {want b : Bool} (hj : (all[j]?).bind Oper.dst = some g) (hl : lk E g = some (.bool b)) (hb : want = !b) (hd : Nat.blt d n = true) (h : WS C n all r ((d, .undef) :: E) HF Q) :
    WS C n all (⟨some d, op, ty, pos, after, some (j, want)⟩ :: r) E HF Q := by
  intro e hh fp k1 k2 k3
  have hg := guardOn_lk (o := ⟨some d, op, ty, pos, after, some (j, want)⟩) rfl hj hl k1
  rw [hb, show (b == !b) = false by cases b <;> rfl] at hg
  rw [hb]
  exact ⟨fun hf => (by rw [hg] at hf; cases hf), fun _ => ⟨fp, _, _, k1.put d .undef hd, k2, fun _ h => h, h⟩⟩
theorem w_pickT {c a b : Operand} {x : AV} (hd : Nat.blt d n = true) (hc : ev E c = some (.bool true)) (ha : ev E a = some x) (hb : ∃ y, ev E b = some y) (hk : WS C n all r ((d, x) :: E) HF Q) : WS C n all (⟨some d, .pick c a b, ty, pos, after, none⟩ :: r) E HF Q := by
  obtain ⟨y, hb⟩ := hb
  exact w_pick hd hc ha hb hk
theorem w_pickF {c a b : Operand} {y : AV} (hd : Nat.blt d n = true) (hc : ev E c = some (.bool false)) (ha : ∃ x, ev E a = some x) (hb : ev E b = some y) (hk : WS C n all r ((d, y) :: E) HF Q) : WS C n all (⟨some d, .pick c a b, ty, pos, after, none⟩ :: r) E HF Q := by
  obtain ⟨x, ha⟩ := ha
  exact w_pick hd hc ha hb hk
end

section
variable {C : Ctx} {n : Nat} {E : Fs} {HF : List HI} {Q : Post}
theorem WC.fewer {c : Code} {E' : Fs} (k : Sub E E') (h : WC C n c E' HF Q) : WC C n c E HF Q := h.sub k
end

/-! ### tables -/
def tab (n : Nat) (f : Nat → Bool) : List AV := (List.range n).map fun i => .bool (f i)
theorem tab_length (n : Nat) (f : Nat → Bool) : (tab n f).length = n := by simp [tab]
theorem tab_get {n : Nat} {f : Nat → Bool} {i : Nat} (h : i < n) : (tab n f)[i]? = some (.bool (f i)) := by simp [tab, h]
theorem over_of {cs vs : List AV} {o : Nat} (h : o + vs.length ≤ cs.length) : over cs o vs = some (cs.take o ++ vs ++ cs.drop (o + vs.length)) := by
  induction o generalizing cs with
  | zero =>
    have : ∀ (vs cs : List AV), vs.length ≤ cs.length → overHere vs cs = some (vs ++ cs.drop vs.length) := by
      intro vs
      induction vs with
      | nil => intro cs _; rfl
      | cons v t ih => intro cs hc; cases cs with
        | nil => simp at hc
        | cons a r => show (bnd (overHere t r) fun l => some (v :: l)) = _; rw [ih r (by simpa using hc)]; rfl
    show overHere vs cs = _
    rw [this vs cs (by omega)]; simp
  | succ o ih => cases cs with
    | nil => simp at h
    | cons a r =>
      show (bnd (over r o vs) fun l => some (a :: l)) = _
      rw [ih (by simp at h; omega), bnd_some]
      simp only [List.take_succ_cons, List.cons_append, show o + 1 + vs.length = (o + vs.length) + 1 by omega, List.drop_succ_cons]
theorem over_one {cs : List AV} {o : Nat} {v : AV} (h : o < cs.length) : over cs o [v] = some (cs.set o v) := by
  rw [over_of (show o + [v].length ≤ cs.length from h)]
  rw [List.set_eq_take_append_cons_drop, if_pos h]; simp
theorem tab_set {n : Nat} {f : Nat → Bool} {i : Nat} {b : Bool} (h : i < n) : over (tab n f) i [.bool b] = some (tab n fun j => if j = i then b else f j) := by
  rw [over_one (by rw [tab_length]; exact h)]
  congr 1
  refine List.ext_getElem? fun j => ?_
  rw [List.getElem?_set, tab_length]
  by_cases hj : i = j
  · subst hj
    rw [if_pos rfl, if_pos h, tab_get h, if_pos rfl]
  · rw [if_neg hj]
    rcases Nat.lt_or_ge j n with hl | hl
    · rw [tab_get hl, tab_get hl, if_neg (fun e => hj e.symm)]
    · rw [List.getElem?_eq_none (by rw [tab_length]; exact hl), List.getElem?_eq_none (by rw [tab_length]; exact hl)]
theorem tab_done (n : Nat) (f : Nat → Bool) : (tab n f).all doneV = true := by simp [tab, doneV]
theorem tab_scalar (n : Nat) (f : Nat → Bool) : (tab n f).all AV.scalar = true := by simp [tab, AV.scalar]
theorem tab_congr {n : Nat} {f g : Nat → Bool} (h : ∀ i, i < n → f i = g i) : tab n f = tab n g := by
  unfold tab
  exact List.map_congr_left fun i hi => by rw [h i (List.mem_range.1 hi)]
/-! ### functions that share the caller's heap -/
section
variable {C : Ctx} {n : Nat}
/-- What a shared body ends with. -/
def SharedQ (C : Ctx) (res : List ResultVar) (K : AV → List HI → Prop) : Post := fun x E HF =>
  match x with
  | .exit _ => False
  | _ => ∃ vs G, ResL C E HF res vs ∧ Weak HF G ∧ K (oneOf vs) G
theorem satH_append {A B : List HI} : ∀ {fp : List Nat} {h : AHeap}, SatH (A ++ B) fp h ↔ ∃ f1 f2, fp = f1 ++ f2 ∧ SatH A f1 h ∧ SatH B f2 h ∧ ∀ o ∈ f1, o ∉ f2 := by
  induction A with
  | nil =>
    intro fp h
    constructor
    · intro hs; exact ⟨[], fp, rfl, rfl, hs, fun _ h => by cases h⟩
    · rintro ⟨f1, f2, rfl, h1, h2, _⟩
      replace h1 : f1 = [] := h1
      subst h1; exact h2
  | cons i r ih =>
    intro fp h
    rw [List.cons_append]
    constructor
    · intro hs
      obtain ⟨own, fp', rfl, h1, h2, h3⟩ := satH_cons.mp hs
      obtain ⟨f1, f2, rfl, g1, g2, g3⟩ := ih.mp h3
      refine ⟨own ++ f1, f2, by rw [List.append_assoc], satH_cons.mpr ⟨own, f1, rfl, h1, fun o ho hh => h2 o ho (List.mem_append_left _ hh), g1⟩, g2, fun o ho hh => ?_⟩
      rcases List.mem_append.mp ho with ho | ho
      · exact h2 o ho (List.mem_append_right _ hh)
      · exact g3 o ho hh
    · rintro ⟨f1, f2, rfl, h1, h2, h3⟩
      obtain ⟨own, fp', rfl, g1, g2, g3⟩ := satH_cons.mp h1
      refine satH_cons.mpr ⟨own, fp' ++ f2, by rw [List.append_assoc], g1, fun o ho hh => ?_, ih.mpr ⟨fp', f2, rfl, g3, h2, fun o ho => h3 o (List.mem_append_right _ ho)⟩⟩
      rcases List.mem_append.mp hh with hh | hh
      · exact g2 o ho hh
      · exact h3 o (List.mem_append_left _ ho) hh
theorem cw_sharedA {f : FuncId} {fn : Func} {c : Code} {l : List AV} {HF : List HI} {K : AV → List HI → Prop} (hf : C.P.funcs[f]? = some fn) (hn : (fn.name == "runtime.NumGoroutine") = false) (hb : fn.body = some c)
    (hl : Nat.ble l.length fn.ntmps = true) (h : WC C fn.ntmps c (argsE 0 l) HF (SharedQ C fn.results.toList K)) (R : List HI) : CallW C f l (HF ++ R) fun v H => ∃ H', H = H' ++ R ∧ K v H' := by
  intro hh fp h1 h2 ρ w us hv H
  obtain ⟨f1, f2, rfl, g1, g2, g3⟩ := satH_append.mp h1
  have hlt := g2.lt h2
  refine (body_ok hf hn hb hl h (S := fun vs HF' => ∃ G, Weak HF' G ∧ K (oneOf vs) G) ?_ g1 h2 hv H).mono ?_
  · intro x E HF q
    cases x with
    | exit i => exact q.elim
    | normal => obtain ⟨vs, G, m1, m2, m3⟩ := q; exact ⟨fun _ h => (by cases h), vs, m1, G, m2, m3⟩
    | ret => obtain ⟨vs, G, m1, m2, m3⟩ := q; exact ⟨fun _ h => (by cases h), vs, m1, G, m2, m3⟩
  · rintro u w' ⟨vs, ρ', h', fp', HF', k1, k2, k3, k4, kf, G, mw, m2⟩
    obtain ⟨fpg, w1, w2⟩ := mw fp' h' k3
    refine ⟨oneOf vs, ρ', h', fpg ++ f2, G ++ R, k1, k2, satH_append.mpr ⟨fpg, f2, rfl, w1, g2.frame fun o ho => kf.keep o (fun hh => g3 o hh ho) (hlt o ho), fun o ho hh => ?_⟩, k4, ⟨fun o ho hl => ?_, kf.next, fun o ho => ?_⟩, G, rfl, m2⟩
    · rcases kf.fps o (w2 o ho) with h | h
      · exact g3 o h hh
      · have := hlt o hh; omega
    · exact kf.keep o (fun hh => ho (List.mem_append_left _ hh)) hl
    · rcases List.mem_append.mp ho with ho | ho
      · exact (kf.fps o (w2 o ho)).imp (List.mem_append_left _) id
      · exact .inl (List.mem_append_right _ ho)
theorem CallW.mono {f : FuncId} {l : List AV} {HF : List HI} {K K' : AV → List HI → Prop} (h : CallW C f l HF K) (k : ∀ v H, K v H → K' v H) : CallW C f l HF K' := fun hh fp h1 h2 ρ w us hv H => by
  refine (h hh fp h1 h2 ρ w us hv H).mono ?_
  rintro u w' ⟨v, ρ', h', fp', HF', k1, k2, k3, k4, k5, k6⟩
  exact ⟨v, ρ', h', fp', HF', k1, k2, k3, k4, k5, k v HF' k6⟩
theorem CallW.take {f : FuncId} {l : List AV} {i : HI} {HF HR : List HI} {K : AV → List HI → Prop} (t : Take HF i HR) (h : CallW C f l (i :: HR) K) : CallW C f l HF K := fun hh fp h1 h2 ρ w us hv H => by
  obtain ⟨fp1, k1, k2⟩ := t.sat h1
  refine (h hh fp1 k1 h2 ρ w us hv H).mono ?_
  rintro u w' ⟨v, ρ', h', fp', HF', m1, m2, m3, m4, m5, m6⟩
  exact ⟨v, ρ', h', fp', HF', m1, m2, m3, m4, m5.left k2, m6⟩
end
end
end Go.Proofs.YtlgofplbbmjdjaaGreatDoor.BH
