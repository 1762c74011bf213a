/-
  BH: what came in, read as lists laid into cells; a law walked by facts is a law.
-/
import Derived.Test.YtonojkcnencodaaDoorBhOld
import Derived.Deep.Slices
section
namespace Go.Proofs.YtonojkcnencodaaDoor.BH
open Go.ChangeShapes Go.WideShapes

/-- All that there is, looked at. -/
def Rho.data (W : World) : Rho := ⟨fun _ => none, cellsOf W, fun _ => none⟩

section
variable {P : Program} {α β : Type}
/-- Values of a type read as what 'enc' lays. -/
def DecN (P : Program) (t : TypeId) (enc : α → List AV) (good : α → Prop) (n : Nat) : Prop := ∀ {H : Type} (e' : TypeId × Value → H) (W : World) (held : Bool) (cs : List Value) (x : DataW H × List MemPlace),
  DataW.trod e' P W 0 (fun _ => true) held n t cs = some x → ∃ a, VRL (Rho.data W) (enc a) cs ∧ good a

theorem DecN.map {t : TypeId} {enc : α → List AV} {good : α → Prop} {enc' : β → List AV} {good' : β → Prop} {n : Nat} (h : DecN P t enc good n) (f : α → β) (he : ∀ a, enc' (f a) = enc a) (hg : ∀ a, good a → good' (f a)) : DecN P t enc' good' n := by
  intro H e' W held cs x hx
  obtain ⟨a, h1, h2⟩ := h e' W held cs x hx
  exact ⟨f a, by rw [he]; exact h1, hg a h2⟩

theorem dec_int {t : TypeId} (ht : P.underlying t = some (.int .i64)) (n : Nat) : DecN P t eI (fun z => -9223372036854775808 ≤ z ∧ z ≤ 9223372036854775807) n := by
  intro H e' W held cs x hx
  obtain ⟨z, rfl, _, hw⟩ := DataW.trod_int ht hx
  refine ⟨z, VRL.cons (by simp only [VR]) VRL.nil, ?_⟩
  have h1 : IntKind.i64.min = -9223372036854775808 := rfl
  have h2 : IntKind.i64.max = 9223372036854775807 := rfl
  simp only [Lit.wf, Bool.and_eq_true, decide_eq_true_eq] at hw
  omega
def eT (b : Bool) : List AV := [.bool b]
theorem list_of {p : Nat → α → Prop} : ∀ {n : Nat}, (∀ i, i < n → ∃ x, p i x) → ∃ l : List α, l.length = n ∧ ∀ i x, l[i]? = some x → p i x
  | 0, _ => ⟨[], rfl, fun i x h => by simp at h⟩
  | n + 1, h => by
    obtain ⟨l, hl, hp⟩ := list_of (n := n) fun i hi => h i (by omega)
    obtain ⟨x, hx⟩ := h n (by omega)
    refine ⟨l ++ [x], by simp [hl], fun i y hy => ?_⟩
    rcases Nat.lt_or_ge i n with hi | hi
    · rw [List.getElem?_append_left (by omega)] at hy; exact hp i y hy
    · rw [List.getElem?_append_right (by omega)] at hy
      have : i - l.length = 0 := by
        rcases Nat.eq_zero_or_pos (i - l.length) with h | h
        · exact h
        · rw [List.getElem?_eq_none (by simp; omega)] at hy; cases hy
      rw [this] at hy; simp at hy; subst hy
      have : i = n := by omega
      subst this; exact hx

theorem cell_block {w : World} {b o : Nat} {v : Value} (h : w.cell? ⟨b, o, none⟩ = some v) : ∃ x, cellsOf w b = some x ∧ x[o]? = some v := by
  unfold World.cell? at h
  simp only at h
  split at h
  · rename_i x e fr hh
    exact ⟨x, cellsOf_of hh, h⟩
  · cases h

theorem dec_slice {t e s n : Nat} {enc : α → List AV} {good : α → Prop} (ht : P.underlying t = some (.slice e)) (hc : P.cellsOf e = s) (hpos : 0 < s) (hs : ∀ a, (enc a).length = s) (hsc : ∀ a, (enc a).all AV.scalar = true) (D : ∀ m, m < n → DecN P e enc good m) :
    DecN P t (fun l => [AL enc l]) (fun l => (∀ x ∈ l, good x) ∧ l.length ≤ 9223372036854775807) n := by
  intro H e' W held cs x hx
  rcases DataW.trod_slice ht hx with ⟨rfl, _⟩ | ⟨a, len, cap, elems, rest, n', hn, rfl, _, _, hl, hm, hlen, hel, _⟩
  · refine ⟨[], VRL.cons ?_ VRL.nil, ⟨fun x hx => (by cases hx), by simp⟩⟩
    show VR _ (.lst [] 0 false true) _
    simp only [VR]
    exact ⟨none, 0, rfl, Nat.le_refl _, fun h => (by cases h), rfl, fun _ => rfl, .inl ⟨trivial, trivial, fun h => by cases h⟩⟩
  · have h1 : ∀ i, i < len → ∃ y, (∃ cs', W.cells? 0 (a.add (i * s)) s = some cs' ∧ VRL (Rho.data W) (enc y) cs') ∧ good y := by
      intro i hi
      have := hel i hi
      rw [hc, List.getElem?_eq_getElem (by omega)] at this
      obtain ⟨cs', g1, g2⟩ := Option.bind_eq_some_iff.1 this
      obtain ⟨y, g3, g4⟩ := D n' (by omega) e' W held cs' _ g2
      exact ⟨y, ⟨cs', g1, g3⟩, g4⟩
    obtain ⟨l, hll, hp⟩ := list_of h1
    refine ⟨l, VRL.cons ?_ VRL.nil, ⟨fun x hx => ?_, ?_⟩⟩
    · show VR _ (.lst (l.flatMap enc) l.length false true) _
      simp only [VR]
      refine ⟨some a, cap, by rw [hll], by omega, fun h => (by cases h), flat_scalar hsc l, fun h => (by cases h), ?_⟩
      by_cases h0 : len = 0
      · have : l = [] := List.length_eq_zero_iff.mp (by omega)
        subst this
        exact .inl ⟨rfl, rfl, fun h => by cases h⟩
      · right
        obtain ⟨y0, hy0⟩ := get_of_lt (l := l) (k := 0) (by omega)
        obtain ⟨⟨cs0, g1, g2⟩, _⟩ := hp 0 y0 hy0
        obtain ⟨_, g3, g4⟩ := World.cells?_some g1
        have g5 := g4 0 hpos
        rw [List.getElem?_eq_getElem (by omega)] at g5
        have hsp := World.cell?_spot g5
        obtain ⟨b, off, spot⟩ := a
        have hspot : spot = none := by
          simp only [Addr.add] at hsp
          simpa using hsp
        subst hspot
        have hadd : ∀ i j, ((⟨b, off, none⟩ : Addr).add i).add j = ⟨b, off + (i + j), none⟩ := by
          intro i j
          rw [Go.Deep.add_add]
          simp only [Addr.add]; split <;> simp_all
        rw [hadd] at g5
        obtain ⟨x, hx1, _⟩ := cell_block g5
        have hcellx : ∀ (i : Nat) (y : α), l[i]? = some y → ∃ cs', VRL (Rho.data W) (enc y) cs' ∧ cs'.length = s ∧ ∀ j, j < s → x[off + (i * s + j)]? = cs'[j]? := by
          intro i y hy
          obtain ⟨⟨cs', k1, k2⟩, _⟩ := hp i y hy
          obtain ⟨_, k3, k4⟩ := World.cells?_some k1
          refine ⟨cs', k2, k3, fun j hj => ?_⟩
          have k5 := k4 j hj
          rw [hadd, List.getElem?_eq_getElem (by omega)] at k5
          obtain ⟨x', q1, q2⟩ := cell_block k5
          rw [hx1] at q1; cases q1
          rw [q2, List.getElem?_eq_getElem (by omega)]
        refine ⟨b, off, x, (x.toList.drop off).take (l.length * s), rfl, hx1, ?_, fun i u hu => ?_⟩
        · have key : ∀ (m : List α) (i0 : Nat), (∀ (i : Nat) (y : α), m[i]? = some y → l[i0 + i]? = some y) → VRL (Rho.data W) (m.flatMap enc) ((x.toList.drop (off + i0 * s)).take (m.length * s)) := by
            intro m
            induction m with
            | nil => intro i0 _; simp only [List.flatMap_nil, List.length_nil, Nat.zero_mul, List.take_zero]; exact VRL.nil
            | cons y r ih =>
              intro i0 hm
              obtain ⟨cs', k1, k2, k3⟩ := hcellx (i0 + 0) y (hm 0 y rfl)
              have e1 : (x.toList.drop (off + i0 * s)).take ((y :: r).length * s) = cs' ++ (x.toList.drop (off + (i0 + 1) * s)).take (r.length * s) := by
                refine List.ext_getElem? fun j => ?_
                rw [List.getElem?_take, List.getElem?_drop, Array.getElem?_toList]
                have e2 : (y :: r).length * s = s + r.length * s := by rw [List.length_cons, Nat.add_mul]; omega
                have e3 : (i0 + 1) * s = i0 * s + s := by rw [Nat.add_mul]; omega
                by_cases hj : j < s
                · rw [if_pos (by omega), List.getElem?_append_left (by omega), ← k3 j hj, Nat.add_zero, Nat.add_assoc]
                · rw [List.getElem?_append_right (by omega), List.getElem?_take, k2]
                  by_cases hj2 : j < (y :: r).length * s
                  · rw [if_pos hj2, if_pos (by omega), List.getElem?_drop, Array.getElem?_toList]
                    congr 1; omega
                  · rw [if_neg hj2, if_neg (by omega)]
              rw [List.flatMap_cons, e1]
              exact VRL.append k1 (ih (i0 + 1) fun i z hz => by have := hm (i + 1) z (by simpa using hz); rwa [show i0 + 1 + i = i0 + (i + 1) by omega])
          have := key l 0 fun i y hy => by rw [Nat.zero_add]; exact hy
          rw [Nat.zero_mul, Nat.add_zero] at this
          exact this
        · rw [List.getElem?_take] at hu
          split at hu
          · rw [List.getElem?_drop, Array.getElem?_toList] at hu; exact hu
          · cases hu
    · obtain ⟨i, hi⟩ := List.getElem?_of_mem hx
      exact (hp i x hi).2
    · have h2 : maxLen = 9223372036854775807 := rfl
      rw [hll]; omega
end

/-! ### a law -/
theorem law_calls {C : Ctx} {f : FuncId} {fn : Func} {c : Code} {args : List AV} {us : Array Value} {W : World} (hk : (C.cfg.kind f).keep = false) (hf : C.P.funcs[f]? = some fn) (hname : (fn.name == "runtime.NumGoroutine") = false) (hb : fn.body = some c)
    (hr : PFn C f args (.bool true)) (hv : VRL (Rho.data W) args us.toList) : Calls C.P f us W fun e W' => e = .returned (.bool true) ∧ Old W W' := by
  have hname' : fn.name ≠ "runtime.NumGoroutine" := by simpa using hname
  have henter : (callFunc f us).run C.P W = .ok (.enter f us) W := by simp [callFunc, hf, hname', hb]
  have hext : Ext (Rho.data W) (Rho.all W) := ⟨fun _ _ h => h, fun _ _ h => h, fun _ _ h => (by cases h)⟩
  have H0 : HRel (Rho.all W) AHeap.empty W := empty_rel (w := W) (cellsOf W) (fun _ => false) fun _ _ h => h
  rcases hr.2 (Rho.all W) W us (VRL.mono hext _ _ hv) H0 with ⟨_, hc⟩ | ⟨v, w', hv', _⟩
  · refine hc.mono ?_
    rintro e W' ⟨v, rfl, ρ', h', v0, hv, T, ⟨_, rfl, _⟩ | ⟨hk', _⟩⟩
    · simp only [VR] at hv
      subst hv
      exact ⟨rfl, T.os, T.outp, T.size, fun b hb => T.kept b hb fun o x c hx => by rw [empty_get] at hx; cases hx⟩
    · rw [hk] at hk'; cases hk'
  · rw [henter] at hv'; cases hv'

/-- What an argument of one cell reads as. -/
theorem arg_one {P : Program} {α : Type} {H : Type} {e' : TypeId × Value → H} {W : World} {held : Bool} {t : TypeId} {v : Value} {d : DataW H} {ps : List MemPlace} {enc : α → List AV} {good : α → Prop} (h : DataW.Trod e' P W 0 (fun _ => true) held t v d ps) (D : ∀ n, DecN P t enc good n)
    (hone : ∀ (a : α) (x : Value), VRL (Rho.data W) (enc a) v.cells.toList → v.cells.toList = [v]) : ∃ a, VRL (Rho.data W) (enc a) [v] ∧ good a := by
  obtain ⟨fuel, hf⟩ := h
  obtain ⟨a, h1, h2⟩ := D fuel e' W held _ _ hf
  refine ⟨a, ?_, h2⟩
  rw [← hone a v h1]; exact h1
end Go.Proofs.YtonojkcnencodaaDoor.BH

end
section
namespace Go.Proofs.YtonojkcnencodaaDoor.BH
noncomputable section
section
variable {C : Ctx} {n d : Nat} {all r : List Oper} {ty : TypeId} {pos : String} {after : Array Edge} {E : Fs} {HF : List HI} {Q : Fs → List HI → Prop}

/-- A truth parted. -/
theorem ws_split {t : Nat} {b : Bool} (hl : lk E t = some (.bool b)) (h1 : b = true → WS C n all r ((t, .bool true) :: E) HF Q) (h2 : b = false → WS C n all r ((t, .bool false) :: E) HF Q) : WS C n all r E HF Q := by
  have hs : ∀ e, Sat n E e → Sat n ((t, .bool b) :: E) e := fun e hs => ⟨hs.len, fun s v hv => by
    rw [lk_cons] at hv
    split at hv
    · rename_i e1; subst e1; cases hv; exact hs.get _ _ hl
    · exact hs.get _ _ hv⟩
  cases b with
  | true => exact WS.pre fun e h fp k1 k2 k3 => ⟨fp, _, _, hs e k1, k2, fun _ h => h, h1 rfl⟩
  | false => exact WS.pre fun e h fp k1 k2 k3 => ⟨fp, _, _, hs e k1, k2, fun _ h => h, h2 rfl⟩

theorem ws_on {dd : Option Tmp} {op : Op} {j g : Nat} {want : Bool} (hj : (all[j]?).bind Oper.dst = some g) (hl : lk E g = some (.bool want)) (h : WS C n all (⟨dd, op, ty, pos, after, none⟩ :: r) E HF Q) (hn : noSel ⟨dd, op, ty, pos, after, none⟩ = true := by rfl) :
    WS C n all (⟨dd, op, ty, pos, after, some (j, want)⟩ :: r) E HF Q := by
  intro e hh fp k1 k2 k3
  have hg := guardOn_lk (o := ⟨dd, op, ty, pos, after, some (j, want)⟩) rfl hj hl k1
  rw [show (want == want) = true by cases want <;> rfl] at hg
  refine ⟨fun _ => ⟨fun ρ w a ea he hse H => ?_, fun h0 => ((h e hh fp k1 k2 k3).1 rfl).2 h0⟩, fun hf => by rw [hg] at hf; cases hf⟩
  have := (((h e hh fp k1 k2 k3).1 rfl).1 ρ w a ea he ⟨fun t ht => hse.1 t (by
    unfold looks at ht ⊢
    rw [List.mem_append] at ht
    rcases ht with ht | ht
    · exact List.mem_append_left _ ht
    · simp at ht), fun hs => by rw [hn] at hs; cases hs⟩ H).2 hn
  exact .of (show ExecOk C.P ⟨dd, op, ty, pos, after, some (j, want)⟩ a w _ from this)
theorem ws_off {op : Op} {j g : Nat} {want b : Bool} (hj : (all[j]?).bind Oper.dst = some g) (hl : lk E g = some (.bool b)) (hb : want = !b) (hd : Nat.blt d n = true) (h : WS C n all r ((d, .undef) :: E) HF Q) :
    WS C n all (⟨some d, op, ty, pos, after, some (j, want)⟩ :: r) E HF Q := by
  intro e hh fp k1 k2 k3
  have hg := guardOn_lk (o := ⟨some d, op, ty, pos, after, some (j, want)⟩) rfl hj hl k1
  rw [hb, show (b == !b) = false by cases b <;> rfl] at hg
  rw [hb]
  exact ⟨fun hf => (by rw [hg] at hf; cases hf), fun _ => ⟨fp, _, _, k1.put d .undef hd, k2, fun _ h => h, h⟩⟩
theorem w_pickT {c a b : Operand} {x : AV} (hd : Nat.blt d n = true) (hc : ev E c = some (.bool true)) (ha : ev E a = some x) (hb : ∃ y, ev E b = some y) (hk : WS C n all r ((d, x) :: E) HF Q) : WS C n all (⟨some d, .pick c a b, ty, pos, after, none⟩ :: r) E HF Q := by
  obtain ⟨y, hb⟩ := hb
  exact w_pick hd hc ha hb hk
theorem w_pickF {c a b : Operand} {y : AV} (hd : Nat.blt d n = true) (hc : ev E c = some (.bool false)) (ha : ∃ x, ev E a = some x) (hb : ev E b = some y) (hk : WS C n all r ((d, y) :: E) HF Q) : WS C n all (⟨some d, .pick c a b, ty, pos, after, none⟩ :: r) E HF Q := by
  obtain ⟨x, ha⟩ := ha
  exact w_pick hd hc ha hb hk
end

section
variable {C : Ctx} {n : Nat} {E : Fs} {HF : List HI} {Q : Post}
theorem WC.fewer {c : Code} {E' : Fs} (k : Sub E E') (h : WC C n c E' HF Q) : WC C n c E HF Q := h.sub k
end

/-! ### tables -/
def tab (n : Nat) (f : Nat → Bool) : List AV := (List.range n).map fun i => .bool (f i)
theorem tab_length (n : Nat) (f : Nat → Bool) : (tab n f).length = n := by simp [tab]
theorem tab_get {n : Nat} {f : Nat → Bool} {i : Nat} (h : i < n) : (tab n f)[i]? = some (.bool (f i)) := by simp [tab, h]
theorem over_of {cs vs : List AV} {o : Nat} (h : o + vs.length ≤ cs.length) : over cs o vs = some (cs.take o ++ vs ++ cs.drop (o + vs.length)) := by
  induction o generalizing cs with
  | zero =>
    have : ∀ (vs cs : List AV), vs.length ≤ cs.length → overHere vs cs = some (vs ++ cs.drop vs.length) := by
      intro vs
      induction vs with
      | nil => intro cs _; rfl
      | cons v t ih => intro cs hc; cases cs with
        | nil => simp at hc
        | cons a r => show (bnd (overHere t r) fun l => some (v :: l)) = _; rw [ih r (by simpa using hc)]; rfl
    show overHere vs cs = _
    rw [this vs cs (by omega)]; simp
  | succ o ih => cases cs with
    | nil => simp at h
    | cons a r =>
      show (bnd (over r o vs) fun l => some (a :: l)) = _
      rw [ih (by simp at h; omega), bnd_some]
      simp only [List.take_succ_cons, List.cons_append, show o + 1 + vs.length = (o + vs.length) + 1 by omega, List.drop_succ_cons]
theorem over_one {cs : List AV} {o : Nat} {v : AV} (h : o < cs.length) : over cs o [v] = some (cs.set o v) := by
  rw [over_of (show o + [v].length ≤ cs.length from h)]
  rw [List.set_eq_take_append_cons_drop, if_pos h]; simp
theorem tab_set {n : Nat} {f : Nat → Bool} {i : Nat} {b : Bool} (h : i < n) : over (tab n f) i [.bool b] = some (tab n fun j => if j = i then b else f j) := by
  rw [over_one (by rw [tab_length]; exact h)]
  congr 1
  refine List.ext_getElem? fun j => ?_
  rw [List.getElem?_set, tab_length]
  by_cases hj : i = j
  · subst hj
    rw [if_pos rfl, if_pos h, tab_get h, if_pos rfl]
  · rw [if_neg hj]
    rcases Nat.lt_or_ge j n with hl | hl
    · rw [tab_get hl, tab_get hl, if_neg (fun e => hj e.symm)]
    · rw [List.getElem?_eq_none (by rw [tab_length]; exact hl), List.getElem?_eq_none (by rw [tab_length]; exact hl)]
theorem tab_done (n : Nat) (f : Nat → Bool) : (tab n f).all doneV = true := by simp [tab, doneV]
theorem tab_congr {n : Nat} {f g : Nat → Bool} (h : ∀ i, i < n → f i = g i) : tab n f = tab n g := by
  unfold tab
  exact List.map_congr_left fun i hi => by rw [h i (List.mem_range.1 hi)]
/-! ### functions that share the caller's heap -/
section
variable {C : Ctx} {n : Nat}
/-- What a shared body ends with. -/
def SharedQ (C : Ctx) (res : List ResultVar) (K : AV → List HI → Prop) : Post := fun x E HF =>
  match x with
  | .exit _ => False
  | _ => ∃ vs G, ResL C E HF res vs ∧ Weak HF G ∧ K (oneOf vs) G
theorem satH_append {A B : List HI} : ∀ {fp : List Nat} {h : AHeap}, SatH (A ++ B) fp h ↔ ∃ f1 f2, fp = f1 ++ f2 ∧ SatH A f1 h ∧ SatH B f2 h ∧ ∀ o ∈ f1, o ∉ f2 := by
  induction A with
  | nil =>
    intro fp h
    constructor
    · intro hs; exact ⟨[], fp, rfl, rfl, hs, fun _ h => by cases h⟩
    · rintro ⟨f1, f2, rfl, h1, h2, _⟩
      replace h1 : f1 = [] := h1
      subst h1; exact h2
  | cons i r ih =>
    intro fp h
    rw [List.cons_append]
    constructor
    · intro hs
      obtain ⟨own, fp', rfl, h1, h2, h3⟩ := satH_cons.mp hs
      obtain ⟨f1, f2, rfl, g1, g2, g3⟩ := ih.mp h3
      refine ⟨own ++ f1, f2, by rw [List.append_assoc], satH_cons.mpr ⟨own, f1, rfl, h1, fun o ho hh => h2 o ho (List.mem_append_left _ hh), g1⟩, g2, fun o ho hh => ?_⟩
      rcases List.mem_append.mp ho with ho | ho
      · exact h2 o ho (List.mem_append_right _ hh)
      · exact g3 o ho hh
    · rintro ⟨f1, f2, rfl, h1, h2, h3⟩
      obtain ⟨own, fp', rfl, g1, g2, g3⟩ := satH_cons.mp h1
      refine satH_cons.mpr ⟨own, fp' ++ f2, by rw [List.append_assoc], g1, fun o ho hh => ?_, ih.mpr ⟨fp', f2, rfl, g3, h2, fun o ho => h3 o (List.mem_append_right _ ho)⟩⟩
      rcases List.mem_append.mp hh with hh | hh
      · exact g2 o ho hh
      · exact h3 o (List.mem_append_left _ ho) hh
theorem cw_sharedA {f : FuncId} {fn : Func} {c : Code} {l : List AV} {HF : List HI} {K : AV → List HI → Prop} (hf : C.P.funcs[f]? = some fn) (hn : (fn.name == "runtime.NumGoroutine") = false) (hb : fn.body = some c)
    (hl : Nat.ble l.length fn.ntmps = true) (h : WC C fn.ntmps c (argsE 0 l) HF (SharedQ C fn.results.toList K)) (R : List HI) : CallW C f l (HF ++ R) fun v H => ∃ H', H = H' ++ R ∧ K v H' := by
  intro hh fp h1 h2 ρ w us hv H
  obtain ⟨f1, f2, rfl, g1, g2, g3⟩ := satH_append.mp h1
  have hlt := g2.lt h2
  refine (body_ok hf hn hb hl h (S := fun vs HF' => ∃ G, Weak HF' G ∧ K (oneOf vs) G) ?_ g1 h2 hv H).mono ?_
  · intro x E HF q
    cases x with
    | exit i => exact q.elim
    | normal => obtain ⟨vs, G, m1, m2, m3⟩ := q; exact ⟨fun _ h => (by cases h), vs, m1, G, m2, m3⟩
    | ret => obtain ⟨vs, G, m1, m2, m3⟩ := q; exact ⟨fun _ h => (by cases h), vs, m1, G, m2, m3⟩
  · rintro u w' ⟨vs, ρ', h', fp', HF', k1, k2, k3, k4, kf, G, mw, m2⟩
    obtain ⟨fpg, w1, w2⟩ := mw fp' h' k3
    refine ⟨oneOf vs, ρ', h', fpg ++ f2, G ++ R, k1, k2, satH_append.mpr ⟨fpg, f2, rfl, w1, g2.frame fun o ho => kf.keep o (fun hh => g3 o hh ho) (hlt o ho), fun o ho hh => ?_⟩, k4, ⟨fun o ho hl => ?_, kf.next, fun o ho => ?_⟩, G, rfl, m2⟩
    · rcases kf.fps o (w2 o ho) with h | h
      · exact g3 o h hh
      · have := hlt o hh; omega
    · exact kf.keep o (fun hh => ho (List.mem_append_left _ hh)) hl
    · rcases List.mem_append.mp ho with ho | ho
      · exact (kf.fps o (w2 o ho)).imp (List.mem_append_left _) id
      · exact .inl (List.mem_append_right _ ho)
theorem CallW.mono {f : FuncId} {l : List AV} {HF : List HI} {K K' : AV → List HI → Prop} (h : CallW C f l HF K) (k : ∀ v H, K v H → K' v H) : CallW C f l HF K' := fun hh fp h1 h2 ρ w us hv H => by
  refine (h hh fp h1 h2 ρ w us hv H).mono ?_
  rintro u w' ⟨v, ρ', h', fp', HF', k1, k2, k3, k4, k5, k6⟩
  exact ⟨v, ρ', h', fp', HF', k1, k2, k3, k4, k5, k v HF' k6⟩
theorem CallW.take {f : FuncId} {l : List AV} {i : HI} {HF HR : List HI} {K : AV → List HI → Prop} (t : Take HF i HR) (h : CallW C f l (i :: HR) K) : CallW C f l HF K := fun hh fp h1 h2 ρ w us hv H => by
  obtain ⟨fp1, k1, k2⟩ := t.sat h1
  refine (h hh fp1 k1 h2 ρ w us hv H).mono ?_
  rintro u w' ⟨v, ρ', h', fp', HF', m1, m2, m3, m4, m5, m6⟩
  exact ⟨v, ρ', h', fp', HF', m1, m2, m3, m4, m5.left k2, m6⟩
end
end
end Go.Proofs.YtonojkcnencodaaDoor.BH

end
