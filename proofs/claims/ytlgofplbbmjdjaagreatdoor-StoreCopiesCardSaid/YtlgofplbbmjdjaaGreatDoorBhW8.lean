/-
  BH: walking by facts: copies, structs compared, rows of things that are turned.
-/
import Derived.Test.YtlgofplbbmjdjaaGreatDoorBhW7
namespace Go.Proofs.YtlgofplbbmjdjaaGreatDoor.BH
noncomputable section

/-! ### tables, rows of things, by a place -/
theorem tab_setP {n : Nat} {f : Nat → Bool} {i : Int} {b : Bool} (h : 0 ≤ i ∧ i < n) : over (tab n f) (0 + i.toNat * 1) [.bool b] = some (tab n fun j => if j = i.toNat then b else f j) := by
  rw [Nat.zero_add, Nat.mul_one]; exact tab_set (by omega)
theorem tab_getP {n : Nat} {f : Nat → Bool} {i : Int} (h : 0 ≤ i ∧ i < n) : (tab n f)[0 + i.toNat * 1]? = some (.bool (f i.toNat)) := by
  rw [Nat.zero_add, Nat.mul_one]; exact tab_get (by omega)
theorem tab_getL {n : Nat} {f : Nat → Bool} {i : Int} (h : 0 ≤ i ∧ i < n) : (tab n f)[i.toNat * 1]? = some (.bool (f i.toNat)) := by
  rw [Nat.mul_one]; exact tab_get (by omega)
theorem repl_len (n : Nat) (z : List AV) : (repl n z).length = n * z.length := by
  induction n with
  | zero => simp [show repl 0 z = [] from rfl]
  | succ n ih =>
    show (app z (repl n z)).length = _
    rw [app_eq, List.length_append, ih, Nat.add_mul]; omega
section
variable {α : Type} {enc : α → List AV} {s : Nat} {l : List α} {k : Nat} {x y : α}
theorem flat_split (hk : k < l.length) : l.flatMap enc = (l.take k).flatMap enc ++ enc l[k] ++ (l.drop (k + 1)).flatMap enc := by
  conv => lhs; rw [← List.take_append_drop k l, List.flatMap_append]
  rw [List.drop_eq_getElem_cons hk, List.flatMap_cons, List.append_assoc]
theorem overHere_post {c : List AV} : ∀ {vs b c' : List AV}, overHere vs b = some c' → overHere vs (b ++ c) = some (c' ++ c)
  | [], b, c', h => by
    replace h : some b = some c' := h
    cases h; rfl
  | v :: t, [], c', h => by
    replace h : (none : Option (List AV)) = some c' := h
    cases h
  | v :: t, b0 :: br, c', h => by
    replace h : (bnd (overHere t br) fun l => some (v :: l)) = some c' := h
    obtain ⟨l, h1, h2⟩ := bnd_eq_some.mp h
    cases h2
    show (bnd (overHere t (br ++ c)) fun l => some (v :: l)) = _
    rw [overHere_post h1]; rfl
theorem over_none : ∀ (c : List AV) (o : Nat), over c o [] = some c
  | _, 0 => rfl
  | [], _ + 1 => rfl
  | a :: r, o + 1 => by
    show (bnd (over r o []) fun l => some (a :: l)) = _
    rw [over_none r o]; rfl
theorem over_mid {a b c vs c' : List AV} {o : Nat} (h : over b o vs = some c') : over (a ++ b ++ c) (a.length + o) vs = some (a ++ c' ++ c) := by
  have hpre : ∀ (a r : List AV) (o : Nat), over (a ++ r) (a.length + o) vs = bnd (over r o vs) fun l => some (a ++ l) := by
    intro a
    induction a with
    | nil => intro r o; simp; cases over r o vs <;> rfl
    | cons v a ih =>
      intro r o
      rw [List.cons_append, List.length_cons, show a.length + 1 + o = (a.length + o) + 1 by omega]
      show (bnd (over (a ++ r) (a.length + o) vs) fun l => some (v :: l)) = _
      rw [ih]
      cases over r o vs <;> rfl
  rw [List.append_assoc, hpre]
  have hpost : ∀ (o : Nat) (b c' : List AV), over b o vs = some c' → over (b ++ c) o vs = some (c' ++ c) := by
    intro o
    induction o with
    | zero => intro b c' h; exact overHere_post h
    | succ o ih =>
      intro b c' h
      cases b with
      | nil =>
        replace h : overHere vs [] = some c' := h
        cases vs with
        | nil => cases h; exact over_none c (o + 1)
        | cons v t =>
          replace h : (none : Option (List AV)) = some c' := h
          cases h
      | cons b0 br =>
        replace h : (bnd (over br o vs) fun l => some (b0 :: l)) = some c' := h
        obtain ⟨l, h1, h2⟩ := bnd_eq_some.mp h
        cases h2
        show (bnd (over (br ++ c) o vs) fun l => some (b0 :: l)) = _
        rw [ih _ _ h1]; rfl
  rw [hpost _ _ _ h, bnd_some, List.append_assoc]
/-- One thing of a row turned (in part, or whole). -/
theorem flat_set {off : Nat} {vs : List AV} (hs : ∀ x, (enc x).length = s) (hx : l[k]? = some x) (hv : over (enc x) off vs = some (enc y)) : over (l.flatMap enc) (k * s + off) vs = some ((l.set k y).flatMap enc) := by
  have hk := (List.getElem?_eq_some_iff.mp hx).1
  have hxk : l[k] = x := (List.getElem?_eq_some_iff.mp hx).2
  have hk' : k < (l.set k y).length := by simpa using hk
  rw [flat_split hk, flat_split hk']
  have e1 : ((l.take k).flatMap enc).length = k * s := by rw [flat_length hs, List.length_take, Nat.min_eq_left (by omega)]
  rw [← e1, over_mid (by rw [hxk]; exact hv)]
  rw [List.getElem_set_self, List.take_set_of_le (Nat.le_refl _), List.drop_set_of_lt (by omega)]
theorem flat_setP {off : Nat} {vs : List AV} {i : Int} (hs : ∀ x, (enc x).length = s) (hx : l[k]? = some x) (hi : i = (k : Nat)) (hv : over (enc x) off vs = some (enc y)) : over (l.flatMap enc) (0 + i.toNat * s + off) vs = some ((l.set k y).flatMap enc) := by
  subst hi; rw [Nat.zero_add, Int.toNat_natCast]; exact flat_set hs hx hv
theorem flat_setP0 {vs : List AV} {i : Int} (hs : ∀ x, (enc x).length = s) (hx : l[k]? = some x) (hi : i = (k : Nat)) (hv : over (enc x) 0 vs = some (enc y)) : over (l.flatMap enc) (0 + i.toNat * s) vs = some ((l.set k y).flatMap enc) := flat_setP (off := 0) hs hx hi hv
theorem flat_getP {off : Nat} {v : AV} {i : Int} (hs : ∀ x, (enc x).length = s) (hx : l[k]? = some x) (hi : i = (k : Nat)) (ho : off < s) (hv : (enc x)[off]? = some v) : (l.flatMap enc)[0 + i.toNat * s + off]? = some v := by
  subst hi; rw [Nat.zero_add, Int.toNat_natCast, flat_get hs hx ho, hv]
theorem flat_getP0 {v : AV} {i : Int} (hs : ∀ x, (enc x).length = s) (hx : l[k]? = some x) (hi : i = (k : Nat)) (ho : 0 < s) (hv : (enc x)[0]? = some v) : (l.flatMap enc)[0 + i.toNat * s]? = some v := flat_getP (off := 0) hs hx hi ho hv
theorem flat_aggsP {i : Int} (hs : ∀ x, (enc x).length = s) (hx : l[k]? = some x) (hi : i = (k : Nat)) : slots (l.flatMap enc) (0 + i.toNat * s) s = some (enc x) := by subst hi; rw [Nat.zero_add, Int.toNat_natCast]; exact flat_slots hs hx
theorem flat_getI {off : Nat} {v : AV} {i : Int} (hs : ∀ x, (enc x).length = s) (hx : l[k]? = some x) (hi : i = (k : Nat)) (ho : off < s) (hv : (enc x)[off]? = some v) : (l.flatMap enc)[i.toNat * s + off]? = some v := by
  subst hi; rw [Int.toNat_natCast, flat_get hs hx ho, hv]
theorem flat_getI0 {v : AV} {i : Int} (hs : ∀ x, (enc x).length = s) (hx : l[k]? = some x) (hi : i = (k : Nat)) (ho : 0 < s) (hv : (enc x)[0]? = some v) : (l.flatMap enc)[i.toNat * s]? = some v := flat_getI (off := 0) hs hx hi ho hv
theorem flat_aggsI {i : Int} (hs : ∀ x, (enc x).length = s) (hx : l[k]? = some x) (hi : i = (k : Nat)) : slots (l.flatMap enc) (i.toNat * s) s = some (enc x) := by subst hi; rw [Int.toNat_natCast]; exact flat_slots hs hx
end

/-! ### tables told in other words -/
section
variable {C : Ctx} {n : Nat} {all r : List Oper} {E : Fs} {HF HR : List HI}
theorem WC.retab {c : Code} {Q : Post} {o e s m : Nat} {b : Bool} {f : Nat → Bool} (g : Nat → Bool) (t : Take HF (.obj o (.row e s b (tab m f))) HR) (h : ∀ i, i < m → f i = g i) (k : WC C n c E (.obj o (.row e s b (tab m g)) :: HR) Q) : WC C n c E HF Q := by
  rw [← tab_congr h] at k; exact k.take t
theorem WS.retab {Q : Fs → List HI → Prop} {o e s m : Nat} {b : Bool} {f : Nat → Bool} (g : Nat → Bool) (t : Take HF (.obj o (.row e s b (tab m f))) HR) (h : ∀ i, i < m → f i = g i) (k : WS C n all r E (.obj o (.row e s b (tab m g)) :: HR) Q) : WS C n all r E HF Q := by
  rw [← tab_congr h] at k; exact k.take t
theorem WR.take {ops : Array Oper} {dn : Nat} {Q : Fs → List HI → Prop} {i : HI} (t : Take HF i HR) (h : WR C n ops dn E (i :: HR) Q) : WR C n ops dn E HF Q :=
  WR.pre fun e hh fp h1 h2 h3 => let ⟨fp1, k1, k2⟩ := t.sat h2; ⟨fp1, E, _, h1, k1, fun o ho => (k2 o).mp ho, h⟩
theorem WR.retab {ops : Array Oper} {dn : Nat} {Q : Fs → List HI → Prop} {o e s m : Nat} {b : Bool} {f : Nat → Bool} (g : Nat → Bool) (t : Take HF (.obj o (.row e s b (tab m f))) HR) (h : ∀ i, i < m → f i = g i) (k : WR C n ops dn E (.obj o (.row e s b (tab m g)) :: HR) Q) : WR C n ops dn E HF Q := by
  rw [← tab_congr h] at k; exact k.take t
theorem WR.recell {ops : Array Oper} {dn : Nat} {Q : Fs → List HI → Prop} {o e s : Nat} {b : Bool} {cs : List AV} (cs' : List AV) (t : Take HF (.obj o (.row e s b cs)) HR) (h : cs = cs') (k : WR C n ops dn E (.obj o (.row e s b cs') :: HR) Q) : WR C n ops dn E HF Q := by
  subst h; exact k.take t
theorem WR.reown {ops : Array Oper} {dn : Nat} {Q : Fs → List HI → Prop} {v : AV} {e s m : Nat} {cs : List AV} (cs' : List AV) (m' : Nat) (t : Take HF (.own v e s cs m) HR) (h : cs = cs') (hm : m = m') (k : WR C n ops dn E (.own v e s cs' m' :: HR) Q) : WR C n ops dn E HF Q := by
  subst h; subst hm; exact k.take t
/-- A row told in other words. -/
theorem WC.recell {c : Code} {Q : Post} {o e s : Nat} {b : Bool} {cs : List AV} (cs' : List AV) (t : Take HF (.obj o (.row e s b cs)) HR) (h : cs = cs') (k : WC C n c E (.obj o (.row e s b cs') :: HR) Q) : WC C n c E HF Q := by
  subst h; exact k.take t
theorem WS.recell {Q : Fs → List HI → Prop} {o e s : Nat} {b : Bool} {cs : List AV} (cs' : List AV) (t : Take HF (.obj o (.row e s b cs)) HR) (h : cs = cs') (k : WS C n all r E (.obj o (.row e s b cs') :: HR) Q) : WS C n all r E HF Q := by
  subst h; exact k.take t
theorem WC.reown {c : Code} {Q : Post} {v : AV} {e s m : Nat} {cs : List AV} (cs' : List AV) (m' : Nat) (t : Take HF (.own v e s cs m) HR) (h : cs = cs') (hm : m = m') (k : WC C n c E (.own v e s cs' m' :: HR) Q) : WC C n c E HF Q := by
  subst h; subst hm; exact k.take t
theorem WS.reown {Q : Fs → List HI → Prop} {v : AV} {e s m : Nat} {cs : List AV} (cs' : List AV) (m' : Nat) (t : Take HF (.own v e s cs m) HR) (h : cs = cs') (hm : m = m') (k : WS C n all r E (.own v e s cs' m' :: HR) Q) : WS C n all r E HF Q := by
  subst h; subst hm; exact k.take t
end

section
variable {C : Ctx} {n : Nat} {E : Fs} {HF : List HI} {Q : Post}
theorem wc_condT {c : Operand} {a b : Code} (hc : ev E c = some (.bool true)) (ha : WC C n a E HF Q) : WC C n (.cond c a b) E HF Q := wc_cond hc (fun _ => ha) (fun h => by cases h)
theorem wc_condF {c : Operand} {a b : Code} (hc : ev E c = some (.bool false)) (hb : WC C n b E HF Q) : WC C n (.cond c a b) E HF Q := wc_cond hc (fun h => by cases h) (fun _ => hb)
end

section
variable {C : Ctx} {n d : Nat} {all r : List Oper} {ty : TypeId} {pos : String} {after : Array Edge} {E : Fs} {HF : List HI} {Q : Fs → List HI → Prop}
/-- An operation that hangs on one that did not run. -/
theorem ws_offU {op : Op} {j g : Nat} {want : Bool} (hj : (all[j]?).bind Oper.dst = some g) (hl : lk E g = some .undef) (hd : Nat.blt d n = true) (h : WS C n all r ((d, .undef) :: E) HF Q) :
    WS C n all (⟨some d, op, ty, pos, after, some (j, want)⟩ :: r) E HF Q := by
  intro e hh fp k1 k2 k3
  have hg := guardOn_undef (o := ⟨some d, op, ty, pos, after, some (j, want)⟩) rfl hj hl k1
  exact ⟨fun hf => (by rw [hg] at hf; cases hf), fun _ => ⟨fp, _, _, k1.put d .undef hd, k2, fun _ h => h, h⟩⟩
end
/-- A struct's fields. -/
def fieldsOf (P : Program) (t : TypeId) : Array Field := match undOf P t with
  | some (.struct fs) => fs
  | _ => #[]

/-! ### copies -/
section
variable {C : Ctx} {n d : Nat} {all r : List Oper} {ty : TypeId} {pos : String} {after : Array Edge} {E : Fs} {HF HR : List HI} {Q : Fs → List HI → Prop}
end
end
end Go.Proofs.YtlgofplbbmjdjaaGreatDoor.BH
