/-
  BH: walking by facts: copies, structs compared, rows of things that are turned.
-/
import Derived.Test.YtonojkcnencodaaDoorBhW7
section
namespace Go.Proofs.YtonojkcnencodaaDoor.BH
noncomputable section

/-! ### tables, rows of things, by a place -/
theorem tab_setP {n : Nat} {f : Nat → Bool} {i : Int} {b : Bool} (h : 0 ≤ i ∧ i < n) : over (tab n f) (0 + i.toNat * 1) [.bool b] = some (tab n fun j => if j = i.toNat then b else f j) := by
  rw [Nat.zero_add, Nat.mul_one]; exact tab_set (by omega)
theorem tab_getP {n : Nat} {f : Nat → Bool} {i : Int} (h : 0 ≤ i ∧ i < n) : (tab n f)[0 + i.toNat * 1]? = some (.bool (f i.toNat)) := by
  rw [Nat.zero_add, Nat.mul_one]; exact tab_get (by omega)
theorem tab_getL {n : Nat} {f : Nat → Bool} {i : Int} (h : 0 ≤ i ∧ i < n) : (tab n f)[i.toNat * 1]? = some (.bool (f i.toNat)) := by
  rw [Nat.mul_one]; exact tab_get (by omega)
section
variable {α : Type} {enc : α → List AV} {s : Nat} {l : List α} {k : Nat} {x y : α}
theorem flat_split (hk : k < l.length) : l.flatMap enc = (l.take k).flatMap enc ++ enc l[k] ++ (l.drop (k + 1)).flatMap enc := by
  conv => lhs; rw [← List.take_append_drop k l, List.flatMap_append]
  rw [List.drop_eq_getElem_cons hk, List.flatMap_cons, List.append_assoc]
theorem overHere_post {c : List AV} : ∀ {vs b c' : List AV}, overHere vs b = some c' → overHere vs (b ++ c) = some (c' ++ c)
  | [], b, c', h => by
    replace h : some b = some c' := h
    cases h; rfl
  | v :: t, [], c', h => by
    replace h : (none : Option (List AV)) = some c' := h
    cases h
  | v :: t, b0 :: br, c', h => by
    replace h : (bnd (overHere t br) fun l => some (v :: l)) = some c' := h
    obtain ⟨l, h1, h2⟩ := bnd_eq_some.mp h
    cases h2
    show (bnd (overHere t (br ++ c)) fun l => some (v :: l)) = _
    rw [overHere_post h1]; rfl
theorem over_none : ∀ (c : List AV) (o : Nat), over c o [] = some c
  | _, 0 => rfl
  | [], _ + 1 => rfl
  | a :: r, o + 1 => by
    show (bnd (over r o []) fun l => some (a :: l)) = _
    rw [over_none r o]; rfl
theorem over_mid {a b c vs c' : List AV} {o : Nat} (h : over b o vs = some c') : over (a ++ b ++ c) (a.length + o) vs = some (a ++ c' ++ c) := by
  have hpre : ∀ (a r : List AV) (o : Nat), over (a ++ r) (a.length + o) vs = bnd (over r o vs) fun l => some (a ++ l) := by
    intro a
    induction a with
    | nil => intro r o; simp; cases over r o vs <;> rfl
    | cons v a ih =>
      intro r o
      rw [List.cons_append, List.length_cons, show a.length + 1 + o = (a.length + o) + 1 by omega]
      show (bnd (over (a ++ r) (a.length + o) vs) fun l => some (v :: l)) = _
      rw [ih]
      cases over r o vs <;> rfl
  rw [List.append_assoc, hpre]
  have hpost : ∀ (o : Nat) (b c' : List AV), over b o vs = some c' → over (b ++ c) o vs = some (c' ++ c) := by
    intro o
    induction o with
    | zero => intro b c' h; exact overHere_post h
    | succ o ih =>
      intro b c' h
      cases b with
      | nil =>
        replace h : overHere vs [] = some c' := h
        cases vs with
        | nil => cases h; exact over_none c (o + 1)
        | cons v t =>
          replace h : (none : Option (List AV)) = some c' := h
          cases h
      | cons b0 br =>
        replace h : (bnd (over br o vs) fun l => some (b0 :: l)) = some c' := h
        obtain ⟨l, h1, h2⟩ := bnd_eq_some.mp h
        cases h2
        show (bnd (over (br ++ c) o vs) fun l => some (b0 :: l)) = _
        rw [ih _ _ h1]; rfl
  rw [hpost _ _ _ h, bnd_some, List.append_assoc]
/-- One thing of a row turned (in part, or whole). -/
theorem flat_set {off : Nat} {vs : List AV} (hs : ∀ x, (enc x).length = s) (hx : l[k]? = some x) (hv : over (enc x) off vs = some (enc y)) : over (l.flatMap enc) (k * s + off) vs = some ((l.set k y).flatMap enc) := by
  have hk := (List.getElem?_eq_some_iff.mp hx).1
  have hxk : l[k] = x := (List.getElem?_eq_some_iff.mp hx).2
  have hk' : k < (l.set k y).length := by simpa using hk
  rw [flat_split hk, flat_split hk']
  have e1 : ((l.take k).flatMap enc).length = k * s := by rw [flat_length hs, List.length_take, Nat.min_eq_left (by omega)]
  rw [← e1, over_mid (by rw [hxk]; exact hv)]
  rw [List.getElem_set_self, List.take_set_of_le (Nat.le_refl _), List.drop_set_of_lt (by omega)]
theorem flat_setP {off : Nat} {vs : List AV} {i : Int} (hs : ∀ x, (enc x).length = s) (hx : l[k]? = some x) (hi : i = (k : Nat)) (hv : over (enc x) off vs = some (enc y)) : over (l.flatMap enc) (0 + i.toNat * s + off) vs = some ((l.set k y).flatMap enc) := by
  subst hi; rw [Nat.zero_add, Int.toNat_natCast]; exact flat_set hs hx hv
theorem flat_getP {off : Nat} {v : AV} {i : Int} (hs : ∀ x, (enc x).length = s) (hx : l[k]? = some x) (hi : i = (k : Nat)) (ho : off < s) (hv : (enc x)[off]? = some v) : (l.flatMap enc)[0 + i.toNat * s + off]? = some v := by
  subst hi; rw [Nat.zero_add, Int.toNat_natCast, flat_get hs hx ho, hv]
theorem flat_getP0 {v : AV} {i : Int} (hs : ∀ x, (enc x).length = s) (hx : l[k]? = some x) (hi : i = (k : Nat)) (ho : 0 < s) (hv : (enc x)[0]? = some v) : (l.flatMap enc)[0 + i.toNat * s]? = some v := flat_getP (off := 0) hs hx hi ho hv
theorem flat_aggsP {i : Int} (hs : ∀ x, (enc x).length = s) (hx : l[k]? = some x) (hi : i = (k : Nat)) : slots (l.flatMap enc) (0 + i.toNat * s) s = some (enc x) := by subst hi; rw [Nat.zero_add, Int.toNat_natCast]; exact flat_slots hs hx
theorem flat_getI {off : Nat} {v : AV} {i : Int} (hs : ∀ x, (enc x).length = s) (hx : l[k]? = some x) (hi : i = (k : Nat)) (ho : off < s) (hv : (enc x)[off]? = some v) : (l.flatMap enc)[i.toNat * s + off]? = some v := by
  subst hi; rw [Int.toNat_natCast, flat_get hs hx ho, hv]
theorem flat_getI0 {v : AV} {i : Int} (hs : ∀ x, (enc x).length = s) (hx : l[k]? = some x) (hi : i = (k : Nat)) (ho : 0 < s) (hv : (enc x)[0]? = some v) : (l.flatMap enc)[i.toNat * s]? = some v := flat_getI (off := 0) hs hx hi ho hv
theorem flat_aggsI {i : Int} (hs : ∀ x, (enc x).length = s) (hx : l[k]? = some x) (hi : i = (k : Nat)) : slots (l.flatMap enc) (i.toNat * s) s = some (enc x) := by subst hi; rw [Int.toNat_natCast]; exact flat_slots hs hx
end

/-! ### tables told in other words -/
section
variable {C : Ctx} {n : Nat} {all r : List Oper} {E : Fs} {HF HR : List HI}
theorem WC.retab {c : Code} {Q : Post} {o e s m : Nat} {b : Bool} {f : Nat → Bool} (g : Nat → Bool) (t : Take HF (.obj o (.row e s b (tab m f))) HR) (h : ∀ i, i < m → f i = g i) (k : WC C n c E (.obj o (.row e s b (tab m g)) :: HR) Q) : WC C n c E HF Q := by
  rw [← tab_congr h] at k; exact k.take t
theorem WS.retab {Q : Fs → List HI → Prop} {o e s m : Nat} {b : Bool} {f : Nat → Bool} (g : Nat → Bool) (t : Take HF (.obj o (.row e s b (tab m f))) HR) (h : ∀ i, i < m → f i = g i) (k : WS C n all r E (.obj o (.row e s b (tab m g)) :: HR) Q) : WS C n all r E HF Q := by
  rw [← tab_congr h] at k; exact k.take t
theorem WR.take {ops : Array Oper} {dn : Nat} {Q : Fs → List HI → Prop} {i : HI} (t : Take HF i HR) (h : WR C n ops dn E (i :: HR) Q) : WR C n ops dn E HF Q :=
  WR.pre fun e hh fp h1 h2 h3 => let ⟨fp1, k1, k2⟩ := t.sat h2; ⟨fp1, E, _, h1, k1, fun o ho => (k2 o).mp ho, h⟩
theorem WR.retab {ops : Array Oper} {dn : Nat} {Q : Fs → List HI → Prop} {o e s m : Nat} {b : Bool} {f : Nat → Bool} (g : Nat → Bool) (t : Take HF (.obj o (.row e s b (tab m f))) HR) (h : ∀ i, i < m → f i = g i) (k : WR C n ops dn E (.obj o (.row e s b (tab m g)) :: HR) Q) : WR C n ops dn E HF Q := by
  rw [← tab_congr h] at k; exact k.take t
theorem WR.recell {ops : Array Oper} {dn : Nat} {Q : Fs → List HI → Prop} {o e s : Nat} {b : Bool} {cs : List AV} (cs' : List AV) (t : Take HF (.obj o (.row e s b cs)) HR) (h : cs = cs') (k : WR C n ops dn E (.obj o (.row e s b cs') :: HR) Q) : WR C n ops dn E HF Q := by
  subst h; exact k.take t
theorem WR.reown {ops : Array Oper} {dn : Nat} {Q : Fs → List HI → Prop} {v : AV} {e s m : Nat} {cs : List AV} (cs' : List AV) (m' : Nat) (t : Take HF (.own v e s cs m) HR) (h : cs = cs') (hm : m = m') (k : WR C n ops dn E (.own v e s cs' m' :: HR) Q) : WR C n ops dn E HF Q := by
  subst h; subst hm; exact k.take t
/-- A row told in other words. -/
theorem WC.recell {c : Code} {Q : Post} {o e s : Nat} {b : Bool} {cs : List AV} (cs' : List AV) (t : Take HF (.obj o (.row e s b cs)) HR) (h : cs = cs') (k : WC C n c E (.obj o (.row e s b cs') :: HR) Q) : WC C n c E HF Q := by
  subst h; exact k.take t
theorem WS.recell {Q : Fs → List HI → Prop} {o e s : Nat} {b : Bool} {cs : List AV} (cs' : List AV) (t : Take HF (.obj o (.row e s b cs)) HR) (h : cs = cs') (k : WS C n all r E (.obj o (.row e s b cs') :: HR) Q) : WS C n all r E HF Q := by
  subst h; exact k.take t
theorem WC.reown {c : Code} {Q : Post} {v : AV} {e s m : Nat} {cs : List AV} (cs' : List AV) (m' : Nat) (t : Take HF (.own v e s cs m) HR) (h : cs = cs') (hm : m = m') (k : WC C n c E (.own v e s cs' m' :: HR) Q) : WC C n c E HF Q := by
  subst h; subst hm; exact k.take t
theorem WS.reown {Q : Fs → List HI → Prop} {v : AV} {e s m : Nat} {cs : List AV} (cs' : List AV) (m' : Nat) (t : Take HF (.own v e s cs m) HR) (h : cs = cs') (hm : m = m') (k : WS C n all r E (.own v e s cs' m' :: HR) Q) : WS C n all r E HF Q := by
  subst h; subst hm; exact k.take t
end

section
variable {C : Ctx} {n : Nat} {E : Fs} {HF : List HI} {Q : Post}
theorem wc_condT {c : Operand} {a b : Code} (hc : ev E c = some (.bool true)) (ha : WC C n a E HF Q) : WC C n (.cond c a b) E HF Q := wc_cond hc (fun _ => ha) (fun h => by cases h)
theorem wc_condF {c : Operand} {a b : Code} (hc : ev E c = some (.bool false)) (hb : WC C n b E HF Q) : WC C n (.cond c a b) E HF Q := wc_cond hc (fun h => by cases h) (fun _ => hb)
end

section
variable {C : Ctx} {n d : Nat} {all r : List Oper} {ty : TypeId} {pos : String} {after : Array Edge} {E : Fs} {HF : List HI} {Q : Fs → List HI → Prop}
end
/-- A struct's fields. -/
def fieldsOf (P : Program) (t : TypeId) : Array Field := match undOf P t with
  | some (.struct fs) => fs
  | _ => #[]

/-! ### copies -/
section
variable {C : Ctx} {n d : Nat} {all r : List Oper} {ty : TypeId} {pos : String} {after : Array Edge} {E : Fs} {HF HR : List HI} {Q : Fs → List HI → Prop}
end
end
end Go.Proofs.YtonojkcnencodaaDoor.BH

end
section
namespace Go.Proofs.YtonojkcnencodaaDoor.BH
noncomputable section
section
variable {C : Ctx} {n d : Nat} {all r : List Oper} {ty : TypeId} {pos : String} {after : Array Edge} {E : Fs} {HF HR : List HI} {Q : Fs → List HI → Prop}

theorem mapAt_of {h : AHeap} {o : Nat} {es : List AEnt} {c : Nat} (hg : h.get o = some (.map es c)) : mapAt h o = some (es, c) := by unfold mapAt; rw [hg]

theorem w_makeMap {t : TypeId} (hd : Nat.blt d n = true) (hk : ∀ o, WS C n all r ((d, .map (some o)) :: E) (.obj o (.map [] 0) :: HF) Q) : WS C n all (⟨some d, .makeMap t none, ty, pos, after, none⟩ :: r) E HF Q :=
  ws_stepX rfl fun e h fp h1 h2 h3 => by
    obtain ⟨k1, k2⟩ := sat_push h2 h3 (.map [] 0)
    exact ⟨_, _, _, _, _, ⟨0, fun m _ => rfl⟩, h1.put d _ hd, k1, h3.push _, k2, hk h.next⟩

/-- A key set: where it stands already, or behind all. -/
def updE (K : KeyF) (es : List AEnt) (c : Nat) (k v : AV) : Option (List AEnt × Nat) :=
  bnd (findV K.eq k es 0) fun f => ocase f (some (addEnt es ⟨k, v, c⟩, c + 1)) fun e => cnd (sameKey e.2.key k) (some (setEnt es e.1 ⟨k, v, e.2.born⟩, c)) none
theorem w_mapUpd {t kt et : TypeId} {x y z : Operand} {o c c' : Nat} {es es' : List AEnt} {k v : AV} {d : Option Tmp} (hu : undOf C.P t = some (.map kt et)) (hx : ev E x = some (.map (some o))) (hy : ev E y = some k) (hz : ev E z = some v) (hd : d = none)
    (ht : Take HF (.obj o (.map es c)) HR) (hok : (keyF C.P kt).ok k = true) (hr : updE (keyF C.P kt) es c k v = some (es', c')) (hk : WS C n all r E (.obj o (.map es' c') :: HR) Q) :
    WS C n all (⟨d, .mapUpdate t x y z, ty, pos, after, none⟩ :: r) E HF Q := by
  subst hd
  refine ws_step rfl (fun e' h fp h1 h2 h3 => ?_) hk
  obtain ⟨fp1, k1, k2⟩ := ht.sat h2
  obtain ⟨m1, m2, m3⟩ := sat_set (x' := .map es' c') k1 h3
  refine ⟨.undef, _, fp1, ⟨0, fun m _ => ?_⟩, h1, m1, m2, m3.left k2⟩
  show (bnd (opv e' x) fun a => bnd (opv e' y) fun b => bnd (opv e' z) fun q => bnd ((mapUpdateF C.P t).run h a b q) fun h' => some (AV.undef, h')) = _
  rw [ev_opv h1 hx, ev_opv h1 hy, ev_opv h1 hz]
  unfold mapUpdateF
  simp only [hu, bnd_some, hok, cnd_true]
  show (bnd (bnd (mapAt h o) fun x => bnd (findV (keyF C.P kt).eq k x.1 0) fun f => ocase f _ _) fun h' => some (AV.undef, h')) = _
  rw [mapAt_of (ht.obj h2).1, bnd_some]
  unfold updE at hr
  obtain ⟨f, hf, hr⟩ := bnd_eq_some.mp hr
  simp only [hf, bnd_some]
  cases f with
  | none => cases hr; rfl
  | some q =>
    replace hr : cnd (sameKey q.2.key k) (some (setEnt es q.1 ⟨k, v, q.2.born⟩, c)) none = some (es', c') := hr
    rw [cnd_eq] at hr
    split at hr
    · rename_i hs
      cases hr
      simp only [ocase_some, hs, cnd_true, bnd_some]
    · cases hr

theorem w_lookup {t kt et : TypeId} {x y : Operand} {o c : Nat} {es : List AEnt} {k z : AV} {f : Option (Nat × AEnt)} {ok : Bool} (hu : undOf C.P t = some (.map kt et)) (hz : zeroOf C.P et = some z) (hd : Nat.blt d n = true) (hx : ev E x = some (.map (some o))) (hy : ev E y = some k)
    (ht : Take HF (.obj o (.map es c)) HR) (hok : (keyF C.P kt).ok k = true) (hf : findV (keyF C.P kt).eq k es 0 = some f) (hk : WS C n all r ((d, ocase f (okV ok z false) fun e => okV ok e.2.val true) :: E) HF Q) :
    WS C n all (⟨some d, .lookup t x y ok, ty, pos, after, none⟩ :: r) E HF Q :=
  ws_step rfl (fun e h fp h1 h2 h3 => by
    refine ⟨_, h, fp, ⟨0, fun m _ => ?_⟩, h1.put d _ hd, h2, h3, .refl _ _⟩
    show (bnd (opv e x) fun a => bnd (opv e y) fun b => bnd ((lookupF C.P t ok).run h a b) fun v => some (v, h)) = _
    rw [ev_opv h1 hx, ev_opv h1 hy]
    unfold lookupF
    simp only [hu, hz, bnd_some, hok, cnd_true]
    show (bnd (bnd (bnd (mapAt h o) fun x => some x.1) fun es => bnd (findV (keyF C.P kt).eq k es 0) fun r => some (ocase r (okV ok z false) fun e => okV ok e.2.val true)) fun v => some (v, h)) = _
    rw [mapAt_of (ht.obj h2).1]
    simp only [bnd_some, hf]) hk
theorem w_lenM {t kt et : TypeId} {ts : List TypeId} {tys : Array TypeId} {x : Operand} {o c : Nat} {es : List AEnt} (htys : tys.toList = t :: ts) (hu : undOf C.P t = some (.map kt et)) (hd : Nat.blt d n = true) (hx : ev E x = some (.map (some o))) (ht : Take HF (.obj o (.map es c)) HR)
    (hk : WS C n all r ((d, .int .i64 es.length) :: E) HF Q) : WS C n all (⟨some d, .call ⟨.builtin .len, #[x], tys⟩, ty, pos, after, none⟩ :: r) E HF Q :=
  ws_step rfl (fun ee h fp h1 h2 h3 => by
    refine ⟨.int .i64 es.length, h, fp, ⟨0, fun q _ => ?_⟩, h1.put d _ hd, h2, h3, .refl _ _⟩
    show (bnd (opvs ee [x]) fun l => (builtR (lenF C.P tys.toList)).run h l) = _
    rw [show opvs ee [x] = some [.map (some o)] from evs_opvs h1 (by show (bnd (ev E x) fun a => bnd (some []) fun l => some (a :: l)) = _; rw [hx]; rfl)]
    show (bnd ((lenF C.P tys.toList).run h (.map (some o))) fun v => some (v, h)) = _
    rw [htys]
    unfold lenF; simp only [hu]
    show (bnd (bnd (mapAt h o) fun m => some (AV.int .i64 (.ofNat (lenA m.1)))) fun v => some (v, h)) = _
    rw [mapAt_of (ht.obj h2).1]
    simp only [bnd_some, lenA_eq]; rfl) hk
end

/-! ### maps of whole numbers, each with the same value -/
def entsI (ik : IntKind) (v : AV) : List Int → Nat → List AEnt
  | [], _ => []
  | x :: r, i => ⟨.int ik x, v, i⟩ :: entsI ik v r (i + 1)
def addI (d : List Int) (x : Int) : List Int := if x ∈ d then d else d ++ [x]
theorem set_same {α : Type} {l : List α} {i : Nat} {x : α} (h : l[i]? = some x) : l.set i x = l := by
  obtain ⟨h1, h2⟩ := List.getElem?_eq_some_iff.mp h
  rw [← h2]; exact List.set_getElem_self h1
/-! ### for good -/
section
variable {C : Ctx} {n d : Nat} {all r : List Oper} {ty : TypeId} {pos : String} {after : Array Edge} {E : Fs} {HF HR : List HI}
theorem frz_same {ρ : Rho} {h h' : AHeap} {w : World} {v v' : AV} {u : Value} {k : Nat} (hr : frz true k v h = some (v', h')) (hd : doneV v' = true) (hv : VR ρ v u) (H : HRel ρ h w) : ∃ ρ', Trans ρ h w ρ' h' w ∧ VR ρ' v' u := by
  obtain ⟨_, ρ', F, g⟩ := frz_ok (fun _ => false) w k v h v' h' ρ u hr hv H (Clear.no _ _ _)
  have he : Ext ((ρ'.call w fun _ => false).noview) ρ' := ⟨fun _ _ h => (by cases h), fun _ _ h => h, fun _ _ h => (by cases h)⟩
  exact ⟨ρ', F.t, VR.mono he _ _ (done_noview _ _ hd g)⟩
/-- What a slot holds is written no more: known as a list from here on. -/
theorem WC.freeze {c : Code} {Q : Post} {t : Nat} {v v' : AV} {HF' : List HI} (ht : Nat.blt t n = true) (hl : lk E t = some v) (hf : FrzR true deep HF v v' HF') (hd : doneV v' = true) (h : WC C n c ((t, v') :: E) HF' Q) : WC C n c E HF Q := fun e hh fp h1 h2 h3 ρ w a he H => by
  obtain ⟨h', fp', k1, k2, k3, k4⟩ := hf.run h2 h3
  have hv := nth_VR he t
  rw [h1.get t v hl] at hv
  obtain ⟨ρ', T, g⟩ := frz_same k1 hd hv H
  have he' : EnvR ρ' (putD e (some t) v') a := by
    have := VRL.set t (VRL.mono T.ext _ _ he) g
    show VRL ρ' (setN e t v') a.tmps.toList
    rw [setN_eq]
    have e1 : a.tmps.toList.set t (a.tmps.getD t Go.undef) = a.tmps.toList := by
      have hlt : t < a.tmps.toList.length := by
        rw [VRL.length he, h1.len]; simpa using ht
      apply set_same
      rw [List.getElem?_eq_getElem hlt]
      have hlt' : t < a.tmps.size := by simpa using hlt
      rw [Array.getD_eq_getD_getElem?, Array.getElem?_eq_getElem hlt']; rfl
    rw [e1] at this; exact this
  refine wp_mono (h _ h' fp' (h1.put t v' ht) k2 k3 ρ' w a he' T.rel) ?_
  rintro ex a' w' ⟨x, rfl, ρ2, e2, h2', fp2, E2, HF2, q1, q2, q3, q4, q5, q6, q7, q8⟩
  exact ⟨x, rfl, ρ2, e2, h2', fp2, E2, HF2, q1, q2, T.trans q3, q4, q5, q6, k4.trans q7, q8⟩

end
end
end Go.Proofs.YtonojkcnencodaaDoor.BH

end
