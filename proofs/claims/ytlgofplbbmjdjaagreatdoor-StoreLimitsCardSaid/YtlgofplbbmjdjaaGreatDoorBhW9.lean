/-
  BH: walking by facts: maps.
-/
import Derived.Test.YtlgofplbbmjdjaaGreatDoorBhW8
namespace Go.Proofs.YtlgofplbbmjdjaaGreatDoor.BH
noncomputable section
section
variable {C : Ctx} {n d : Nat} {all r : List Oper} {ty : TypeId} {pos : String} {after : Array Edge} {E : Fs} {HF HR : List HI} {Q : Fs → List HI → Prop}

theorem mapAt_of {h : AHeap} {o : Nat} {es : List AEnt} {c : Nat} (hg : h.get o = some (.map es c)) : mapAt h o = some (es, c) := by unfold mapAt; rw [hg]

theorem w_makeMap {t : TypeId} (hd : Nat.blt d n = true) (hk : ∀ o, WS C n all r ((d, .map (some o)) :: E) (.obj o (.map [] 0) :: HF) Q) : WS C n all (⟨some d, .makeMap t none, ty, pos, after, none⟩ :: r) E HF Q :=
  ws_stepX rfl fun e h fp h1 h2 h3 => by
    obtain ⟨k1, k2⟩ := sat_push h2 h3 (.map [] 0)
    exact ⟨_, _, _, _, _, ⟨0, fun m _ => rfl⟩, h1.put d _ hd, k1, h3.push _, k2, hk h.next⟩

/-- A key set: where it stands already, or behind all. -/
def updE (K : KeyF) (es : List AEnt) (c : Nat) (k v : AV) : Option (List AEnt × Nat) :=
  bnd (findV K.eq k es 0) fun f => ocase f (some (addEnt es ⟨k, v, c⟩, c + 1)) fun e => cnd (sameKey e.2.key k) (some (setEnt es e.1 ⟨k, v, e.2.born⟩, c)) none
theorem w_mapUpd {t kt et : TypeId} {x y z : Operand} {o c c' : Nat} {es es' : List AEnt} {k v : AV} {d : Option Tmp} (hu : undOf C.P t = some (.map kt et)) (hx : ev E x = some (.map (some o))) (hy : ev E y = some k) (hz : ev E z = some v) (hd : d = none)
    (ht : Take HF (.obj o (.map es c)) HR) (hok : (keyF C.P kt).ok k = true) (hr : updE (keyF C.P kt) es c k v = some (es', c')) (hk : WS C n all r E (.obj o (.map es' c') :: HR) Q) :
    WS C n all (⟨d, .mapUpdate t x y z, ty, pos, after, none⟩ :: r) E HF Q := by
  subst hd
  refine ws_step rfl (fun e' h fp h1 h2 h3 => ?_) hk
  obtain ⟨fp1, k1, k2⟩ := ht.sat h2
  obtain ⟨m1, m2, m3⟩ := sat_set (x' := .map es' c') k1 h3
  refine ⟨.undef, _, fp1, ⟨0, fun m _ => ?_⟩, h1, m1, m2, m3.left k2⟩
  show (bnd (opv e' x) fun a => bnd (opv e' y) fun b => bnd (opv e' z) fun q => bnd ((mapUpdateF C.P t).run h a b q) fun h' => some (AV.undef, h')) = _
  rw [ev_opv h1 hx, ev_opv h1 hy, ev_opv h1 hz]
  unfold mapUpdateF
  simp only [hu, bnd_some, hok, cnd_true]
  show (bnd (bnd (mapAt h o) fun x => bnd (findV (keyF C.P kt).eq k x.1 0) fun f => ocase f _ _) fun h' => some (AV.undef, h')) = _
  rw [mapAt_of (ht.obj h2).1, bnd_some]
  unfold updE at hr
  obtain ⟨f, hf, hr⟩ := bnd_eq_some.mp hr
  simp only [hf, bnd_some]
  cases f with
  | none => cases hr; rfl
  | some q =>
    replace hr : cnd (sameKey q.2.key k) (some (setEnt es q.1 ⟨k, v, q.2.born⟩, c)) none = some (es', c') := hr
    rw [cnd_eq] at hr
    split at hr
    · rename_i hs
      cases hr
      simp only [ocase_some, hs, cnd_true, bnd_some]
    · cases hr

theorem w_lookup {t kt et : TypeId} {x y : Operand} {o c : Nat} {es : List AEnt} {k z : AV} {f : Option (Nat × AEnt)} {ok : Bool} (hu : undOf C.P t = some (.map kt et)) (hz : zeroOf C.P et = some z) (hd : Nat.blt d n = true) (hx : ev E x = some (.map (some o))) (hy : ev E y = some k)
    (ht : Take HF (.obj o (.map es c)) HR) (hok : (keyF C.P kt).ok k = true) (hf : findV (keyF C.P kt).eq k es 0 = some f) (hk : WS C n all r ((d, ocase f (okV ok z false) fun e => okV ok e.2.val true) :: E) HF Q) :
    WS C n all (⟨some d, .lookup t x y ok, ty, pos, after, none⟩ :: r) E HF Q :=
  ws_step rfl (fun e h fp h1 h2 h3 => by
    refine ⟨_, h, fp, ⟨0, fun m _ => ?_⟩, h1.put d _ hd, h2, h3, .refl _ _⟩
    show (bnd (opv e x) fun a => bnd (opv e y) fun b => bnd ((lookupF C.P t ok).run h a b) fun v => some (v, h)) = _
    rw [ev_opv h1 hx, ev_opv h1 hy]
    unfold lookupF
    simp only [hu, hz, bnd_some, hok, cnd_true]
    show (bnd (bnd (bnd (mapAt h o) fun x => some x.1) fun es => bnd (findV (keyF C.P kt).eq k es 0) fun r => some (ocase r (okV ok z false) fun e => okV ok e.2.val true)) fun v => some (v, h)) = _
    rw [mapAt_of (ht.obj h2).1]
    simp only [bnd_some, hf]) hk
theorem w_lenM {t kt et : TypeId} {ts : List TypeId} {tys : Array TypeId} {x : Operand} {o c : Nat} {es : List AEnt} (htys : tys.toList = t :: ts) (hu : undOf C.P t = some (.map kt et)) (hd : Nat.blt d n = true) (hx : ev E x = some (.map (some o))) (ht : Take HF (.obj o (.map es c)) HR)
    (hk : WS C n all r ((d, .int .i64 es.length) :: E) HF Q) : WS C n all (⟨some d, .call ⟨.builtin .len, #[x], tys⟩, ty, pos, after, none⟩ :: r) E HF Q :=
  ws_step rfl (fun ee h fp h1 h2 h3 => by
    refine ⟨.int .i64 es.length, h, fp, ⟨0, fun q _ => ?_⟩, h1.put d _ hd, h2, h3, .refl _ _⟩
    show (bnd (opvs ee [x]) fun l => (builtR (lenF C.P tys.toList)).run h l) = _
    rw [show opvs ee [x] = some [.map (some o)] from evs_opvs h1 (by show (bnd (ev E x) fun a => bnd (some []) fun l => some (a :: l)) = _; rw [hx]; rfl)]
    show (bnd ((lenF C.P tys.toList).run h (.map (some o))) fun v => some (v, h)) = _
    rw [htys]
    unfold lenF; simp only [hu]
    show (bnd (bnd (mapAt h o) fun m => some (AV.int .i64 (.ofNat (lenA m.1)))) fun v => some (v, h)) = _
    rw [mapAt_of (ht.obj h2).1]
    simp only [bnd_some, lenA_eq]; rfl) hk
end

/-! ### maps of whole numbers, each with the same value -/
def entsI (ik : IntKind) (v : AV) : List Int → Nat → List AEnt
  | [], _ => []
  | x :: r, i => ⟨.int ik x, v, i⟩ :: entsI ik v r (i + 1)
def addI (d : List Int) (x : Int) : List Int := if x ∈ d then d else d ++ [x]
theorem entsI_length (ik : IntKind) (v : AV) : ∀ (d : List Int) (i : Nat), (entsI ik v d i).length = d.length
  | [], _ => rfl
  | _ :: r, i => by simp [entsI, entsI_length ik v r]
theorem entsI_snoc (ik : IntKind) (v : AV) (x : Int) : ∀ (d : List Int) (i : Nat), entsI ik v (d ++ [x]) i = entsI ik v d i ++ [⟨.int ik x, v, i + d.length⟩]
  | [], i => rfl
  | y :: r, i => by simp only [List.cons_append, entsI, entsI_snoc ik v x r, List.length_cons]; congr 4; omega
theorem keyF_int {P : Program} {kt : TypeId} {ik : IntKind} (hu : undOf P kt = some (.int ik)) : keyF P kt = ⟨fun _ => true, eqInt⟩ := by
  have : plainTy P kt = true := by unfold plainTy; rw [hu]
  unfold keyF
  rw [if_pos this]
  have : (eqF P 40 kt) = ⟨eqInt⟩ := by unfold eqF; rw [hu]
  rw [this]
theorem eqInt_dec (ik : IntKind) (x y : Int) : eqInt (.int ik x) (.int ik y) = some (decide (x = y)) := by
  show cnd (sameKind ik ik) (some (eqI x y)) none = _
  rw [kinds_same, eqI_eq]; rfl
theorem findI (ik : IntKind) (v : AV) (x : Int) : ∀ (d : List Int) (i j : Nat), ∃ f, findV eqInt (.int ik x) (entsI ik v d i) j = some f ∧ (x ∉ d → f = none) ∧ (x ∈ d → ∃ q, f = some (j + q, ⟨.int ik x, v, i + q⟩) ∧ d[q]? = some x)
  | [], i, j => ⟨none, rfl, fun _ => rfl, fun h => by cases h⟩
  | y :: r, i, j => by
    have e : findV eqInt (.int ik x) (entsI ik v (y :: r) i) j = bnd (eqInt (.int ik x) (.int ik y)) fun b => cnd b (some (some (j, ⟨.int ik y, v, i⟩))) (findV eqInt (.int ik x) (entsI ik v r (i + 1)) (j + 1)) := rfl
    rw [e, eqInt_dec, bnd_some]
    by_cases hxy : x = y
    · subst hxy
      exact ⟨some (j, ⟨.int ik x, v, i⟩), by simp, fun h => absurd List.mem_cons_self h, fun _ => ⟨0, rfl, rfl⟩⟩
    · obtain ⟨f, h1, h2, h3⟩ := findI ik v x r (i + 1) (j + 1)
      refine ⟨f, by simp [hxy, h1], fun h => h2 fun hh => h (List.mem_cons_of_mem _ hh), fun h => ?_⟩
      obtain ⟨q, e1, e2⟩ := h3 ((List.mem_cons.mp h).resolve_left hxy)
      exact ⟨q + 1, by rw [e1, show j + 1 + q = j + (q + 1) by omega, show i + 1 + q = i + (q + 1) by omega], by simpa using e2⟩
theorem set_same {α : Type} {l : List α} {i : Nat} {x : α} (h : l[i]? = some x) : l.set i x = l := by
  obtain ⟨h1, h2⟩ := List.getElem?_eq_some_iff.mp h
  rw [← h2]; exact List.set_getElem_self h1
theorem entsI_get (ik : IntKind) (v : AV) : ∀ (d : List Int) (i q : Nat) (x : Int), d[q]? = some x → (entsI ik v d i)[q]? = some ⟨.int ik x, v, i + q⟩
  | [], _, _, _, h => by simp at h
  | y :: r, i, 0, x, h => by simp at h; subst h; rfl
  | y :: r, i, q + 1, x, h => by
    have := entsI_get ik v r (i + 1) q x (by simpa using h)
    simp only [entsI, List.getElem?_cons_succ, this]; congr 2; omega
theorem updI {P : Program} {kt : TypeId} {ik : IntKind} (hu : undOf P kt = some (.int ik)) (v : AV) (d : List Int) (x : Int) : updE (keyF P kt) (entsI ik v d 0) d.length (.int ik x) v = some (entsI ik v (addI d x) 0, (addI d x).length) := by
  rw [keyF_int hu]
  obtain ⟨f, h1, h2, h3⟩ := findI ik v x d 0 0
  unfold updE addI
  simp only [h1, bnd_some]
  by_cases hx : x ∈ d
  · obtain ⟨q, rfl, e2⟩ := h3 hx
    rw [if_pos hx]
    have hk : sameKey (.int ik x) (.int ik x) = true := by
      show (sameKind ik ik && eqI x x) = true
      rw [kinds_same, eqI_eq]; simp
    simp only [ocase_some, hk, cnd_true, setEnt_eq, Nat.zero_add]
    rw [set_same (by simpa using entsI_get ik v d 0 q x e2)]
  · rw [h2 hx, if_neg hx, ocase_none, addEnt_eq, entsI_snoc]
    simp
theorem lookI {P : Program} {kt : TypeId} {ik : IntKind} (hu : undOf P kt = some (.int ik)) (d : List Int) (x : Int) : ∃ f, findV (keyF P kt).eq (.int ik x) (entsI ik (.bool true) d 0) 0 = some f ∧ (ocase f (okV false (.bool false) false) fun e => okV false e.2.val true) = .bool (decide (x ∈ d)) := by
  rw [keyF_int hu]
  obtain ⟨f, h1, h2, h3⟩ := findI ik (.bool true) x d 0 0
  refine ⟨f, h1, ?_⟩
  by_cases hx : x ∈ d
  · obtain ⟨q, rfl, _⟩ := h3 hx
    simp [hx, okV]
  · rw [h2 hx]; simp [hx, okV]

/-! ### for good -/
section
variable {C : Ctx} {n d : Nat} {all r : List Oper} {ty : TypeId} {pos : String} {after : Array Edge} {E : Fs} {HF HR : List HI}
theorem frz_same {ρ : Rho} {h h' : AHeap} {w : World} {v v' : AV} {u : Value} {k : Nat} (hr : frz true k v h = some (v', h')) (hd : doneV v' = true) (hv : VR ρ v u) (H : HRel ρ h w) : ∃ ρ', Trans ρ h w ρ' h' w ∧ VR ρ' v' u := by
  obtain ⟨_, ρ', F, g⟩ := frz_ok (fun _ => false) w k v h v' h' ρ u hr hv H (Clear.no _ _ _)
  have he : Ext ((ρ'.call w fun _ => false).noview) ρ' := ⟨fun _ _ h => (by cases h), fun _ _ h => h, fun _ _ h => (by cases h)⟩
  exact ⟨ρ', F.t, VR.mono he _ _ (done_noview _ _ hd g)⟩
/-- What a slot holds is written no more: known as a list from here on. -/
theorem WC.freeze {c : Code} {Q : Post} {t : Nat} {v v' : AV} {HF' : List HI} (ht : Nat.blt t n = true) (hl : lk E t = some v) (hf : FrzR true deep HF v v' HF') (hd : doneV v' = true) (h : WC C n c ((t, v') :: E) HF' Q) : WC C n c E HF Q := fun e hh fp h1 h2 h3 ρ w a he H => by
  obtain ⟨h', fp', k1, k2, k3, k4⟩ := hf.run h2 h3
  have hv := nth_VR he t
  rw [h1.get t v hl] at hv
  obtain ⟨ρ', T, g⟩ := frz_same k1 hd hv H
  have he' : EnvR ρ' (putD e (some t) v') a := by
    have := VRL.set t (VRL.mono T.ext _ _ he) g
    show VRL ρ' (setN e t v') a.tmps.toList
    rw [setN_eq]
    have e1 : a.tmps.toList.set t (a.tmps.getD t Go.undef) = a.tmps.toList := by
      have hlt : t < a.tmps.toList.length := by
        rw [VRL.length he, h1.len]; simpa using ht
      apply set_same
      rw [List.getElem?_eq_getElem hlt]
      have hlt' : t < a.tmps.size := by simpa using hlt
      rw [Array.getD_eq_getD_getElem?, Array.getElem?_eq_getElem hlt']; rfl
    rw [e1] at this; exact this
  refine wp_mono (h _ h' fp' (h1.put t v' ht) k2 k3 ρ' w a he' T.rel) ?_
  rintro ex a' w' ⟨x, rfl, ρ2, e2, h2', fp2, E2, HF2, q1, q2, q3, q4, q5, q6, q7, q8⟩
  exact ⟨x, rfl, ρ2, e2, h2', fp2, E2, HF2, q1, q2, T.trans q3, q4, q5, q6, k4.trans q7, q8⟩

theorem w_mapUpdI {Q : Fs → List HI → Prop} {t kt et : TypeId} {ik : IntKind} {x y z : Operand} {o : Nat} {D : List Int} {i : Int} {v : AV} {d : Option Tmp} (hu : undOf C.P t = some (.map kt et)) (hku : undOf C.P kt = some (.int ik)) (hx : ev E x = some (.map (some o))) (hy : ev E y = some (.int ik i)) (hz : ev E z = some v) (hd : d = none)
    (ht : Take HF (.obj o (.map (entsI ik v D 0) D.length)) HR) (hk : WS C n all r E (.obj o (.map (entsI ik v (addI D i) 0) (addI D i).length) :: HR) Q) : WS C n all (⟨d, .mapUpdate t x y z, ty, pos, after, none⟩ :: r) E HF Q :=
  w_mapUpd hu hx hy hz hd ht (by rw [keyF_int hku]) (updI hku v D i) hk
theorem w_lookI {Q : Fs → List HI → Prop} {t kt et : TypeId} {ik : IntKind} {x y : Operand} {o c : Nat} {D : List Int} {i : Int} (hu : undOf C.P t = some (.map kt et)) (hku : undOf C.P kt = some (.int ik)) (hz : zeroOf C.P et = some (.bool false)) (hd : Nat.blt d n = true) (hx : ev E x = some (.map (some o))) (hy : ev E y = some (.int ik i))
    (ht : Take HF (.obj o (.map (entsI ik (.bool true) D 0) c)) HR) (hk : WS C n all r ((d, .bool (decide (i ∈ D))) :: E) HF Q) : WS C n all (⟨some d, .lookup t x y false, ty, pos, after, none⟩ :: r) E HF Q := by
  obtain ⟨f, h1, h2⟩ := lookI hku D i
  exact w_lookup hu hz hd hx hy ht (by rw [keyF_int hku]) h1 (by rw [h2]; exact hk)
theorem w_lenI {Q : Fs → List HI → Prop} {t kt et : TypeId} {ts : List TypeId} {tys : Array TypeId} {x : Operand} {o c : Nat} {ik : IntKind} {v : AV} {D : List Int} (htys : tys.toList = t :: ts) (hu : undOf C.P t = some (.map kt et)) (hd : Nat.blt d n = true) (hx : ev E x = some (.map (some o))) (ht : Take HF (.obj o (.map (entsI ik v D 0) c)) HR)
    (hk : WS C n all r ((d, .int .i64 D.length) :: E) HF Q) : WS C n all (⟨some d, .call ⟨.builtin .len, #[x], tys⟩, ty, pos, after, none⟩ :: r) E HF Q :=
  w_lenM htys hu hd hx ht (by rw [entsI_length]; exact hk)
end
end
end Go.Proofs.YtlgofplbbmjdjaaGreatDoor.BH
