/-
  BH: walking by facts: maps.
-/
import Derived.Test.YtlgofplbbmjdjaaGreatDoorBhW8
namespace Go.Proofs.YtlgofplbbmjdjaaGreatDoor.BH
noncomputable section
section
variable {C : Ctx} {n d : Nat} {all r : List Oper} {ty : TypeId} {pos : String} {after : Array Edge} {E : Fs} {HF HR : List HI} {Q : Fs → List HI → Prop}

theorem mapAt_of {h : AHeap} {o : Nat} {es : List AEnt} {c : Nat} (hg : h.get o = some (.map es c)) : mapAt h o = some (es, c) := by unfold mapAt; rw [hg]

theorem w_makeMap {t : TypeId} (hd : Nat.blt d n = true) (hk : ∀ o, WS C n all r ((d, .map (some o)) :: E) (.obj o (.map [] 0) :: HF) Q) : WS C n all (⟨some d, .makeMap t none, ty, pos, after, none⟩ :: r) E HF Q :=
  ws_stepX rfl fun e h fp h1 h2 h3 => by
    obtain ⟨k1, k2⟩ := sat_push h2 h3 (.map [] 0)
    exact ⟨_, _, _, _, _, ⟨0, fun m _ => rfl⟩, h1.put d _ hd, k1, h3.push _, k2, hk h.next⟩

/-- A key set: where it stands already, or behind all. -/
def updE (K : KeyF) (es : List AEnt) (c : Nat) (k v : AV) : Option (List AEnt × Nat) :=
  bnd (findV K.eq k es 0) fun f => ocase f (some (addEnt es ⟨k, v, c⟩, c + 1)) fun e => cnd (sameKey e.2.key k) (some (setEnt es e.1 ⟨k, v, e.2.born⟩, c)) none
theorem w_mapUpd {t kt et : TypeId} {x y z : Operand} {o c c' : Nat} {es es' : List AEnt} {k v : AV} {d : Option Tmp} (hu : undOf C.P t = some (.map kt et)) (hx : ev E x = some (.map (some o))) (hy : ev E y = some k) (hz : ev E z = some v) (hd : d = none)
    (ht : Take HF (.obj o (.map es c)) HR) (hok : (keyF C.P kt).ok k = true) (hr : updE (keyF C.P kt) es c k v = some (es', c')) (hk : WS C n all r E (.obj o (.map es' c') :: HR) Q) :
    WS C n all (⟨d, .mapUpdate t x y z, ty, pos, after, none⟩ :: r) E HF Q := by
  subst hd
  refine ws_step rfl (fun e' h fp h1 h2 h3 => ?_) hk
  obtain ⟨fp1, k1, k2⟩ := ht.sat h2
  obtain ⟨m1, m2, m3⟩ := sat_set (x' := .map es' c') k1 h3
  refine ⟨.undef, _, fp1, ⟨0, fun m _ => ?_⟩, h1, m1, m2, m3.left k2⟩
  show (bnd (opv e' x) fun a => bnd (opv e' y) fun b => bnd (opv e' z) fun q => bnd ((mapUpdateF C.P t).run h a b q) fun h' => some (AV.undef, h')) = _
  rw [ev_opv h1 hx, ev_opv h1 hy, ev_opv h1 hz]
  unfold mapUpdateF
  simp only [hu, bnd_some, hok, cnd_true]
  show (bnd (bnd (mapAt h o) fun x => bnd (findV (keyF C.P kt).eq k x.1 0) fun f => ocase f _ _) fun h' => some (AV.undef, h')) = _
  rw [mapAt_of (ht.obj h2).1, bnd_some]
  unfold updE at hr
  obtain ⟨f, hf, hr⟩ := bnd_eq_some.mp hr
  simp only [hf, bnd_some]
  cases f with
  | none => cases hr; rfl
  | some q =>
    replace hr : cnd (sameKey q.2.key k) (some (setEnt es q.1 ⟨k, v, q.2.born⟩, c)) none = some (es', c') := hr
    rw [cnd_eq] at hr
    split at hr
    · rename_i hs
      cases hr
      simp only [ocase_some, hs, cnd_true, bnd_some]
    · cases hr

theorem w_lookup {t kt et : TypeId} {x y : Operand} {o c : Nat} {es : List AEnt} {k z : AV} {f : Option (Nat × AEnt)} {ok : Bool} (hu : undOf C.P t = some (.map kt et)) (hz : zeroOf C.P et = some z) (hd : Nat.blt d n = true) (hx : ev E x = some (.map (some o))) (hy : ev E y = some k)
    (ht : Take HF (.obj o (.map es c)) HR) (hok : (keyF C.P kt).ok k = true) (hf : findV (keyF C.P kt).eq k es 0 = some f) (hk : WS C n all r ((d, ocase f (okV ok z false) fun e => okV ok e.2.val true) :: E) HF Q) :
    WS C n all (⟨some d, .lookup t x y ok, ty, pos, after, none⟩ :: r) E HF Q :=
  ws_step rfl (fun e h fp h1 h2 h3 => by
    refine ⟨_, h, fp, ⟨0, fun m _ => ?_⟩, h1.put d _ hd, h2, h3, .refl _ _⟩
    show (bnd (opv e x) fun a => bnd (opv e y) fun b => bnd ((lookupF C.P t ok).run h a b) fun v => some (v, h)) = _
    rw [ev_opv h1 hx, ev_opv h1 hy]
    unfold lookupF
    simp only [hu, hz, bnd_some, hok, cnd_true]
    show (bnd (bnd (bnd (mapAt h o) fun x => some x.1) fun es => bnd (findV (keyF C.P kt).eq k es 0) fun r => some (ocase r (okV ok z false) fun e => okV ok e.2.val true)) fun v => some (v, h)) = _
    rw [mapAt_of (ht.obj h2).1]
    simp only [bnd_some, hf]) hk
end

/-! ### maps of whole numbers, each with the same value -/
def entsI (ik : IntKind) (v : AV) : List Int → Nat → List AEnt
  | [], _ => []
  | x :: r, i => ⟨.int ik x, v, i⟩ :: entsI ik v r (i + 1)
def addI (d : List Int) (x : Int) : List Int := if x ∈ d then d else d ++ [x]
theorem set_same {α : Type} {l : List α} {i : Nat} {x : α} (h : l[i]? = some x) : l.set i x = l := by
  obtain ⟨h1, h2⟩ := List.getElem?_eq_some_iff.mp h
  rw [← h2]; exact List.set_getElem_self h1
/-! ### for good -/
section
variable {C : Ctx} {n d : Nat} {all r : List Oper} {ty : TypeId} {pos : String} {after : Array Edge} {E : Fs} {HF HR : List HI}
theorem frz_same {ρ : Rho} {h h' : AHeap} {w : World} {v v' : AV} {u : Value} {k : Nat} (hr : frz true k v h = some (v', h')) (hd : doneV v' = true) (hv : VR ρ v u) (H : HRel ρ h w) : ∃ ρ', Trans ρ h w ρ' h' w ∧ VR ρ' v' u := by
  obtain ⟨_, ρ', F, g⟩ := frz_ok (fun _ => false) w k v h v' h' ρ u hr hv H (Clear.no _ _ _)
  have he : Ext ((ρ'.call w fun _ => false).noview) ρ' := ⟨fun _ _ h => (by cases h), fun _ _ h => h, fun _ _ h => (by cases h)⟩
  exact ⟨ρ', F.t, VR.mono he _ _ (done_noview _ _ hd g)⟩
/-- What a slot holds is written no more: known as a list from here on. -/
theorem WC.freeze {c : Code} {Q : Post} {t : Nat} {v v' : AV} {HF' : List HI} (ht : Nat.blt t n = true) (hl : lk E t = some v) (hf : FrzR true deep HF v v' HF') (hd : doneV v' = true) (h : WC C n c ((t, v') :: E) HF' Q) : WC C n c E HF Q := fun e hh fp h1 h2 h3 ρ w a he H => by
  obtain ⟨h', fp', k1, k2, k3, k4⟩ := hf.run h2 h3
  have hv := nth_VR he t
  rw [h1.get t v hl] at hv
  obtain ⟨ρ', T, g⟩ := frz_same k1 hd hv H
  have he' : EnvR ρ' (putD e (some t) v') a := by
    have := VRL.set t (VRL.mono T.ext _ _ he) g
    show VRL ρ' (setN e t v') a.tmps.toList
    rw [setN_eq]
    have e1 : a.tmps.toList.set t (a.tmps.getD t Go.undef) = a.tmps.toList := by
      have hlt : t < a.tmps.toList.length := by
        rw [VRL.length he, h1.len]; simpa using ht
      apply set_same
      rw [List.getElem?_eq_getElem hlt]
      have hlt' : t < a.tmps.size := by simpa using hlt
      rw [Array.getD_eq_getD_getElem?, Array.getElem?_eq_getElem hlt']; rfl
    rw [e1] at this; exact this
  refine wp_mono (h _ h' fp' (h1.put t v' ht) k2 k3 ρ' w a he' T.rel) ?_
  rintro ex a' w' ⟨x, rfl, ρ2, e2, h2', fp2, E2, HF2, q1, q2, q3, q4, q5, q6, q7, q8⟩
  exact ⟨x, rfl, ρ2, e2, h2', fp2, E2, HF2, q1, q2, T.trans q3, q4, q5, q6, k4.trans q7, q8⟩

end
end
end Go.Proofs.YtlgofplbbmjdjaaGreatDoor.BH
