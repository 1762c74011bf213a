/-
  BH: walking by facts: cells told weaker; an empty slice, nil or not; results and arguments frozen at a call; appends frozen, in place, of zeros.
-/
import Derived.Test.YtonojkcnencodaaDoorBhW9
namespace Go.Proofs.YtonojkcnencodaaDoor.BH
noncomputable section
section
variable {C : Ctx} {n d : Nat} {all r : List Oper} {ty : TypeId} {pos : String} {after : Array Edge} {E : Fs} {HF HR : List HI}

/-! ### cells told weaker -/
def VRLe (a b : AV) : Prop := (a.scalar = true → b.scalar = true) ∧ ∀ ρ u, VR ρ a u → VR ρ b u
theorem VRLe.refl (a : AV) : VRLe a a := ⟨id, fun _ _ h => h⟩
theorem nil_le (f p : Bool) (hp : p = true) : VRLe nilSlice (.lst [] 0 f p) := by
  refine ⟨fun _ => rfl, fun ρ u h => ?_⟩
  have h : VR ρ (.slice none 0 (.exact 0)) u := h
  simp only [VR] at h ⊢
  obtain ⟨_, _, rfl⟩ := h
  exact ⟨none, 0, rfl, Nat.le_refl _, fun _ => rfl, rfl, fun _ => rfl, .inl ⟨trivial, trivial, fun h => by rw [hp] at h; cases h⟩⟩
inductive LeL : List AV → List AV → Prop where
  | nil : LeL [] []
  | cons {a b : AV} {l m : List AV} (h : VRLe a b) (t : LeL l m) : LeL (a :: l) (b :: m)
theorem LeL.length {l m : List AV} (h : LeL l m) : m.length = l.length := by
  induction h with
  | nil => rfl
  | cons _ _ ih => simp [ih]
theorem LeL.get {l m : List AV} (h : LeL l m) : ∀ {i : Nat} {b : AV}, m[i]? = some b → ∃ a, l[i]? = some a ∧ VRLe a b := by
  induction h with
  | nil => intro i b hb; simp at hb
  | cons h _ ih =>
    intro i b hb
    cases i with
    | zero => simp at hb; subst hb; exact ⟨_, rfl, h⟩
    | succ i => simpa using ih (by simpa using hb)
theorem WC.weakCells {c : Code} {Q : Post} {o e s : Nat} {cs cs' : List AV} (t : Take HF (.obj o (.row e s false cs)) HR) (hle : LeL cs cs') (h : WC C n c E (.obj o (.row e s false cs') :: HR) Q) : WC C n c E HF Q := fun e' hh fp h1 h2 h3 ρ w a he H => by
  obtain ⟨fp1, k1, k2⟩ := t.sat h2
  obtain ⟨m1, m2, m3⟩ := sat_set (x' := .row e s false cs') k1 h3
  have hx := (t.obj h2).1
  obtain ⟨cc, y, g1, g2, g3⟩ := H.objs _ _ hx
  obtain ⟨cs0, fr, rfl, q1, q2, q3⟩ := g3
  have T : Trans ρ hh w ρ (hh.set o (.row e s false cs')) w := Trans.ofSet H hx rfl g1 g2 ⟨cs0, fr, rfl, by rw [hle.length]; exact q1, fun i b hb => by
    obtain ⟨a0, z1, z2⟩ := hle.get hb
    obtain ⟨s1, v, s2, s3⟩ := q2 i a0 z1
    exact ⟨z2.1 s1, v, s2, z2.2 _ _ s3⟩, by rw [hle.length]; exact q3⟩ rfl (fun _ _ => rfl) rfl rfl
  refine wp_mono (h e' _ fp1 h1 m1 m2 ρ w a he T.rel) ?_
  rintro ex a' w' ⟨x, rfl, ρ2, e2, h2', fp2, E2, HF2, p1, p2, p3, p4, p5, p6, p7, p8⟩
  exact ⟨x, rfl, ρ2, e2, h2', fp2, E2, HF2, p1, p2, T.trans p3, p4, p5, p6, (m3.left k2).trans p7, p8⟩

/-- What a slice that is nobody else's is, as a value. -/
theorem WS.ownCells {Q : Fs → List HI → Prop} {v : AV} {e s m : Nat} {cells : List AV} (t : Take HF (.own v e s cells m) HR) (h : v.cells = [v] → v.scalar = true → WS C n all r E HF Q) : WS C n all r E HF Q :=
  WS.pre fun e' hh fp h1 h2 h3 => ⟨fp, E, HF, h1, h2, fun _ h => h, by
    obtain ⟨own, q1, _⟩ := t.get h2
    rcases q1 with ⟨_, ⟨a, rfl⟩ | rfl, _, _⟩ | ⟨o, _, rfl, _⟩ <;> exact h rfl rfl⟩
/-! ### an empty slice: nil, or not -/
theorem WC.splitNil {c : Code} {Q : Post} {t : Nat} {f : Bool} (ht : Nat.blt t n = true) (hl : lk E t = some (.lst [] 0 f true)) (h1 : WC C n c ((t, nilSlice) :: E) HF Q) (h2 : WC C n c ((t, .lst [] 0 f false) :: E) HF Q) : WC C n c E HF Q := fun e hh fp k1 k2 k3 ρ w a he H => by
  have hv := nth_VR he t
  rw [k1.get t _ hl] at hv
  have put : ∀ v', VR ρ v' (a.tmps.getD t Go.undef) → EnvR ρ (putD e (some t) v') a := fun v' g => by
    have := VRL.set t he g
    show VRL ρ (setN e t v') a.tmps.toList
    rw [setN_eq]
    have e1 : a.tmps.toList.set t (a.tmps.getD t Go.undef) = a.tmps.toList := by
      have hlt : t < a.tmps.toList.length := by
        rw [VRL.length he, k1.len]; simpa using ht
      apply set_same
      rw [List.getElem?_eq_getElem hlt]
      have hlt' : t < a.tmps.size := by simpa using hlt
      rw [Array.getD_eq_getD_getElem?, Array.getElem?_eq_getElem hlt']; rfl
    rw [e1] at this; exact this
  have hcase : VR ρ nilSlice (a.tmps.getD t Go.undef) ∨ VR ρ (.lst [] 0 f false) (a.tmps.getD t Go.undef) := by
    simp only [VR] at hv
    obtain ⟨ao, cap, e1, e2, e3, e4, e6, e5⟩ := hv
    cases ao with
    | none =>
      left
      have : cap = 0 := e6 rfl
      subst this
      rw [e1]
      show VR ρ (.slice none 0 (.exact 0)) _
      simp only [VR]; exact ⟨trivial, trivial, trivial⟩
    | some q =>
      right
      simp only [VR]
      exact ⟨some q, cap, e1, e2, e3, e4, fun h => (by cases h), .inl ⟨trivial, trivial, fun _ h => by cases h⟩⟩
  rcases hcase with g | g
  · exact h1 _ hh fp (k1.put t _ ht) k2 k3 ρ w a (put _ g) H
  · exact h2 _ hh fp (k1.put t _ ht) k2 k3 ρ w a (put _ g) H

/-- An object that a slot points to is written no more: known by what it holds. -/
theorem WC.freezePtr {c : Code} {Q : Post} {t o e s off : Nat} {b : Bool} {cs : List AV} (ht : Nat.blt t n = true) (hl : lk E t = some (.ptr (some ⟨o, off⟩))) (tk : Take HF (.obj o (.row e s b cs)) HR) (hd : cs.all doneV = true) (h : WC C n c ((t, .cptr cs off) :: E) HR Q) : WC C n c E HF Q := fun e' hh fp k1 k2 k3 ρ w a he H => by
  obtain ⟨fp1, m1, m2⟩ := tk.sat k2
  obtain ⟨h', g1, g2, g3, g4⟩ := sat_still m1 k3
  obtain ⟨ρ', F, hF⟩ := still_ok H g1
  have hv := nth_VR he t
  rw [k1.get t _ hl] at hv
  simp only [VR] at hv
  obtain ⟨d, hd1, hd2⟩ := hv
  obtain ⟨d', bx, e2, fr, hd', hblk, hcell⟩ := row_block H (rowAt_of (tk.obj k2).1)
  rw [hd1] at hd'; cases hd'
  obtain ⟨q1, us, q2, q3⟩ := hcell _ _ _ (slots_all cs)
  obtain ⟨r1, r2⟩ := hF d hd1
  have hnew : VR ρ' (.cptr cs off) (a.tmps.getD t Go.undef) := by
    rw [hd2]
    simp only [VR]
    refine ⟨d.blk, d.base, bx, us, rfl, .inr (by rw [r1, cellsOf_of hblk]), q1, VRL.mono F.t.ext.noloc _ _ (closedL_noloc _ _ (done_closed _ hd) q2), fun i u hu => ?_⟩
    have := q3 i u hu
    rwa [Nat.add_zero] at this
  obtain ⟨fp2, w1, w2⟩ := g2.tl
  refine wp_mono (h _ h' fp2 (k1.put t _ ht) w1 g3 ρ' w a ?_ F.t.rel) ?_
  · have := VRL.set t (VRL.mono F.t.ext _ _ he) hnew
    show VRL ρ' (setN e' t (.cptr cs off)) a.tmps.toList
    rw [setN_eq]
    have e1 : a.tmps.toList.set t (a.tmps.getD t Go.undef) = a.tmps.toList := by
      have hlt : t < a.tmps.toList.length := by
        rw [VRL.length he, k1.len]; simpa using ht
      apply set_same
      rw [List.getElem?_eq_getElem hlt]
      have hlt' : t < a.tmps.size := by simpa using hlt
      rw [Array.getD_eq_getD_getElem?, Array.getElem?_eq_getElem hlt']; rfl
    rw [e1] at this; exact this
  · rintro ex a' w' ⟨x, rfl, ρ2, e2, h2', fp2, E2, HF2, p1, p2, p3, p4, p5, p6, p7, p8⟩
    refine ⟨x, rfl, ρ2, e2, h2', fp2, E2, HF2, p1, p2, F.t.trans p3, p4, p5, p6, Frame.trans ((g4.left m2).less w2) p7, p8⟩

/-! ### calls: the result frozen; arguments frozen ahead; what is known told in another order -/
theorem CallW.frz {f : FuncId} {l : List AV} {K K' : AV → List HI → Prop} (h : CallW C f l HF K) (k : ∀ v H, K v H → ∃ v' H', FrzR true deep H v v' H' ∧ doneV v' = true ∧ K' v' H') : CallW C f l HF K' := fun hh fp h1 h2 ρ w us hv H => by
  refine (h hh fp h1 h2 ρ w us hv H).mono ?_
  rintro u w' ⟨v, ρ', h', fp', HF', g1, g2, g3, g4, g5, g6⟩
  obtain ⟨v', H', q1, q2, q3⟩ := k v HF' g6
  obtain ⟨h'', fp'', z1, z2, z3, z4⟩ := q1.run g3 g4
  obtain ⟨ρ'', T, y⟩ := frz_same z1 q2 g1 g2.rel
  exact ⟨v', ρ'', h'', fp'', H', y, g2.trans T, z2, z3, g5.trans z4, q3⟩
/-- Arguments, some of them frozen for good. -/
inductive ArgR : List HI → List AV → List AV → List HI → Prop where
  | nil {HF : List HI} : ArgR HF [] [] HF
  | same {HF HF' : List HI} {a : AV} {l l' : List AV} (t : ArgR HF l l' HF') : ArgR HF (a :: l) (a :: l') HF'
  | frz {HF H1 HF' : List HI} {a a' : AV} {l l' : List AV} (h : FrzR true deep HF a a' H1) (hd : doneV a' = true) (t : ArgR H1 l l' HF') : ArgR HF (a :: l) (a' :: l') HF'
theorem ArgR.run {l l' : List AV} {HF HF' : List HI} (h : ArgR HF l l' HF') : ∀ {fp : List Nat} {hh : AHeap} {ρ : Rho} {w : World} {us : List Value}, SatH HF fp hh → WF hh → VRL ρ l us → HRel ρ hh w →
    ∃ ρ' h' fp', VRL ρ' l' us ∧ Trans ρ hh w ρ' h' w ∧ SatH HF' fp' h' ∧ WF h' ∧ Frame fp hh fp' h' := by
  induction h with
  | nil => intro fp hh ρ w us h1 h2 h3 H; exact ⟨ρ, hh, fp, h3, .refl H, h1, h2, .refl _ _⟩
  | same t ih =>
    intro fp hh ρ w us h1 h2 h3 H
    simp only [VRL] at h3
    obtain ⟨u, us', rfl, g1, g2⟩ := h3
    obtain ⟨ρ', h', fp', q1, q2, q3, q4, q5⟩ := ih h1 h2 g2 H
    exact ⟨ρ', h', fp', VRL.cons (VR.mono q2.ext _ _ g1) q1, q2, q3, q4, q5⟩
  | frz hf hd t ih =>
    intro fp hh ρ w us h1 h2 h3 H
    simp only [VRL] at h3
    obtain ⟨u, us', rfl, g1, g2⟩ := h3
    obtain ⟨h1', fp1, z1, z2, z3, z4⟩ := hf.run h1 h2
    obtain ⟨ρ1, T, y⟩ := frz_same z1 hd g1 H
    obtain ⟨ρ', h', fp', q1, q2, q3, q4, q5⟩ := ih z2 z3 (VRL.mono T.ext _ _ g2) T.rel
    exact ⟨ρ', h', fp', VRL.cons (VR.mono q2.ext _ _ y) q1, T.trans q2, q3, q4, z4.trans q5⟩
theorem CallW.args {f : FuncId} {l l' : List AV} {HF' : List HI} {K : AV → List HI → Prop} (ha : ArgR HF l l' HF') (h : CallW C f l' HF' K) : CallW C f l HF K := fun hh fp h1 h2 ρ w us hv H => by
  obtain ⟨ρ', h', fp', q1, q2, q3, q4, q5⟩ := ha.run h1 h2 hv H
  refine (h h' fp' q3 q4 ρ' w us q1 q2.rel).mono ?_
  rintro u w' ⟨v, ρ2, h2', fp2, HF2, g1, g2, g3, g4, g5, g6⟩
  exact ⟨v, ρ2, h2', fp2, HF2, g1, q2.trans g2, g3, g4, q5.trans g5, g6⟩
theorem CallW.weak {f : FuncId} {l : List AV} {HF' : List HI} {K : AV → List HI → Prop} (hw : Weak HF HF') (h : CallW C f l HF' K) : CallW C f l HF K := fun hh fp h1 h2 ρ w us hv H => by
  obtain ⟨fp1, k1, k2⟩ := hw fp hh h1
  refine (h hh fp1 k1 h2 ρ w us hv H).mono ?_
  rintro u w' ⟨v, ρ', h', fp', HF', m1, m2, m3, m4, m5, m6⟩
  exact ⟨v, ρ', h', fp', HF', m1, m2, m3, m4, m5.more k2, m6⟩
/-! ### operations whose result is written no more -/
theorem ws_stepF {Q : Fs → List HI → Prop} {op : Op} (hd : Nat.blt d n = true)
    (hop : ∀ e h fp, Sat n E e → SatH HF fp h → WF h → ∃ v h' fp' HF', (∀ call, (operTF C.P op).run call e h = some (v, h')) ∧ SatH HF' fp' h' ∧ WF h' ∧ Frame fp h fp' h' ∧ ∃ v' HF'', FrzR true deep HF' v v' HF'' ∧ doneV v' = true ∧ WS C n all r ((d, v') :: E) HF'' Q)
    (hk2 : opKind C.P op = 2) (hns : noSel ⟨some d, op, ty, pos, after, none⟩ = true) : WS C n all (⟨some d, op, ty, pos, after, none⟩ :: r) E HF Q :=
  ws_opX rfl (by rw [hk2]; decide) fun e h fp h1 h2 h3 ρ w a ea he hse H => by
    obtain ⟨v, h', fp', HF', q1, q2, q3, q4, v', HF'', q5, q6, q7⟩ := hop e h fp h1 h2 h3
    have hc := callX_sound (regionF_sound C.mixed) C.sums 0
    have rr := q1 (callX C.P (regionF C.P) C.cfg 0)
    rw [show (operTF C.P op) = operF C.P op from noSel_oper hns, ← operF_congr op fun x hx => hse.opv (x := x) hx] at rr
    refine .of (ExecOk.mono (operF_sound hc ⟨some d, op, ty, pos, after, none⟩ ea h v h' ρ w a rr he H) ?_)
    rintro u w' ⟨ρ', g1, g2⟩
    obtain ⟨h'', fp'', z1, z2, z3, z4⟩ := q5.run q2 q3
    obtain ⟨ρ'', T, y⟩ := frz_same z1 q6 g1 g2.rel
    exact ⟨v', ρ'', h'', fp'', _, HF'', y, g2.trans T, h1.put d v' hd, z2, z3, q4.trans z4, q7⟩
theorem w_newSF {Q : Fs → List HI → Prop} {op : Op} {m e s : Nat} {c : ACap} {cs : List AV} (hk2 : opKind C.P op = 2) (hns : noSel ⟨some d, op, ty, pos, after, none⟩ = true) (hd : Nat.blt d n = true)
    (hop : ∀ e' h call, Sat n E e' → (operTF C.P op).run call e' h = some (.slice (some ⟨h.next, 0⟩) m c, h.push (.row e s false cs))) (hm : 0 < m) (hl : cs.length = m * s) (hdn : cs.all doneV = true)
    (hk : WS C n all r ((d, .lst cs m false true) :: E) HF Q) : WS C n all (⟨some d, op, ty, pos, after, none⟩ :: r) E HF Q :=
  ws_stepF hd (fun e' h fp h1 h2 h3 => by
    obtain ⟨k1, k2⟩ := sat_push h2 h3 (.row e s false cs)
    refine ⟨_, _, _, _, fun call => hop e' h call h1, k1, h3.push _, k2, _, _, .objK rfl hm .head hl hdn, rfl, ?_⟩
    exact WS.drop .head hk) hk2 hns
theorem w_buildSF {Q : Fs → List HI → Prop} {t e s m : Nat} {ps : Array (Nat × Operand)} {l : List (Nat × AV)} {z cs : List AV} (hu : undOf C.P t = some (.slice e)) (hz : szOf C.P e = some s) (hzc : zeroCells C.P e = some z) (hle : m * s ≤ 65536) (hd : Nat.blt d n = true)
    (hl : evp E ps.toList = some l) (hf : fillV (fun i => some (i * s, s)) (repl m z) l = some cs) (hm : 0 < m) (hlen : cs.length = m * s) (hdn : cs.all doneV = true) (hk : WS C n all r ((d, .lst cs m false true) :: E) HF Q) :
    WS C n all (⟨some d, .buildSlice t m ps, ty, pos, after, none⟩ :: r) E HF Q :=
  w_newSF (e := e) (c := .exact m) rfl rfl hd (fun e' h _ h1 => by
    show (bnd (parts e' ps.toList) fun l => (buildSliceF C.P t m).run h l) = _
    rw [evp_parts h1 hl]
    unfold buildSliceF; simp only [hu, hz, hzc, (bleN _ _).mpr hle, cnd_true, bnd_some, hf]) hm hlen hdn hk
/-- New memory that is written no more may be made whenever it likes. -/
theorem lz_new {l : List Oper} {op : Op} {dst : Option Tmp} {g : Option (Nat × Bool)} {m e s : Nat} {c : ACap} {cs : List AV} (hns : noSel ⟨dst, op, ty, pos, after, g⟩ = true)
    (hop : ∀ e' h call, Sat n E e' → (operTF C.P op).run call e' h = some (.slice (some ⟨h.next, 0⟩) m c, h.push (.row e s false cs))) (hm : 0 < m) (hl : cs.length = m * s) (hdn : cs.all doneV = true) : LazyF C n l E ⟨dst, op, ty, pos, after, g⟩ (.lst cs m false true) := ⟨fun {es} hs ρ h w a ea hw he hlk H => by
  have hc := callX_sound (regionF_sound C.mixed) C.sums 0
  have rr := hop es h (callX C.P (regionF C.P) C.cfg 0) hs
  rw [show (operTF C.P op) = operF C.P op from noSel_oper hns, ← operF_congr op fun x hx => opv_congr fun t ht => hlk t (by
    subst ht
    unfold looks
    exact List.mem_append_left _ (List.mem_filterMap.mpr ⟨.tmp t, by simpa using hx, rfl⟩))] at rr
  refine ExecOk.mono (operF_sound hc ⟨dst, op, ty, pos, after, g⟩ ea h _ _ ρ w a rr he H) ?_
  rintro u w' ⟨ρ', g1, g2⟩
  have s0 : SatH [] [] h := rfl
  obtain ⟨k1, k2⟩ := sat_push s0 hw (.row e s false cs)
  obtain ⟨h'', fp'', z1, z2, z3, z4⟩ := (FrzR.objK (keep := true) (f := 11) rfl hm (c := c) .head hl hdn).run k1 (hw.push _)
  obtain ⟨ρ'', T, y⟩ := frz_same z1 rfl g1 g2.rel
  refine ⟨ρ'', h'', y, g2.trans T, z3, fun x hx => ?_⟩
  rw [z4.keep x (by simp; omega) (by simp; omega)]
  rw [AHeap.get_push, if_neg (by omega)]⟩
theorem lz_buildS {l : List Oper} {dst : Option Tmp} {g : Option (Nat × Bool)} {t e s m : Nat} {ps : Array (Nat × Operand)} {q : List (Nat × AV)} {z cs : List AV} (hu : undOf C.P t = some (.slice e)) (hz : szOf C.P e = some s) (hzc : zeroCells C.P e = some z) (hle : m * s ≤ 65536)
    (hl : evp E ps.toList = some q) (hf : fillV (fun i => some (i * s, s)) (repl m z) q = some cs) (hm : 0 < m) (hlen : cs.length = m * s) (hdn : cs.all doneV = true) : LazyF C n l E ⟨dst, .buildSlice t m ps, ty, pos, after, g⟩ (.lst cs m false true) :=
  lz_new (e := e) (c := .exact m) rfl (fun e' h _ h1 => by
    show (bnd (parts e' ps.toList) fun l => (buildSliceF C.P t m).run h l) = _
    rw [evp_parts h1 hl]
    unfold buildSliceF; simp only [hu, hz, hzc, (bleN _ _).mpr hle, cnd_true, bnd_some, hf]) hm hlen hdn
theorem w_appF {Q : Fs → List HI → Prop} {t e k b m j t' : Nat} {ts : List TypeId} {x y : Operand} {v a : AV} {z cells new : List AV} {D : TypeDesc} {tys : Array TypeId} (htys : tys.toList = t :: t' :: ts) (hu : undOf C.P t = some (.slice e)) (hz : szOf C.P e = some (k + 1)) (hb : bytesOf C.P e = some b) (hzc : zeroCells C.P e = some z)
    (hu' : undOf C.P t' = some D) (hD : ∀ k, D ≠ .int k) (hd : Nat.blt d n = true) (hx : ev E x = some v) (hy : ev E y = some a) (ht : Take HF (.own v e (k + 1) cells m) HR) (hn : NewR (k + 1) HF a j new) (h1 : (m + j) * b ≤ bigBy) (h2 : m + j ≤ bigBy) (hdn : (cells ++ new).all doneV = true)
    (hk : WS C n all r ((d, .lst (cells ++ new) (m + j) false true) :: E) HR Q) : WS C n all (⟨some d, .call ⟨.builtin .append, #[x, y], tys⟩, ty, pos, after, none⟩ :: r) E HF Q :=
  ws_stepF hd (fun e' h fp hs hh hw => by
    obtain ⟨n1, n2, n3⟩ := hn h fp hh hw
    obtain ⟨fp1, k1, k2⟩ := ht.sat hh
    obtain ⟨s1, v', h', fp', q1, q2, q3, q4⟩ := app_own (b := b) k1 hw n2 n3 h1 h2
    refine ⟨v', h', fp', _, fun call => ?_, q2, q3, q4.left k2, _, _, .ownK rfl .head hdn, rfl, hk⟩
    show (bnd (opvs e' [x, y]) fun l => (built2 (appendF C.P tys.toList)).run h l) = _
    rw [show opvs e' [x, y] = some [v, a] from evs_opvs hs (by show (bnd (ev E x) fun a => bnd (bnd (ev E y) fun b => bnd (some []) fun l => some (b :: l)) fun l => some (a :: l)) = _; rw [hx, hy]; rfl)]
    show (appendF C.P tys.toList).run h v a = _
    rw [htys, app_run hu hz hb hzc (by rw [newF_slice hu' hD]; exact n1) s1]
    exact q1) rfl rfl

/-! ### appends in place; of zeros -/
/-- Appended to a list that is nobody else's: a list again, nobody else's, or written no more. -/
theorem w_appO {α : Type} {enc : α → List AV} {Q : Fs → List HI → Prop} {t e k b t' : Nat} {l m : List α} {ts : List TypeId} {x y : Operand} {v a : AV} {z : List AV} {D : TypeDesc} {tys : Array TypeId} (htys : tys.toList = t :: t' :: ts) (hu : undOf C.P t = some (.slice e)) (hz : szOf C.P e = some (k + 1)) (hb : bytesOf C.P e = some b) (hzc : zeroCells C.P e = some z)
    (hu' : undOf C.P t' = some D) (hD : ∀ k, D ≠ .int k) (hd : Nat.blt d n = true) (hx : ev E x = some v) (hy : ev E y = some a) (ht : Take HF (.own v e (k + 1) (l.flatMap enc) l.length) HR) (hn : NewR (k + 1) HF a m.length (m.flatMap enc)) (h1 : (l.length + m.length) * b ≤ bigBy) (h2 : l.length + m.length ≤ bigBy)
    (hk : ∀ v', WS C n all r ((d, v') :: E) (.own v' e (k + 1) ((l ++ m).flatMap enc) (l ++ m).length :: HR) Q) : WS C n all (⟨some d, .call ⟨.builtin .append, #[x, y], tys⟩, ty, pos, after, none⟩ :: r) E HF Q :=
  w_app htys hu hz hb hzc hu' hD hd hx hy ht hn h1 h2 fun v' => by
    have := hk v'
    rw [List.flatMap_append, List.length_append] at this
    exact this
theorem CallW.splitNil {f : FuncId} {l : List AV} {K : AV → List HI → Prop} {b : Bool} (h1 : CallW C f (nilSlice :: l) HF K) (h2 : CallW C f (.lst [] 0 b false :: l) HF K) : CallW C f (.lst [] 0 b true :: l) HF K := fun hh fp k1 k2 ρ w us hv H => by
  simp only [VRL] at hv
  obtain ⟨u, us', e1, g1, g2⟩ := hv
  have hcase : VR ρ nilSlice u ∨ VR ρ (.lst [] 0 b false) u := by
    simp only [VR] at g1
    obtain ⟨ao, cap, e1, e2, e3, e4, e6, e5⟩ := g1
    cases ao with
    | none =>
      left
      have : cap = 0 := e6 rfl
      subst this
      rw [e1]
      show VR ρ (.slice none 0 (.exact 0)) _
      simp only [VR]; exact ⟨trivial, trivial, trivial⟩
    | some q =>
      right
      simp only [VR]
      exact ⟨some q, cap, e1, e2, e3, e4, fun h => (by cases h), .inl ⟨trivial, trivial, fun _ h => by cases h⟩⟩
  rcases hcase with g | g
  · exact h1 hh fp k1 k2 ρ w us (by rw [e1]; exact VRL.cons g g2) H
  · exact h2 hh fp k1 k2 ρ w us (by rw [e1]; exact VRL.cons g g2) H
/-- A closed function that answers true: by reckoning. -/
def isTT (r : Option (AV × AHeap)) : Bool :=
  match r with
  | some (.bool true, _) => true
  | _ => false
theorem pfn_true {C : Ctx} {f N : Nat} (hk : (C.cfg.kind f).keep = false) (h : isTT (callF C.P (regionF C.P) N f [] AHeap.empty) = true) : PFn C f [] (.bool true) := by
  refine ⟨rfl, fun ρ w us hv H => ?_⟩
  cases hr : callF C.P (regionF C.P) N f [] AHeap.empty with
  | none => rw [hr] at h; cases h
  | some r =>
    obtain ⟨v, h'⟩ := r
    have hv' : v = .bool true := by
      rw [hr] at h
      unfold isTT at h
      split at h
      · rename_i e; cases e; rfl
      · cases h
    subst hv'
    refine (callF_sound (regionF_sound C.mixed) N f [] AHeap.empty _ h' ρ w us hr hv H).mono ?_
    rintro u w' ⟨ρ', g1, g2⟩
    exact ⟨ρ', h', _, g1, g2, .inl ⟨hk, rfl, rfl⟩⟩
end
end
end Go.Proofs.YtonojkcnencodaaDoor.BH
