/-
  BH: walking by facts: calls; what a function comes to.
-/
import Derived.Test.YtonojkcnencodaaDoorBhW3
namespace Go.Proofs.YtonojkcnencodaaDoor.BH
noncomputable section

/-! ### freezing, by facts -/
mutual
inductive FrzR (keep : Bool) : Nat → List HI → AV → AV → List HI → Prop where
  | closed {f : Nat} {HF : List HI} {v : AV} (h : closedV v = true) : FrzR keep (f + 1) HF v v HF
  | nil {f : Nat} {HF : List HI} : FrzR keep (f + 1) HF nilSlice (.lst [] 0 false true) HF
  | ownV {f : Nat} {HF HR : List HI} {v : AV} {e s m : Nat} {cells : List AV} (hk : keep = false) (t : Take HF (.own v e s cells m) HR) (hd : cells.all doneV = true) : FrzR keep (f + 1) HF v (.lst cells m false true) HF
  | ownK {f : Nat} {HF HR : List HI} {v : AV} {e s m : Nat} {cells : List AV} (hk : keep = true) (t : Take HF (.own v e s cells m) HR) (hd : cells.all doneV = true) : FrzR keep (f + 1) HF v (.lst cells m false true) HR
  | objV {f : Nat} {HF HR : List HI} {o e s m : Nat} {b : Bool} {c : ACap} {cs : List AV} (hk : keep = false) (t : Take HF (.obj o (.row e s b cs)) HR) (hl : cs.length = m * s) (hd : cs.all doneV = true) :
      FrzR keep (f + 1) HF (.slice (some ⟨o, 0⟩) m c) (.lst cs m false true) HF
  | objK {f : Nat} {HF HR : List HI} {o e s m : Nat} {b : Bool} {c : ACap} {cs : List AV} (hk : keep = true) (hm : 0 < m) (t : Take HF (.obj o (.row e s b cs)) HR) (hl : cs.length = m * s) (hd : cs.all doneV = true) :
      FrzR keep (f + 1) HF (.slice (some ⟨o, 0⟩) m c) (.lst cs m false true) (.obj o (.row e s true cs) :: HR)
  | ptr {f : Nat} {HF HR : List HI} {o e s off : Nat} {b : Bool} {cs : List AV} (t : Take HF (.obj o (.row e s b cs)) HR) (hd : cs.all doneV = true) : FrzR keep (f + 1) HF (.ptr (some ⟨o, off⟩)) (.cptr cs off) HF
  | agg {f : Nat} {HF HF' : List HI} {cs cs' : List AV} (h : FrzRL keep f HF cs cs' HF') : FrzR keep (f + 1) HF (.agg cs) (.agg cs') HF'
  | func {f : Nat} {HF H1 HF' : List HI} {fn : Fn} {a a' b b' : List AV} (h : FrzRL keep f HF a a' H1) (h' : FrzRL keep f H1 b b' HF') : FrzR keep (f + 1) HF (.func fn a b) (.func fn a' b') HF'
inductive FrzRL (keep : Bool) : Nat → List HI → List AV → List AV → List HI → Prop where
  | nil {f : Nat} {HF : List HI} : FrzRL keep f HF [] [] HF
  | cons {f : Nat} {HF H1 HF' : List HI} {a a' : AV} {l l' : List AV} (h : FrzR keep f HF a a' H1) (h' : FrzRL keep f H1 l l' HF') : FrzRL keep f HF (a :: l) (a' :: l') HF'
end

theorem frzCells_done {f : Fz} {cs : List AV} {h : AHeap} (hd : cs.all doneV = true) : frzCells f cs h = some (cs, h, true) := by
  unfold frzCells; rw [allA_eq, hd]; rfl
theorem frz_closed {keep : Bool} {n : Nat} {v : AV} {h : AHeap} (hc : closedV v = true) : frz keep (n + 1) v h = some (v, h) := by
  show cnd (closedV v) (some (v, h)) (frzStep (frz keep n) keep v h) = _
  rw [hc]; rfl
theorem frz_open {keep : Bool} {n : Nat} {v : AV} {h : AHeap} (hc : closedV v = false) : frz keep (n + 1) v h = frzStep (frz keep n) keep v h := by
  show cnd (closedV v) (some (v, h)) (frzStep (frz keep n) keep v h) = _
  rw [hc]; rfl
theorem frzL_closed {keep : Bool} {n : Nat} {h : AHeap} : ∀ {l : List AV}, l.all closedV = true → frzL (frz keep (n + 1)) l h = some (l, h)
  | [], _ => rfl
  | a :: r, hc => by
    rw [List.all_cons, Bool.and_eq_true] at hc
    show (bnd (frz keep (n + 1) a h) fun x => bnd (frzL (frz keep (n + 1)) r x.2) fun y => some (x.1 :: y.1, y.2)) = _
    rw [frz_closed hc.1, bnd_some, frzL_closed hc.2]; rfl
theorem sat_still {HR : List HI} {fp : List Nat} {h : AHeap} {o e s : Nat} {b : Bool} {cs : List AV} (hs : SatH (.obj o (.row e s b cs) :: HR) fp h) (hw : WF h) :
    ∃ h', still h o = some h' ∧ SatH (.obj o (.row e s true cs) :: HR) fp h' ∧ WF h' ∧ Frame fp h fp h' := by
  have hg : h.get o = some (.row e s b cs) := by obtain ⟨_, _, g, _⟩ := hs; exact g
  unfold still
  rw [rowAt_of hg, bnd_some]
  cases b with
  | true => exact ⟨h, rfl, hs, hw, .refl _ _⟩
  | false =>
    obtain ⟨k1, k2, k3⟩ := sat_set (x' := .row e s true cs) hs hw
    exact ⟨_, rfl, k1, k2, k3⟩

mutual
theorem FrzR.run {keep : Bool} : ∀ {k : Nat} {HF HF' : List HI} {v v' : AV}, FrzR keep k HF v v' HF' → ∀ {fp : List Nat} {h : AHeap}, SatH HF fp h → WF h →
    ∃ h' fp', frz keep k v h = some (v', h') ∧ SatH HF' fp' h' ∧ WF h' ∧ Frame fp h fp' h'
  | _, _, _, _, _, .closed hc, fp, h, hs, hw => ⟨h, fp, frz_closed hc, hs, hw, .refl _ _⟩
  | _, _, _, _, _, .nil, fp, h, hs, hw => ⟨h, fp, frz_open rfl, hs, hw, .refl _ _⟩
  | _, _, _, _, _, .ownV (s := s) (m := m) (cells := cells) hk t hd, fp, h, hs, hw => by
    subst hk
    refine ⟨h, fp, ?_, hs, hw, .refl _ _⟩
    obtain ⟨own, q1, _⟩ := t.get hs
    rcases q1 with ⟨_, ⟨a, rfl⟩ | rfl, rfl, rfl⟩ | ⟨o, _, rfl, h3, hl⟩
    · cases a <;> exact frz_open rfl
    · exact frz_open rfl
    · rw [frz_open rfl]
      show cnd (Nat.beq m 0) (some (AV.lst [] 0 false true, h)) _ = _
      rw [cnd_eq]
      split
      · rename_i h0
        rw [beqN] at h0; subst h0
        rw [List.length_eq_zero_iff.mp (by omega : cells.length = 0)]
      · rw [rowAt_of h3, bnd_some]
        show (bnd (slots _ 0 (m * s)) _) = _
        rw [← hl, slots_all, bnd_some, frzCells_done hd]; rfl
  | _, _, _, _, _, .ownK (s := s) (m := m) (cells := cells) hk t hd, fp, h, hs, hw => by
    subst hk
    obtain ⟨fp1, k1, k2⟩ := t.sat hs
    rcases k1 with ⟨⟨a, rfl⟩ | rfl, rfl, rfl, k4⟩ | ⟨o, fp2, rfl, rfl, h3, hl, k5, k6⟩
    · exact ⟨h, fp1, by cases a <;> exact frz_open rfl, k4, hw, (Frame.refl _ _).left k2⟩
    · exact ⟨h, fp1, frz_open rfl, k4, hw, (Frame.refl _ _).left k2⟩
    · obtain ⟨h', g1, g2, g3, g4⟩ := sat_still (h := h) ⟨fp2, rfl, h3, k5, k6⟩ hw
      obtain ⟨fp3, e1, _, _, g5⟩ := g2
      have e2 : fp2 = fp3 := by injection e1
      subst e2
      by_cases hm : m = 0
      · subst hm
        have : cells = [] := List.length_eq_zero_iff.mp (by omega)
        subst this
        exact ⟨h, fp2, frz_open rfl, k6, hw, ((Frame.refl _ _).more fun o ho => List.mem_cons_of_mem _ ho).left k2⟩
      · refine ⟨h', fp2, ?_, g5, g3, (Frame.left k2 (g4.trans ((Frame.refl _ _).more fun o ho => List.mem_cons_of_mem _ ho)))⟩
        rw [frz_open rfl]
        show cnd (Nat.beq m 0) _ _ = _
        rw [show Nat.beq m 0 = false by rw [← Bool.not_eq_true, beqN]; exact hm, cnd_false, rowAt_of h3, bnd_some]
        show (bnd (slots _ 0 (m * s)) _) = _
        rw [← hl, slots_all, bnd_some, frzCells_done hd, bnd_some]
        show (bnd (still h o) fun h' => some (AV.lst cells m false true, h')) = _
        rw [g1]; rfl
  | _, _, _, _, _, .objV (o := o) (s := s) (m := m) (c := c) (cs := cs) hk t hl hd, fp, h, hs, hw => by
    subst hk
    refine ⟨h, fp, ?_, hs, hw, .refl _ _⟩
    rw [frz_open rfl]
    show cnd (Nat.beq m 0) (some (AV.lst [] 0 false true, h)) _ = _
    rw [cnd_eq]
    split
    · rename_i h0
      rw [beqN] at h0; subst h0
      rw [List.length_eq_zero_iff.mp (by omega : cs.length = 0)]
    · rw [rowAt_of (t.obj hs).1, bnd_some]
      show (bnd (slots _ 0 (m * s)) _) = _
      rw [← hl, slots_all, bnd_some, frzCells_done hd]; rfl
  | _, _, _, _, _, .objK (o := o) (s := s) (m := m) (c := c) (cs := cs) hk hm t hl hd, fp, h, hs, hw => by
    subst hk
    obtain ⟨fp1, k1, k2⟩ := t.sat hs
    obtain ⟨h', g1, g2, g3, g4⟩ := sat_still k1 hw
    refine ⟨h', fp1, ?_, g2, g3, g4.left k2⟩
    rw [frz_open rfl]
    show cnd (Nat.beq m 0) _ _ = _
    rw [show Nat.beq m 0 = false by rw [← Bool.not_eq_true, beqN]; omega, cnd_false, rowAt_of (t.obj hs).1, bnd_some]
    show (bnd (slots _ 0 (m * s)) _) = _
    rw [← hl, slots_all, bnd_some, frzCells_done hd, bnd_some]
    show (bnd (still h o) fun h' => some (AV.lst cs m false true, h')) = _
    rw [g1]; rfl
  | _, _, _, _, _, .ptr (o := o) (off := off) (cs := cs) t hd, fp, h, hs, hw => by
    refine ⟨h, fp, ?_, hs, hw, .refl _ _⟩
    rw [frz_open rfl]
    show (bnd (rowAt h o) fun r => bnd (frzCells _ r.cells h) fun x => some (AV.cptr x.1 off, x.2.1)) = _
    rw [rowAt_of (t.obj hs).1, bnd_some, frzCells_done hd]; rfl
  | k + 1, HF, _, _, _, .agg (cs := cs) (cs' := cs') hl, fp, h, hs, hw => by
    obtain ⟨h', fp', k1, k2, k3, k4⟩ := FrzRL.run hl hs hw
    by_cases hc : closedV (.agg cs) = true
    · cases k with
      | zero => cases cs with
        | nil => cases hl; refine ⟨h', fp', ?_, k2, k3, k4⟩; cases k1; exact frz_closed hc
        | cons a r => cases k1
      | succ k =>
        have e1 := frzL_closed (keep := keep) (n := k) (h := h) (l := cs) (by rw [← closedL_eq]; exact hc)
        rw [k1] at e1; cases e1
        exact ⟨h, fp', frz_closed hc, k2, k3, k4⟩
    · refine ⟨h', fp', ?_, k2, k3, k4⟩
      rw [frz_open (by simpa using hc)]
      show (bnd (frzL (frz keep k) cs h) fun x => some (AV.agg x.1, x.2)) = _
      rw [k1]; rfl
  | k + 1, HF, _, _, _, .func (fn := fn) (a := a) (a' := a') (b := b) (b' := b') ha hb, fp, h, hs, hw => by
    obtain ⟨h1, fp1, k1, k2, k3, k4⟩ := FrzRL.run ha hs hw
    obtain ⟨h2, fp2, m1, m2, m3, m4⟩ := FrzRL.run hb k2 k3
    by_cases hc : closedV (.func fn a b) = true
    · have hc' : cnd (closedL a) (closedL b) false = true := hc
      obtain ⟨c1, c2⟩ := cnd_and hc'
      have same : ∀ {l l' : List AV} {g g' : AHeap}, closedL l = true → frzL (frz keep k) l g = some (l', g') → l' = l ∧ g' = g := by
        intro l l' g g' hcl hr
        cases k with
        | zero => cases l with
          | nil => cases hr; exact ⟨rfl, rfl⟩
          | cons a r => cases hr
        | succ k => rw [frzL_closed (by rw [← closedL_eq]; exact hcl)] at hr; cases hr; exact ⟨rfl, rfl⟩
      obtain ⟨rfl, rfl⟩ := same c1 k1
      obtain ⟨rfl, rfl⟩ := same c2 m1
      exact ⟨_, fp2, frz_closed hc, m2, m3, k4.trans m4⟩
    · refine ⟨h2, fp2, ?_, m2, m3, k4.trans m4⟩
      rw [frz_open (by simpa using hc)]
      show (bnd (frzL (frz keep k) a h) fun x => bnd (frzL (frz keep k) b x.2) fun y => some (AV.func fn x.1 y.1, y.2)) = _
      rw [k1, bnd_some, m1]; rfl
theorem FrzRL.run {keep : Bool} : ∀ {k : Nat} {HF HF' : List HI} {l l' : List AV}, FrzRL keep k HF l l' HF' → ∀ {fp : List Nat} {h : AHeap}, SatH HF fp h → WF h →
    ∃ h' fp', frzL (frz keep k) l h = some (l', h') ∧ SatH HF' fp' h' ∧ WF h' ∧ Frame fp h fp' h'
  | _, _, _, _, _, .nil, fp, h, hs, hw => ⟨h, fp, rfl, hs, hw, .refl _ _⟩
  | k, _, _, _, _, .cons (a := a) (l := l) ha hl, fp, h, hs, hw => by
    obtain ⟨h1, fp1, k1, k2, k3, k4⟩ := ha.run hs hw
    obtain ⟨h2, fp2, m1, m2, m3, m4⟩ := hl.run k2 k3
    refine ⟨h2, fp2, ?_, m2, m3, k4.trans m4⟩
    show (bnd (frz keep k a h) fun x => bnd (frzL (frz keep k) l x.2) fun y => some (x.1 :: y.1, y.2)) = _
    rw [k1, bnd_some, m1]; rfl
end

theorem frzArgs_run {keep : Bool} {HF HF' : List HI} {l l' : List AV} (hf : FrzRL keep deep HF l l' HF') {fp : List Nat} {h : AHeap} (hs : SatH HF fp h) (hw : WF h) :
    ∃ h' fp', frzArgs keep l h = some (l', h') ∧ SatH HF' fp' h' ∧ WF h' ∧ Frame fp h fp' h' := by
  obtain ⟨h', fp', k1, k2, k3, k4⟩ := hf.run hs hw
  refine ⟨h', fp', ?_, k2, k3, k4⟩
  unfold frzArgs
  rw [allA_eq]
  cases hc : l.all closedV with
  | false => exact k1
  | true =>
    have := frzL_closed (keep := keep) (n := 11) (h := h) hc
    rw [show frzL (frz keep (11 + 1)) l h = frzL (frz keep deep) l h from rfl, k1] at this
    cases this; rfl

/-! ### calls -/
section
variable {C : Ctx}

/-- A function that has a heap of its own: what it comes to. -/
def PFn (C : Ctx) (f : FuncId) (l : List AV) (v : AV) : Prop := l.all closedV = true ∧ ∀ ρ w us, VRL ρ l us.toList → HRel ρ AHeap.empty w → CallOk C.P f us w fun u w' => ∃ ρ' h' v0, VR ρ' v0 u ∧ Trans ρ AHeap.empty w ρ' h' w' ∧
  (((C.cfg.kind f).keep = false ∧ v0 = v ∧ plainV v = true) ∨ ((C.cfg.kind f).keep = true ∧ ∀ h, ∃ hc', give false v0 h' h = some (v, hc', h)))

theorem view_ok {P : Program} {f : FuncId} {args l : List AV} {h h1 : AHeap} {v : AV} {ρ : Rho} {w : World} {us : Array Value} (ha : frzArgs false args h = some (l, h1)) (hv : VRL ρ args us.toList) (H : HRel ρ h w)
    (hb : ∀ ρ w us, VRL ρ l us.toList → HRel ρ AHeap.empty w → CallOk P f us w fun u w' => ∃ ρ' h', VR ρ' v u ∧ plainV v = true ∧ Trans ρ AHeap.empty w ρ' h' w') : CallOk P f us w fun u w' => ∃ ρ', VR ρ' v u ∧ Trans ρ h w ρ' h w' := by
  have hv' := frzArgs_view ha hv H
  refine (hb (Rho.all w) w us hv' (empty_rel (w := w) (cellsOf w) (fun _ => false) fun _ _ h => h)).mono ?_
  rintro v' w' ⟨ρ', h', k1, hp, T⟩
  have same : ∀ b, b < w.heap.size → w'.heap[b]? = w.heap[b]? := fun b hb => T.kept b hb fun o x c hx => by rw [empty_get] at hx; cases hx
  have same' : ∀ {b : Nat} {y : Obj}, w.heap[b]? = some y → w'.heap[b]? = some y := fun {b y} hy => by rw [same b (Array.getElem?_eq_some_iff.mp hy).1]; exact hy
  refine ⟨ρ, plain_any _ _ hp k1, .refl ρ, ⟨fun o x hx => ?_, H.inj, H.fresh, fun b x hx => ?_, H.fixed⟩, fun b hb _ => same b hb, T.size, T.outp, T.os, fun o x c hx hf hc => .inl ⟨o, x, c, hx, hf, hc, rfl⟩, fun _ ho => .inl ho, Nat.le_refl _, fun _ hb => .inl hb, rfl⟩
  · obtain ⟨c, y, g1, g2, g3⟩ := H.objs o x hx
    exact ⟨c, y, g1, same' g2, g3⟩
  · obtain ⟨⟨e, fr, g1⟩, g2⟩ := H.rets b x hx
    exact ⟨⟨e, fr, same' g1⟩, g2⟩

theorem keep_ok {P : Program} {f : FuncId} {args l : List AV} {h h1 : AHeap} {v : AV} {ρ : Rho} {w : World} {us : Array Value} (ha : frzArgs true args h = some (l, h1)) (hv : VRL ρ args us.toList) (H : HRel ρ h w)
    (hb : ∀ ρ w us, VRL ρ l us.toList → HRel ρ AHeap.empty w → CallOk P f us w fun u w' => ∃ ρ' h' v0, VR ρ' v0 u ∧ Trans ρ AHeap.empty w ρ' h' w' ∧ ∀ h, ∃ hc', give false v0 h' h = some (v, hc', h)) : CallOk P f us w fun u w' => ∃ ρ', VR ρ' v u ∧ Trans ρ h w ρ' h1 w' := by
  obtain ⟨ρ1, t, hv'⟩ := frzArgs_ok (A := fun _ => false) ha hv H (Clear.no _ _ _)
  have H1 := t.t.rel
  refine (hb (ρ1.call w fun _ => false) w us hv' (empty_rel (w := w) ρ1.ret (fun _ => false) fun b x hx => H1.cellsOf (.inl hx))).mono ?_
  rintro v' w' ⟨ρc, rh, v0, k1, T, hgive⟩
  obtain ⟨hc', hx⟩ := hgive h1
  have same : ∀ b, b < w.heap.size → w'.heap[b]? = w.heap[b]? := fun b hb => T.kept b hb fun o x c hx => by rw [empty_get] at hx; cases hx
  have same' : ∀ {b : Nat} {y : Obj}, w.heap[b]? = some y → w'.heap[b]? = some y := fun {b y} hy => by rw [same b (Array.getElem?_eq_some_iff.mp hy).1]; exact hy
  have hrid : ∀ b, ρc.ret b ≠ none → ρ1.ret b ≠ none ∨ w.heap.size ≤ b := by
    intro b hb
    rcases T.rids b hb with hh | hh | ⟨o, x, c, hx, _⟩
    · exact .inl hh
    · exact .inr hh
    · rw [empty_get] at hx; cases hx
  have hext : Ext ρ1 (ρ1.rets ρc.ret) := ⟨fun _ _ h => h, T.ext.ret, fun _ _ h => h⟩
  have hnew : ∀ o x c, rh.get o = some x → x.fix = false → ρc o = some c → w.heap.size ≤ c.blk := by
    intro o x c hx hf hc
    rcases T.blks o x c hx hf hc with ⟨o₀, x₀, c₀, g, _⟩ | hh
    · rw [empty_get] at g; cases g
    · exact hh
  have j : J (ρ1.call w fun _ => false) .empty ρ h w w' ρc rh (ρ1.rets ρc.ret) h1 := by
    refine ⟨T, t.t.trans ⟨hext, ⟨fun o x hx => ?_, H1.inj, H1.fresh, ?_, ?_⟩, fun b hb _ => same b hb, T.size, T.outp, T.os, fun o x c hx hf hc => .inl ⟨o, x, c, hx, hf, hc, rfl⟩, fun _ ho => .inl ho, Nat.le_refl _, fun b hb => ?_, rfl⟩, rfl, ?_, ?_, hnew⟩
    · obtain ⟨c, y, g1, g2, g3⟩ := H1.objs o x hx
      exact ⟨c, y, g1, same' g2, ORel.mono hext _ _ g3⟩
    · intro b z hz
      rcases hz with hz | hz
      · replace hz : ρc.ret b = some z := hz
        refine ⟨(T.rel.rets b z (.inl hz)).1, fun o y c hy hf hc hb => ?_⟩
        rcases hrid b (by rw [hz]; simp) with hh | hh
        · cases hr : ρ1.ret b with
          | none => exact hh hr
          | some z' => exact (H1.rets b z' (.inl hr)).2 o y c hy hf hc hb
        · have := H1.blk hy hc
          omega
      · obtain ⟨⟨e, fr, g1⟩, g2⟩ := H1.rets b z (.inr hz)
        exact ⟨⟨e, fr, same' g1⟩, g2⟩
    · intro o x c hx hf hc hh
      have := H1.fixed o x c hx hf hc
      cases hr : ρ1.ret c.blk with
      | none => exact this hr
      | some z' => have := hext.ret _ _ hr; rw [hh] at this; cases this
    · rcases hrid b hb with hh | hh
      · exact .inl hh
      · exact .inr (.inl hh)
    · intro o x c o' x' c' hx hf hc hx' _ hc' hb
      have h1 := hnew o x c hx hf hc
      have h2 := H1.blk hx' hc'
      omega
    · intro o x c hx hf hc
      have h1 := hnew o x c hx hf hc
      cases hr : (ρ1.rets ρc.ret).view c.blk with
      | none => rfl
      | some z =>
        obtain ⟨⟨e, fr, g1⟩, _⟩ := H1.rets c.blk z (.inr hr)
        have := (Array.getElem?_eq_some_iff.mp g1).1
        omega
  obtain ⟨ρ', T', v''⟩ := give_ok j hx k1
  exact ⟨ρ', v'', T'⟩

theorem frz_still : ∀ (n : Nat) (v : AV) (h : AHeap) (r : AV × AHeap), frz false n v h = some r → r.2 = h := by
  intro n
  induction n with
  | zero => intro v h r hr; cases hr
  | succ n ih =>
    have ihL : ∀ (l : List AV) (h : AHeap) (r : List AV × AHeap), frzL (frz false n) l h = some r → r.2 = h := by
      intro l
      induction l with
      | nil => intro h r hr; cases hr; rfl
      | cons a t iht =>
        intro h r hr
        obtain ⟨x, hx, hr⟩ := bnd_eq_some.mp (show (bnd (frz false n a h) fun x => bnd (frzL (frz false n) t x.2) fun y => some (x.1 :: y.1, y.2)) = some r from hr)
        obtain ⟨y, hy, hr⟩ := bnd_eq_some.mp hr
        cases hr
        have := ih _ _ _ hx
        rw [← this]; exact iht _ y hy
    have ihC : ∀ (l : List AV) (h : AHeap) (r : List AV × AHeap × Bool), frzCells (frz false n) l h = some r → r.2.1 = h := by
      intro l h r hr
      unfold frzCells at hr
      rw [cnd_eq] at hr
      split at hr
      · cases hr; rfl
      · obtain ⟨x, hx, hr⟩ := bnd_eq_some.mp hr
        cases hr
        exact ihL _ _ _ hx
    intro v h r hr
    replace hr : cnd (closedV v) (some (v, h)) (frzStep (frz false n) false v h) = some r := hr
    rw [cnd_eq] at hr
    split at hr
    · cases hr; rfl
    · unfold frzStep at hr
      split at hr
      · cases hr; rfl
      · unfold frzSlice at hr
        rw [cnd_eq] at hr
        split at hr
        · cases hr; rfl
        · obtain ⟨x1, _, hr⟩ := bnd_eq_some.mp hr
          obtain ⟨x2, _, hr⟩ := bnd_eq_some.mp hr
          obtain ⟨x3, hx3, hr⟩ := bnd_eq_some.mp hr
          obtain ⟨x4, hx4, hr⟩ := bnd_eq_some.mp hr
          cases hr
          replace hx4 : some x3.2.1 = some x4 := hx4
          cases hx4
          exact ihC _ _ _ hx3
      · unfold frzPtr at hr
        obtain ⟨x1, _, hr⟩ := bnd_eq_some.mp hr
        obtain ⟨x2, hx2, hr⟩ := bnd_eq_some.mp hr
        cases hr
        exact ihC _ _ _ hx2
      · obtain ⟨x1, hx1, hr⟩ := bnd_eq_some.mp hr
        cases hr; exact ihL _ _ _ hx1
      · obtain ⟨x1, hx1, hr⟩ := bnd_eq_some.mp hr
        cases hr; exact ihL _ _ _ hx1
      · obtain ⟨x1, hx1, hr⟩ := bnd_eq_some.mp hr
        obtain ⟨x2, hx2, hr⟩ := bnd_eq_some.mp hr
        cases hr
        have e1 := ihL _ _ _ hx1
        have e2 := ihL _ _ _ hx2
        exact e2.trans e1
      · obtain ⟨x1, hx1, hr⟩ := bnd_eq_some.mp hr
        cases hr; exact ih _ _ x1 hx1
      · rw [cnd_eq] at hr
        split at hr
        · cases hr; rfl
        · cases hr
      · cases hr
theorem frzArgs_still {l : List AV} {h : AHeap} {r : List AV × AHeap} (hf : frzArgs false l h = some r) : r.2 = h := by
  unfold frzArgs at hf
  rw [cnd_eq] at hf
  split at hf
  · cases hf; rfl
  · have keyL : ∀ (l : List AV) (h : AHeap) (r : List AV × AHeap), frzL (frz false deep) l h = some r → r.2 = h := by
      intro l
      induction l with
      | nil => intro h r hr; cases hr; rfl
      | cons a t iht =>
        intro h r hr
        obtain ⟨x, hx, hr⟩ := bnd_eq_some.mp (show (bnd (frz false deep a h) fun x => bnd (frzL (frz false deep) t x.2) fun y => some (x.1 :: y.1, y.2)) = some r from hr)
        obtain ⟨y, hy, hr⟩ := bnd_eq_some.mp hr
        cases hr
        have := frz_still _ _ _ _ hx
        rw [← this]; exact iht _ y hy
    exact keyL _ _ _ hf

/-- What a call does: K of its value and of what is known of the heap behind it. -/
def CallW (C : Ctx) (f : FuncId) (l : List AV) (HF : List HI) (K : AV → List HI → Prop) : Prop :=
  ∀ h fp, SatH HF fp h → WF h → ∀ ρ w us, VRL ρ l us.toList → HRel ρ h w → CallOk C.P f us w fun u w' => ∃ v ρ' h' fp' HF', VR ρ' v u ∧ Trans ρ h w ρ' h' w' ∧ SatH HF' fp' h' ∧ WF h' ∧ Frame fp h fp' h' ∧ K v HF'

theorem cw_fn {f : FuncId} {keep : Bool} {l l' : List AV} {v : AV} {HF HF' : List HI} {K : AV → List HI → Prop} (hs : C.cfg.sum f = none) (hk : C.cfg.kind f = ⟨true, keep, false, false, false⟩) (hf : FrzRL keep deep HF l l' HF') (hr : PFn C f l' v) (k : K v HF') : CallW C f l HF K := by
  intro h fp h1 h2 ρ w us hv H
  obtain ⟨h', fp', k1, k2, k3, k4⟩ := frzArgs_run hf h1 h2
  cases keep with
  | true =>
    refine (keep_ok (v := v) k1 hv H fun ρ w us a b => (hr.2 ρ w us a b).mono ?_).mono ?_
    · rintro u w' ⟨ρ', h'', v0, g1, g2, ⟨e, _⟩ | ⟨_, g3⟩⟩
      · rw [hk] at e; cases e
      · exact ⟨ρ', h'', v0, g1, g2, g3⟩
    · rintro u w' ⟨ρ', g1, g2⟩
      exact ⟨v, ρ', h', fp', HF', g1, g2, k2, k3, k4, k⟩
  | false =>
    have e1 := frzArgs_still k1
    simp only at e1; subst e1
    refine (view_ok (v := v) k1 hv H fun ρ w us a b => (hr.2 ρ w us a b).mono ?_).mono ?_
    · rintro u w' ⟨ρ', h'', v0, g1, g2, ⟨_, rfl, g3⟩ | ⟨e, _⟩⟩
      · exact ⟨ρ', h'', g1, g3, g2⟩
      · rw [hk] at e; cases e
    · rintro u w' ⟨ρ', g1, g2⟩
      exact ⟨v, ρ', h', fp', HF', g1, g2, k2, k3, k4, k⟩

theorem exec_call {P : Program} {o : Oper} {x : Operand} {f : FuncId} {args : Array Operand} {ts : Array TypeId} {a : Act} {w : World} {pre post : Array Value} {R : Value → World → Prop} (ho : o.op = .call ⟨.value x, args, ts⟩) (hx : a.eval x = .func (.func f) pre post)
    (hc : CallOk P f (pre ++ args.map a.eval ++ post) w R) : ExecOk P o a w R := by
  refine .inr ⟨f, _, ?_, hc⟩
  unfold execOp; rw [ho]
  simp only [resolve, Sem.run_bind, hx, Deferred.ofValue, Sem.run_pure, Result.andThen_ok, invoke]

variable {n d : Nat} {all r : List Oper} {ty : TypeId} {pos : String} {after : Array Edge} {E : Fs} {HF : List HI} {Q : Fs → List HI → Prop}
theorem w_callX {dst : Option Tmp} {x : Operand} {f : FuncId} {args : Array Operand} {ts : Array TypeId} {l a b : List AV} (hg : ev E x = some (.func (.func f) a b)) (hl : evs E args.toList = some l)
    (hc : CallW C f (a ++ (l ++ b)) HF fun v HF' => ∃ E', (∀ e, Sat n E e → Sat n E' (putD e dst v)) ∧ WS C n all r E' HF' Q) :
    WS C n all (⟨dst, .call ⟨.value x, args, ts⟩, ty, pos, after, none⟩ :: r) E HF Q :=
  ws_opX rfl (by show (2 : Nat) ≠ 0; decide) fun e h fp h1 h2 h3 ρ w ac ea he hse H => by
    have hgv := opv_VR he ((hse.opv (x := x) (by simp [Op.operands, Call.operands])).trans (ev_opv h1 hg))
    simp only [VR] at hgv
    obtain ⟨y, z, k1, k2, k3⟩ := hgv
    have hv : VRL ρ l (args.map ac.eval).toList := by rw [Array.toList_map]; exact opvs_VRL he ((opvs_congr fun y hy => hse.opv (x := y) (by simp [Op.operands, Call.operands, (by simpa using hy : y ∈ args)])).trans (evs_opvs h1 hl))
    have hall : VRL ρ (a ++ (l ++ b)) (y ++ args.map ac.eval ++ z).toList := by
      simp only [Array.toList_append, List.append_assoc]
      exact VRL.append k2 (VRL.append hv k3)
    refine .of (exec_call rfl k1 ((hc h fp h2 h3 ρ w _ hall H).mono ?_))
    rintro u w' ⟨v, ρ', h', fp', HF', g1, g2, g3, g4, g5, E', g6, g7⟩
    exact ⟨v, ρ', h', fp', E', HF', g1, g2, g6 e h1, g3, g4, g5, g7⟩
theorem w_call {f : FuncId} {args : Array Operand} {ts : Array TypeId} {l : List AV} (hd : Nat.blt d n = true) (hl : evs E args.toList = some l) (hc : CallW C f l HF fun v HF' => WS C n all r ((d, v) :: E) HF' Q) :
    WS C n all (⟨some d, .call ⟨.value (.func f), args, ts⟩, ty, pos, after, none⟩ :: r) E HF Q := by
  refine w_callX (a := []) (b := []) rfl hl ?_
  rw [List.nil_append, List.append_nil]
  intro h fp k1 k2 ρ w us k3 k4
  refine (hc h fp k1 k2 ρ w us k3 k4).mono ?_
  rintro u w' ⟨v, ρ', h', fp', HF', g1, g2, g3, g4, g5, g6⟩
  exact ⟨v, ρ', h', fp', HF', g1, g2, g3, g4, g5, _, fun e hs => hs.put d v hd, g6⟩
/-! ### what a function comes to -/
def argsE (i : Nat) : List AV → Fs
  | [] => []
  | a :: r => (i, a) :: argsE (i + 1) r
theorem lk_args : ∀ (l : List AV) (i t : Nat) (v : AV), lk (argsE i l) t = some v → i ≤ t ∧ l[t - i]? = some v
  | [], _, _, _, h => by cases h
  | a :: r, i, t, v, h => by
    replace h : lk ((i, a) :: argsE (i + 1) r) t = some v := h
    rw [lk_cons] at h
    split at h
    · rename_i e; subst e; cases h; simp
    · obtain ⟨h1, h2⟩ := lk_args r (i + 1) t v h
      refine ⟨by omega, ?_⟩
      rw [show t - i = (t - (i + 1)) + 1 by omega]; exact h2
theorem sat_args {l : List AV} (hl : Nat.ble l.length n = true) : Sat n (argsE 0 l) (pad l n) := by
  rw [bleN] at hl
  have hu : ∀ k, (undefs k).length = k := by
    intro k; induction k with
    | zero => rfl
    | succ k ih => show (AV.undef :: undefs k).length = _; rw [List.length_cons, ih]
  refine ⟨?_, fun t v ht => ?_⟩
  · unfold pad; rw [app_eq, dropU_eq, List.length_append, hu]; omega
  · obtain ⟨_, h2⟩ := lk_args l 0 t v ht
    rw [Nat.sub_zero] at h2
    unfold pad
    rw [app_eq, nth_eq, List.getD_eq_getElem?_getD, List.getElem?_append_left (List.getElem?_eq_some_iff.mp h2).1, h2]; rfl

inductive ResV (C : Ctx) (E : Fs) (HF : List HI) : ResultVar → AV → Prop where
  | tmp {t : Tmp} {v : AV} (h : lk E t = some v) : ResV C E HF (.tmp t) v
  | cell1 {a ty o off e s : Nat} {f : Bool} {cs : List AV} {HR : List HI} {v : AV} (h : lk E a = some (.ptr (some ⟨o, off⟩))) (ha : aggOf C.P ty = some false) (t : Take HF (.obj o (.row e s f cs)) HR) (hl : cs[off]? = some v) : ResV C E HF (.cell a ty) v
  | cellA {a ty o off e s k : Nat} {f : Bool} {cs l : List AV} {HR : List HI} (h : lk E a = some (.ptr (some ⟨o, off⟩))) (ha : aggOf C.P ty = some true) (hz : szOf C.P ty = some k) (t : Take HF (.obj o (.row e s f cs)) HR) (hl : slots cs off k = some l) : ResV C E HF (.cell a ty) (.agg l)
inductive ResL (C : Ctx) (E : Fs) (HF : List HI) : List ResultVar → List AV → Prop where
  | nil : ResL C E HF [] []
  | cons {r : ResultVar} {v : AV} {rs : List ResultVar} {vs : List AV} (h : ResV C E HF r v) (h' : ResL C E HF rs vs) : ResL C E HF (r :: rs) (v :: vs)
theorem ResV.run {rv : ResultVar} {v : AV} (h : ResV C E HF rv v) {e : Env} {hh : AHeap} {fp : List Nat} (h1 : Sat n E e) (h2 : SatH HF fp hh) : resultV C.P hh e rv = some v := by
  cases h with
  | tmp h => show some (nth e _) = _; rw [h1.get _ _ h]
  | cell1 h ha t hl =>
    show (loadF C.P _).run hh (nth e _) = _
    rw [h1.get _ _ h]
    unfold loadF; simp only [ha]
    show (bnd (rowAt hh _) fun r => cellAt r.cells _) = _
    rw [rowAt_of (t.obj h2).1, bnd_some, cellAt_eq, hl]
  | cellA h ha hz t hl =>
    show (loadF C.P _).run hh (nth e _) = _
    rw [h1.get _ _ h]
    unfold loadF; simp only [ha, hz]
    show (bnd (bnd (rowAt hh _) fun r => slots r.cells _ _) fun l => some (AV.agg l)) = _
    rw [rowAt_of (t.obj h2).1, bnd_some, hl]; rfl
theorem ResL.run {rs : List ResultVar} {vs : List AV} (h : ResL C E HF rs vs) {e : Env} {hh : AHeap} {fp : List Nat} (h1 : Sat n E e) (h2 : SatH HF fp hh) : resultsV C.P hh e rs = some vs := by
  induction h with
  | nil => rfl
  | cons h _ ih =>
    show (bnd (resultV C.P hh e _) fun a => bnd (resultsV C.P hh e _) fun l => some (a :: l)) = _
    rw [h.run h1 h2, bnd_some, ih]; rfl

/-- What a body ends with. -/
def PlainQ (C : Ctx) (res : List ResultVar) (v : AV) : Post := fun x E HF =>
  match x with
  | .exit _ => False
  | _ => ∃ vs, ResL C E HF res vs ∧ v = oneOf vs ∧ plainV v = true
def KeepQ (C : Ctx) (res : List ResultVar) (v : AV) : Post := fun x E HF =>
  match x with
  | .exit _ => False
  | _ => ∃ vs ws HF', ResL C E HF res vs ∧ FrzRL true deep HF vs ws HF' ∧ ws.all doneV = true ∧ v = oneOf ws

theorem body_ok {f : FuncId} {fn : Func} {c : Code} (hf : C.P.funcs[f]? = some fn) (hn : (fn.name == "runtime.NumGoroutine") = false) (hb : fn.body = some c) {l : List AV} (hl : Nat.ble l.length fn.ntmps = true) {HF : List HI} {Q : Post} (h : WC C fn.ntmps c (argsE 0 l) HF Q)
    {S : List AV → List HI → Prop} (hq : ∀ x E HF, Q x E HF → (∀ i, x ≠ .exit i) ∧ ∃ vs, ResL C E HF fn.results.toList vs ∧ S vs HF) {hh : AHeap} {fp : List Nat} (h1 : SatH HF fp hh) (h2 : WF hh) {ρ : Rho} {w : World} {us : Array Value} (hv : VRL ρ l us.toList) (H : HRel ρ hh w) :
    CallOk C.P f us w fun u w' => ∃ vs ρ' h' fp' HF', VR ρ' (oneOf vs) u ∧ Trans ρ hh w ρ' h' w' ∧ SatH HF' fp' h' ∧ WF h' ∧ Frame fp hh fp' h' ∧ S vs HF' := by
  have hname : ¬ fn.name = "runtime.NumGoroutine" := by simpa using hn
  refine .inl ⟨by simp [callFunc, hf, hname, hb], calls_of_wp hf hb (wp_mono (h (pad l fn.ntmps) hh fp (sat_args hl) h1 h2 ρ w { tmps := us ++ Array.replicate (fn.ntmps - us.size) Go.undef, defers := [] } (pad_VRL _ hv) H) ?_)⟩
  rintro ex a' w' ⟨x, rfl, ρ', e', h', fp', E', HF', g1, g2, g3, g4, g5, g6, g7, g8⟩
  obtain ⟨hx, vs, m1, m2⟩ := hq x E' HF' g8
  have fin : ∃ v', (results fn a'.tmps).run C.P w' = .ok v' w' ∧ ∃ v'', Ending.returned v' = .returned v'' ∧ ∃ vs ρ' h' fp' HF', VR ρ' (oneOf vs) v'' ∧ Trans ρ hh w ρ' h' w' ∧ SatH HF' fp' h' ∧ WF h' ∧ Frame fp hh fp' h' ∧ S vs HF' := by
    obtain ⟨us', q1, q2⟩ := results_run (P := C.P) g1 g3.rel (m1.run g4 g5)
    refine ⟨_, ?_, _, rfl, vs, ρ', h', fp', HF', oneOf_VR (us := us'.toArray) (by simpa using q2), g3, g5, g6, g7, m2⟩
    unfold results
    rw [Array.mapM_eq_mapM_toList]
    simp only [Sem.run_bind, Sem.run_map, Sem.run_pure]
    exact (congrArg (fun r : Result (List Value) => (r.andThen fun a w' => Result.ok a.toArray w').andThen fun (a : Array Value) w' => Result.ok (if h : a.size = 1 then a[0] else Value.tuple a) w') q1).trans rfl
  cases x with
  | exit i => exact absurd rfl (hx i)
  | normal => exact ⟨g2, fin⟩
  | ret => exact ⟨g2, fin⟩

theorem wf_empty : WF AHeap.empty := fun o x hx => by rw [empty_get] at hx; cases hx

/-- A function that only looks, and tells what is plain. -/
theorem fn_view {f : FuncId} {fn : Func} {c : Code} {own : Bool} {l : List AV} {v : AV} (hs : C.cfg.sum f = none) (hk : C.cfg.kind f = ⟨true, false, own, false, false⟩) (hf : C.P.funcs[f]? = some fn) (hn : (fn.name == "runtime.NumGoroutine") = false) (hb : fn.body = some c)
    (hl : Nat.ble l.length fn.ntmps = true) (hc : l.all closedV = true) (h : WC C fn.ntmps c (argsE 0 l) [] (PlainQ C fn.results.toList v)) : PFn C f l v := by
  refine ⟨hc, fun ρ w us hv H => ?_⟩
  refine (body_ok hf hn hb hl h (S := fun vs _ => v = oneOf vs ∧ plainV v = true) ?_ (fp := []) rfl wf_empty hv H).mono ?_
  · intro x E HF q
    cases x with
    | exit i => exact q.elim
    | normal => obtain ⟨vs, m1, m2, m3⟩ := q; exact ⟨fun _ h => (by cases h), vs, m1, m2, m3⟩
    | ret => obtain ⟨vs, m1, m2, m3⟩ := q; exact ⟨fun _ h => (by cases h), vs, m1, m2, m3⟩
  · rintro u w' ⟨vs, ρ', h', fp', HF', g1, g2, _, _, _, e, hp⟩
    exact ⟨ρ', h', oneOf vs, g1, g2, .inl ⟨by rw [hk], e.symm, hp⟩⟩

theorem give_done {own : Bool} {v : AV} {hc h : AHeap} (hd : doneV v = true) : giveV own v hc h = some (v, hc, h) := by
  have e : giveFrz v hc h = some (v, hc, h) := by unfold giveFrz; rw [hd]; rfl
  unfold giveV
  split
  · cases hd
  · cases hd
  · exact e
theorem giveFrz_run {v v' : AV} {HF HF' : List HI} (hf : FrzR true deep HF v v' HF') (hd : doneV v' = true) {fp : List Nat} {hc h : AHeap} (hs : SatH HF fp hc) (hw : WF hc) :
    ∃ hc' fp', giveFrz v hc h = some (v', hc', h) ∧ SatH HF' fp' hc' ∧ WF hc' := by
  obtain ⟨hc', fp', k1, k2, k3, _⟩ := hf.run hs hw
  refine ⟨hc', fp', ?_, k2, k3⟩
  unfold giveFrz
  cases hdv : doneV v with
  | true =>
    have hcl : closedV v = true := by
      have := done_closed [v] (by simp [hdv])
      rw [closedL_eq] at this; simpa using this
    have := frz_closed (keep := true) (n := 11) (h := hc) hcl
    rw [show frz true (11 + 1) v hc = frz true deep v hc from rfl, k1] at this
    cases this; rfl
  | false => rw [cnd_false, k1, bnd_some, hd]; rfl
theorem giveV_run {v v' : AV} {HF HF' : List HI} (hf : FrzR true deep HF v v' HF') (hd : doneV v' = true) {fp : List Nat} {hc h : AHeap} (hs : SatH HF fp hc) (hw : WF hc) :
    ∃ hc' fp', giveV false v hc h = some (v', hc', h) ∧ SatH HF' fp' hc' ∧ WF hc' := by
  obtain ⟨hc', fp', k1, k2⟩ := giveFrz_run (h := h) hf hd hs hw
  refine ⟨hc', fp', ?_, k2⟩
  rw [← k1]
  unfold giveV
  split <;> rfl
theorem giveL_run : ∀ {vs ws : List AV} {HF HF' : List HI}, FrzRL true deep HF vs ws HF' → ws.all doneV = true → ∀ {fp : List Nat} {hc h : AHeap}, SatH HF fp hc → WF hc → ∃ hc' fp', giveL false vs hc h = some (ws, hc', h) ∧ SatH HF' fp' hc' ∧ WF hc'
  | _, _, _, _, .nil, _, fp, hc, h, hs, hw => ⟨hc, fp, rfl, hs, hw⟩
  | _, _, _, _, .cons (a := a) (l := l) ha hl, hd, fp, hc, h, hs, hw => by
    rw [List.all_cons, Bool.and_eq_true] at hd
    obtain ⟨hc1, fp1, k1, k2, k3⟩ := giveV_run (h := h) ha hd.1 hs hw
    obtain ⟨hc2, fp2, m1, m2, m3⟩ := giveL_run (h := h) hl hd.2 k2 k3
    refine ⟨hc2, fp2, ?_, m2, m3⟩
    show (bnd (giveV false a hc h) fun x => bnd (giveL false l x.2.1 x.2.2) fun y => some (x.1 :: y.1, y.2.1, y.2.2)) = _
    rw [k1, bnd_some, m1]; rfl

theorem give_all {vs ws : List AV} {HF HG : List HI} {fp : List Nat} {h' : AHeap} (m2 : FrzRL true deep HF vs ws HG) (m3 : ws.all doneV = true) (k3 : SatH HF fp h') (k3w : WF h') (h : AHeap) : ∃ hc', give false (oneOf vs) h' h = some (oneOf ws, hc', h) := by
  have tup : ∀ {vs : List AV}, FrzRL true deep HF vs ws HG → oneOf vs = .tuple vs → oneOf ws = .tuple ws → ∃ hc', give false (oneOf vs) h' h = some (oneOf ws, hc', h) := by
    intro vs hfr e1 e2
    obtain ⟨hc', _, g, _⟩ := giveL_run (h := h) hfr m3 k3 k3w
    rw [e1, e2]
    refine ⟨hc', ?_⟩
    show (bnd (giveL false vs h' h) fun x => some (AV.tuple x.1, x.2.1, x.2.2)) = _
    rw [g]; rfl
  cases m2 with
  | nil => exact tup .nil rfl rfl
  | @cons _ _ _ _ a a' l1 l1' ha hl' =>
    cases hl' with
    | cons hb' hl'' => exact tup (.cons ha (.cons hb' hl'')) rfl rfl
    | nil =>
      rw [List.all_cons, Bool.and_eq_true] at m3
      obtain ⟨hc', _, g, _⟩ := giveV_run (h := h) ha m3.1 k3 k3w
      show ∃ hc', give false a h' h = some (a', hc', h)
      unfold give
      split
      · rename_i us
        -- a tuple: it is done already
        have hcl : a' = .tuple us ∧ doneV (.tuple us) = true := by
          cases ha with
          | closed hcc => exact ⟨rfl, m3.1⟩
          | ownK _ t _ =>
            obtain ⟨own, q1, _⟩ := t.get k3
            rcases q1 with ⟨_, ⟨_, q⟩ | q, _⟩ | ⟨o, _, q, _⟩ <;> cases q
          | ownV hk _ _ => cases hk
        obtain ⟨rfl, hdone⟩ := hcl
        have hdl : us.all doneV = true := by rw [← doneL_eq]; exact hdone
        have all : ∀ (us : List AV), us.all doneV = true → giveL false us h' h = some (us, h', h) := by
          intro us
          induction us with
          | nil => intro _; rfl
          | cons b r ih =>
            intro hd
            rw [List.all_cons, Bool.and_eq_true] at hd
            show (bnd (giveV false b h' h) fun x => bnd (giveL false r x.2.1 x.2.2) fun y => some (x.1 :: y.1, y.2.1, y.2.2)) = _
            rw [give_done hd.1, bnd_some, ih hd.2]; rfl
        exact ⟨h', by simp only [all us hdl]; rfl⟩
      · exact ⟨hc', g⟩

/-- A function that tells what is frozen for good. -/
theorem fn_keep {f : FuncId} {fn : Func} {c : Code} {l : List AV} {v : AV} (hs : C.cfg.sum f = none) (hk : C.cfg.kind f = ⟨true, true, false, false, false⟩) (hf : C.P.funcs[f]? = some fn) (hn : (fn.name == "runtime.NumGoroutine") = false) (hb : fn.body = some c)
    (hl : Nat.ble l.length fn.ntmps = true) (hc : l.all closedV = true) (h : WC C fn.ntmps c (argsE 0 l) [] (KeepQ C fn.results.toList v)) : PFn C f l v := by
  refine ⟨hc, fun ρ w us hv H => ?_⟩
  refine (body_ok hf hn hb hl h (S := fun vs HF => ∃ ws HG, FrzRL true deep HF vs ws HG ∧ ws.all doneV = true ∧ v = oneOf ws) ?_ (fp := []) rfl wf_empty hv H).mono ?_
  · intro x E HF q
    cases x with
    | exit i => exact q.elim
    | normal => obtain ⟨vs, ws, HG, m1, m2, m3, m4⟩ := q; exact ⟨fun _ h => (by cases h), vs, m1, ws, HG, m2, m3, m4⟩
    | ret => obtain ⟨vs, ws, HG, m1, m2, m3, m4⟩ := q; exact ⟨fun _ h => (by cases h), vs, m1, ws, HG, m2, m3, m4⟩
  · rintro u w' ⟨vs, ρ', h', fp', HF', g1, g2, g3, g4, _, ws, HG, m2, m3, rfl⟩
    exact ⟨ρ', h', oneOf vs, g1, g2, .inr ⟨by rw [hk], fun h => give_all m2 m3 g3 g4 h⟩⟩

end
end
end Go.Proofs.YtonojkcnencodaaDoor.BH
