/-
  BH: calls whose callee has a heap of its own are sound.
-/
import Derived.Test.YtonojkcnencodaaDoorBhPure2
namespace Go.Proofs.YtonojkcnencodaaDoor.BH

section
variable {P : Program} {ρ : Rho} {h : AHeap} {w : World}

theorem empty_get (o : Nat) : AHeap.empty.get o = none := by unfold AHeap.empty AHeap.get; simp [T.get_leaf]

/-- The places, with other frozen blocks. -/
def Rho.rets (ρ : Rho) (r : Nat → Option (Array Value)) : Rho := ⟨ρ.loc, r, ρ.view⟩

theorem FT.blks' {ρ' : Rho} {h' : AHeap} (a : FT ρ h ρ' h' w) {o : Nat} {x : AObj} {c : CLoc} (hx : h'.get o = some x) (hf : x.fix = false) (hc : ρ' o = some c) :
    ∃ o₀ x₀ c₀, h.get o₀ = some x₀ ∧ x₀.fix = false ∧ ρ o₀ = some c₀ ∧ c₀.blk = c.blk := by
  rcases a.t.blks o x c hx hf hc with hh | hh
  · exact hh
  · have := a.t.rel.blk hx hc; omega
theorem FT.rids' {ρ' : Rho} {h' : AHeap} (a : FT ρ h ρ' h' w) {b : Nat} (hb : ρ'.ret b ≠ none) : ρ.ret b ≠ none ∨ ∃ o x c, h.get o = some x ∧ x.fix = false ∧ ρ o = some c ∧ c.blk = b := by
  rcases a.t.rids b hb with hh | hh | hh
  · exact .inl hh
  · cases hr : ρ'.ret b with
    | none => exact absurd hr hb
    | some z =>
      obtain ⟨⟨e, fr, g⟩, _⟩ := a.t.rel.rets b z (.inl hr)
      have := (Array.getElem?_eq_some_iff.mp g).1
      omega
  · exact .inr hh

/-- An object that joins a heap. -/
theorem HRel.add {ρ' : Rho} {h' : AHeap} (H : HRel ρ h w) {o : Nat} {x : AObj} {c : CLoc} {y : Obj} (he : Ext ρ ρ') (er : ρ'.ret = ρ.ret) (ev : ρ'.view = ρ.view) (el : ∀ p, p ≠ o → ρ' p = ρ p)
    (hg : ∀ p, h'.get p = if p = o then some x else h.get p) (hn : ∀ p, h'.next ≤ p → ρ' p = none) (hc : ρ' o = some c) (hf : x.fix = false) (hy : w.heap[c.blk]? = some y) (hr : ORel ρ' c x y)
    (hret : ρ.ret c.blk = none) (hview : ρ.view c.blk = none) (hap : ∀ p z d, p ≠ o → h.get p = some z → z.fix = false → ρ p = some d → d.blk ≠ c.blk) : HRel ρ' h' w where
  objs := by
    intro p z hz
    rw [hg] at hz
    by_cases e : p = o
    · rw [if_pos e] at hz; cases hz; subst e; exact ⟨c, y, hc, hy, hr⟩
    · rw [if_neg e] at hz
      obtain ⟨d, y', g1, g2, g3⟩ := H.objs p z hz
      exact ⟨d, y', he.loc _ _ g1, g2, ORel.mono he _ _ g3⟩
  inj := by
    have apart : ∀ p z d, p ≠ o → h.get p = some z → ρ p = some d → d.blk ≠ c.blk := by
      intro p z d hp hz hd
      cases hzf : z.fix with
      | false => exact hap p z d hp hz hzf hd
      | true => intro e; exact H.fixed p z d hz hzf hd (by rw [e]; exact hret)
    intro p q z z' d d' hz hz' hd hd' hb
    rw [hg] at hz hz'
    by_cases e : p = o
    · by_cases e' : q = o
      · exact .inl (e.trans e'.symm)
      · rw [if_neg e'] at hz'
        subst e
        rw [hc] at hd; cases hd
        exact absurd hb.symm (apart q z' d' e' hz' (by rw [← el q e']; exact hd'))
    · rw [if_neg e] at hz
      by_cases e' : q = o
      · subst e'
        rw [hc] at hd'; cases hd'
        exact absurd hb (apart p z d e hz (by rw [← el p e]; exact hd))
      · rw [if_neg e'] at hz'
        exact H.inj p q z z' d d' hz hz' (by rw [← el p e]; exact hd) (by rw [← el q e']; exact hd') hb
  fresh := hn
  rets := by
    intro b z hz
    rw [er, ev] at hz
    obtain ⟨g1, g2⟩ := H.rets b z hz
    refine ⟨g1, fun p y d hp hpf hd => ?_⟩
    rw [hg] at hp
    by_cases e : p = o
    · subst e
      rw [hc] at hd; cases hd
      intro e; subst e
      rcases hz with hz | hz
      · rw [hret] at hz; cases hz
      · rw [hview] at hz; cases hz
    · rw [if_neg e] at hp; exact g2 p y d hp hpf (by rw [← el p e]; exact hd)
  fixed := by
    intro p z d hz hzf hd
    rw [hg] at hz
    rw [er]
    by_cases e : p = o
    · rw [if_pos e] at hz; cases hz; rw [hf] at hzf; cases hzf
    · rw [if_neg e] at hz; exact H.fixed p z d hz hzf (by rw [← el p e]; exact hd)

/-! ### behind a callee -/
/-- A callee's heap and its caller's, side by side. w: ahead of the call. -/
structure J (ρ0 : Rho) (h0 : AHeap) (ρ1 : Rho) (h1 : AHeap) (w w' : World) (ρc : Rho) (hc : AHeap) (ρ : Rho) (h : AHeap) : Prop where
  a : Trans ρ0 h0 w ρc hc w'
  b : Trans ρ1 h1 w ρ h w'
  ret : ρ.ret = ρc.ret
  disj : ∀ o x c o' x' c', hc.get o = some x → x.fix = false → ρc o = some c → h.get o' = some x' → x'.fix = false → ρ o' = some c' → c.blk ≠ c'.blk
  vdisj : ∀ o x c, hc.get o = some x → x.fix = false → ρc o = some c → ρ.view c.blk = none
  new : ∀ o x c, hc.get o = some x → x.fix = false → ρc o = some c → w.heap.size ≤ c.blk

variable {ρ0 ρ1 : Rho} {h0 h1 : AHeap} {w' : World} {ρc : Rho} {hc : AHeap}

/-- Something of the callee's is frozen. -/
theorem J.step (q : J ρ0 h0 ρ1 h1 w w' ρc hc ρ h) {ρc' : Rho} {hc' : AHeap} (t : FT ρc hc ρc' hc' w') : J ρ0 h0 ρ1 h1 w w' ρc' hc' (ρ.rets ρc'.ret) h ∧ Ext ρ (ρ.rets ρc'.ret) := by
  have hext : Ext ρ (ρ.rets ρc'.ret) := ⟨fun _ _ h => h, fun b x hx => t.t.ext.ret b x (by rw [← q.ret]; exact hx), fun _ _ h => h⟩
  refine ⟨⟨q.a.trans t.t, ⟨q.b.ext.trans hext, ?_, q.b.kept, q.b.size, q.b.outp, q.b.os, q.b.blks, q.b.ids, q.b.next, ?_, q.b.views⟩, rfl, ?_, ?_, ?_⟩, hext⟩
  · have H := q.b.rel
    refine ⟨fun p z hz => ?_, H.inj, H.fresh, ?_, ?_⟩
    · obtain ⟨d, y, g1, g2, g3⟩ := H.objs p z hz
      exact ⟨d, y, g1, g2, ORel.mono hext _ _ g3⟩
    · intro b z hz
      rcases hz with hz | hz
      · replace hz : ρc'.ret b = some z := hz
        refine ⟨(t.t.rel.rets b z (.inl hz)).1, fun p y d hp hpf hd hb => ?_⟩
        rcases t.rids' (b := b) (by rw [hz]; simp) with hh | ⟨o, x, c, k1, k2, k3, k4⟩
        · rw [← q.ret] at hh
          cases hr : ρ.ret b with
          | none => exact hh hr
          | some z' => exact (H.rets b z' (.inl hr)).2 p y d hp hpf hd hb
        · exact q.disj o x c p y d k1 k2 k3 hp hpf hd (k4.trans hb.symm)
      · exact H.rets b z (.inr hz)
    · intro p z d hz hzf hd
      have := H.fixed p z d hz hzf hd
      intro hh
      cases hr : ρ.ret d.blk with
      | none => exact this hr
      | some z' => have := hext.ret _ _ hr; rw [hh] at this; cases this
  · intro b hb
    replace hb : ρc'.ret b ≠ none := hb
    rcases t.rids' hb with hh | ⟨o, x, c, k1, k2, k3, k4⟩
    · rw [← q.ret] at hh; exact q.b.rids b hh
    · have := q.new o x c k1 k2 k3
      exact .inr (.inl (by omega))
  · intro o x c o' x' c' hx hf hcc hx' hf' hcc'
    obtain ⟨o₀, x₀, c₀, g1, g2, g3, g4⟩ := t.blks' hx hf hcc
    rw [← g4]; exact q.disj o₀ x₀ c₀ o' x' c' g1 g2 g3 hx' hf' hcc'
  · intro o x c hx hf hcc
    obtain ⟨o₀, x₀, c₀, g1, g2, g3, g4⟩ := t.blks' hx hf hcc
    rw [← g4]; exact q.vdisj o₀ x₀ c₀ g1 g2 g3
  · intro o x c hx hf hcc
    obtain ⟨o₀, x₀, c₀, g1, g2, g3, g4⟩ := t.blks' hx hf hcc
    rw [← g4]; exact q.new o₀ x₀ c₀ g1 g2 g3

theorem done_caller {σ ρ' : Rho} {A : Nat → Bool} (e : σ.ret = ρ'.ret) {v : AV} {u : Value} (hd : doneV v = true) (hv : VR (σ.call w A) v u) : VR ρ' v u := by
  refine VR.mono ?_ _ _ (done_noview _ _ hd hv)
  exact ⟨fun _ _ h => (by cases h), fun b x h => by rw [← e]; exact h, fun _ _ h => (by cases h)⟩

theorem giveFrz_ok (q : J ρ0 h0 ρ1 h1 w w' ρc hc ρ h) {v : AV} {u : Value} {r : AV × AHeap × AHeap} (hr : giveFrz v hc h = some r) (hv : VR ρc v u) :
    ∃ ρc' ρ', J ρ0 h0 ρ1 h1 w w' ρc' r.2.1 ρ' r.2.2 ∧ VR ρ' r.1 u ∧ Ext ρc ρc' ∧ Ext ρ ρ' := by
  unfold giveFrz at hr
  rw [cnd_eq] at hr
  split at hr
  · rename_i hd
    cases hr
    refine ⟨ρc, ρ, q, ?_, .refl _, .refl _⟩
    refine VR.mono ?_ _ _ (done_noview _ _ hd hv)
    exact ⟨fun _ _ h => (by cases h), fun b x h => by rw [q.ret]; exact h, fun _ _ h => (by cases h)⟩
  · obtain ⟨x, hx, hr⟩ := bnd_eq_some.mp hr
    rw [cnd_eq] at hr
    split at hr
    · rename_i hd
      cases hr
      obtain ⟨_, ρc', t, hv'⟩ := frz_ok (fun _ => false) w' _ _ _ _ _ _ _ hx hv q.a.rel (Clear.no _ _ _)
      obtain ⟨q', he⟩ := q.step t
      exact ⟨ρc', _, q', done_caller rfl hd hv', t.t.ext, he⟩
    · cases hr

theorem ftDel (H : HRel ρ h w) (o : Nat) : FT ρ h ρ (h.del o) w := by
  refine ⟨Trans.ofDel H o, rfl, rfl, fun p x hx => ?_⟩
  rw [AHeap.get_del] at hx
  split at hx
  · cases hx
  · exact ⟨x, hx⟩

/-- A row's cells, frozen: the row again, as another heap has it. -/
theorem row_again (H : HRel ρ h w) {o : Nat} {r : ARow} (hr : rowAt h o = some r) (hf : r.froz = false) :
    ∃ c y us, ρ o = some c ∧ w.heap[c.blk]? = some y ∧ VRL ρ r.cells us ∧ r.cells.all AV.scalar = true ∧ ρ.ret c.blk = none ∧ ρ.view c.blk = none ∧ (∀ p z d, p ≠ o → h.get p = some z → ρ p = some d → d.blk ≠ c.blk) ∧
      ∀ (ρ' : Rho) (cs' : List AV), cs'.all AV.scalar = true → VRL ρ' cs' us → ORel ρ' c (.row r.elem r.esz false cs') y := by
  obtain ⟨c, y, hc, hy, hrel⟩ := H.objs _ _ (row_of hr)
  obtain ⟨x, fr, rfl, q1, q2, q3, q4, q5, q6⟩ := hrel
  obtain ⟨c', x', e', fr', hc', hy', hcell⟩ := row_block H hr
  rw [hc] at hc'; cases hc'
  rw [hy] at hy'; cases hy'
  obtain ⟨g1, us, g2, g3⟩ := hcell _ _ _ (slots_all r.cells)
  have hfix : (AObj.row r.elem r.esz r.froz r.cells).fix = false := hf
  have hret : ρ.ret c.blk = none := by
    cases hx : ρ.ret c.blk with
    | none => rfl
    | some z => exact absurd rfl ((H.rets c.blk z (.inl hx)).2 _ _ _ (row_of hr) hfix hc)
  have hview : ρ.view c.blk = none := by
    cases hx : ρ.view c.blk with
    | none => rfl
    | some z => exact absurd rfl ((H.rets c.blk z (.inr hx)).2 _ _ _ (row_of hr) hfix hc)
  refine ⟨c, _, us, hc, hy, g2, g1, hret, hview, fun p z d hp hz hd hb => ?_, fun ρ' cs' hs hv => ?_⟩
  · rcases H.inj p o z _ d c hz (row_of hr) hd hc hb with hh | ⟨_, hh⟩
    · exact hp hh
    · rw [hfix] at hh; cases hh
  · have hl : cs'.length = r.cells.length := by rw [← hv.length, ← g2.length]
    refine ⟨x, fr, rfl, by rw [hl]; exact q1, fun i a ha => ?_, by rw [hl]; exact q3, q4, fun _ => q5 hf, q6⟩
    obtain ⟨v, k1, k2⟩ := hv.get ha
    refine ⟨List.all_eq_true.mp hs _ (List.mem_of_getElem? ha), v, ?_, k2⟩
    have := g3 i v k1
    rwa [Nat.add_zero] at this

theorem done_callerL {σ ρ' : Rho} {A : Nat → Bool} (e : σ.ret = ρ'.ret) {v : List AV} {u : List Value} (hd : v.all doneV = true) (hv : VRL (σ.call w A) v u) : VRL ρ' v u := by
  refine VRL.mono ?_ _ _ (doneL_noview _ _ (by rw [doneL_eq]; exact hd) hv)
  exact ⟨fun _ _ h => (by cases h), fun b x h => by rw [← e]; exact h, fun _ _ h => (by cases h)⟩

theorem giveOwn_ok (q : J ρ0 h0 ρ1 h1 w w' ρc hc ρ h) {a : ALoc} {n : Nat} {k : ACap} {row : ARow} (hrow : rowAt hc a.obj = some row) {u : Value} {r : AV × AHeap × AHeap} (hr : giveOwn a n k row hc h = some r) (hv : VR ρc (.slice (some a) n k) u) :
    ∃ ρc' ρ', J ρ0 h0 ρ1 h1 w w' ρc' r.2.1 ρ' r.2.2 ∧ VR ρ' r.1 u ∧ Ext ρc ρc' ∧ Ext ρ ρ' := by
  unfold giveOwn at hr
  rw [cnd_eq] at hr
  split at hr
  · cases hr
  rename_i hfz
  have hfz : row.froz = false := by simpa using hfz
  obtain ⟨x, hx, hr⟩ := bnd_eq_some.mp hr
  rw [cnd_eq] at hr
  split at hr
  case isFalse => cases hr
  rename_i hpf
  cases hr
  have hfix : (AObj.row row.elem row.esz row.froz row.cells).fix = false := hfz
  obtain ⟨c, y, us, hcc, hy, g1, g2, hret, _, hap, hor⟩ := row_again q.a.rel hrow hfz
  -- the callee's heap without the row
  obtain ⟨q1, e1⟩ := q.step (ftDel q.a.rel a.obj)
  have apart1 : ∀ p z d, (hc.del a.obj).get p = some z → ρc p = some d → d.blk ≠ c.blk := by
    intro p z d hz hd
    rw [AHeap.get_del] at hz
    split at hz
    · cases hz
    · rename_i hne; exact hap p z d hne hz hd
  obtain ⟨s1, ρc', t, v1, p1⟩ := frzCells_ok (frz_ok (fun _ => false) w' deep) hx g1 q1.a.rel (Clear.no _ _ _)
  obtain ⟨q2, e2⟩ := q1.step t
  have hret2 : ρc'.ret c.blk = none := by
    cases hr : ρc'.ret c.blk with
    | none => rfl
    | some z =>
      rcases t.rids' (b := c.blk) (by rw [hr]; simp) with hh | ⟨o, x, d, k1, k2, k3, k4⟩
      · exact absurd hret hh
      · exact absurd k4 (apart1 o x d k1 k3)
  generalize hσ : (ρ.rets ρc.ret).rets ρc'.ret = σ at q2 e2
  have eσ : σ.ret = ρc'.ret := by rw [← hσ]; rfl
  have lσ : ∀ p, σ p = ρ p := by intro p; rw [← hσ]; rfl
  have vσ : σ.view = ρ.view := by rw [← hσ]; rfl
  have hfr : σ h.next = none := q2.b.rel.fresh _ (Nat.le_refl _)
  have hview : σ.view c.blk = none := by rw [vσ]; exact q.vdisj _ _ _ (row_of hrow) hfix hcc
  have hcs : VRL (upd σ h.next c) x.1 us := done_callerL (ρ' := upd σ h.next c) (by show ρc'.ret = σ.ret; rw [eσ]) (p1 hpf) v1
  have hcsd : ∀ o x' c', h.get o = some x' → x'.fix = false → ρ o = some c' → c'.blk ≠ c.blk := fun o x' c' k1 k2 k3 hb => q.disj _ _ _ _ _ _ (row_of hrow) hfix hcc k1 k2 k3 hb.symm
  have hrel' : HRel (upd σ h.next c) (h.push (.row row.elem row.esz false x.1)) w' := by
    refine HRel.add q2.b.rel (ext_upd hfr) rfl rfl (fun p hp => upd_ne hp) (fun p => AHeap.get_push _ _ _) ?_ (upd_self _ _ _) rfl hy (hor _ _ (s1 g2) hcs) (by rw [eσ]; exact hret2) hview ?_
    · intro p hp
      simp at hp
      rw [upd_ne (by omega)]; exact q2.b.rel.fresh p (by omega)
    · intro p z d hp hz hzf hd
      exact hcsd p z d hz hzf (by rw [← lσ]; exact hd)
  have hge : w.heap.size ≤ c.blk := q.new _ _ _ (row_of hrow) hfix hcc
  refine ⟨ρc', upd σ h.next c, ⟨q2.a, ⟨q2.b.ext.trans (ext_upd hfr), hrel', q2.b.kept, q2.b.size, q2.b.outp, q2.b.os, ?_, ?_, ?_, q2.b.rids, q2.b.views⟩, ?_, ?_, ?_, q2.new⟩, ?_, t.t.ext, (e1.trans e2).trans (ext_upd hfr)⟩
  · intro p z d hz hzf hd
    rw [AHeap.get_push] at hz
    by_cases e : p = h.next
    · rw [e, upd_self] at hd; cases hd; exact .inr hge
    · rw [if_neg e] at hz; rw [upd_ne e] at hd; exact q2.b.blks p z d hz hzf hd
  · intro p hp
    by_cases e : p = h.next
    · right
      have := q2.b.next
      subst e; simp; omega
    · rw [upd_ne e] at hp
      rcases q2.b.ids p hp with hh | ⟨h2, h3⟩
      · exact .inl hh
      · right; simp; omega
  · have := q2.b.next
    simp; omega
  · show σ.ret = ρc'.ret
    exact eσ
  · intro o x₂ c₂ o' x' c' k1 k2 k3 k4 k5 k6
    rw [AHeap.get_push] at k4
    by_cases e : o' = h.next
    · rw [e, upd_self] at k6; cases k6
      obtain ⟨o₀, x₀, c₀, m1, m2, m3, m4⟩ := t.blks' k1 k2 k3
      rw [← m4]; exact apart1 o₀ x₀ c₀ m1 m3
    · rw [if_neg e] at k4; rw [upd_ne e] at k6
      exact q2.disj o x₂ c₂ o' x' c' k1 k2 k3 k4 k5 k6
  · intro o x₂ c₂ k1 k2 k3
    exact q2.vdisj o x₂ c₂ k1 k2 k3
  · simp only [VR] at hv ⊢
    obtain ⟨c', ad, m1, rfl, m3, m4⟩ := hv
    rw [hcc] at m1; cases m1
    exact ⟨c, ad, upd_self _ _ _, rfl, m3, m4⟩

theorem giveV_ok (q : J ρ0 h0 ρ1 h1 w w' ρc hc ρ h) {own : Bool} {v : AV} {u : Value} {r : AV × AHeap × AHeap} (hr : giveV own v hc h = some r) (hv : VR ρc v u) :
    ∃ ρc' ρ', J ρ0 h0 ρ1 h1 w w' ρc' r.2.1 ρ' r.2.2 ∧ VR ρ' r.1 u ∧ Ext ρc ρc' ∧ Ext ρ ρ' := by
  unfold giveV at hr
  split at hr
  · rw [cnd_eq] at hr
    split at hr
    · cases hr
      refine ⟨ρc, ρ, q, ?_, .refl _, .refl _⟩
      simp only [VR] at hv
      obtain ⟨rfl, rfl, rfl⟩ := hv
      simp only [VR]
      exact ⟨none, 0, rfl, Nat.le_refl _, fun _ => rfl, rfl, fun _ => rfl, .inl ⟨trivial, trivial, fun h => by cases h⟩⟩
    · exact giveFrz_ok q hr hv
  · rw [cnd_eq] at hr
    split at hr
    · rw [cnd_eq] at hr
      split at hr
      · rename_i h0
        rw [beqN] at h0
        subst h0
        cases hr
        refine ⟨ρc, ρ, q, ?_, .refl _, .refl _⟩
        simp only [VR] at hv
        obtain ⟨d, ad, _, rfl, _, _⟩ := hv
        simp only [VR]
        exact ⟨_, _, rfl, Nat.zero_le _, fun hh => exactly_eq d hh, rfl, fun h => (by cases h), .inl ⟨trivial, trivial, fun h => by cases h⟩⟩
      · obtain ⟨row, hrow, hr⟩ := bnd_eq_some.mp hr
        rw [cnd_eq] at hr
        split at hr
        · exact giveFrz_ok q hr hv
        · exact giveOwn_ok q hrow hr hv
    · exact giveFrz_ok q hr hv
  · exact giveFrz_ok q hr hv

theorem giveL_ok {own : Bool} : ∀ (vs : List AV) {ρc : Rho} {hc : AHeap} {ρ : Rho} {h : AHeap} {us : List Value} {r : List AV × AHeap × AHeap}, J ρ0 h0 ρ1 h1 w w' ρc hc ρ h → giveL own vs hc h = some r → VRL ρc vs us →
    ∃ ρc' ρ', J ρ0 h0 ρ1 h1 w w' ρc' r.2.1 ρ' r.2.2 ∧ VRL ρ' r.1 us ∧ Ext ρc ρc' ∧ Ext ρ ρ'
  | [], ρc, hc, ρ, h, us, r, q, hr, hv => by
    cases hr
    simp only [VRL] at hv; subst hv
    exact ⟨ρc, ρ, q, VRL.nil, .refl _, .refl _⟩
  | a :: l, ρc, hc, ρ, h, us, r, q, hr, hv => by
    replace hr : (bnd (giveV own a hc h) fun x => bnd (giveL own l x.2.1 x.2.2) fun y => some (x.1 :: y.1, y.2.1, y.2.2)) = some r := hr
    obtain ⟨x, hx, hr⟩ := bnd_eq_some.mp hr
    obtain ⟨y, hy, hr⟩ := bnd_eq_some.mp hr
    cases hr
    simp only [VRL] at hv
    obtain ⟨u, us', rfl, k1, k2⟩ := hv
    obtain ⟨ρc1, ρ2, q1, v1, e1, e2⟩ := giveV_ok q hx k1
    obtain ⟨ρc3, ρ4, q3, v3, e3, e4⟩ := giveL_ok l q1 hy (VRL.mono e1 _ _ k2)
    exact ⟨ρc3, ρ4, q3, VRL.cons (VR.mono e4 _ _ v1) v3, e1.trans e3, e2.trans e4⟩

theorem give_ok (q : J ρ0 h0 ρ1 h1 w w' ρc hc ρ h) {own : Bool} {v : AV} {u : Value} {r : AV × AHeap × AHeap} (hr : give own v hc h = some r) (hv : VR ρc v u) :
    ∃ ρ', Trans ρ1 h1 w ρ' r.2.2 w' ∧ VR ρ' r.1 u := by
  unfold give at hr
  split at hr
  · rename_i vs
    obtain ⟨x, hx, hr⟩ := bnd_eq_some.mp hr
    cases hr
    simp only [VR] at hv
    obtain ⟨us, rfl, k⟩ := hv
    obtain ⟨ρc', ρ', q', v', _, _⟩ := giveL_ok vs q hx k
    exact ⟨ρ', q'.b, by simp only [VR]; exact ⟨us, rfl, v'⟩⟩
  · obtain ⟨ρc', ρ', q', v', _, _⟩ := giveV_ok q hr hv
    exact ⟨ρ', q'.b, v'⟩

/-! ### the calls -/
theorem CallOk.mono {f : FuncId} {us : Array Value} {R S : Value → World → Prop} (h : CallOk P f us w R) (k : ∀ v w', R v w' → S v w') : CallOk P f us w S := by
  rcases h with ⟨h1, h2⟩ | ⟨v, w', h1, h2⟩
  · exact .inl ⟨h1, h2.mono fun e w' ⟨v, e1, e2⟩ => ⟨v, e1, k v w' e2⟩⟩
  · exact .inr ⟨v, w', h1, k v w' h2⟩

/-- A body that is sound, as a function's. -/
def BodySound (P : Program) (f : FuncId) (body : Body) : Prop := ∀ (args : List AV) (h : AHeap) (v : AV) (h' : AHeap) (ρ : Rho) (w : World) (us : Array Value), body args h = some (v, h') → VRL ρ args us.toList → HRel ρ h w →
  CallOk P f us w fun v' w' => ∃ ρ', VR ρ' v v' ∧ Trans ρ h w ρ' h' w'

theorem empty_rel (ret : Nat → Option (Array Value)) (A : Nat → Bool) (hret : ∀ b x, ret b = some x → cellsOf w b = some x) : HRel ⟨fun _ => none, ret, fun b => cnd (A b) none (cellsOf w b)⟩ AHeap.empty w where
  objs := by intro o x hx; rw [empty_get] at hx; cases hx
  inj := by intro o o' x x' c c' hx; rw [empty_get] at hx; cases hx
  fresh := fun _ _ => rfl
  rets := by
    intro b x hb
    refine ⟨?_, fun o y c hx => by rw [empty_get] at hx; cases hx⟩
    rcases hb with hb | hb
    · exact of_cellsOf (hret b x hb)
    · replace hb : cnd (A b) none (cellsOf w b) = some x := hb
      cases hA : A b <;> rw [hA] at hb
      · exact of_cellsOf hb
      · cases hb
  fixed := by intro o x c hx; rw [empty_get] at hx; cases hx

theorem callView_sound {f : FuncId} {body : Body} (hb : BodySound P f body) : BodySound P f (callView body) := by
  intro args h v h' ρ w us hr hv H
  replace hr : (bnd (frzArgs false args h) fun a => bnd (body a.1 .empty) fun r => cnd (plainV r.1) (some (r.1, h)) none) = some (v, h') := hr
  obtain ⟨a, ha, hr⟩ := bnd_eq_some.mp hr
  obtain ⟨r, hbr, hr⟩ := bnd_eq_some.mp hr
  rw [cnd_eq] at hr
  split at hr
  case isFalse => cases hr
  rename_i hp
  cases hr
  have hv' := frzArgs_view ha hv H
  refine (hb _ _ _ _ (Rho.all w) w us hbr hv' (empty_rel (w := w) (cellsOf w) (fun _ => false) fun _ _ h => h)).mono ?_
  rintro v' w' ⟨ρ', k1, T⟩
  have same : ∀ b, b < w.heap.size → w'.heap[b]? = w.heap[b]? := fun b hb => T.kept b hb fun o x c hx => by rw [empty_get] at hx; cases hx
  have same' : ∀ {b : Nat} {y : Obj}, w.heap[b]? = some y → w'.heap[b]? = some y := fun {b y} hy => by rw [same b (Array.getElem?_eq_some_iff.mp hy).1]; exact hy
  refine ⟨ρ, plain_any _ _ hp k1, .refl ρ, ⟨fun o x hx => ?_, H.inj, H.fresh, fun b x hx => ?_, H.fixed⟩, fun b hb _ => same b hb, T.size, T.outp, T.os, fun o x c hx hf hc => .inl ⟨o, x, c, hx, hf, hc, rfl⟩, fun _ ho => .inl ho, Nat.le_refl _, fun _ hb => .inl hb, rfl⟩
  · obtain ⟨c, y, g1, g2, g3⟩ := H.objs o x hx
    exact ⟨c, y, g1, same' g2, g3⟩
  · obtain ⟨⟨e, fr, g1⟩, g2⟩ := H.rets b x hx
    exact ⟨⟨e, fr, same' g1⟩, g2⟩

theorem emptyOf_any {σ : Rho} {v x : AV} {u : Value} (he : emptyOf v = some x) (hv : VR ρ v u) : VR σ x u := by
  unfold emptyOf at he
  split at he
  · cases he
    simp only [VR] at hv
    obtain ⟨rfl, rfl, rfl⟩ := hv
    simp only [VR]
    exact ⟨none, 0, rfl, Nat.le_refl _, fun _ => rfl, rfl, fun _ => rfl, .inl ⟨trivial, trivial, fun h => by cases h⟩⟩
  · rw [cnd_eq] at he
    split at he
    · rename_i h0
      rw [beqN] at h0
      subst h0
      cases he
      simp only [VR] at hv
      obtain ⟨d, ad, _, rfl, _, _⟩ := hv
      simp only [VR]
      exact ⟨_, _, rfl, Nat.zero_le _, fun hh => exactly_eq d hh, rfl, fun h => (by cases h), .inl ⟨trivial, trivial, fun h => by cases h⟩⟩
    · cases he
  · rw [cnd_eq] at he
    split at he
    · rename_i h0
      rw [beqN] at h0
      subst h0
      cases he
      simp only [VR] at hv
      obtain ⟨ao, cap, rfl, _, k3, _, k5, _⟩ := hv
      simp only [VR]
      exact ⟨ao, cap, rfl, Nat.zero_le _, k3, rfl, k5, .inl ⟨trivial, trivial, fun h => by cases h⟩⟩
    · cases he
  · rw [cnd_eq] at he
    split at he
    · rename_i hp
      cases he
      exact plain_any _ _ hp hv
    · cases he

theorem viewE_sound {f : FuncId} {body : Body} (hb : BodySound P f body) {args : List AV} {h : AHeap} {x : AV} {ρ : Rho} {w : World} {us : Array Value} (hr : viewE body args h = some x) (hv : VRL ρ args us.toList) (H : HRel ρ h w) :
    CallOk P f us w fun v' w' => (∀ σ, VR σ x v') ∧ Trans ρ h w ρ h w' := by
  unfold viewE at hr
  obtain ⟨a, ha, hr⟩ := bnd_eq_some.mp hr
  obtain ⟨r, hbr, hr⟩ := bnd_eq_some.mp hr
  have hv' := frzArgs_view ha hv H
  refine (hb _ _ _ _ (Rho.all w) w us hbr hv' (empty_rel (w := w) (cellsOf w) (fun _ => false) fun _ _ h => h)).mono ?_
  rintro v' w' ⟨ρ', k1, T⟩
  have same : ∀ b, b < w.heap.size → w'.heap[b]? = w.heap[b]? := fun b hb => T.kept b hb fun o x c hx => by rw [empty_get] at hx; cases hx
  have same' : ∀ {b : Nat} {y : Obj}, w.heap[b]? = some y → w'.heap[b]? = some y := fun {b y} hy => by rw [same b (Array.getElem?_eq_some_iff.mp hy).1]; exact hy
  refine ⟨fun σ => emptyOf_any hr k1, .refl ρ, ⟨fun o x hx => ?_, H.inj, H.fresh, fun b x hx => ?_, H.fixed⟩, fun b hb _ => same b hb, T.size, T.outp, T.os, fun o x c hx hf hc => .inl ⟨o, x, c, hx, hf, hc, rfl⟩, fun _ ho => .inl ho, Nat.le_refl _, fun _ hb => .inl hb, rfl⟩
  · obtain ⟨c, y, g1, g2, g3⟩ := H.objs o x hx
    exact ⟨c, y, g1, same' g2, g3⟩
  · obtain ⟨⟨e, fr, g1⟩, g2⟩ := H.rets b x hx
    exact ⟨⟨e, fr, same' g1⟩, g2⟩

/-- A slice that may be nil is one or the other. -/
theorem alts_ok : ∀ {args : List AV} {us : List Value}, VRL ρ args us → ∃ l ∈ alts args, VRL ρ l us
  | [], us, hv => ⟨[], by show [] ∈ [[]]; simp, hv⟩
  | a :: r, us, hv => by
    simp only [VRL] at hv
    obtain ⟨u, us', rfl, h1, h2⟩ := hv
    obtain ⟨l, hl, hlv⟩ := alts_ok h2
    show ∃ l ∈ cnd (isEmp a) ((alts r).map (fun l => AV.slice none 0 (.exact 0) :: l) ++ (alts r).map (fun l => empNot a :: l)) ((alts r).map fun l => a :: l), VRL ρ l (u :: us')
    cases he : isEmp a with
    | false => exact ⟨a :: l, by rw [cnd_false]; exact List.mem_map.mpr ⟨l, hl, rfl⟩, VRL.cons h1 hlv⟩
    | true =>
      rw [cnd_true]
      cases a <;> simp [isEmp] at he
      rename_i cs n f pf
      have hn : n = 0 := by
        cases hb : Nat.beq n 0 with
        | true => rwa [beqN] at hb
        | false => rw [hb] at he; cases he
      subst hn
      simp only [VR] at h1
      obtain ⟨ao, cap, rfl, _, k3, _, k5, _⟩ := h1
      cases ao with
      | none =>
        have := k5 rfl
        subst this
        exact ⟨_, List.mem_append_left _ (List.mem_map.mpr ⟨l, hl, rfl⟩), VRL.cons (by simp [VR]) hlv⟩
      | some ad =>
        refine ⟨_, List.mem_append_right _ (List.mem_map.mpr ⟨l, hl, rfl⟩), VRL.cons ?_ hlv⟩
        show VR ρ (.lst [] 0 f false) _
        simp only [VR]
        exact ⟨_, _, rfl, Nat.zero_le _, k3, rfl, fun h => (by cases h), .inl ⟨trivial, trivial, fun _ h => by cases h⟩⟩
theorem eqRes_VR {σ : Rho} {x y : AV} {u : Value} (he : eqRes y x = true) (hv : VR σ y u) : VR σ x u := by
  unfold eqRes at he
  split at he
  · rename_i c n f p d m g q
    cases c <;> cases d <;> simp [lcase] at he
    obtain ⟨⟨h1, rfl⟩, rfl⟩ := he
    subst h1
    exact hv
  · rename_i k a l b
    rw [Bool.and_eq_true] at he
    obtain ⟨h1, h2⟩ := he
    have := kno_inj h1
    subst this
    rw [eqI_eq] at h2
    have : a = b := by simpa using h2
    subst this; exact hv
  · rename_i a b
    have : a = b := by simpa using he
    subst this; exact hv
  · rename_i a b
    rw [same_eq] at he
    have : a = b := by simpa using he
    subst this; exact hv
  · cases he

theorem callKeep_sound {f : FuncId} {body : Body} (own : Bool) (hb : BodySound P f body) : BodySound P f (callKeep own body) := by
  intro args h v h' ρ w us hr hv H
  replace hr : (bnd (frzArgs true args h) fun a => bnd (body a.1 .empty) fun r => bnd (give own r.1 r.2 a.2) fun x => some (x.1, x.2.2)) = some (v, h') := hr
  obtain ⟨a, ha, hr⟩ := bnd_eq_some.mp hr
  obtain ⟨r, hbr, hr⟩ := bnd_eq_some.mp hr
  obtain ⟨x, hx, hr⟩ := bnd_eq_some.mp hr
  cases hr
  obtain ⟨ρ1, t, hv'⟩ := frzArgs_ok (A := fun _ => false) ha hv H (Clear.no _ _ _)
  have H1 := t.t.rel
  refine (hb _ _ _ _ (ρ1.call w fun _ => false) w us hbr hv' (empty_rel (w := w) ρ1.ret (fun _ => false) fun b x hx => H1.cellsOf (.inl hx))).mono ?_
  rintro v' w' ⟨ρc, k1, T⟩
  have same : ∀ b, b < w.heap.size → w'.heap[b]? = w.heap[b]? := fun b hb => T.kept b hb fun o x c hx => by rw [empty_get] at hx; cases hx
  have same' : ∀ {b : Nat} {y : Obj}, w.heap[b]? = some y → w'.heap[b]? = some y := fun {b y} hy => by rw [same b (Array.getElem?_eq_some_iff.mp hy).1]; exact hy
  have hrid : ∀ b, ρc.ret b ≠ none → ρ1.ret b ≠ none ∨ w.heap.size ≤ b := by
    intro b hb
    rcases T.rids b hb with hh | hh | ⟨o, x, c, hx, _⟩
    · exact .inl hh
    · exact .inr hh
    · rw [empty_get] at hx; cases hx
  have hext : Ext ρ1 (ρ1.rets ρc.ret) := ⟨fun _ _ h => h, T.ext.ret, fun _ _ h => h⟩
  have hnew : ∀ o x c, r.2.get o = some x → x.fix = false → ρc o = some c → w.heap.size ≤ c.blk := by
    intro o x c hx hf hc
    rcases T.blks o x c hx hf hc with ⟨o₀, x₀, c₀, g, _⟩ | hh
    · rw [empty_get] at g; cases g
    · exact hh
  have j : J (ρ1.call w fun _ => false) .empty ρ h w w' ρc r.2 (ρ1.rets ρc.ret) a.2 := by
    refine ⟨T, t.t.trans ⟨hext, ⟨fun o x hx => ?_, H1.inj, H1.fresh, ?_, ?_⟩, fun b hb _ => same b hb, T.size, T.outp, T.os, fun o x c hx hf hc => .inl ⟨o, x, c, hx, hf, hc, rfl⟩, fun _ ho => .inl ho, Nat.le_refl _, fun b hb => ?_, rfl⟩, rfl, ?_, ?_, hnew⟩
    · obtain ⟨c, y, g1, g2, g3⟩ := H1.objs o x hx
      exact ⟨c, y, g1, same' g2, ORel.mono hext _ _ g3⟩
    · intro b z hz
      rcases hz with hz | hz
      · replace hz : ρc.ret b = some z := hz
        refine ⟨(T.rel.rets b z (.inl hz)).1, fun o y c hy hf hc hb => ?_⟩
        rcases hrid b (by rw [hz]; simp) with hh | hh
        · cases hr : ρ1.ret b with
          | none => exact hh hr
          | some z' => exact (H1.rets b z' (.inl hr)).2 o y c hy hf hc hb
        · have := H1.blk hy hc
          omega
      · obtain ⟨⟨e, fr, g1⟩, g2⟩ := H1.rets b z (.inr hz)
        exact ⟨⟨e, fr, same' g1⟩, g2⟩
    · intro o x c hx hf hc hh
      have := H1.fixed o x c hx hf hc
      cases hr : ρ1.ret c.blk with
      | none => exact this hr
      | some z' => have := hext.ret _ _ hr; rw [hh] at this; cases this
    · rcases hrid b hb with hh | hh
      · exact .inl hh
      · exact .inr (.inl hh)
    · intro o x c o' x' c' hx hf hc hx' _ hc' hb
      have h1 := hnew o x c hx hf hc
      have h2 := H1.blk hx' hc'
      omega
    · intro o x c hx hf hc
      have h1 := hnew o x c hx hf hc
      cases hr : (ρ1.rets ρc.ret).view c.blk with
      | none => rfl
      | some z =>
        obtain ⟨⟨e, fr, g1⟩, _⟩ := H1.rets c.blk z (.inr hr)
        have := (Array.getElem?_eq_some_iff.mp g1).1
        omega
  obtain ⟨ρ', T', v''⟩ := give_ok j hx k1
  exact ⟨ρ', v'', T'⟩

end
end Go.Proofs.YtonojkcnencodaaDoor.BH
