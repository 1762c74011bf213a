/-
  BH: a callee that may turn one object of its caller's; all calls.
-/
import Derived.Test.YtonojkcnencodaaDoorBhPure3
import Derived.Test.YtonojkcnencodaaDoorBhDraw3
namespace Go.Proofs.YtonojkcnencodaaDoor.BH

section
variable {P : Program} {ρ : Rho} {h : AHeap} {w : World}

theorem lent_get (r : ARow) (cs : List AV) (o : Nat) : (lent r cs).get o = if o = 0 then some (.row r.elem r.esz false cs) else none := by
  unfold lent
  rw [AHeap.get_push]
  show (if o = 0 then _ else AHeap.empty.get o) = _
  rw [empty_get]
theorem lent_next (r : ARow) (cs : List AV) : (lent r cs).next = 1 := rfl

theorem callLent_sound {f : FuncId} {body : Body} (own : Bool) (hb : BodySound P f body) {o : Nat} {rest : List AV} {r : ARow} {v : AV} {h' : AHeap} {us : Array Value} (hrow : rowAt h o = some r)
    (hr : callLent own body o rest h r = some (v, h')) (hv : VRL ρ (.ptr (some ⟨o, 0⟩) :: rest) us.toList) (H : HRel ρ h w) :
    CallOk P f us w fun v' w' => ∃ ρ', VR ρ' v v' ∧ Trans ρ h w ρ' h' w' := by
  unfold callLent at hr
  rw [cnd_eq] at hr
  split at hr
  · cases hr
  rename_i hfz
  have hfz : r.froz = false := by simpa using hfz
  obtain ⟨x, hx, hr⟩ := bnd_eq_some.mp hr
  obtain ⟨a, ha, hr⟩ := bnd_eq_some.mp hr
  obtain ⟨q, hq, hr⟩ := bnd_eq_some.mp hr
  obtain ⟨r', hr', hr⟩ := bnd_eq_some.mp hr
  rw [cnd_eq] at hr
  split at hr
  · cases hr
  rename_i hfz'
  have hfz' : r'.froz = false := by simpa using hfz'
  obtain ⟨y, hy, hr⟩ := bnd_eq_some.mp hr
  obtain ⟨z, hz, hr⟩ := bnd_eq_some.mp hr
  cases hr
  obtain ⟨c, yo, uo, hc, hyo, g1, g2, hret, hview, hap, hor⟩ := row_again H hrow hfz
  have hfix : (AObj.row r.elem r.esz r.froz r.cells).fix = false := hfz
  have hclt : c.blk < w.heap.size := (Array.getElem?_eq_some_iff.mp hyo).1
  -- the caller's heap without the object
  have Hd : HRel ρ (h.del o) w := H.del o
  let A : Nat → Bool := fun b => Nat.beq b c.blk
  have hA : ∀ b, A b = true ↔ b = c.blk := fun b => beqN b c.blk
  have C0 : Clear A ρ (h.del o) w := by
    refine ⟨fun b hb => by rw [(hA b).mp hb]; exact hclt, fun b hb => by rw [(hA b).mp hb]; exact hret, fun b hb => by rw [(hA b).mp hb]; exact hview, fun b p z d hb hz hd => ?_⟩
    rw [AHeap.get_del] at hz
    split at hz
    · cases hz
    · rename_i hne; rw [(hA b).mp hb]; exact hap p z d hne hz hd
  obtain ⟨s1, ρ1, t1, v1, _⟩ := frzCells_ok (frz_ok A w deep) hx g1 Hd C0
  simp only [VRL] at hv
  obtain ⟨u0, ur, hus, hv0, hvr⟩ := hv
  obtain ⟨ρ2, t2, v2⟩ := frzArgs_ok (A := A) ha (VRL.mono t1.t.ext _ _ hvr) t1.t.rel (t1.clear C0)
  have t12 := t1.trans t2
  have C2 : Clear A ρ2 a.2 w := t12.clear C0
  have H2 := t12.t.rel
  -- the callee's beginning
  let ρ0 : Rho := ⟨fun p => if p = 0 then some c else none, ρ2.ret, fun b => cnd (A b) none (cellsOf w b)⟩
  have h00 : ρ0 0 = some c := by show (if (0 : Nat) = 0 then some c else none) = some c; rfl
  have e20 : Ext (ρ2.call w A) ρ0 := ⟨fun _ _ h => (by cases h), fun _ _ h => h, fun _ _ h => h⟩
  have HE : HRel (ρ2.call w A) AHeap.empty w := empty_rel (w := w) ρ2.ret A fun b x hx => H2.cellsOf (.inl hx)
  have H0 : HRel ρ0 (lent r x.1) w := by
    refine HRel.add HE e20 rfl rfl (fun p hp => if_neg hp) (o := 0) (fun p => ?_) (fun p hp => ?_) h00 rfl hyo (hor ρ0 x.1 (s1 g2) ?_) (C2.ret _ ((hA _).mpr rfl)) ?_ ?_
    · rw [lent_get, empty_get]
    · rw [lent_next] at hp; exact if_neg (by omega)
    · exact VRL.mono ((call_mono t2.t.ext).trans e20) _ _ v1
    · show cnd (A c.blk) none _ = none
      rw [(hA _).mpr rfl]; rfl
    · intro p z d _ hz; rw [empty_get] at hz; cases hz
  have hu0 : u0 = .pointer (some (c.at 0)) := by
    simp only [VR] at hv0
    obtain ⟨c', k1, k2⟩ := hv0
    rw [hc] at k1; cases k1; exact k2
  refine (hb _ _ _ _ ρ0 w us hq (by rw [hus, hu0]; exact VRL.cons (by simp only [VR]; exact ⟨c, h00, rfl⟩) (VRL.mono e20 _ _ v2)) H0).mono ?_
  rintro v' w' ⟨ρc, k1, T⟩
  have same : ∀ b, b < w.heap.size → b ≠ c.blk → w'.heap[b]? = w.heap[b]? := by
    intro b hb hne
    refine T.kept b hb fun p z d hz _ hd => ?_
    rw [lent_get] at hz
    split at hz
    · rename_i e; subst e; rw [h00] at hd; cases hd; exact hne.symm
    · cases hz
  have same' : ∀ {b : Nat} {y : Obj}, b ≠ c.blk → w.heap[b]? = some y → w'.heap[b]? = some y := fun {b y} hne hy => by rw [same b (Array.getElem?_eq_some_iff.mp hy).1 hne]; exact hy
  -- the object behind the call
  obtain ⟨c', yo', uo', hc', hyo', g1', g2', hret', hview', hap', hor'⟩ := row_again T.rel hr' hfz'
  have hcc : c' = c := by have := T.ext.loc 0 c h00; rw [hc'] at this; cases this; rfl
  subst hcc
  have hfix' : (AObj.row r'.elem r'.esz r'.froz r'.cells).fix = false := hfz'
  have td := ftDel T.rel 0
  have Cd : Clear A ρc (q.2.del 0) w' := by
    refine ⟨fun b hb => by rw [(hA b).mp hb]; exact (Array.getElem?_eq_some_iff.mp hyo').1, fun b hb => by rw [(hA b).mp hb]; exact hret', fun b hb => by rw [(hA b).mp hb]; exact hview', fun b p z d hb hz hd => ?_⟩
    rw [AHeap.get_del] at hz
    split at hz
    · cases hz
    · rename_i hne; rw [(hA b).mp hb]; exact hap' p z d hne hz hd
  obtain ⟨s3, ρ3, t3, v3, p3⟩ := frzCells_ok (A := A) (frz_ok A w' deep) hy g1' td.t.rel Cd
  have C3 : Clear A ρ3 y.2.1 w' := t3.clear Cd
  have T3 : Trans ρ0 (lent r x.1) w ρ3 y.2.1 w' := T.trans (td.t.trans t3.t)
  have hblk : ∀ p z d, y.2.1.get p = some z → z.fix = false → ρ3 p = some d → w.heap.size ≤ d.blk := by
    intro p z d hz hzf hd
    rcases T3.blks p z d hz hzf hd with ⟨p₀, z₀, d₀, m1, m2, m3, m4⟩ | hh
    · rw [lent_get] at m1
      split at m1
      · rename_i e; subst e; rw [h00] at m3; cases m3
        exact absurd m4.symm (C3.objs _ p z d ((hA _).mpr rfl) hz hd)
      · cases m1
    · exact hh
  have hrid : ∀ b, ρ3.ret b ≠ none → ρ2.ret b ≠ none ∨ w.heap.size ≤ b := by
    intro b hb
    rcases T3.rids b hb with hh | hh | ⟨p, z, d, m1, m2, m3, m4⟩
    · exact .inl hh
    · exact .inr hh
    · rw [lent_get] at m1
      split at m1
      · rename_i e; subst e; rw [h00] at m3; cases m3
        exact absurd (C3.ret _ ((hA _).mpr m4.symm)) hb
      · cases m1
  have hext : Ext ρ2 (ρ2.rets ρ3.ret) := ⟨fun _ _ h => h, fun b z hz => T3.ext.ret b z hz, fun _ _ h => h⟩
  -- the caller's heap behind the call, without the object
  have Hc : HRel (ρ2.rets ρ3.ret) a.2 w' := by
    refine ⟨fun p z hz => ?_, H2.inj, H2.fresh, ?_, ?_⟩
    · obtain ⟨d, y', m1, m2, m3⟩ := H2.objs p z hz
      exact ⟨d, y', m1, same' (C2.objs _ p z d ((hA _).mpr rfl) hz m1) m2, ORel.mono hext _ _ m3⟩
    · intro b z' hz'
      rcases hz' with hz' | hz'
      · replace hz' : ρ3.ret b = some z' := hz'
        refine ⟨(t3.t.rel.rets b z' (.inl hz')).1, fun p y' d hp hpf hd hb => ?_⟩
        rcases hrid b (by rw [hz']; simp) with hh | hh
        · cases hr : ρ2.ret b with
          | none => exact hh hr
          | some z'' => exact (H2.rets b z'' (.inl hr)).2 p y' d hp hpf hd hb
        · have := H2.blk hp hd
          omega
      · replace hz' : ρ2.view b = some z' := hz'
        obtain ⟨⟨e, fr, m1⟩, m2⟩ := H2.rets b z' (.inr hz')
        refine ⟨⟨e, fr, same' (fun hh => ?_) m1⟩, m2⟩
        rw [C2.view b ((hA b).mpr hh)] at hz'; cases hz'
    · intro p z d hz' hzf hd hh
      have := H2.fixed p z d hz' hzf hd
      cases hr : ρ2.ret d.blk with
      | none => exact this hr
      | some z' => have := hext.ret _ _ hr; rw [hh] at this; cases this
  -- .. and with it
  have hlo : (ρ2.rets ρ3.ret) o = some c' := by
    show ρ2 o = some c'
    rw [t12.loc]; exact hc
  have hdone : y.2.2 = true ∨ y.2.2 = false := by cases y.2.2 <;> simp
  rcases hdone with hdone | hdone
  case inr => rw [hdone] at hz; cases hz
  rw [hdone] at hz
  replace hz : give own q.1 y.2.1 (a.2.set o (.row r'.elem r'.esz false y.1)) = some z := hz
  have hcs : VRL (ρ2.rets ρ3.ret) y.1 uo' := done_callerL (ρ' := ρ2.rets ρ3.ret) rfl (p3 hdone) v3
  have Ho : HRel (ρ2.rets ρ3.ret) (a.2.set o (.row r'.elem r'.esz false y.1)) w' := by
    refine HRel.add Hc (.refl _) rfl rfl (fun _ _ => rfl) (fun p => AHeap.get_set _ _ _ _) (fun p hp => Hc.fresh p hp) hlo rfl hyo' (hor' _ _ (s3 g2') hcs) (C3.ret _ ((hA _).mpr rfl)) (C2.view _ ((hA _).mpr rfl)) ?_
    intro p z d _ hz _ hd
    exact C2.objs _ p z d ((hA _).mpr rfl) hz hd
  have back : ∀ p z d, a.2.get p = some z → z.fix = false → ρ2 p = some d → ∃ o₀ x₀ c₀, h.get o₀ = some x₀ ∧ x₀.fix = false ∧ ρ o₀ = some c₀ ∧ c₀.blk = d.blk := by
    intro p z d m1 m2 m3
    obtain ⟨o₀, x₀, c₀, n1, n2, n3, n4⟩ := t12.blks' m1 m2 m3
    rw [AHeap.get_del] at n1
    split at n1
    · cases n1
    · exact ⟨o₀, x₀, c₀, n1, n2, n3, n4⟩
  have j : J ρ0 (lent r x.1) ρ h w w' ρ3 y.2.1 (ρ2.rets ρ3.ret) (a.2.set o (.row r'.elem r'.esz false y.1)) := by
    refine ⟨T3, ⟨t12.t.ext.trans hext, Ho, fun b hb hn => ?_, T.size, T.outp, T.os, fun p z d hz hzf hd => ?_, fun p hp => .inl ?_, ?_, fun b hb => ?_, t12.t.views⟩, rfl, ?_, ?_, hblk⟩
    · exact same b hb fun e => hn o _ c' (row_of hrow) hfix hc e.symm
    · rw [AHeap.get_set] at hz
      by_cases e : p = o
      · subst e
        rw [hlo] at hd; cases hd
        exact .inl ⟨p, _, c', row_of hrow, hfix, hc, rfl⟩
      · rw [if_neg e] at hz; exact .inl (back p z d hz hzf hd)
    · have : (ρ2.rets ρ3.ret) p = ρ p := by show ρ2 p = ρ p; rw [t12.loc]
      rw [← this]; exact hp
    · show h.next ≤ a.2.next
      rw [t12.next]; exact Nat.le_refl _
    · rcases hrid b hb with hh | hh
      · rcases t12.rids' hh with hh | ⟨p, z, d, m1, m2, m3, m4⟩
        · exact .inl hh
        · rw [AHeap.get_del] at m1
          split at m1
          · cases m1
          · exact .inr (.inr ⟨p, z, d, m1, m2, m3, m4⟩)
      · exact .inr (.inl hh)
    · intro p z d p' z' d' m1 m2 m3 m4 m5 m6
      have hge := hblk p z d m1 m2 m3
      rw [AHeap.get_set] at m4
      by_cases e : p' = o
      · subst e
        rw [hlo] at m6; cases m6
        omega
      · rw [if_neg e] at m4
        have := H2.blk m4 m6
        omega
    · intro p z d m1 m2 m3
      have hge := hblk p z d m1 m2 m3
      cases hr : (ρ2.rets ρ3.ret).view d.blk with
      | none => rfl
      | some z' =>
        obtain ⟨⟨e, fr, m4⟩, _⟩ := H2.rets d.blk z' (.inr hr)
        have := (Array.getElem?_eq_some_iff.mp m4).1
        omega
  obtain ⟨ρ', T', v''⟩ := give_ok j hz (VR.mono ((td.t.trans t3.t).ext) _ _ k1)
  exact ⟨ρ', v'', T'⟩

theorem callBor_sound {f : FuncId} {body : Body} (own : Bool) (hb : BodySound P f body) : BodySound P f (callBor own body) := by
  intro args h v h' ρ w us hr hv H
  unfold callBor at hr
  cases args with
  | nil => cases hr
  | cons p rest =>
    replace hr : (bnd (ptrOf p) fun a => cnd (Nat.beq a.off 0) (bnd (rowAt h a.obj) fun r => callLent own body a.obj rest h r) none) = some (v, h') := hr
    obtain ⟨a, ha, hr⟩ := bnd_eq_some.mp hr
    rw [cnd_eq] at hr
    split at hr
    · rename_i h0
      rw [beqN] at h0
      obtain ⟨r, hrow, hrl⟩ := bnd_eq_some.mp hr
      have hp : p = .ptr (some ⟨a.obj, 0⟩) := by
        cases p <;> simp [ptrOf] at ha
        subst ha; rw [← h0]
      subst hp
      exact callLent_sound own hb hrow (show callLent own body a.obj rest h r = some (v, h') from hrl) hv H
    · cases hr

theorem kindCall_sound {f : FuncId} {body : Body} (k : Kind) (hb : BodySound P f body) : BodySound P f (kindCall k body) := by
  intro args h v h' ρ w us hr hv H
  unfold kindCall at hr
  rw [cnd_eq] at hr
  split at hr
  · rw [cnd_eq] at hr
    split at hr
    · exact callBor_sound k.own hb _ _ _ _ _ _ _ hr hv H
    · rw [cnd_eq] at hr
      split at hr
      · exact callKeep_sound k.own hb _ _ _ _ _ _ _ hr hv H
      · exact callView_sound hb _ _ _ _ _ _ _ hr hv H
  · exact hb _ _ _ _ _ _ _ hr hv H

theorem allSame_mem {run : List AV → Option AV} {a : List AV} {r : List (List AV)} {x : AV} (h : allSame run a r = some x) : ∀ l ∈ a :: r, ∃ y, run l = some y ∧ (y = x ∨ eqRes y x = true) := by
  unfold allSame at h
  obtain ⟨z, hz, h⟩ := bnd_eq_some.mp h
  rw [cnd_eq] at h
  split at h
  case isFalse => cases h
  rename_i hall
  cases h
  intro l hl
  rcases List.mem_cons.mp hl with rfl | hl
  · exact ⟨x, hz, .inl rfl⟩
  · have key : ∀ r : List (List AV), (lrec true (fun l _ ih => ocase (run l) false fun y => cnd (eqRes y x) ih false) r) = true → ∀ l ∈ r, ∃ y, run l = some y ∧ eqRes y x = true := by
      intro r
      induction r with
      | nil => intro _ l hl; cases hl
      | cons b t ih =>
        intro h l hl
        replace h : (ocase (run b) false fun y => cnd (eqRes y x) (lrec true (fun l _ ih => ocase (run l) false fun y => cnd (eqRes y x) ih false) t) false) = true := h
        cases hb : run b with
        | none => rw [hb] at h; cases h
        | some y =>
          rw [hb] at h
          obtain ⟨h1, h2⟩ := cnd_and h
          rcases List.mem_cons.mp hl with rfl | hl
          · exact ⟨y, hb, h1⟩
          · exact ih h2 l hl
    obtain ⟨y, h1, h2⟩ := key r hall l hl
    exact ⟨y, h1, .inr h2⟩
theorem kindSplit_sound {f : FuncId} {body : Body} (k : Kind) (hb : BodySound P f body) : BodySound P f (kindSplit k body) := by
  intro args h v h' ρ w us hr hv H
  unfold kindSplit at hr
  rw [cnd_eq] at hr
  split at hr
  · unfold splitCall at hr
    obtain ⟨l, hl, hlv⟩ := alts_ok hv
    cases ha : alts args with
    | nil => rw [ha] at hl; cases hl
    | cons a r =>
      rw [ha] at hr hl
      cases r with
      | nil =>
        replace hr : kindCall k body a h = some (v, h') := hr
        rcases List.mem_cons.mp hl with rfl | hl
        · exact kindCall_sound k hb _ _ _ _ _ _ _ hr hlv H
        · cases hl
      | cons b t =>
        replace hr : (bnd (allSame (fun l => viewE body l h) a (b :: t)) fun x => some (x, h)) = some (v, h') := hr
        obtain ⟨x, hx, hr⟩ := bnd_eq_some.mp hr
        cases hr
        obtain ⟨y, hy, he⟩ := allSame_mem hx l hl
        refine (viewE_sound hb hy hlv H).mono ?_
        rintro v' w' ⟨k1, T⟩
        refine ⟨ρ, ?_, T⟩
        rcases he with rfl | he
        · exact k1 ρ
        · exact eqRes_VR he (k1 ρ)
  · exact kindCall_sound k hb _ _ _ _ _ _ _ hr hv H

/-- Summaries that are sound. -/
def SumsSound (P : Program) (cfg : Cfg) : Prop := ∀ f s, cfg.sum f = some s → BodySound P f s.run

theorem callX_sound {region : Array Oper → Bool → StepsF} (hR : RegionSound P region) {cfg : Cfg} (hS : SumsSound P cfg) : ∀ n : Nat, CallSound P (callX P region cfg n)
  | 0 => fun f args h v h' ρ w us hr => by cases hr
  | n + 1 => fun f args h v h' ρ w us hr hv H => by
    replace hr : (ocase (cfg.sum f) (kindSplit (cfg.kind f) ((funF P region f).run (callX P region cfg n) (n + 1)) args h) fun s => s.run args h) = some (v, h') := hr
    cases hs : cfg.sum f with
    | some s => rw [hs] at hr; exact hS f s hs _ _ _ _ _ _ _ hr hv H
    | none =>
      rw [hs] at hr
      exact kindSplit_sound (cfg.kind f) (fun args h v h' ρ w us hr hv H => funF_sound hR (callX_sound hR hS n) (n + 1) f args h v h' ρ w us hr hv H) _ _ _ _ _ _ _ hr hv H

end
end Go.Proofs.YtonojkcnencodaaDoor.BH
