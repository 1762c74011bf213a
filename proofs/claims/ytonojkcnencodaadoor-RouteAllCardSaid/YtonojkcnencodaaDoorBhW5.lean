/-
  BH: walking by facts: regions whose order is free. What has come up is told by the bits of a number; steps that read slots alone are taken ahead (they yield the same whenever they come); the others are taken in every order that there may be.
-/
import Derived.Test.YtonojkcnencodaaDoorBhW4
namespace Go.Proofs.YtonojkcnencodaaDoor.BH
noncomputable section

structure DrawB (ops : List Oper) : Prop where
  down : ∀ i o, ops[i]? = some o → ∀ e ∈ o.after.toList, Region.binds .any e = true → e.on < i
  once : ∀ (i j : Nat) (o u : Oper) (d : Tmp), ops[i]? = some o → ops[j]? = some u → i ≠ j → o.dst = some d → u.dst ≠ some d
  tied : ∀ i j o u t, ops[i]? = some o → ops[j]? = some u → i ≠ j → t ∈ looks ops o → u.dst = some t → bit (nthM (masks ops) i) j = true ∨ bit (nthM (masks ops) j) i = true
  sel : ∀ (i : Nat) (o : Oper), ops[i]? = some o → noSel o = true
def drawB (ops : List Oper) : Bool := edgesDown (pairs ops) && dstsOnce (pairs ops) && looksTied ops (masks ops) (pairs ops) && ops.all noSel
theorem drawB_spec {ops : List Oper} (h : drawB ops = true) : DrawB ops := by
  unfold drawB at h
  simp only [Bool.and_eq_true] at h
  obtain ⟨⟨⟨h1, h2⟩, h4⟩, h5⟩ := h
  refine ⟨?_, ?_, ?_, fun i o ho => by rw [List.all_eq_true] at h5; exact h5 o (List.mem_of_getElem? ho)⟩
  · intro i o ho e he hb
    unfold edgesDown at h1
    rw [List.all_eq_true] at h1
    have := h1 (i, o) (mem_pairs ho)
    simp only [List.all_eq_true] at this
    have := this e he
    simpa [hb, Nat.blt_eq] using this
  · intro i j o u d ho hu hne hd hd'
    unfold dstsOnce at h2
    rw [List.all_eq_true] at h2
    have := h2 (i, o) (mem_pairs ho)
    simp only [List.all_eq_true] at this
    have := this (j, u) (mem_pairs hu)
    simp only [hd, hd', Bool.or_eq_true, beqN, Bool.not_eq_true'] at this
    rcases this with h | h
    · exact hne h
    · have h5 : Nat.beq d d = true := (beqN d d).mpr rfl
      rw [h5] at h; cases h
  · intro i j o u t ho hu hne ht hd
    unfold looksTied at h4
    rw [List.all_eq_true] at h4
    have := h4 (i, o) (mem_pairs ho)
    simp only [List.all_eq_true] at this
    have := this t ht (j, u) (mem_pairs hu)
    simp only [hd, Bool.or_eq_true, beqN, Bool.not_eq_true'] at this
    rcases this with h | (h | h) | h
    · exact absurd h hne
    · have h5 : Nat.beq t t = true := (beqN t t).mpr rfl
      rw [h5] at h; cases h
    · exact .inl h
    · exact .inr h

theorem Frame.less {fp fp' fp'' : List Nat} {h h' : AHeap} (f : Frame fp h fp' h') (e : ∀ o ∈ fp'', o ∈ fp') : Frame fp h fp'' h' := ⟨f.keep, f.next, fun o ho => f.fps o (e o ho)⟩
theorem Agree.upd {ops : List Oper} {V : Nat → AV} {e₀ e : Env} {D : Nat → Prop} (A : Agree ops V e₀ D e) {i : Nat} (hi : ¬ D i) (v : AV) : Agree ops (fun k => if k = i then v else V k) e₀ D e :=
  ⟨A.len, A.old, fun j o t hj ho hd hl => by
    show nth e t = if j = i then v else V j
    rw [if_neg (fun h => by subst h; exact hi hj)]; exact A.new j o t hj ho hd hl⟩

section
variable {C : Ctx} {n : Nat}

/-- An operation that yields the same whenever it comes, and leaves what is there as it is (it may make new memory). -/
def LazyRun (C : Ctx) (l : List Oper) (o : Oper) (es : Env) (v : AV) : Prop := ∀ ρ h w a ea, WF h → EnvR ρ ea a → (∀ t ∈ looks l o, nth ea t = nth es t) → HRel ρ h w →
  ExecOk C.P o a w fun u w' => ∃ ρ' h', VR ρ' v u ∧ Trans ρ h w ρ' h' w' ∧ WF h' ∧ ∀ x, x < h.next → h'.get x = h.get x
def PureAt (C : Ctx) (l : List Oper) (o : Oper) (es : Env) (v : AV) : Prop :=
  (guardOn l o es = true → LazyRun C l o es v) ∧ (guardOn l o es = false → v = .undef)

/-- Where a region stands: what is told (dn) and what has come up (listed). -/
structure DS (C : Ctx) (ops : Array Oper) (dn : Nat) (listed : Array Bool) (V : Nat → AV) (e0 ev ea : Env) : Prop where
  size : listed.size = ops.size
  sub : ∀ j, listed.getD j false = true → bit dn j = true
  down : ∀ i o, listed.getD i false = true → ops.toList[i]? = some o → ∀ e ∈ o.after.toList, Region.binds .any e = true → listed.getD e.on false = true
  dnd : ∀ j, bit dn j = true → ∀ k, bit (nthM (masks ops.toList) j) k = true → bit dn k = true
  av : Agree ops.toList V e0 (fun j => bit dn j = true) ev
  aa : Agree ops.toList V e0 (fun j => listed.getD j false = true) ea
  pend : ∀ j o, bit dn j = true → listed.getD j false = false → ops.toList[j]? = some o → ∃ (Ds : Nat → Prop) (es : Env), Agree ops.toList V e0 Ds es ∧ (∀ k, bit (nthM (masks ops.toList) j) k = true → Ds k) ∧ ¬ Ds j ∧
    (∀ k, Ds k → bit dn k = true) ∧ (∀ k, Ds k → bit (nthM (masks ops.toList) k) j = false) ∧ PureAt C ops.toList o es (V j)

theorem lazy_pure {l : List Oper} {o : Oper} {es : Env} {v : AV} {call : CallV} (hc : CallSound C.P call) (hr : ∀ g, (operF C.P o.op).run call es g = some (v, g)) : LazyRun C l o es v := fun ρ h w a ea hw he hl H => by
  have rr := hr h
  rw [← operF_congr o.op fun x hx => opv_congr fun t ht => hl t (by
    subst ht
    unfold looks
    exact List.mem_append_left _ (List.mem_filterMap.mpr ⟨.tmp t, by simpa using hx, rfl⟩))] at rr
  exact (operF_sound hc o ea h v h ρ w a rr he H).mono fun u w' ⟨ρ', g1, g2⟩ => ⟨ρ', h, g1, g2, hw, fun _ _ => rfl⟩

def WR (C : Ctx) (n : Nat) (ops : Array Oper) (dn : Nat) (E : Fs) (HF : List HI) (Q : Fs → List HI → Prop) : Prop :=
  ∀ (listed : Array Bool) (V : Nat → AV) (e0 ev ea : Env) (ρ : Rho) (h : AHeap) (fp : List Nat) (w : World) (a : Act), DS C ops dn listed V e0 ev ea → Sat n E ev → SatH HF fp h → WF h → EnvR ρ ea a → HRel ρ h w →
    ∀ K : Exit → Act → World → Prop, (∀ a' w', Reach C n ρ h fp w a Q a' w' → K .normal a' w') → ∀ fuel, left listed.toList ≤ fuel → wpAny C.P .any ops K fuel listed a w

theorem bit_or {dn i j : Nat} : bit (dn ||| 2 ^ i) j = true ↔ bit dn j = true ∨ j = i := by
  unfold bit
  rw [Nat.testBit_or, Bool.or_eq_true, Nat.testBit_two_pow, decide_eq_true_eq]
  exact or_congr_right eq_comm

/-- What an operation that may come up sees is what is told. -/
theorem sees_same {ops : List Oper} {V : Nat → AV} {e0 e e' : Env} {D D' : Nat → Prop} (B : DrawB ops) (A : Agree ops V e0 D e) (A' : Agree ops V e0 D' e') {i : Nat} {o : Oper} (ho : ops[i]? = some o) (hi : ¬ D i) (hi' : ¬ D' i)
    (h1 : ∀ k, bit (nthM (masks ops) i) k = true → D k ∧ D' k) (h2 : ∀ k, bit (nthM (masks ops) k) i = true → ¬ D k ∧ ¬ D' k) : ∀ t ∈ looks ops o, nth e t = nth e' t := fun t ht =>
  A.same A' t fun j u hu hd => by
    by_cases hji : j = i
    · subst hji; exact ⟨fun h => absurd h hi, fun h => absurd h hi'⟩
    · rcases B.tied i j o u t ho hu (fun hh => hji hh.symm) ht hd with hb | hb
      · exact ⟨fun _ => (h1 j hb).2, fun _ => (h1 j hb).1⟩
      · exact ⟨fun h => absurd h (h2 j hb).1, fun h => absurd h (h2 j hb).2⟩

theorem guardOn_congr {l : List Oper} {o : Oper} {e e' : Env} (h : ∀ t ∈ looks l o, nth e t = nth e' t) : guardOn l o e = guardOn l o e' := by
  unfold guardOn
  cases hg : o.guard with
  | none => rfl
  | some g =>
    obtain ⟨j, want⟩ := g
    show guardV ((l[j]?).bind Oper.dst) want e = guardV ((l[j]?).bind Oper.dst) want e'
    unfold guardV
    cases hd : (l[j]?).bind Oper.dst with
    | none => rfl
    | some d =>
      have : nth e d = nth e' d := h d (by
        unfold looks
        rw [hg]
        refine List.mem_append_right _ ?_
        have hd' : (l[j]?).bind (fun x => x.dst) = some d := hd
        simp [hd'])
      simp only [this]
theorem Reach.first {ρ ρ1 : Rho} {h h1 : AHeap} {fp fp1 : List Nat} {w w1 : World} {a a1 : Act} {R : Fs → List HI → Prop} {a' : Act} {w' : World} (hd : a1.defers = a.defers) (T : Trans ρ h w ρ1 h1 w1) (F : Frame fp h fp1 h1) (r : Reach C n ρ1 h1 fp1 w1 a1 R a' w') : Reach C n ρ h fp w a R a' w' := by
  obtain ⟨ρ2, e2, h2, fp2, E2, HF2, q1, q2, q3, q4, q5, q6, q7, q8⟩ := r
  exact ⟨ρ2, e2, h2, fp2, E2, HF2, q1, q2.trans hd, T.trans q3, q4, q5, q6, F.trans q7, q8⟩

variable {ops : Array Oper} {dn : Nat} {E : Fs} {HF : List HI} {Q : Fs → List HI → Prop}

theorem set_iff {listed : Array Bool} {i : Nat} (hil : i < listed.size) (j : Nat) : (listed.setIfInBounds i true).getD j false = true ↔ (listed.getD j false = true ∨ j = i) := by
  by_cases hij : i = j
  · subst hij; simp [hil]
  · rw [getD_set_ne false hij]
    exact ⟨.inl, fun hh => hh.resolve_right fun he => hij he.symm⟩
theorem left_step {listed : Array Bool} {i fuel : Nat} (hil : i < listed.size) (hun : listed.getD i false = false) (hl : left listed.toList ≤ fuel + 1) : left (listed.setIfInBounds i true).toList ≤ fuel := by
  rw [Array.toList_setIfInBounds]
  have := left_set listed.toList i (by rw [Array.getElem?_toList, Array.getElem?_eq_getElem hil]; simpa [hil] using hun)
  omega

theorem wr_go (B : DrawB ops.toList)
    (step : ∀ i o, ops.toList[i]? = some o → bit dn i = false → (∀ k, bit (nthM (masks ops.toList) i) k = true → bit dn k = true) → WS C n ops.toList [o] E HF fun E' HF' => WR C n ops (dn ||| 2 ^ i) E' HF' Q)
    (fin : (∀ i, i < ops.size → bit dn i = true) → Q E HF) : WR C n ops dn E HF Q := by
  intro listed V e0 ev ea ρ h fp w a S h1 h2 h3 he H K hK fuel
  -- at the end
  have done : ∀ {listed : Array Bool} {V : Nat → AV} {e0 ev ea : Env} {ρ : Rho} {h : AHeap} {w : World} {a : Act} {K : Exit → Act → World → Prop}, SatH HF fp h → WF h → DS C ops dn listed V e0 ev ea → Sat n E ev → EnvR ρ ea a → HRel ρ h w → (∀ a' w', Reach C n ρ h fp w a Q a' w' → K .normal a' w') →
      (∀ i, i < ops.size → listed.getD i false = true) → K .normal a w := by
    intro listed V e0 ev ea ρ h w a K h2 h3 S h1 he H hK hall
    have e1 : ea = ev := S.aa.eq S.av fun j hj => by
      have := hall j (by simpa using hj)
      exact ⟨fun _ => S.sub j this, fun _ => this⟩
    subst e1
    exact hK a w (.here h1 h2 h3 he H (fin fun i hi => S.sub i (hall i hi)))
  have all : ∀ {listed : Array Bool}, listed.size = ops.size → Region.ready .any ops listed = [] → ∀ i, i < ops.size → listed.getD i false = true := by
    intro listed hs hr i
    induction i using Nat.strongRecOn with
    | _ i ih =>
      intro hi
      cases hb : listed.getD i false with
      | true => rfl
      | false =>
        have ho : ops[i]? = some ops[i] := Array.getElem?_eq_getElem hi
        have : i ∈ Region.ready .any ops listed := mem_ready.mpr ⟨?_, _, ho, fun e he hb' => ?_⟩
        · rw [hr] at this; cases this
        · have : i < listed.size := by omega
          simp [this] at hb ⊢; exact hb
        · have := B.down i _ (by rw [Array.getElem?_toList]; exact ho) e (by simpa using he) hb'
          exact ih e.on this (by omega)
  induction fuel generalizing listed V e0 ev ea ρ w a K h with
  | zero =>
    intro hl
    have hall : ∀ i, i < ops.size → listed.getD i false = true := by
      intro i hi
      have hi' : i < listed.size := by rw [S.size]; exact hi
      cases hb : listed.getD i false with
      | true => rfl
      | false =>
        have : listed.toList[i]? = some false := by
          rw [Array.getElem?_toList, Array.getElem?_eq_getElem hi']
          simpa [hi'] using hb
        have := left_pos this
        omega
    refine ⟨?_, done h2 h3 S h1 he H hK hall⟩
    cases hr : Region.ready .any ops listed with
    | nil => rfl
    | cons i r =>
      exfalso
      have hm : i ∈ Region.ready .any ops listed := by rw [hr]; exact List.mem_cons_self
      obtain ⟨h1, o, h2, _⟩ := mem_ready.mp hm
      have hi := (Array.getElem?_eq_some_iff.mp h2).1
      have := hall i hi
      have hi' : i < listed.size := by rw [S.size]; exact hi
      simp [hi'] at this h1
      rw [this] at h1; cases h1
  | succ fuel ih =>
    intro hl
    refine ⟨fun hr => done h2 h3 S h1 he H hK (all S.size hr), fun i hi => ?_⟩
    obtain ⟨hun, o, ho, hedge⟩ := mem_ready.mp hi
    have hin := (Array.getElem?_eq_some_iff.mp ho).1
    have hil : i < listed.size := by rw [S.size]; exact hin
    have hio : ops.toList[i]? = some o := by rw [Array.getElem?_toList]; exact ho
    have hunf : listed.getD i false = false := by simp [hil] at hun ⊢; exact hun
    have hni : ¬ (listed.getD i false = true) := by rw [hunf]; simp
    have hedge' : ∀ e ∈ o.after.toList, Region.binds .any e = true → listed.getD e.on false = true := fun e he => hedge e (by simpa using he)
    have hdown : ∀ j, bit (nthM (masks ops.toList) i) j = true → listed.getD j false = true := fun j hj =>
      (anc_down (D := fun j => listed.getD j false = true) S.down i o hio hedge' j hj).1
    have hup : ∀ j, bit (nthM (masks ops.toList) j) i = true → ¬ listed.getD j false = true := fun j hb hj => by
      have hjl : j < ops.toList.length := by
        have hj2 : j < listed.size := by
          rcases Nat.lt_or_ge j listed.size with hh | hh
          · exact hh
          · simp [hh] at hj
        rw [S.size] at hj2; simpa using hj2
      have hu : ops.toList[j]? = some ops.toList[j] := List.getElem?_eq_getElem hjl
      exact hni (anc_down (D := fun j => listed.getD j false = true) S.down j _ hu (S.down j _ hj hu) i hb).1
    have hleft := left_step hil hunf hl
    have down' : ∀ j u, (listed.setIfInBounds i true).getD j false = true → ops.toList[j]? = some u → ∀ e ∈ u.after.toList, Region.binds .any e = true → (listed.setIfInBounds i true).getD e.on false = true := by
      intro j u hj hu e' he' hb
      rw [set_iff hil] at hj ⊢
      rcases hj with hj | rfl
      · exact .inl (S.down j u hj hu e' he' hb)
      · rw [hio] at hu; cases hu
        exact .inl (hedge' e' he' hb)
    unfold wpOp
    simp only [ho]
    rw [← guardOn_wanted (ops := ops) (o := o) he]
    cases hbd : bit dn i with
    | true =>
      -- told already
      obtain ⟨Ds, es, k1, k2, k3, k4, k5, k6, k7⟩ := S.pend i o hbd hunf hio
      have hsame := sees_same B S.aa k1 hio hni k3 (fun k hk => ⟨hdown k hk, k2 k hk⟩) (fun k hk => ⟨hup k hk, fun hd => by have := k5 k hd; rw [hk] at this; cases this⟩)
      rw [guardOn_congr hsame]
      have S' : DS C ops dn (listed.setIfInBounds i true) V e0 ev (putD ea o.dst (V i)) := by
        refine ⟨by rw [Array.size_setIfInBounds]; exact S.size, fun j hj => ?_, down', S.dnd, S.av, ?_, fun j u hj hlj hu => ?_⟩
        · rcases (set_iff hil j).mp hj with hj | rfl
          · exact S.sub j hj
          · exact hbd
        · exact (S.aa.put hio fun j u d hj hu hd => B.once i j o u d hio hu (fun hh => by subst hh; exact hni hj) hd).iff fun j => (set_iff hil j).symm
        · refine S.pend j u hj ?_ hu
          cases hb : listed.getD j false with
          | false => rfl
          | true => rw [(set_iff hil j).mpr (.inl hb)] at hlj; cases hlj
      split
      · rename_i hg
        refine .inl ((k6 hg ρ h w a ea h3 he hsame H).wp fun u w' ⟨ρ', h', g1, g2, g3, g4⟩ => ?_)
        have hlt := h2.lt h3
        exact ih _ V e0 ev _ ρ' h' w' (a.put o.dst u) S' h1 (h2.frame fun p hp => g4 p (hlt p hp)) g3 (put_R (he.mono g2.ext) g1) g2.rel K (fun a' w'' r => hK a' w'' (r.first (put_defers a o.dst u) g2 ⟨fun p _ hp => g4 p hp, g2.next, fun p hp => .inl hp⟩)) hleft
      · rename_i hg
        have hv := k7 (by simpa using hg)
        rw [hv] at S'
        exact ih _ V e0 ev _ ρ h w (a.put o.dst Go.undef) S' h1 h2 h3 (put_R he VR.undef) H K (fun a' w'' r => hK a' w'' (r.first (put_defers a o.dst Go.undef) (.refl H) (.refl _ _))) hleft
    | false =>
      have hnd : ¬ bit dn i = true := by rw [hbd]; simp
      have hanc : ∀ k, bit (nthM (masks ops.toList) i) k = true → bit dn k = true := fun k hk => S.sub k (hdown k hk)
      have hupd : ∀ k, bit (nthM (masks ops.toList) k) i = true → ¬ bit dn k = true := fun k hk hd => hnd (S.dnd k hd i hk)
      have hsame := sees_same B S.aa S.av hio hni hnd (fun k hk => ⟨hdown k hk, hanc k hk⟩) (fun k hk => ⟨hup k hk, hupd k hk⟩)
      rw [guardOn_congr hsame]
      obtain ⟨m1, m2⟩ := step i o hio hbd hanc ev h fp h1 h2 h3
      have S' : ∀ v, DS C ops (dn ||| 2 ^ i) (listed.setIfInBounds i true) (fun k => if k = i then v else V k) e0 (putD ev o.dst v) (putD ea o.dst v) := by
        intro v
        refine ⟨by rw [Array.size_setIfInBounds]; exact S.size, fun j hj => ?_, down', fun j hj k hk => ?_, ?_, ?_, fun j u hj hlj hu => ?_⟩
        · rcases (set_iff hil j).mp hj with hj | rfl
          · exact bit_or.mpr (.inl (S.sub j hj))
          · exact bit_or.mpr (.inr rfl)
        · rcases bit_or.mp hj with hj | rfl
          · exact bit_or.mpr (.inl (S.dnd j hj k hk))
          · exact bit_or.mpr (.inl (hanc k hk))
        · have A := (S.av.upd hnd v).put hio fun j u d hj hu hd => B.once i j o u d hio hu (fun hh => by subst hh; exact hnd hj) hd
          simp only [if_true] at A
          exact A.iff fun j => bit_or.symm
        · have A := (S.aa.upd hni v).put hio fun j u d hj hu hd => B.once i j o u d hio hu (fun hh => by subst hh; exact hni hj) hd
          simp only [if_true] at A
          exact A.iff fun j => (set_iff hil j).symm
        · have hji : j ≠ i := by rintro rfl; rw [(set_iff hil j).mpr (.inr rfl)] at hlj; cases hlj
          have hj' : bit dn j = true := (bit_or.mp hj).resolve_right hji
          have hlj' : listed.getD j false = false := by
            cases hb : listed.getD j false with
            | false => rfl
            | true => rw [(set_iff hil j).mpr (.inl hb)] at hlj; cases hlj
          obtain ⟨Ds, es, k1, k2, k3, k4, k5, k6⟩ := S.pend j u hj' hlj' hu
          refine ⟨Ds, es, k1.upd (fun hd => hnd (k4 i hd)) v, k2, k3, fun k hk => bit_or.mpr (.inl (k4 k hk)), k5, ?_⟩
          rw [if_neg hji]; exact k6
      split
      · rename_i hg
        have st := ((m1 hg).1 ρ w a ea he ⟨hsame, fun hs => by rw [B.sel i o hio] at hs; cases hs⟩ H).2 (B.sel i o hio)
        refine .inl (st.wp fun u w' ⟨v, ρ', h', fp', E', HF', g1, g2, g3, g4, g5, g6, g7⟩ => ?_)
        obtain ⟨fp2, E2, HF2, q1, q2, q3, q4⟩ := g7 _ _ _ g3 g4 g5
        exact q4 _ _ e0 _ _ ρ' h' fp2 w' (a.put o.dst u) (S' v) q1 q2 g5 (put_R (he.mono g2.ext) g1) g2.rel K (fun a' w'' r => hK a' w'' (r.first (put_defers a o.dst u) g2 (g6.less q3))) fuel hleft
      · rename_i hg
        obtain ⟨fp', E', HF', g1, g2, g3, g4⟩ := m2 (by simpa using hg)
        obtain ⟨fp2, E2, HF2, q1, q2, q3, q4⟩ := g4 _ _ _ g1 g2 h3
        exact q4 _ _ e0 _ _ ρ h fp2 w (a.put o.dst Go.undef) (S' .undef) q1 q2 h3 (put_R he VR.undef) H K (fun a' w'' r => hK a' w'' (r.first (put_defers a o.dst Go.undef) (.refl H) ⟨fun _ _ _ => rfl, Nat.le_refl _, fun o ho => .inl (g3 o (q3 o ho))⟩)) fuel hleft

/-- Taken ahead: an operation that reads slots alone. -/
theorem wr_floatX {i : Nat} {o : Oper} (hi : ops.toList[i]? = some o) (hbd : bit dn i = false) (hanc : ∀ k, bit (nthM (masks ops.toList) i) k = true → bit dn k = true) (B : DrawB ops.toList) (hk : opKind C.P o.op = 0 ∨ ∀ e, Sat n E e → guardOn ops.toList o e = false)
    (h : WS C n ops.toList [o] E HF fun E' HF' => WR C n ops (dn ||| 2 ^ i) E' HF' Q) : WR C n ops dn E HF Q := by
  intro listed V e0 ev ea ρ hh fp w a S h1 h2 h3 he H K hK fuel hl
  have hnd : ¬ bit dn i = true := by rw [hbd]; simp
  have hni : ¬ listed.getD i false = true := fun hh => hnd (S.sub i hh)
  have hupd : ∀ k, bit dn k = true → bit (nthM (masks ops.toList) k) i = false := fun k hd => by
    cases hb : bit (nthM (masks ops.toList) k) i with
    | false => rfl
    | true => exact absurd (S.dnd k hd i hb) hnd
  obtain ⟨m1, m2⟩ := h ev hh fp h1 h2 h3
  have S' : ∀ v, PureAt C ops.toList o ev v → DS C ops (dn ||| 2 ^ i) listed (fun k => if k = i then v else V k) e0 (putD ev o.dst v) ea := by
    intro v hp
    refine ⟨S.size, fun j hj => bit_or.mpr (.inl (S.sub j hj)), S.down, fun j hj k hk => ?_, ?_, S.aa.upd hni v, fun j u hj hlj hu => ?_⟩
    · rcases bit_or.mp hj with hj | rfl
      · exact bit_or.mpr (.inl (S.dnd j hj k hk))
      · exact bit_or.mpr (.inl (hanc k hk))
    · have A := (S.av.upd hnd v).put hi fun j u d hj hu hd => B.once i j o u d hi hu (fun hh => by subst hh; exact hnd hj) hd
      simp only [if_true] at A
      exact A.iff fun j => bit_or.symm
    · by_cases hji : j = i
      · subst hji
        rw [hi] at hu; cases hu
        refine ⟨fun k => bit dn k = true, ev, S.av.upd hnd v, hanc, hnd, fun k hk => bit_or.mpr (.inl hk), hupd, ?_⟩
        rw [if_pos rfl]; exact hp
      · have hj' : bit dn j = true := (bit_or.mp hj).resolve_right hji
        obtain ⟨Ds, es, k1, k2, k3, k4, k5, k6⟩ := S.pend j u hj' hlj hu
        refine ⟨Ds, es, k1.upd (fun hd => hnd (k4 i hd)) v, k2, k3, fun k hk => bit_or.mpr (.inl (k4 k hk)), k5, ?_⟩
        rw [if_neg hji]; exact k6
  cases hg : guardOn ops.toList o ev with
  | true =>
    have hk := hk.resolve_right fun hk => by rw [hk ev h1] at hg; cases hg
    obtain ⟨call, v, hc, hrun, fp', E', HF', g1, g2, g3, g4⟩ := (m1 hg).2 hk
    obtain ⟨fp2, E2, HF2, q1, q2, q3, q4⟩ := g4 _ _ _ g1 g2 h3
    refine q4 _ _ e0 _ _ ρ hh fp2 w a (S' v ⟨fun _ => lazy_pure hc hrun, fun hf => by rw [hg] at hf; cases hf⟩) q1 q2 h3 he H K (fun a' w' r => hK a' w' (r.first rfl (.refl H) ⟨fun _ _ _ => rfl, Nat.le_refl _, fun o ho => .inl (g3 o (q3 o ho))⟩)) fuel hl
  | false =>
    obtain ⟨fp', E', HF', g1, g2, g3, g4⟩ := m2 hg
    obtain ⟨fp2, E2, HF2, q1, q2, q3, q4⟩ := g4 _ _ _ g1 g2 h3
    refine q4 _ _ e0 _ _ ρ hh fp2 w a (S' .undef ⟨fun ht => by (rw [hg] at ht; cases ht), fun _ => rfl⟩) q1 q2 h3 he H K (fun a' w' r => hK a' w' (r.first rfl (.refl H) ⟨fun _ _ _ => rfl, Nat.le_refl _, fun o ho => .inl (g3 o (q3 o ho))⟩)) fuel hl

/-! ### the same, over a table of what must have come before -/
def subB (m dn : Nat) : Bool := Nat.beq (Nat.land m dn) m
theorem subB_spec {m dn : Nat} (h : subB m dn = true) : ∀ k, bit m k = true → bit dn k = true := by
  intro k hk
  have e : m &&& dn = m := (beqN _ _).mp h
  unfold bit at *
  rw [← e, Nat.testBit_and, Bool.and_eq_true] at hk
  exact hk.2
theorem subB_of {m dn : Nat} (h : ∀ k, bit m k = true → bit dn k = true) : subB m dn = true := by
  refine (beqN _ _).mpr (Nat.eq_of_testBit_eq fun k => ?_)
  show (m &&& dn).testBit k = _
  rw [Nat.testBit_and]
  have := h k
  unfold bit at this
  cases hm : m.testBit k with
  | false => rfl
  | true => rw [this hm]; rfl
/-- Which ones may come up next. -/
def nextB (M : List Nat) (dn size : Nat) : List Nat := (List.range size).filter fun i => !bit dn i && subB (nthM M i) dn
def doneB (dn size : Nat) : Bool := (List.range size).all fun i => bit dn i

structure Free (ops : Array Oper) (M : List Nat) : Prop where
  b : DrawB ops.toList
  m : masks ops.toList = M

theorem wr_float {M : List Nat} (F : Free ops M) (i : Nat) {o : Oper} (hi : ops.toList[i]? = some o) (hc : (!bit dn i && subB (nthM M i) dn) = true) (hk : opKind C.P o.op = 0 ∨ ∀ e, Sat n E e → guardOn ops.toList o e = false)
    (h : WS C n ops.toList [o] E HF fun E' HF' => WR C n ops (dn ||| 2 ^ i) E' HF' Q) : WR C n ops dn E HF Q := by
  rw [Bool.and_eq_true, Bool.not_eq_true'] at hc
  exact wr_floatX hi hc.1 (by rw [F.m]; exact subB_spec hc.2) F.b hk h

/-- Each of some that may come up next. -/
inductive Nexts (C : Ctx) (n : Nat) (ops : Array Oper) (dn : Nat) (E : Fs) (HF : List HI) (Q : Fs → List HI → Prop) : List Nat → Prop where
  | nil : Nexts C n ops dn E HF Q []
  | cons {i : Nat} {r : List Nat} {o : Oper} (hi : ops.toList[i]? = some o) (h : WS C n ops.toList [o] E HF fun E' HF' => WR C n ops (dn ||| 2 ^ i) E' HF' Q) (hr : Nexts C n ops dn E HF Q r) : Nexts C n ops dn E HF Q (i :: r)
theorem Nexts.mem {l : List Nat} (h : Nexts C n ops dn E HF Q l) : ∀ i ∈ l, ∀ o, ops.toList[i]? = some o → WS C n ops.toList [o] E HF fun E' HF' => WR C n ops (dn ||| 2 ^ i) E' HF' Q := by
  induction h with
  | nil => intro i hi; cases hi
  | cons hi h _ ih =>
    intro j hj o ho
    rcases List.mem_cons.mp hj with rfl | hj
    · rw [hi] at ho; cases ho; exact h
    · exact ih j hj o ho
theorem wr_next {M : List Nat} (F : Free ops M) {l : List Nat} (hl : nextB M dn ops.size = l) (hne : l ≠ []) (h : Nexts C n ops dn E HF Q l) : WR C n ops dn E HF Q := by
  refine wr_go F.b (fun i o hi hbd hanc => ?_) fun hall => ?_
  · refine h.mem i ?_ o hi
    rw [← hl]
    unfold nextB
    have hlt : i < ops.size := by
      rcases Nat.lt_or_ge i ops.toList.length with hh | hh
      · simpa using hh
      · rw [List.getElem?_eq_none hh] at hi; cases hi
    rw [List.mem_filter]
    refine ⟨List.mem_range.mpr hlt, ?_⟩
    rw [hbd, ← F.m, subB_of hanc]; rfl
  · exfalso
    obtain ⟨i, r, rfl⟩ : ∃ i r, l = i :: r := by
      cases l with
      | nil => exact absurd rfl hne
      | cons i r => exact ⟨i, r, rfl⟩
    have : i ∈ nextB M dn ops.size := by rw [hl]; exact List.mem_cons_self
    unfold nextB at this
    rw [List.mem_filter, List.mem_range] at this
    have h2 := this.2
    rw [hall i this.1] at h2
    simp at h2
theorem wr_end {M : List Nat} (F : Free ops M) (hd : doneB dn ops.size = true) (h : Q E HF) : WR C n ops dn E HF Q := by
  unfold doneB at hd
  rw [List.all_eq_true] at hd
  refine wr_go F.b (fun i o hi hbd _ => ?_) fun _ => h
  have hlt : i < ops.size := by
    rcases Nat.lt_or_ge i ops.toList.length with hh | hh
    · simpa using hh
    · rw [List.getElem?_eq_none hh] at hi; cases hi
  have := hd i (List.mem_range.mpr hlt)
  rw [hbd] at this; cases this

/-- A region whose order is free. -/
theorem wc_free {id : Nat} {Q : Post} (M : List Nat) (hb : drawB ops.toList = true) (hm : masks ops.toList = M) (h : Free ops M → WR C n ops 0 E HF fun E HF => Q .normal E HF) : WC C n (.region id ops true) E HF Q := fun e hh fp h1 h2 h3 ρ w a he H => by
  have F : Free ops M := ⟨drawB_spec hb, hm⟩
  have H' : HRel ρ hh { w with drawn := w.drawn + 1 } := ⟨H.objs, H.inj, H.fresh, H.rets, H.fixed⟩
  have T₀ : Trans ρ hh w ρ hh { w with drawn := w.drawn + 1 } :=
    ⟨.refl ρ, H', fun _ _ _ => rfl, Nat.le_refl _, rfl, rfl, fun o x c hx hf hc => .inl ⟨o, x, c, hx, hf, hc, rfl⟩, fun _ ho => .inl ho, Nat.le_refl _, fun _ hb => .inl hb, rfl⟩
  have none : ∀ j, (Array.replicate ops.size false).getD j false = true → False := by
    intro j hj
    rw [Array.getD_eq_getD_getElem?, Array.getElem?_replicate] at hj
    split at hj <;> cases hj
  refine wp_region_any C.mixed (h F _ (fun _ => .undef) e e e ρ hh fp _ a ⟨by simp, fun j hj => (none j hj).elim, fun i o hi => (none i hi).elim, fun j hj => ?_, ?_, ?_, fun j o hj => ?_⟩ h1 h2 h3 he H' _ (fun a' w' r => ⟨.normal, rfl, r.first rfl T₀ (.refl _ _)⟩) _ ?_)
  · simp [bit] at hj
  · exact Agree.none.iff fun j => by simp [bit]
  · exact Agree.none.iff fun j => ⟨False.elim, fun hj => none j hj⟩
  · simp [bit] at hj
  · unfold left
    refine Nat.le_trans List.countP_le_length ?_
    simp

theorem WR.pre (h : ∀ e hh fp, Sat n E e → SatH HF fp hh → WF hh → ∃ fp' E' HF', Sat n E' e ∧ SatH HF' fp' hh ∧ (∀ o ∈ fp', o ∈ fp) ∧ WR C n ops dn E' HF' Q) : WR C n ops dn E HF Q := by
  intro listed V e0 ev ea ρ hh fp w a S h1 h2 h3 he H K hK fuel hl
  obtain ⟨fp', E', HF', k1, k2, k3, k4⟩ := h ev hh fp h1 h2 h3
  exact k4 _ _ e0 _ _ ρ hh fp' w a S k1 k2 h3 he H K (fun a' w' r => hK a' w' (r.first rfl (.refl H) ⟨fun _ _ _ => rfl, Nat.le_refl _, fun o ho => .inl (k3 o ho)⟩)) fuel hl
section
variable {all : List Oper}
theorem guardOn_lk {o : Oper} {e : Env} {j g : Nat} {want b : Bool} (ho : o.guard = some (j, want)) (hj : (all[j]?).bind Oper.dst = some g) (hl : lk E g = some (.bool b)) (hs : Sat n E e) : guardOn all o e = (b == want) := by
  unfold guardOn
  rw [ho]
  show guardV ((all[j]?).bind Oper.dst) want e = _
  rw [hj]
  show (match nth e g with
    | .bool b => if b then want else !want
    | _ => false) = _
  rw [hs.get _ _ hl]; cases b <;> cases want <;> rfl
end

/-- An operation that yields the same on every heap. -/
def PureF (C : Ctx) (n : Nat) (E : Fs) (op : Op) (v : AV) : Prop := ∀ e h call, Sat n E e → (operF C.P op).run call e h = some (v, h)
/-- An operation that may be taken ahead. -/
structure LazyF (C : Ctx) (n : Nat) (l : List Oper) (E : Fs) (o : Oper) (v : AV) : Prop where
  run : ∀ {es}, Sat n E es → LazyRun C l o es v
theorem PureF.lazy {l : List Oper} {o : Oper} {v : AV} (h : PureF C n E o.op v) : LazyF C n l E o v := ⟨fun hs => lazy_pure (callX_sound (regionF_sound C.mixed) C.sums 0) fun g => h _ g _ hs⟩
theorem wr_lazy {M : List Nat} (F : Free ops M) (i : Nat) {o : Oper} {d : Nat} {v : AV} (hi : ops.toList[i]? = some o) (hc : (!bit dn i && subB (nthM M i) dn) = true) (hdst : o.dst = some d) (hd : Nat.blt d n = true) (hp : LazyF C n ops.toList E o v)
    (hg : o.guard = none ∨ ∃ j g want, o.guard = some (j, want) ∧ (ops.toList[j]?).bind Oper.dst = some g ∧ lk E g = some (.bool want)) (h : WR C n ops (dn ||| 2 ^ i) ((d, v) :: E) HF Q) : WR C n ops dn E HF Q := by
  rw [Bool.and_eq_true, Bool.not_eq_true'] at hc
  have hbd := hc.1
  have hanc : ∀ k, bit (nthM (masks ops.toList) i) k = true → bit dn k = true := by rw [F.m]; exact subB_spec hc.2
  intro listed V e0 ev ea ρ hh fp w a S h1 h2 h3 he H K hK fuel hl
  have hnd : ¬ bit dn i = true := by rw [hbd]; simp
  have hni : ¬ listed.getD i false = true := fun hh => hnd (S.sub i hh)
  have hupd : ∀ k, bit dn k = true → bit (nthM (masks ops.toList) k) i = false := fun k hd => by
    cases hb : bit (nthM (masks ops.toList) k) i with
    | false => rfl
    | true => exact absurd (S.dnd k hd i hb) hnd
  have hon : guardOn ops.toList o ev = true := by
    rcases hg with hg | ⟨j, g, want, g1, g2, g3⟩
    · unfold guardOn; rw [hg]
    · rw [guardOn_lk g1 g2 g3 h1]; cases want <;> rfl
  have hp' : PureAt C ops.toList o ev v := ⟨fun _ => hp.run h1, fun hf => by rw [hon] at hf; cases hf⟩
  refine h _ (fun k => if k = i then v else V k) e0 (putD ev o.dst v) ea ρ hh fp w a ⟨S.size, fun j hj => bit_or.mpr (.inl (S.sub j hj)), S.down, fun j hj k hk => ?_, ?_, S.aa.upd hni v, fun j u hj hlj hu => ?_⟩ (by rw [hdst]; exact h1.put d v hd) h2 h3 he H K (fun a' w' r => hK a' w' r) fuel hl
  · rcases bit_or.mp hj with hj | rfl
    · exact bit_or.mpr (.inl (S.dnd j hj k hk))
    · exact bit_or.mpr (.inl (hanc k hk))
  · have A := (S.av.upd hnd v).put hi fun j u d hj hu hd => F.b.once i j o u d hi hu (fun hh => by subst hh; exact hnd hj) hd
    simp only [if_true] at A
    exact A.iff fun j => bit_or.symm
  · by_cases hji : j = i
    · subst hji
      rw [hi] at hu; cases hu
      refine ⟨fun k => bit dn k = true, ev, S.av.upd hnd v, hanc, hnd, fun k hk => bit_or.mpr (.inl hk), hupd, ?_⟩
      rw [if_pos rfl]; exact hp'
    · have hj' : bit dn j = true := (bit_or.mp hj).resolve_right hji
      obtain ⟨Ds, es, k1, k2, k3, k4, k5, k6⟩ := S.pend j u hj' hlj hu
      refine ⟨Ds, es, k1.upd (fun hd => hnd (k4 i hd)) v, k2, k3, fun k hk => bit_or.mpr (.inl (k4 k hk)), k5, ?_⟩
      rw [if_neg hji]; exact k6
theorem wr_pure {M : List Nat} (F : Free ops M) (i : Nat) {o : Oper} {d : Nat} {v : AV} (hi : ops.toList[i]? = some o) (hc : (!bit dn i && subB (nthM M i) dn) = true) (hdst : o.dst = some d) (hd : Nat.blt d n = true) (hp : PureF C n E o.op v)
    (hg : o.guard = none ∨ ∃ j g want, o.guard = some (j, want) ∧ (ops.toList[j]?).bind Oper.dst = some g ∧ lk E g = some (.bool want)) (h : WR C n ops (dn ||| 2 ^ i) ((d, v) :: E) HF Q) : WR C n ops dn E HF Q := wr_lazy F i hi hc hdst hd hp.lazy hg h
theorem pf_ldC1 {t : TypeId} {x : Operand} {o : Nat} {cs : List AV} {v : AV} (ha : aggOf C.P t = some false) (hx : ev E x = some (.cptr cs o)) (hl : cs[o]? = some v) : PureF C n E (.load t x) v := fun e h _ hs => by
  show (bnd (opv e x) fun a => bnd ((loadF C.P t).run h a) fun v => some (v, h)) = _
  rw [ev_opv hs hx]
  unfold loadF; simp only [ha, bnd_some]
  show (bnd (cellAt cs o) fun v => some (v, h)) = _
  rw [cellAt_eq, hl]; rfl
end
end
end Go.Proofs.YtonojkcnencodaaDoor.BH
