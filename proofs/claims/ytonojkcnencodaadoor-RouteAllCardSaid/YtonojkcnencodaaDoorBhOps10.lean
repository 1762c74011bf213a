/-
  BH: every operation that calls nothing.
-/
import Derived.Test.YtonojkcnencodaaDoorBhOps9
namespace Go.Proofs.YtonojkcnencodaaDoor.BH

section
variable {P : Program} {ρ : Rho} {h : AHeap} {w : World} {argTypes : Array TypeId} {ty : TypeId}

theorem minmax_cons (mx : Bool) (x y : AV) (r : List AV) : minmax mx x (y :: r) = bnd (intOf x) fun a => bnd (intOf y) fun b =>
    minmax mx (.int a.1 (cnd mx (cnd (ltI a.2 b.2) b.2 a.2) (cnd (ltI b.2 a.2) b.2 a.2))) r := rfl

theorem minmax_run (mx : Bool) : ∀ {l : List AV} {x v : AV} {u : Value} {us : List Value}, VR ρ x u → VRL ρ l us → minmax mx x l = some v →
    ∃ v', (us.foldlM (if mx then Builtin.max2 else Builtin.min2) u).run P w = .ok v' w ∧ VR ρ v v'
  | [], x, v, u, us, hx, hl, hr => by
    simp only [VRL] at hl; subst hl
    cases hr
    exact ⟨u, rfl, hx⟩
  | y :: r, x, v, u, us, hx, hl, hr => by
    simp only [VRL] at hl
    obtain ⟨u', us', rfl, h1, h2⟩ := hl
    rw [minmax_cons] at hr
    obtain ⟨a, ha, hr⟩ := bnd_eq_some.mp hr
    obtain ⟨b, hb, hr⟩ := bnd_eq_some.mp hr
    rw [intOf_VR ha hx, intOf_VR hb h1]
    have hn : VR ρ (.int a.1 (cnd mx (cnd (ltI a.2 b.2) b.2 a.2) (cnd (ltI b.2 a.2) b.2 a.2))) (.int a.1 (if mx then (if b.2 > a.2 then b.2 else a.2) else (if b.2 < a.2 then b.2 else a.2))) := by
      simp only [VR]
      congr 1
      cases mx <;> simp [cnd_eq, ltI_eq]
    obtain ⟨v', g1, g2⟩ := minmax_run mx hn h2 hr
    refine ⟨v', ?_, g2⟩
    rw [← g1]
    cases mx <;> simp [Builtin.max2, Builtin.min2]

theorem nilCheckV_run {x v : AV} {u : Value} {o : Oper} {a : Act} {y : Operand} (ho : o.op = .nilCheck y) (hu : a.eval y = u) (hx : VR ρ x u) (hr : nilCheckV x = some v) :
    (execOp a.eval o).run P w = .ok (.value u) w ∧ v = x := by
  unfold execOp
  rw [ho]
  simp only [hu]
  unfold nilCheckV at hr
  cases x with
  | ptr p => cases p with
    | none => cases hr
    | some p => cases hr; simp only [VR] at hx; obtain ⟨_, _, rfl⟩ := hx; exact ⟨rfl, rfl⟩
  | nilIface => cases hr
  | nilFunc => cases hr
  | func fn f c =>
    simp only [VR] at hx; obtain ⟨x', y', rfl, _⟩ := hx
    cases fn with
    | method n => cases hr
    | _ => cases hr; exact ⟨rfl, rfl⟩
  | slice q _ _ => cases hr; cases q <;> simp only [VR] at hx <;> first | (obtain ⟨_, _, rfl⟩ := hx; exact ⟨rfl, rfl⟩) | (obtain ⟨_, _, _, rfl, _⟩ := hx; exact ⟨rfl, rfl⟩)
  | map q => cases hr; cases q <;> simp only [VR] at hx <;> first | (subst hx; exact ⟨rfl, rfl⟩) | (obtain ⟨_, _, rfl⟩ := hx; exact ⟨rfl, rfl⟩)
  | chan q => cases hr; cases q <;> simp only [VR] at hx <;> first | (subst hx; exact ⟨rfl, rfl⟩) | (obtain ⟨_, _, rfl⟩ := hx; exact ⟨rfl, rfl⟩)
  | iface _ _ => cases hr; simp only [VR] at hx; obtain ⟨_, rfl, _⟩ := hx; exact ⟨rfl, rfl⟩
  | agg _ => cases hr; simp only [VR] at hx; obtain ⟨_, rfl, _⟩ := hx; exact ⟨rfl, rfl⟩
  | tuple _ => cases hr; simp only [VR] at hx; obtain ⟨_, rfl, _⟩ := hx; exact ⟨rfl, rfl⟩
  | bool _ => cases hr; simp only [VR] at hx; subst hx; exact ⟨rfl, rfl⟩
  | int _ _ => cases hr; simp only [VR] at hx; subst hx; exact ⟨rfl, rfl⟩
  | str _ => cases hr; simp only [VR] at hx; subst hx; exact ⟨rfl, rfl⟩
  | lst _ _ _ _ => cases hr; simp only [VR] at hx; obtain ⟨ao, _, rfl, _⟩ := hx; exact ⟨rfl, rfl⟩
  | cptr _ _ => cases hr; simp only [VR] at hx; obtain ⟨_, _, _, _, rfl, _⟩ := hx; exact ⟨rfl, rfl⟩

theorem extract_run {x v : AV} {u : Value} {i : Nat} (hx : VR ρ x u) (hr : extractV i x = some v) : ∃ v', (Instr.extract u i).run P w = .ok v' w ∧ VR ρ v v' := by
  unfold extractV at hr
  split at hr
  · rename_i vs
    simp only [VR] at hx
    obtain ⟨us, rfl, h2⟩ := hx
    rw [cellAt_eq] at hr
    obtain ⟨v', g1, g2⟩ := h2.get hr
    rw [Array.getElem?_toList] at g1
    exact ⟨v', by unfold Instr.extract; simp [g1], g2⟩
  · cases hr

theorem convF_run (H : HRel ρ h w) {src dst : TypeId} {x v : AV} {u : Value} {h' : AHeap} (hx : VR ρ x u) (hr : (convF P src dst).run h x = some (v, h')) :
    ∃ ρ' w' v', (convert src dst u).run P w = .ok v' w' ∧ VR ρ' v v' ∧ Trans ρ h w ρ' h' w' := by
  unfold convF at hr
  cases hd : undOf P dst with
  | none => rw [hd] at hr; cases hr
  | some D =>
  rw [hd] at hr
  cases hs : undOf P src with
  | none => cases D <;> simp only [hs] at hr <;> cases hr
  | some S =>
  have byteTy : ∀ e, isByte P e = true → undOf P e = some (.int .u8) := by
    intro e he
    unfold isByte at he
    split at he
    · rename_i hh; exact hh
    · cases he
  cases D with
  | int k =>
    simp only [hs] at hr
    cases S with
    | int k0 =>
      obtain ⟨i, hi, hr⟩ := bnd_eq_some.mp hr
      cases hr
      rw [intOf_VR hi hx]
      refine ⟨ρ, w, .int k (k.wrap i.2), ?_, by simp only [VR, wrapF_eq], .refl H⟩
      unfold convert
      simp [run_und hs, run_und hd, Conv.intToInt]
    | _ => cases hr
  | string =>
    simp only [hs] at hr
    cases S with
    | string =>
      obtain ⟨s, hs', hr⟩ := bnd_eq_some.mp hr
      cases hr
      rw [strOf_VR hs' hx]
      refine ⟨ρ, w, .string ⟨s.toArray⟩, ?_, by simp only [VR], .refl H⟩
      unfold convert
      simp [run_und hs, run_und hd]
    | slice e =>
      simp only at hr
      rw [cnd_eq] at hr
      split at hr
      · rename_i hb
        obtain ⟨v', g1, g2, g3⟩ := toStr_run (P := P) H hs hd (byteTy e hb) hx hr
        subst g3
        exact ⟨ρ, w, v', g1, g2, .refl H⟩
      · cases hr
    | _ => cases hr
  | slice e =>
    simp only [hs] at hr
    cases S with
    | string =>
      simp only at hr
      rw [cnd_eq] at hr
      split at hr
      · rename_i hb
        rw [Bool.and_eq_true] at hb
        exact toBytes_run H hs hd (byteTy e hb.1) hx hr
      · cases hr
    | _ => cases hr
  | _ => cases hr

/-! ### what an operation answers -/
def NextVal : Next → Option Value
  | .value v => some v
  | .skip => some Go.undef
  | _ => none

def SoundOp (P : Program) (o : Oper) (f : OpF) : Prop := ∀ (e : Env) (h : AHeap) (v : AV) (h' : AHeap) (ρ : Rho) (w : World) (a : Act), f.run e h = some (v, h') → EnvR ρ e a → HRel ρ h w →
    ∃ ρ' w' r v', (execOp a.eval o).run P w = .ok r w' ∧ NextVal r = some v' ∧ VR ρ' v v' ∧ Trans ρ h w ρ' h' w'

theorem sound_pure1 {o : Oper} {x : Operand} {f : AV → Option AV} (hop : ∀ (ρ : Rho) (w : World) (a : Act) (u v : AV), VR ρ u (a.eval x) → f u = some v → ∃ v', (execOp a.eval o).run P w = .ok (.value v') w ∧ VR ρ v v') :
    SoundOp P o (pure1 x f) := by
  intro e h v h' ρ w a hr he H
  obtain ⟨u, hu, hr⟩ := bnd_eq_some.mp hr
  obtain ⟨v0, hv, hr⟩ := bnd_eq_some.mp hr
  cases hr
  obtain ⟨v', g1, g2⟩ := hop ρ w a u v (opv_VR he hu) hv
  exact ⟨ρ, w, _, v', g1, rfl, g2, .refl H⟩
theorem sound_pure2 {o : Oper} {x y : Operand} {f : AV → AV → Option AV} (hop : ∀ (ρ : Rho) (w : World) (a : Act) (u u' v : AV), VR ρ u (a.eval x) → VR ρ u' (a.eval y) → f u u' = some v → ∃ v', (execOp a.eval o).run P w = .ok (.value v') w ∧ VR ρ v v') :
    SoundOp P o (pure2 x y f) := by
  intro e h v h' ρ w a hr he H
  obtain ⟨u, hu, hr⟩ := bnd_eq_some.mp hr
  obtain ⟨u', hu', hr⟩ := bnd_eq_some.mp hr
  obtain ⟨v0, hv, hr⟩ := bnd_eq_some.mp hr
  cases hr
  obtain ⟨v', g1, g2⟩ := hop ρ w a u u' v (opv_VR he hu) (opv_VR he hu') hv
  exact ⟨ρ, w, _, v', g1, rfl, g2, .refl H⟩
theorem sound_read1 {o : Oper} {x : Operand} {f : AHeap → AV → Option AV} (hop : ∀ (ρ : Rho) (h : AHeap) (w : World) (a : Act) (u v : AV), HRel ρ h w → VR ρ u (a.eval x) → f h u = some v → ∃ v', (execOp a.eval o).run P w = .ok (.value v') w ∧ VR ρ v v') :
    SoundOp P o (read1 x f) := by
  intro e h v h' ρ w a hr he H
  obtain ⟨u, hu, hr⟩ := bnd_eq_some.mp hr
  obtain ⟨v0, hv, hr⟩ := bnd_eq_some.mp hr
  cases hr
  obtain ⟨v', g1, g2⟩ := hop ρ h w a u v H (opv_VR he hu) hv
  exact ⟨ρ, w, _, v', g1, rfl, g2, .refl H⟩
theorem sound_mem1 {o : Oper} {x : Operand} {f : AHeap → AV → Option (AV × AHeap)} (hop : ∀ (ρ : Rho) (h h' : AHeap) (w : World) (a : Act) (u v : AV), HRel ρ h w → VR ρ u (a.eval x) → f h u = some (v, h') →
    ∃ ρ' w' v', (execOp a.eval o).run P w = .ok (.value v') w' ∧ VR ρ' v v' ∧ Trans ρ h w ρ' h' w') : SoundOp P o (mem1 x f) := by
  intro e h v h' ρ w a hr he H
  obtain ⟨u, hu, hr⟩ := bnd_eq_some.mp hr
  obtain ⟨ρ', w', v', g1, g2, g3⟩ := hop ρ h h' w a u v H (opv_VR he hu) hr
  exact ⟨ρ', w', _, v', g1, rfl, g2, g3⟩
theorem sound_mem2 {o : Oper} {x y : Operand} {f : AHeap → AV → AV → Option (AV × AHeap)} (hop : ∀ (ρ : Rho) (h h' : AHeap) (w : World) (a : Act) (u u' v : AV), HRel ρ h w → VR ρ u (a.eval x) → VR ρ u' (a.eval y) → f h u u' = some (v, h') →
    ∃ ρ' w' v', (execOp a.eval o).run P w = .ok (.value v') w' ∧ VR ρ' v v' ∧ Trans ρ h w ρ' h' w') : SoundOp P o (mem2 x y f) := by
  intro e h v h' ρ w a hr he H
  obtain ⟨u, hu, hr⟩ := bnd_eq_some.mp hr
  obtain ⟨u', hu', hr⟩ := bnd_eq_some.mp hr
  obtain ⟨ρ', w', v', g1, g2, g3⟩ := hop ρ h h' w a u u' v H (opv_VR he hu) (opv_VR he hu') hr
  exact ⟨ρ', w', _, v', g1, rfl, g2, g3⟩
theorem sound_no {o : Oper} : SoundOp P o .no := by
  intro e h v h' ρ w a hr
  cases hr

theorem parts_cons (e : Env) (x : Nat × Operand) (r : List (Nat × Operand)) : parts e (x :: r) = bnd (opv e x.2) fun a => bnd (parts e r) fun l => some ((x.1, a) :: l) := rfl
theorem parts_R {e : Env} {a : Act} (he : EnvR ρ e a) : ∀ {l : List (Nat × Operand)} {r : List (Nat × AV)}, parts e l = some r → PartsR ρ r (l.map fun p => (p.1, a.eval p.2))
  | [], _, hl => by cases hl; simp [PartsR]
  | x :: t, _, hl => by
    rw [parts_cons] at hl
    obtain ⟨u, hu, hl⟩ := bnd_eq_some.mp hl
    obtain ⟨l, hl', hl⟩ := bnd_eq_some.mp hl
    cases hl
    simp only [PartsR, List.map_cons]
    exact ⟨_, _, rfl, opv_VR he hu, parts_R he hl'⟩

theorem opvo_R {e : Env} {a : Act} (he : EnvR ρ e a) {x : Option Operand} {r : Option AV} (hx : opvo e x = some r) : OptVR ρ r (x.map a.eval) := by
  cases x with
  | none => cases hx; trivial
  | some x =>
    have hx : bnd (opv e x) (fun v => some (some v)) = some r := hx
    obtain ⟨u, hu, hx⟩ := bnd_eq_some.mp hx
    cases hx
    exact opv_VR he hu

theorem builtinF_sound (b : Builtin) (argTypes : Array TypeId) (type : TypeId) (consts : Array Bool) {ρ : Rho} {h h' : AHeap} {w : World} {l : List AV} {us : Array Value} {v : AV} (H : HRel ρ h w) (hl : VRL ρ l us.toList)
    (hr : (builtinF P argTypes.toList b).run h l = some (v, h')) :
    ∃ ρ' w' r v', (builtin b argTypes type consts us).run P w = .ok r w' ∧ NextVal r = some v' ∧ VR ρ' v v' ∧ Trans ρ h w ρ' h' w' := by
  have one : ∀ {x : AV} {r : List AV}, l = x :: r → ∃ u t, us.toList = u :: t ∧ VR ρ x u ∧ VRL ρ r t := by
    intro x r e
    subst e
    simp only [VRL] at hl
    exact hl
  have arr1 : ∀ {u : Value}, us.toList = [u] → us = #[u] := fun hh => Array.ext' (by rw [hh])
  have arr2 : ∀ {u u' : Value}, us.toList = [u, u'] → us = #[u, u'] := fun hh => Array.ext' (by rw [hh])
  have t1 : ∀ {x : AV}, l = [x] → ∃ u, us = #[u] ∧ VR ρ x u := by
    intro x e
    obtain ⟨u, t, g1, g2, g3⟩ := one e
    simp only [VRL] at g3; subst g3
    exact ⟨u, arr1 g1, g2⟩
  have t2 : ∀ {x y : AV}, l = [x, y] → ∃ u u', us = #[u, u'] ∧ VR ρ x u ∧ VR ρ y u' := by
    intro x y e
    obtain ⟨u, t, g1, g2, g3⟩ := one e
    simp only [VRL] at g3
    obtain ⟨u', t', rfl, g4, rfl⟩ := g3
    exact ⟨u, u', arr2 g1, g2, g4⟩
  cases b <;> simp only [builtinF] at hr <;> first | (cases hr; done) | skip
  case append =>
    unfold built2 at hr
    simp only at hr
    split at hr
    · rename_i x y
      obtain ⟨u, u', rfl, g1, g2⟩ := t2 rfl
      obtain ⟨ρ', w', v', k1, k2, k3⟩ := appendF_run (ty := type) H rfl g1 g2 hr
      exact ⟨ρ', w', .value v', v', by simp [builtin, k1], rfl, k2, k3⟩
    · cases hr
  case copy =>
    unfold built2 at hr
    simp only at hr
    split at hr
    · rename_i x y
      obtain ⟨u, u', rfl, g1, g2⟩ := t2 rfl
      obtain ⟨ρ', w', v', k1, k2, k3⟩ := copyF_run (ty := type) H rfl g1 g2 hr
      exact ⟨ρ', w', .value v', v', by simp [builtin, k1], rfl, k2, k3⟩
    · cases hr
  case clear =>
    unfold built1 at hr
    simp only at hr
    split at hr
    · rename_i x
      obtain ⟨u, rfl, g1⟩ := t1 rfl
      obtain ⟨ρ', w', v', k1, k2, k3⟩ := clearF_run (ty := type) H rfl g1 hr
      exact ⟨ρ', w', .value v', v', by simp [builtin, k1], rfl, k2, k3⟩
    · cases hr
  case len =>
    unfold builtR at hr
    simp only at hr
    split at hr
    · rename_i x
      obtain ⟨u, rfl, g1⟩ := t1 rfl
      obtain ⟨q, hq, hr⟩ := bnd_eq_some.mp hr
      cases hr
      obtain ⟨v', k1, k2⟩ := lenF_run (ty := type) H rfl g1 hq
      exact ⟨ρ, w, .value v', v', by simp [builtin, k1], rfl, k2, .refl H⟩
    · cases hr
  case cap =>
    unfold builtR at hr
    simp only at hr
    split at hr
    · rename_i x
      obtain ⟨u, rfl, g1⟩ := t1 rfl
      obtain ⟨q, hq, hr⟩ := bnd_eq_some.mp hr
      cases hr
      obtain ⟨v', k1, k2⟩ := capF_run (ty := type) (w := w) (P := P) rfl g1 hq
      exact ⟨ρ, w, .value v', v', by simp [builtin, k1], rfl, k2, .refl H⟩
    · cases hr
  case min =>
    unfold builtM at hr
    simp only at hr
    split at hr
    · rename_i x r
      obtain ⟨u, t, g1, g2, g3⟩ := one rfl
      obtain ⟨q, hq, hr⟩ := bnd_eq_some.mp hr
      cases hr
      obtain ⟨v', k1, k2⟩ := minmax_run (P := P) (w := w) false g2 g3 hq
      refine ⟨ρ, w, .value v', v', ?_, rfl, k2, .refl H⟩
      simp only [Bool.false_eq_true, if_false] at k1
      simp [builtin, Builtin.min_, g1, k1]
    · cases hr
  case max =>
    unfold builtM at hr
    simp only at hr
    split at hr
    · rename_i x r
      obtain ⟨u, t, g1, g2, g3⟩ := one rfl
      obtain ⟨q, hq, hr⟩ := bnd_eq_some.mp hr
      cases hr
      obtain ⟨v', k1, k2⟩ := minmax_run (P := P) (w := w) true g2 g3 hq
      refine ⟨ρ, w, .value v', v', ?_, rfl, k2, .refl H⟩
      simp only [if_true] at k1
      simp [builtin, Builtin.max_, g1, k1]
    · cases hr

theorem opF_sound (o : Oper) : SoundOp P o (opF P o.op) := by
  cases ho : o.op with
  | move x => exact sound_pure1 fun ρ w a u v hu hv => by cases hv; exact ⟨_, by unfold execOp; rw [ho]; rfl, hu⟩
  | assign x => exact sound_pure1 fun ρ w a u v hu hv => by cases hv; exact ⟨_, by unfold execOp; rw [ho]; rfl, hu⟩
  | pick c x y =>
    intro e h v h' ρ w a hr he H
    obtain ⟨u, hu, hr⟩ := bnd_eq_some.mp hr
    obtain ⟨p, hp, hr⟩ := bnd_eq_some.mp hr
    obtain ⟨q, hq, hr⟩ := bnd_eq_some.mp hr
    obtain ⟨t, ht, hr⟩ := bnd_eq_some.mp hr
    cases hr
    have hc := boolOf_VR ht (opv_VR he hu)
    refine ⟨ρ, w, .value (if t then a.eval x else a.eval y), if t then a.eval x else a.eval y, ?_, rfl, ?_, .refl H⟩
    · unfold execOp; rw [ho]; simp only [hc]; cases t <;> simp [asBool]
    · cases t
      · exact opv_VR he hq
      · exact opv_VR he hp
  | alloc t =>
    intro e h v h' ρ w a hr he H
    obtain ⟨ρ', w', v', g1, g2, g3⟩ := alloc_run (P := P) H hr
    exact ⟨ρ', w', .value v', v', by unfold execOp; rw [ho]; simp [g1], rfl, g2, g3⟩
  | box t x =>
    exact sound_mem1 fun ρ h h' w a u v H hu hr => by
      obtain ⟨ρ', w', v', g1, g2, g3⟩ := box_run (P := P) H hu hr
      exact ⟨ρ', w', v', by unfold execOp; rw [ho]; simp [g1], g2, g3⟩
  | build t ps =>
    intro e h v h' ρ w a hr he H
    obtain ⟨l, hl, hr⟩ := bnd_eq_some.mp hr
    obtain ⟨q, hq, hr⟩ := bnd_eq_some.mp hr
    cases hr
    have hp : PartsR ρ l (ps.map fun (i, x) => (i, a.eval x)).toList := by rw [Array.toList_map]; exact parts_R he hl
    obtain ⟨v', g1, g2⟩ := build_run (P := P) (w := w) hp hq
    exact ⟨ρ, w, .value v', v', by unfold execOp; rw [ho]; simp only [Sem.run_bind, g1, Result.andThen_ok]; rfl, rfl, g2, .refl H⟩
  | buildSlice t n ps =>
    intro e h v h' ρ w a hr he H
    obtain ⟨l, hl, hr⟩ := bnd_eq_some.mp hr
    have hp : PartsR ρ l (ps.map fun (i, x) => (i, a.eval x)).toList := by rw [Array.toList_map]; exact parts_R he hl
    obtain ⟨ρ', w', v', g1, g2, g3⟩ := buildSlice_run (P := P) H hp hr
    exact ⟨ρ', w', .value v', v', by unfold execOp; rw [ho]; simp only [Sem.run_bind, g1, Result.andThen_ok]; rfl, rfl, g2, g3⟩
  | load t x =>
    exact sound_read1 fun ρ h w a u v H hu hr => by
      obtain ⟨v', g1, g2⟩ := loadAt_run (P := P) H hu hr
      exact ⟨v', by unfold execOp; rw [ho]; simp [g1], g2⟩
  | store t x y =>
    intro e h v h' ρ w a hr he H
    obtain ⟨u, hu, hr⟩ := bnd_eq_some.mp hr
    obtain ⟨u', hu', hr⟩ := bnd_eq_some.mp hr
    obtain ⟨h2, hst, hr⟩ := bnd_eq_some.mp hr
    cases hr
    obtain ⟨w', g1, g2⟩ := store_run (P := P) H (opv_VR he hu) (opv_VR he hu') hst
    exact ⟨ρ, w', .skip, Go.undef, by unfold execOp; rw [ho]; simp [g1], rfl, VR.undef, g2⟩
  | nilCheck x =>
    exact sound_pure1 fun ρ w a u v hu hv => by
      obtain ⟨g1, g2⟩ := nilCheckV_run (P := P) (w := w) ho rfl hu hv
      exact ⟨_, g1, by rw [g2]; exact hu⟩
  | binOp op t x y yt =>
    exact sound_pure2 fun ρ w a u u' v hu hu' hv => by
      obtain ⟨v', g1, g2⟩ := binF_run (P := P) (w := w) hu hu' hv
      refine ⟨v', ?_, g2⟩
      unfold execOp; rw [ho]
      simp only [Sem.run_bind] at g1 ⊢
      simp only [g1, Result.andThen_ok]
      rfl
  | unOp op t x =>
    exact sound_pure1 fun ρ w a u v hu hv => by
      obtain ⟨v', g1, g2⟩ := unF_run (P := P) (w := w) hu hv
      exact ⟨v', by unfold execOp; rw [ho]; simp [g1], g2⟩
  | convert s d x =>
    exact sound_mem1 fun ρ h h' w a u v H hu hr => by
      obtain ⟨ρ', w', v', g1, g2, g3⟩ := convF_run (P := P) H hu hr
      exact ⟨ρ', w', v', by unfold execOp; rw [ho]; simp [g1], g2, g3⟩
  | makeInterface t x =>
    exact sound_pure1 fun ρ w a u v hu hv => by
      unfold makeIfaceF at hv
      cases hd : undOf P t with
      | none => rw [hd] at hv; cases hv
      | some D =>
        rw [hd] at hv
        refine ⟨.iface t (a.eval x), ?_, ?_⟩
        · unfold execOp; rw [ho]
          simp only [Sem.run_bind]
          have : (Instr.makeInterface t (a.eval x)).run P w = .ok (.iface t (a.eval x)) w := by
            unfold Instr.makeInterface
            simp only [Sem.run_bind, run_und hd, Result.andThen_ok]
            cases D <;> first | rfl | cases hv
          simp [this]
        · cases D <;> cases hv <;> (simp only [VR]; exact ⟨_, rfl, hu⟩)
  | makeFunc fn first captured =>
    intro e h v h' ρ w a hr he H
    obtain ⟨p, hp, hr⟩ := bnd_eq_some.mp hr
    obtain ⟨q, hq, hr⟩ := bnd_eq_some.mp hr
    cases hr
    refine ⟨ρ, w, .value (.func fn (first.map a.eval) (captured.map a.eval)), _, by unfold execOp; rw [ho]; rfl, rfl, ?_, .refl H⟩
    simp only [VR]
    exact ⟨_, _, rfl, by rw [Array.toList_map]; exact opvs_VRL he hp, by rw [Array.toList_map]; exact opvs_VRL he hq⟩
  | makeSlice t l c =>
    exact sound_mem2 fun ρ h h' w a u u' v H hu hu' hr => by
      obtain ⟨ρ', w', v', g1, g2, g3⟩ := makeSlice_run (P := P) H hu hu' hr
      exact ⟨ρ', w', v', by unfold execOp; rw [ho]; simp [g1], g2, g3⟩
  | slice t x lo hi mx =>
    intro e h v h' ρ w a hr he H
    obtain ⟨u, hu, hr⟩ := bnd_eq_some.mp hr
    obtain ⟨l, hl, hr⟩ := bnd_eq_some.mp hr
    obtain ⟨b, hb, hr⟩ := bnd_eq_some.mp hr
    obtain ⟨m, hm, hr⟩ := bnd_eq_some.mp hr
    obtain ⟨q, hq, hr⟩ := bnd_eq_some.mp hr
    cases hr
    obtain ⟨v', g1, g2⟩ := sliceF_run (P := P) H (opv_VR he hu) (opvo_R he hl) (opvo_R he hb) (opvo_R he hm) hq
    exact ⟨ρ, w, .value v', v', by unfold execOp; rw [ho]; simp [g1], rfl, g2, .refl H⟩
  | fieldAddr s x i =>
    exact sound_pure1 fun ρ w a u v hu hv => by
      obtain ⟨v', g1, g2⟩ := fieldAddr_run (P := P) (w := w) hu hv
      exact ⟨v', by unfold execOp; rw [ho]; simp [g1], g2⟩
  | field t x i =>
    exact sound_pure1 fun ρ w a u v hu hv => by
      obtain ⟨v', g1, g2⟩ := field_run (P := P) (w := w) hu hv
      exact ⟨v', by unfold execOp; rw [ho]; simp [g1], g2⟩
  | indexAddr t x i =>
    exact sound_pure2 fun ρ w a u u' v hu hu' hv => by
      obtain ⟨v', g1, g2⟩ := indexAddr_run (P := P) (w := w) hu hu' hv
      exact ⟨v', by unfold execOp; rw [ho]; simp [g1], g2⟩
  | index t x i =>
    exact sound_pure2 fun ρ w a u u' v hu hu' hv => by
      obtain ⟨v', g1, g2⟩ := index_run (P := P) (w := w) hu hu' hv
      exact ⟨v', by unfold execOp; rw [ho]; simp [g1], g2⟩
  | extract x i =>
    exact sound_pure1 fun ρ w a u v hu hv => by
      obtain ⟨v', g1, g2⟩ := extract_run (P := P) (w := w) hu hv
      exact ⟨v', by unfold execOp; rw [ho]; simp [g1], g2⟩
  | call c =>
    show SoundOp P o (opCallF P c)
    unfold opCallF
    cases hc : c.callee with
    | builtin b =>
      intro e h v h' ρ w a hr he H
      obtain ⟨l, hl, hr⟩ := bnd_eq_some.mp hr
      have hv : VRL ρ l (c.args.map a.eval).toList := by rw [Array.toList_map]; exact opvs_VRL he hl
      obtain ⟨ρ', w', r, v', g1, g2, g3, g4⟩ := builtinF_sound (P := P) b c.argTypes o.type (c.args.map fun | .const _ => true | _ => false) H hv hr
      refine ⟨ρ', w', r, v', ?_, g2, g3, g4⟩
      unfold execOp; rw [ho]
      simp only [resolve, hc, Sem.run_bind, Sem.run_pure, Result.andThen_ok, invoke]
      exact g1
    | _ => exact sound_no
  | _ => exact sound_no

end
end Go.Proofs.YtonojkcnencodaaDoor.BH
