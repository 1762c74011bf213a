/-
  BH: code and functions.
-/
import Derived.Test.YtlgofplbbmjdjaaGreatDoorBhRun
import Derived.Laws.Externs
namespace Go.Proofs.YtlgofplbbmjdjaaGreatDoor.BH

section
variable {P : Program} {ρ : Rho} {h : AHeap} {w : World}

def AExit.to : AExit → Exit
  | .normal => .normal
  | .exit id => .exit id
  | .ret => .ret

/-- What stands behind a piece of code. -/
def After (ρ : Rho) (h : AHeap) (w : World) (a : Act) (x : AExit) (e' : Env) (h' : AHeap) : Exit → Act → World → Prop :=
  fun x' a' w' => x' = x.to ∧ a'.defers = a.defers ∧ ∃ ρ', EnvR ρ' e' a' ∧ Trans ρ h w ρ' h' w'

def CodeSound (P : Program) (call : CallV) (c : Code) (f : CodeF) : Prop := ∀ (lf : Nat) (e : Env) (h : AHeap) (x : AExit) (e' : Env) (h' : AHeap) (ρ : Rho) (w : World) (a : Act),
  f.run call lf e h = some (x, e', h') → EnvR ρ e a → HRel ρ h w → c.wp P (After ρ h w a x e' h') a w

/-- A region does what the evaluator says. -/
def RegionSound (P : Program) (region : Array Oper → Bool → StepsF) : Prop := ∀ (call : CallV), CallSound P call → ∀ (id : Nat) (ops : Array Oper) (draw : Bool) (e : Env) (h : AHeap) (e' : Env) (h' : AHeap) (ρ : Rho) (w : World) (a : Act),
  (region ops draw).run call e h = some (e', h') → EnvR ρ e a → HRel ρ h w → (Code.region id ops draw).wp P (After ρ h w a .normal e' h') a w

theorem wp_regionText {call : CallV} (hc : CallSound P call) {id : Nat} {ops : Array Oper} {e : Env} {e' : Env} {h' : AHeap} {a : Act}
    (hr : (opsF P ops.toList ops.toList).run call e h = some (e', h')) (he : EnvR ρ e a) (H : HRel ρ h w) : (Code.region id ops false).wp P (After ρ h w a .normal e' h') a w := by
  intro b k cs
  obtain ⟨ρ', w', a', g1, g2, g3, g4⟩ := opsF_sound hc ops _ _ (matches_range ops) e h e' h' ρ w a hr he H b k cs
  exact ⟨.normal, a', w', ⟨rfl, g3, ρ', g2, g4⟩, .head step_region (g1.trans (.one step_region_end))⟩

theorem xcase_some {β : Type} {x : AExit} {n r : β} {f : Nat → β} {v : β} (h : xcase x n r f = v) : (x = .normal ∧ n = v) ∨ (x = .ret ∧ r = v) ∨ ∃ i, x = .exit i ∧ f i = v := by
  cases x with
  | normal => exact .inl ⟨rfl, h⟩
  | ret => exact .inr (.inl ⟨rfl, h⟩)
  | exit i => exact .inr (.inr ⟨i, rfl, h⟩)

theorem After.trans {ρ₁ : Rho} {h₁ : AHeap} {w₁ : World} {a a₁ : Act} {x : AExit} {e' : Env} {h' : AHeap} (T : Trans ρ h w ρ₁ h₁ w₁) (hd : a₁.defers = a.defers) :
    ∀ e a' w', After ρ₁ h₁ w₁ a₁ x e' h' e a' w' → After ρ h w a x e' h' e a' w' := by
  rintro e a' w' ⟨g1, g2, ρ', g3, g4⟩
  exact ⟨g1, g2.trans hd, ρ', g3, T.trans g4⟩

theorem codeSeq_sound {call : CallV} {x y : Code} {f g : CodeF} (hf : CodeSound P call x f) (hg : CodeSound P call y g) : CodeSound P call (.seq x y) (codeSeq f g) := by
  intro lf e h r e' h' ρ w a hr he H
  obtain ⟨⟨x₁, e₁, h₁⟩, hx, hr⟩ := bnd_eq_some.mp hr
  refine wp_seq (wp_mono (hf lf e h x₁ e₁ h₁ ρ w a hx he H) ?_)
  rintro ex a₁ w₁ ⟨rfl, hd, ρ₁, he₁, T⟩
  rcases xcase_some hr with ⟨h1, h2⟩ | ⟨h1, h2⟩ | ⟨i, h1, h2⟩
  · simp only at h1; subst h1
    exact wp_mono (hg lf e₁ h₁ r e' h' ρ₁ w₁ a₁ h2 he₁ T.rel) (After.trans T hd)
  · simp only at h1; subst h1; cases h2
    exact ⟨rfl, hd, ρ₁, he₁, T⟩
  · simp only at h1; subst h1; cases h2
    exact ⟨rfl, hd, ρ₁, he₁, T⟩

theorem codeCond_sound {call : CallV} {c : Operand} {x y : Code} {f g : CodeF} (hf : CodeSound P call x f) (hg : CodeSound P call y g) : CodeSound P call (.cond c x y) (codeCond c f g) := by
  intro lf e h r e' h' ρ w a hr he H
  obtain ⟨v, hv, hr⟩ := bnd_eq_some.mp hr
  obtain ⟨t, ht, hr⟩ := bnd_eq_some.mp hr
  have hb := boolOf_VR ht (opv_VR he hv)
  refine wp_cond hb ?_
  cases t with
  | true => exact hf lf e h r e' h' ρ w a hr he H
  | false => exact hg lf e h r e' h' ρ w a hr he H

theorem codeBlock_sound {call : CallV} {id : Nat} {x : Code} {f : CodeF} (hf : CodeSound P call x f) : CodeSound P call (.block id x) (codeBlock id f) := by
  intro lf e h r e' h' ρ w a hr he H
  obtain ⟨⟨x₁, e₁, h₁⟩, hx, hr⟩ := bnd_eq_some.mp hr
  refine wp_block (wp_mono (hf lf e h x₁ e₁ h₁ ρ w a hx he H) ?_)
  rintro ex a₁ w₁ ⟨rfl, hd, ρ₁, he₁, T⟩
  rcases xcase_some hr with ⟨h1, h2⟩ | ⟨h1, h2⟩ | ⟨i, h1, h2⟩
  · simp only at h1; subst h1; cases h2
    exact ⟨rfl, hd, ρ₁, he₁, T⟩
  · simp only at h1; subst h1; cases h2
    exact ⟨rfl, hd, ρ₁, he₁, T⟩
  · simp only at h1; subst h1
    show (if i = id then _ else _)
    rw [cnd_eq] at h2
    by_cases hi : i = id
    · rw [if_pos hi]; rw [if_pos ((beqN i id).mpr hi)] at h2; cases h2
      exact ⟨rfl, hd, ρ₁, he₁, T⟩
    · rw [if_neg hi]; rw [if_neg (fun hh => hi ((beqN i id).mp hh))] at h2; cases h2
      exact ⟨rfl, hd, ρ₁, he₁, T⟩

theorem loopV_sound {call : CallV} {x : Code} {f : CodeF} (hf : CodeSound P call x f) (lf : Nat) : ∀ (n : Nat) (e : Env) (h : AHeap) (r : AExit) (e' : Env) (h' : AHeap) (ρ : Rho) (w : World) (a : Act),
    loopV (f.run call lf) n e h = some (r, e', h') → EnvR ρ e a → HRel ρ h w → ∀ (b : Frame) (k : List Item) (cs : List Frame),
    ∃ ex a' w', After ρ h w a r e' h' ex a' w' ∧ Arrives P (lone (b.at a (.code x :: .inLoop x :: k)) cs w) b k cs ex a' w'
  | 0, e, h, r, e', h', ρ, w, a, hr, he, H, b, k, cs => by cases hr
  | n + 1, e, h, r, e', h', ρ, w, a, hr, he, H, b, k, cs => by
    replace hr : (bnd (f.run call lf e h) fun r => xcase r.1 (loopV (f.run call lf) n r.2.1 r.2.2) (some r) fun _ => some r) = some (r, e', h') := hr
    obtain ⟨⟨x₁, e₁, h₁⟩, hx, hr⟩ := bnd_eq_some.mp hr
    obtain ⟨ex, a₁, w₁, ⟨rfl, hd, ρ₁, he₁, T⟩, harr⟩ := hf lf e h x₁ e₁ h₁ ρ w a hx he H b (.inLoop x :: k) cs
    rcases xcase_some hr with ⟨h1, h2⟩ | ⟨h1, h2⟩ | ⟨i, h1, h2⟩
    · simp only at h1; subst h1
      obtain ⟨ex, a₂, w₂, hq, harr₂⟩ := loopV_sound hf lf n e₁ h₁ r e' h' ρ₁ w₁ a₁ h2 he₁ T.rel b k cs
      exact ⟨ex, a₂, w₂, After.trans T hd _ _ _ hq, .of_steps (Steps.trans harr (.one step_inLoop)) harr₂⟩
    · simp only at h1; subst h1; cases h2
      exact ⟨_, a₁, w₁, ⟨rfl, hd, ρ₁, he₁, T⟩, .pass (x := .inLoop x) rfl (fun _ _ => .inl (by simp [AExit.to])) harr⟩
    · simp only at h1; subst h1; cases h2
      exact ⟨_, a₁, w₁, ⟨rfl, hd, ρ₁, he₁, T⟩, .pass (x := .inLoop x) rfl (fun _ _ => .inl (by simp [AExit.to])) harr⟩

theorem codeLoop_sound {call : CallV} {x : Code} {f : CodeF} (hf : CodeSound P call x f) : CodeSound P call (.loop x) (codeLoop f) := by
  intro lf e h r e' h' ρ w a hr he H b k cs
  obtain ⟨ex, a', w', hq, harr⟩ := loopV_sound hf lf lf e h r e' h' ρ w a hr he H b k cs
  exact ⟨ex, a', w', hq, .of_steps (.one step_loop) harr⟩

theorem codeF_sound {region : Array Oper → Bool → StepsF} (hR : RegionSound P region) {call : CallV} (hc : CallSound P call) : ∀ c : Code, CodeSound P call c (codeF P region c)
  | .skip => fun lf e h x e' h' ρ w a hr he H => by cases hr; exact wp_skip ⟨rfl, rfl, ρ, he, .refl H⟩
  | .label _ => fun lf e h x e' h' ρ w a hr he H => by cases hr; exact wp_label ⟨rfl, rfl, ρ, he, .refl H⟩
  | .region id ops draw => fun lf e h x e' h' ρ w a hr he H => by
    obtain ⟨⟨e₁, h₁⟩, hx, hr⟩ := bnd_eq_some.mp hr
    cases hr
    exact hR call hc id ops draw e h e₁ h₁ ρ w a hx he H
  | .seq x y => codeSeq_sound (codeF_sound hR hc x) (codeF_sound hR hc y)
  | .cond c x y => codeCond_sound (codeF_sound hR hc x) (codeF_sound hR hc y)
  | .block id x => codeBlock_sound (codeF_sound hR hc x)
  | .loop x => codeLoop_sound (codeF_sound hR hc x)
  | .scope x => fun lf e h r e' h' ρ w a hr he H => by
    refine wp_scope_straight (wp_mono (codeF_sound hR hc x lf e h r e' h' ρ w a hr he H) ?_)
    rintro ex a' w' ⟨rfl, g⟩
    cases r <;> exact ⟨rfl, g⟩
  | .exit id => fun lf e h x e' h' ρ w a hr he H => by cases hr; exact wp_exit ⟨rfl, rfl, ρ, he, .refl H⟩
  | .ret => fun lf e h x e' h' ρ w a hr he H => by cases hr; exact wp_ret ⟨rfl, rfl, ρ, he, .refl H⟩
  | .goto _ => fun lf e h x e' h' ρ w a hr he H => by cases hr
  | .rangeFunc _ _ _ _ => fun lf e h x e' h' ρ w a hr he H => by cases hr
  | .refuse _ => fun lf e h x e' h' ρ w a hr he H => by cases hr

end
end Go.Proofs.YtlgofplbbmjdjaaGreatDoor.BH
