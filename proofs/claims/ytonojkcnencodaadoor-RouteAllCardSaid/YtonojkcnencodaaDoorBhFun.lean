/-
  BH: code and functions.
-/
import Derived.Test.YtonojkcnencodaaDoorBhRun
import Derived.Laws.Externs
import Derived.KernelRfl
section
namespace Go.Proofs.YtonojkcnencodaaDoor.BH

section
variable {P : Program} {ρ : Rho} {h : AHeap} {w : World}

def AExit.to : AExit → Exit
  | .normal => .normal
  | .exit id => .exit id
  | .ret => .ret

/-- What stands behind a piece of code. -/
def After (ρ : Rho) (h : AHeap) (w : World) (a : Act) (x : AExit) (e' : Env) (h' : AHeap) : Exit → Act → World → Prop :=
  fun x' a' w' => x' = x.to ∧ a'.defers = a.defers ∧ ∃ ρ', EnvR ρ' e' a' ∧ Trans ρ h w ρ' h' w'

def CodeSound (P : Program) (call : CallV) (c : Code) (f : CodeF) : Prop := ∀ (lf : Nat) (e : Env) (h : AHeap) (x : AExit) (e' : Env) (h' : AHeap) (ρ : Rho) (w : World) (a : Act),
  f.run call lf e h = some (x, e', h') → EnvR ρ e a → HRel ρ h w → c.wp P (After ρ h w a x e' h') a w

/-- A region does what the evaluator says. -/
def RegionSound (P : Program) (region : Array Oper → Bool → StepsF) : Prop := ∀ (call : CallV), CallSound P call → ∀ (id : Nat) (ops : Array Oper) (draw : Bool) (e : Env) (h : AHeap) (e' : Env) (h' : AHeap) (ρ : Rho) (w : World) (a : Act),
  (region ops draw).run call e h = some (e', h') → EnvR ρ e a → HRel ρ h w → (Code.region id ops draw).wp P (After ρ h w a .normal e' h') a w

theorem wp_regionText {call : CallV} (hc : CallSound P call) {id : Nat} {ops : Array Oper} {e : Env} {e' : Env} {h' : AHeap} {a : Act}
    (hr : (opsF P ops.toList ops.toList).run call e h = some (e', h')) (he : EnvR ρ e a) (H : HRel ρ h w) : (Code.region id ops false).wp P (After ρ h w a .normal e' h') a w := by
  intro b k cs
  obtain ⟨ρ', w', a', g1, g2, g3, g4⟩ := opsF_sound hc ops _ _ (matches_range ops) e h e' h' ρ w a hr he H b k cs
  exact ⟨.normal, a', w', ⟨rfl, g3, ρ', g2, g4⟩, .head step_region (g1.trans (.one step_region_end))⟩

theorem xcase_some {β : Type} {x : AExit} {n r : β} {f : Nat → β} {v : β} (h : xcase x n r f = v) : (x = .normal ∧ n = v) ∨ (x = .ret ∧ r = v) ∨ ∃ i, x = .exit i ∧ f i = v := by
  cases x with
  | normal => exact .inl ⟨rfl, h⟩
  | ret => exact .inr (.inl ⟨rfl, h⟩)
  | exit i => exact .inr (.inr ⟨i, rfl, h⟩)

theorem After.trans {ρ₁ : Rho} {h₁ : AHeap} {w₁ : World} {a a₁ : Act} {x : AExit} {e' : Env} {h' : AHeap} (T : Trans ρ h w ρ₁ h₁ w₁) (hd : a₁.defers = a.defers) :
    ∀ e a' w', After ρ₁ h₁ w₁ a₁ x e' h' e a' w' → After ρ h w a x e' h' e a' w' := by
  rintro e a' w' ⟨g1, g2, ρ', g3, g4⟩
  exact ⟨g1, g2.trans hd, ρ', g3, T.trans g4⟩

theorem codeSeq_sound {call : CallV} {x y : Code} {f g : CodeF} (hf : CodeSound P call x f) (hg : CodeSound P call y g) : CodeSound P call (.seq x y) (codeSeq f g) := by
  intro lf e h r e' h' ρ w a hr he H
  obtain ⟨⟨x₁, e₁, h₁⟩, hx, hr⟩ := bnd_eq_some.mp hr
  refine wp_seq (wp_mono (hf lf e h x₁ e₁ h₁ ρ w a hx he H) ?_)
  rintro ex a₁ w₁ ⟨rfl, hd, ρ₁, he₁, T⟩
  rcases xcase_some hr with ⟨h1, h2⟩ | ⟨h1, h2⟩ | ⟨i, h1, h2⟩
  · simp only at h1; subst h1
    exact wp_mono (hg lf e₁ h₁ r e' h' ρ₁ w₁ a₁ h2 he₁ T.rel) (After.trans T hd)
  · simp only at h1; subst h1; cases h2
    exact ⟨rfl, hd, ρ₁, he₁, T⟩
  · simp only at h1; subst h1; cases h2
    exact ⟨rfl, hd, ρ₁, he₁, T⟩

theorem codeCond_sound {call : CallV} {c : Operand} {x y : Code} {f g : CodeF} (hf : CodeSound P call x f) (hg : CodeSound P call y g) : CodeSound P call (.cond c x y) (codeCond c f g) := by
  intro lf e h r e' h' ρ w a hr he H
  obtain ⟨v, hv, hr⟩ := bnd_eq_some.mp hr
  obtain ⟨t, ht, hr⟩ := bnd_eq_some.mp hr
  have hb := boolOf_VR ht (opv_VR he hv)
  refine wp_cond hb ?_
  cases t with
  | true => exact hf lf e h r e' h' ρ w a hr he H
  | false => exact hg lf e h r e' h' ρ w a hr he H

theorem codeBlock_sound {call : CallV} {id : Nat} {x : Code} {f : CodeF} (hf : CodeSound P call x f) : CodeSound P call (.block id x) (codeBlock id f) := by
  intro lf e h r e' h' ρ w a hr he H
  obtain ⟨⟨x₁, e₁, h₁⟩, hx, hr⟩ := bnd_eq_some.mp hr
  refine wp_block (wp_mono (hf lf e h x₁ e₁ h₁ ρ w a hx he H) ?_)
  rintro ex a₁ w₁ ⟨rfl, hd, ρ₁, he₁, T⟩
  rcases xcase_some hr with ⟨h1, h2⟩ | ⟨h1, h2⟩ | ⟨i, h1, h2⟩
  · simp only at h1; subst h1; cases h2
    exact ⟨rfl, hd, ρ₁, he₁, T⟩
  · simp only at h1; subst h1; cases h2
    exact ⟨rfl, hd, ρ₁, he₁, T⟩
  · simp only at h1; subst h1
    show (if i = id then _ else _)
    rw [cnd_eq] at h2
    by_cases hi : i = id
    · rw [if_pos hi]; rw [if_pos ((beqN i id).mpr hi)] at h2; cases h2
      exact ⟨rfl, hd, ρ₁, he₁, T⟩
    · rw [if_neg hi]; rw [if_neg (fun hh => hi ((beqN i id).mp hh))] at h2; cases h2
      exact ⟨rfl, hd, ρ₁, he₁, T⟩

theorem loopV_sound {call : CallV} {x : Code} {f : CodeF} (hf : CodeSound P call x f) (lf : Nat) : ∀ (n : Nat) (e : Env) (h : AHeap) (r : AExit) (e' : Env) (h' : AHeap) (ρ : Rho) (w : World) (a : Act),
    loopV (f.run call lf) n e h = some (r, e', h') → EnvR ρ e a → HRel ρ h w → ∀ (b : Frame) (k : List Item) (cs : List Frame),
    ∃ ex a' w', After ρ h w a r e' h' ex a' w' ∧ Arrives P (lone (b.at a (.code x :: .inLoop x :: k)) cs w) b k cs ex a' w'
  | 0, e, h, r, e', h', ρ, w, a, hr, he, H, b, k, cs => by cases hr
  | n + 1, e, h, r, e', h', ρ, w, a, hr, he, H, b, k, cs => by
    replace hr : (bnd (f.run call lf e h) fun r => xcase r.1 (loopV (f.run call lf) n r.2.1 r.2.2) (some r) fun _ => some r) = some (r, e', h') := hr
    obtain ⟨⟨x₁, e₁, h₁⟩, hx, hr⟩ := bnd_eq_some.mp hr
    obtain ⟨ex, a₁, w₁, ⟨rfl, hd, ρ₁, he₁, T⟩, harr⟩ := hf lf e h x₁ e₁ h₁ ρ w a hx he H b (.inLoop x :: k) cs
    rcases xcase_some hr with ⟨h1, h2⟩ | ⟨h1, h2⟩ | ⟨i, h1, h2⟩
    · simp only at h1; subst h1
      obtain ⟨ex, a₂, w₂, hq, harr₂⟩ := loopV_sound hf lf n e₁ h₁ r e' h' ρ₁ w₁ a₁ h2 he₁ T.rel b k cs
      exact ⟨ex, a₂, w₂, After.trans T hd _ _ _ hq, .of_steps (Steps.trans harr (.one step_inLoop)) harr₂⟩
    · simp only at h1; subst h1; cases h2
      exact ⟨_, a₁, w₁, ⟨rfl, hd, ρ₁, he₁, T⟩, .pass (x := .inLoop x) rfl (fun _ _ => .inl (by simp [AExit.to])) harr⟩
    · simp only at h1; subst h1; cases h2
      exact ⟨_, a₁, w₁, ⟨rfl, hd, ρ₁, he₁, T⟩, .pass (x := .inLoop x) rfl (fun _ _ => .inl (by simp [AExit.to])) harr⟩

theorem codeLoop_sound {call : CallV} {x : Code} {f : CodeF} (hf : CodeSound P call x f) : CodeSound P call (.loop x) (codeLoop f) := by
  intro lf e h r e' h' ρ w a hr he H b k cs
  obtain ⟨ex, a', w', hq, harr⟩ := loopV_sound hf lf lf e h r e' h' ρ w a hr he H b k cs
  exact ⟨ex, a', w', hq, .of_steps (.one step_loop) harr⟩

theorem codeF_sound {region : Array Oper → Bool → StepsF} (hR : RegionSound P region) {call : CallV} (hc : CallSound P call) : ∀ c : Code, CodeSound P call c (codeF P region c)
  | .skip => fun lf e h x e' h' ρ w a hr he H => by cases hr; exact wp_skip ⟨rfl, rfl, ρ, he, .refl H⟩
  | .label _ => fun lf e h x e' h' ρ w a hr he H => by cases hr; exact wp_label ⟨rfl, rfl, ρ, he, .refl H⟩
  | .region id ops draw => fun lf e h x e' h' ρ w a hr he H => by
    obtain ⟨⟨e₁, h₁⟩, hx, hr⟩ := bnd_eq_some.mp hr
    cases hr
    exact hR call hc id ops draw e h e₁ h₁ ρ w a hx he H
  | .seq x y => codeSeq_sound (codeF_sound hR hc x) (codeF_sound hR hc y)
  | .cond c x y => codeCond_sound (codeF_sound hR hc x) (codeF_sound hR hc y)
  | .block id x => codeBlock_sound (codeF_sound hR hc x)
  | .loop x => codeLoop_sound (codeF_sound hR hc x)
  | .scope x => fun lf e h r e' h' ρ w a hr he H => by
    refine wp_scope_straight (wp_mono (codeF_sound hR hc x lf e h r e' h' ρ w a hr he H) ?_)
    rintro ex a' w' ⟨rfl, g⟩
    cases r <;> exact ⟨rfl, g⟩
  | .exit id => fun lf e h x e' h' ρ w a hr he H => by cases hr; exact wp_exit ⟨rfl, rfl, ρ, he, .refl H⟩
  | .ret => fun lf e h x e' h' ρ w a hr he H => by cases hr; exact wp_ret ⟨rfl, rfl, ρ, he, .refl H⟩
  | .goto _ => fun lf e h x e' h' ρ w a hr he H => by cases hr
  | .rangeFunc _ _ _ _ => fun lf e h x e' h' ρ w a hr he H => by cases hr
  | .refuse _ => fun lf e h x e' h' ρ w a hr he H => by cases hr

end
end Go.Proofs.YtonojkcnencodaaDoor.BH

end
section
namespace Go.Proofs.YtonojkcnencodaaDoor.BH

section
variable {P : Program} {ρ : Rho} {h : AHeap} {w : World}

/-! ### functions that the library's table holds -/
theorem rows_of {fn : Func} {n : String} {e : Array Value → Sem Value} (hn : fn.name = n) (ho : fn.origin = "" ∨ fn.origin = fn.name)
    (h1 : Extern.allGenericRows.lookup n = none) (h2 : Extern.allTypedRows.lookup n = none) (h3 : Extern.allRows.lookup n = some e) (h4 : Extern.allNextRows.lookup n = none)
    (h5 : Extern.allNextRows.lookup "" = none) :
    Extern.find fn = some e ∧ Extern.findNext fn = none := by
  constructor
  · unfold Extern.find
    simp only [hn, h1, h2, h3]
    rfl
  · unfold Extern.findNext
    simp only [hn, h4]
    rcases ho with ho | ho
    · rw [ho, h5]; rfl
    · rw [ho, hn, h4]; rfl

set_option maxRecDepth 20000 in
theorem next_empty : Extern.allNextRows.lookup "" = none := by kernel_rfl

set_option maxRecDepth 20000 in
theorem rows_indexByteString {fn : Func} (hn : fn.name = "internal/bytealg.IndexByteString") (ho : fn.origin = "" ∨ fn.origin = fn.name) :
    Extern.find fn = some Extern.BytealgIndexByte.indexByte ∧ Extern.findNext fn = none :=
  rows_of hn ho (by kernel_rfl) (by kernel_rfl) (by kernel_rfl) (by kernel_rfl) next_empty
set_option maxRecDepth 20000 in
theorem rows_cmpstring {fn : Func} (hn : fn.name = "internal/bytealg.abigen_runtime_cmpstring") (ho : fn.origin = "" ∨ fn.origin = fn.name) :
    Extern.find fn = some Extern.BytealgCompare.compare ∧ Extern.findNext fn = none :=
  rows_of hn ho (by kernel_rfl) (by kernel_rfl) (by kernel_rfl) (by kernel_rfl) next_empty
set_option maxRecDepth 20000 in
theorem rows_noEscape {fn : Func} (hn : fn.name = "internal/abi.NoEscape") (ho : fn.origin = "" ∨ fn.origin = fn.name) :
    Extern.find fn = some Extern.AbiNoEscape.same ∧ Extern.findNext fn = none :=
  rows_of hn ho (by kernel_rfl) (by kernel_rfl) (by kernel_rfl) (by kernel_rfl) next_empty

theorem bytes_get (l : List UInt8) (i : Nat) (hi : i < l.length) : (ByteArray.mk l.toArray)[i]! = l[i] := by
  rw [getElem!_pos _ _ (by simpa [ByteArray.size] using hi)]
  rfl

/-! the first place of a byte -/
theorem indexByteV_eq (c : UInt8) (l : List UInt8) : ∀ (r pre : List UInt8), l = pre ++ r →
    indexByteV c.toNat r pre.length = match (List.range' pre.length r.length).find? fun i => (ByteArray.mk l.toArray)[i]! == c with
      | some i => (i : Int)
      | none => -1
  | [], pre, _ => rfl
  | a :: r, pre, hl => by
    have h1 : (ByteArray.mk l.toArray)[pre.length]! = a := by
      rw [bytes_get l pre.length (by rw [hl]; simp)]
      simp [hl]
    have ih := indexByteV_eq c l r (pre ++ [a]) (by rw [hl]; simp)
    simp only [List.length_append, List.length_cons, List.length_nil, Nat.zero_add] at ih
    show cnd (Nat.beq a.toNat c.toNat) (.ofNat pre.length) (indexByteV c.toNat r (pre.length + 1)) = _
    rw [List.length_cons, List.range'_succ, List.find?_cons, h1, cnd_eq, ih]
    by_cases hac : a = c
    · subst hac
      simp
    · have h2 : (a == c) = false := by simpa using hac
      have h3 : ¬ (Nat.beq a.toNat c.toNat = true) := fun hh => hac (UInt8.toNat_inj.mp ((beqN _ _).mp hh))
      rw [if_neg h3, h2]

theorem indexByteV_zero (c : UInt8) (l : List UInt8) : indexByteV c.toNat l 0 = firstIdx ⟨l.toArray⟩ c := by
  have := indexByteV_eq c l l [] rfl
  simp only [List.length_nil] at this
  rw [this]
  unfold firstIdx
  rw [List.range_eq_range']
  simp only [ByteArray.size, List.size_toArray]
  rfl

/-! strings compared -/
theorem cmpV_eq (la lb : List UInt8) : ∀ (a b pre qre : List UInt8), la = pre ++ a → lb = qre ++ b → pre.length = qre.length →
    cmpV a b = match (List.range' pre.length (min a.length b.length)).find? fun i => (ByteArray.mk la.toArray)[i]! != (ByteArray.mk lb.toArray)[i]! with
      | some i => if (ByteArray.mk la.toArray)[i]! < (ByteArray.mk lb.toArray)[i]! then -1 else 1
      | none => if la.length < lb.length then -1 else if la.length > lb.length then 1 else 0
  | [], [], pre, qre, h1, h2, hl => by
    have e1 : la.length = lb.length := by rw [h1, h2]; simpa using hl
    simp [e1, cmpV]
  | [], b :: r, pre, qre, h1, h2, hl => by
    have e1 : la.length < lb.length := by rw [h1, h2]; simp [hl]
    simp [e1, cmpV]
  | a :: r, [], pre, qre, h1, h2, hl => by
    have e1 : lb.length < la.length := by rw [h1, h2]; simp [hl]
    have e2 : ¬ la.length < lb.length := by omega
    simp [e1, e2, cmpV]
  | a :: r, b :: s, pre, qre, h1, h2, hl => by
    have g1 : (ByteArray.mk la.toArray)[pre.length]! = a := by
      rw [bytes_get la pre.length (by rw [h1]; simp)]; simp [h1]
    have g2 : (ByteArray.mk lb.toArray)[pre.length]! = b := by
      rw [bytes_get lb pre.length (by rw [h2, hl]; simp)]; simp [h2, hl]
    have ih := cmpV_eq la lb r s (pre ++ [a]) (qre ++ [b]) (by rw [h1]; simp) (by rw [h2]; simp) (by simp [hl])
    simp only [List.length_append, List.length_cons, List.length_nil, Nat.zero_add] at ih
    show cnd (Nat.beq a.toNat b.toNat) (cmpV r s) (cnd (Nat.blt a.toNat b.toNat) (.negSucc 0) 1) = _
    have hm : min (a :: r).length (b :: s).length = min r.length s.length + 1 := by simp only [List.length_cons]; omega
    rw [hm, List.range'_succ, List.find?_cons, g1, g2, cnd_eq, ih]
    by_cases hab : a = b
    · subst hab
      simp
    · have h3 : (a != b) = true := by simpa using hab
      have h4 : ¬ (Nat.beq a.toNat b.toNat = true) := fun hh => hab (UInt8.toNat_inj.mp ((beqN _ _).mp hh))
      rw [if_neg h4, h3, cnd_eq]
      simp only [g1, g2]
      by_cases hlt : a < b
      · have h5 : Nat.blt a.toNat b.toNat = true := by
          rw [Nat.blt_eq]; exact UInt8.lt_iff_toNat_lt.mp hlt
        rw [if_pos h5, if_pos hlt]; rfl
      · have h5 : ¬ Nat.blt a.toNat b.toNat = true := by
          rw [Nat.blt_eq]; exact fun hh => hlt (UInt8.lt_iff_toNat_lt.mpr hh)
        rw [if_neg h5, if_neg hlt]

theorem cmpV_cmp (a b : List UInt8) : cmpV a b = Extern.BytealgCompare.cmp ⟨a.toArray⟩ ⟨b.toArray⟩ := by
  have := cmpV_eq a b a b [] [] rfl rfl rfl
  rw [this]
  unfold Extern.BytealgCompare.cmp
  rw [List.range_eq_range']
  simp only [ByteArray.size, List.size_toArray, List.length_nil]
  rfl

theorem extern_call {f : FuncId} {fn : Func} (hf : P.funcs[f]? = some fn) (hname : ¬ fn.name = "runtime.NumGoroutine") (hb : fn.body = none) (ho : fn.origin = "" ∨ fn.origin = fn.name)
    {args : List AV} {v : AV} {h' : AHeap} {us : Array Value} (hr : (externF fn.name).run args h = some (v, h')) (hv : VRL ρ args us.toList) (H : HRel ρ h w) :
    CallOk P f us w fun v' w' => ∃ ρ', VR ρ' v v' ∧ Trans ρ h w ρ' h' w' := by
  have go : ∀ (e : Array Value → Sem Value) (v' : Value), Extern.find fn = some e ∧ Extern.findNext fn = none → (e us).run P w = .ok v' w → VR ρ v v' → h' = h →
      CallOk P f us w fun v' w' => ∃ ρ', VR ρ' v v' ∧ Trans ρ h w ρ' h' w' := by
    rintro e v' ⟨g1, g2⟩ g3 g4 rfl
    refine .inr ⟨v', w, ?_, ρ, g4, .refl H⟩
    rw [run_callFunc_extern hf (by simpa using hname) (by simp [hb]) g2 g1, g3]; rfl
  have two : ∀ x y, args = [x, y] → ∃ a b, us = #[a, b] ∧ VR ρ x a ∧ VR ρ y b := by
    rintro x y rfl
    simp only [VRL] at hv
    obtain ⟨a, _, g1, g2, b, _, rfl, g3, rfl⟩ := hv
    exact ⟨a, b, Array.ext' (by simpa using g1), g2, g3⟩
  unfold externF at hr
  split at hr
  · rename_i hn
    simp only at hr
    split at hr
    · rename_i x y
      obtain ⟨s, hs, hr⟩ := bnd_eq_some.mp hr
      obtain ⟨c, hc, hr⟩ := bnd_eq_some.mp hr
      cases hr
      obtain ⟨a, b, rfl, ha, hb'⟩ := two x y rfl
      have := run_indexByte_string (P := P) ⟨s.toArray⟩ (c.toNat : Int) w
      simp only [Int.toNat_natCast, Nat.toUInt8, UInt8.ofNat_toNat] at this
      refine go _ (.int .i64 (firstIdx ⟨s.toArray⟩ c)) (rows_indexByteString hn ho) ?_ ?_ rfl
      · rw [strOf_VR hs ha, byteOf_VR hc hb']; exact this
      · simp only [VR, indexByteV_zero]
    · cases hr
  split at hr
  · rename_i hn
    simp only at hr
    split at hr
    · rename_i x y
      obtain ⟨s, hs, hr⟩ := bnd_eq_some.mp hr
      obtain ⟨c, hc, hr⟩ := bnd_eq_some.mp hr
      cases hr
      obtain ⟨a, b, rfl, ha, hb'⟩ := two x y rfl
      refine go _ (.int .i64 (Extern.BytealgCompare.cmp ⟨s.toArray⟩ ⟨c.toArray⟩)) (rows_cmpstring hn ho) ?_ ?_ rfl
      · rw [strOf_VR hs ha, strOf_VR hc hb']
        rfl
      · simp only [VR, cmpV_cmp]
    · cases hr
  split at hr
  · rename_i hn
    simp only at hr
    split at hr
    · rename_i x
      cases hr
      simp only [VRL] at hv
      obtain ⟨a, _, g1, g2, rfl⟩ := hv
      have : us = #[a] := Array.ext' (by simpa using g1)
      subst this
      exact go _ a (rows_noEscape hn ho) rfl g2 rfl
    · cases hr
  · cases hr

/-! ### results, and what a frame begins with -/
theorem results_run {e : Env} {a : Act} (he : EnvR ρ e a) (H : HRel ρ h w) : ∀ {l : List ResultVar} {rs : List AV}, resultsV P h e l = some rs →
    ∃ us : List Value, (l.mapM fun (r : ResultVar) => (match r with
      | .tmp t => pure (a.tmps.getD t Go.undef)
      | .cell x t => do loadVar t (← asAddr (a.tmps.getD x Go.undef)) : Sem Value)).run P w = .ok us w ∧ VRL ρ rs us
  | [], rs, hr => by cases hr; exact ⟨[], rfl, VRL.nil⟩
  | r :: l, rs, hr => by
    replace hr : (bnd (resultV P h e r) fun a => bnd (resultsV P h e l) fun l => some (a :: l)) = some rs := hr
    obtain ⟨x, hx, hr⟩ := bnd_eq_some.mp hr
    obtain ⟨xs, hxs, hr⟩ := bnd_eq_some.mp hr
    cases hr
    obtain ⟨us, g1, g2⟩ := results_run he H hxs
    cases r with
    | tmp t =>
      cases hx
      refine ⟨a.tmps.getD t Go.undef :: us, ?_, VRL.cons (nth_VR he t) g2⟩
      simp only [List.mapM_cons, Sem.run_bind, Sem.run_pure, Result.andThen_ok, g1]
    | cell y t =>
      obtain ⟨ad, r', k1, k2, k3⟩ := loadF_run H (nth_VR he y) hx
      refine ⟨r' :: us, ?_, VRL.cons k3 g2⟩
      have hA : (asAddr (a.tmps.getD y Go.undef)).run P w = .ok ad w := by rw [k1]; rfl
      simp only [List.mapM_cons, Sem.run_bind, hA, Sem.run_pure, Result.andThen_ok, k2, g1]

theorem oneOf_VR {rs : List AV} {us : Array Value} (hv : VRL ρ rs us.toList) : VR ρ (oneOf rs) (if h : us.size = 1 then us[0] else .tuple us) := by
  have hl := VRL.length hv
  rw [Array.length_toList] at hl
  match rs, hv, hl with
  | [], hv, hl =>
    have : ¬ us.size = 1 := by simp at hl; simp [hl]
    rw [dif_neg this]
    show VR ρ (.tuple []) _
    simp only [VR]; exact ⟨us, rfl, hv⟩
  | [x], hv, hl =>
    have : us.size = 1 := by simpa using hl
    rw [dif_pos this]
    show VR ρ x _
    simp only [VRL] at hv
    obtain ⟨v, _, h1, h2, rfl⟩ := hv
    have : us = #[v] := Array.ext' (by simpa using h1)
    subst this; exact h2
  | x :: y :: r, hv, hl =>
    have : ¬ us.size = 1 := by simp at hl; omega
    rw [dif_neg this]
    show VR ρ (.tuple (x :: y :: r)) _
    simp only [VR]; exact ⟨us, rfl, hv⟩

theorem dropU_eq : ∀ (l : List AV) (n : Nat), dropU n l = n - l.length
  | [], n => rfl
  | a :: r, n => by
    show dropU (n - 1) r = _
    rw [dropU_eq r]; simp only [List.length_cons]; omega
theorem pad_VRL {args : List AV} {us : Array Value} (n : Nat) (hv : VRL ρ args us.toList) : VRL ρ (pad args n) (us ++ Array.replicate (n - us.size) Go.undef).toList := by
  unfold pad
  have hl := VRL.length hv
  rw [Array.length_toList] at hl
  rw [app_eq, dropU_eq, Array.toList_append, Array.toList_replicate, hl]
  exact VRL.append hv (VRL.undefs _)

/-! ### functions and calls -/
theorem funF_sound {region : Array Oper → Bool → StepsF} (hR : RegionSound P region) {call : CallV} (hc : CallSound P call) (n : Nat) : CallSound P fun f args h => (funF P region f).run call n args h := by
  intro f args h v h' ρ w us hr hv H
  replace hr : (funF P region f).run call n args h = some (v, h') := hr
  unfold funF at hr
  split at hr
  · cases hr
  · rename_i fn hf
    split at hr
    · cases hr
    · rename_i hname
      split at hr
      · rename_i hb
        split at hr
        · rename_i ho
          exact extern_call hf hname hb ho hr hv H
        · cases hr
      · rename_i c hb
        obtain ⟨⟨x, e₁, h₁⟩, hx, hr⟩ := bnd_eq_some.mp hr
        refine .inl ⟨by simp [callFunc, hf, hname, hb], calls_of_wp hf hb (wp_mono (codeF_sound hR hc c n _ h x e₁ h₁ ρ w { tmps := us ++ Array.replicate (fn.ntmps - us.size) Go.undef, defers := [] } hx (pad_VRL _ hv) H) ?_)⟩
        rintro ex a' w' ⟨rfl, hd, ρ', he', T⟩
        have fin : (bnd (resultsV P h₁ e₁ fn.results.toList) fun l => some (oneOf l, h₁)) = some (v, h') →
            ∃ v', (results fn a'.tmps).run P w' = .ok v' w' ∧ ∃ v'', Ending.returned v' = .returned v'' ∧ ∃ ρ', VR ρ' v v'' ∧ Trans ρ h w ρ' h' w' := by
          intro hr
          obtain ⟨rs, hrs, hr⟩ := bnd_eq_some.mp hr
          cases hr
          obtain ⟨us', g1, g2⟩ := results_run he' T.rel hrs
          refine ⟨_, ?_, _, rfl, ρ', oneOf_VR (us := us'.toArray) (by simpa using g2), T⟩
          unfold results
          rw [Array.mapM_eq_mapM_toList]
          simp only [Sem.run_bind, Sem.run_map, Sem.run_pure]
          exact (congrArg (fun r : Result (List Value) => (r.andThen fun a w' => Result.ok a.toArray w').andThen fun (a : Array Value) w' => Result.ok (if h : a.size = 1 then a[0] else Value.tuple a) w') g1).trans rfl
        rcases xcase_some hr with ⟨h1, h2⟩ | ⟨h1, h2⟩ | ⟨i, h1, h2⟩
        · simp only at h1; subst h1
          exact ⟨hd, fin h2⟩
        · simp only at h1; subst h1
          exact ⟨hd, fin h2⟩
        · cases h2

theorem callF_sound {region : Array Oper → Bool → StepsF} (hR : RegionSound P region) : ∀ n : Nat, CallSound P (callF P region n)
  | 0 => fun f args h v h' ρ w us hr => by cases hr
  | n + 1 => fun f args h v h' ρ w us hr hv H => funF_sound hR (callF_sound hR n) (n + 1) f args h v h' ρ w us hr hv H

end
end Go.Proofs.YtonojkcnencodaaDoor.BH

end
