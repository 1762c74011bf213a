/-
  BH: walking by facts: items packed into one; rows of objects; maps whose keys are told apart.
-/
import Derived.Test.YtonojkcnencodaaDoorBhW16
section
namespace Go.Proofs.YtonojkcnencodaaDoor.BH
open Go
noncomputable section
section
variable {C : Ctx} {n d : Nat} {all r : List Oper} {ty : TypeId} {pos : String} {after : Array Edge} {E : Fs} {HF HF' HR : List HI}

/-! ### packs -/
def pack (l : List HI) : HI := .sep ⟨fun fp h => SatH l fp h, fun _ _ _ h k => h.frame k, fun _ _ h k => h.lt k⟩
theorem pack_sat {l r : List HI} {fp : List Nat} {h : AHeap} : SatH (pack l :: r) fp h ↔ SatH (l ++ r) fp h := by
  rw [satH_append]
  show (∃ own fp', fp = own ++ fp' ∧ SatH l own h ∧ (∀ o ∈ own, o ∉ fp') ∧ SatH r fp' h) ↔ _
  constructor
  · rintro ⟨a, b, h1, h2, h3, h4⟩; exact ⟨a, b, h1, h2, h4, h3⟩
  · rintro ⟨a, b, h1, h2, h4, h3⟩; exact ⟨a, b, h1, h2, h3, h4⟩
theorem Weak.trans {A B D : List HI} (h : Weak A B) (k : Weak B D) : Weak A D := fun fp hh hs =>
  let ⟨fp1, h1, h2⟩ := h fp hh hs
  let ⟨fp2, k1, k2⟩ := k fp1 hh h1
  ⟨fp2, k1, fun o ho => h2 o (k2 o ho)⟩
theorem weak_unpack (l R : List HI) : Weak (pack l :: R) (l ++ R) := fun fp _ hs => ⟨fp, pack_sat.mp hs, fun _ h => h⟩
theorem weak_take {i : HI} (t : Take HF i HR) : Weak HF (i :: HR) := fun _ _ hs => let ⟨fp1, k1, k2⟩ := t.sat hs; ⟨fp1, k1, fun o ho => (k2 o).mp ho⟩
/-- What is known of the heap told in other words. -/
theorem WC.weakH {c : Code} {Q : Post} (w : Weak HF HF') (k : WC C n c E HF' Q) : WC C n c E HF Q :=
  WC.pre fun e hh fp h1 h2 h3 => let ⟨fp1, k1, k2⟩ := w fp hh h2; ⟨fp1, E, HF', h1, k1, k2, k⟩
theorem WS.weakH {Q : Fs → List HI → Prop} (w : Weak HF HF') (k : WS C n all r E HF' Q) : WS C n all r E HF Q :=
  WS.pre fun e hh fp h1 h2 h3 => let ⟨fp1, k1, k2⟩ := w fp hh h2; ⟨fp1, E, HF', h1, k1, k2, k⟩
theorem WR.weakH {ops : Array Oper} {dn : Nat} {Q : Fs → List HI → Prop} (w : Weak HF HF') (k : WR C n ops dn E HF' Q) : WR C n ops dn E HF Q :=
  WR.pre fun e hh fp h1 h2 h3 => let ⟨fp1, k1, k2⟩ := w fp hh h2; ⟨fp1, E, HF', h1, k1, k2, k⟩
theorem WC.unpack {c : Code} {Q : Post} {l : List HI} (t : Take HF (pack l) HR) (k : WC C n c E (l ++ HR) Q) : WC C n c E HF Q := WC.weakH ((weak_take t).trans (weak_unpack l HR)) k
theorem WS.unpack {Q : Fs → List HI → Prop} {l : List HI} (t : Take HF (pack l) HR) (k : WS C n all r E (l ++ HR) Q) : WS C n all r E HF Q := WS.weakH ((weak_take t).trans (weak_unpack l HR)) k
/-! ### rows of objects -/
theorem Take.append {HF HR : List HI} {i : HI} (t : Take HF i HR) (R : List HI) : Take (HF ++ R) i (HR ++ R) := by
  induction t with
  | head => exact .head
  | tail _ ih => exact .tail ih
/-! ### maps whose keys are told apart -/
structure KeyOk (P : Program) (kt : TypeId) {α : Type} [DecidableEq α] (e : α → AV) : Prop where
  ok : ∀ x, (keyF P kt).ok (e x) = true
  eq : ∀ x y, (keyF P kt).eq (e x) (e y) = some (decide (x = y))
  same : ∀ x, sameKey (e x) (e x) = true
def entsA {α β : Type} (e : α → AV) (g : β → AV) : List (α × β) → Nat → List AEnt
  | [], _ => []
  | x :: r, i => ⟨e x.1, g x.2, i⟩ :: entsA e g r (i + 1)
def putA {α β : Type} [DecidableEq α] : List (α × β) → α → β → List (α × β)
  | [], k, v => [(k, v)]
  | x :: r, k, v => if k = x.1 then (k, v) :: r else x :: putA r k v
def getA {α β : Type} [DecidableEq α] : List (α × β) → α → Option β
  | [], _ => none
  | x :: r, k => if k = x.1 then some x.2 else getA r k
theorem entsA_length {α β : Type} {e : α → AV} {g : β → AV} : ∀ (d : List (α × β)) (i : Nat), (entsA e g d i).length = d.length
  | [], _ => rfl
  | _ :: r, i => by simp [entsA, entsA_length r]
section
variable {α β : Type} [DecidableEq α] {e : α → AV} {g : β → AV} {P : Program} {kt : TypeId}
theorem findA (K : KeyOk P kt e) (k : α) : ∀ (d : List (α × β)) (i j : Nat),
    (getA d k = none ∧ findV (keyF P kt).eq (e k) (entsA e g d i) j = some none ∧ ∀ w, entsA e g (putA d k w) i = entsA e g d i ++ [⟨e k, g w, i + d.length⟩] ∧ (putA d k w).length = d.length + 1) ∨
    ∃ q v, getA d k = some v ∧ findV (keyF P kt).eq (e k) (entsA e g d i) j = some (some (j + q, ⟨e k, g v, i + q⟩)) ∧ ∀ w, entsA e g (putA d k w) i = (entsA e g d i).set q ⟨e k, g w, i + q⟩ ∧ (putA d k w).length = d.length
  | [], i, j => .inl ⟨rfl, rfl, fun w => ⟨rfl, rfl⟩⟩
  | x :: r, i, j => by
    have e1 : findV (keyF P kt).eq (e k) (entsA e g (x :: r) i) j = bnd ((keyF P kt).eq (e k) (e x.1)) fun b => cnd b (some (some (j, ⟨e x.1, g x.2, i⟩))) (findV (keyF P kt).eq (e k) (entsA e g r (i + 1)) (j + 1)) := rfl
    rw [e1, K.eq, bnd_some]
    by_cases h : k = x.1
    · subst h
      refine .inr ⟨0, x.2, by simp [getA], by simp, fun w => ?_⟩
      simp [putA, entsA]
    · rcases findA K k r (i + 1) (j + 1) with ⟨h1, h2, h3⟩ | ⟨q, v, h1, h2, h3⟩
      · refine .inl ⟨by simp [getA, h, h1], by simp [h, h2], fun w => ⟨?_, ?_⟩⟩
        · simp only [putA, h, if_false, entsA, (h3 w).1, List.cons_append, List.length_cons]
          congr 4; omega
        · simp [putA, h, (h3 w).2]
      · refine .inr ⟨q + 1, v, by simp [getA, h, h1], ?_, fun w => ⟨?_, ?_⟩⟩
        · simp only [h, decide_false, cnd_false, h2]
          rw [show j + 1 + q = j + (q + 1) by omega, show i + 1 + q = i + (q + 1) by omega]
        · simp only [putA, h, if_false, entsA, (h3 w).1, List.set_cons_succ]
          rw [show i + 1 + q = i + (q + 1) by omega]
        · simp [putA, h, (h3 w).2]
theorem updA (K : KeyOk P kt e) (d : List (α × β)) (k : α) (w : β) : updE (keyF P kt) (entsA e g d 0) d.length (e k) (g w) = some (entsA e g (putA d k w) 0, (putA d k w).length) := by
  unfold updE
  rcases findA (g := g) K k d 0 0 with ⟨h1, h2, h3⟩ | ⟨q, v, h1, h2, h3⟩
  · rw [h2, bnd_some, ocase_none, addEnt_eq, (h3 w).1, (h3 w).2, Nat.zero_add]
  · rw [h2, bnd_some, ocase_some]
    simp only [K.same, cnd_true, setEnt_eq, Nat.zero_add]
    rw [(h3 w).1, (h3 w).2, Nat.zero_add]
theorem lookA (K : KeyOk P kt e) (d : List (α × β)) (k : α) (z : β) (ok : Bool) : ∃ f, findV (keyF P kt).eq (e k) (entsA e g d 0) 0 = some f ∧ (ocase f (okV ok (g z) false) fun x => okV ok x.2.val true) = okV ok (g ((getA d k).getD z)) (getA d k).isSome := by
  rcases findA (g := g) K k d 0 0 with ⟨h1, h2, _⟩ | ⟨q, v, h1, h2, _⟩
  · exact ⟨none, h2, by simp [h1]⟩
  · exact ⟨_, h2, by simp [h1]⟩
end
theorem key_str {P : Program} {kt : TypeId} (hu : undOf P kt = some .string) : KeyOk P kt AV.str := by
  have hp : plainTy P kt = true := by unfold plainTy; rw [hu]
  have he : eqF P 40 kt = ⟨eqStr⟩ := by unfold eqF; rw [hu]
  have hk : keyF P kt = ⟨fun _ => true, eqStr⟩ := by unfold keyF; rw [if_pos hp, he]
  refine ⟨fun x => by rw [hk], fun x y => ?_, fun x => ?_⟩
  · rw [hk]
    show some (same x y) = _
    rw [same_eq, Bool.beq_eq_decide_eq]
  · show same x x = true
    rw [same_eq]; simp
theorem w_lenA {α β : Type} {e : α → AV} {g : β → AV} {Q : Fs → List HI → Prop} {t kt et : TypeId} {ts : List TypeId} {tys : Array TypeId} {x : Operand} {o c : Nat} {D : List (α × β)} (htys : tys.toList = t :: ts) (hu : undOf C.P t = some (.map kt et)) (hd : Nat.blt d n = true) (hx : ev E x = some (.map (some o))) (ht : Take HF (.obj o (.map (entsA e g D 0) c)) HR)
    (hk : WS C n all r ((d, .int .i64 D.length) :: E) HF Q) : WS C n all (⟨some d, .call ⟨.builtin .len, #[x], tys⟩, ty, pos, after, none⟩ :: r) E HF Q :=
  w_lenM htys hu hd hx ht (by rw [entsA_length]; exact hk)
section
variable {α β : Type} [DecidableEq α] {e : α → AV} {g : β → AV} {Q : Fs → List HI → Prop}
theorem w_mapUpdA {t kt et : TypeId} {x y z : Operand} {o : Nat} {D : List (α × β)} {i : α} {v : β} {d : Option Tmp} (hu : undOf C.P t = some (.map kt et)) (K : KeyOk C.P kt e) (hx : ev E x = some (.map (some o))) (hy : ev E y = some (e i)) (hz : ev E z = some (g v)) (hd : d = none)
    (ht : Take HF (.obj o (.map (entsA e g D 0) D.length)) HR) (hk : WS C n all r E (.obj o (.map (entsA e g (putA D i v) 0) (putA D i v).length) :: HR) Q) : WS C n all (⟨d, .mapUpdate t x y z, ty, pos, after, none⟩ :: r) E HF Q :=
  w_mapUpd hu hx hy hz hd ht (K.ok i) (updA K D i v) hk
theorem w_lookA {t kt et : TypeId} {x y : Operand} {o c : Nat} {D : List (α × β)} {i : α} {z : β} {zv : AV} {ok : Bool} (hu : undOf C.P t = some (.map kt et)) (K : KeyOk C.P kt e) (hz : zeroOf C.P et = some zv) (hzv : zv = g z) (hd : Nat.blt d n = true) (hx : ev E x = some (.map (some o))) (hy : ev E y = some (e i))
    (ht : Take HF (.obj o (.map (entsA e g D 0) c)) HR) (hk : WS C n all r ((d, okV ok (g ((getA D i).getD z)) (getA D i).isSome) :: E) HF Q) : WS C n all (⟨some d, .lookup t x y ok, ty, pos, after, none⟩ :: r) E HF Q := by
  subst hzv
  obtain ⟨f, h1, h2⟩ := lookA (g := g) K D i z ok
  exact w_lookup hu hz hd hx hy ht (K.ok i) h1 (by rw [h2]; exact hk)
end
/-- A map made, told so. -/
theorem WS.mapA {Q : Fs → List HI → Prop} {α β : Type} (e : α → AV) (g : β → AV) {o : Nat} (t : Take HF (.obj o (.map [] 0)) HR) (k : WS C n all r E (.obj o (.map (entsA e g [] 0) ([] : List (α × β)).length) :: HR) Q) : WS C n all r E HF Q := WS.weakH (weak_take t) k
theorem WC.mapA {c : Code} {Q : Post} {α β : Type} (e : α → AV) (g : β → AV) {o : Nat} (t : Take HF (.obj o (.map [] 0)) HR) (k : WC C n c E (.obj o (.map (entsA e g [] 0) ([] : List (α × β)).length) :: HR) Q) : WC C n c E HF Q := WC.weakH (weak_take t) k
end
end
end Go.Proofs.YtonojkcnencodaaDoor.BH

end
section
namespace Go.Proofs.YtonojkcnencodaaDoor.BH
open Go
noncomputable section
section
variable {C : Ctx} {n d : Nat} {all r : List Oper} {ty : TypeId} {pos : String} {after : Array Edge} {E : Fs} {HF HR : List HI}
/-- What is known behind a call, told weaker. -/
theorem CallW.post {f : FuncId} {l : List AV} {K K' : AV → List HI → Prop} (h : CallW C f l HF K) (w : ∀ v H, K v H → ∃ H', Weak H H' ∧ K' v H') : CallW C f l HF K' := fun hh fp h1 h2 ρ ww us hv H => by
  refine (h hh fp h1 h2 ρ ww us hv H).mono ?_
  rintro u w' ⟨v, ρ', h', fp', HF', m1, m2, m3, m4, m5, m6⟩
  obtain ⟨H', k1, k2⟩ := w v HF' m6
  obtain ⟨fp2, q1, q2⟩ := k1 fp' h' m3
  exact ⟨v, ρ', h', fp2, H', m1, m2, q1, m4, m5.less q2, k2⟩
theorem WR.openOwn {ops : Array Oper} {dn : Nat} {Q : Fs → List HI → Prop} {v : AV} {e s m : Nat} {cells : List AV} (t : Take HF (.own v e s cells m) HR) (hm : 0 < m) (h : ∀ o, v = .slice (some ⟨o, 0⟩) m (.op 0) → WR C n ops dn E (.obj o (.row e s false cells) :: HR) Q) : WR C n ops dn E HF Q := by
  refine WR.take t (WR.pre fun e' hh fp h1 h2 h3 => ?_)
  rcases h2 with ⟨_, _, e0, _⟩ | ⟨o, fp', rfl, e1, g1, g2, g3, g4⟩
  · omega
  · exact ⟨_, E, .obj o (.row e s false cells) :: HR, h1, ⟨fp', rfl, g1, g3, g4⟩, fun _ h => h, h o e1⟩
theorem weak_close {o e s m : Nat} {cells : List AV} {R : List HI} (hl : cells.length = m * s) : Weak (.obj o (.row e s false cells) :: R) (.own (.slice (some ⟨o, 0⟩) m (.op 0)) e s cells m :: R) := fun fp h hs => by
  obtain ⟨fp', rfl, h1, h2, h3⟩ := hs
  exact ⟨_, .inr ⟨o, fp', rfl, rfl, h1, hl, h2, h3⟩, fun _ h => h⟩
/-- A call on what is our own: nothing there, or an object. -/
theorem CallW.openOwn {f : FuncId} {l : List AV} {K : AV → List HI → Prop} {v : AV} {e s m : Nat} {cells : List AV} {R : List HI} (t : Take HF (.own v e s cells m) R)
    (h0 : m = 0 → (∀ ρ u, VR ρ v u → ∃ p c, u = .slice p 0 c) → CallW C f l (.own v e s cells m :: R) K)
    (h1 : 0 < m → ∀ o, v = .slice (some ⟨o, 0⟩) m (.op 0) → CallW C f l (.obj o (.row e s false cells) :: R) K) : CallW C f l HF K := fun hh fp k1 k2 ρ ww us hv H => by
  obtain ⟨fp1, g1, g2⟩ := t.sat k1
  have less : ∀ {HF1 : List HI} {fp1 : List Nat}, SatH HF1 fp1 hh → (∀ o ∈ fp1, o ∈ fp) → CallW C f l HF1 K → CallOk C.P f us ww fun u w' => ∃ v ρ' h' fp' HF', VR ρ' v u ∧ Trans ρ hh ww ρ' h' w' ∧ SatH HF' fp' h' ∧ WF h' ∧ Frame fp hh fp' h' ∧ K v HF' := by
    intro HF1 fp1 s1 s2 hc
    refine (hc hh fp1 s1 k2 ρ ww us hv H).mono ?_
    rintro u w' ⟨v, ρ', h', fp', HF', m1, m2, m3, m4, m5, m6⟩
    exact ⟨v, ρ', h', fp', HF', m1, m2, m3, m4, m5.more s2, m6⟩
  by_cases hm : m = 0
  · refine less g1 (fun o ho => (g2 o).mp ho) (h0 hm fun ρ u hu => ?_)
    subst hm
    rcases g1 with ⟨⟨a, rfl⟩ | rfl, _⟩ | ⟨o, fp', _, rfl, _⟩
    · cases a with
      | none => simp only [VR] at hu; obtain ⟨_, _, rfl⟩ := hu; exact ⟨_, _, rfl⟩
      | some a => simp only [VR] at hu; obtain ⟨c, ad, _, rfl, _⟩ := hu; exact ⟨_, _, rfl⟩
    · simp only [VR] at hu; obtain ⟨ao, cap, rfl, _⟩ := hu; exact ⟨_, _, rfl⟩
    · simp only [VR] at hu; obtain ⟨c, ad, _, rfl, _⟩ := hu; exact ⟨_, _, rfl⟩
  · rcases g1 with ⟨_, _, e3, _⟩ | ⟨o, fp', rfl, rfl, q1, q2, q3, q4⟩
    · exact absurd e3 hm
    · exact less (HF1 := .obj o (.row e s false cells) :: R) ⟨fp', rfl, q1, q3, q4⟩ (fun o ho => (g2 o).mp ho) (h1 (by omega) o rfl)
end
end
end Go.Proofs.YtonojkcnencodaaDoor.BH

end
