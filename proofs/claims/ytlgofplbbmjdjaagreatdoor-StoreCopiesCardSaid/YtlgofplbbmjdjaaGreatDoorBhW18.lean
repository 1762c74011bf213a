/-
  New memory that is written no more, told weaker than it was made.
-/
import Derived.Test.YtlgofplbbmjdjaaGreatDoorBhW12
namespace Go.Proofs.YtlgofplbbmjdjaaGreatDoor.BH
open Go
set_option maxRecDepth 10000
section
variable {C : Ctx} {n : Nat} {E : Fs} {ty : TypeId} {pos : String} {after : Array Edge}
end
end Go.Proofs.YtlgofplbbmjdjaaGreatDoor.BH
namespace Go.Proofs.YtlgofplbbmjdjaaGreatDoor.BH
open Go
set_option maxRecDepth 10000
theorem pfn_run {C : Ctx} {f N : Nat} {l : List AV} {v : AV} {h' : AHeap} (hc : l.all closedV = true) (hk : (C.cfg.kind f).keep = false) (hp : plainV v = true) (hr : callF C.P (regionF C.P) N f l AHeap.empty = some (v, h')) : PFn C f l v := by
  refine ⟨hc, fun ρ w us hv H => ?_⟩
  refine (callF_sound (regionF_sound C.mixed) N f l AHeap.empty _ h' ρ w us hr hv H).mono ?_
  rintro u w' ⟨ρ', g1, g2⟩
  exact ⟨ρ', h', _, g1, g2, .inl ⟨hk, rfl, hp⟩⟩
theorem pfn_eval {C : Ctx} {f N : Nat} {l : List AV} {v : AV} (hc : l.all closedV = true) (hk : (C.cfg.kind f).keep = false) (hp : plainV v = true) (hr : (callF C.P (regionF C.P) N f l AHeap.empty).map (·.1) = some v) : PFn C f l v := by
  cases h : callF C.P (regionF C.P) N f l AHeap.empty with
  | none => rw [h] at hr; cases hr
  | some r =>
    obtain ⟨u, h'⟩ := r
    rw [h] at hr
    have e : u = v := by simpa using hr
    subst e
    exact pfn_run hc hk hp h
theorem byteOf_is (b : UInt8) : byteOf (.int .u8 (b.toNat : Nat)) = some b := by
  show cnd (Nat.ble b.toNat 255) (some (UInt8.ofNat b.toNat)) none = _
  rw [(bleN _ _).mpr (by have := UInt8.toNat_lt b; omega)]
  simp
end Go.Proofs.YtlgofplbbmjdjaaGreatDoor.BH
namespace Go.Proofs.YtlgofplbbmjdjaaGreatDoor.BH
open Go
section
variable {C : Ctx} {n : Nat} {E : Fs} {HF HF' HR HR0 : List HI}
end
end Go.Proofs.YtlgofplbbmjdjaaGreatDoor.BH
namespace Go.Proofs.YtlgofplbbmjdjaaGreatDoor.BH
open Go
section
variable {C : Ctx} {n d : Nat} {all r : List Oper} {E : Fs} {HF : List HI}
end
end Go.Proofs.YtlgofplbbmjdjaaGreatDoor.BH
namespace Go.Proofs.YtlgofplbbmjdjaaGreatDoor.BH
open Go
noncomputable section
section
variable {C : Ctx} {n d : Nat} {all r : List Oper} {ty : TypeId} {pos : String} {after : Array Edge} {E : Fs} {HF HF' HR : List HI}

/-! ### packs -/
def pack (l : List HI) : HI := .sep ⟨fun fp h => SatH l fp h, fun _ _ _ h k => h.frame k, fun _ _ h k => h.lt k⟩
theorem pack_sat {l r : List HI} {fp : List Nat} {h : AHeap} : SatH (pack l :: r) fp h ↔ SatH (l ++ r) fp h := by
  rw [satH_append]
  show (∃ own fp', fp = own ++ fp' ∧ SatH l own h ∧ (∀ o ∈ own, o ∉ fp') ∧ SatH r fp' h) ↔ _
  constructor
  · rintro ⟨a, b, h1, h2, h3, h4⟩; exact ⟨a, b, h1, h2, h4, h3⟩
  · rintro ⟨a, b, h1, h2, h4, h3⟩; exact ⟨a, b, h1, h2, h3, h4⟩
theorem Weak.trans {A B D : List HI} (h : Weak A B) (k : Weak B D) : Weak A D := fun fp hh hs =>
  let ⟨fp1, h1, h2⟩ := h fp hh hs
  let ⟨fp2, k1, k2⟩ := k fp1 hh h1
  ⟨fp2, k1, fun o ho => h2 o (k2 o ho)⟩
theorem weak_unpack (l R : List HI) : Weak (pack l :: R) (l ++ R) := fun fp _ hs => ⟨fp, pack_sat.mp hs, fun _ h => h⟩
theorem weak_take {i : HI} (t : Take HF i HR) : Weak HF (i :: HR) := fun _ _ hs => let ⟨fp1, k1, k2⟩ := t.sat hs; ⟨fp1, k1, fun o ho => (k2 o).mp ho⟩
theorem weak_cons {A B : List HI} (i : HI) (h : Weak A B) : Weak (i :: A) (i :: B) := fun fp hh hs => by
  obtain ⟨own, fp', rfl, h1, h2, h3⟩ := satH_cons.mp hs
  obtain ⟨fp2, k1, k2⟩ := h fp' hh h3
  refine ⟨own ++ fp2, satH_cons.mpr ⟨own, fp2, rfl, h1, fun o ho hh => h2 o ho (k2 o hh), k1⟩, fun o ho => ?_⟩
  rcases List.mem_append.mp ho with ho | ho
  · exact List.mem_append_left _ ho
  · exact List.mem_append_right _ (k2 o ho)
theorem weak_two (i j : HI) (r : List HI) : Weak (i :: j :: r) (j :: i :: r) := weak_take (.tail .head)
theorem weak_pre {A B : List HI} (l : List HI) (h : Weak A B) : Weak (l ++ A) (l ++ B) := by
  induction l with
  | nil => exact h
  | cons i r ih => exact weak_cons i ih
/-- What is known of the heap told in other words. -/
theorem WC.weakH {c : Code} {Q : Post} (w : Weak HF HF') (k : WC C n c E HF' Q) : WC C n c E HF Q :=
  WC.pre fun e hh fp h1 h2 h3 => let ⟨fp1, k1, k2⟩ := w fp hh h2; ⟨fp1, E, HF', h1, k1, k2, k⟩
theorem WS.weakH {Q : Fs → List HI → Prop} (w : Weak HF HF') (k : WS C n all r E HF' Q) : WS C n all r E HF Q :=
  WS.pre fun e hh fp h1 h2 h3 => let ⟨fp1, k1, k2⟩ := w fp hh h2; ⟨fp1, E, HF', h1, k1, k2, k⟩
theorem WR.weakH {ops : Array Oper} {dn : Nat} {Q : Fs → List HI → Prop} (w : Weak HF HF') (k : WR C n ops dn E HF' Q) : WR C n ops dn E HF Q :=
  WR.pre fun e hh fp h1 h2 h3 => let ⟨fp1, k1, k2⟩ := w fp hh h2; ⟨fp1, E, HF', h1, k1, k2, k⟩
theorem WC.unpack {c : Code} {Q : Post} {l : List HI} (t : Take HF (pack l) HR) (k : WC C n c E (l ++ HR) Q) : WC C n c E HF Q := WC.weakH ((weak_take t).trans (weak_unpack l HR)) k
theorem WS.unpack {Q : Fs → List HI → Prop} {l : List HI} (t : Take HF (pack l) HR) (k : WS C n all r E (l ++ HR) Q) : WS C n all r E HF Q := WS.weakH ((weak_take t).trans (weak_unpack l HR)) k
theorem CallW.weakL {f : FuncId} {l : List AV} {K : AV → List HI → Prop} (w : Weak HF HF') (h : CallW C f l HF' K) : CallW C f l HF K := fun hh fp h1 h2 ρ ww us hv H => by
  obtain ⟨fp1, k1, k2⟩ := w fp hh h1
  refine (h hh fp1 k1 h2 ρ ww us hv H).mono ?_
  rintro u w' ⟨v, ρ', h', fp', HF', m1, m2, m3, m4, m5, m6⟩
  exact ⟨v, ρ', h', fp', HF', m1, m2, m3, m4, m5.more k2, m6⟩

/-! ### rows of objects -/
theorem Take.append {HF HR : List HI} {i : HI} (t : Take HF i HR) (R : List HI) : Take (HF ++ R) i (HR ++ R) := by
  induction t with
  | head => exact .head
  | tail _ ih => exact .tail ih
theorem take_map {α : Type} {f : α → HI} : ∀ {L : List α} {k : Nat} {x : α}, L[k]? = some x → Take (L.map f) (f x) ((L.eraseIdx k).map f)
  | [], _, _, h => by simp at h
  | y :: r, 0, x, h => by simp at h; subst h; exact .head
  | y :: r, k + 1, x, h => by
    rw [List.eraseIdx_cons_succ, List.map_cons, List.map_cons]
    exact .tail (take_map (by simpa using h))
theorem weak_map {α : Type} {f : α → HI} {y : α} : ∀ {L : List α} {k : Nat} {x : α}, L[k]? = some x → Weak (f y :: (L.eraseIdx k).map f) ((L.set k y).map f)
  | [], _, _, h => by simp at h
  | z :: r, 0, x, h => by simpa using Weak.refl _
  | z :: r, k + 1, x, h => by
    rw [List.eraseIdx_cons_succ, List.map_cons, List.set_cons_succ, List.map_cons]
    exact (weak_two _ _ _).trans (weak_cons _ (weak_map (by simpa using h)))
theorem weak_back {α : Type} {f : α → HI} {L : List α} {k : Nat} {x : α} (h : L[k]? = some x) : Weak (f x :: (L.eraseIdx k).map f) (L.map f) := by
  have := weak_map (f := f) (y := x) h
  rwa [set_same h] at this
theorem weak_ins {α : Type} {f : α → HI} {y : α} : ∀ {L : List α} {k : Nat}, k ≤ L.length → Weak (f y :: L.map f) ((L.take k ++ y :: L.drop k).map f)
  | L, 0, _ => Weak.refl _
  | [], k + 1, h => by simp at h
  | z :: r, k + 1, h => by
    rw [List.take_succ_cons, List.drop_succ_cons, List.map_cons, List.cons_append, List.map_cons]
    exact (weak_two _ _ _).trans (weak_cons _ (weak_ins (by simpa using h)))

/-! ### maps whose keys are told apart -/
structure KeyOk (P : Program) (kt : TypeId) {α : Type} [DecidableEq α] (e : α → AV) : Prop where
  ok : ∀ x, (keyF P kt).ok (e x) = true
  eq : ∀ x y, (keyF P kt).eq (e x) (e y) = some (decide (x = y))
  same : ∀ x, sameKey (e x) (e x) = true
def entsA {α β : Type} (e : α → AV) (g : β → AV) : List (α × β) → Nat → List AEnt
  | [], _ => []
  | x :: r, i => ⟨e x.1, g x.2, i⟩ :: entsA e g r (i + 1)
def putA {α β : Type} [DecidableEq α] : List (α × β) → α → β → List (α × β)
  | [], k, v => [(k, v)]
  | x :: r, k, v => if k = x.1 then (k, v) :: r else x :: putA r k v
def getA {α β : Type} [DecidableEq α] : List (α × β) → α → Option β
  | [], _ => none
  | x :: r, k => if k = x.1 then some x.2 else getA r k
section
variable {α β : Type} [DecidableEq α] {e : α → AV} {g : β → AV} {P : Program} {kt : TypeId}
theorem findA (K : KeyOk P kt e) (k : α) : ∀ (d : List (α × β)) (i j : Nat),
    (getA d k = none ∧ findV (keyF P kt).eq (e k) (entsA e g d i) j = some none ∧ ∀ w, entsA e g (putA d k w) i = entsA e g d i ++ [⟨e k, g w, i + d.length⟩] ∧ (putA d k w).length = d.length + 1) ∨
    ∃ q v, getA d k = some v ∧ findV (keyF P kt).eq (e k) (entsA e g d i) j = some (some (j + q, ⟨e k, g v, i + q⟩)) ∧ ∀ w, entsA e g (putA d k w) i = (entsA e g d i).set q ⟨e k, g w, i + q⟩ ∧ (putA d k w).length = d.length
  | [], i, j => .inl ⟨rfl, rfl, fun w => ⟨rfl, rfl⟩⟩
  | x :: r, i, j => by
    have e1 : findV (keyF P kt).eq (e k) (entsA e g (x :: r) i) j = bnd ((keyF P kt).eq (e k) (e x.1)) fun b => cnd b (some (some (j, ⟨e x.1, g x.2, i⟩))) (findV (keyF P kt).eq (e k) (entsA e g r (i + 1)) (j + 1)) := rfl
    rw [e1, K.eq, bnd_some]
    by_cases h : k = x.1
    · subst h
      refine .inr ⟨0, x.2, by simp [getA], by simp, fun w => ?_⟩
      simp [putA, entsA]
    · rcases findA K k r (i + 1) (j + 1) with ⟨h1, h2, h3⟩ | ⟨q, v, h1, h2, h3⟩
      · refine .inl ⟨by simp [getA, h, h1], by simp [h, h2], fun w => ⟨?_, ?_⟩⟩
        · simp only [putA, h, if_false, entsA, (h3 w).1, List.cons_append, List.length_cons]
          congr 4; omega
        · simp [putA, h, (h3 w).2]
      · refine .inr ⟨q + 1, v, by simp [getA, h, h1], ?_, fun w => ⟨?_, ?_⟩⟩
        · simp only [h, decide_false, cnd_false, h2]
          rw [show j + 1 + q = j + (q + 1) by omega, show i + 1 + q = i + (q + 1) by omega]
        · simp only [putA, h, if_false, entsA, (h3 w).1, List.set_cons_succ]
          rw [show i + 1 + q = i + (q + 1) by omega]
        · simp [putA, h, (h3 w).2]
theorem updA (K : KeyOk P kt e) (d : List (α × β)) (k : α) (w : β) : updE (keyF P kt) (entsA e g d 0) d.length (e k) (g w) = some (entsA e g (putA d k w) 0, (putA d k w).length) := by
  unfold updE
  rcases findA (g := g) K k d 0 0 with ⟨h1, h2, h3⟩ | ⟨q, v, h1, h2, h3⟩
  · rw [h2, bnd_some, ocase_none, addEnt_eq, (h3 w).1, (h3 w).2, Nat.zero_add]
  · rw [h2, bnd_some, ocase_some]
    simp only [K.same, cnd_true, setEnt_eq, Nat.zero_add]
    rw [(h3 w).1, (h3 w).2, Nat.zero_add]
theorem lookA (K : KeyOk P kt e) (d : List (α × β)) (k : α) (z : β) (ok : Bool) : ∃ f, findV (keyF P kt).eq (e k) (entsA e g d 0) 0 = some f ∧ (ocase f (okV ok (g z) false) fun x => okV ok x.2.val true) = okV ok (g ((getA d k).getD z)) (getA d k).isSome := by
  rcases findA (g := g) K k d 0 0 with ⟨h1, h2, _⟩ | ⟨q, v, h1, h2, _⟩
  · exact ⟨none, h2, by simp [h1]⟩
  · exact ⟨_, h2, by simp [h1]⟩
end
theorem key_str {P : Program} {kt : TypeId} (hu : undOf P kt = some .string) : KeyOk P kt AV.str := by
  have hp : plainTy P kt = true := by unfold plainTy; rw [hu]
  have he : eqF P 40 kt = ⟨eqStr⟩ := by unfold eqF; rw [hu]
  have hk : keyF P kt = ⟨fun _ => true, eqStr⟩ := by unfold keyF; rw [if_pos hp, he]
  refine ⟨fun x => by rw [hk], fun x y => ?_, fun x => ?_⟩
  · rw [hk]
    show some (same x y) = _
    rw [same_eq, Bool.beq_eq_decide_eq]
  · show same x x = true
    rw [same_eq]; simp
section
variable {α β : Type} [DecidableEq α] {e : α → AV} {g : β → AV} {Q : Fs → List HI → Prop}
theorem w_mapUpdA {t kt et : TypeId} {x y z : Operand} {o : Nat} {D : List (α × β)} {i : α} {v : β} {d : Option Tmp} (hu : undOf C.P t = some (.map kt et)) (K : KeyOk C.P kt e) (hx : ev E x = some (.map (some o))) (hy : ev E y = some (e i)) (hz : ev E z = some (g v)) (hd : d = none)
    (ht : Take HF (.obj o (.map (entsA e g D 0) D.length)) HR) (hk : WS C n all r E (.obj o (.map (entsA e g (putA D i v) 0) (putA D i v).length) :: HR) Q) : WS C n all (⟨d, .mapUpdate t x y z, ty, pos, after, none⟩ :: r) E HF Q :=
  w_mapUpd hu hx hy hz hd ht (K.ok i) (updA K D i v) hk
theorem w_lookA {t kt et : TypeId} {x y : Operand} {o c : Nat} {D : List (α × β)} {i : α} {z : β} {zv : AV} {ok : Bool} (hu : undOf C.P t = some (.map kt et)) (K : KeyOk C.P kt e) (hz : zeroOf C.P et = some zv) (hzv : zv = g z) (hd : Nat.blt d n = true) (hx : ev E x = some (.map (some o))) (hy : ev E y = some (e i))
    (ht : Take HF (.obj o (.map (entsA e g D 0) c)) HR) (hk : WS C n all r ((d, okV ok (g ((getA D i).getD z)) (getA D i).isSome) :: E) HF Q) : WS C n all (⟨some d, .lookup t x y ok, ty, pos, after, none⟩ :: r) E HF Q := by
  subst hzv
  obtain ⟨f, h1, h2⟩ := lookA (g := g) K D i z ok
  exact w_lookup hu hz hd hx hy ht (K.ok i) h1 (by rw [h2]; exact hk)
end
/-- A map made, told so. -/
theorem WS.mapA {Q : Fs → List HI → Prop} {α β : Type} (e : α → AV) (g : β → AV) {o : Nat} (t : Take HF (.obj o (.map [] 0)) HR) (k : WS C n all r E (.obj o (.map (entsA e g [] 0) ([] : List (α × β)).length) :: HR) Q) : WS C n all r E HF Q := WS.weakH (weak_take t) k
theorem WC.mapA {c : Code} {Q : Post} {α β : Type} (e : α → AV) (g : β → AV) {o : Nat} (t : Take HF (.obj o (.map [] 0)) HR) (k : WC C n c E (.obj o (.map (entsA e g [] 0) ([] : List (α × β)).length) :: HR) Q) : WC C n c E HF Q := WC.weakH (weak_take t) k
end
end
end Go.Proofs.YtlgofplbbmjdjaaGreatDoor.BH
namespace Go.Proofs.YtlgofplbbmjdjaaGreatDoor.BH
open Go
noncomputable section
theorem known_ge (h : AHeap) (a : ALoc) (size d len : Nat) : len ≤ known h a size d len := by
  unfold known
  cases rowAt h a.obj with
  | none => exact Nat.le_refl _
  | some r =>
    simp only [ocase_some, cnd_eq]
    split
    · exact Nat.le_max_left _ _
    · exact Nat.le_refl _
theorem slice_op {P : Program} {t e s o p m d i j : Nat} {lo hi : Option AV} (hu : undOf P t = some (.slice e)) (hz : szOf P e = some (s + 1)) (hl : natOr 0 lo = some i) (hh : natOr m hi = some j) (h1 : i ≤ j) (h2 : j ≤ m) (h : AHeap) :
    (sliceF P t).run h (.slice (some ⟨o, p⟩) m (.op d)) lo hi none = some (.slice (some ⟨o, p + i * (s + 1)⟩) (j - i) (.op (d + i))) := by
  unfold sliceF; simp only [hu, hz]
  show (bnd (cut lo hi none m (known h ⟨o, p⟩ (s + 1) d m) (known h ⟨o, p⟩ (s + 1) d m)) fun r => some (AV.slice (some ⟨o, p + r.1 * (s + 1)⟩) (r.2.1 - r.1) (.op (d + r.1)))) = _
  have := known_ge h ⟨o, p⟩ (s + 1) d m
  rw [cut_is rfl rfl hh hl h1 (by omega) (Nat.le_refl _)]; rfl
theorem slice_ex {P : Program} {t e s o p m c i j : Nat} {lo hi : Option AV} (hu : undOf P t = some (.slice e)) (hz : szOf P e = some (s + 1)) (hl : natOr 0 lo = some i) (hh : natOr m hi = some j) (h1 : i ≤ j) (h2 : j ≤ c) (h : AHeap) :
    (sliceF P t).run h (.slice (some ⟨o, p⟩) m (.exact c)) lo hi none = some (.slice (some ⟨o, p + i * (s + 1)⟩) (j - i) (.exact (c - i))) := by
  unfold sliceF; simp only [hu, hz]
  show (bnd (cut lo hi none m c c) fun r => some (AV.slice (some ⟨o, p + r.1 * (s + 1)⟩) (r.2.1 - r.1) (.exact (r.2.2 - r.1)))) = _
  rw [cut_is rfl rfl hh hl h1 h2 (Nat.le_refl _)]; rfl
section
variable {C : Ctx} {n d : Nat} {all r : List Oper} {ty : TypeId} {pos : String} {after : Array Edge} {E : Fs} {HF HR : List HI}
/-- A row of which less is told. -/
theorem WC.trunc {c : Code} {Q : Post} {o e s : Nat} {cs : List AV} (m : Nat) (t : Take HF (.obj o (.row e s false cs)) HR) (h : WC C n c E (.obj o (.row e s false (cs.take m)) :: HR) Q) : WC C n c E HF Q := fun e' hh fp h1 h2 h3 ρ w a he H => by
  obtain ⟨fp1, k1, k2⟩ := t.sat h2
  obtain ⟨m1, m2, m3⟩ := sat_set (x' := .row e s false (cs.take m)) k1 h3
  have hx := (t.obj h2).1
  obtain ⟨cc, y, g1, g2, g3⟩ := H.objs _ _ hx
  obtain ⟨cs0, fr, rfl, q1, q2, q3, q4⟩ := g3
  have hle : (cs.take m).length ≤ cs.length := by rw [List.length_take]; exact Nat.min_le_right _ _
  have T : Trans ρ hh w ρ (hh.set o (.row e s false (cs.take m))) w := Trans.ofSet H hx rfl g1 g2 ⟨cs0, fr, rfl, by omega, fun i b hb => q2 i b (by
    rw [List.getElem?_take] at hb
    split at hb
    · exact hb
    · cases hb), by omega, q4⟩ rfl (fun _ _ => rfl) rfl rfl
  refine wp_mono (h e' _ fp1 h1 m1 m2 ρ w a he T.rel) ?_
  rintro ex a' w' ⟨x, rfl, ρ2, e2, h2', fp2, E2, HF2, p1, p2, p3, p4, p5, p6, p7, p8⟩
  exact ⟨x, rfl, ρ2, e2, h2', fp2, E2, HF2, p1, p2, T.trans p3, p4, p5, p6, (m3.left k2).trans p7, p8⟩
theorem w_clear {Q : Fs → List HI → Prop} {t e e' s m o p : Nat} {ts : List TypeId} {x : Operand} {c : ACap} {z cells cells' : List AV} {dst : Option Tmp} {tys : Array TypeId} (htys : tys.toList = t :: ts) (hu : undOf C.P t = some (.slice e)) (hz : zeroCells C.P e = some z) (hdst : dst = none)
    (hx : ev E x = some (.slice (some ⟨o, p⟩) m c)) (ht : Take HF (.obj o (.row e' s false cells)) HR) (hzs : z.all AV.scalar = true) (hr : over cells p (repl m z) = some cells') (hk : WS C n all r E (.obj o (.row e' s false cells') :: HR) Q) :
    WS C n all (⟨dst, .call ⟨.builtin .clear, #[x], tys⟩, ty, pos, after, none⟩ :: r) E HF Q := by
  subst hdst
  refine ws_stepX rfl fun ee h fp hs hh hw => ?_
  obtain ⟨fp1, k1, k2⟩ := ht.sat hh
  have hrow := rowAt_of (ht.obj hh).1
  obtain ⟨m1, m2, m3⟩ := sat_set (x' := .row e' s false cells') k1 hw
  have run : ∀ v h', clearV z h (.slice (some ⟨o, p⟩) m c) = some (v, h') → ∀ q, 0 ≤ q → (operTF C.P (.call ⟨.builtin .clear, #[x], tys⟩)).run (callX C.P (regionF C.P) C.cfg q) ee h = some (v, h') := by
    intro v h' hv q _
    show (bnd (opvs ee [x]) fun l => (built1 (clearF C.P tys.toList)).run h l) = _
    rw [show opvs ee [x] = some [.slice (some ⟨o, p⟩) m c] from evs_opvs hs (by show (bnd (ev E x) fun a => bnd (some []) fun l => some (a :: l)) = _; rw [hx]; rfl)]
    show (clearF C.P tys.toList).run h (.slice (some ⟨o, p⟩) m c) = _
    rw [htys]
    unfold clearF; simp only [hu, hz]
    exact hv
  have hsc : ∀ m, (repl m z).all AV.scalar = true := repl_scalar hzs
  by_cases h0 : m = 0
  · subst h0
    have e1 : cells' = cells := by
      rw [show repl 0 z = [] from rfl, over_none] at hr
      cases hr; rfl
    subst e1
    exact ⟨_, h, fp1, _, _, ⟨0, fun q hq => run (.tuple []) h rfl q hq⟩, hs, k1, hw, (Frame.refl _ _).left k2, hk⟩
  · refine ⟨_, h.set o (.row e' s false cells'), fp1, _, _, ⟨0, fun q hq => run (.tuple []) _ ?_ q hq⟩, hs, m1, m2, m3.left k2, hk⟩
    show cnd (Nat.beq m 0) _ (bnd (writeRow h ⟨o, p⟩ (repl m z)) fun h' => some (AV.tuple [], h')) = _
    rw [show Nat.beq m 0 = false by rw [← Bool.not_eq_true, beqN]; exact h0, cnd_false]
    unfold writeRow
    rw [hrow]
    simp only [bnd_some, cnd_false, allA_eq, hsc, cnd_true, hr]
/-- A function value called that a slot or a constant holds. -/
theorem w_callVX {Q : Fs → List HI → Prop} {x : Operand} {f : FuncId} {args : Array Operand} {ts : Array TypeId} {l a b l' : List AV} (hd : Nat.blt d n = true) (hg : ev E x = some (.func (.func f) a b)) (hl : evs E args.toList = some l) (e : a ++ (l ++ b) = l')
    (hc : CallW C f l' HF fun v HF' => WS C n all r ((d, v) :: E) HF' Q) : WS C n all (⟨some d, .call ⟨.value x, args, ts⟩, ty, pos, after, none⟩ :: r) E HF Q := by
  subst e
  refine w_callX hg hl ?_
  intro h fp k1 k2 ρ w us k3 k4
  refine (hc h fp k1 k2 ρ w us k3 k4).mono ?_
  rintro u w' ⟨v, ρ', h', fp', HF', g1, g2, g3, g4, g5, g6⟩
  exact ⟨v, ρ', h', fp', HF', g1, g2, g3, g4, g5, _, fun e hs => hs.put d v hd, g6⟩
/-- What is known behind a call, told weaker. -/
theorem CallW.post {f : FuncId} {l : List AV} {K K' : AV → List HI → Prop} (h : CallW C f l HF K) (w : ∀ v H, K v H → ∃ H', Weak H H' ∧ K' v H') : CallW C f l HF K' := fun hh fp h1 h2 ρ ww us hv H => by
  refine (h hh fp h1 h2 ρ ww us hv H).mono ?_
  rintro u w' ⟨v, ρ', h', fp', HF', m1, m2, m3, m4, m5, m6⟩
  obtain ⟨H', k1, k2⟩ := w v HF' m6
  obtain ⟨fp2, q1, q2⟩ := k1 fp' h' m3
  exact ⟨v, ρ', h', fp2, H', m1, m2, q1, m4, m5.less q2, k2⟩
theorem WR.openOwn {ops : Array Oper} {dn : Nat} {Q : Fs → List HI → Prop} {v : AV} {e s m : Nat} {cells : List AV} (t : Take HF (.own v e s cells m) HR) (hm : 0 < m) (h : ∀ o, v = .slice (some ⟨o, 0⟩) m (.op 0) → WR C n ops dn E (.obj o (.row e s false cells) :: HR) Q) : WR C n ops dn E HF Q := by
  refine WR.take t (WR.pre fun e' hh fp h1 h2 h3 => ?_)
  rcases h2 with ⟨_, _, e0, _⟩ | ⟨o, fp', rfl, e1, g1, g2, g3, g4⟩
  · omega
  · exact ⟨_, E, .obj o (.row e s false cells) :: HR, h1, ⟨fp', rfl, g1, g3, g4⟩, fun _ h => h, h o e1⟩
theorem weak_close {o e s m : Nat} {cells : List AV} {R : List HI} (hl : cells.length = m * s) : Weak (.obj o (.row e s false cells) :: R) (.own (.slice (some ⟨o, 0⟩) m (.op 0)) e s cells m :: R) := fun fp h hs => by
  obtain ⟨fp', rfl, h1, h2, h3⟩ := hs
  exact ⟨_, .inr ⟨o, fp', rfl, rfl, h1, hl, h2, h3⟩, fun _ h => h⟩
/-- A call on what is our own: nothing there, or an object. -/
theorem CallW.openOwn {f : FuncId} {l : List AV} {K : AV → List HI → Prop} {v : AV} {e s m : Nat} {cells : List AV} {R : List HI} (t : Take HF (.own v e s cells m) R)
    (h0 : m = 0 → (∀ ρ u, VR ρ v u → ∃ p c, u = .slice p 0 c) → CallW C f l (.own v e s cells m :: R) K)
    (h1 : 0 < m → ∀ o, v = .slice (some ⟨o, 0⟩) m (.op 0) → CallW C f l (.obj o (.row e s false cells) :: R) K) : CallW C f l HF K := fun hh fp k1 k2 ρ ww us hv H => by
  obtain ⟨fp1, g1, g2⟩ := t.sat k1
  have less : ∀ {HF1 : List HI} {fp1 : List Nat}, SatH HF1 fp1 hh → (∀ o ∈ fp1, o ∈ fp) → CallW C f l HF1 K → CallOk C.P f us ww fun u w' => ∃ v ρ' h' fp' HF', VR ρ' v u ∧ Trans ρ hh ww ρ' h' w' ∧ SatH HF' fp' h' ∧ WF h' ∧ Frame fp hh fp' h' ∧ K v HF' := by
    intro HF1 fp1 s1 s2 hc
    refine (hc hh fp1 s1 k2 ρ ww us hv H).mono ?_
    rintro u w' ⟨v, ρ', h', fp', HF', m1, m2, m3, m4, m5, m6⟩
    exact ⟨v, ρ', h', fp', HF', m1, m2, m3, m4, m5.more s2, m6⟩
  by_cases hm : m = 0
  · refine less g1 (fun o ho => (g2 o).mp ho) (h0 hm fun ρ u hu => ?_)
    subst hm
    rcases g1 with ⟨⟨a, rfl⟩ | rfl, _⟩ | ⟨o, fp', _, rfl, _⟩
    · cases a with
      | none => simp only [VR] at hu; obtain ⟨_, _, rfl⟩ := hu; exact ⟨_, _, rfl⟩
      | some a => simp only [VR] at hu; obtain ⟨c, ad, _, rfl, _⟩ := hu; exact ⟨_, _, rfl⟩
    · simp only [VR] at hu; obtain ⟨ao, cap, rfl, _⟩ := hu; exact ⟨_, _, rfl⟩
    · simp only [VR] at hu; obtain ⟨c, ad, _, rfl, _⟩ := hu; exact ⟨_, _, rfl⟩
  · rcases g1 with ⟨_, _, e3, _⟩ | ⟨o, fp', rfl, rfl, q1, q2, q3, q4⟩
    · exact absurd e3 hm
    · exact less (HF1 := .obj o (.row e s false cells) :: R) ⟨fp', rfl, q1, q3, q4⟩ (fun o ho => (g2 o).mp ho) (h1 (by omega) o rfl)
end
end
end Go.Proofs.YtlgofplbbmjdjaaGreatDoor.BH
