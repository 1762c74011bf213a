/-
  BH: append whole.
-/
import Derived.Test.YtonojkcnencodaaDoorBhOps7
namespace Go.Proofs.YtonojkcnencodaaDoor.BH

section
variable {P : Program} {ρ : Rho} {h : AHeap} {w : World}

theorem forced_appendCap (a b : Nat) (e : TypeId) : (Question.appendCap a b e).forced = false := rfl

def StoredAt (P : Program) (base : Option Addr) (off : Nat) (us : List Value) (w w' : World) : Prop :=
  match base with
  | some a => (storeCells (a.add off) us).run P w = .ok () w'
  | none => w' = w

/-- The reading of a number of zero values: it is in bounds. -/
theorem zerosTest {n b : Nat} (h1 : n * b ≤ bigBy) : ¬ ((n : Int) * (b : Int) > 2 ^ 48) := by
  have h2 : n * b ≤ 4398046511104 := h1
  rw [← Int.natCast_mul]
  generalize n * b = m at h2
  omega

variable {sT e : TypeId} {size n sLen sCap : Nat} {argTypes : Array TypeId} {ty : TypeId} {base : Option Addr} {u' : Value} {us os : List Value} {w' : World}

theorem append_inPlace_read {t : Option TypeId} (h0 : argTypes[0]? = some sT) (h1 : argTypes[1]? = t) (hu : undOf P sT = some (.slice e)) (hs : szOf P e = some size) (hz : zerosOf P t = false)
    (ht : ∀ t', t = some t' → ∃ d, undOf P t' = some d) (hl : (Builtin.lenOf u').run P w = .ok n w) (hf : (Builtin.firstCells size n u').run P w = .ok us.toArray w) (hcap : sLen + n ≤ sCap)
    (hst : StoredAt P base (sLen * size) us w w') :
    (Builtin.append_ argTypes ty #[.slice base sLen sCap, u']).run P w = .ok (.slice base (sLen + n) sCap) w' := by
  cases t with
  | none =>
    unfold Builtin.append_
    cases base with
    | none => unfold StoredAt at hst; simp only at hst; subst hst; simp [h0, h1, run_und hu, run_sizeOf' hs, hl, hf, hcap]
    | some a => unfold StoredAt at hst; simp only at hst; simp [h0, h1, run_und hu, run_sizeOf' hs, hl, hf, hcap, hst]
  | some t =>
    obtain ⟨d, hd⟩ := ht t rfl
    have hm : ∀ k, d ≠ .int k := by
      rintro k rfl
      unfold zerosOf at hz; simp [hd] at hz
    unfold Builtin.append_
    cases base with
    | none => unfold StoredAt at hst; simp only at hst; subst hst; simp [h0, h1, run_und hu, run_sizeOf' hs, run_und hd, hl, hf, hcap]
    | some a => unfold StoredAt at hst; simp only at hst; simp [h0, h1, run_und hu, run_sizeOf' hs, run_und hd, hl, hf, hcap, hst]

theorem append_inPlace_zeros {t : TypeId} {b : Nat} (h0 : argTypes[0]? = some sT) (h1 : argTypes[1]? = some t) (hu : undOf P sT = some (.slice e)) (hs : szOf P e = some size) (hz : zerosOf P (some t) = true)
    (hb : bytesOf P e = some b) (hn : n * b ≤ bigBy) (hn' : n ≤ bigBy)
    (hf : (n * size = 0 → us = []) ∧ (n * size ≠ 0 → ∃ zv, (zeroValue e).run P w = .ok zv w ∧ Builtin.zeroCells zv.cells n = us.toArray)) (hcap : sLen + n ≤ sCap)
    (hst : StoredAt P base (sLen * size) us w w') :
    (Builtin.append_ argTypes ty #[.slice base sLen sCap, .int .i64 (n : Int)]).run P w = .ok (.slice base (sLen + n) sCap) w' := by
  obtain ⟨k, hk⟩ : ∃ k, undOf P t = some (.int k) := by
    unfold zerosOf at hz
    cases hd : undOf P t with
    | none => simp [hd] at hz
    | some d => cases d <;> simp [hd] at hz; exact ⟨_, rfl⟩
  obtain ⟨ti, t1, t2⟩ := run_bytes (w := w) hb
  have e1 := zerosTest hn
  have e2 : ¬ (n : Int) < 0 := by omega
  unfold Builtin.append_
  simp only [List.getElem?_toArray, List.getElem?_cons_zero, List.getElem?_cons_succ, h0, h1, Sem.run_bind, run_und hu, run_sizeOf' hs, run_und hk, Result.andThen_ok, Sem.run_pure, if_true, asInt, asIntOf, wrap_nat hn', e2, if_false,
    t1, t2, e1, Int.toNat_natCast, hcap, Bool.not_true, Bool.false_eq_true]
  by_cases h3 : n * size = 0
  · have := hf.1 h3
    subst this
    cases base with
    | none => unfold StoredAt at hst; simp only at hst; subst hst; simp [h3]
    | some a => unfold StoredAt at hst; simp only at hst; simp [h3, hst]
  · obtain ⟨zv, z1, z2⟩ := hf.2 h3
    cases base with
    | none => unfold StoredAt at hst; simp only at hst; subst hst; simp [h3, z1, z2]
    | some a => unfold StoredAt at hst; simp only at hst; simp [h3, z1, z2, hst]

/-- The new capacity: at least what is wanted. -/
theorem newCap {need c : Nat} (e : TypeId) : ∃ k, (Question.appendCap need c e).cut (w.tape w.drawn (.appendCap need c e)) = k ∧ need ≤ k :=
  ⟨_, rfl, by unfold Question.cut; simp only; omega⟩

theorem notHuge {need c b : Nat} (hc : c < need) (hb : need * b ≤ bigBy) : ¬ (Builtin.nextslicecap need c * b > 2 ^ 48) := by
  have h1 : Builtin.nextslicecap need c * b ≤ 3 * need * b := Nat.mul_le_mul_right _ (nextslicecap_le hc)
  have h2 : need * b ≤ 4398046511104 := hb
  rw [Nat.mul_assoc] at h1
  generalize need * b = m at h1 h2
  omega

theorem append_grow_read {t : Option TypeId} {b k : Nat} {w₂ : World} {zv : Value} (h0 : argTypes[0]? = some sT) (h1 : argTypes[1]? = t) (hu : undOf P sT = some (.slice e)) (hs : szOf P e = some size) (hz : zerosOf P t = false)
    (ht : ∀ t', t = some t' → ∃ d, undOf P t' = some d) (hl : (Builtin.lenOf u').run P w = .ok n w) (hb : bytesOf P e = some b) (hcap : sCap < sLen + n) (hneed : sLen + n ≤ bigBy) (hby : (sLen + n) * b ≤ bigBy)
    (hk : (Question.appendCap (sLen + n) sCap e).cut (w.tape w.drawn (.appendCap (sLen + n) sCap e)) = k)
    (ho : (Builtin.firstCells size sLen (.slice base sLen sCap)).run P w.drew = .ok os.toArray w.drew) (hf : (Builtin.firstCells size n u').run P w.drew = .ok us.toArray w.drew)
    (hzv : (zeroValue e).run P w.drew = .ok zv w.drew)
    (hnew : (newRow e (os.toArray ++ us.toArray ++ Builtin.zeroCells zv.cells (k - (sLen + n)))).run P w.drew = .ok ⟨w.heap.size, 0, none⟩ w₂) :
    (Builtin.append_ argTypes ty #[.slice base sLen sCap, u']).run P w = .ok (.slice (some ⟨w.heap.size, 0, none⟩) (sLen + n) k) w₂ := by
  obtain ⟨ti, t1, t2⟩ := run_bytes (w := w) hb
  obtain ⟨ti', t1', _⟩ := run_bytes (w := w.drew) hb
  have e1 : ¬ sLen + n ≤ sCap := by omega
  have e2 := notHuge hcap hby
  have e3 : ¬ ((((sLen + n : Nat) : Int) > IntKind.i64.max) ∧ (b = 0)) := by
    rw [IntKind.max_i64]; unfold bigBy at hneed; omega
  have ew : ({ w with drawn := w.drawn + 1 } : World) = w.drew := rfl
  cases t with
  | none =>
    unfold Builtin.append_
    simp only [List.getElem?_toArray, List.getElem?_cons_zero, List.getElem?_cons_succ, h0, h1, Sem.run_bind, run_und hu, run_sizeOf' hs, Result.andThen_ok, Sem.run_pure, Bool.false_eq_true, if_false, hl, e1, t1, t2, false_or, e3, e2,
      run_choose, forced_appendCap, hk, ew, t1', run_askRoom, ho, hf, hzv, hnew, Bool.not_false, if_true]
  | some t =>
    obtain ⟨d, hd⟩ := ht t rfl
    have hm : ∀ k, d ≠ .int k := by
      rintro k rfl
      unfold zerosOf at hz; simp [hd] at hz
    unfold Builtin.append_
    simp only [List.getElem?_toArray, List.getElem?_cons_zero, List.getElem?_cons_succ, h0, h1, Sem.run_bind, run_und hu, run_sizeOf' hs, run_und hd, Result.andThen_ok, Sem.run_pure, Bool.false_eq_true, if_false, hl, e1, t1, t2, false_or, e3, e2,
      run_choose, forced_appendCap, hk, ew, t1', run_askRoom, ho, hf, hzv, hnew, Bool.not_false, if_true]

theorem append_grow_zeros {t : TypeId} {b k : Nat} {w₂ : World} {zv : Value} (h0 : argTypes[0]? = some sT) (h1 : argTypes[1]? = some t) (hu : undOf P sT = some (.slice e)) (hs : szOf P e = some size)
    (hz : zerosOf P (some t) = true) (hb : bytesOf P e = some b) (hn : n * b ≤ bigBy) (hn' : n ≤ bigBy) (hcap : sCap < sLen + n) (hneed : sLen + n ≤ bigBy) (hby : (sLen + n) * b ≤ bigBy)
    (hk : (Question.appendCap (sLen + n) sCap e).cut (w.tape w.drawn (.appendCap (sLen + n) sCap e)) = k)
    (ho : (Builtin.firstCells size sLen (.slice base sLen sCap)).run P w.drew = .ok os.toArray w.drew) (hsz : n * size ≠ 0) (hzv : (zeroValue e).run P w.drew = .ok zv w.drew) (hzc : Builtin.zeroCells zv.cells n = us.toArray)
    (hnew : (newRow e (os.toArray ++ us.toArray ++ Builtin.zeroCells zv.cells (k - (sLen + n)))).run P w.drew = .ok ⟨w.heap.size, 0, none⟩ w₂) :
    (Builtin.append_ argTypes ty #[.slice base sLen sCap, .int .i64 (n : Int)]).run P w = .ok (.slice (some ⟨w.heap.size, 0, none⟩) (sLen + n) k) w₂ := by
  obtain ⟨kk, hkk⟩ : ∃ k, undOf P t = some (.int k) := by
    unfold zerosOf at hz
    cases hd : undOf P t with
    | none => simp [hd] at hz
    | some d => cases d <;> simp [hd] at hz; exact ⟨_, rfl⟩
  obtain ⟨ti, t1, t2⟩ := run_bytes (w := w) hb
  obtain ⟨ti', t1', _⟩ := run_bytes (w := w.drew) hb
  have e0 := zerosTest hn
  have e00 : ¬ (n : Int) < 0 := by omega
  have e1 : ¬ sLen + n ≤ sCap := by omega
  have e2 := notHuge hcap hby
  have e3 : ¬ (((sLen + n : Nat) : Int) > IntKind.i64.max) := by
    rw [IntKind.max_i64]; unfold bigBy at hneed; omega
  have ew : ({ w with drawn := w.drawn + 1 } : World) = w.drew := rfl
  unfold Builtin.append_
  simp only [List.getElem?_toArray, List.getElem?_cons_zero, List.getElem?_cons_succ, h0, h1, Sem.run_bind, run_und hu, run_sizeOf' hs, run_und hkk, Result.andThen_ok, Sem.run_pure, if_true, asInt, asIntOf, wrap_nat hn', e00, if_false,
    t1, t2, e0, Int.toNat_natCast, e1, e3, false_and, e2, run_choose, forced_appendCap, Bool.false_eq_true, hk, ew, t1', run_askRoom, ho, hsz, Bool.not_true, hzv, hzc, hnew]

/-! ### the whole -/
theorem drew_heap : w.drew.heap = w.heap := rfl

theorem appendGrow_run (H : HRel ρ h w) {t : Option TypeId} {x : AV} {old new : List AV} {b len : Nat} {r : AV} {h' : AHeap} (h0 : argTypes[0]? = some sT) (h1 : argTypes[1]? = t)
    (hu : undOf P sT = some (.slice e)) (hs : szOf P e = some size) (hpos : 0 < size) (hb : bytesOf P e = some b) (hx : VR ρ x u') (hn0 : n ≠ 0) (hr : (newF P e size b t).run h x = some (n, new))
    (hz : ∃ z, zeroCells P e = some z)
    (hcap : sCap < len + n) (hold : VRL ρ old os) (holds : old.all AV.scalar = true) (hol : os.length = len * size)
    (ho : (Builtin.firstCells size len (.slice base len sCap)).run P w.drew = .ok os.toArray w.drew) {hx' : AHeap} (Hx : HRel ρ hx' w) (hg : growNew e size b hx' (len + n) (app old new) = some (r, h')) :
    ∃ ρ' w' v', (Builtin.append_ argTypes ty #[.slice base len sCap, u']).run P w = .ok v' w' ∧ VR ρ' r v' ∧ Trans ρ hx' w ρ' h' w' := by
  unfold growNew at hg
  rw [cnd_eq] at hg
  split at hg
  · rename_i hh
    cases hg
    rw [Bool.and_eq_true, bleN, bleN] at hh
    obtain ⟨z, hz⟩ := hz
    obtain ⟨zv, z1, z2, z3, z4⟩ := zeroCells_run (w := w.drew) ρ hz
    rw [hs] at z3; cases z3
    have hzl : zv.cells.size = z.length := by rw [← Array.length_toList, z2.length]
    obtain ⟨k, hk, hkn⟩ := newCap (w := w) (need := len + n) (c := sCap) e
    obtain ⟨n1, n2, n3, n4⟩ := newF_run (P := P) (w := w) H hs hpos hx hr
    obtain ⟨us, u1, u2, u3, u4, u5, u6⟩ := n4 w.drew drew_heap
    have hzr : (Builtin.zeroCells zv.cells (k - (len + n))).toList.length = (k - (len + n)) * z.length := by rw [zeroCells_range]; simp [hzl]
    have hall : (old ++ new).all AV.scalar = true := by rw [List.all_append, holds, u3]; rfl
    have hlen : (old ++ new).length = (len + n) * z.length := by
      rw [List.length_append, ← hold.length, ← u1.length, hol, u2, Nat.add_mul]
    have hkm : (len + n) * z.length + (k - (len + n)) * z.length = k * z.length := by rw [← Nat.add_mul]; congr 1; omega
    obtain ⟨w', q1, q2, _⟩ := newRoom_run (P := P) Hx (w₁ := w.drew) (e := e) (s := z.length) (k := k) (cells := old ++ new) (us := os ++ us) (rest := (Builtin.zeroCells zv.cells (k - (len + n))).toList) rfl rfl rfl
      (VRL.append hold u1) hall (by rw [hlen]; exact Nat.mul_le_mul_right _ hkn) (by rw [List.length_append, hol, u2, hzr, ← Nat.add_mul, hkm]; exact Nat.le_refl _)
    have hq : (newRow e (os.toArray ++ us.toArray ++ Builtin.zeroCells zv.cells (k - (len + n)))).run P w.drew = .ok ⟨w.heap.size, 0, none⟩ w' := by
      rw [← q1]; congr 2; apply Array.ext'; simp
    refine ⟨_, w', .slice (some ⟨w.heap.size, 0, none⟩) (len + n) k, ?_, slice_VR_op hkn, by rw [app_eq]; exact q2⟩
    cases hzt : zerosOf P t with
    | false => exact append_grow_read h0 h1 hu hs hzt n3 (n1 hzt) hb hcap hh.2 hh.1 hk ho (u4 hzt) z1 hq
    | true =>
      obtain ⟨m1, m2, m3⟩ := n2 hzt
      subst m1
      cases t with
      | none => cases hzt
      | some t =>
        have hsz : n * z.length ≠ 0 := by
          intro h00
          rcases Nat.mul_eq_zero.mp h00 with h00 | h00 <;> omega
        obtain ⟨zv', y1, y2⟩ := u5 hzt hsz
        rw [z1] at y1; cases y1
        exact append_grow_zeros h0 h1 hu hs hzt hb m2 m3 hcap hh.2 hh.1 hk ho hsz z1 y2 hq
  · cases hg

theorem appendF_run (H : HRel ρ h w) {tys : List TypeId} (htys : argTypes.toList = tys) {s x v : AV} {u : Value} {h' : AHeap} (hsv : VR ρ s u) (hx : VR ρ x u') (hr : (appendF P tys).run h s x = some (v, h')) :
    ∃ ρ' w' v', (Builtin.append_ argTypes ty #[u, u']).run P w = .ok v' w' ∧ VR ρ' v v' ∧ Trans ρ h w ρ' h' w' := by
  unfold appendF at hr
  cases tys with
  | nil => cases hr
  | cons sT rest =>
  have h0 : argTypes[0]? = some sT := by rw [← Array.getElem?_toList, htys]; rfl
  have h1 : argTypes[1]? = rest.head? := by rw [← Array.getElem?_toList, htys]; cases rest <;> rfl
  simp only at hr
  cases hu : undOf P sT with
  | none => rw [hu] at hr; cases hr
  | some D =>
  rw [hu] at hr
  cases D with
  | slice e =>
    cases hs : szOf P e with
    | none => simp only [hs] at hr; cases hr
    | some size =>
    cases size with
    | zero => simp only [hs] at hr; cases hr
    | succ k0 =>
    cases hb : bytesOf P e with
    | none => simp only [hs, hb] at hr; cases hr
    | some b =>
    cases hz : zeroCells P e with
    | none => simp only [hs, hb, hz] at hr; cases hr
    | some z =>
    simp only [hs, hb, hz] at hr
    obtain ⟨p, hnew, hr⟩ := bnd_eq_some.mp hr
    obtain ⟨n, new⟩ := p
    rw [cnd_eq] at hr
    split at hr
    case isFalse => cases hr
    rename_i hsl
    have hpos : 0 < k0 + 1 := by omega
    obtain ⟨n1, n2, n3, n4⟩ := newF_run (P := P) (w := w) H hs hpos hx hnew
    -- in place: what is stored is what was read
    have inPlace : ∀ {base : Option Addr} {len cap : Nat} {us : List Value} {w' : World}, VRL ρ new us → us.length = n * (k0 + 1) →
        (zerosOf P rest.head? = false → (Builtin.firstCells (k0 + 1) n u').run P w = .ok us.toArray w) →
        (zerosOf P rest.head? = true → n * (k0 + 1) ≠ 0 → ∃ zv, (zeroValue e).run P w = .ok zv w ∧ Builtin.zeroCells zv.cells n = us.toArray) → (zerosOf P rest.head? = true → n * (k0 + 1) = 0 → us = []) →
        len + n ≤ cap → StoredAt P base (len * (k0 + 1)) us w w' → (Builtin.append_ argTypes ty #[.slice base len cap, u']).run P w = .ok (.slice base (len + n) cap) w' := by
      intro base len cap us w' _ _ g1 g2 g3 hcap hst
      cases hzt : zerosOf P rest.head? with
      | false => exact append_inPlace_read h0 h1 hu hs hzt n3 (n1 hzt) (g1 hzt) hcap hst
      | true =>
        obtain ⟨m1, m2, m3⟩ := n2 hzt
        subst m1
        cases hrest : rest.head? with
        | none => rw [hrest] at hzt; cases hzt
        | some t =>
          rw [hrest] at h1 hzt
          exact append_inPlace_zeros h0 h1 hu hs hzt hb m2 m3 ⟨g3 (by rw [hrest]; exact hzt), g2 (by rw [hrest]; exact hzt)⟩ hcap hst
    unfold appendTo at hr
    rw [cnd_eq] at hr
    split at hr
    · -- nothing is appended
      rename_i hn0
      rw [beqN] at hn0
      have hn0 : n = 0 := hn0
      subst hn0
      cases hr
      obtain ⟨us, u1, u2, u3, u4, u5, u6⟩ := n4 w rfl
      have : us = [] := List.length_eq_zero_iff.mp (by rw [u2]; simp)
      subst this
      cases s with
      | slice a len c =>
        cases a with
        | none =>
          simp only [VR] at hsv
          obtain ⟨rfl, rfl, rfl⟩ := hsv
          exact ⟨ρ, w, _, inPlace u1 u2 u4 u5 u6 (Nat.le_refl _) rfl, by simp only [VR]; simp, .refl H⟩
        | some a =>
          have hsv0 := hsv
          simp only [VR] at hsv
          obtain ⟨c', ad, hc, rfl, hlen, had⟩ := hsv
          exact ⟨ρ, w, _, inPlace u1 u2 u4 u5 u6 (by omega) rfl, hsv0, .refl H⟩
      | lst cs m f pf =>
        have hsv0 := hsv
        simp only [VR] at hsv
        obtain ⟨ao, cap, rfl, hm, _⟩ := hsv
        exact ⟨ρ, w, _, inPlace u1 u2 u4 u5 u6 (by omega) (by cases ao <;> rfl), hsv0, .refl H⟩
      | _ => simp [isSliceV] at hsl
    · rename_i hn0
      rw [beqN] at hn0
      have hn0 : n ≠ 0 := hn0
      cases hlx : lstOf s with
      | some q =>
        rw [hlx] at hr
        replace hr : appendLst e (k0 + 1) b h q.1 q.2.1 q.2.2.1 n new = some (v, h') := hr
        rw [lstOf_eq hlx] at hsv
        have hsv0 := hsv
        unfold appendLst at hr
        rw [cnd_eq] at hr
        split at hr
        case isFalse => cases hr
        rename_i hfull
        obtain ⟨old, hold, hr⟩ := bnd_eq_some.mp hr
        simp only [VR] at hsv
        obtain ⟨ao, cap, rfl, k2, k3, _⟩ := hsv
        obtain ⟨os, o1, o2, o3, o4⟩ := firstCells_run (P := P) H hsv0 (m := q.2.1) rfl (Nat.le_refl _) (show firstV h (k0 + 1) q.2.1 (.lst q.1 q.2.1 q.2.2.1 q.2.2.2) = some old from hold) (w₁ := w.drew) drew_heap
        have := k3 hfull
        exact appendGrow_run H h0 h1 hu hs hpos hb hx hn0 hnew ⟨z, hz⟩ (by omega) o2 o4 o3 o1 H hr
      | none =>
      rw [hlx] at hr
      replace hr : (bnd (sliceOf s) fun v => ocase v.1 (growNew e (k0 + 1) b h n new) fun a => appendCap e (k0 + 1) b h a v.2.1 v.2.2 n new) = some (v, h') := hr
      obtain ⟨q, hq, hr⟩ := bnd_eq_some.mp hr
      have hqe := sliceOf_eq hq
      obtain ⟨a, len, c⟩ := q
      simp only at hqe
      subst hqe
      cases a with
      | none =>
        simp only [VR] at hsv
        obtain ⟨rfl, rfl, rfl⟩ := hsv
        have hr : growNew e (k0 + 1) b h n new = some (v, h') := hr
        have e1 : growNew e (k0 + 1) b h (0 + n) (app [] new) = some (v, h') := by rw [Nat.zero_add]; exact hr
        exact appendGrow_run H (os := []) (old := []) h0 h1 hu hs hpos hb hx hn0 hnew ⟨z, hz⟩ (by omega) VRL.nil rfl (by simp) rfl H e1
      | some a =>
        have hsv0 := hsv
        simp only [VR] at hsv
        obtain ⟨c', ad, hc, rfl, hlen, had⟩ := hsv
        have hr : appendCap e (k0 + 1) b h a len c n new = some (v, h') := hr
        unfold appendCap at hr
        cases c with
        | exact cp =>
          simp only [ACap.val] at hlen had hsv0 ⊢
          have hr : appendExact e (k0 + 1) b h a len cp n new = some (v, h') := hr
          unfold appendExact at hr
          rw [cnd_eq] at hr
          split at hr
          · rename_i hle
            rw [bleN] at hle
            obtain ⟨h2, hw, hr⟩ := bnd_eq_some.mp hr
            cases hr
            obtain ⟨us, u1, u2, u3, u4, u5, u6⟩ := n4 w rfl
            obtain ⟨c2, w', hc2, s1, s2⟩ := writeRow_run (P := P) H hw u1
            simp only at hc2
            rw [hc] at hc2; cases hc2
            refine ⟨ρ, w', _, inPlace (base := some ad) u1 u2 u4 u5 u6 hle (by unfold StoredAt; simp only; rw [had (by omega), at_add]; exact s1), ?_, s2⟩
            simp only [VR, ACap.val]
            exact ⟨c', ad, hc, rfl, hle, had⟩
          · rename_i hle
            rw [bleN] at hle
            obtain ⟨old, hold, hr⟩ := bnd_eq_some.mp hr
            obtain ⟨os, o1, o2, o3, o4⟩ := firstCells_run (P := P) H hsv0 (m := len) rfl (Nat.le_refl _) hold (w₁ := w.drew) drew_heap
            exact appendGrow_run H h0 h1 hu hs hpos hb hx hn0 hnew ⟨z, hz⟩ (by omega) o2 o4 o3 o1 H hr
        | op d =>
          simp only [ACap.val] at hlen had hsv0 ⊢
          have hr : appendOpen e (k0 + 1) b h a len d n new = some (v, h') := hr
          unfold appendOpen at hr
          obtain ⟨r, hrow, hr⟩ := bnd_eq_some.mp hr
          rw [cnd_eq] at hr
          split at hr
          case isFalse => cases hr
          rename_i hcond
          simp only [Bool.and_eq_true, beqN, Bool.not_eq_true', allA_eq] at hcond
          obtain ⟨⟨⟨⟨q0, q1⟩, q2⟩, q3⟩, q4⟩ := hcond
          have hg := row_of hrow
          obtain ⟨c2, y, hc2, hy, hrel⟩ := H.objs _ _ hg
          rw [hc] at hc2; cases hc2
          obtain ⟨cs, fr, rfl, r1, r2, r3, r4, r5⟩ := hrel
          rw [q1] at r3 r4
          rw [cnd_eq] at hr
          split at hr
          · -- within what is known
            rename_i hle
            rw [bleN, lenA_eq] at hle
            obtain ⟨h2, hw, hr⟩ := bnd_eq_some.mp hr
            cases hr
            have hcap : len + n ≤ c'.cap - d := by
              have h3 : (d + (len + n)) * (k0 + 1) ≤ c'.cap * (k0 + 1) := by rw [Nat.add_mul]; omega
              have := Nat.le_of_mul_le_mul_right h3 hpos
              omega
            obtain ⟨us, u1, u2, u3, u4, u5, u6⟩ := n4 w rfl
            obtain ⟨c2, w', hc2, s1, s2⟩ := writeRow_run (P := P) H hw u1
            simp only at hc2
            rw [hc] at hc2; cases hc2
            refine ⟨ρ, w', _, inPlace (base := some ad) u1 u2 u4 u5 u6 hcap (by unfold StoredAt; simp only; rw [had (by omega), at_add]; exact s1), ?_, s2⟩
            simp only [VR, ACap.val]
            exact ⟨c', ad, hc, rfl, hcap, had⟩
          · -- behind it: in place, or a new row
            rename_i hle
            obtain ⟨old, hold, hr⟩ := bnd_eq_some.mp hr
            have hfv : firstV h (k0 + 1) len (.slice (some a) len (.op d)) = some old := by
              simp only [firstV]
              rw [cnd_eq]
              split
              · rename_i h00
                rw [beqN] at h00
                subst h00
                obtain ⟨_, g2⟩ := slots_eq_some hold
                rw [g2]; simp
              · simp only [bnd_some]
                unfold readRow
                rw [hrow]; exact hold
            by_cases hcap : len + n ≤ c'.cap - d
            · -- in place: the new object takes the old one's block
              unfold growNew at hr
              rw [cnd_eq] at hr
              split at hr
              case isFalse => cases hr
              cases hr
              obtain ⟨us, u1, u2, u3, u4, u5, u6⟩ := n4 w rfl
              obtain ⟨os, o1, o2, o3, o4⟩ := firstCells_run (P := P) H hsv0 (m := len) rfl (Nat.le_refl _) hfv (w₁ := w) rfl
              have hd : d ≤ c'.cap := by omega
              have hmul : a.off + (c'.cap - d) * (k0 + 1) = c'.cap * (k0 + 1) := by
                rw [q2, ← Nat.add_mul]; congr 1; omega
              have hmul2 : (len + n) * (k0 + 1) ≤ (c'.cap - d) * (k0 + 1) := Nat.mul_le_mul_right _ hcap
              have hmul3 : (len + n) * (k0 + 1) = len * (k0 + 1) + n * (k0 + 1) := Nat.add_mul _ _ _
              obtain ⟨w', cs2, s1, s2, s3, s4, s5, s6, s7, s8⟩ := run_storeCells (P := P) us 0 w c' (a.off + len * (k0 + 1)) cs r.elem fr hy
                (by right; rw [u2]; omega)
                (fun j hj => r5.1 q3 _ (by rw [u2] at hj; omega))
                (fun v hv => by
                  obtain ⟨i, hi⟩ := List.getElem?_of_mem hv
                  have hi' : i < new.length := by rw [← u1.length]; exact (List.getElem?_eq_some_iff.mp hi).1
                  obtain ⟨v', hv1, hv2⟩ := u1.get (List.getElem?_eq_getElem hi')
                  rw [hi] at hv1; cases hv1
                  exact hv2.oneCell (List.all_eq_true.mp u3 _ (List.getElem_mem hi')))
              obtain ⟨g1, g2⟩ := slots_eq_some hold
              have holdl : old.length = len * (k0 + 1) := by rw [← o2.length, o3]
              have hnewl : new.length = n * (k0 + 1) := by rw [← u1.length, u2]
              refine ⟨_, w', _, inPlace (base := some ad) u1 u2 u4 u5 u6 hcap (by unfold StoredAt; simp only; rw [had (by omega), at_add]; exact s1), ?_,
                Trans.ofMove H (d := ⟨c'.blk, c'.base + a.off, c'.cap - d⟩) hg q3 hc rfl s2 ?_ s5 s6 s7 s8⟩
              · simp only [VR, ACap.val]
                exact ⟨_, ad, upd_self _ _ _, rfl, hcap, fun _ => had (by omega)⟩
              · refine ⟨cs2, fr, ?_, ?_, ?_, ?_, ?_, fun _ i hi => r5.1 q3 i (by rw [s3] at hi; exact hi), fun h1 => by rw [s3]; exact r5.2 (by rw [q1]; exact h1)⟩
                · rw [← q0]
                · rw [app_eq, List.length_append, holdl, hnewl, s3]; simp only; omega
                · intro i b' hb'
                  rw [app_eq] at hb'
                  rw [s4]
                  by_cases hi : i < old.length
                  · rw [List.getElem?_append_left hi] at hb'
                    rw [g2] at hb'
                    rw [List.getElem?_take] at hb'
                    split at hb'
                    · rw [List.getElem?_drop] at hb'
                      obtain ⟨k1, v', k2, k3⟩ := r2 _ _ hb'
                      refine ⟨k1, v', ?_, VR.mono (ext_upd (H.fresh _ (Nat.le_refl _))) _ _ k3⟩
                      rw [if_neg (by simp only; omega)]
                      simp only
                      rw [show c'.base + a.off + i = c'.base + (a.off + i) by omega]; exact k2
                    · cases hb'
                  · rw [List.getElem?_append_right (by omega)] at hb'
                    obtain ⟨v', k2, k3⟩ := u1.get hb'
                    have hlt : i - old.length < us.length := (List.getElem?_eq_some_iff.mp k2).1
                    refine ⟨List.all_eq_true.mp u3 _ (List.mem_of_getElem? hb'), v', ?_, VR.mono (ext_upd (H.fresh _ (Nat.le_refl _))) _ _ k3⟩
                    rw [if_pos (by simp only; omega)]
                    rw [← k2]; congr 1; simp only; omega
                · rw [app_eq, List.length_append, holdl, hnewl]; simp only; omega
                · rw [s3]; simp only; omega
            · -- a new row
              obtain ⟨os, o1, o2, o3, o4⟩ := firstCells_run (P := P) H hsv0 (m := len) rfl (Nat.le_refl _) hfv (w₁ := w.drew) drew_heap
              obtain ⟨ρ', w', v', t1, t2, t3⟩ := appendGrow_run H (sCap := c'.cap - d) (base := some ad) h0 h1 hu hs hpos hb hx hn0 hnew ⟨z, hz⟩ (by omega) o2 o4 o3 o1 (H.del a.obj) hr
              exact ⟨ρ', w', v', t1, t2, (Trans.ofDel H a.obj).trans t3⟩
  | _ => cases hr

end
end Go.Proofs.YtonojkcnencodaaDoor.BH
