/-
  BH: maps: the evaluator's operations are the model's.
-/
import Derived.Test.YtonojkcnencodaaDoorBhOps10
import Derived.MapKept
namespace Go.Proofs.YtonojkcnencodaaDoor.BH
open Go.MapKept (bytes_beq heap_set)

section
variable {P : Program} {ρ : Rho} {h : AHeap} {w : World}

theorem mapAt_spec {h : AHeap} {r : Nat} {x : List AEnt × Nat} (hc : mapAt h r = some x) : h.get r = some (.map x.1 x.2) := by
  unfold mapAt at hc
  split at hc
  · rename_i hh; cases hc; exact hh
  · cases hc

/-! ### keys to the bit -/
theorem samePlain_bits {a b : AV} {u v : Value} (hs : samePlain a b = true) (hu : VR ρ a u) (hv : VR ρ b v) (n : Nat) : Instr.sameBits n u v = true := by
  unfold samePlain at hs
  cases a with
  | str x =>
    cases b <;> simp only at hs <;> try cases hs
    rename_i y
    rw [same_eq] at hs
    have := eq_of_beq hs
    subst this
    simp only [VR] at hu hv; subst hu; subst hv
    cases n <;> exact (bytes_beq _ _).mpr rfl
  | int j x =>
    cases b <;> simp only at hs <;> try cases hs
    rename_i k y
    simp only [Bool.and_eq_true, eqI_eq] at hs
    have e1 := kno_inj hs.1
    have e2 := eq_of_beq hs.2
    subst e1; subst e2
    simp only [VR] at hu hv; subst hu; subst hv
    cases n <;> simp [Instr.sameBits]
  | bool x =>
    cases b <;> simp only at hs <;> try cases hs
    rename_i y
    have := eq_of_beq hs
    subst this
    simp only [VR] at hu hv; subst hu; subst hv
    cases n <;> simp [Instr.sameBits]
  | _ => cases hs
theorem samePlains_cons (a b : AV) (x y : List AV) : samePlains (a :: x) (b :: y) = cnd (samePlain a b) (samePlains x y) false := rfl
theorem samePlains_bits (n : Nat) : ∀ {x y : List AV} {us vs : List Value}, samePlains x y = true → VRL ρ x us → VRL ρ y vs → us.length = vs.length ∧ ((us.zip vs).all fun (a, b) => Instr.sameBits n a b) = true
  | [], [], _, _, _, hu, hv => by simp only [VRL] at hu hv; subst hu; subst hv; exact ⟨rfl, rfl⟩
  | [], _ :: _, _, _, hs, _, _ => by cases hs
  | _ :: _, [], _, _, hs, _, _ => by cases hs
  | a :: x, b :: y, us, vs, hs, hu, hv => by
    rw [samePlains_cons, cnd_eq] at hs
    split at hs
    · rename_i h1
      simp only [VRL] at hu hv
      obtain ⟨u, us', rfl, hu1, hu2⟩ := hu
      obtain ⟨v, vs', rfl, hv1, hv2⟩ := hv
      obtain ⟨g1, g2⟩ := samePlains_bits n hs hu2 hv2
      exact ⟨by simp [g1], by simp only [List.zip_cons_cons, List.all_cons, samePlain_bits h1 hu1 hv1 n, Bool.true_and]; exact g2⟩
    · cases hs
theorem sameKey_stays {a b : AV} {u v : Value} (hs : sameKey a b = true) (hu : VR ρ a u) (hv : VR ρ b v) : (Instr.keyThatStays u v).run P w = .ok v w := by
  have : Instr.sameBits 10000 u v = true := by
    unfold sameKey at hs
    cases a with
    | agg x =>
      cases b <;> simp only at hs <;> try cases hs
      rename_i y
      simp only [VR] at hu hv
      obtain ⟨us, rfl, h1⟩ := hu
      obtain ⟨vs, rfl, h2⟩ := hv
      obtain ⟨g1, g2⟩ := samePlains_bits 9999 hs h1 h2
      rw [Array.length_toList, Array.length_toList] at g1
      show (us.size == vs.size && _) = true
      rw [g1]
      simpa using g2
    | _ => exact samePlain_bits hs hu hv 10000
  unfold Instr.keyThatStays
  rw [this]; rfl

/-! ### what a key must be -/
theorem plainTy_und {t : TypeId} (hp : plainTy P t = true) : (∃ k, undOf P t = some (.int k)) ∨ undOf P t = some .string ∨ undOf P t = some .bool := by
  unfold plainTy at hp
  split at hp
  · rename_i e; exact .inr (.inl e)
  · rename_i k e; exact .inl ⟨k, e⟩
  · rename_i e; exact .inr (.inr e)
  · cases hp
theorem plainTy_check {t : TypeId} (hp : plainTy P t = true) (em : Bool) (n : Nat) (u : Value) : (Instr.checkKey em (n + 1) t u).run P w = .ok () w := by
  unfold Instr.checkKey
  rcases plainTy_und hp with ⟨k, e⟩ | e | e <;> simp [run_und e]
theorem keyParts_check (em : Bool) (n : Nat) {cs : List AV} {us : Array Value} (hu : VRL ρ cs us.toList) : ∀ {fs : List Field} {ps : List PartF}, keyParts P fs = some ps → partsOk ps cs = true →
    (forIn (m := Sem) fs PUnit.unit fun f _ => if f.name ≠ "_" then do
          let x ← part f.type us f.offset
          Instr.checkKey em (n + 1) f.type x
          pure (ForInStep.yield PUnit.unit)
        else pure (ForInStep.yield PUnit.unit)).run P w = .ok PUnit.unit w
  | [], _, _, _ => by simp
  | f :: r, ps, hp, ho => by
    unfold keyParts at hp
    split at hp
    · rename_i h1
      obtain ⟨l, hl, hp⟩ := bnd_eq_some.mp hp
      cases hp
      have ho' : ocase ((partF P f.type f.offset).run cs) false (fun _ => partsOk l cs) = true := ho
      cases hx : (partF P f.type f.offset).run cs with
      | none => rw [hx] at ho'; cases ho'
      | some x =>
        rw [hx] at ho'
        obtain ⟨u, g1, _⟩ := part_run (P := P) (w := w) hx hu
        have ih := keyParts_check em n hu hl ho'
        rw [List.forIn_cons]
        by_cases hn : f.name = "_"
        · simp only [hn, ne_eq, not_true_eq_false, if_false, Sem.run_bind, Sem.run_pure, Result.andThen_ok]
          exact ih
        · simp only [hn, ne_eq, not_false_eq_true, if_true, Sem.run_bind, Sem.run_pure, Result.andThen_ok, g1, plainTy_check h1]
          exact ih
    · cases hp
theorem keyF_check {kt : TypeId} {k : AV} {u : Value} (hk : (keyF P kt).ok k = true) (hu : VR ρ k u) (em : Bool) : (Instr.checkKey em 10000 kt u).run P w = .ok () w := by
  unfold keyF at hk
  split at hk
  · rename_i hp; exact plainTy_check hp em 9999 u
  · split at hk
    · rename_i fs hd
      cases hps : keyParts P fs.toList with
      | none => rw [hps] at hk; cases hk
      | some ps =>
        rw [hps] at hk
        cases hc : aggCells k with
        | none => replace hk : ocase (aggCells k) false (fun cs => partsOk ps cs) = true := hk; rw [hc] at hk; cases hk
        | some cs =>
          replace hk : ocase (aggCells k) false (fun cs => partsOk ps cs) = true := hk
          rw [hc] at hk
          obtain ⟨us, rfl, h1⟩ := aggCells_VR hc hu
          have := keyParts_check (w := w) em 9998 h1 hps hk
          unfold Instr.checkKey
          simp only [Sem.run_bind, run_und hd, Result.andThen_ok]
          rw [← Array.forIn_toList, this]; rfl
    · cases hk

/-! ### keys found -/
theorem findV_cons (eq : AV → AV → Option Bool) (k : AV) (e : AEnt) (r : List AEnt) (i : Nat) : findV eq k (e :: r) i = bnd (eq k e.key) fun b => cnd b (some (some (i, e))) (findV eq k r (i + 1)) := rfl
/-- What is found, and where. -/
theorem findV_spec {eq : AV → AV → Option Bool} {k : AV} : ∀ {es : List AEnt} {i : Nat} {j : Nat} {e : AEnt}, findV eq k es i = some (some (j, e)) → i ≤ j ∧ es[j - i]? = some e
  | [], _, _, _, h => by cases h
  | a :: r, i, j, e, h => by
    rw [findV_cons] at h
    obtain ⟨b, _, h⟩ := bnd_eq_some.mp h
    cases b with
    | true => cases h; exact ⟨Nat.le_refl _, by simp⟩
    | false =>
      obtain ⟨g1, g2⟩ := findV_spec (show findV eq k r (i + 1) = some (some (j, e)) from h)
      refine ⟨by omega, ?_⟩
      rw [show j - i = (j - (i + 1)) + 1 by omega]; simpa using g2

theorem ERL.get {es : List AEnt} {l : List MapEntry} (hr : ERL ρ es l) {j : Nat} {e : AEnt} (hj : es[j]? = some e) : ∃ m, l[j]? = some m ∧ VR ρ e.key m.key ∧ VR ρ e.val m.val ∧ m.born = e.born := by
  induction es generalizing l j with
  | nil => simp at hj
  | cons a r ih =>
    obtain ⟨m, l', rfl, h1, h2, h3, h4⟩ := hr
    cases j with
    | zero => simp at hj; subst hj; exact ⟨m, rfl, h1, h2, h3⟩
    | succ j => simpa using ih h4 (by simpa using hj)

theorem find_asking {kt : TypeId} {k : AV} {u : Value} (hu : VR ρ k u) : ∀ {es : List AEnt} {l : List MapEntry} {i : Nat} {r : Option (Nat × AEnt)}, ERL ρ es l → findV (eqF P 40 kt).run k es i = some r →
    ∃ r', (Instr.findAsking kt u l i).run P w = .ok r' w ∧ (r = none → r' = none) ∧ ∀ j e, r = some (j, e) → ∃ v, r' = some (j, v) ∧ VR ρ e.val v
  | [], l, i, r, hr, hf => by
    simp only [ERL] at hr; subst hr
    cases hf
    exact ⟨none, rfl, fun _ => rfl, fun _ _ h => by cases h⟩
  | a :: es, l, i, r, hr, hf => by
    obtain ⟨m, l', rfl, h1, h2, h3, h4⟩ := hr
    rw [findV_cons] at hf
    obtain ⟨b, hb, hf⟩ := bnd_eq_some.mp hf
    have hq : (Op.equal kt u m.key).run P w = .ok b w := eqF_run 40 Op.maxDepth kt k a.key u m.key b (by decide) hu h1 hb
    cases b with
    | true =>
      cases hf
      refine ⟨some (i, m.val), by simp [Instr.findAsking, hq], fun h => (by cases h), fun j e h => ?_⟩
      cases h; exact ⟨_, rfl, h2⟩
    | false =>
      obtain ⟨r', g1, g2⟩ := find_asking hu h4 (show findV (eqF P 40 kt).run k es (i + 1) = some r from hf)
      exact ⟨r', by simp [Instr.findAsking, hq, g1], g2⟩
theorem sameNow_of {kt : TypeId} {D : TypeDesc} {x y : AV} {u v : Value} {b : Bool} (hp : plainTy P kt = true) (hd : undOf P kt = some D) (hx : VR ρ x u) (hy : VR ρ y v) (hb : (eqF P 40 kt).run x y = some b) : Instr.sameNow D u v = some b := by
  unfold eqF at hb
  rw [hd] at hb
  rcases plainTy_und hp with ⟨k, e⟩ | e | e <;> (rw [hd] at e; cases e)
  · have hb : eqInt x y = some b := hb
    obtain ⟨p, hp, hb⟩ := bnd_eq_some.mp hb
    obtain ⟨q, hq, hb⟩ := bnd_eq_some.mp hb
    rw [cnd_eq] at hb
    split at hb
    · rename_i hk
      cases hb
      rw [intOf_VR hp hx, intOf_VR hq hy, kno_inj hk, eqI_eq]
      simp [Instr.sameNow]
    · cases hb
  · have hb : eqStr x y = some b := hb
    obtain ⟨p, hp, hb⟩ := bnd_eq_some.mp hb
    obtain ⟨q, hq, hb⟩ := bnd_eq_some.mp hb
    cases hb
    rw [strOf_VR hp hx, strOf_VR hq hy, same_eq]
    simp only [Instr.sameNow]
    congr 1
    rw [Bool.eq_iff_iff, bytes_beq]
    simp
  · have hb : eqBool x y = some b := hb
    obtain ⟨p, hp, hb⟩ := bnd_eq_some.mp hb
    obtain ⟨q, hq, hb⟩ := bnd_eq_some.mp hb
    cases hb
    rw [boolOf_VR hp hx, boolOf_VR hq hy]
    rfl
theorem find_now {kt : TypeId} {D : TypeDesc} {k : AV} {u : Value} (hp : plainTy P kt = true) (hd : undOf P kt = some D) (hu : VR ρ k u) : ∀ {es : List AEnt} {l : List MapEntry} {i : Nat} {r : Option (Nat × AEnt)}, ERL ρ es l → findV (eqF P 40 kt).run k es i = some r →
    ∃ r', Instr.findNow D u l i = some r' ∧ (r = none → r' = none) ∧ ∀ j e, r = some (j, e) → ∃ v, r' = some (j, v) ∧ VR ρ e.val v
  | [], l, i, r, hr, hf => by
    simp only [ERL] at hr; subst hr
    cases hf
    exact ⟨none, rfl, fun _ => rfl, fun _ _ h => by cases h⟩
  | a :: es, l, i, r, hr, hf => by
    obtain ⟨m, l', rfl, h1, h2, h3, h4⟩ := hr
    rw [findV_cons] at hf
    obtain ⟨b, hb, hf⟩ := bnd_eq_some.mp hf
    have hq := sameNow_of hp hd hu h1 hb
    cases b with
    | true =>
      cases hf
      refine ⟨some (i, m.val), by simp [Instr.findNow, hq], fun h => (by cases h), fun j e h => ?_⟩
      cases h; exact ⟨_, rfl, h2⟩
    | false =>
      obtain ⟨r', g1, g2⟩ := find_now hp hd hu h4 (show findV (eqF P 40 kt).run k es (i + 1) = some r from hf)
      exact ⟨r', by simp [Instr.findNow, hq, g1], g2⟩
theorem find_key {kt : TypeId} {k : AV} {u : Value} {es : List AEnt} {l : List MapEntry} {r : Option (Nat × AEnt)} (hk : (keyF P kt).ok k = true) (hu : VR ρ k u) (hr : ERL ρ es l) (hf : findV (keyF P kt).eq k es 0 = some r) :
    ∃ r', (Instr.findKey kt u l).run P w = .ok r' w ∧ (r = none → r' = none) ∧ ∀ j e, r = some (j, e) → ∃ v, r' = some (j, v) ∧ VR ρ e.val v := by
  suffices fin : ∀ D, undOf P kt = some D → plainTy P kt = false ∧ (∃ fs, D = .struct fs) ∧ (keyF P kt).eq = (eqF P 40 kt).run ∨ plainTy P kt = true ∧ (keyF P kt).eq = (eqF P 40 kt).run →
      ∃ r', (Instr.findKey kt u l).run P w = .ok r' w ∧ (r = none → r' = none) ∧ ∀ j e, r = some (j, e) → ∃ v, r' = some (j, v) ∧ VR ρ e.val v by
    unfold keyF at hk
    by_cases hp : plainTy P kt = true
    · have : ∃ D, undOf P kt = some D := by rcases plainTy_und hp with ⟨k, e⟩ | e | e <;> exact ⟨_, e⟩
      obtain ⟨D, hd⟩ := this
      exact fin D hd (.inr ⟨hp, by unfold keyF; rw [if_pos hp]⟩)
    · rw [if_neg hp] at hk
      split at hk
      · rename_i fs hd
        cases hps : keyParts P fs.toList with
        | none => rw [hps] at hk; cases hk
        | some ps => exact fin _ hd (.inl ⟨by simpa using hp, ⟨fs, rfl⟩, by unfold keyF; rw [if_neg hp, hd]; simp only [hps]⟩)
      · cases hk
  · intro D hd hc
    rcases hc with ⟨hp, ⟨fs, rfl⟩, he⟩ | ⟨hp, he⟩
    · rw [he] at hf
      cases es with
      | nil =>
        simp only [ERL] at hr; subst hr
        cases hf
        exact ⟨none, by simp [Instr.findKey, run_und hd, Instr.findNow], fun _ => rfl, fun _ _ h => by cases h⟩
      | cons a es =>
        obtain ⟨r', g1, g2⟩ := find_asking (P := P) (w := w) hu hr hf
        refine ⟨r', ?_, g2⟩
        obtain ⟨m, l', rfl, _⟩ := hr
        have : Instr.findNow (.struct fs) u (m :: l') 0 = none := by simp [Instr.findNow, Instr.sameNow]
        simp [Instr.findKey, run_und hd, this, g1]
    · rw [he] at hf
      obtain ⟨r', g1, g2⟩ := find_now hp hd hu hr hf
      exact ⟨r', by simp [Instr.findKey, run_und hd, g1], g2⟩

/-! ### entries turned -/
theorem addEnt_eq (es : List AEnt) (x : AEnt) : addEnt es x = es ++ [x] := by
  induction es with
  | nil => rfl
  | cons a r ih => show a :: addEnt r x = _; rw [ih]; rfl
theorem setEnt_eq : ∀ (es : List AEnt) (i : Nat) (x : AEnt), setEnt es i x = es.set i x
  | [], 0, _ => rfl
  | [], _ + 1, _ => rfl
  | _ :: _, 0, _ => rfl
  | a :: r, i + 1, x => by show a :: setEnt r i x = _; rw [setEnt_eq r i x]; rfl
theorem delEnt_eq : ∀ (es : List AEnt) (i : Nat), delEnt es i = es.eraseIdx i
  | [], 0 => rfl
  | [], _ + 1 => rfl
  | _ :: _, 0 => rfl
  | a :: r, i + 1 => by show a :: delEnt r i = _; rw [delEnt_eq r i]; rfl
theorem ERL.append {es es' : List AEnt} {l l' : List MapEntry} (h1 : ERL ρ es l) (h2 : ERL ρ es' l') : ERL ρ (es ++ es') (l ++ l') := by
  induction es generalizing l with
  | nil => simp only [ERL] at h1; subst h1; exact h2
  | cons a r ih =>
    obtain ⟨m, l1, rfl, g1, g2, g3, g4⟩ := h1
    exact ⟨m, l1 ++ l', rfl, g1, g2, g3, ih g4⟩
theorem ERL.one {x : AEnt} {m : MapEntry} (h1 : VR ρ x.key m.key) (h2 : VR ρ x.val m.val) (h3 : m.born = x.born) : ERL ρ [x] [m] := ⟨m, [], rfl, h1, h2, h3, rfl⟩
theorem ERL.set {es : List AEnt} {l : List MapEntry} (hr : ERL ρ es l) (i : Nat) {x : AEnt} {m : MapEntry} (h1 : VR ρ x.key m.key) (h2 : VR ρ x.val m.val) (h3 : m.born = x.born) : ERL ρ (es.set i x) (l.set i m) := by
  induction es generalizing l i with
  | nil => simp only [ERL] at hr; subst hr; rfl
  | cons a r ih =>
    obtain ⟨m', l', rfl, g1, g2, g3, g4⟩ := hr
    cases i with
    | zero => exact ⟨m, l', rfl, h1, h2, h3, g4⟩
    | succ i => exact ⟨m', l'.set i m, rfl, g1, g2, g3, ih g4 i⟩
theorem ERL.erase {es : List AEnt} {l : List MapEntry} (hr : ERL ρ es l) (i : Nat) : ERL ρ (es.eraseIdx i) (l.eraseIdx i) := by
  induction es generalizing l i with
  | nil => simp only [ERL] at hr; subst hr; rfl
  | cons a r ih =>
    obtain ⟨m', l', rfl, g1, g2, g3, g4⟩ := hr
    cases i with
    | zero => exact g4
    | succ i => exact ⟨m', l'.eraseIdx i, rfl, g1, g2, g3, ih g4 i⟩
theorem modify_set {es : Array MapEntry} {j : Nat} {m : MapEntry} (f : MapEntry → MapEntry) (hj : es.toList[j]? = some m) : (es.modify j f).toList = es.toList.set j (f m) := by
  rw [Array.toList_modify]
  obtain ⟨h1, h2⟩ := List.getElem?_eq_some_iff.mp hj
  rw [List.modify_eq_take_cons_drop h1, h2, List.set_eq_take_append_cons_drop, if_pos h1]

/-- A map that stands, turned. -/
theorem set_map (H : HRel ρ h w) {r : Nat} {x : List AEnt × Nat} (hm : h.get r = some (.map x.1 x.2)) {c : CLoc} (hc : ρ r = some c) {es : List AEnt} {k : Nat} {en : Array MapEntry} (he : ERL ρ es en.toList) :
    (setObj c.blk (.map en k)).run P w = .ok () { w with heap := w.heap.setIfInBounds c.blk (.map en k) } ∧ Trans ρ h w ρ (h.set r (.map es k)) { w with heap := w.heap.setIfInBounds c.blk (.map en k) } := by
  obtain ⟨c', y, h1, h2, h3⟩ := H.objs _ _ hm
  rw [hc] at h1; cases h1
  obtain ⟨en0, rfl, _⟩ := h3
  obtain ⟨g1, g2⟩ := heap_set (o' := .map en k) h2
  exact ⟨Go.MapKept.run_setObj_map _ h2, Trans.ofSet H hm rfl hc g1 ⟨en, rfl, he⟩ (by simp) (fun b hb => g2 b hb) rfl rfl⟩
theorem map_there (H : HRel ρ h w) {r : Nat} {x : List AEnt × Nat} (hm : mapAt h r = some x) : ∃ c en, ρ r = some c ∧ w.heap[c.blk]? = some (.map en x.2) ∧ ERL ρ x.1 en.toList ∧ h.get r = some (.map x.1 x.2) := by
  have hg := mapAt_spec hm
  obtain ⟨c, y, h1, h2, en, rfl, h3⟩ := H.objs _ _ hg
  exact ⟨c, en, h1, h2, h3, hg⟩

/-! ### the operations -/
theorem makeMap_run (H : HRel ρ h w) (t : TypeId) : ∃ ρ' w' v', (Instr.makeMap t none).run P w = .ok v' w' ∧ VR ρ' (.map (some h.next)) v' ∧ Trans ρ h w ρ' (h.push (.map [] 0)) w' := by
  refine ⟨_, { w with heap := w.heap.push (.map #[] 0) }, .map (some w.heap.size), ?_, ?_, Trans.ofPush (k := 0) H rfl ⟨#[], rfl, rfl⟩ rfl rfl⟩
  · simp [Instr.makeMap]
  · simp only [VR]; exact ⟨_, upd_self _ _ _, rfl⟩

theorem mapRef_VR {m : AV} {r : Option Nat} {u : Value} (hm : mapRef m = some r) (hu : VR ρ m u) : (r = none ∧ u = .map none) ∨ ∃ a c, r = some a ∧ ρ a = some c ∧ u = .map (some c.blk) := by
  rw [mapRef_eq hm] at hu
  cases r with
  | none => simp only [VR] at hu; exact .inl ⟨rfl, hu⟩
  | some a => simp only [VR] at hu; obtain ⟨c, h1, h2⟩ := hu; exact .inr ⟨a, c, rfl, h1, h2⟩

theorem lookup_run (H : HRel ρ h w) {t : TypeId} {ok : Bool} {m k v : AV} {u u' : Value} (hm : VR ρ m u) (hk : VR ρ k u') (hr : (lookupF P t ok).run h m k = some v) :
    ∃ v', (Instr.lookup t u u' ok).run P w = .ok v' w ∧ VR ρ v v' := by
  unfold lookupF at hr
  cases hd : undOf P t with
  | none => rw [hd] at hr; cases hr
  | some D =>
  rw [hd] at hr
  cases D with
  | map kt et =>
    cases hz : zeroOf P et with
    | none => simp only [hz] at hr; cases hr
    | some z =>
    simp only [hz] at hr
    rw [cnd_eq] at hr
    split at hr
    · rename_i hok
      obtain ⟨es, hes, hr⟩ := bnd_eq_some.mp hr
      obtain ⟨r, hf, hr⟩ := bnd_eq_some.mp hr
      cases hr
      obtain ⟨q, hq, hes⟩ := bnd_eq_some.mp hes
      obtain ⟨zu, z1, z2⟩ := zeroOf_run (w := w) ρ hz
      have fin : ∀ l : Array MapEntry, ERL ρ es l.toList → ∃ v', (do
          Instr.checkKey l.isEmpty 10000 kt u'
          let (v, ok') ← match ← Instr.findKey kt u' l.toList with
            | some (_, v) => pure (v, true)
            | none => pure (← zeroValue et, false)
          pure (if ok then Value.tuple #[v, .bool ok'] else v) : Sem Value).run P w = .ok v' w ∧ VR ρ (ocase r (okV ok z false) fun e => okV ok e.2.val true) v' := by
        intro l hl
        obtain ⟨r', g1, g2, g3⟩ := find_key (P := P) (w := w) hok hk hl hf
        have mk : ∀ (a : AV) (b : Value) (tt : Bool), VR ρ a b → VR ρ (okV ok a tt) (if ok then Value.tuple #[b, .bool tt] else b) := by
          intro a b tt hab
          unfold okV
          cases ok with
          | true => simp only [cnd_true, if_true, VR]; exact ⟨_, rfl, VRL.cons hab (VRL.cons (by simp only [VR]) VRL.nil)⟩
          | false => exact hab
        cases r with
        | none =>
          cases g2 rfl
          refine ⟨_, ?_, mk z zu false z2⟩
          simp [keyF_check hok hk, g1, z1]
        | some e =>
          obtain ⟨v, rfl, hv⟩ := g3 e.1 e.2 rfl
          refine ⟨_, ?_, mk e.2.val v true hv⟩
          simp [keyF_check hok hk, g1]
      rcases mapRef_VR hq hm with ⟨rfl, rfl⟩ | ⟨a, c, rfl, hc, rfl⟩
      · cases hes
        obtain ⟨v', g1, g2⟩ := fin #[] rfl
        refine ⟨v', ?_, g2⟩
        rw [← g1]
        unfold Instr.lookup
        simp only [Sem.run_bind, run_und hd, Result.andThen_ok, Sem.run_pure]
        rfl
      · obtain ⟨x, hx, hes⟩ := bnd_eq_some.mp hes
        cases hes
        obtain ⟨c', en, h1, h2, h3, _⟩ := map_there H hx
        rw [hc] at h1; cases h1
        obtain ⟨v', g1, g2⟩ := fin en h3
        refine ⟨v', ?_, g2⟩
        rw [← g1]
        unfold Instr.lookup
        simp [run_und hd, Go.MapKept.run_getObj_map h2]
        rfl
    · cases hr
  | _ => cases hr

theorem mapUpdate_run (H : HRel ρ h w) {t : TypeId} {m k x : AV} {u u' u'' : Value} {h' : AHeap} (hm : VR ρ m u) (hk : VR ρ k u') (hx : VR ρ x u'') (hr : (mapUpdateF P t).run h m k x = some h') :
    ∃ w', (Instr.mapUpdate t u u' u'').run P w = .ok () w' ∧ Trans ρ h w ρ h' w' := by
  unfold mapUpdateF at hr
  cases hd : undOf P t with
  | none => rw [hd] at hr; cases hr
  | some D =>
  rw [hd] at hr
  cases D with
  | map kt et =>
    simp only [cnd_eq] at hr
    split at hr
    · rename_i hok
      obtain ⟨q, hq, hr⟩ := bnd_eq_some.mp hr
      obtain ⟨a, ha, hr'⟩ := bnd_eq_some.mp hr
      clear hr
      subst ha
      have hr := hr'
      clear hr'
      obtain ⟨y, hy, hr⟩ := bnd_eq_some.mp hr
      obtain ⟨f, hf, hr⟩ := bnd_eq_some.mp hr
      rcases mapRef_VR hq hm with ⟨e, _⟩ | ⟨_, c, e, hc, rfl⟩
      · cases e
      cases e
      obtain ⟨c', en, h1, h2, h3, h4⟩ := map_there H hy
      rw [hc] at h1; cases h1
      obtain ⟨r', g1, g2, g3⟩ := find_key (P := P) (w := w) hok hk h3 hf
      cases f with
      | none =>
        cases g2 rfl
        cases hr
        have he : ERL ρ (addEnt y.1 ⟨k, x, y.2⟩) (en.push ⟨u', u'', y.2⟩).toList := by
          rw [addEnt_eq, Array.toList_push]
          exact ERL.append h3 (ERL.one hk hx rfl)
        obtain ⟨s1, s2⟩ := set_map (P := P) H h4 hc (k := y.2 + 1) he
        refine ⟨_, ?_, s2⟩
        unfold Instr.mapUpdate
        simp [run_und hd, Go.MapKept.run_getObj_map h2, keyF_check hok hk, g1, s1]
      | some e =>
        obtain ⟨v, rfl, hv⟩ := g3 e.1 e.2 rfl
        obtain ⟨_, hj⟩ := findV_spec (show findV (keyF P kt).eq k y.1 0 = some (some (e.1, e.2)) from hf)
        rw [Nat.sub_zero] at hj
        replace hr : cnd (sameKey e.2.key k) (some (h.set a (.map (setEnt y.1 e.1 ⟨k, x, e.2.born⟩) y.2))) none = some h' := by rw [cnd_eq]; exact hr
        rw [cnd_eq] at hr
        split at hr
        · rename_i hsk
          cases hr
          obtain ⟨m0, j1, j2, j3, j4⟩ := h3.get hj
          have he : ERL ρ (setEnt y.1 e.1 ⟨k, x, e.2.born⟩) (en.modify e.1 fun z => { z with key := u', val := u'' }).toList := by
            rw [setEnt_eq, modify_set _ j1]
            exact h3.set e.1 hk hx j4
          obtain ⟨s1, s2⟩ := set_map (P := P) H h4 hc (k := y.2) he
          refine ⟨_, ?_, s2⟩
          have hst := sameKey_stays (P := P) (w := w) hsk j2 hk
          rw [Array.getElem?_toList] at j1
          unfold Instr.mapUpdate
          simp [run_und hd, Go.MapKept.run_getObj_map h2, keyF_check hok hk, g1, j1, hst, s1]
        · cases hr
    · cases hr
  | _ => cases hr

theorem mapEntry_run (H : HRel ρ h w) {t : TypeId} {m k v : AV} {u u' : Value} {h' : AHeap} (hm : VR ρ m u) (hk : VR ρ k u') (hr : (mapEntryF P t).run h m k = some (v, h')) :
    ∃ w' v', (Instr.mapEntry t u u').run P w = .ok v' w' ∧ VR ρ v v' ∧ Trans ρ h w ρ h' w' := by
  unfold mapEntryF at hr
  cases hd : undOf P t with
  | none => rw [hd] at hr; cases hr
  | some D =>
  rw [hd] at hr
  cases D with
  | map kt et =>
    cases hz : zeroOf P et with
    | none => simp only [hz] at hr; cases hr
    | some z =>
    simp only [hz, cnd_eq] at hr
    split at hr
    · rename_i hok
      obtain ⟨q, hq, hr⟩ := bnd_eq_some.mp hr
      obtain ⟨a, ha, hr'⟩ := bnd_eq_some.mp hr
      clear hr
      subst ha
      have hr := hr'
      clear hr'
      obtain ⟨y, hy, hr⟩ := bnd_eq_some.mp hr
      obtain ⟨f, hf, hr⟩ := bnd_eq_some.mp hr
      rcases mapRef_VR hq hm with ⟨e, _⟩ | ⟨_, c, e, hc, rfl⟩
      · cases e
      cases e
      obtain ⟨c', en, h1, h2, h3, h4⟩ := map_there H hy
      rw [hc] at h1; cases h1
      obtain ⟨zu, z1, z2⟩ := zeroOf_run (w := w) ρ hz
      obtain ⟨r', g1, g2, g3⟩ := find_key (P := P) (w := w) hok hk h3 hf
      cases f with
      | none =>
        cases g2 rfl
        cases hr
        have he : ERL ρ (addEnt y.1 ⟨k, z, y.2⟩) (en.push ⟨u', zu, y.2⟩).toList := by
          rw [addEnt_eq, Array.toList_push]
          exact ERL.append h3 (ERL.one hk z2 rfl)
        obtain ⟨s1, s2⟩ := set_map (P := P) H h4 hc (k := y.2 + 1) he
        refine ⟨_, .tuple #[zu, goInt y.2], ?_, ?_, s2⟩
        · unfold Instr.mapEntry
          simp [run_und hd, Go.MapKept.run_getObj_map h2, keyF_check hok hk, g1, z1, s1]
        · simp only [VR]; exact ⟨_, rfl, VRL.cons z2 (VRL.cons (by simp only [VR, goInt]; rfl) VRL.nil)⟩
      | some e =>
        obtain ⟨v1, rfl, hv⟩ := g3 e.1 e.2 rfl
        obtain ⟨_, hj⟩ := findV_spec (show findV (keyF P kt).eq k y.1 0 = some (some (e.1, e.2)) from hf)
        rw [Nat.sub_zero] at hj
        replace hr : cnd (sameKey e.2.key k) (some (AV.tuple [e.2.val, .int .i64 (.ofNat e.2.born)], h.set a (.map (setEnt y.1 e.1 ⟨k, e.2.val, e.2.born⟩) y.2))) none = some (v, h') := by rw [cnd_eq]; exact hr
        rw [cnd_eq] at hr
        split at hr
        · rename_i hsk
          cases hr
          obtain ⟨m0, j1, j2, j3, j4⟩ := h3.get hj
          have he : ERL ρ (setEnt y.1 e.1 ⟨k, e.2.val, e.2.born⟩) (en.modify e.1 fun z => { z with key := u' }).toList := by
            rw [setEnt_eq, modify_set _ j1]
            exact h3.set e.1 hk j3 j4
          obtain ⟨s1, s2⟩ := set_map (P := P) H h4 hc (k := y.2) he
          have hst := sameKey_stays (P := P) (w := w) hsk j2 hk
          rw [Array.getElem?_toList] at j1
          refine ⟨_, .tuple #[v1, goInt m0.born], ?_, ?_, s2⟩
          · unfold Instr.mapEntry
            simp [run_und hd, Go.MapKept.run_getObj_map h2, keyF_check hok hk, g1, j1, hst, s1]
          · simp only [VR]; exact ⟨_, rfl, VRL.cons hv (VRL.cons (by rw [j4]; simp only [VR, goInt]; rfl) VRL.nil)⟩
        · cases hr
    · cases hr
  | _ => cases hr

theorem bornAt_cons (b : Nat) (e : AEnt) (r : List AEnt) (i : Nat) : bornAt b (e :: r) i = cnd (Nat.beq e.born b) (some (i, e)) (bornAt b r (i + 1)) := rfl
theorem bornAt_spec (b : Nat) : ∀ {es : List AEnt} {l : List MapEntry} {i : Nat} {r : Nat × AEnt}, ERL ρ es l → bornAt b es i = some r → i ≤ r.1 ∧ es[r.1 - i]? = some r.2 ∧ l.findIdx? (fun e => (e.born : Int) == (b : Int)) = some (r.1 - i)
  | [], _, _, _, _, h => by cases h
  | a :: es, l, i, r, hr, h => by
    obtain ⟨m, l', rfl, h1, h2, h3, h4⟩ := hr
    rw [bornAt_cons, cnd_eq] at h
    split at h
    · rename_i e
      cases h
      rw [beqN] at e
      refine ⟨Nat.le_refl _, by simp, ?_⟩
      rw [List.findIdx?_cons, h3, e]; simp
    · rename_i e
      obtain ⟨g1, g2, g3⟩ := bornAt_spec b h4 h
      refine ⟨by omega, ?_, ?_⟩
      · rw [show r.1 - i = (r.1 - (i + 1)) + 1 by omega]; simpa using g2
      · rw [List.findIdx?_cons, h3]
        have : ((a.born : Int) == (b : Int)) = false := by
          rw [beqN] at e
          simp; omega
        rw [this, g3]
        simp; omega
theorem entryStore_run (H : HRel ρ h w) {t : TypeId} {m s x : AV} {u u' u'' : Value} {h' : AHeap} (hm : VR ρ m u) (hs : VR ρ s u') (hx : VR ρ x u'') (hr : entryStoreV h m s x = some h') :
    ∃ w', (Instr.entryStore t u u' u'').run P w = .ok () w' ∧ Trans ρ h w ρ h' w' := by
  obtain ⟨q, hq, hr⟩ := bnd_eq_some.mp hr
  obtain ⟨a, ha, hr'⟩ := bnd_eq_some.mp hr
  clear hr
  subst ha
  have hr := hr'
  clear hr'
  obtain ⟨y, hy, hr⟩ := bnd_eq_some.mp hr
  obtain ⟨i, hi, hr⟩ := bnd_eq_some.mp hr
  obtain ⟨b, hb, hr⟩ := bnd_eq_some.mp hr
  obtain ⟨e, he, hr⟩ := bnd_eq_some.mp hr
  cases hr
  rcases mapRef_VR hq hm with ⟨e, _⟩ | ⟨_, c, e, hc, rfl⟩
  · cases e
  cases e
  obtain ⟨c', en, h1, h2, h3, h4⟩ := map_there H hy
  rw [hc] at h1; cases h1
  obtain ⟨_, j0, j9⟩ := bornAt_spec b h3 he
  rw [Nat.sub_zero] at j0 j9
  obtain ⟨m0, j1, j2, j3, j4⟩ := h3.get j0
  have hE : ERL ρ (setEnt y.1 e.1 ⟨e.2.key, x, e.2.born⟩) (en.modify e.1 fun z => { z with val := u'' }).toList := by
    rw [setEnt_eq, modify_set _ j1]
    exact h3.set e.1 j2 hx j4
  obtain ⟨s1, s2⟩ := set_map (P := P) H h4 hc (k := y.2) hE
  refine ⟨_, ?_, s2⟩
  have hfi : en.findIdx? (fun e => (e.born : Int) == (b : Int)) = some e.1 := by rcases en with ⟨l⟩; simpa using j9
  rw [intOf_VR hi hs, natI_eq hb]
  unfold Instr.entryStore
  simp [Go.MapKept.run_getObj_map h2, asInt, asIntOf, hfi, s1]

theorem delete_run (H : HRel ρ h w) {tys : Array TypeId} {ty t : TypeId} {m k v : AV} {u u' : Value} {h' : AHeap} (ht : tys[0]? = some t) (hm : VR ρ m u) (hk : VR ρ k u') (hr : (deleteF P t).run h m k = some (v, h')) :
    ∃ w' v', (Builtin.delete_ tys ty #[u, u']).run P w = .ok v' w' ∧ VR ρ v v' ∧ Trans ρ h w ρ h' w' := by
  unfold deleteF at hr
  cases hd : undOf P t with
  | none => rw [hd] at hr; cases hr
  | some D =>
  rw [hd] at hr
  cases D with
  | map kt et =>
    simp only [cnd_eq] at hr
    split at hr
    · rename_i hok
      obtain ⟨q, hq, hr⟩ := bnd_eq_some.mp hr
      have tup : VR ρ (.tuple []) (.tuple #[]) := by simp only [VR]; exact ⟨_, rfl, VRL.nil⟩
      rcases mapRef_VR hq hm with ⟨rfl, rfl⟩ | ⟨a, c, rfl, hc, rfl⟩
      · cases hr
        exact ⟨w, _, by unfold Builtin.delete_; simp [ht, run_und hd, keyF_check hok hk], tup, .refl H⟩
      · obtain ⟨y, hy, hr⟩ := bnd_eq_some.mp hr
        obtain ⟨f, hf, hr⟩ := bnd_eq_some.mp hr
        obtain ⟨c', en, h1, h2, h3, h4⟩ := map_there H hy
        rw [hc] at h1; cases h1
        obtain ⟨r', g1, g2, g3⟩ := find_key (P := P) (w := w) hok hk h3 hf
        cases f with
        | none =>
          cases g2 rfl
          cases hr
          refine ⟨w, _, ?_, tup, .refl H⟩
          have hsame : w.heap.setIfInBounds c.blk (.map en y.2) = w.heap := by
            obtain ⟨q1, q2⟩ := Array.getElem?_eq_some_iff.mp h2
            apply Array.ext (by simp)
            intro i hi hi'
            rw [Array.getElem_setIfInBounds]
            split
            · rename_i e; subst e; exact q2.symm
            · rfl
          unfold Builtin.delete_
          simp [ht, run_und hd, Go.MapKept.run_getObj_map h2, keyF_check hok hk, g1, Go.MapKept.run_setObj_map _ h2, hsame]
        | some e =>
          obtain ⟨v1, rfl, hv⟩ := g3 e.1 e.2 rfl
          cases hr
          have he : ERL ρ (delEnt y.1 e.1) (en.eraseIdxIfInBounds e.1).toList := by
            rw [delEnt_eq]
            have : (en.eraseIdxIfInBounds e.1).toList = en.toList.eraseIdx e.1 := by
              simp
            rw [this]
            exact h3.erase e.1
          obtain ⟨s1, s2⟩ := set_map (P := P) H h4 hc (k := y.2) he
          refine ⟨_, _, ?_, tup, s2⟩
          unfold Builtin.delete_
          simp [ht, run_und hd, Go.MapKept.run_getObj_map h2, keyF_check hok hk, g1, s1]
    · cases hr
  | _ => cases hr

end
end Go.Proofs.YtonojkcnencodaaDoor.BH
