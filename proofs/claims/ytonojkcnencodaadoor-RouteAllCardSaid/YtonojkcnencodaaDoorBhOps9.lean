/-
  BH: copy, clear, bytes to a string, lengths, min and max, small ones.
-/
import Derived.Test.YtonojkcnencodaaDoorBhOps8
namespace Go.Proofs.YtonojkcnencodaaDoor.BH

section
variable {P : Program} {ρ : Rho} {h : AHeap} {w : World} {argTypes : Array TypeId} {ty : TypeId}

theorem firstCells_zero {size n : Nat} {x : AV} {u : Value} (hx : VR ρ x u) (hl : lenV x = some n) : (Builtin.firstCells size 0 u).run P w = .ok #[] w := by
  cases x with
  | slice a k c =>
    cases a with
    | none => simp only [VR] at hx; obtain ⟨_, _, rfl⟩ := hx; rfl
    | some a => simp only [VR] at hx; obtain ⟨c', ad, _, rfl, _⟩ := hx; simp only [Builtin.firstCells, Nat.zero_mul]; rfl
  | str s =>
    simp only [VR] at hx; subst hx
    simp only [Builtin.firstCells, Sem.run_pure]
    rw [ByteArray.extract_mk]
    simp
  | lst cs k f pf =>
    simp only [VR] at hx
    obtain ⟨ao, cap, rfl, _⟩ := hx
    cases ao with
    | none => rfl
    | some a => simp only [Builtin.firstCells, Nat.zero_mul]; rfl
  | _ => simp [lenV] at hl

theorem storeCells_nil (a : Addr) : (storeCells a []).run P w = .ok () w := by unfold storeCells; rfl

theorem copyF_run (H : HRel ρ h w) {tys : List TypeId} (htys : argTypes.toList = tys) {d x v : AV} {u u' : Value} {h' : AHeap} (hd : VR ρ d u) (hx : VR ρ x u') (hr : (copyF P tys).run h d x = some (v, h')) :
    ∃ ρ' w' v', (Builtin.copy_ argTypes ty #[u, u']).run P w = .ok v' w' ∧ VR ρ' v v' ∧ Trans ρ h w ρ' h' w' := by
  unfold copyF at hr
  cases tys with
  | nil => cases hr
  | cons dT rest =>
  have h0 : argTypes[0]? = some dT := by rw [← Array.getElem?_toList, htys]; rfl
  simp only at hr
  cases hu : undOf P dT with
  | none => rw [hu] at hr; cases hr
  | some D =>
  rw [hu] at hr
  cases D with
  | slice e =>
    cases hs : szOf P e with
    | none => simp only [hs] at hr; cases hr
    | some size =>
    simp only [hs] at hr
    replace hr : copyV size h d x = some (v, h') := hr
    unfold copyV at hr
    replace hr := bnd_eq_some.mp hr
    obtain ⟨q, hq, hr⟩ := hr
    replace hr := bnd_eq_some.mp hr
    obtain ⟨n, hn, hr⟩ := hr
    have hqe := sliceOf_eq hq
    obtain ⟨a, len, c⟩ := q
    simp only at hqe
    subst hqe
    replace hr : cnd (Nat.beq (Nat.min n len) 0) (some (AV.int .i64 0, h)) (bnd a fun a => bnd (firstV h size (Nat.min n len) x) fun cs => bnd (writeRow h a cs) fun h' => some (.int .i64 (.ofNat (Nat.min n len)), h')) = some (v, h') := hr
    rw [cnd_eq] at hr
    have hlen := lenV_run (P := P) (w := w) hx hn
    split at hr
    · rename_i h00
      rw [beqN] at h00
      cases hr
      refine ⟨ρ, w, .int .i64 0, ?_, by simp only [VR], .refl H⟩
      have hf := firstCells_zero (P := P) (w := w) (size := size) hx hn
      unfold Builtin.copy_
      cases a with
      | none =>
        simp only [VR] at hd
        obtain ⟨rfl, rfl, rfl⟩ := hd
        simp only [List.getElem?_toArray, List.getElem?_cons_zero, List.getElem?_cons_succ, h0, Sem.run_bind, run_und hu, Result.andThen_ok, run_sizeOf' hs, hlen, h00, hf]
        rfl
      | some a =>
        simp only [VR] at hd
        obtain ⟨c', ad, hc, rfl, _, _⟩ := hd
        simp only [List.getElem?_toArray, List.getElem?_cons_zero, List.getElem?_cons_succ, h0, Sem.run_bind, run_und hu, Result.andThen_ok, run_sizeOf' hs, hlen, h00, hf, storeCells_nil]
        rfl
    · rename_i h00
      rw [beqN] at h00
      replace hr := bnd_eq_some.mp hr
      obtain ⟨a', ha, hr⟩ := hr
      subst ha
      replace hr := bnd_eq_some.mp hr
      obtain ⟨cs, hcs, hr⟩ := hr
      replace hr := bnd_eq_some.mp hr
      obtain ⟨h2, hw, hr⟩ := hr
      cases hr
      simp only [VR] at hd
      obtain ⟨c', ad, hc, rfl, hle, had⟩ := hd
      obtain ⟨us, f1, f2, f3, f4⟩ := firstCells_run (P := P) H hx hn (Nat.min_le_left n len) hcs (w₁ := w) rfl
      obtain ⟨c2, w', hc2, s1, s2⟩ := writeRow_run (P := P) H hw f2
      rw [hc] at hc2; cases hc2
      have hpos : ACap.val c' c ≠ 0 := by
        intro hh
        have : Nat.min n len ≤ len := Nat.min_le_right _ _
        omega
      rw [← had hpos] at s1
      refine ⟨ρ, w', .int .i64 (Nat.min n len : Nat), ?_, by simp only [VR]; rfl, s2⟩
      unfold Builtin.copy_
      simp only [List.getElem?_toArray, List.getElem?_cons_zero, List.getElem?_cons_succ, h0, Sem.run_bind, run_und hu, Result.andThen_ok, run_sizeOf' hs, hlen, f1, s1]
      rfl
  | _ => cases hr

theorem clearF_run (H : HRel ρ h w) {tys : List TypeId} (htys : argTypes.toList = tys) {x v : AV} {u : Value} {h' : AHeap} (hx : VR ρ x u) (hr : (clearF P tys).run h x = some (v, h')) :
    ∃ ρ' w' v', (Builtin.clear_ argTypes ty #[u]).run P w = .ok v' w' ∧ VR ρ' v v' ∧ Trans ρ h w ρ' h' w' := by
  unfold clearF at hr
  cases tys with
  | nil => cases hr
  | cons dT rest =>
  have h0 : argTypes[0]? = some dT := by rw [← Array.getElem?_toList, htys]; rfl
  simp only at hr
  cases hu : undOf P dT with
  | none => rw [hu] at hr; cases hr
  | some D =>
  rw [hu] at hr
  cases D with
  | slice e =>
    cases hz : zeroCells P e with
    | none => simp only [hz] at hr; cases hr
    | some z =>
    simp only [hz] at hr
    replace hr : clearV z h x = some (v, h') := hr
    unfold clearV at hr
    replace hr := bnd_eq_some.mp hr
    obtain ⟨q, hq, hr⟩ := hr
    have hqe := sliceOf_eq hq
    obtain ⟨a, len, c⟩ := q
    simp only at hqe
    subst hqe
    rw [cnd_eq] at hr
    obtain ⟨zv, z1, z2, z3, z4⟩ := zeroCells_run (w := w) ρ hz
    split at hr
    · rename_i h00
      rw [beqN] at h00
      have h00 : len = 0 := h00
      subst h00
      cases hr
      refine ⟨ρ, w, .tuple #[], ?_, VR.undef, .refl H⟩
      unfold Builtin.clear_
      cases a with
      | none =>
        simp only [VR] at hx
        obtain ⟨_, _, rfl⟩ := hx
        simp only [List.getElem?_toArray, List.getElem?_cons_zero, h0, Sem.run_bind, run_und hu, Result.andThen_ok, Sem.run_pure]
      | some a =>
        simp only [VR] at hx
        obtain ⟨c', ad, hc, rfl, _, _⟩ := hx
        simp only [List.getElem?_toArray, List.getElem?_cons_zero, h0, Sem.run_bind, run_und hu, Result.andThen_ok, Sem.run_pure]
    · rename_i h00
      rw [beqN] at h00
      have h00 : ¬ len = 0 := h00
      obtain ⟨a', ha, hr⟩ := bnd_eq_some.mp hr
      have ha : a = some a' := ha
      subst ha
      obtain ⟨h2, hw, hr⟩ := bnd_eq_some.mp hr
      cases hr
      simp only [VR] at hx
      obtain ⟨c', ad, hc, rfl, hle, had⟩ := hx
      have hzl : zv.cells.size = z.length := by rw [← Array.length_toList, z2.length]
      have hvr : VRL ρ (repl len z) (Builtin.zeroCells zv.cells len).toList := by
        rw [zeroCells_range, hzl]
        have := repl_range z2 len
        rw [hzl] at this; exact this
      obtain ⟨c2, w', hc2, s1, s2⟩ := writeRow_run (P := P) H hw hvr
      rw [hc] at hc2; cases hc2
      rw [← had (by omega)] at s1
      refine ⟨ρ, w', .tuple #[], ?_, VR.undef, s2⟩
      unfold Builtin.clear_
      obtain ⟨m, rfl⟩ : ∃ m, len = m + 1 := ⟨len - 1, by omega⟩
      simp only [List.getElem?_toArray, List.getElem?_cons_zero, h0, Sem.run_bind, run_und hu, Result.andThen_ok, z1, s1, Sem.run_pure]
  | _ => cases hr

/-! ### lengths -/
theorem mapRef_eq {x : AV} {m : Option Nat} (hm : mapRef x = some m) : x = .map m := by
  cases x <;> simp [mapRef] at hm
  rw [hm]
theorem chanRef_eq {x : AV} {m : Option Nat} (hm : chanRef x = some m) : x = .chan m := by
  cases x <;> simp [chanRef] at hm
  rw [hm]
theorem lenF_run (H : HRel ρ h w) {tys : List TypeId} (htys : argTypes.toList = tys) {x v : AV} {u : Value} (hx : VR ρ x u) (hr : (lenF P tys).run h x = some v) :
    ∃ v', (Builtin.len_ argTypes ty #[u]).run P w = .ok v' w ∧ VR ρ v v' := by
  unfold lenF at hr
  cases tys with
  | nil => cases hr
  | cons dT rest =>
  have h0 : argTypes[0]? = some dT := by rw [← Array.getElem?_toList, htys]; rfl
  simp only at hr
  cases hu : undOf P dT with
  | none => rw [hu] at hr; cases hr
  | some D =>
  rw [hu] at hr
  cases D with
  | string =>
    obtain ⟨s, hs, hr⟩ := bnd_eq_some.mp hr
    cases hr
    rw [strOf_VR hs hx]
    refine ⟨goInt (s.length : Nat), ?_, by simp only [VR, lenA_eq, goInt]; rfl⟩
    unfold Builtin.len_
    simp only [List.getElem?_toArray, List.getElem?_cons_zero, h0, Sem.run_bind, run_und hu, Result.andThen_ok, Sem.run_pure]
    rfl
  | slice e =>
    obtain ⟨len, hq, hr⟩ := bnd_eq_some.mp hr
    cases hr
    have hx' : ∃ ao cap, u = .slice ao len cap := by
      cases x with
      | slice a k c =>
        cases hq
        cases a with
        | none => simp only [VR] at hx; obtain ⟨rfl, _, rfl⟩ := hx; exact ⟨_, _, rfl⟩
        | some a => simp only [VR] at hx; obtain ⟨c', ad, _, rfl, _⟩ := hx; exact ⟨_, _, rfl⟩
      | lst cs k f pf => cases hq; simp only [VR] at hx; obtain ⟨ao, cap, rfl, _⟩ := hx; exact ⟨_, _, rfl⟩
      | _ => simp [sliceLen] at hq
    obtain ⟨ao, cap, rfl⟩ := hx'
    · refine ⟨goInt (len : Nat), ?_, by simp only [VR, goInt]; rfl⟩
      unfold Builtin.len_
      simp only [List.getElem?_toArray, List.getElem?_cons_zero, h0, Sem.run_bind, run_und hu, Result.andThen_ok, Sem.run_pure]
  | array n e =>
    cases hr
    refine ⟨goInt (n : Nat), ?_, by simp only [VR, goInt]; rfl⟩
    unfold Builtin.len_
    cases u <;> simp only [List.getElem?_toArray, List.getElem?_cons_zero, h0, Sem.run_bind, run_und hu, Result.andThen_ok, Sem.run_pure]
  | map k e =>
    replace hr := bnd_eq_some.mp hr
    obtain ⟨m, hm, hr⟩ := hr
    have hxe := mapRef_eq hm
    subst hxe
    cases m with
    | none =>
      cases hr
      simp only [VR] at hx; subst hx
      refine ⟨goInt 0, ?_, by simp only [VR, goInt]⟩
      unfold Builtin.len_
      simp only [List.getElem?_toArray, List.getElem?_cons_zero, h0, Sem.run_bind, run_und hu, Result.andThen_ok, Sem.run_pure]
    | some m =>
      obtain ⟨p, hp, hr⟩ := bnd_eq_some.mp hr
      cases hr
      simp only [VR] at hx
      obtain ⟨c, hc, rfl⟩ := hx
      unfold mapAt at hp
      split at hp
      · rename_i es ck hg
        cases hp
        obtain ⟨c', y, hc', hy, hrel⟩ := H.objs _ _ hg
        rw [hc] at hc'; cases hc'
        obtain ⟨en, rfl, hE⟩ := hrel
        have hlen : en.size = es.length := by
          rw [← Array.length_toList]
          clear hy hg hr
          generalize en.toList = l at hE
          induction es generalizing l with
          | nil => simp only [ERL] at hE; subst hE; rfl
          | cons a r ih => simp only [ERL] at hE; obtain ⟨e, l', rfl, _, _, _, h5⟩ := hE; simp [ih _ h5]
        refine ⟨goInt (es.length : Nat), ?_, by simp only [VR, goInt, lenA_eq]; rfl⟩
        unfold Builtin.len_
        simp only [List.getElem?_toArray, List.getElem?_cons_zero, h0, Sem.run_bind, run_und hu, Result.andThen_ok]
        have : (getObj c.blk).run P w = .ok (.map en ck) w := by unfold getObj; simp [Sem.run, hy]
        simp only [this, Result.andThen_ok, hlen]
        rfl
      · cases hp
  | chan d e =>
    replace hr := bnd_eq_some.mp hr
    obtain ⟨m, hm, hr⟩ := hr
    have hxe := chanRef_eq hm
    subst hxe
    cases m with
    | none =>
      cases hr
      simp only [VR] at hx; subst hx
      refine ⟨goInt 0, ?_, by simp only [VR, goInt]⟩
      unfold Builtin.len_
      simp only [List.getElem?_toArray, List.getElem?_cons_zero, h0, Sem.run_bind, run_und hu, Result.andThen_ok, Sem.run_pure]
    | some m =>
      obtain ⟨p, hp, hr⟩ := bnd_eq_some.mp hr
      cases hr
      simp only [VR] at hx
      obtain ⟨c, hc, rfl⟩ := hx
      unfold chanAt at hp
      split at hp
      · rename_i n buf sn rc hg
        cases hp
        obtain ⟨c', y, hc', hy, hrel⟩ := H.objs _ _ hg
        rw [hc] at hc'; cases hc'
        obtain ⟨b, rfl, hE⟩ := hrel
        have hlen := hE.length
        rw [Array.length_toList] at hlen
        refine ⟨goInt (buf.length : Nat), ?_, by simp only [VR, goInt, lenA_eq]; rfl⟩
        unfold Builtin.len_
        simp only [List.getElem?_toArray, List.getElem?_cons_zero, h0, Sem.run_bind, run_und hu, Result.andThen_ok]
        have : (getObj c.blk).run P w = .ok (.chan n b false sn rc false) w := by unfold getObj; simp [Sem.run, hy]
        simp only [this, Result.andThen_ok, Bool.false_eq_true, if_false, hlen, Sem.run_pure]
      · cases hp
  | _ => cases hr

theorem capF_run {tys : List TypeId} (htys : argTypes.toList = tys) {x v : AV} {u : Value} (hx : VR ρ x u) (hr : (capF P tys).run h x = some v) :
    ∃ v', (Builtin.cap_ argTypes ty #[u]).run P w = .ok v' w ∧ VR ρ v v' := by
  unfold capF at hr
  cases tys with
  | nil => cases hr
  | cons dT rest =>
  have h0 : argTypes[0]? = some dT := by rw [← Array.getElem?_toList, htys]; rfl
  simp only at hr
  cases hu : undOf P dT with
  | none => rw [hu] at hr; cases hr
  | some D =>
  rw [hu] at hr
  cases D with
  | slice e =>
    obtain ⟨n, hq, hr⟩ := bnd_eq_some.mp hr
    cases hr
    have hlst : ∀ cs k f pf, x = .lst cs k f pf → ∃ v', (Builtin.cap_ argTypes ty #[u]).run P w = .ok v' w ∧ VR ρ (.int .i64 (.ofNat n)) v' := by
      intro cs k f pf e
      subst e
      replace hq : cnd f (some k) none = some n := hq
      rw [cnd_eq] at hq
      split at hq
      · rename_i hf
        cases hq
        simp only [VR] at hx
        obtain ⟨ao, cap, rfl, _, k3, _⟩ := hx
        have := k3 hf
        subst this
        refine ⟨goInt (cap : Nat), ?_, by simp only [VR, goInt]; rfl⟩
        unfold Builtin.cap_
        simp only [List.getElem?_toArray, List.getElem?_cons_zero, h0, Sem.run_bind, run_und hu, Result.andThen_ok, Sem.run_pure]
      · cases hq
    cases x with
    | lst cs k f pf => exact hlst cs k f pf rfl
    | slice a len c =>
      replace hn : exactCap c = some n := hq
      have hx' := hx
      cases c with
      | op d => cases hn
      | exact k =>
        cases hn
        refine ⟨goInt (n : Nat), ?_, by simp only [VR, goInt]; rfl⟩
        unfold Builtin.cap_
        cases a with
        | none =>
          simp only [VR] at hx'
          obtain ⟨rfl, h2, rfl⟩ := hx'
          cases h2
          simp only [List.getElem?_toArray, List.getElem?_cons_zero, h0, Sem.run_bind, run_und hu, Result.andThen_ok, Sem.run_pure]
        | some a =>
          simp only [VR, ACap.val] at hx'
          obtain ⟨c', ad, hc, rfl, _, _⟩ := hx'
          simp only [List.getElem?_toArray, List.getElem?_cons_zero, h0, Sem.run_bind, run_und hu, Result.andThen_ok, Sem.run_pure]
    | _ => simp [sliceCapOf] at hq
  | _ => cases hr

/-! ### bytes to a string -/
theorem bytesOfCells_cons (a : AV) (r : List AV) : bytesOfCells (a :: r) = bnd (byteOf a) fun b => bnd (bytesOfCells r) fun l => some (b :: l) := rfl
theorem byteOf_VR {a : AV} {v : Value} {b : UInt8} (ha : byteOf a = some b) (hv : VR ρ a v) : v = .int .u8 (b.toNat : Int) := by
  unfold byteOf at ha
  split at ha
  · rename_i n
    rw [cnd_eq] at ha
    split at ha
    · rename_i hn
      rw [bleN] at hn
      cases ha
      simp only [VR] at hv
      rw [hv]
      congr 1
      rw [UInt8.toNat_ofNat_of_lt' (by show n < 256; omega)]; rfl
    · cases ha
  · cases ha

theorem bytes_loop (w : World) {f : Value → ByteArray → Sem (ForInStep ByteArray)} (hf : ∀ (b : UInt8) (s : ByteArray), f (.int .u8 (b.toNat : Int)) s = pure (.yield (s.push b))) :
    ∀ {cs : List AV} {us : List Value} {l : List UInt8} (acc : ByteArray), bytesOfCells cs = some l → VRL ρ cs us →
      (forIn (m := Sem) us acc f).run P w = .ok ⟨(acc.data.toList ++ l).toArray⟩ w
  | [], _, _, acc, hl, hv => by
    cases hl
    simp only [VRL] at hv; subst hv
    simp
  | a :: r, _, _, acc, hl, hv => by
    rw [bytesOfCells_cons] at hl
    obtain ⟨b, hb, hl⟩ := bnd_eq_some.mp hl
    obtain ⟨t, ht, hl⟩ := bnd_eq_some.mp hl
    cases hl
    simp only [VRL] at hv
    obtain ⟨v, us', rfl, h1, h2⟩ := hv
    rw [byteOf_VR hb h1]
    have ih := bytes_loop w hf (acc.push b) ht h2
    simp only [List.forIn_cons, hf, Sem.run_bind, Sem.run_pure, Result.andThen_ok]
    rw [ih]
    congr 2
    apply Array.ext'
    simp [ByteArray.push]

theorem toStr_run (H : HRel ρ h w) {src dst e : TypeId} {x v : AV} {u : Value} {h' : AHeap} (hus : undOf P src = some (.slice e)) (hud : undOf P dst = some .string) (hue : undOf P e = some (.int .u8))
    (hx : VR ρ x u) (hr : toStr h x = some (v, h')) : ∃ v', (convert src dst u).run P w = .ok v' w ∧ VR ρ v v' ∧ h' = h := by
  unfold toStr at hr
  cases hlx : lstOf x with
  | some q =>
    rw [hlx] at hr
    replace hr : (bnd (takeN q.2.1 q.1) fun cs => bnd (bytesOfCells cs) fun l => some (AV.str l, h)) = some (v, h') := hr
    obtain ⟨cs, hcs, hr⟩ := bnd_eq_some.mp hr
    obtain ⟨l, hl, hr⟩ := bnd_eq_some.mp hr
    cases hr
    rw [lstOf_eq hlx] at hx
    have hx0 := hx
    simp only [VR] at hx
    obtain ⟨ao, cap, rfl, _⟩ := hx
    obtain ⟨us, o1, o2, o3, o4⟩ := firstCells_run (P := P) (size := 1) H hx0 (m := q.2.1) rfl (Nat.le_refl _) (show firstV h 1 q.2.1 (.lst q.1 q.2.1 q.2.2.1 q.2.2.2) = some cs by show takeN (q.2.1 * 1) q.1 = _; rw [Nat.mul_one]; exact hcs) (w₁ := w) rfl
    refine ⟨.string ⟨l.toArray⟩, ?_, by simp only [VR], rfl⟩
    unfold convert
    simp only [Sem.run_bind, run_und hus, run_und hud, run_und hue, Result.andThen_ok]
    cases ao with
    | none =>
      have e0 : (Builtin.firstCells 1 q.2.1 (.slice none q.2.1 cap)).run P w = .ok #[] w := rfl
      rw [e0] at o1
      injection o1 with e1
      have : us = [] := by
        have := congrArg Array.toList e1
        simpa using this.symm
      subst this
      have hcs0 : cs = [] := List.length_eq_zero_iff.mp (by rw [← o2.length]; rfl)
      subst hcs0
      cases hl
      rfl
    | some a =>
      have hld : (loadCells a q.2.1).run P w = .ok us.toArray w := by
        have := o1
        simp only [Builtin.firstCells, Nat.mul_one] at this
        exact this
      unfold Conv.bytesToString
      simp only [Sem.run_bind, hld, Result.andThen_ok]
      rw [← Array.forIn_toList]
      rw [bytes_loop (P := P) w (fun b s => by simp) ByteArray.empty hl o2]
      rfl
  | none =>
  rw [hlx] at hr
  replace hr : (bnd (sliceOf x) fun v => cnd (Nat.beq v.2.1 0) (some (AV.str [], h)) (bnd v.1 fun a => bnd (readRow h a v.2.1) fun cs => bnd (bytesOfCells cs) fun l => some (AV.str l, h))) = some (v, h') := hr
  replace hr := bnd_eq_some.mp hr
  obtain ⟨q, hq, hr⟩ := hr
  have hqe := sliceOf_eq hq
  obtain ⟨a, len, c⟩ := q
  simp only at hqe
  subst hqe
  rw [cnd_eq] at hr
  have hconv : ∀ u : Option Addr × Nat × Nat, (convert src dst (.slice u.1 u.2.1 u.2.2)).run P w = (Conv.bytesToString (.slice u.1 u.2.1 u.2.2)).run P w := by
    intro u
    unfold convert
    simp only [Sem.run_bind, run_und hus, run_und hud, run_und hue, Result.andThen_ok]
  split at hr
  · rename_i h00
    rw [beqN] at h00
    have h00 : len = 0 := h00
    subst h00
    cases hr
    refine ⟨.string .empty, ?_, by simp only [VR]; rfl, rfl⟩
    cases a with
    | none =>
      simp only [VR] at hx
      obtain ⟨_, _, rfl⟩ := hx
      rw [hconv (none, 0, 0)]; rfl
    | some a =>
      simp only [VR] at hx
      obtain ⟨c', ad, hc, rfl, _, _⟩ := hx
      rw [hconv (some ad, 0, ACap.val c' c)]
      unfold Conv.bytesToString
      have : (loadCells ad 0).run P w = .ok #[] w := rfl
      simp [this]
  · rename_i h00
    rw [beqN] at h00
    have h00 : ¬ len = 0 := h00
    obtain ⟨a', ha, hr⟩ := bnd_eq_some.mp hr
    have ha : a = some a' := ha
    subst ha
    obtain ⟨cs, hcs, hr⟩ := bnd_eq_some.mp hr
    obtain ⟨l, hl, hr⟩ := bnd_eq_some.mp hr
    cases hr
    simp only [VR] at hx
    obtain ⟨c', ad, hc, rfl, hle, had⟩ := hx
    obtain ⟨c2, us, hc2, hv, hlen, _, hcell⟩ := readRow_run H hcs
    rw [hc] at hc2; cases hc2
    have hlen : us.length = len := hlen
    have hld := run_loadCells (P := P) us a'.off hcell
    rw [hlen, ← had (by omega)] at hld
    refine ⟨.string ⟨l.toArray⟩, ?_, by simp only [VR], rfl⟩
    rw [hconv (some ad, len, ACap.val c' c)]
    unfold Conv.bytesToString
    simp only [Sem.run_bind, hld, Result.andThen_ok]
    rw [← Array.forIn_toList]
    rw [bytes_loop (P := P) w (fun b s => by simp) ByteArray.empty hl hv]
    rfl

end
end Go.Proofs.YtonojkcnencodaaDoor.BH
