/-
  BH: regions whose order is free: whatever comes first, the end is the text's own.
-/
import Derived.Test.YtonojkcnencodaaDoorBhDraw2
namespace Go.Proofs.YtonojkcnencodaaDoor.BH

section
variable {P : Program}

/-! ### how many are still to come -/
def left (l : List Bool) : Nat := l.countP (!·)
theorem left_set : ∀ (l : List Bool) (i : Nat), l[i]? = some false → left (l.set i true) + 1 = left l
  | [], i, h => by simp at h
  | b :: r, 0, h => by
    simp only [List.getElem?_cons_zero, Option.some.injEq] at h
    subst h
    simp [left]
  | b :: r, i + 1, h => by
    simp only [List.getElem?_cons_succ] at h
    have := left_set r i h
    unfold left at this ⊢
    simp only [List.set_cons_succ, List.countP_cons]
    omega
theorem left_pos {l : List Bool} {i : Nat} (h : l[i]? = some false) : 0 < left l := by
  have := left_set l i h; omega

section
variable {ops : Array Oper} {call : CallV} {E : Nat → Env} {H : Nat → AHeap} {V : Nat → AV}

/-- What the text's order has shown. -/
structure Shown (P : Program) (ops : List Oper) (call : CallV) (E : Nat → Env) (H : Nat → AHeap) (V : Nat → AV) : Prop where
  ok : DrawOk P ops
  step : ∀ i o, ops[i]? = some o → (gopF P ops o).run call (E i) (H i) = some (V i, H (i + 1)) ∧ E (i + 1) = putD (E i) o.dst (V i)
  race : ∀ (i x : Nat) (o u : Oper), ops[i]? = some o → ops[x]? = some u → opKind P o.op = 1 → opKind P u.op = 2 → bit (nthM (masks ops) i) x = false → bit (nthM (masks ops) x) i = false →
    (∃ h', (gopF P ops o).run call (E i) (H x) = some (V i, h')) ∧ ∃ h', (gopF P ops o).run call (E i) (H (x + 1)) = some (V i, h')

variable {l : List Oper}

theorem Shown.flat (S : Shown P l call E H V) {p : Nat} : ∀ (n : Nat), p + n ≤ l.length → (∀ j o, p ≤ j → j < p + n → l[j]? = some o → opKind P o.op ≠ 2) → H (p + n) = H p
  | 0, _, _ => rfl
  | n + 1, hn, h => by
    have hlt : p + n < l.length := by omega
    have ho : l[p + n]? = some l[p + n] := List.getElem?_eq_getElem hlt
    have := (gop_light (h (p + n) _ (by omega) (by omega) ho) (S.step _ _ ho).1).1
    rw [← Nat.add_assoc, this]
    exact S.flat n (by omega) fun j o h1 h2 => h j o h1 (by omega)

theorem Shown.flat' (S : Shown P l call E H V) {p q : Nat} (hpq : p ≤ q) (hq : q ≤ l.length) (h : ∀ j o, p ≤ j → j < q → l[j]? = some o → opKind P o.op ≠ 2) : H q = H p := by
  have := S.flat (p := p) (q - p) (by omega) (fun j o h1 h2 => h j o h1 (by omega))
  rwa [show p + (q - p) = q by omega] at this

theorem Shown.agree (S : Shown P l call E H V) : ∀ i, i ≤ l.length → Agree l V (E 0) (fun j => j < i) (E i)
  | 0, _ => Agree.none.iff fun j => by simp
  | i + 1, hi => by
    have hlt : i < l.length := by omega
    have ho : l[i]? = some l[i] := List.getElem?_eq_getElem hlt
    rw [(S.step i _ ho).2]
    refine ((S.agree i (by omega)).put ho fun j u d hj hu hd => S.ok.once i j _ u d ho hu (by omega) hd).iff fun j => by omega

theorem least {p : Nat → Prop} {a b : Nat} (h : ∃ x, a ≤ x ∧ x < b ∧ p x) : ∃ x, a ≤ x ∧ x < b ∧ p x ∧ ∀ y, a ≤ y → y < x → ¬ p y := by
  obtain ⟨x, h1, h2, h3⟩ := h
  induction x using Nat.strongRecOn with
  | _ x ih =>
    by_cases hy : ∃ y, a ≤ y ∧ y < x ∧ p y
    · obtain ⟨y, g1, g2, g3⟩ := hy
      exact ih y g2 g1 (by omega) g3
    · exact ⟨x, h1, h2, h3, fun y g1 g2 g3 => hy ⟨y, g1, g2, g3⟩⟩
theorem greatest {p : Nat → Prop} {a b : Nat} (h : ∃ x, a ≤ x ∧ x < b ∧ p x) : ∃ x, a ≤ x ∧ x < b ∧ p x ∧ ∀ y, x < y → y < b → ¬ p y := by
  obtain ⟨x, h1, h2, h3⟩ := h
  generalize hn : b - x = n
  induction n using Nat.strongRecOn generalizing x with
  | _ n ih =>
    by_cases hy : ∃ y, x < y ∧ y < b ∧ p y
    · obtain ⟨y, g1, g2, g3⟩ := hy
      exact ih (b - y) (by omega) y (by omega) g2 g3 rfl
    · exact ⟨x, h1, h2, h3, fun y g1 g2 g3 => hy ⟨y, g1, g2, g3⟩⟩

/-- An operation that leaves memory alone yields the same wherever it may come. -/
theorem Shown.wherever (S : Shown P l call E H V) {i : Nat} {o : Oper} (ho : l[i]? = some o) (hk : opKind P o.op ≠ 2) {p : Nat} (hp : p ≤ l.length) {D : Nat → Prop}
    (hD : ∀ j u, l[j]? = some u → opKind P u.op = 2 → (D j ↔ j < p)) (hi : ¬ D i) (hdown : ∀ j, bit (nthM (masks l) i) j = true → D j) (hup : ∀ j u, l[j]? = some u → D j → bit (nthM (masks l) j) i = true → D i) :
    (gopF P l o).run call (E i) (H p) = some (V i, H p) := by
  obtain ⟨g1, g2⟩ := gop_light hk (S.step i o ho).1
  have base := (S.step i o ho).1
  rw [g1] at base
  have hlt : i < l.length := by
    rcases Nat.lt_or_ge i l.length with h | h
    · exact h
    · rw [List.getElem?_eq_none h] at ho; cases ho
  have fin : ∀ {g : AHeap} , (∃ h', (gopF P l o).run call (E i) g = some (V i, h')) → (gopF P l o).run call (E i) g = some (V i, g) := by
    rintro g ⟨h', hh⟩
    rw [(gop_light hk hh).1] at hh; exact hh
  by_cases h0 : opKind P o.op = 0
  · exact g2 h0 _
  have h1 : opKind P o.op = 1 := by
    have : opKind P o.op ≤ 2 := by
      cases o.op <;> simp only [opKind] <;> try omega
      · unfold convKind; split <;> (try split) <;> omega
      · rename_i c
        split <;> try omega
        unfold lenKind; split <;> (try split) <;> omega
    omega
  rcases Nat.le_total p i with hpi | hip
  · by_cases hx : ∃ x, p ≤ x ∧ x < i ∧ ∃ u, l[x]? = some u ∧ opKind P u.op = 2
    · obtain ⟨x, a1, a2, ⟨u, a3, a4⟩, a5⟩ := least hx
      have e1 : H x = H p := S.flat' a1 (by omega) fun j v b1 b2 b3 b4 => a5 j b1 b2 ⟨v, b3, b4⟩
      have n1 : bit (nthM (masks l) i) x = false := by
        cases hb : bit (nthM (masks l) i) x with
        | false => rfl
        | true => have := (hD x u a3 a4).mp (hdown x hb); omega
      have n2 : bit (nthM (masks l) x) i = false := by
        cases hb : bit (nthM (masks l) x) i with
        | false => rfl
        | true => have := anc_lt a3 hb; omega
      have := fin (S.race i x o u ho a3 h1 a4 n1 n2).1
      rwa [e1] at this
    · have e1 : H i = H p := S.flat' hpi (by omega) fun j v b1 b2 b3 b4 => hx ⟨j, b1, b2, v, b3, b4⟩
      rwa [e1] at base
  · by_cases hx : ∃ x, i ≤ x ∧ x < p ∧ ∃ u, l[x]? = some u ∧ opKind P u.op = 2
    · obtain ⟨x, a1, a2, ⟨u, a3, a4⟩, a5⟩ := greatest hx
      have hxl : x < l.length := by omega
      have e1 : H p = H (x + 1) := S.flat' (by omega) hp fun j v b1 b2 b3 b4 => a5 j (by omega) b2 ⟨v, b3, b4⟩
      have n1 : bit (nthM (masks l) i) x = false := by
        cases hb : bit (nthM (masks l) i) x with
        | false => rfl
        | true => have := anc_lt ho hb; omega
      have n2 : bit (nthM (masks l) x) i = false := by
        cases hb : bit (nthM (masks l) x) i with
        | false => rfl
        | true => exact absurd (hup x u a3 ((hD x u a3 a4).mpr a2) hb) hi
      have := fin (S.race i x o u ho a3 h1 a4 n1 n2).2
      rwa [← e1] at this
    · have e1 : H p = H i := S.flat' hip hp fun j v b1 b2 b3 b4 => hx ⟨j, b1, b2, v, b3, b4⟩
      rw [e1]; exact base

/-! ### every order -/
structure Mid (ops : Array Oper) (P : Program) (E : Nat → Env) (H : Nat → AHeap) (V : Nat → AV) (ρ₀ : Rho) (w₀ : World) (a₀ : Act) (listed : Array Bool) (a : Act) (w : World) (ρ : Rho) (e : Env) (p : Nat) : Prop where
  size : listed.size = ops.size
  down : ∀ i o, listed.getD i false = true → ops.toList[i]? = some o → ∀ e ∈ o.after.toList, Region.binds .any e = true → listed.getD e.on false = true
  agree : Agree ops.toList V (E 0) (fun j => listed.getD j false = true) e
  le : p ≤ ops.toList.length
  heavy : ∀ j o, ops.toList[j]? = some o → opKind P o.op = 2 → (listed.getD j false = true ↔ j < p)
  env : EnvR ρ e a
  defers : a.defers = a₀.defers
  trans : Trans ρ₀ (H 0) w₀ ρ (H p) w

theorem all_listed {listed : Array Bool} (S : Shown P ops.toList call E H V) (hs : listed.size = ops.size) (hr : Region.ready .any ops listed = []) : ∀ i, i < ops.size → listed.getD i false = true := by
  intro i
  induction i using Nat.strongRecOn with
  | _ i ih =>
    intro hi
    cases hb : listed.getD i false with
    | true => rfl
    | false =>
      have ho : ops[i]? = some ops[i] := Array.getElem?_eq_getElem hi
      have : i ∈ Region.ready .any ops listed := mem_ready.mpr ⟨?_, _, ho, fun e he hb' => ?_⟩
      · rw [hr] at this; cases this
      · have : i < listed.size := by omega
        simp [this] at hb ⊢; exact hb
      · have := S.ok.down i _ (by rw [Array.getElem?_toList]; exact ho) e (by simpa using he) hb'
        exact ih e.on this (by omega)

theorem Mid.end {ρ₀ : Rho} {w₀ : World} {a₀ : Act} {listed : Array Bool} {a : Act} {w : World} {ρ : Rho} {e : Env} {p : Nat} (S : Shown P ops.toList call E H V)
    (M : Mid ops P E H V ρ₀ w₀ a₀ listed a w ρ e p) (hall : ∀ i, i < ops.size → listed.getD i false = true) :
    After ρ₀ (H 0) w₀ a₀ .normal (E ops.toList.length) (H ops.toList.length) .normal a w := by
  have e1 : e = E ops.toList.length := M.agree.eq (S.agree _ (Nat.le_refl _)) fun j hj => by
    simp only [hj, iff_true]
    exact hall j (by simpa using hj)
  have e2 : H ops.toList.length = H p := S.flat' M.le (Nat.le_refl _) fun j o h1 h2 h3 h4 => by
    have := (M.heavy j o h3 h4).mp (hall j (by simpa using h2))
    omega
  refine ⟨rfl, M.defers, ρ, ?_, ?_⟩
  · rw [← e1]; exact M.env
  · rw [e2]; exact M.trans

theorem draw_any {ρ₀ : Rho} {w₀ : World} {a₀ : Act} (hc : CallSound P call) (S : Shown P ops.toList call E H V) : ∀ (fuel : Nat) (listed : Array Bool) (a : Act) (w : World) (ρ : Rho) (e : Env) (p : Nat),
    Mid ops P E H V ρ₀ w₀ a₀ listed a w ρ e p → left listed.toList ≤ fuel →
    wpAny P .any ops (After ρ₀ (H 0) w₀ a₀ .normal (E ops.toList.length) (H ops.toList.length)) fuel listed a w
  | 0, listed, a, w, ρ, e, p, M, hl => by
    have hall : ∀ i, i < ops.size → listed.getD i false = true := by
      intro i hi
      have hi' : i < listed.size := by rw [M.size]; exact hi
      cases hb : listed.getD i false with
      | true => rfl
      | false =>
        have : listed.toList[i]? = some false := by
          rw [Array.getElem?_toList, Array.getElem?_eq_getElem hi']
          simpa [hi'] using hb
        have := left_pos this
        omega
    refine ⟨?_, M.end S hall⟩
    cases hr : Region.ready .any ops listed with
    | nil => rfl
    | cons i r =>
      exfalso
      have hm : i ∈ Region.ready .any ops listed := by rw [hr]; exact List.mem_cons_self
      obtain ⟨h1, o, h2, _⟩ := mem_ready.mp hm
      have hi := (Array.getElem?_eq_some_iff.mp h2).1
      have := hall i hi
      have hi' : i < listed.size := by rw [M.size]; exact hi
      simp [hi'] at this h1
      rw [this] at h1; cases h1
  | fuel + 1, listed, a, w, ρ, e, p, M, hl => by
    refine ⟨fun hr => M.end S (all_listed S M.size hr), fun i hi => ?_⟩
    obtain ⟨hun, o, ho, hedge⟩ := mem_ready.mp hi
    have hin := (Array.getElem?_eq_some_iff.mp ho).1
    have hil : i < listed.size := by rw [M.size]; exact hin
    have hio : ops.toList[i]? = some o := by rw [Array.getElem?_toList]; exact ho
    have hunf : listed.getD i false = false := by simp [hil] at hun ⊢; exact hun
    have hni : ¬ (listed.getD i false = true) := by rw [hunf]; simp
    have hedge' : ∀ e ∈ o.after.toList, Region.binds .any e = true → listed.getD e.on false = true := fun e he => hedge e (by simpa using he)
    have hdown : ∀ j, bit (nthM (masks ops.toList) i) j = true → listed.getD j false = true := fun j hj =>
      (anc_down (D := fun j => listed.getD j false = true) M.down i o hio hedge' j hj).1
    have hup : ∀ j u, ops.toList[j]? = some u → listed.getD j false = true → bit (nthM (masks ops.toList) j) i = true → listed.getD i false = true := fun j u hu hj hb =>
      (anc_down (D := fun j => listed.getD j false = true) M.down j u hu (M.down j u hj hu) i hb).1
    -- the environment at what the operation looks at
    have hlook : ∀ t ∈ looks ops.toList o, nth e t = nth (E i) t := fun t ht => M.agree.same (S.agree i (by simp; omega)) t fun j u hu hd => by
      by_cases hji : j = i
      · subst hji; simp [hunf]
      · rcases S.ok.tied i j o u t hio hu (fun hh => hji hh.symm) ht hd with hb | hb
        · exact ⟨fun _ => anc_lt hio hb, fun _ => hdown j hb⟩
        · have h1 := anc_lt hu hb
          exact ⟨fun hj => absurd (hup j u hu hj hb) hni, fun hj => by omega⟩
    have set_iff : ∀ j, (listed.setIfInBounds i true).getD j false = true ↔ (listed.getD j false = true ∨ j = i) := by
      intro j
      by_cases hij : i = j
      · subst hij; simp [hil]
      · rw [getD_set_ne false hij]
        exact ⟨.inl, fun hh => hh.resolve_right fun he => hij he.symm⟩
    have hleft : left (listed.setIfInBounds i true).toList ≤ fuel := by
      rw [Array.toList_setIfInBounds]
      have := left_set listed.toList i (by rw [Array.getElem?_toList, Array.getElem?_eq_getElem hil]; simpa [hil] using hunf)
      omega
    -- what it comes to
    obtain ⟨p', hp', hrun, hheavy⟩ : ∃ p', p' ≤ ops.toList.length ∧ (gopF P ops.toList o).run call e (H p) = some (V i, H p') ∧
        (∀ j u, ops.toList[j]? = some u → opKind P u.op = 2 → ((listed.setIfInBounds i true).getD j false = true ↔ j < p')) := by
      rw [gopF_congr hlook]
      by_cases hk : opKind P o.op = 2
      · have hord : ∀ j u, ops.toList[j]? = some u → opKind P u.op = 2 → j ≠ i → (listed.getD j false = true ↔ j < i) := by
          intro j u hu hk' hne
          rcases Nat.lt_or_ge j i with hlt | hge
          · exact ⟨fun _ => hlt, fun _ => hdown j (S.ok.chain j i u o hu hio hlt hk' hk)⟩
          · have hlt : i < j := by omega
            exact ⟨fun hj => absurd (hup j u hu hj (S.ok.chain i j o u hio hu hlt hk hk')) hni, fun hj => by omega⟩
        have e1 : H p = H i := by
          rcases Nat.le_total p i with hpi | hip
          · refine (S.flat' hpi (by simp; omega) fun j u h1 h2 h3 h4 => ?_).symm
            have := (M.heavy j u h3 h4).mp ((hord j u h3 h4 (by omega)).mpr h2)
            omega
          · refine S.flat' hip M.le fun j u h1 h2 h3 h4 => ?_
            by_cases hji : j = i
            · subst hji; exact hni ((M.heavy j u h3 h4).mpr h2)
            · have := (hord j u h3 h4 hji).mp ((M.heavy j u h3 h4).mpr h2)
              omega
        refine ⟨i + 1, by simp; omega, by rw [e1]; exact (S.step i o hio).1, fun j u hu hk' => ?_⟩
        rw [set_iff]
        by_cases hji : j = i
        · subst hji; simp
        · rw [hord j u hu hk' hji]; omega
      · refine ⟨p, M.le, S.wherever hio hk M.le M.heavy hni hdown hup, fun j u hu hk' => ?_⟩
        rw [set_iff, ← M.heavy j u hu hk']
        refine ⟨fun hh => hh.resolve_right fun he => ?_, .inl⟩
        subst he; rw [hio] at hu; cases hu; exact hk hk'
    have next : ∀ (v' : Value) (w' : World) (ρ' : Rho), VR ρ' (V i) v' → Trans ρ (H p) w ρ' (H p') w' →
        wpAny P .any ops (After ρ₀ (H 0) w₀ a₀ .normal (E ops.toList.length) (H ops.toList.length)) fuel (listed.setIfInBounds i true) (a.put o.dst v') w' := by
      intro v' w' ρ' hv T
      refine draw_any hc S fuel _ _ _ ρ' (putD e o.dst (V i)) p' ⟨by rw [Array.size_setIfInBounds]; exact M.size, ?_, ?_, hp', hheavy, put_R (M.env.mono T.ext) hv, by rw [put_defers]; exact M.defers, M.trans.trans T⟩ hleft
      · intro j u hj hu e' he' hb
        rw [set_iff] at hj ⊢
        rcases hj with hj | rfl
        · exact .inl (M.down j u hj hu e' he' hb)
        · rw [hio] at hu; cases hu
          exact .inl (hedge' e' he' hb)
      · refine (M.agree.put hio fun j u d hj hu hd => S.ok.once i j o u d hio hu (fun hh => ?_) hd).iff fun j => (set_iff j).symm
        subst hh; exact hni hj
    have doit : Region.wanted o (yielded ops a.tmps) = true → (operF P o.op).run call e (H p) = some (V i, H p') →
        wpOp P ops (After ρ₀ (H 0) w₀ a₀ .normal (E ops.toList.length) (H ops.toList.length)) i
          (wpAny P .any ops (After ρ₀ (H 0) w₀ a₀ .normal (E ops.toList.length) (H ops.toList.length)) fuel (listed.setIfInBounds i true)) a w := by
      intro hw hr
      unfold wpOp
      simp only [ho, hw, if_true]
      exact .inl ((operF_sound hc o e (H p) (V i) (H p') ρ w a hr M.env M.trans.rel).wp fun v' w' ⟨ρ', g1, g2⟩ => next v' w' ρ' g1 g2)
    unfold gopF at hrun
    cases hg : o.guard with
    | none =>
      rw [hg] at hrun
      exact doit (by unfold Region.wanted; rw [hg]) hrun
    | some g =>
      obtain ⟨j, want⟩ := g
      rw [hg] at hrun
      replace hrun : (if guardV ((ops.toList[j]?).bind Oper.dst) want e = true then (operF P o.op).run call e (H p) else some (.undef, H p)) = some (V i, H p') := hrun
      rw [guard_iff (ops := ops) M.env] at hrun
      split at hrun
      · rename_i hw
        exact doit (by unfold Region.wanted; rw [hg]; exact hw) hrun
      · rename_i hw
        have hwant : ¬ Region.wanted o (yielded ops a.tmps) = true := by unfold Region.wanted; rw [hg]; exact hw
        unfold wpOp
        simp only [ho, hwant]
        rw [Option.some.injEq, Prod.mk.injEq] at hrun
        refine next Go.undef w ρ ?_ ?_
        · rw [← hrun.1]; exact VR.undef
        · rw [← hrun.2]; exact .refl M.trans.rel
end

theorem regionDraw_sound {call : CallV} (hm : P.follows .mixedOrders = true) (hc : CallSound P call) {id : Nat} {ops : Array Oper} {e e' : Env} {h h' : AHeap} {ρ : Rho} {w : World} {a : Act}
    (hr : (regionDraw P ops.toList).run call e h = some (e', h')) (he : EnvR ρ e a) (hh : HRel ρ h w) : (Code.region id ops true).wp P (After ρ h w a .normal e' h') a w := by
  unfold regionDraw at hr
  rw [cnd_eq] at hr
  split at hr
  · rename_i hok
    have hok := drawOk_spec hok
    obtain ⟨⟨T, e₁, h₁⟩, ht, hr⟩ := bnd_eq_some.mp hr
    rw [cnd_eq] at hr
    split at hr
    · rename_i hrace
      cases hr
      obtain ⟨E, H, V, g1, g2, g3, g4, g5, g6, g7⟩ := trace_facts ops.toList e h T e' h' ht
      have S : Shown P ops.toList call E H V := ⟨hok, g5, fun i x o u hi hx h1 h2 h3 h4 => by
        have hil : i < ops.toList.length := by
          rcases Nat.lt_or_ge i ops.toList.length with h | h
          · exact h
          · rw [List.getElem?_eq_none h] at hi; cases hi
        have hxl : x < ops.toList.length := by
          rcases Nat.lt_or_ge x ops.toList.length with h | h
          · exact h
          · rw [List.getElem?_eq_none h] at hx; cases hx
        have := racesOk_mem hrace _ (mem_races hi hx h1 h2 h3 h4)
        unfold raceOk at this
        simp only [getN_eq, g7 i hil, g7 x hxl, ocase_some, Bool.and_eq_true] at this
        refine ⟨yields_spec this.1, ?_⟩
        have h5 : (ocase T[x + 1]? h' fun t => t.h) = H (x + 1) := by
          rcases Nat.lt_or_ge (x + 1) ops.toList.length with h | h
          · rw [g7 _ h]; rfl
          · rw [List.getElem?_eq_none (by rw [g6]; exact h)]
            have : x + 1 = ops.toList.length := by omega
            rw [this, g4]; rfl
        rw [h5] at this
        exact yields_spec this.2⟩
      subst g1; subst g2; subst g3; subst g4
      have T₀ : Trans ρ (H 0) w ρ (H 0) { w with drawn := w.drawn + 1 } :=
        ⟨.refl ρ, ⟨hh.objs, hh.inj, hh.fresh, hh.rets, hh.fixed⟩, fun _ _ _ => rfl, Nat.le_refl _, rfl, rfl, fun o x c hx hf hc => .inl ⟨o, x, c, hx, hf, hc, rfl⟩, fun _ ho => .inl ho, Nat.le_refl _, fun _ hb => .inl hb, rfl⟩
      refine wp_region_any hm (draw_any hc S _ _ _ _ ρ (E 0) 0 ⟨by simp, ?_, ?_, Nat.zero_le _, ?_, he, rfl, T₀⟩ ?_)
      · intro i o hi
        rw [Array.getD_eq_getD_getElem?, Array.getElem?_replicate] at hi
        split at hi <;> cases hi
      · refine Agree.none.iff fun j => ?_
        rw [Array.getD_eq_getD_getElem?, Array.getElem?_replicate]
        split <;> simp
      · intro j o _ _
        rw [Array.getD_eq_getD_getElem?, Array.getElem?_replicate]
        split <;> simp
      · unfold left
        refine Nat.le_trans List.countP_le_length ?_
        simp
    · cases hr
  · cases hr

theorem regionF_sound (hm : P.follows .mixedOrders = true) : RegionSound P (regionF P) := by
  intro call hc id ops draw e h e' h' ρ w a hr he hh
  cases draw with
  | true => exact regionDraw_sound hm hc hr he hh
  | false => exact wp_regionText hc hr he hh

end
end Go.Proofs.YtonojkcnencodaaDoor.BH
