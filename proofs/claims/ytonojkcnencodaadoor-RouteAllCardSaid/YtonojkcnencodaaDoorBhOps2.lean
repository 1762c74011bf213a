/-
  BH: each operation that calls nothing does in the model what the evaluator says: numbers, strings, structs, addresses, reading.
-/
import Derived.Test.YtonojkcnencodaaDoorBhMem
import Derived.Calls
import Derived.Laws.Strings
import Derived.Laws.Strings2
import Derived.Laws.Concat
import Derived.IntWalk
import Derived.Laws.StructEq
section
namespace Go.Proofs.YtonojkcnencodaaDoor.BH

section
variable {P : Program} {ρ : Rho} {h : AHeap} {w : World}

/-! ### operands -/
def EnvR (ρ : Rho) (e : Env) (a : Act) : Prop := VRL ρ e a.tmps.toList

theorem nth_VR {e : Env} {a : Act} (he : EnvR ρ e a) (t : Nat) : VR ρ (nth e t) (a.tmps.getD t Go.undef) := by
  rw [nth_eq]
  by_cases ht : t < e.length
  · obtain ⟨v, h1, h2⟩ := VRL.get he (List.getElem?_eq_getElem ht)
    rw [Array.getElem?_toList] at h1
    have e1 : a.tmps.getD t Go.undef = v := by rw [Array.getD_eq_getD_getElem?, h1]; rfl
    rw [e1, List.getD_eq_getElem?_getD, List.getElem?_eq_getElem ht]; exact h2
  · have e1 : a.tmps.getD t Go.undef = Go.undef := by
      have hs := VRL.length he
      rw [Array.getD_eq_getD_getElem?, Array.getElem?_eq_none (by simp at hs; omega)]; rfl
    rw [e1, List.getD_eq_getElem?_getD, List.getElem?_eq_none (by omega)]; exact VR.undef

theorem opv_VR {e : Env} {a : Act} (he : EnvR ρ e a) {x : Operand} {u : AV} (hx : opv e x = some u) : VR ρ u (a.eval x) := by
  cases x with
  | tmp t => cases hx; exact nth_VR he t
  | const v => exact ofValue_VR hx
  | global g => cases hx
  | func f => cases hx; simp only [VR]; exact ⟨#[], #[], rfl, VRL.nil, VRL.nil⟩

theorem opvs_cons (e : Env) (x : Operand) (r : List Operand) : opvs e (x :: r) = bnd (opv e x) fun a => bnd (opvs e r) fun l => some (a :: l) := rfl
theorem opvs_VRL {e : Env} {a : Act} (he : EnvR ρ e a) : ∀ {l : List Operand} {r : List AV}, opvs e l = some r → VRL ρ r (l.map a.eval)
  | [], _, hl => by cases hl; exact VRL.nil
  | x :: t, _, hl => by
    rw [opvs_cons] at hl
    obtain ⟨u, hu, hl⟩ := bnd_eq_some.mp hl
    obtain ⟨l, hl', hl⟩ := bnd_eq_some.mp hl
    cases hl
    exact VRL.cons (opv_VR he hu) (opvs_VRL he hl')

/-! ### what a value is, by what stands for it -/
theorem intOf_VR {x : AV} {v : Value} {i : IntKind × Int} (hx : intOf x = some i) (hv : VR ρ x v) : v = .int i.1 i.2 := by
  cases x <;> simp [intOf] at hx
  subst hx; simpa only [VR] using hv
theorem strOf_VR {x : AV} {v : Value} {s : List UInt8} (hx : strOf x = some s) (hv : VR ρ x v) : v = .string ⟨s.toArray⟩ := by
  cases x <;> simp [strOf] at hx
  subst hx; simpa only [VR] using hv
theorem boolOf_VR {x : AV} {v : Value} {b : Bool} (hx : boolOf x = some b) (hv : VR ρ x v) : v = .bool b := by
  cases x <;> simp [boolOf] at hx
  subst hx; simpa only [VR] using hv
theorem ptrOf_VR {x : AV} {v : Value} {a : ALoc} (hx : ptrOf x = some a) (hv : VR ρ x v) : ∃ c, ρ a.obj = some c ∧ v = .pointer (some (c.at a.off)) := by
  cases x <;> simp [ptrOf] at hx
  subst hx; simpa only [VR] using hv
theorem aggCells_VR {x : AV} {v : Value} {cs : List AV} (hx : aggCells x = some cs) (hv : VR ρ x v) : ∃ vs, v = .agg vs ∧ VRL ρ cs vs.toList := by
  cases x <;> simp [aggCells] at hx
  subst hx; simpa only [VR] using hv
theorem sliceOf_VR {x : AV} {v : Value} {s : Option ALoc × Nat × ACap} (hx : sliceOf x = some s) (hv : VR ρ x v) : VR ρ (.slice s.1 s.2.1 s.2.2) v := by
  cases x <;> simp [sliceOf] at hx
  subst hx; exact hv
theorem sliceOf_eq {x : AV} {s : Option ALoc × Nat × ACap} (hx : sliceOf x = some s) : x = .slice s.1 s.2.1 s.2.2 := by
  cases x <;> simp [sliceOf] at hx
  subst hx; rfl

theorem natI_eq {a : Int} {n : Nat} (hn : natI a = some n) : a = (n : Int) := by
  cases a <;> simp [natI, icase] at hn
  subst hn; rfl
theorem eqI_eq (a b : Int) : eqI a b = (a == b) := by
  cases a <;> cases b <;> simp only [eqI, icase]
  · rename_i m n; rw [Bool.eq_iff_iff, beqN, beq_iff_eq]; exact ⟨fun e => by rw [e], fun e => by injection e⟩
  · rw [Bool.eq_iff_iff, beq_iff_eq]; simp
  · rw [Bool.eq_iff_iff, beq_iff_eq]; simp
  · rename_i m n; rw [Bool.eq_iff_iff, beqN, beq_iff_eq]; exact ⟨fun e => by rw [e], fun e => by injection e⟩
theorem ltI_eq (a b : Int) : ltI a b = decide (a < b) := by
  cases a <;> cases b <;> simp only [ltI, icase]
  · rename_i m n; rw [Bool.eq_iff_iff, bleN, decide_eq_true_eq, Int.ofNat_eq_natCast, Int.ofNat_eq_natCast]; omega
  · rw [Bool.eq_iff_iff, decide_eq_true_eq, Int.ofNat_eq_natCast]; simp; omega
  · rw [Bool.eq_iff_iff, decide_eq_true_eq, Int.ofNat_eq_natCast]; simp; omega
  · rename_i m n; rw [Bool.eq_iff_iff, bleN, decide_eq_true_eq]; omega

theorem kno_inj {j k : IntKind} (hk : sameKind j k = true) : j = k := by
  unfold sameKind at hk
  rw [beqN] at hk
  cases j <;> cases k <;> first | rfl | (simp [kno] at hk)

theorem fits_wrap {k : IntKind} {n : Int} (hf : fits k n = true) : k.wrap n = n := by
  cases k <;> cases n <;> simp only [fits, icase, Bool.false_eq_true, bleN] at hf
  · exact IntWalk.i32_in _ (by rw [Int.ofNat_eq_natCast]; omega)
  · exact IntWalk.i32_in _ (by omega)
  · exact IntWalk.i64_in _ (by rw [Int.ofNat_eq_natCast]; omega)
  · exact IntWalk.i64_in _ (by omega)
  · exact IntWalk.u8_in _ (by rw [Int.ofNat_eq_natCast]; omega)
  · exact IntWalk.u32_in _ (by rw [Int.ofNat_eq_natCast]; omega)
  · exact IntWalk.u64_in _ (by rw [Int.ofNat_eq_natCast]; omega)
theorem wrapF_eq (k : IntKind) (n : Int) : wrapF k n = k.wrap n := by
  unfold wrapF
  rw [cnd_eq]
  split
  · rename_i hf; rw [fits_wrap hf]
  · rfl

theorem same_eq : ∀ (a b : List UInt8), same a b = (a == b)
  | [], [] => rfl
  | [], _ :: _ => rfl
  | _ :: _, [] => rfl
  | x :: r, y :: s => by
    show cnd (Nat.beq x.toNat y.toNat) (same r s) false = _
    rw [same_eq r s]
    by_cases hxy : x = y
    · subst hxy
      rw [(beqN _ _).mpr rfl]; simp
    · have : Nat.beq x.toNat y.toNat = false := by
        rw [← Bool.not_eq_true, beqN]; exact fun hh => hxy (UInt8.toNat_inj.mp hh)
      rw [this, cnd_false, Bool.eq_iff_iff]
      simp [hxy]
theorem bytesLess_cons (a b : UInt8) (x y : List UInt8) : Op.bytesLess (a :: x) (b :: y) = (a < b || (a == b && Op.bytesLess x y)) := by
  rw [Op.bytesLess]
theorem less_eq : ∀ (a b : List UInt8), less a b = Op.bytesLess a b
  | [], [] => rfl
  | [], _ :: _ => rfl
  | _ :: _, [] => rfl
  | x :: r, y :: s => by
    show cnd (Nat.ble (x.toNat + 1) y.toNat) true (cnd (Nat.beq x.toNat y.toNat) (less r s) false) = _
    rw [less_eq r s, bytesLess_cons]
    by_cases h1 : x.toNat + 1 ≤ y.toNat
    · rw [(bleN _ _).mpr h1]
      have : x < y := by rw [UInt8.lt_iff_toNat_lt]; omega
      simp [this]
    · have e1 : Nat.ble (x.toNat + 1) y.toNat = false := by rw [← Bool.not_eq_true, bleN]; exact h1
      rw [e1, cnd_false]
      have h2 : ¬ x < y := by rw [UInt8.lt_iff_toNat_lt]; omega
      by_cases h3 : x = y
      · subst h3
        rw [(beqN _ _).mpr rfl]; simp
      · have e2 : Nat.beq x.toNat y.toNat = false := by rw [← Bool.not_eq_true, beqN]; exact fun hh => h3 (UInt8.toNat_inj.mp hh)
        rw [e2, cnd_false]
        simp [h2, h3]

/-! ### whole numbers -/
theorem sub_is (a b : Int) : Int.sub a b = a - b := rfl
theorem mul_is (a b : Int) : Int.mul a b = a * b := rfl
theorem intF_run {op : BinOp} {k : IntKind} {x y : Int} {v : AV} (hv : (intF op).run k x y = some v) (t : TypeId) :
    ∃ u, (binOp op t (.int k x) (.int k y)).run P w = .ok u w ∧ VR ρ v u := by
  cases op <;> simp only [intF] at hv
  case quo =>
    rw [cnd_eq, eqI_eq] at hv
    split at hv
    · cases hv
    · rename_i hy
      cases hv
      refine ⟨_, ?_, by simp only [VR]; rfl⟩
      have : ¬ y = 0 := by intro e; subst e; exact hy rfl
      simp [binOp, Op.intDiv, this, wrapF_eq]
  case rem =>
    rw [cnd_eq, eqI_eq] at hv
    split at hv
    · cases hv
    · rename_i hy
      cases hv
      refine ⟨_, ?_, by simp only [VR]; rfl⟩
      have : ¬ y = 0 := by intro e; subst e; exact hy rfl
      simp [binOp, Op.intDiv, this]
  case shl => cases hv
  case shr => cases hv
  all_goals
    cases hv
    refine ⟨_, ?_, by simp only [VR]; rfl⟩
    first
      | (simp only [wrapF_eq]; simp [binOp, Op.intArith]; done)
      | (simp only [wrapF_eq]; simp [binOp, Op.intBits]; done)
      | (simp only [eqI_eq, ltI_eq]; simp [binOp, Op.intCmp]; done)
      | (simp only [eqI_eq, ltI_eq]; simp [binOp, Op.intCmp]; rw [Bool.eq_iff_iff]; simp; done)
      | (simp only [wrapF_eq, sub_is]; simp [binOp, Op.intArith]; done)
      | (simp only [wrapF_eq, mul_is]; simp [binOp, Op.intArith]; done)
      | (simp only [wrapF_eq]; rfl)

end
end Go.Proofs.YtonojkcnencodaaDoor.BH

end
section
namespace Go.Proofs.YtonojkcnencodaaDoor.BH

section
variable {P : Program} {ρ : Rho} {h : AHeap} {w : World}

/-! ### parts of an aggregate -/
theorem part_run {t : TypeId} {off : Nat} {cs : List AV} {vs : Array Value} {x : AV} (hp : (partF P t off).run cs = some x) (hv : VRL ρ cs vs.toList) :
    ∃ u, (part t vs off).run P w = .ok u w ∧ VR ρ x u := by
  unfold partF at hp
  cases ha : aggOf P t with
  | none => rw [ha] at hp; cases hp
  | some b =>
    rw [ha] at hp
    cases b with
    | true =>
      cases hs : szOf P t with
      | none => rw [hs] at hp; cases hp
      | some n =>
        rw [hs] at hp
        obtain ⟨l, hl, hp⟩ := bnd_eq_some.mp hp
        cases hp
        obtain ⟨_, h2⟩ := slots_eq_some hl
        refine ⟨.agg (vs.extract off (off + n)), ?_, ?_⟩
        · unfold part
          simp [run_isAgg' ha, run_sizeOf' hs]
        · simp only [VR]
          refine ⟨_, rfl, ?_⟩
          rw [h2, Array.toList_extract]
          have := VRL.take n (VRL.drop off hv)
          simpa [List.extract_eq_take_drop] using this
    | false =>
      have hp : cellAt cs off = some x := hp
      rw [cellAt_eq] at hp
      obtain ⟨u, h1, h2⟩ := hv.get hp
      rw [Array.getElem?_toList] at h1
      refine ⟨u, ?_, h2⟩
      unfold part
      simp [run_isAgg' ha, h1]

theorem fieldsOf_eq {t : TypeId} {fs : Array Field} (hu : undOf P t = some (.struct fs)) : P.fieldsOf t = fs := by
  unfold Program.fieldsOf; rw [underlying_of hu]

/-! ### comparisons -/
theorem isNil_slice {x : AV} {u : Value} {p : Bool} (hx : VR ρ x u) (hp : isNil x = some p) (k : isSliceV x = true) : ∃ a n c, u = .slice a n c ∧ p = a.isNone := by
  match x, hx, hp, k with
  | .slice none _ _, hx, hp, _ => simp only [VR] at hx; obtain ⟨_, _, rfl⟩ := hx; cases hp; exact ⟨_, _, _, rfl, rfl⟩
  | .slice (some _) _ _, hx, hp, _ => simp only [VR] at hx; obtain ⟨_, _, _, rfl, _⟩ := hx; cases hp; exact ⟨_, _, _, rfl, rfl⟩
  | .lst cs n f pf, hx, hp, _ =>
    replace hp : cnd (Nat.beq n 0) (cnd pf none (some false)) (some false) = some p := hp
    rw [cnd_eq] at hp
    split at hp
    · cases pf with
      | true => cases hp
      | false =>
        cases hp
        simp only [VR] at hx
        obtain ⟨ao, cap, rfl, _, _, _, _, ⟨_, _, h0⟩ | ⟨b, off, x, us, rfl, _⟩⟩ := hx
        · cases ao with
          | none => exact absurd rfl (h0 trivial)
          | some a => exact ⟨_, _, _, rfl, rfl⟩
        · exact ⟨_, _, _, rfl, rfl⟩
    · rename_i hn
      cases hp
      simp only [VR] at hx
      obtain ⟨ao, cap, rfl, _, _, _, _, ⟨rfl, _⟩ | ⟨b, off, x, us, rfl, _⟩⟩ := hx
      · exact absurd rfl hn
      · exact ⟨_, _, _, rfl, rfl⟩
theorem isNil_map {x : AV} {u : Value} {p : Bool} (hx : VR ρ x u) (hp : isNil x = some p) (k : isMapV x = true) : ∃ a, u = .map a ∧ p = a.isNone := by
  match x, hx, hp, k with
  | .map none, hx, hp, _ => simp only [VR] at hx; subst hx; cases hp; exact ⟨_, rfl, rfl⟩
  | .map (some _), hx, hp, _ => simp only [VR] at hx; obtain ⟨_, _, rfl⟩ := hx; cases hp; exact ⟨_, rfl, rfl⟩
theorem isNil_func {x : AV} {u : Value} {p : Bool} (hx : VR ρ x u) (hp : isNil x = some p) (k : isFuncV x = true) : (u = .nilFunc ∧ p = true) ∨ (∃ a b c, u = .func a b c ∧ p = false) := by
  match x, hx, hp, k with
  | .nilFunc, hx, hp, _ => simp only [VR] at hx; subst hx; cases hp; exact .inl ⟨rfl, rfl⟩
  | .func _ _ _, hx, hp, _ => simp only [VR] at hx; obtain ⟨_, _, rfl, _⟩ := hx; cases hp; exact .inr ⟨_, _, _, rfl, rfl⟩
theorem isNil_iface {x : AV} {u : Value} {p : Bool} (hx : VR ρ x u) (hp : isNil x = some p) (k : isIfaceV x = true) : (u = .nilIface ∧ p = true) ∨ (∃ a b, u = .iface a b ∧ p = false) := by
  match x, hx, hp, k with
  | .nilIface, hx, hp, _ => simp only [VR] at hx; subst hx; cases hp; exact .inl ⟨rfl, rfl⟩
  | .iface _ _, hx, hp, _ => simp only [VR] at hx; obtain ⟨_, rfl, _⟩ := hx; cases hp; exact .inr ⟨_, _, rfl, rfl⟩

theorem eqNil_run {t : TypeId} {x y : AV} {u v : Value} {b : Bool} {d : Nat} (hx : VR ρ x u) (hy : VR ρ y v) (hb : eqNil x y = some b)
    (hk : (isSliceV x = true ∧ isSliceV y = true ∧ ∃ e, undOf P t = some (.slice e)) ∨ (isMapV x = true ∧ isMapV y = true ∧ ∃ e f, undOf P t = some (.map e f)) ∨
      (isFuncV x = true ∧ isFuncV y = true ∧ ∃ a b c, undOf P t = some (.func a b c)) ∨ (isIfaceV x = true ∧ isIfaceV y = true ∧ ∃ m, undOf P t = some (.interface m))) :
    (Op.equalIn (d + 1) t u v).run P w = .ok b w := by
  unfold eqNil at hb
  obtain ⟨p, hp, hb⟩ := bnd_eq_some.mp hb
  obtain ⟨q, hq, hb⟩ := bnd_eq_some.mp hb
  rcases hk with ⟨k1, k2, e, hu⟩ | ⟨k1, k2, e, f, hu⟩ | ⟨k1, k2, e, f, g, hu⟩ | ⟨k1, k2, m, hu⟩
  · obtain ⟨a, n, c, rfl, rfl⟩ := isNil_slice hx hp k1
    obtain ⟨a', n', c', rfl, rfl⟩ := isNil_slice hy hq k2
    cases a <;> cases a' <;> simp [cnd] at hb <;> subst hb <;> simp [Op.equalIn, run_und hu]
  · obtain ⟨a, rfl, rfl⟩ := isNil_map hx hp k1
    obtain ⟨a', rfl, rfl⟩ := isNil_map hy hq k2
    cases a <;> cases a' <;> simp [cnd] at hb <;> subst hb <;> simp [Op.equalIn, run_und hu]
  · rcases isNil_func hx hp k1 with ⟨rfl, rfl⟩ | ⟨_, _, _, rfl, rfl⟩ <;> rcases isNil_func hy hq k2 with ⟨rfl, rfl⟩ | ⟨_, _, _, rfl, rfl⟩ <;>
      simp [cnd] at hb <;> subst hb <;> simp [Op.equalIn, run_und hu]
  · rcases isNil_iface hx hp k1 with ⟨rfl, rfl⟩ | ⟨_, _, rfl, rfl⟩ <;> rcases isNil_iface hy hq k2 with ⟨rfl, rfl⟩ | ⟨_, _, rfl, rfl⟩ <;>
      simp [cnd] at hb <;> subst hb <;> simp [Op.equalIn, run_und hu]

theorem eqPtr_run {t e : TypeId} {x y : AV} {u v : Value} {b big : Bool} {d : Nat} (hu : undOf P t = some (.pointer e)) (hbig : big = true → ∃ n, szOf P e = some (n + 1))
    (hx : VR ρ x u) (hy : VR ρ y v) (hb : eqPtr big x y = some b) : (Op.equalIn (d + 1) t u v).run P w = .ok b w := by
  unfold eqPtr at hb
  cases hcx : cptrOf x with
  | some c =>
    rw [hcx] at hb
    replace hb : isNilP y = some b := hb
    cases x <;> simp [cptrOf] at hcx
    cases y <;> simp [isNilP] at hb
    rename_i a
    cases a with
    | some a => simp at hb
    | none =>
      simp only [VR] at hx hy
      obtain ⟨_, _, _, _, rfl, _⟩ := hx
      subst hy; cases hb; simp [Op.equalIn, run_und hu]
  | none =>
  rw [hcx] at hb
  cases hcy : cptrOf y with
  | some c =>
    rw [hcy] at hb
    replace hb : isNilP x = some b := hb
    cases y <;> simp [cptrOf] at hcy
    cases x <;> simp [isNilP] at hb
    rename_i a
    cases a with
    | some a => simp at hb
    | none =>
      simp only [VR] at hx hy
      obtain ⟨_, _, _, _, rfl, _⟩ := hy
      subst hx; cases hb; simp [Op.equalIn, run_und hu]
  | none =>
  rw [hcy] at hb
  replace hb : (bnd (ptrO x) fun a => bnd (ptrO y) fun b => eqLoc big a b) = some b := hb
  clear hcx hcy
  obtain ⟨p, hp, hb⟩ := bnd_eq_some.mp hb
  obtain ⟨q, hq, hb⟩ := bnd_eq_some.mp hb
  cases x <;> simp [ptrO] at hp
  cases y <;> simp [ptrO] at hq
  rw [hp] at hx; rw [hq] at hy; clear hp hq
  cases p with
  | none =>
    cases q with
    | none => simp only [VR] at hx hy; subst hx; subst hy; cases hb; simp [Op.equalIn, run_und hu]
    | some q => simp only [VR] at hx hy; subst hx; obtain ⟨_, _, rfl⟩ := hy; cases hb; simp [Op.equalIn, run_und hu]
  | some p =>
    cases q with
    | none => simp only [VR] at hx hy; subst hy; obtain ⟨_, _, rfl⟩ := hx; cases hb; simp [Op.equalIn, run_und hu]
    | some q =>
      simp only [VR] at hx hy
      obtain ⟨c, hc, rfl⟩ := hx
      obtain ⟨c', hc', rfl⟩ := hy
      simp only [eqLoc] at hb
      rw [cnd_eq] at hb
      split at hb
      · rename_i hh
        cases hb
        rw [Bool.and_eq_true, beqN] at hh
        obtain ⟨h1, h2⟩ := hh
        obtain ⟨n, hn⟩ := hbig h1
        rw [h2] at hc
        rw [hc] at hc'; cases hc'
        simp only [Op.equalIn, Sem.run_bind, run_und hu, Result.andThen_ok, run_sizeOf' hn]
        simp only [ne_eq, Nat.add_eq_zero_iff, Nat.succ_ne_self, and_false, not_false_eq_true, if_true]
        unfold sameAddr
        have e1 : ((c.at p.off).block == (c.at q.off).block) = true := by simp [CLoc.at]
        simp only [e1, if_true]
        have e2 : (c.at p.off == c.at q.off) = Nat.beq p.off q.off := by
          rw [Bool.eq_iff_iff, beqN, beq_iff_eq]
          unfold CLoc.at
          constructor
          · intro hh; injection hh with _ h3; omega
          · intro hh; rw [hh]
        rw [e2]; rfl
      · cases hb

mutual
theorem eqF_run : ∀ (f : Nat) (d : Nat) (t : TypeId) (x y : AV) (u v : Value) (b : Bool), f ≤ d → VR ρ x u → VR ρ y v → (eqF P f t).run x y = some b →
    (Op.equalIn d t u v).run P w = .ok b w
  | 0, _, _, _, _, _, _, _, _, _, _, hb => by cases hb
  | f + 1, 0, _, _, _, _, _, _, hd, _, _, _ => by omega
  | f + 1, d + 1, t, x, y, u, v, b, hd, hx, hy, hb => by
    unfold eqF at hb
    cases hu : undOf P t with
    | none => rw [hu] at hb; cases hb
    | some D =>
      rw [hu] at hb
      cases D with
      | bool =>
        have hb : eqBool x y = some b := hb
        unfold eqBool at hb
        obtain ⟨p, hp, hb⟩ := bnd_eq_some.mp hb
        obtain ⟨q, hq, hb⟩ := bnd_eq_some.mp hb
        cases hb
        rw [boolOf_VR hp hx, boolOf_VR hq hy]
        simp [Op.equalIn, run_und hu]
      | int k =>
        have hb : eqInt x y = some b := hb
        unfold eqInt at hb
        obtain ⟨p, hp, hb⟩ := bnd_eq_some.mp hb
        obtain ⟨q, hq, hb⟩ := bnd_eq_some.mp hb
        rw [cnd_eq] at hb
        split at hb
        · rename_i hk
          cases hb
          rw [intOf_VR hp hx, intOf_VR hq hy, kno_inj hk, eqI_eq]
          simp [Op.equalIn, run_und hu]
        · cases hb
      | string =>
        have hb : eqStr x y = some b := hb
        unfold eqStr at hb
        obtain ⟨p, hp, hb⟩ := bnd_eq_some.mp hb
        obtain ⟨q, hq, hb⟩ := bnd_eq_some.mp hb
        cases hb
        rw [strOf_VR hp hx, strOf_VR hq hy, same_eq]
        simp [Op.equalIn, run_und hu, beq_toListBytes]
      | pointer e =>
        simp only at hb
        cases hs : szOf P e with
        | none => rw [hs] at hb; exact eqPtr_run hu (fun hh => by cases hh) hx hy hb
        | some n =>
          rw [hs] at hb
          cases n with
          | zero => exact eqPtr_run hu (fun hh => by cases hh) hx hy hb
          | succ n => exact eqPtr_run hu (fun _ => ⟨n, hs⟩) hx hy hb
      | interface m =>
        have hb : eqNilOf isIfaceV x y = some b := hb
        unfold eqNilOf at hb
        rw [cnd_eq] at hb
        split at hb
        · rename_i hh
          rw [Bool.and_eq_true] at hh
          exact eqNil_run hx hy hb (.inr (.inr (.inr ⟨hh.1, hh.2, m, hu⟩)))
        · cases hb
      | slice e =>
        have hb : eqNilOf isSliceV x y = some b := hb
        unfold eqNilOf at hb
        rw [cnd_eq] at hb
        split at hb
        · rename_i hh
          rw [Bool.and_eq_true] at hh
          exact eqNil_run hx hy hb (.inl ⟨hh.1, hh.2, e, hu⟩)
        · cases hb
      | map e g =>
        have hb : eqNilOf isMapV x y = some b := hb
        unfold eqNilOf at hb
        rw [cnd_eq] at hb
        split at hb
        · rename_i hh
          rw [Bool.and_eq_true] at hh
          exact eqNil_run hx hy hb (.inr (.inl ⟨hh.1, hh.2, e, g, hu⟩))
        · cases hb
      | func a c g =>
        have hb : eqNilOf isFuncV x y = some b := hb
        unfold eqNilOf at hb
        rw [cnd_eq] at hb
        split at hb
        · rename_i hh
          rw [Bool.and_eq_true] at hh
          exact eqNil_run hx hy hb (.inr (.inr (.inl ⟨hh.1, hh.2, a, c, g, hu⟩)))
        · cases hb
      | struct fs =>
        simp only at hb
        rw [cnd_eq] at hb
        split at hb
        · cases hb
        · rename_i hst
          obtain ⟨p, hp, hb⟩ := bnd_eq_some.mp hb
          obtain ⟨q, hq, hb⟩ := bnd_eq_some.mp hb
          obtain ⟨xs, rfl, hxs⟩ := aggCells_VR hp hx
          obtain ⟨ys, rfl, hys⟩ := aggCells_VR hq hy
          have hfo := fieldsOf_eq hu
          rw [run_equalIn_struct w d t xs ys (by rw [hfo]; exact underlying_of hu) (by simpa using hst), hfo]
          exact eqFieldsF_run f d fs.toList p q xs ys b (by omega) hxs hys hb
      | _ => cases hb
theorem eqFieldsF_run : ∀ (f : Nat) (d : Nat) (fs : List Field) (x y : List AV) (u v : Array Value) (b : Bool), f ≤ d + 1 → VRL ρ x u.toList → VRL ρ y v.toList →
    (eqFieldsF P f fs).run (.agg x) (.agg y) = some b → (Op.eqFields d u v fs).run P w = .ok b w
  | 0, _, _, _, _, _, _, _, _, _, _, hb => by cases hb
  | f + 1, d, [], _, _, _, _, _, _, _, _, hb => by cases hb; rfl
  | f + 1, d, F :: r, x, y, u, v, b, hd, hx, hy, hb => by
    unfold eqFieldsF at hb
    split at hb
    · cases hb
    · rename_i hn
      obtain ⟨p, hp, hb⟩ := bnd_eq_some.mp hb
      obtain ⟨q, hq, hb⟩ := bnd_eq_some.mp hb
      obtain ⟨s, hs, hb⟩ := bnd_eq_some.mp hb
      obtain ⟨p', hp1, hp2⟩ := part_run (w := w) hp hx
      obtain ⟨q', hq1, hq2⟩ := part_run (w := w) hq hy
      have he := eqF_run f d F.type p q p' q' s (by omega) hp2 hq2 hs
      simp only [Op.eqFields, ne_eq, hn, not_false_eq_true, if_true, Sem.run_bind, hp1, hq1, he, Result.andThen_ok]
      cases s with
      | true => exact eqFieldsF_run f d r x y u v b (by omega) hx hy hb
      | false => cases hb; rfl
end

end
end Go.Proofs.YtonojkcnencodaaDoor.BH

end
