/-
  BH: each operation that calls nothing does in the model what the evaluator says: numbers, strings, structs, addresses, reading.
-/
import Derived.Test.YtlgofplbbmjdjaaGreatDoorBhMem
import Derived.Calls
import Derived.Laws.Strings
import Derived.Laws.Strings2
import Derived.Laws.Concat
import Derived.IntWalk
namespace Go.Proofs.YtlgofplbbmjdjaaGreatDoor.BH

section
variable {P : Program} {ρ : Rho} {h : AHeap} {w : World}

/-! ### operands -/
def EnvR (ρ : Rho) (e : Env) (a : Act) : Prop := VRL ρ e a.tmps.toList

theorem nth_VR {e : Env} {a : Act} (he : EnvR ρ e a) (t : Nat) : VR ρ (nth e t) (a.tmps.getD t Go.undef) := by
  rw [nth_eq]
  by_cases ht : t < e.length
  · obtain ⟨v, h1, h2⟩ := VRL.get he (List.getElem?_eq_getElem ht)
    rw [Array.getElem?_toList] at h1
    have e1 : a.tmps.getD t Go.undef = v := by rw [Array.getD_eq_getD_getElem?, h1]; rfl
    rw [e1, List.getD_eq_getElem?_getD, List.getElem?_eq_getElem ht]; exact h2
  · have e1 : a.tmps.getD t Go.undef = Go.undef := by
      have hs := VRL.length he
      rw [Array.getD_eq_getD_getElem?, Array.getElem?_eq_none (by simp at hs; omega)]; rfl
    rw [e1, List.getD_eq_getElem?_getD, List.getElem?_eq_none (by omega)]; exact VR.undef

theorem opv_VR {e : Env} {a : Act} (he : EnvR ρ e a) {x : Operand} {u : AV} (hx : opv e x = some u) : VR ρ u (a.eval x) := by
  cases x with
  | tmp t => cases hx; exact nth_VR he t
  | const v => exact ofValue_VR hx
  | global g => cases hx
  | func f => cases hx; simp only [VR]; exact ⟨#[], #[], rfl, VRL.nil, VRL.nil⟩

theorem opvs_cons (e : Env) (x : Operand) (r : List Operand) : opvs e (x :: r) = bnd (opv e x) fun a => bnd (opvs e r) fun l => some (a :: l) := rfl
theorem opvs_VRL {e : Env} {a : Act} (he : EnvR ρ e a) : ∀ {l : List Operand} {r : List AV}, opvs e l = some r → VRL ρ r (l.map a.eval)
  | [], _, hl => by cases hl; exact VRL.nil
  | x :: t, _, hl => by
    rw [opvs_cons] at hl
    obtain ⟨u, hu, hl⟩ := bnd_eq_some.mp hl
    obtain ⟨l, hl', hl⟩ := bnd_eq_some.mp hl
    cases hl
    exact VRL.cons (opv_VR he hu) (opvs_VRL he hl')

/-! ### what a value is, by what stands for it -/
theorem intOf_VR {x : AV} {v : Value} {i : IntKind × Int} (hx : intOf x = some i) (hv : VR ρ x v) : v = .int i.1 i.2 := by
  cases x <;> simp [intOf] at hx
  subst hx; simpa only [VR] using hv
theorem strOf_VR {x : AV} {v : Value} {s : List UInt8} (hx : strOf x = some s) (hv : VR ρ x v) : v = .string ⟨s.toArray⟩ := by
  cases x <;> simp [strOf] at hx
  subst hx; simpa only [VR] using hv
theorem boolOf_VR {x : AV} {v : Value} {b : Bool} (hx : boolOf x = some b) (hv : VR ρ x v) : v = .bool b := by
  cases x <;> simp [boolOf] at hx
  subst hx; simpa only [VR] using hv
theorem ptrOf_VR {x : AV} {v : Value} {a : ALoc} (hx : ptrOf x = some a) (hv : VR ρ x v) : ∃ c, ρ a.obj = some c ∧ v = .pointer (some (c.at a.off)) := by
  cases x <;> simp [ptrOf] at hx
  subst hx; simpa only [VR] using hv
theorem aggCells_VR {x : AV} {v : Value} {cs : List AV} (hx : aggCells x = some cs) (hv : VR ρ x v) : ∃ vs, v = .agg vs ∧ VRL ρ cs vs.toList := by
  cases x <;> simp [aggCells] at hx
  subst hx; simpa only [VR] using hv
theorem sliceOf_VR {x : AV} {v : Value} {s : Option ALoc × Nat × ACap} (hx : sliceOf x = some s) (hv : VR ρ x v) : VR ρ (.slice s.1 s.2.1 s.2.2) v := by
  cases x <;> simp [sliceOf] at hx
  subst hx; exact hv
theorem sliceOf_eq {x : AV} {s : Option ALoc × Nat × ACap} (hx : sliceOf x = some s) : x = .slice s.1 s.2.1 s.2.2 := by
  cases x <;> simp [sliceOf] at hx
  subst hx; rfl

theorem natI_eq {a : Int} {n : Nat} (hn : natI a = some n) : a = (n : Int) := by
  cases a <;> simp [natI, icase] at hn
  subst hn; rfl
theorem eqI_eq (a b : Int) : eqI a b = (a == b) := by
  cases a <;> cases b <;> simp only [eqI, icase]
  · rename_i m n; rw [Bool.eq_iff_iff, beqN, beq_iff_eq]; exact ⟨fun e => by rw [e], fun e => by injection e⟩
  · rw [Bool.eq_iff_iff, beq_iff_eq]; simp
  · rw [Bool.eq_iff_iff, beq_iff_eq]; simp
  · rename_i m n; rw [Bool.eq_iff_iff, beqN, beq_iff_eq]; exact ⟨fun e => by rw [e], fun e => by injection e⟩
theorem ltI_eq (a b : Int) : ltI a b = decide (a < b) := by
  cases a <;> cases b <;> simp only [ltI, icase]
  · rename_i m n; rw [Bool.eq_iff_iff, bleN, decide_eq_true_eq, Int.ofNat_eq_natCast, Int.ofNat_eq_natCast]; omega
  · rw [Bool.eq_iff_iff, decide_eq_true_eq, Int.ofNat_eq_natCast]; simp; omega
  · rw [Bool.eq_iff_iff, decide_eq_true_eq, Int.ofNat_eq_natCast]; simp; omega
  · rename_i m n; rw [Bool.eq_iff_iff, bleN, decide_eq_true_eq]; omega

theorem kno_inj {j k : IntKind} (hk : sameKind j k = true) : j = k := by
  unfold sameKind at hk
  rw [beqN] at hk
  cases j <;> cases k <;> first | rfl | (simp [kno] at hk)

theorem fits_wrap {k : IntKind} {n : Int} (hf : fits k n = true) : k.wrap n = n := by
  cases k <;> cases n <;> simp only [fits, icase, Bool.false_eq_true, bleN] at hf
  · exact IntWalk.i32_in _ (by rw [Int.ofNat_eq_natCast]; omega)
  · exact IntWalk.i32_in _ (by omega)
  · exact IntWalk.i64_in _ (by rw [Int.ofNat_eq_natCast]; omega)
  · exact IntWalk.i64_in _ (by omega)
  · exact IntWalk.u8_in _ (by rw [Int.ofNat_eq_natCast]; omega)
  · exact IntWalk.u32_in _ (by rw [Int.ofNat_eq_natCast]; omega)
  · exact IntWalk.u64_in _ (by rw [Int.ofNat_eq_natCast]; omega)
theorem wrapF_eq (k : IntKind) (n : Int) : wrapF k n = k.wrap n := by
  unfold wrapF
  rw [cnd_eq]
  split
  · rename_i hf; rw [fits_wrap hf]
  · rfl

theorem same_eq : ∀ (a b : List UInt8), same a b = (a == b)
  | [], [] => rfl
  | [], _ :: _ => rfl
  | _ :: _, [] => rfl
  | x :: r, y :: s => by
    show cnd (Nat.beq x.toNat y.toNat) (same r s) false = _
    rw [same_eq r s]
    by_cases hxy : x = y
    · subst hxy
      rw [(beqN _ _).mpr rfl]; simp
    · have : Nat.beq x.toNat y.toNat = false := by
        rw [← Bool.not_eq_true, beqN]; exact fun hh => hxy (UInt8.toNat_inj.mp hh)
      rw [this, cnd_false, Bool.eq_iff_iff]
      simp [hxy]
theorem bytesLess_cons (a b : UInt8) (x y : List UInt8) : Op.bytesLess (a :: x) (b :: y) = (a < b || (a == b && Op.bytesLess x y)) := by
  rw [Op.bytesLess]
theorem less_eq : ∀ (a b : List UInt8), less a b = Op.bytesLess a b
  | [], [] => rfl
  | [], _ :: _ => rfl
  | _ :: _, [] => rfl
  | x :: r, y :: s => by
    show cnd (Nat.ble (x.toNat + 1) y.toNat) true (cnd (Nat.beq x.toNat y.toNat) (less r s) false) = _
    rw [less_eq r s, bytesLess_cons]
    by_cases h1 : x.toNat + 1 ≤ y.toNat
    · rw [(bleN _ _).mpr h1]
      have : x < y := by rw [UInt8.lt_iff_toNat_lt]; omega
      simp [this]
    · have e1 : Nat.ble (x.toNat + 1) y.toNat = false := by rw [← Bool.not_eq_true, bleN]; exact h1
      rw [e1, cnd_false]
      have h2 : ¬ x < y := by rw [UInt8.lt_iff_toNat_lt]; omega
      by_cases h3 : x = y
      · subst h3
        rw [(beqN _ _).mpr rfl]; simp
      · have e2 : Nat.beq x.toNat y.toNat = false := by rw [← Bool.not_eq_true, beqN]; exact fun hh => h3 (UInt8.toNat_inj.mp hh)
        rw [e2, cnd_false]
        simp [h2, h3]

/-! ### whole numbers -/
theorem sub_is (a b : Int) : Int.sub a b = a - b := rfl
theorem mul_is (a b : Int) : Int.mul a b = a * b := rfl
theorem intF_run {op : BinOp} {k : IntKind} {x y : Int} {v : AV} (hv : (intF op).run k x y = some v) (t : TypeId) :
    ∃ u, (binOp op t (.int k x) (.int k y)).run P w = .ok u w ∧ VR ρ v u := by
  cases op <;> simp only [intF] at hv
  case quo =>
    rw [cnd_eq, eqI_eq] at hv
    split at hv
    · cases hv
    · rename_i hy
      cases hv
      refine ⟨_, ?_, by simp only [VR]; rfl⟩
      have : ¬ y = 0 := by intro e; subst e; exact hy rfl
      simp [binOp, Op.intDiv, this, wrapF_eq]
  case rem =>
    rw [cnd_eq, eqI_eq] at hv
    split at hv
    · cases hv
    · rename_i hy
      cases hv
      refine ⟨_, ?_, by simp only [VR]; rfl⟩
      have : ¬ y = 0 := by intro e; subst e; exact hy rfl
      simp [binOp, Op.intDiv, this]
  case shl => cases hv
  case shr => cases hv
  all_goals
    cases hv
    refine ⟨_, ?_, by simp only [VR]; rfl⟩
    first
      | (simp only [wrapF_eq]; simp [binOp, Op.intArith]; done)
      | (simp only [wrapF_eq]; simp [binOp, Op.intBits]; done)
      | (simp only [eqI_eq, ltI_eq]; simp [binOp, Op.intCmp]; done)
      | (simp only [eqI_eq, ltI_eq]; simp [binOp, Op.intCmp]; rw [Bool.eq_iff_iff]; simp; done)
      | (simp only [wrapF_eq, sub_is]; simp [binOp, Op.intArith]; done)
      | (simp only [wrapF_eq, mul_is]; simp [binOp, Op.intArith]; done)
      | (simp only [wrapF_eq]; rfl)

end
end Go.Proofs.YtlgofplbbmjdjaaGreatDoor.BH
