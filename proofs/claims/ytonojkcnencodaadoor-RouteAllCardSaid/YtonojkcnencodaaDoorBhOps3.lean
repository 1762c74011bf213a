/-
  BH: binary operations whole; addresses, fields, slices, building: what is reckoned without writing.
-/
import Derived.Test.YtonojkcnencodaaDoorBhOps2
namespace Go.Proofs.YtonojkcnencodaaDoor.BH

section
variable {P : Program} {ρ : Rho} {h : AHeap} {w : World}

theorem isNilP_eq {y : AV} {b : Bool} (hb : isNilP y = some b) : y = .ptr none ∧ b = false := by
  unfold isNilP at hb
  split at hb
  · cases hb; exact ⟨rfl, rfl⟩
  · cases hb
theorem eqGuard_run {op : BinOp} {t : TypeId} {x y : Operand} {u v : Value}
    (hn : ¬ (u = .nilIface ∧ v = .nilIface) ∨ (isConst x || isConst y) = true)
    (ha : ∀ a b, u = .agg a → v = .agg b → P.eqGuardType P.depth t = false) : (eqGuard op t x y u v).run P w = .ok () w := by
  by_cases h1 : u = .nilIface ∧ v = .nilIface
  · obtain ⟨rfl, rfl⟩ := h1
    rcases hn with hn | hn
    · exact absurd ⟨rfl, rfl⟩ hn
    · cases x <;> cases y <;> simp [isConst] at hn <;> cases op <;> simp [eqGuard]
  · by_cases h2 : ∃ a b, u = .agg a ∧ v = .agg b
    · obtain ⟨a, b, rfl, rfl⟩ := h2
      have := ha a b rfl rfl
      cases op <;> simp [eqGuard, run_program, this]
    · cases u <;> cases v <;> first
        | (exact absurd ⟨rfl, rfl⟩ h1)
        | (exact absurd ⟨_, _, rfl, rfl⟩ h2)
        | (cases op <;> simp [eqGuard]; done)

theorem strF_run {op : BinOp} {x y : List UInt8} {v : AV} (hv : (strF op).run x y = some v) (t : TypeId) :
    ∃ u, (binOp op t (.string ⟨x.toArray⟩) (.string ⟨y.toArray⟩)).run P w = .ok u w ∧ VR ρ v u := by
  cases op <;> simp only [strF] at hv <;> first | cases hv | skip
  case add =>
    rw [cnd_eq] at hv
    split at hv
    · rename_i hl
      cases hv
      rw [bleN] at hl
      simp only [lenA_eq] at hl
      refine ⟨.string ⟨(x ++ y).toArray⟩, ?_, by simp only [VR, appB_eq]⟩
      rw [binOp_string_add, run_string_add_sum (P := P) w _ _ (by simp [ByteArray.size]; omega), ByteArray.mk_append_mk]
    · cases hv
  all_goals
    refine ⟨_, ?_, by simp only [VR]; rfl⟩
    simp [binOp, Op.stringOp, same_eq, less_eq]

theorem binOp_eql_run {op : BinOp} {t : TypeId} {u v : Value} {b : Bool} (hi : ∀ k n k' n', ¬ (u = .int k n ∧ v = .int k' n')) (hs : ∀ s s', ¬ (u = .string s ∧ v = .string s'))
    (hf : ∀ k n k' n', ¬ (u = .float k n ∧ v = .float k' n')) (hc : ∀ k n m k' n' m', ¬ (u = .complex k n m ∧ v = .complex k' n' m'))
    (he : (Op.equalIn Op.maxDepth t u v).run P w = .ok b w) :
    (op = .eql → (binOp op t u v).run P w = .ok (.bool b) w) ∧ (op = .neq → (binOp op t u v).run P w = .ok (.bool (!b)) w) := by
  constructor
  · rintro rfl
    have : binOp .eql t u v = (do pure (.bool (← Op.equal t u v))) := by
      cases u <;> cases v <;> first
        | rfl
        | (exact absurd ⟨rfl, rfl⟩ (hi _ _ _ _))
        | (exact absurd ⟨rfl, rfl⟩ (hs _ _))
        | (exact absurd ⟨rfl, rfl⟩ (hf _ _ _ _))
        | (exact absurd ⟨rfl, rfl⟩ (hc _ _ _ _ _ _))
    rw [this]
    simp [Op.equal, he]
  · rintro rfl
    have : binOp .neq t u v = (do pure (.bool (!(← Op.equal t u v)))) := by
      cases u <;> cases v <;> first
        | rfl
        | (exact absurd ⟨rfl, rfl⟩ (hi _ _ _ _))
        | (exact absurd ⟨rfl, rfl⟩ (hs _ _))
        | (exact absurd ⟨rfl, rfl⟩ (hf _ _ _ _))
        | (exact absurd ⟨rfl, rfl⟩ (hc _ _ _ _ _ _))
    rw [this]
    simp [Op.equal, he]

/-- What a comparison by type has to do with: never two numbers or two strings at a type that is none of these. -/
def cmpTy (P : Program) (t : TypeId) : Prop := (∀ k, undOf P t ≠ some (.int k)) ∧ undOf P t ≠ some .string

theorem ptrO_VR {y : AV} {v : Value} {q : Option ALoc} (hq : ptrO y = some q) (hy : VR ρ y v) : ∃ p, v = .pointer p := by
  match y, hq, hy with
  | .ptr none, _, hy => simp only [VR] at hy; exact ⟨_, hy⟩
  | .ptr (some _), _, hy => simp only [VR] at hy; obtain ⟨_, _, rfl⟩ := hy; exact ⟨_, rfl⟩

theorem eqF_kinds {f : Nat} {t : TypeId} {x y : AV} {u v : Value} {b : Bool} (_hx : VR ρ x u) (hy : VR ρ y v) (hb : (eqF P f t).run x y = some b) (ht : cmpTy P t) :
    (∀ k n k' n', ¬ (u = .int k n ∧ v = .int k' n')) ∧ (∀ s s', ¬ (u = .string s ∧ v = .string s')) ∧
    (∀ k n k' n', ¬ (u = .float k n ∧ v = .float k' n')) ∧ (∀ k n m k' n' m', ¬ (u = .complex k n m ∧ v = .complex k' n' m')) := by
  cases f with
  | zero => cases hb
  | succ f =>
    unfold eqF at hb
    have key : (∃ p, v = .bool p) ∨ (∃ p, v = .pointer p) ∨ (∃ a n c, v = .slice a n c) ∨ (∃ a, v = .map a) ∨ v = .nilFunc ∨ (∃ a b c, v = .func a b c) ∨ v = .nilIface ∨
        (∃ a b, v = .iface a b) ∨ (∃ a, v = .agg a) := by
      cases hu : undOf P t with
      | none => rw [hu] at hb; cases hb
      | some D =>
        rw [hu] at hb
        cases D with
        | bool =>
          have hb : eqBool x y = some b := hb
          unfold eqBool at hb
          obtain ⟨p, hp, hb⟩ := bnd_eq_some.mp hb
          obtain ⟨q, hq, hb⟩ := bnd_eq_some.mp hb
          exact .inl ⟨_, boolOf_VR hq hy⟩
        | int k => exact absurd hu (ht.1 k)
        | string => exact absurd hu ht.2
        | pointer e =>
          have hb : ∃ big, eqPtr big x y = some b := by
            simp only at hb
            split at hb <;> exact ⟨_, hb⟩
          obtain ⟨big, hb⟩ := hb
          unfold eqPtr at hb
          have hptr : ∀ {z : AV} {p : Value} {c : List AV × Nat}, VR ρ z p → cptrOf z = some c → ∃ a, p = .pointer a := by
            intro z p c hz hc
            cases z <;> simp [cptrOf] at hc
            simp only [VR] at hz
            obtain ⟨_, _, _, _, rfl, _⟩ := hz
            exact ⟨_, rfl⟩
          cases hcx : cptrOf x with
          | some c =>
            rw [hcx] at hb
            replace hb : isNilP y = some b := hb
            obtain ⟨rfl, _⟩ := isNilP_eq hb
            simp only [VR] at hy; exact .inr (.inl ⟨_, hy⟩)
          | none =>
          rw [hcx] at hb
          cases hcy : cptrOf y with
          | some c => exact .inr (.inl (hptr hy hcy))
          | none =>
          rw [hcy] at hb
          replace hb : (bnd (ptrO x) fun a => bnd (ptrO y) fun b => eqLoc big a b) = some b := hb
          obtain ⟨p, hp, hb⟩ := bnd_eq_some.mp hb
          obtain ⟨q, hq, hb⟩ := bnd_eq_some.mp hb
          exact .inr (.inl (ptrO_VR hq hy))
        | interface m =>
          have hb : eqNilOf isIfaceV x y = some b := hb
          unfold eqNilOf at hb
          rw [cnd_eq] at hb
          split at hb
          · rename_i hh
            rw [Bool.and_eq_true] at hh
            unfold eqNil at hb
            obtain ⟨p, hp, hb⟩ := bnd_eq_some.mp hb
            obtain ⟨q, hq, hb⟩ := bnd_eq_some.mp hb
            rcases isNil_iface hy hq hh.2 with ⟨rfl, _⟩ | ⟨_, _, rfl, _⟩
            · exact .inr (.inr (.inr (.inr (.inr (.inr (.inl rfl))))))
            · exact .inr (.inr (.inr (.inr (.inr (.inr (.inr (.inl ⟨_, _, rfl⟩)))))))
          · cases hb
        | slice e =>
          have hb : eqNilOf isSliceV x y = some b := hb
          unfold eqNilOf at hb
          rw [cnd_eq] at hb
          split at hb
          · rename_i hh
            rw [Bool.and_eq_true] at hh
            unfold eqNil at hb
            obtain ⟨p, hp, hb⟩ := bnd_eq_some.mp hb
            obtain ⟨q, hq, hb⟩ := bnd_eq_some.mp hb
            obtain ⟨_, _, _, rfl, _⟩ := isNil_slice hy hq hh.2
            exact .inr (.inr (.inl ⟨_, _, _, rfl⟩))
          · cases hb
        | map e g =>
          have hb : eqNilOf isMapV x y = some b := hb
          unfold eqNilOf at hb
          rw [cnd_eq] at hb
          split at hb
          · rename_i hh
            rw [Bool.and_eq_true] at hh
            unfold eqNil at hb
            obtain ⟨p, hp, hb⟩ := bnd_eq_some.mp hb
            obtain ⟨q, hq, hb⟩ := bnd_eq_some.mp hb
            obtain ⟨_, rfl, _⟩ := isNil_map hy hq hh.2
            exact .inr (.inr (.inr (.inl ⟨_, rfl⟩)))
          · cases hb
        | func a c g =>
          have hb : eqNilOf isFuncV x y = some b := hb
          unfold eqNilOf at hb
          rw [cnd_eq] at hb
          split at hb
          · rename_i hh
            rw [Bool.and_eq_true] at hh
            unfold eqNil at hb
            obtain ⟨p, hp, hb⟩ := bnd_eq_some.mp hb
            obtain ⟨q, hq, hb⟩ := bnd_eq_some.mp hb
            rcases isNil_func hy hq hh.2 with ⟨rfl, _⟩ | ⟨_, _, _, rfl, _⟩
            · exact .inr (.inr (.inr (.inr (.inl rfl))))
            · exact .inr (.inr (.inr (.inr (.inr (.inl ⟨_, _, _, rfl⟩)))))
          · cases hb
        | struct fs =>
          simp only at hb
          rw [cnd_eq] at hb
          split at hb
          · cases hb
          · obtain ⟨p, hp, hb⟩ := bnd_eq_some.mp hb
            obtain ⟨q, hq, hb⟩ := bnd_eq_some.mp hb
            obtain ⟨ys, rfl, _⟩ := aggCells_VR hq hy
            exact .inr (.inr (.inr (.inr (.inr (.inr (.inr (.inr ⟨_, rfl⟩)))))))
        | _ => cases hb
    rcases key with ⟨_, rfl⟩ | ⟨_, rfl⟩ | ⟨_, _, _, rfl⟩ | ⟨_, rfl⟩ | rfl | ⟨_, _, _, rfl⟩ | rfl | ⟨_, _, rfl⟩ | ⟨_, rfl⟩ <;>
      refine ⟨fun _ _ _ _ hh => ?_, fun _ _ hh => ?_, fun _ _ _ _ hh => ?_, fun _ _ _ _ _ _ hh => ?_⟩ <;> exact absurd hh.2 (by simp)

theorem isNil_of_nilIface {x : AV} (hx : VR ρ x .nilIface) : isNil x = some true := by
  match x, hx with
  | .nilIface, _ => rfl
  | .bool _, hx => simp [VR] at hx
  | .int _ _, hx => simp [VR] at hx
  | .str _, hx => simp [VR] at hx
  | .ptr none, hx => simp [VR] at hx
  | .ptr (some _), hx => simp [VR] at hx
  | .slice none _ _, hx => simp [VR] at hx
  | .slice (some _) _ _, hx => simp [VR] at hx
  | .map none, hx => simp [VR] at hx
  | .map (some _), hx => simp [VR] at hx
  | .chan none, hx => simp [VR] at hx
  | .chan (some _), hx => simp [VR] at hx
  | .func _ _ _, hx => simp [VR] at hx
  | .nilFunc, hx => simp [VR] at hx
  | .iface _ _, hx => simp [VR] at hx
  | .agg _, hx => simp [VR] at hx
  | .tuple _, hx => simp [VR] at hx

theorem cmpF_run {op : BinOp} {t : TypeId} {xo yo : Operand} {x y : AV} {u v : Value} {b : Bool} (hx : VR ρ x u) (hy : VR ρ y v) (ht : cmpTy P t)
    (hb : (cmpF P t (isConst xo || isConst yo)).run x y = some b) :
    (eqGuard op t xo yo u v).run P w = .ok () w ∧ (eqF P 40 t).run x y = some b := by
  unfold cmpF at hb
  have other : (∀ m, undOf P t ≠ some (.interface m)) → (∀ m, undOf P t ≠ some (.struct m)) → (∀ n e, undOf P t ≠ some (.array n e)) → (eqF P 40 t).run x y = some b →
      (eqGuard op t xo yo u v).run P w = .ok () w ∧ (eqF P 40 t).run x y = some b := by
    intro h1 h2 h3 hb
    refine ⟨eqGuard_run ?_ ?_, hb⟩
    · left
      rintro ⟨rfl, rfl⟩
      have e1 := isNil_of_nilIface hx
      unfold eqF at hb
      cases hu : undOf P t with
      | none => rw [hu] at hb; cases hb
      | some D =>
        rw [hu] at hb
        have nx : ∀ z : AV, VR ρ z .nilIface → boolOf z = none ∧ ptrO z = none ∧ isSliceV z = false ∧ isMapV z = false ∧ isFuncV z = false ∧ cptrOf z = none ∧ isNilP z = none := by
          intro z hz
          match z, hz with
          | .nilIface, _ => exact ⟨rfl, rfl, rfl, rfl, rfl, rfl, rfl⟩
          | .bool _, hx => simp [VR] at hx
          | .int _ _, hx => simp [VR] at hx
          | .str _, hx => simp [VR] at hx
          | .ptr none, hx => simp [VR] at hx
          | .ptr (some _), hx => simp [VR] at hx
          | .slice none _ _, hx => simp [VR] at hx
          | .slice (some _) _ _, hx => simp [VR] at hx
          | .map none, hx => simp [VR] at hx
          | .map (some _), hx => simp [VR] at hx
          | .chan none, hx => simp [VR] at hx
          | .chan (some _), hx => simp [VR] at hx
          | .func _ _ _, hx => simp [VR] at hx
          | .nilFunc, hx => simp [VR] at hx
          | .iface _ _, hx => simp [VR] at hx
          | .agg _, hx => simp [VR] at hx
          | .tuple _, hx => simp [VR] at hx
          | .lst _ _ _ _, hx => simp [VR] at hx
          | .cptr _ _, hx => simp [VR] at hx
        obtain ⟨n1, n2, n3, n4, n5, n6, n7⟩ := nx x hx
        cases D with
        | bool => have hb : eqBool x y = some b := hb; unfold eqBool at hb; rw [n1] at hb; cases hb
        | int k => exact absurd hu (ht.1 k)
        | string => exact absurd hu ht.2
        | pointer e =>
          have hb : ∃ big, eqPtr big x y = some b := by simp only at hb; split at hb <;> exact ⟨_, hb⟩
          obtain ⟨big, hb⟩ := hb
          unfold eqPtr at hb
          rw [n2, n6, n7] at hb
          cases hcy : cptrOf y with
          | some c => rw [hcy] at hb; cases hb
          | none => rw [hcy] at hb; cases hb
        | interface m => exact absurd hu (h1 m)
        | slice e => have hb : eqNilOf isSliceV x y = some b := hb; unfold eqNilOf at hb; rw [n3] at hb; cases hb
        | map e g => have hb : eqNilOf isMapV x y = some b := hb; unfold eqNilOf at hb; rw [n4] at hb; cases hb
        | func a c g => have hb : eqNilOf isFuncV x y = some b := hb; unfold eqNilOf at hb; rw [n5] at hb; cases hb
        | struct fs => exact absurd hu (h2 fs)
        | _ => cases hb
    · intro p q hp _
      subst hp
      exfalso
      unfold eqF at hb
      cases hu : undOf P t with
      | none => rw [hu] at hb; cases hb
      | some D =>
        rw [hu] at hb
        have nx : boolOf x = none ∧ ptrO x = none ∧ isSliceV x = false ∧ isMapV x = false ∧ isFuncV x = false ∧ cptrOf x = none ∧ isNilP x = none := by
          match x, hx with
          | .agg _, _ => exact ⟨rfl, rfl, rfl, rfl, rfl, rfl, rfl⟩
          | .bool _, hx => simp [VR] at hx
          | .int _ _, hx => simp [VR] at hx
          | .str _, hx => simp [VR] at hx
          | .ptr none, hx => simp [VR] at hx
          | .ptr (some _), hx => simp [VR] at hx
          | .slice none _ _, hx => simp [VR] at hx
          | .slice (some _) _ _, hx => simp [VR] at hx
          | .map none, hx => simp [VR] at hx
          | .map (some _), hx => simp [VR] at hx
          | .chan none, hx => simp [VR] at hx
          | .chan (some _), hx => simp [VR] at hx
          | .func _ _ _, hx => simp [VR] at hx
          | .nilFunc, hx => simp [VR] at hx
          | .iface _ _, hx => simp [VR] at hx
          | .nilIface, hx => simp [VR] at hx
          | .tuple _, hx => simp [VR] at hx
          | .lst _ _ _ _, hx => simp [VR] at hx
          | .cptr _ _, hx => simp [VR] at hx
        obtain ⟨n1, n2, n3, n4, n5, n6, n7⟩ := nx
        cases D with
        | bool => have hb : eqBool x y = some b := hb; unfold eqBool at hb; rw [n1] at hb; cases hb
        | int k => exact absurd hu (ht.1 k)
        | string => exact absurd hu ht.2
        | pointer e =>
          have hb : ∃ big, eqPtr big x y = some b := by simp only at hb; split at hb <;> exact ⟨_, hb⟩
          obtain ⟨big, hb⟩ := hb
          unfold eqPtr at hb
          rw [n2, n6, n7] at hb
          cases hcy : cptrOf y with
          | some c => rw [hcy] at hb; cases hb
          | none => rw [hcy] at hb; cases hb
        | interface m => exact absurd hu (h1 m)
        | slice e => have hb : eqNilOf isSliceV x y = some b := hb; unfold eqNilOf at hb; rw [n3] at hb; cases hb
        | map e g => have hb : eqNilOf isMapV x y = some b := hb; unfold eqNilOf at hb; rw [n4] at hb; cases hb
        | func a c g => have hb : eqNilOf isFuncV x y = some b := hb; unfold eqNilOf at hb; rw [n5] at hb; cases hb
        | struct fs => exact absurd hu (h2 fs)
        | _ => cases hb
  cases hu : undOf P t with
  | none => rw [hu] at hb; exact other (by rw [hu]; simp) (by rw [hu]; simp) (by rw [hu]; simp) hb
  | some D =>
    rw [hu] at hb
    cases D with
    | interface m =>
      simp only at hb
      have noAgg : ∀ p q, u = .agg p → v = .agg q → P.eqGuardType P.depth t = false := by
        intro p q hp _
        subst hp
        exfalso
        have hb' : (eqF P 40 t).run x y = some b := by
          unfold ifaceOk at hb
          simp only [cnd_eq] at hb
          split at hb
          · exact hb
          · obtain ⟨_, _, hb⟩ := bnd_eq_some.mp hb
            obtain ⟨_, _, hb⟩ := bnd_eq_some.mp hb
            split at hb
            · cases hb
            · exact hb
        unfold eqF at hb'
        rw [hu] at hb'
        have hb : eqNilOf isIfaceV x y = some b := hb'
        unfold eqNilOf at hb
        have : isIfaceV x = false := by
          match x, hx with
          | .agg _, _ => rfl
          | .bool _, hx => simp [VR] at hx
          | .int _ _, hx => simp [VR] at hx
          | .str _, hx => simp [VR] at hx
          | .ptr none, hx => simp [VR] at hx
          | .ptr (some _), hx => simp [VR] at hx
          | .slice none _ _, hx => simp [VR] at hx
          | .slice (some _) _ _, hx => simp [VR] at hx
          | .map none, hx => simp [VR] at hx
          | .map (some _), hx => simp [VR] at hx
          | .chan none, hx => simp [VR] at hx
          | .chan (some _), hx => simp [VR] at hx
          | .func _ _ _, hx => simp [VR] at hx
          | .nilFunc, hx => simp [VR] at hx
          | .iface _ _, hx => simp [VR] at hx
          | .nilIface, hx => simp [VR] at hx
          | .tuple _, hx => simp [VR] at hx
          | .lst _ _ _ _, hx => simp [VR] at hx
          | .cptr _ _, hx => simp [VR] at hx
        rw [this] at hb; cases hb
      unfold ifaceOk at hb
      simp only [cnd_eq] at hb
      split at hb
      · rename_i hl
        exact ⟨eqGuard_run (.inr hl) noAgg, hb⟩
      · obtain ⟨p, hp, hb⟩ := bnd_eq_some.mp hb
        obtain ⟨q, hq, hb⟩ := bnd_eq_some.mp hb
        split at hb
        · cases hb
        · rename_i hpq
          refine ⟨eqGuard_run (.inl ?_) noAgg, hb⟩
          rintro ⟨rfl, rfl⟩
          rw [isNil_of_nilIface hx] at hp; cases hp
          rw [isNil_of_nilIface hy] at hq; cases hq
          exact hpq rfl
    | struct fs =>
      simp only [cnd_eq] at hb
      split at hb
      · cases hb
      · rename_i hg
        refine ⟨eqGuard_run (.inl ?_) (fun _ _ _ _ => by simpa using hg), hb⟩
        rintro ⟨rfl, rfl⟩
        unfold eqF at hb
        rw [hu] at hb
        simp only [cnd_eq] at hb
        split at hb
        · cases hb
        · obtain ⟨p, hp, hb⟩ := bnd_eq_some.mp hb
          obtain ⟨_, e, _⟩ := aggCells_VR hp hx
          cases e
    | array n e => cases hb
    | _ => exact other (by rw [hu]; simp) (by rw [hu]; simp) (by rw [hu]; simp) hb

theorem binF_run {op : BinOp} {t : TypeId} {xo yo : Operand} {x y : AV} {u v : Value} {r : AV} (hx : VR ρ x u) (hy : VR ρ y v)
    (hb : (binF P op t (isConst xo || isConst yo)).run x y = some r) :
    ∃ r', (do eqGuard op t xo yo u v; binOp op t u v : Sem Value).run P w = .ok r' w ∧ VR ρ r r' := by
  unfold binF at hb
  cases hu : undOf P t with
  | none => rw [hu] at hb; cases hb
  | some D =>
    rw [hu] at hb
    have cmp : (∀ k, D ≠ .int k) → D ≠ .string → ((match op with | .eql => eqlF (cmpF P t (isConst xo || isConst yo)) | .neq => neqF (cmpF P t (isConst xo || isConst yo)) | _ => (⟨fun _ _ => none⟩ : BinF)).run x y = some r) →
        ∃ r', (do eqGuard op t xo yo u v; binOp op t u v : Sem Value).run P w = .ok r' w ∧ VR ρ r r' := by
      intro h1 h2 hb
      have ht : cmpTy P t := ⟨fun k e => h1 k (by rw [hu] at e; injection e), fun e => h2 (by rw [hu] at e; injection e)⟩
      have fin : ∀ b, (cmpF P t (isConst xo || isConst yo)).run x y = some b →
          (op = .eql → (do eqGuard op t xo yo u v; binOp op t u v : Sem Value).run P w = .ok (.bool b) w) ∧ (op = .neq → (do eqGuard op t xo yo u v; binOp op t u v : Sem Value).run P w = .ok (.bool (!b)) w) := by
        intro b hc
        obtain ⟨g1, g2⟩ := cmpF_run (w := w) (op := op) hx hy ht hc
        obtain ⟨k1, k2, k3, k4⟩ := eqF_kinds hx hy g2 ht
        have he := eqF_run (P := P) (w := w) 40 Op.maxDepth t x y u v b (by decide) hx hy g2
        obtain ⟨b1, b2⟩ := binOp_eql_run (op := op) k1 k2 k3 k4 he
        simp only [Sem.run_bind, g1, Result.andThen_ok]
        exact ⟨b1, b2⟩
      cases op <;> first | cases hb | skip
      · obtain ⟨b, hc, hb⟩ := bnd_eq_some.mp hb
        cases hb
        exact ⟨_, (fin b hc).1 rfl, by simp only [VR]⟩
      · obtain ⟨b, hc, hb⟩ := bnd_eq_some.mp hb
        cases hb
        exact ⟨_, (fin b hc).2 rfl, by simp only [VR]⟩
    cases D with
    | int k0 =>
      simp only at hb
      have shift : ∀ f : IntKind → Int → Int → Option AV, intShift f x y = some r → ∃ a b : IntKind × Int, u = .int a.1 a.2 ∧ v = .int b.1 b.2 ∧ f a.1 a.2 b.2 = some r := by
        intro f hf
        unfold intShift at hf
        obtain ⟨p, hp, hf⟩ := bnd_eq_some.mp hf
        obtain ⟨q, hq, hf⟩ := bnd_eq_some.mp hf
        exact ⟨p, q, intOf_VR hp hx, intOf_VR hq hy, hf⟩
      have plain : intBin (intF op) x y = some r → ∃ r', (do eqGuard op t xo yo u v; binOp op t u v : Sem Value).run P w = .ok r' w ∧ VR ρ r r' := by
        intro hf
        unfold intBin at hf
        obtain ⟨p, hp, hf⟩ := bnd_eq_some.mp hf
        obtain ⟨q, hq, hf⟩ := bnd_eq_some.mp hf
        rw [cnd_eq] at hf
        split at hf
        · rename_i hk
          rw [intOf_VR hp hx, intOf_VR hq hy, ← kno_inj hk]
          obtain ⟨r', g1, g2⟩ := intF_run (P := P) (ρ := ρ) (w := w) hf t
          exact ⟨r', by simp only [eqGuard_at_int, Sem.run_bind, Sem.run_pure, Result.andThen_ok]; exact g1, g2⟩
        · cases hf
      cases op <;> first | exact plain hb | skip
      · obtain ⟨a, b, rfl, rfl, hf⟩ := shift _ hb
        unfold shlV at hf
        obtain ⟨n, hn, hf⟩ := bnd_eq_some.mp hf
        cases hf
        have e := natI_eq hn
        refine ⟨_, ?_, by simp only [VR]; rfl⟩
        simp only [eqGuard_at_int, Sem.run_bind, Sem.run_pure, Result.andThen_ok, binOp_shl]
        unfold Op.shift
        rw [e, if_neg (by omega), wrapF_eq]
        simp only [Int.toNat_natCast]
        rfl
      · obtain ⟨a, b, rfl, rfl, hf⟩ := shift _ hb
        unfold shrV at hf
        obtain ⟨n, hn, hf⟩ := bnd_eq_some.mp hf
        cases hf
        have e := natI_eq hn
        refine ⟨_, ?_, by simp only [VR]; rfl⟩
        simp only [eqGuard_at_int, Sem.run_bind, Sem.run_pure, Result.andThen_ok, binOp_shr]
        unfold Op.shift
        rw [e, if_neg (by omega)]
        simp only [Int.toNat_natCast]
        rfl
    | string =>
      have hb : strBin (strF op) x y = some r := hb
      unfold strBin at hb
      obtain ⟨p, hp, hb⟩ := bnd_eq_some.mp hb
      obtain ⟨q, hq, hb⟩ := bnd_eq_some.mp hb
      rw [strOf_VR hp hx, strOf_VR hq hy]
      obtain ⟨r', g1, g2⟩ := strF_run (P := P) (ρ := ρ) (w := w) hb t
      exact ⟨r', by simp only [eqGuard_at_string, Sem.run_bind, Sem.run_pure, Result.andThen_ok]; exact g1, g2⟩
    | _ => exact cmp (by simp) (by simp) hb

end
end Go.Proofs.YtonojkcnencodaaDoor.BH
