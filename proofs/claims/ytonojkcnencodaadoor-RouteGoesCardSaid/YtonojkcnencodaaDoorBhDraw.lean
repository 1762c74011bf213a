/-
  BH: regions whose order is free: what the evaluator finds in the text's order holds in every order.
-/
import Derived.Test.YtonojkcnencodaaDoorBhFun
import Derived.Orders
namespace Go.Proofs.YtonojkcnencodaaDoor.BH

section
variable {P : Program} {ρ : Rho} {h : AHeap} {w : World}

theorem getN_eq {α : Type} (l : List α) (n : Nat) : getN l n = l[n]? := by
  induction n generalizing l with
  | zero => cases l <;> rfl
  | succ n ih => cases l with
    | nil => rfl
    | cons a r => exact (ih r).trans (by simp)

/-! ### what an operation looks at -/
section
variable {e e' : Env}
theorem opv_congr {x : Operand} (hx : ∀ t, x = .tmp t → nth e t = nth e' t) : opv e x = opv e' x := by
  cases x with
  | tmp t => show some (nth e t) = some (nth e' t); rw [hx t rfl]
  | _ => rfl
theorem opvs_congr : ∀ {l : List Operand}, (∀ x ∈ l, opv e x = opv e' x) → opvs e l = opvs e' l
  | [], _ => rfl
  | x :: r, hx => by
    rw [opvs_cons, opvs_cons, hx x List.mem_cons_self, opvs_congr fun y hy => hx y (List.mem_cons_of_mem _ hy)]
theorem parts_congr : ∀ {l : List (Nat × Operand)}, (∀ x ∈ l, opv e x.2 = opv e' x.2) → parts e l = parts e' l
  | [], _ => rfl
  | x :: r, hx => by
    rw [parts_cons, parts_cons, hx x List.mem_cons_self, parts_congr fun y hy => hx y (List.mem_cons_of_mem _ hy)]
theorem opvo_congr {o : Option Operand} (hx : ∀ x ∈ o.toList, opv e x = opv e' x) : opvo e o = opvo e' o := by
  cases o with
  | none => rfl
  | some x =>
    show bnd (opv e x) _ = bnd (opv e' x) _
    rw [hx x (by simp)]

theorem operF_congr {call : CallV} (o : Op) (hx : ∀ x ∈ o.operands, opv e x = opv e' x) : (operF P o).run call e h = (operF P o).run call e' h := by
  cases o with
  | call c =>
    have ha : ∀ x ∈ c.args.toList, opv e x = opv e' x := fun x hm => hx x (by simp only [Op.operands, Call.operands]; cases c.callee <;> simp_all)
    show (operCallF P c).run call e h = (operCallF P c).run call e' h
    unfold operCallF
    split
    · show bnd (opvs e _) _ = bnd (opvs e' _) _
      rw [opvs_congr ha]
    · rename_i f _ hf
      have h1 : opv e f = opv e' f := hx f (by simp only [Op.operands, Call.operands, hf]; simp)
      show bnd (opv e f) _ = bnd (opv e' f) _
      rw [h1, opvs_congr ha]
    · split
      · show (deleteO P c.argTypes.toList c.args.toList).run e h = (deleteO P c.argTypes.toList c.args.toList).run e' h
        unfold deleteO
        split
        · split
          · rename_i m k hl
            rw [hl] at ha
            show bnd (opv e m) _ = bnd (opv e' m) _
            rw [ha m (by simp), ha k (by simp)]
          · rfl
        · rfl
      · show bnd (opvs e _) _ = bnd (opvs e' _) _
        rw [opvs_congr ha]
    · rfl
  | move x | assign x | nilCheck x =>
    show bnd (opv e x) _ = bnd (opv e' x) _
    rw [hx x (by simp [Op.operands])]
  | makeChan _ x | box _ x | load _ x | unOp _ _ x | convert _ _ x | makeInterface _ x | fieldAddr _ x _ | field _ x _ | extract x _ =>
    show bnd (opv e x) _ = bnd (opv e' x) _
    rw [hx x (by simp [Op.operands])]
  | store _ x y | makeSlice _ x y | indexAddr _ x y | index _ x y | mapEntry _ x y =>
    show bnd (opv e x) _ = bnd (opv e' x) _
    rw [hx x (by simp [Op.operands]), hx y (by simp [Op.operands])]
  | lookup _ x y _ =>
    show bnd (opv e x) _ = bnd (opv e' x) _
    rw [hx x (by simp [Op.operands]), hx y (by simp [Op.operands])]
  | mapUpdate _ x y z | entryStore _ x y z =>
    show bnd (opv e x) _ = bnd (opv e' x) _
    rw [hx x (by simp [Op.operands]), hx y (by simp [Op.operands]), hx z (by simp [Op.operands])]
  | makeMap _ n => cases n <;> rfl
  | binOp _ _ x y _ =>
    show bnd (opv e x) _ = bnd (opv e' x) _
    rw [hx x (by simp [Op.operands]), hx y (by simp [Op.operands])]
  | pick x y z =>
    show bnd (opv e x) _ = bnd (opv e' x) _
    rw [hx x (by simp [Op.operands]), hx y (by simp [Op.operands]), hx z (by simp [Op.operands])]
  | build _ ps =>
    show bnd (parts e _) _ = bnd (parts e' _) _
    rw [parts_congr fun p hp => hx p.2 (by simp only [Op.operands]; simpa using ⟨p.1, by simpa using hp⟩)]
  | buildSlice _ _ ps =>
    show bnd (parts e _) _ = bnd (parts e' _) _
    rw [parts_congr fun p hp => hx p.2 (by simp only [Op.operands]; simpa using ⟨p.1, by simpa using hp⟩)]
  | makeFunc _ first captured =>
    show bnd (opvs e _) _ = bnd (opvs e' _) _
    rw [opvs_congr (l := first.toList) fun x hm => hx x (by simp only [Op.operands]; simp_all), opvs_congr (l := captured.toList) fun x hm => hx x (by simp only [Op.operands]; simp_all)]
  | slice _ x l b m =>
    show bnd (opv e x) _ = bnd (opv e' x) _
    rw [hx x (by simp [Op.operands]), opvo_congr (o := l) fun y hm => hx y (by simp only [Op.operands]; simp_all), opvo_congr (o := b) fun y hm => hx y (by simp only [Op.operands]; simp_all),
      opvo_congr (o := m) fun y hm => hx y (by simp only [Op.operands]; simp_all)]
  | _ => rfl

theorem gopF_congr {call : CallV} {all : List Oper} {o : Oper} (hx : ∀ t ∈ looks all o, nth e t = nth e' t) : (gopF P all o).run call e h = (gopF P all o).run call e' h := by
  have h1 : (operF P o.op).run call e h = (operF P o.op).run call e' h := operF_congr o.op fun x hm => opv_congr fun t ht => hx t (by
    subst ht
    unfold looks
    refine List.mem_append_left _ (List.mem_filterMap.mpr ⟨.tmp t, by simpa using hm, rfl⟩))
  unfold gopF
  split
  · exact h1
  · rename_i j want hg
    have h2 : guardV ((all[j]?).bind Oper.dst) want e = guardV ((all[j]?).bind Oper.dst) want e' := by
      unfold guardV
      cases hd : (all[j]?).bind Oper.dst with
      | none => rfl
      | some d =>
        have : nth e d = nth e' d := hx d (by
          unfold looks
          rw [hg]
          refine List.mem_append_right _ ?_
          have hd' : (all[j]?).bind (fun x => x.dst) = some d := hd
          simp [hd'])
        simp only [this]
    show (if _ then _ else _) = (if _ then _ else _)
    rw [h1, h2]
end

/-! ### operations that leave memory as it is -/
theorem pure1_any {x : Operand} {f : AV → Option AV} {e : Env} {v : AV} {h' : AHeap} (hr : (pure1 x f).run e h = some (v, h')) : h' = h ∧ ∀ g, (pure1 x f).run e g = some (v, g) := by
  obtain ⟨a, ha, hr⟩ := bnd_eq_some.mp hr
  obtain ⟨u, hu, hr⟩ := bnd_eq_some.mp hr
  cases hr
  exact ⟨rfl, fun g => bnd_eq_some.mpr ⟨a, ha, bnd_eq_some.mpr ⟨_, hu, rfl⟩⟩⟩
theorem pure2_any {x y : Operand} {f : AV → AV → Option AV} {e : Env} {v : AV} {h' : AHeap} (hr : (pure2 x y f).run e h = some (v, h')) : h' = h ∧ ∀ g, (pure2 x y f).run e g = some (v, g) := by
  obtain ⟨a, ha, hr⟩ := bnd_eq_some.mp hr
  obtain ⟨b, hb, hr⟩ := bnd_eq_some.mp hr
  obtain ⟨u, hu, hr⟩ := bnd_eq_some.mp hr
  cases hr
  exact ⟨rfl, fun g => bnd_eq_some.mpr ⟨a, ha, bnd_eq_some.mpr ⟨b, hb, bnd_eq_some.mpr ⟨_, hu, rfl⟩⟩⟩⟩
theorem read1_heap {x : Operand} {f : AHeap → AV → Option AV} {e : Env} {v : AV} {h' : AHeap} (hr : (read1 x f).run e h = some (v, h')) : h' = h := by
  obtain ⟨a, ha, hr⟩ := bnd_eq_some.mp hr
  obtain ⟨u, hu, hr⟩ := bnd_eq_some.mp hr
  cases hr; rfl

theorem conv_light {s d : TypeId} (hk : convKind P s d ≠ 2) {x v : AV} {h' : AHeap} (hr : (convF P s d).run h x = some (v, h')) : h' = h ∧ (convKind P s d = 0 → ∀ g, (convF P s d).run g x = some (v, g)) := by
  unfold convF at hr ⊢
  unfold convKind at hk ⊢
  cases hd : undOf P d with
  | none => rw [hd] at hr; cases hr
  | some D =>
    rw [hd] at hr hk
    cases D with
    | int k =>
      simp only at hr ⊢
      cases hs : undOf P s with
      | none => rw [hs] at hr; cases hr
      | some S =>
        rw [hs] at hr
        cases S <;> first
          | (cases hr; done)
          | (obtain ⟨i, hi, hr⟩ := bnd_eq_some.mp hr
             cases hr
             exact ⟨rfl, fun _ g => bnd_eq_some.mpr ⟨i, hi, rfl⟩⟩)
    | string =>
      simp only at hr hk ⊢
      cases hs : undOf P s with
      | none => rw [hs] at hr; cases hr
      | some S =>
        rw [hs] at hr
        cases S with
        | string =>
          obtain ⟨i, hi, hr⟩ := bnd_eq_some.mp hr
          cases hr
          exact ⟨rfl, fun _ g => bnd_eq_some.mpr ⟨i, hi, rfl⟩⟩
        | slice e =>
          refine ⟨?_, fun h0 => by cases h0⟩
          simp only [cnd_eq] at hr
          split at hr
          · replace hr : toStr h x = some (v, h') := hr
            unfold toStr at hr
            cases hlx : lstOf x with
            | some q =>
              rw [hlx] at hr
              replace hr : (bnd (takeN q.2.1 q.1) fun cs => bnd (bytesOfCells cs) fun l => some (AV.str l, h)) = some (v, h') := hr
              obtain ⟨cs, hcs, hr⟩ := bnd_eq_some.mp hr
              obtain ⟨l, hl, hr⟩ := bnd_eq_some.mp hr
              cases hr; rfl
            | none =>
            rw [hlx] at hr
            replace hr : (bnd (sliceOf x) fun v => cnd (Nat.beq v.2.1 0) (some (AV.str [], h)) (bnd v.1 fun a => bnd (readRow h a v.2.1) fun cs => bnd (bytesOfCells cs) fun l => some (AV.str l, h))) = some (v, h') := hr
            obtain ⟨q, hq, hr⟩ := bnd_eq_some.mp hr
            rw [cnd_eq] at hr
            split at hr
            · cases hr; rfl
            · obtain ⟨a, ha, hr⟩ := bnd_eq_some.mp hr
              obtain ⟨cs, hcs, hr⟩ := bnd_eq_some.mp hr
              obtain ⟨l, hl, hr⟩ := bnd_eq_some.mp hr
              cases hr; rfl
          · cases hr
        | _ => cases hr
    | _ => exact absurd rfl hk

theorem len_light {tys : List TypeId} {e : Env} {args : List Operand} {v : AV} {h' : AHeap} (hr : (opBuiltin (builtR (lenF P tys)) args).run e h = some (v, h')) :
    h' = h ∧ (lenKind P tys = 0 → ∀ g, (opBuiltin (builtR (lenF P tys)) args).run e g = some (v, g)) := by
  obtain ⟨l, hl, hr⟩ := bnd_eq_some.mp hr
  replace hr : (builtR (lenF P tys)).run h l = some (v, h') := hr
  have key : ∀ g, (opBuiltin (builtR (lenF P tys)) args).run e g = (builtR (lenF P tys)).run g l := by
    intro g
    show bnd (opvs e args) _ = _
    rw [hl]; rfl
  simp only [key]
  unfold builtR at hr ⊢
  simp only at hr ⊢
  split at hr
  · rename_i x
    obtain ⟨u, hu, hr⟩ := bnd_eq_some.mp hr
    cases hr
    refine ⟨rfl, fun hk g => ?_⟩
    have : (lenF P tys).run g x = some v := by
      rw [← hu]
      unfold lenF
      unfold lenKind at hk
      cases tys with
      | nil => cases hk
      | cons t r =>
        simp only at hk ⊢
        cases hu : undOf P t with
        | none => rfl
        | some D => rw [hu] at hk; cases D <;> first | rfl | cases hk
    rw [this]; rfl
  · cases hr

theorem cap_light {tys : List TypeId} {e : Env} {args : List Operand} {v : AV} {h' : AHeap} (hr : (opBuiltin (builtR (capF P tys)) args).run e h = some (v, h')) :
    h' = h ∧ ∀ g, (opBuiltin (builtR (capF P tys)) args).run e g = some (v, g) := by
  obtain ⟨l, hl, hr⟩ := bnd_eq_some.mp hr
  replace hr : (builtR (capF P tys)).run h l = some (v, h') := hr
  have key : ∀ g, (opBuiltin (builtR (capF P tys)) args).run e g = (builtR (capF P tys)).run g l := by
    intro g
    show bnd (opvs e args) _ = _
    rw [hl]; rfl
  simp only [key]
  unfold builtR at hr ⊢
  simp only at hr ⊢
  split at hr
  · rename_i x
    obtain ⟨u, hu, hr⟩ := bnd_eq_some.mp hr
    cases hr
    refine ⟨rfl, fun g => ?_⟩
    have : (capF P tys).run g x = some v := by
      rw [← hu]
      unfold capF
      cases tys with
      | nil => rfl
      | cons t r =>
        simp only
        cases hu : undOf P t with
        | none => rfl
        | some D => cases D <;> rfl
    rw [this]; rfl
  · cases hr

theorem minmax_light {mx : Bool} {e : Env} {args : List Operand} {v : AV} {h' : AHeap} (hr : (opBuiltin (builtM mx) args).run e h = some (v, h')) :
    h' = h ∧ ∀ g, (opBuiltin (builtM mx) args).run e g = some (v, g) := by
  obtain ⟨l, hl, hr⟩ := bnd_eq_some.mp hr
  replace hr : (builtM mx).run h l = some (v, h') := hr
  have key : ∀ g, (opBuiltin (builtM mx) args).run e g = (builtM mx).run g l := by
    intro g
    show bnd (opvs e args) _ = _
    rw [hl]; rfl
  simp only [key]
  unfold builtM at hr ⊢
  simp only at hr ⊢
  split at hr
  · obtain ⟨u, hu, hr⟩ := bnd_eq_some.mp hr
    cases hr
    refine ⟨rfl, fun g => ?_⟩
    simp only [hu, bnd_some]
  · cases hr

theorem oper_light {call : CallV} (o : Op) (hk : opKind P o ≠ 2) {e : Env} {v : AV} {h' : AHeap} (hr : (operF P o).run call e h = some (v, h')) :
    h' = h ∧ (opKind P o = 0 → ∀ g, (operF P o).run call e g = some (v, g)) := by
  have k1 : ∀ {q : h' = h ∧ ∀ g, (operF P o).run call e g = some (v, g)}, h' = h ∧ (opKind P o = 0 → ∀ g, (operF P o).run call e g = some (v, g)) := fun {q} => ⟨q.1, fun _ => q.2⟩
  cases o with
  | move x | assign x | nilCheck x => exact k1 (q := pure1_any hr)
  | unOp _ _ x | makeInterface _ x | fieldAddr _ x _ | field _ x _ | extract x _ => exact k1 (q := pure1_any hr)
  | indexAddr _ x y | index _ x y => exact k1 (q := pure2_any hr)
  | binOp _ _ x y _ => exact k1 (q := pure2_any hr)
  | pick x y z =>
    obtain ⟨a, ha, hr⟩ := bnd_eq_some.mp hr
    obtain ⟨b, hb, hr⟩ := bnd_eq_some.mp hr
    obtain ⟨c, hc, hr⟩ := bnd_eq_some.mp hr
    obtain ⟨t, ht, hr⟩ := bnd_eq_some.mp hr
    cases hr
    exact ⟨rfl, fun _ g => bnd_eq_some.mpr ⟨a, ha, bnd_eq_some.mpr ⟨b, hb, bnd_eq_some.mpr ⟨c, hc, bnd_eq_some.mpr ⟨t, ht, rfl⟩⟩⟩⟩⟩
  | build t ps =>
    obtain ⟨a, ha, hr⟩ := bnd_eq_some.mp hr
    obtain ⟨b, hb, hr⟩ := bnd_eq_some.mp hr
    cases hr
    exact ⟨rfl, fun _ g => bnd_eq_some.mpr ⟨a, ha, bnd_eq_some.mpr ⟨_, hb, rfl⟩⟩⟩
  | makeFunc fn first captured =>
    obtain ⟨a, ha, hr⟩ := bnd_eq_some.mp hr
    obtain ⟨b, hb, hr⟩ := bnd_eq_some.mp hr
    cases hr
    exact ⟨rfl, fun _ g => bnd_eq_some.mpr ⟨a, ha, bnd_eq_some.mpr ⟨_, hb, rfl⟩⟩⟩
  | load t x => exact ⟨read1_heap hr, fun h0 => by cases h0⟩
  | lookup t x y ok =>
    obtain ⟨a, ha, hr⟩ := bnd_eq_some.mp hr
    obtain ⟨b, hb, hr⟩ := bnd_eq_some.mp hr
    obtain ⟨u, hu, hr⟩ := bnd_eq_some.mp hr
    cases hr
    exact ⟨rfl, fun h0 => by cases h0⟩
  | slice t x l b m =>
    obtain ⟨a, ha, hr⟩ := bnd_eq_some.mp hr
    obtain ⟨a, ha, hr⟩ := bnd_eq_some.mp hr
    obtain ⟨a, ha, hr⟩ := bnd_eq_some.mp hr
    obtain ⟨a, ha, hr⟩ := bnd_eq_some.mp hr
    obtain ⟨a, ha, hr⟩ := bnd_eq_some.mp hr
    cases hr
    exact ⟨rfl, fun h0 => by cases h0⟩
  | convert s d x =>
    obtain ⟨a, ha, hr⟩ := bnd_eq_some.mp hr
    obtain ⟨g1, g2⟩ := conv_light hk hr
    exact ⟨g1, fun h0 g => bnd_eq_some.mpr ⟨a, ha, g2 h0 g⟩⟩
  | call c =>
    have e1 : opKind P (.call c) = match c.callee with
      | .builtin .len => lenKind P c.argTypes.toList
      | .builtin .cap | .builtin .min | .builtin .max => 0
      | _ => 2 := rfl
    replace hr : (operCallF P c).run call e h = some (v, h') := hr
    show h' = h ∧ (opKind P (.call c) = 0 → ∀ g, (operCallF P c).run call e g = some (v, g))
    rw [e1] at hk ⊢
    unfold operCallF at hr ⊢
    cases hc : c.callee with
    | builtin b =>
      rw [hc] at hr hk
      cases b with
      | len => exact len_light hr
      | cap => exact ⟨(cap_light hr).1, fun _ => (cap_light hr).2⟩
      | min => exact ⟨(minmax_light hr).1, fun _ => (minmax_light hr).2⟩
      | max => exact ⟨(minmax_light hr).1, fun _ => (minmax_light hr).2⟩
      | _ => exact absurd rfl hk
    | _ => rw [hc] at hk; exact absurd rfl hk
  | _ => exact absurd rfl hk

theorem gop_light {call : CallV} {all : List Oper} {o : Oper} (hk : opKind P o.op ≠ 2) {e : Env} {v : AV} {h' : AHeap} (hr : (gopF P all o).run call e h = some (v, h')) :
    h' = h ∧ (opKind P o.op = 0 → ∀ g, (gopF P all o).run call e g = some (v, g)) := by
  unfold gopF at hr ⊢
  split
  · rename_i hg
    rw [hg] at hr
    exact oper_light o.op hk hr
  · rename_i j want hg
    rw [hg] at hr
    replace hr : (if guardV ((all[j]?).bind Oper.dst) want e = true then (operF P o.op).run call e h else some (.undef, h)) = some (v, h') := hr
    show h' = h ∧ (_ → ∀ g, (if guardV ((all[j]?).bind Oper.dst) want e = true then (operF P o.op).run call e g else some (.undef, g)) = some (v, g))
    split at hr
    · rename_i hw
      simp only [hw, if_true]
      exact oper_light o.op hk hr
    · rename_i hw
      cases hr
      simp [hw]

end
end Go.Proofs.YtonojkcnencodaaDoor.BH
