/-
  BH: regions whose order is free: what the evaluator finds in the text's order holds in every order.
-/
import Derived.Test.YtonojkcnencodaaDoorBhFun
import Derived.Orders
section
namespace Go.Proofs.YtonojkcnencodaaDoor.BH

section
variable {P : Program} {ρ : Rho} {h : AHeap} {w : World}

theorem getN_eq {α : Type} (l : List α) (n : Nat) : getN l n = l[n]? := by
  induction n generalizing l with
  | zero => cases l <;> rfl
  | succ n ih => cases l with
    | nil => rfl
    | cons a r => exact (ih r).trans (by simp)

/-! ### what an operation looks at -/
section
variable {e e' : Env}
theorem opv_congr {x : Operand} (hx : ∀ t, x = .tmp t → nth e t = nth e' t) : opv e x = opv e' x := by
  cases x with
  | tmp t => show some (nth e t) = some (nth e' t); rw [hx t rfl]
  | _ => rfl
theorem opvs_congr : ∀ {l : List Operand}, (∀ x ∈ l, opv e x = opv e' x) → opvs e l = opvs e' l
  | [], _ => rfl
  | x :: r, hx => by
    rw [opvs_cons, opvs_cons, hx x List.mem_cons_self, opvs_congr fun y hy => hx y (List.mem_cons_of_mem _ hy)]
theorem parts_congr : ∀ {l : List (Nat × Operand)}, (∀ x ∈ l, opv e x.2 = opv e' x.2) → parts e l = parts e' l
  | [], _ => rfl
  | x :: r, hx => by
    rw [parts_cons, parts_cons, hx x List.mem_cons_self, parts_congr fun y hy => hx y (List.mem_cons_of_mem _ hy)]
theorem opvo_congr {o : Option Operand} (hx : ∀ x ∈ o.toList, opv e x = opv e' x) : opvo e o = opvo e' o := by
  cases o with
  | none => rfl
  | some x =>
    show bnd (opv e x) _ = bnd (opv e' x) _
    rw [hx x (by simp)]

theorem operF_congr {call : CallV} (o : Op) (hx : ∀ x ∈ o.operands, opv e x = opv e' x) : (operF P o).run call e h = (operF P o).run call e' h := by
  cases o with
  | call c =>
    have ha : ∀ x ∈ c.args.toList, opv e x = opv e' x := fun x hm => hx x (by simp only [Op.operands, Call.operands]; cases c.callee <;> simp_all)
    show (operCallF P c).run call e h = (operCallF P c).run call e' h
    unfold operCallF
    split
    · show bnd (opvs e _) _ = bnd (opvs e' _) _
      rw [opvs_congr ha]
    · rename_i f _ hf
      have h1 : opv e f = opv e' f := hx f (by simp only [Op.operands, Call.operands, hf]; simp)
      show bnd (opv e f) _ = bnd (opv e' f) _
      rw [h1, opvs_congr ha]
    · split
      · show (deleteO P c.argTypes.toList c.args.toList).run e h = (deleteO P c.argTypes.toList c.args.toList).run e' h
        unfold deleteO
        split
        · split
          · rename_i m k hl
            rw [hl] at ha
            show bnd (opv e m) _ = bnd (opv e' m) _
            rw [ha m (by simp), ha k (by simp)]
          · rfl
        · rfl
      · show bnd (opvs e _) _ = bnd (opvs e' _) _
        rw [opvs_congr ha]
    · rfl
  | move x | assign x | nilCheck x =>
    show bnd (opv e x) _ = bnd (opv e' x) _
    rw [hx x (by simp [Op.operands])]
  | makeChan _ x | box _ x | load _ x | unOp _ _ x | convert _ _ x | makeInterface _ x | fieldAddr _ x _ | field _ x _ | extract x _ =>
    show bnd (opv e x) _ = bnd (opv e' x) _
    rw [hx x (by simp [Op.operands])]
  | store _ x y | makeSlice _ x y | indexAddr _ x y | index _ x y | mapEntry _ x y =>
    show bnd (opv e x) _ = bnd (opv e' x) _
    rw [hx x (by simp [Op.operands]), hx y (by simp [Op.operands])]
  | lookup _ x y _ =>
    show bnd (opv e x) _ = bnd (opv e' x) _
    rw [hx x (by simp [Op.operands]), hx y (by simp [Op.operands])]
  | mapUpdate _ x y z | entryStore _ x y z =>
    show bnd (opv e x) _ = bnd (opv e' x) _
    rw [hx x (by simp [Op.operands]), hx y (by simp [Op.operands]), hx z (by simp [Op.operands])]
  | makeMap _ n => cases n <;> rfl
  | binOp _ _ x y _ =>
    show bnd (opv e x) _ = bnd (opv e' x) _
    rw [hx x (by simp [Op.operands]), hx y (by simp [Op.operands])]
  | pick x y z =>
    show bnd (opv e x) _ = bnd (opv e' x) _
    rw [hx x (by simp [Op.operands]), hx y (by simp [Op.operands]), hx z (by simp [Op.operands])]
  | build _ ps =>
    show bnd (parts e _) _ = bnd (parts e' _) _
    rw [parts_congr fun p hp => hx p.2 (by simp only [Op.operands]; simpa using ⟨p.1, by simpa using hp⟩)]
  | buildSlice _ _ ps =>
    show bnd (parts e _) _ = bnd (parts e' _) _
    rw [parts_congr fun p hp => hx p.2 (by simp only [Op.operands]; simpa using ⟨p.1, by simpa using hp⟩)]
  | makeFunc _ first captured =>
    show bnd (opvs e _) _ = bnd (opvs e' _) _
    rw [opvs_congr (l := first.toList) fun x hm => hx x (by simp only [Op.operands]; simp_all), opvs_congr (l := captured.toList) fun x hm => hx x (by simp only [Op.operands]; simp_all)]
  | slice _ x l b m =>
    show bnd (opv e x) _ = bnd (opv e' x) _
    rw [hx x (by simp [Op.operands]), opvo_congr (o := l) fun y hm => hx y (by simp only [Op.operands]; simp_all), opvo_congr (o := b) fun y hm => hx y (by simp only [Op.operands]; simp_all),
      opvo_congr (o := m) fun y hm => hx y (by simp only [Op.operands]; simp_all)]
  | _ => rfl

theorem gopF_congr {call : CallV} {all : List Oper} {o : Oper} (hx : ∀ t ∈ looks all o, nth e t = nth e' t) : (gopF P all o).run call e h = (gopF P all o).run call e' h := by
  have h1 : (operF P o.op).run call e h = (operF P o.op).run call e' h := operF_congr o.op fun x hm => opv_congr fun t ht => hx t (by
    subst ht
    unfold looks
    refine List.mem_append_left _ (List.mem_filterMap.mpr ⟨.tmp t, by simpa using hm, rfl⟩))
  unfold gopF
  split
  · exact h1
  · rename_i j want hg
    have h2 : guardV ((all[j]?).bind Oper.dst) want e = guardV ((all[j]?).bind Oper.dst) want e' := by
      unfold guardV
      cases hd : (all[j]?).bind Oper.dst with
      | none => rfl
      | some d =>
        have : nth e d = nth e' d := hx d (by
          unfold looks
          rw [hg]
          refine List.mem_append_right _ ?_
          have hd' : (all[j]?).bind (fun x => x.dst) = some d := hd
          simp [hd'])
        simp only [this]
    show (if _ then _ else _) = (if _ then _ else _)
    rw [h1, h2]
end

/-! ### operations that leave memory as it is -/
theorem pure1_any {x : Operand} {f : AV → Option AV} {e : Env} {v : AV} {h' : AHeap} (hr : (pure1 x f).run e h = some (v, h')) : h' = h ∧ ∀ g, (pure1 x f).run e g = some (v, g) := by
  obtain ⟨a, ha, hr⟩ := bnd_eq_some.mp hr
  obtain ⟨u, hu, hr⟩ := bnd_eq_some.mp hr
  cases hr
  exact ⟨rfl, fun g => bnd_eq_some.mpr ⟨a, ha, bnd_eq_some.mpr ⟨_, hu, rfl⟩⟩⟩
theorem pure2_any {x y : Operand} {f : AV → AV → Option AV} {e : Env} {v : AV} {h' : AHeap} (hr : (pure2 x y f).run e h = some (v, h')) : h' = h ∧ ∀ g, (pure2 x y f).run e g = some (v, g) := by
  obtain ⟨a, ha, hr⟩ := bnd_eq_some.mp hr
  obtain ⟨b, hb, hr⟩ := bnd_eq_some.mp hr
  obtain ⟨u, hu, hr⟩ := bnd_eq_some.mp hr
  cases hr
  exact ⟨rfl, fun g => bnd_eq_some.mpr ⟨a, ha, bnd_eq_some.mpr ⟨b, hb, bnd_eq_some.mpr ⟨_, hu, rfl⟩⟩⟩⟩
theorem read1_heap {x : Operand} {f : AHeap → AV → Option AV} {e : Env} {v : AV} {h' : AHeap} (hr : (read1 x f).run e h = some (v, h')) : h' = h := by
  obtain ⟨a, ha, hr⟩ := bnd_eq_some.mp hr
  obtain ⟨u, hu, hr⟩ := bnd_eq_some.mp hr
  cases hr; rfl

theorem conv_light {s d : TypeId} (hk : convKind P s d ≠ 2) {x v : AV} {h' : AHeap} (hr : (convF P s d).run h x = some (v, h')) : h' = h ∧ (convKind P s d = 0 → ∀ g, (convF P s d).run g x = some (v, g)) := by
  unfold convF at hr ⊢
  unfold convKind at hk ⊢
  cases hd : undOf P d with
  | none => rw [hd] at hr; cases hr
  | some D =>
    rw [hd] at hr hk
    cases D with
    | int k =>
      simp only at hr ⊢
      cases hs : undOf P s with
      | none => rw [hs] at hr; cases hr
      | some S =>
        rw [hs] at hr
        cases S <;> first
          | (cases hr; done)
          | (obtain ⟨i, hi, hr⟩ := bnd_eq_some.mp hr
             cases hr
             exact ⟨rfl, fun _ g => bnd_eq_some.mpr ⟨i, hi, rfl⟩⟩)
    | string =>
      simp only at hr hk ⊢
      cases hs : undOf P s with
      | none => rw [hs] at hr; cases hr
      | some S =>
        rw [hs] at hr
        cases S with
        | string =>
          obtain ⟨i, hi, hr⟩ := bnd_eq_some.mp hr
          cases hr
          exact ⟨rfl, fun _ g => bnd_eq_some.mpr ⟨i, hi, rfl⟩⟩
        | slice e =>
          refine ⟨?_, fun h0 => by cases h0⟩
          simp only [cnd_eq] at hr
          split at hr
          · replace hr : toStr h x = some (v, h') := hr
            unfold toStr at hr
            cases hlx : lstOf x with
            | some q =>
              rw [hlx] at hr
              replace hr : (bnd (takeN q.2.1 q.1) fun cs => bnd (bytesOfCells cs) fun l => some (AV.str l, h)) = some (v, h') := hr
              obtain ⟨cs, hcs, hr⟩ := bnd_eq_some.mp hr
              obtain ⟨l, hl, hr⟩ := bnd_eq_some.mp hr
              cases hr; rfl
            | none =>
            rw [hlx] at hr
            replace hr : (bnd (sliceOf x) fun v => cnd (Nat.beq v.2.1 0) (some (AV.str [], h)) (bnd v.1 fun a => bnd (readRow h a v.2.1) fun cs => bnd (bytesOfCells cs) fun l => some (AV.str l, h))) = some (v, h') := hr
            obtain ⟨q, hq, hr⟩ := bnd_eq_some.mp hr
            rw [cnd_eq] at hr
            split at hr
            · cases hr; rfl
            · obtain ⟨a, ha, hr⟩ := bnd_eq_some.mp hr
              obtain ⟨cs, hcs, hr⟩ := bnd_eq_some.mp hr
              obtain ⟨l, hl, hr⟩ := bnd_eq_some.mp hr
              cases hr; rfl
          · cases hr
        | _ => cases hr
    | _ => exact absurd rfl hk

theorem len_light {tys : List TypeId} {e : Env} {args : List Operand} {v : AV} {h' : AHeap} (hr : (opBuiltin (builtR (lenF P tys)) args).run e h = some (v, h')) :
    h' = h ∧ (lenKind P tys = 0 → ∀ g, (opBuiltin (builtR (lenF P tys)) args).run e g = some (v, g)) := by
  obtain ⟨l, hl, hr⟩ := bnd_eq_some.mp hr
  replace hr : (builtR (lenF P tys)).run h l = some (v, h') := hr
  have key : ∀ g, (opBuiltin (builtR (lenF P tys)) args).run e g = (builtR (lenF P tys)).run g l := by
    intro g
    show bnd (opvs e args) _ = _
    rw [hl]; rfl
  simp only [key]
  unfold builtR at hr ⊢
  simp only at hr ⊢
  split at hr
  · rename_i x
    obtain ⟨u, hu, hr⟩ := bnd_eq_some.mp hr
    cases hr
    refine ⟨rfl, fun hk g => ?_⟩
    have : (lenF P tys).run g x = some v := by
      rw [← hu]
      unfold lenF
      unfold lenKind at hk
      cases tys with
      | nil => cases hk
      | cons t r =>
        simp only at hk ⊢
        cases hu : undOf P t with
        | none => rfl
        | some D => rw [hu] at hk; cases D <;> first | rfl | cases hk
    rw [this]; rfl
  · cases hr

theorem cap_light {tys : List TypeId} {e : Env} {args : List Operand} {v : AV} {h' : AHeap} (hr : (opBuiltin (builtR (capF P tys)) args).run e h = some (v, h')) :
    h' = h ∧ ∀ g, (opBuiltin (builtR (capF P tys)) args).run e g = some (v, g) := by
  obtain ⟨l, hl, hr⟩ := bnd_eq_some.mp hr
  replace hr : (builtR (capF P tys)).run h l = some (v, h') := hr
  have key : ∀ g, (opBuiltin (builtR (capF P tys)) args).run e g = (builtR (capF P tys)).run g l := by
    intro g
    show bnd (opvs e args) _ = _
    rw [hl]; rfl
  simp only [key]
  unfold builtR at hr ⊢
  simp only at hr ⊢
  split at hr
  · rename_i x
    obtain ⟨u, hu, hr⟩ := bnd_eq_some.mp hr
    cases hr
    refine ⟨rfl, fun g => ?_⟩
    have : (capF P tys).run g x = some v := by
      rw [← hu]
      unfold capF
      cases tys with
      | nil => rfl
      | cons t r =>
        simp only
        cases hu : undOf P t with
        | none => rfl
        | some D => cases D <;> rfl
    rw [this]; rfl
  · cases hr

theorem minmax_light {mx : Bool} {e : Env} {args : List Operand} {v : AV} {h' : AHeap} (hr : (opBuiltin (builtM mx) args).run e h = some (v, h')) :
    h' = h ∧ ∀ g, (opBuiltin (builtM mx) args).run e g = some (v, g) := by
  obtain ⟨l, hl, hr⟩ := bnd_eq_some.mp hr
  replace hr : (builtM mx).run h l = some (v, h') := hr
  have key : ∀ g, (opBuiltin (builtM mx) args).run e g = (builtM mx).run g l := by
    intro g
    show bnd (opvs e args) _ = _
    rw [hl]; rfl
  simp only [key]
  unfold builtM at hr ⊢
  simp only at hr ⊢
  split at hr
  · obtain ⟨u, hu, hr⟩ := bnd_eq_some.mp hr
    cases hr
    refine ⟨rfl, fun g => ?_⟩
    simp only [hu, bnd_some]
  · cases hr

theorem oper_light {call : CallV} (o : Op) (hk : opKind P o ≠ 2) {e : Env} {v : AV} {h' : AHeap} (hr : (operF P o).run call e h = some (v, h')) :
    h' = h ∧ (opKind P o = 0 → ∀ g, (operF P o).run call e g = some (v, g)) := by
  have k1 : ∀ {q : h' = h ∧ ∀ g, (operF P o).run call e g = some (v, g)}, h' = h ∧ (opKind P o = 0 → ∀ g, (operF P o).run call e g = some (v, g)) := fun {q} => ⟨q.1, fun _ => q.2⟩
  cases o with
  | move x | assign x | nilCheck x => exact k1 (q := pure1_any hr)
  | unOp _ _ x | makeInterface _ x | fieldAddr _ x _ | field _ x _ | extract x _ => exact k1 (q := pure1_any hr)
  | indexAddr _ x y | index _ x y => exact k1 (q := pure2_any hr)
  | binOp _ _ x y _ => exact k1 (q := pure2_any hr)
  | pick x y z =>
    obtain ⟨a, ha, hr⟩ := bnd_eq_some.mp hr
    obtain ⟨b, hb, hr⟩ := bnd_eq_some.mp hr
    obtain ⟨c, hc, hr⟩ := bnd_eq_some.mp hr
    obtain ⟨t, ht, hr⟩ := bnd_eq_some.mp hr
    cases hr
    exact ⟨rfl, fun _ g => bnd_eq_some.mpr ⟨a, ha, bnd_eq_some.mpr ⟨b, hb, bnd_eq_some.mpr ⟨c, hc, bnd_eq_some.mpr ⟨t, ht, rfl⟩⟩⟩⟩⟩
  | build t ps =>
    obtain ⟨a, ha, hr⟩ := bnd_eq_some.mp hr
    obtain ⟨b, hb, hr⟩ := bnd_eq_some.mp hr
    cases hr
    exact ⟨rfl, fun _ g => bnd_eq_some.mpr ⟨a, ha, bnd_eq_some.mpr ⟨_, hb, rfl⟩⟩⟩
  | makeFunc fn first captured =>
    obtain ⟨a, ha, hr⟩ := bnd_eq_some.mp hr
    obtain ⟨b, hb, hr⟩ := bnd_eq_some.mp hr
    cases hr
    exact ⟨rfl, fun _ g => bnd_eq_some.mpr ⟨a, ha, bnd_eq_some.mpr ⟨_, hb, rfl⟩⟩⟩
  | load t x => exact ⟨read1_heap hr, fun h0 => by cases h0⟩
  | lookup t x y ok =>
    obtain ⟨a, ha, hr⟩ := bnd_eq_some.mp hr
    obtain ⟨b, hb, hr⟩ := bnd_eq_some.mp hr
    obtain ⟨u, hu, hr⟩ := bnd_eq_some.mp hr
    cases hr
    exact ⟨rfl, fun h0 => by cases h0⟩
  | slice t x l b m =>
    obtain ⟨a, ha, hr⟩ := bnd_eq_some.mp hr
    obtain ⟨a, ha, hr⟩ := bnd_eq_some.mp hr
    obtain ⟨a, ha, hr⟩ := bnd_eq_some.mp hr
    obtain ⟨a, ha, hr⟩ := bnd_eq_some.mp hr
    obtain ⟨a, ha, hr⟩ := bnd_eq_some.mp hr
    cases hr
    exact ⟨rfl, fun h0 => by cases h0⟩
  | convert s d x =>
    obtain ⟨a, ha, hr⟩ := bnd_eq_some.mp hr
    obtain ⟨g1, g2⟩ := conv_light hk hr
    exact ⟨g1, fun h0 g => bnd_eq_some.mpr ⟨a, ha, g2 h0 g⟩⟩
  | call c =>
    have e1 : opKind P (.call c) = match c.callee with
      | .builtin .len => lenKind P c.argTypes.toList
      | .builtin .cap | .builtin .min | .builtin .max => 0
      | _ => 2 := rfl
    replace hr : (operCallF P c).run call e h = some (v, h') := hr
    show h' = h ∧ (opKind P (.call c) = 0 → ∀ g, (operCallF P c).run call e g = some (v, g))
    rw [e1] at hk ⊢
    unfold operCallF at hr ⊢
    cases hc : c.callee with
    | builtin b =>
      rw [hc] at hr hk
      cases b with
      | len => exact len_light hr
      | cap => exact ⟨(cap_light hr).1, fun _ => (cap_light hr).2⟩
      | min => exact ⟨(minmax_light hr).1, fun _ => (minmax_light hr).2⟩
      | max => exact ⟨(minmax_light hr).1, fun _ => (minmax_light hr).2⟩
      | _ => exact absurd rfl hk
    | _ => rw [hc] at hk; exact absurd rfl hk
  | _ => exact absurd rfl hk

theorem gop_light {call : CallV} {all : List Oper} {o : Oper} (hk : opKind P o.op ≠ 2) {e : Env} {v : AV} {h' : AHeap} (hr : (gopF P all o).run call e h = some (v, h')) :
    h' = h ∧ (opKind P o.op = 0 → ∀ g, (gopF P all o).run call e g = some (v, g)) := by
  unfold gopF at hr ⊢
  split
  · rename_i hg
    rw [hg] at hr
    exact oper_light o.op hk hr
  · rename_i j want hg
    rw [hg] at hr
    replace hr : (if guardV ((all[j]?).bind Oper.dst) want e = true then (operF P o.op).run call e h else some (.undef, h)) = some (v, h') := hr
    show h' = h ∧ (_ → ∀ g, (if guardV ((all[j]?).bind Oper.dst) want e = true then (operF P o.op).run call e g else some (.undef, g)) = some (v, g))
    split at hr
    · rename_i hw
      simp only [hw, if_true]
      exact oper_light o.op hk hr
    · rename_i hw
      cases hr
      simp [hw]

end
end Go.Proofs.YtonojkcnencodaaDoor.BH

end
section
namespace Go.Proofs.YtonojkcnencodaaDoor.BH

section
variable {P : Program} {ρ : Rho} {h : AHeap} {w : World}

/-! ### the trace of the text's order -/
theorem trace_facts {call : CallV} {all : List Oper} : ∀ (l : List Oper) (e : Env) (h : AHeap) (T : List TStep) (e' : Env) (h' : AHeap), (traceF P all l).run call e h = some (T, e', h') →
    ∃ (E : Nat → Env) (H : Nat → AHeap) (V : Nat → AV), E 0 = e ∧ H 0 = h ∧ E l.length = e' ∧ H l.length = h' ∧
      (∀ i o, l[i]? = some o → (gopF P all o).run call (E i) (H i) = some (V i, H (i + 1)) ∧ E (i + 1) = putD (E i) o.dst (V i)) ∧
      T.length = l.length ∧ ∀ i, i < l.length → T[i]? = some ⟨E i, H i, V i⟩
  | [], e, h, T, e', h', hr => by
    cases hr
    exact ⟨fun _ => e, fun _ => h, fun _ => .undef, rfl, rfl, rfl, rfl, fun i o hi => (by simp at hi), rfl, fun i hi => (by simp at hi)⟩
  | o :: l, e, h, T, e', h', hr => by
    replace hr : (bnd ((gopF P all o).run call e h) fun r => bnd ((traceF P all l).run call (putD e o.dst r.1) r.2) fun t => some (⟨e, h, r.1⟩ :: t.1, t.2)) = some (T, e', h') := hr
    obtain ⟨⟨v, h₁⟩, hq, hr⟩ := bnd_eq_some.mp hr
    obtain ⟨⟨T₁, e₂, h₂⟩, ht, hr⟩ := bnd_eq_some.mp hr
    cases hr
    obtain ⟨E, H, V, g1, g2, g3, g4, g5, g6, g7⟩ := trace_facts l _ _ T₁ e' h' ht
    refine ⟨fun i => Nat.casesOn i e E, fun i => Nat.casesOn i h H, fun i => Nat.casesOn i v V, rfl, rfl, g3, g4, ?_, by simp [g6], ?_⟩
    · intro i u hi
      cases i with
      | zero =>
        simp only [List.getElem?_cons_zero, Option.some.injEq] at hi
        subst hi
        refine ⟨?_, ?_⟩
        · show (gopF P all o).run call e h = some (v, H 0)
          rw [g2]; exact hq
        · show E 0 = putD e o.dst v
          rw [g1]
      | succ i =>
        simp only [List.getElem?_cons_succ] at hi
        exact g5 i u hi
    · intro i hi
      cases i with
      | zero => rfl
      | succ i =>
        simp only [List.getElem?_cons_succ]
        exact g7 i (by simpa using hi)

/-! ### environments -/
theorem nth_putD (e : Env) (d : Option Tmp) (v : AV) (t : Nat) : nth (putD e d v) t = if d = some t ∧ t < e.length then v else nth e t := by
  cases d with
  | none =>
    have : ¬ ((none : Option Tmp) = some t ∧ t < e.length) := by simp
    rw [if_neg this]; rfl
  | some d =>
    show nth (setN e d v) t = _
    rw [setN_eq, nth_eq, nth_eq, List.getD_eq_getElem?_getD, List.getD_eq_getElem?_getD, List.getElem?_set]
    by_cases hd : d = t
    · subst hd
      by_cases hl : d < e.length
      · simp [hl]
      · simp [hl]
    · have : ¬ (some d = some t ∧ t < e.length) := by simp [hd]
      simp [hd]
theorem length_putD (e : Env) (d : Option Tmp) (v : AV) : (putD e d v).length = e.length := by
  cases d with
  | none => rfl
  | some d => show (setN e d v).length = _; rw [setN_eq, List.length_set]
theorem nth_out {e : Env} {t : Nat} (h : e.length ≤ t) : nth e t = .undef := by
  rw [nth_eq, List.getD_eq_getElem?_getD, List.getElem?_eq_none h]; rfl
theorem env_ext {e e' : Env} (hl : e.length = e'.length) (h : ∀ t, nth e t = nth e' t) : e = e' := by
  refine List.ext_getElem hl fun t h1 h2 => ?_
  have := h t
  rw [nth_eq, nth_eq, List.getD_eq_getElem?_getD, List.getD_eq_getElem?_getD, List.getElem?_eq_getElem h1, List.getElem?_eq_getElem h2] at this
  simpa using this

/-- The environment in which the operations of D have yielded. -/
structure Agree (ops : List Oper) (V : Nat → AV) (e₀ : Env) (D : Nat → Prop) (e : Env) : Prop where
  len : e.length = e₀.length
  old : ∀ t, (∀ j o, D j → ops[j]? = some o → o.dst ≠ some t) → nth e t = nth e₀ t
  new : ∀ j o t, D j → ops[j]? = some o → o.dst = some t → t < e₀.length → nth e t = V j

variable {ops : List Oper} {V : Nat → AV} {e₀ : Env}

theorem Agree.none : Agree ops V e₀ (fun _ => False) e₀ := ⟨rfl, fun _ _ => rfl, fun _ _ _ h => h.elim⟩

theorem Agree.put {D : Nat → Prop} {e : Env} (A : Agree ops V e₀ D e) {i : Nat} {o : Oper} (ho : ops[i]? = some o)
    (hd : ∀ j u d, D j → ops[j]? = some u → o.dst = some d → u.dst ≠ some d) : Agree ops V e₀ (fun j => D j ∨ j = i) (putD e o.dst (V i)) where
  len := by rw [length_putD, A.len]
  old := by
    intro t ht
    rw [nth_putD, if_neg (fun hh => ht i o (.inr rfl) ho hh.1)]
    exact A.old t fun j u hj => ht j u (.inl hj)
  new := by
    intro j u t hj hu ht hl
    rw [nth_putD]
    by_cases hot : o.dst = some t
    · rcases hj with hj | rfl
      · exact absurd ht (hd j u t hj hu hot)
      · rw [if_pos ⟨hot, by rw [A.len]; exact hl⟩]
    · rw [if_neg (fun hh => hot hh.1)]
      rcases hj with hj | rfl
      · exact A.new j u t hj hu ht hl
      · rw [ho] at hu; cases hu; exact absurd ht hot

theorem Agree.same {D D' : Nat → Prop} {e e' : Env} (A : Agree ops V e₀ D e) (A' : Agree ops V e₀ D' e') (t : Nat) (ht : ∀ j o, ops[j]? = some o → o.dst = some t → (D j ↔ D' j)) : nth e t = nth e' t := by
  by_cases hl : t < e₀.length
  · by_cases hex : ∃ j o, D j ∧ ops[j]? = some o ∧ o.dst = some t
    · obtain ⟨j, o, h1, h2, h3⟩ := hex
      rw [A.new j o t h1 h2 h3 hl, A'.new j o t ((ht j o h2 h3).mp h1) h2 h3 hl]
    · rw [A.old t fun j o h1 h2 h3 => hex ⟨j, o, h1, h2, h3⟩, A'.old t fun j o h1 h2 h3 => hex ⟨j, o, (ht j o h2 h3).mpr h1, h2, h3⟩]
  · rw [nth_out (by rw [A.len]; omega), nth_out (by rw [A'.len]; omega)]

theorem Agree.eq {D D' : Nat → Prop} {e e' : Env} (A : Agree ops V e₀ D e) (A' : Agree ops V e₀ D' e') (ht : ∀ j, j < ops.length → (D j ↔ D' j)) : e = e' :=
  env_ext (A.len.trans A'.len.symm) fun t => A.same A' t fun j o ho _ => ht j (by
    rcases Nat.lt_or_ge j ops.length with h | h
    · exact h
    · rw [List.getElem?_eq_none h] at ho; cases ho)

theorem Agree.iff {D D' : Nat → Prop} {e : Env} (A : Agree ops V e₀ D e) (h : ∀ j, D j ↔ D' j) : Agree ops V e₀ D' e := by
  have : D = D' := funext fun j => propext (h j)
  rw [← this]; exact A

/-! ### what must have come before -/
theorem maskE_congr {acc acc' : List Nat} {i : Nat} (h : ∀ k, k < i → nthM acc k = nthM acc' k) : ∀ l, maskE acc i l = maskE acc' i l
  | [] => rfl
  | e :: r => by
    simp only [maskE, maskE_congr h r]
    by_cases hc : Region.binds .any e = true ∧ e.on < i
    · rw [if_pos hc, if_pos hc, h _ hc.2]
    · rw [if_neg hc, if_neg hc]

theorem nthM_append {acc r : List Nat} {k : Nat} (h : k < acc.length) : nthM (acc ++ r) k = nthM acc k := by
  unfold nthM
  rw [List.getD_eq_getElem?_getD, List.getD_eq_getElem?_getD, List.getElem?_append_left h]

theorem masksGo_spec : ∀ (l : List Oper) (acc : List Nat), (∃ r, masksGo l acc = acc ++ r) ∧
    ∀ k o, l[k]? = some o → nthM (masksGo l acc) (acc.length + k) = maskE (masksGo l acc) (acc.length + k) o.after.toList
  | [], acc => ⟨⟨[], by simp [masksGo]⟩, fun k o h => by simp at h⟩
  | o :: l, acc => by
    obtain ⟨⟨r, hr⟩, hs⟩ := masksGo_spec l (acc ++ [maskE acc acc.length o.after.toList])
    have hM : masksGo (o :: l) acc = masksGo l (acc ++ [maskE acc acc.length o.after.toList]) := rfl
    rw [hM]
    refine ⟨⟨[maskE acc acc.length o.after.toList] ++ r, by rw [hr, List.append_assoc]⟩, ?_⟩
    intro k u hk
    cases k with
    | zero =>
      simp only [List.getElem?_cons_zero, Option.some.injEq] at hk
      subst hk
      rw [Nat.add_zero]
      have e1 : nthM (masksGo l (acc ++ [maskE acc acc.length o.after.toList])) acc.length = maskE acc acc.length o.after.toList := by
        rw [hr, nthM_append (by simp)]
        simp [nthM]
      rw [e1]
      refine maskE_congr (fun k hk => ?_) _
      rw [hr, nthM_append (by simp; omega), nthM_append hk]
    | succ k =>
      simp only [List.getElem?_cons_succ] at hk
      have := hs k u hk
      simp only [List.length_append, List.length_cons, List.length_nil, Nat.zero_add] at this
      rw [show acc.length + (k + 1) = acc.length + 1 + k by omega]
      exact this

theorem masks_at {i : Nat} {o : Oper} (ho : ops[i]? = some o) : nthM (masks ops) i = maskE (masks ops) i o.after.toList := by
  have := (masksGo_spec ops []).2 i o ho
  simpa [masks] using this

theorem maskE_bit {acc : List Nat} {i j : Nat} : ∀ {l : List Edge}, (maskE acc i l).testBit j = true →
    ∃ e ∈ l, Region.binds .any e = true ∧ e.on < i ∧ (j = e.on ∨ (nthM acc e.on).testBit j = true)
  | [], h => by simp [maskE] at h
  | e :: r, h => by
    unfold maskE at h
    have rest : (maskE acc i r).testBit j = true → ∃ e' ∈ e :: r, Region.binds .any e' = true ∧ e'.on < i ∧ (j = e'.on ∨ (nthM acc e'.on).testBit j = true) := by
      intro hh
      obtain ⟨e', h1, h2⟩ := maskE_bit hh
      exact ⟨e', List.mem_cons_of_mem _ h1, h2⟩
    split at h
    · rename_i hc
      rw [Nat.testBit_or, Nat.testBit_or, Bool.or_eq_true, Bool.or_eq_true] at h
      rcases h with (h | h) | h
      · rw [Nat.testBit_two_pow] at h
        exact ⟨e, List.mem_cons_self, hc.1, hc.2, .inl (by simpa using (of_decide_eq_true h).symm)⟩
      · exact ⟨e, List.mem_cons_self, hc.1, hc.2, .inr h⟩
      · exact rest h
    · exact rest h

theorem anc_down {D : Nat → Prop} (hD : ∀ i o, D i → ops[i]? = some o → ∀ e ∈ o.after.toList, Region.binds .any e = true → D e.on) :
    ∀ (i : Nat) (o : Oper), ops[i]? = some o → (∀ e ∈ o.after.toList, Region.binds .any e = true → D e.on) → ∀ j, bit (nthM (masks ops) i) j = true → D j ∧ j < i := by
  intro i
  induction i using Nat.strongRecOn with
  | _ i ih =>
    intro o ho he j hj
    unfold bit at hj
    rw [masks_at ho] at hj
    obtain ⟨e, h1, h2, h3, h4⟩ := maskE_bit hj
    have hde := he e h1 h2
    rcases h4 with rfl | h4
    · exact ⟨hde, h3⟩
    · have hlt : e.on < ops.length := by
        have : i < ops.length := by
          rcases Nat.lt_or_ge i ops.length with h | h
          · exact h
          · rw [List.getElem?_eq_none h] at ho; cases ho
        omega
      obtain ⟨h5, h6⟩ := ih e.on h3 ops[e.on] (List.getElem?_eq_getElem hlt) (hD e.on _ hde (List.getElem?_eq_getElem hlt)) j h4
      exact ⟨h5, by omega⟩

theorem anc_lt {i j : Nat} {o : Oper} (ho : ops[i]? = some o) (hj : bit (nthM (masks ops) i) j = true) : j < i :=
  (anc_down (D := fun _ => True) (fun _ _ _ _ _ _ _ => trivial) i o ho (fun _ _ _ => trivial) j hj).2

/-! ### the checks -/
theorem mem_pairs {i : Nat} {o : Oper} (h : ops[i]? = some o) : (i, o) ∈ pairs ops := by
  have hlt : i < ops.length := by
    rcases Nat.lt_or_ge i ops.length with h' | h'
    · exact h'
    · rw [List.getElem?_eq_none h'] at h; cases h
  refine List.mem_iff_getElem?.mpr ⟨i, ?_⟩
  unfold pairs
  rw [List.getElem?_zip_eq_some]
  exact ⟨by simp [hlt], h⟩

structure DrawOk (P : Program) (ops : List Oper) : Prop where
  down : ∀ i o, ops[i]? = some o → ∀ e ∈ o.after.toList, Region.binds .any e = true → e.on < i
  once : ∀ (i j : Nat) (o u : Oper) (d : Tmp), ops[i]? = some o → ops[j]? = some u → i ≠ j → o.dst = some d → u.dst ≠ some d
  chain : ∀ i j o u, ops[i]? = some o → ops[j]? = some u → i < j → opKind P o.op = 2 → opKind P u.op = 2 → bit (nthM (masks ops) j) i = true
  tied : ∀ i j o u t, ops[i]? = some o → ops[j]? = some u → i ≠ j → t ∈ looks ops o → u.dst = some t → bit (nthM (masks ops) i) j = true ∨ bit (nthM (masks ops) j) i = true

theorem drawOk_spec (h : drawOk P ops (masks ops) = true) : DrawOk P ops := by
  unfold drawOk at h
  simp only [Bool.and_eq_true] at h
  obtain ⟨⟨⟨h1, h2⟩, h3⟩, h4⟩ := h
  refine ⟨?_, ?_, ?_, ?_⟩
  · intro i o ho e he hb
    unfold edgesDown at h1
    rw [List.all_eq_true] at h1
    have := h1 (i, o) (mem_pairs ho)
    simp only [List.all_eq_true] at this
    have := this e he
    simpa [hb, Nat.blt_eq] using this
  · intro i j o u d ho hu hne hd hd'
    unfold dstsOnce at h2
    rw [List.all_eq_true] at h2
    have := h2 (i, o) (mem_pairs ho)
    simp only [List.all_eq_true] at this
    have := this (j, u) (mem_pairs hu)
    simp only [hd, hd', Bool.or_eq_true, beqN, Bool.not_eq_true'] at this
    rcases this with h | h
    · exact hne h
    · have h5 : Nat.beq d d = true := (beqN d d).mpr rfl
      rw [h5] at h; cases h
  · intro i j o u ho hu hlt hk hk'
    unfold heaviesChain at h3
    rw [List.all_eq_true] at h3
    have := h3 (i, o) (mem_pairs ho)
    simp only [Bool.or_eq_true, Bool.not_eq_true', List.all_eq_true] at this
    rcases this with h | h
    · have h5 : Nat.beq (opKind P o.op) 2 = true := (beqN _ _).mpr hk
      rw [h5] at h; cases h
    · rcases h (j, u) (mem_pairs hu) with (h | h) | h
      · have h5 : Nat.blt i j = true := Nat.blt_eq.mpr hlt
        simp only at h
        rw [h5] at h; cases h
      · have h5 : Nat.beq (opKind P u.op) 2 = true := (beqN _ _).mpr hk'
        simp only at h
        rw [h5] at h; cases h
      · exact h
  · intro i j o u t ho hu hne ht hd
    unfold looksTied at h4
    rw [List.all_eq_true] at h4
    have := h4 (i, o) (mem_pairs ho)
    simp only [List.all_eq_true] at this
    have := this t ht (j, u) (mem_pairs hu)
    simp only [hd, Bool.or_eq_true, beqN, Bool.not_eq_true'] at this
    rcases this with h | (h | h) | h
    · exact absurd h hne
    · have h5 : Nat.beq t t = true := (beqN t t).mpr rfl
      rw [h5] at h; cases h
    · exact .inl h
    · exact .inr h

theorem beqStr_eq : ∀ {a b : List UInt8}, beqStr a b = true → a = b
  | [], [], _ => rfl
  | [], _ :: _, h => by cases h
  | _ :: _, [], h => by cases h
  | a :: r, b :: s, h => by
    replace h : cnd (Nat.beq a.toNat b.toNat) (beqStr r s) false = true := h
    rw [cnd_eq] at h
    split at h
    · rename_i hh
      rw [UInt8.toNat_inj.mp ((beqN _ _).mp hh), beqStr_eq h]
    · cases h

theorem sameAV_eq {a b : AV} (h : sameAV a b = true) : a = b := by
  unfold sameAV at h
  split at h
  all_goals try (simp only [Bool.and_eq_true, decide_eq_true_eq, beq_iff_eq, beqN] at h)
  · rw [h]
  · rw [h.1, h.2]
  · rw [beqStr_eq h]
  · rfl
  · rename_i x y
    cases x; cases y; simp only at h; rw [h.1, h.2]
  · rw [h.1, h.2]
  · rename_i x n k y m l
    cases x; cases y; simp only at h; rw [h.1.1.1, h.1.1.2, h.1.2, h.2]
  · rfl
  · rw [h]
  · rfl
  · rw [h]
  · rw [h]
  · rfl
  · rfl
  · cases h

theorem sameL_eq : ∀ {a b : List AV}, sameL a b = true → a = b
  | [], [], _ => rfl
  | [], _ :: _, h => by cases h
  | _ :: _, [], h => by cases h
  | a :: r, b :: s, h => by
    replace h : cnd (sameAV a b) (sameL r s) false = true := h
    rw [cnd_eq] at h
    split at h
    · rename_i hh
      rw [sameAV_eq hh, sameL_eq h]
    · cases h

theorem sameA_eq {a b : AV} (h : sameA a b = true) : a = b := by
  unfold sameA at h
  split at h
  · rw [sameL_eq h]
  · exact sameAV_eq h

theorem racesOk_mem {call : CallV} {T : List TStep} {hf : AHeap} : ∀ {l : List (Nat × OperF × Nat)}, racesOk call T hf l = true → ∀ p ∈ l, raceOk call T hf p = true
  | [], _, p, hp => by cases hp
  | q :: l, h, p, hp => by
    replace h : cnd (raceOk call T hf q) (racesOk call T hf l) false = true := h
    rw [cnd_eq] at h
    split at h
    · rename_i hq
      rcases List.mem_cons.mp hp with rfl | hp
      · exact hq
      · exact racesOk_mem h p hp
    · cases h

theorem yields_spec {r : Option (AV × AHeap)} {v : AV} (h : yields r v = true) : ∃ h', r = some (v, h') := by
  cases r with
  | none => cases h
  | some q => exact ⟨q.2, by rw [← sameA_eq (show sameA q.1 v = true from h)]⟩

theorem mem_races {i x : Nat} {o u : Oper} (ho : ops[i]? = some o) (hu : ops[x]? = some u) (h1 : opKind P o.op = 1) (h2 : opKind P u.op = 2)
    (h3 : bit (nthM (masks ops) i) x = false) (h4 : bit (nthM (masks ops) x) i = false) : (i, gopF P ops o, x) ∈ races P ops (masks ops) := by
  unfold races
  refine List.mem_flatMap.mpr ⟨(i, o), mem_pairs ho, ?_⟩
  simp only [h1, if_true]
  exact List.mem_filterMap.mpr ⟨(x, u), mem_pairs hu, by simp [h2, h3, h4]⟩

end
end Go.Proofs.YtonojkcnencodaaDoor.BH

end
