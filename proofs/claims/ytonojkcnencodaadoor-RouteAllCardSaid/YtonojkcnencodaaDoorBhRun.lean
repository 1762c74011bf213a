/-
  BH: regions in the text's order, code, functions.
-/
import Derived.Test.YtonojkcnencodaaDoorBhOps10
import Derived.Test.YtonojkcnencodaaDoorBhMap
import Derived.Test.YtonojkcnencodaaDoorBhPure
import Derived.Scope
import Derived.Conc.LoneSelect
namespace Go.Proofs.YtonojkcnencodaaDoor.BH

section
variable {P : Program} {ρ : Rho} {h : AHeap} {w : World}

/-! ### one operation of a region -/
def OpOk (P : Program) (o : Oper) (a : Act) (w : World) (R : Value → World → Prop) : Prop :=
  ∀ (b : Frame) (ops : Array Oper) (i : Nat) (rest : List Nat) (k : List Item) (cs : List Frame), ops[i]? = some o → Region.wanted o (yielded ops a.tmps) = true →
    ∃ v w', R v w' ∧ Steps P (lone (b.at a (.inRegion ops (i :: rest) :: k)) cs w) (lone (b.at (a.put o.dst v) (.inRegion ops rest :: k)) cs w')

theorem opOk_value {o : Oper} {a : Act} {r : Next} {v : Value} {w' : World} {R : Value → World → Prop} (hr : (execOp a.eval o).run P w = .ok r w') (hv : NextVal r = some v) (hR : R v w') : OpOk P o a w R := by
  intro b ops i rest k cs ho hw
  have hg := stepG_op (P := P) (b := b) (k := k) (cs := cs) (w := w) (rest := rest) ho hw
  have hfin : ∀ v, (b.at a (.inRegion ops (i :: rest) :: k)).finish v = b.at (a.put o.dst v) (.inRegion ops rest :: k) := by
    intro v; rw [Frame.finish_at, ho]; rfl
  refine ⟨v, w', hR, ?_⟩
  cases r with
  | value u =>
    cases hv
    exact .one (step_lone_go (by rw [hg, ← hfin]; simp [stepG.apply, hr]))
  | skip =>
    cases hv
    exact .one (step_lone_go (by rw [hg, ← hfin]; simp [stepG.apply, hr]))
  | _ => cases hv

/-- A call that comes back. -/
def CallOk (P : Program) (f : FuncId) (us : Array Value) (w : World) (R : Value → World → Prop) : Prop :=
  ((callFunc f us).run P w = .ok (.enter f us) w ∧ Calls P f us w fun e w' => ∃ v, e = .returned v ∧ R v w') ∨ ∃ v w', (callFunc f us).run P w = .ok (.value v) w' ∧ R v w'

theorem opOk_call {o : Oper} {a : Act} {f : FuncId} {us : Array Value} {R : Value → World → Prop} (he : (execOp a.eval o).run P w = (callFunc f us).run P w) (hc : CallOk P f us w R) : OpOk P o a w R := by
  rcases hc with ⟨hr, hc⟩ | ⟨v, w', hr, hR⟩
  · intro b ops i rest k cs ho hw
    have hg := stepG_op (P := P) (b := b) (k := k) (cs := cs) (w := w) (rest := rest) ho hw
    have hfin : ∀ v, (b.at a (.inRegion ops (i :: rest) :: k)).finish v = b.at (a.put o.dst v) (.inRegion ops rest :: k) := by
      intro v; rw [Frame.finish_at, ho]; rfl
    obtain ⟨e, w', fr, ⟨v, rfl, hR⟩, hsteps, _, hleave⟩ := hc (b.at a (.inRegion ops (i :: rest) :: k) :: cs)
    have henter : step P (lone (b.at a (.inRegion ops (i :: rest) :: k)) cs w) =
        .next (lone (Frame.enter P f us .normal) (b.at a (.inRegion ops (i :: rest) :: k) :: cs) w) :=
      step_lone_go (by rw [hg]; simp [stepG.apply, he, hr, Frame.at])
    refine ⟨v, w', hR, .head henter (hsteps.trans (.one ?_))⟩
    rw [← hfin]; exact step_leave_returned hleave
  · exact opOk_value (he.trans hr) rfl hR

/-- What an operation comes to, whoever runs it. -/
def ExecOk (P : Program) (o : Oper) (a : Act) (w : World) (R : Value → World → Prop) : Prop :=
  (∃ r v w', (execOp a.eval o).run P w = .ok r w' ∧ NextVal r = some v ∧ R v w') ∨ ∃ f us, (execOp a.eval o).run P w = (callFunc f us).run P w ∧ CallOk P f us w R

theorem ExecOk.ok {o : Oper} {a : Act} {R : Value → World → Prop} (h : ExecOk P o a w R) : OpOk P o a w R := by
  rcases h with ⟨r, v, w', h1, h2, h3⟩ | ⟨f, us, h1, h2⟩
  · exact opOk_value h1 h2 h3
  · exact opOk_call h1 h2

theorem ExecOk.wp {o : Oper} {a : Act} {R : Value → World → Prop} {K : Act → World → Prop} {Q : Exit → Act → World → Prop} (h : ExecOk P o a w R) (hk : ∀ v w', R v w' → K (a.put o.dst v) w') : o.wp P a w K Q := by
  unfold Oper.wp
  have val : ∀ r v w', (execOp a.eval o).run P w = .ok r w' → NextVal r = some v → R v w' → o.upon P a K Q ((execOp a.eval o).run P w) := by
    intro r v w' h1 h2 h3
    rw [h1]
    cases r with
    | value u => cases h2; exact hk _ _ h3
    | skip => cases h2; exact hk _ _ h3
    | _ => cases h2
  rcases h with ⟨r, v, w', h1, h2, h3⟩ | ⟨f, us, h1, ⟨h2, h3⟩ | ⟨v, w', h2, h3⟩⟩
  · exact val r v w' h1 h2 h3
  · rw [h1, h2]
    refine Calls.mono h3 ?_
    rintro e w' ⟨v, rfl, hR⟩
    exact hk _ _ hR
  · exact val _ v w' (h1.trans h2) rfl h3

/-- A call does what the evaluator says. -/
def CallSound (P : Program) (call : CallV) : Prop := ∀ (f : FuncId) (args : List AV) (h : AHeap) (v : AV) (h' : AHeap) (ρ : Rho) (w : World) (us : Array Value),
  call f args h = some (v, h') → VRL ρ args us.toList → HRel ρ h w → CallOk P f us w fun v' w' => ∃ ρ', VR ρ' v v' ∧ Trans ρ h w ρ' h' w'

def SoundOper (P : Program) (call : CallV) (o : Oper) (f : OperF) : Prop := ∀ (e : Env) (h : AHeap) (v : AV) (h' : AHeap) (ρ : Rho) (w : World) (a : Act), f.run call e h = some (v, h') → EnvR ρ e a → HRel ρ h w →
  ExecOk P o a w fun v' w' => ∃ ρ', VR ρ' v v' ∧ Trans ρ h w ρ' h' w'

theorem soundOper_of {call : CallV} {o : Oper} {f : OpF} (hs : SoundOp P o f) : SoundOper P call o (operOp f) := by
  intro e h v h' ρ w a hr he H
  obtain ⟨ρ', w', r, v', g1, g2, g3, g4⟩ := hs e h v h' ρ w a hr he H
  exact .inl ⟨r, v', w', g1, g2, ρ', g3, g4⟩

theorem makeChan_sound {o : Oper} {t : TypeId} {x : Operand} (ho : o.op = .makeChan t x) : SoundOp P o (mem1 x (makeChanF P t).run) := by
  refine sound_mem1 ?_
  intro ρ h h' w a u v H hu hr
  unfold makeChanF at hr
  cases hd : undOf P t with
  | none => rw [hd] at hr; cases hr
  | some D =>
    rw [hd] at hr
    cases D with
    | chan dir e =>
      simp only at hr
      cases hb : bytesOf P e with
      | none => rw [hb] at hr; cases hr
      | some b =>
        rw [hb] at hr
        simp only at hr
        obtain ⟨i, hi, hr⟩ := bnd_eq_some.mp hr
        obtain ⟨k, n⟩ := i
        have hx := intOf_VR hi hu
        cases n with
        | negSucc n => cases hr
        | ofNat n =>
          simp only [cnd_eq, Bool.and_eq_true, bleN] at hr
          split at hr
          · rename_i hc
            cases hr
            obtain ⟨i, hi', rfl⟩ := run_bytes (w := w) hb
            have n1 : ¬ ((n : Int) < 0) := by omega
            have n2 : ¬ (9223372036854775807 < (n : Int)) := by omega
            have n3 : ¬ (281474976710544 < (i.bytes : Int) * n) := by
              have := hc.2
              have : ((i.bytes * n : Nat) : Int) ≤ 281474976710544 := by omega
              rw [Int.natCast_mul] at this
              omega
            refine ⟨_, { w with heap := w.heap.push (.chan n #[] false 0 0 false) }, .chan (some w.heap.size), ?_, ?_, Trans.ofPush (k := 0) H rfl ?_ rfl rfl⟩
            · unfold execOp
              rw [ho]
              simp only at hx
              simp [Instr.makeChan, hx, asInt, asIntOf, run_und hd, hi', n1, n2, n3, IntKind.max, IntKind.bits, IntKind.signed]
            · simp only [VR]
              exact ⟨_, upd_self _ _ _, rfl⟩
            · exact ⟨#[], rfl, VRL.nil⟩
          · cases hr
    | _ => cases hr

theorem makeMapO_sound {o : Oper} {t : TypeId} {n : Option Operand} (ho : o.op = .makeMap t n) : SoundOp P o (makeMapO n) := by
  cases n with
  | some n => exact sound_no
  | none =>
    intro e h v h' ρ w a hr he H
    cases hr
    obtain ⟨ρ', w', v', g1, g2, g3⟩ := makeMap_run (P := P) H t
    exact ⟨ρ', w', .value v', v', by unfold execOp; rw [ho]; simp [g1], rfl, g2, g3⟩
theorem lookup_sound {o : Oper} {t : TypeId} {x k : Operand} {ok : Bool} (ho : o.op = .lookup t x k ok) : SoundOp P o (read2 x k (lookupF P t ok).run) := by
  intro e h v h' ρ w a hr he H
  obtain ⟨u, hu, hr⟩ := bnd_eq_some.mp hr
  obtain ⟨u', hu', hr⟩ := bnd_eq_some.mp hr
  obtain ⟨v0, hv, hr⟩ := bnd_eq_some.mp hr
  cases hr
  obtain ⟨v', g1, g2⟩ := lookup_run (P := P) H (opv_VR he hu) (opv_VR he hu') hv
  exact ⟨ρ, w, .value v', v', by unfold execOp; rw [ho]; simp [g1], rfl, g2, .refl H⟩
theorem mapUpdate_sound {o : Oper} {t : TypeId} {m k x : Operand} (ho : o.op = .mapUpdate t m k x) : SoundOp P o (write3 m k x (mapUpdateF P t).run) := by
  intro e h v h' ρ w a hr he H
  obtain ⟨u, hu, hr⟩ := bnd_eq_some.mp hr
  obtain ⟨u', hu', hr⟩ := bnd_eq_some.mp hr
  obtain ⟨u'', hu'', hr⟩ := bnd_eq_some.mp hr
  obtain ⟨h1, hv, hr⟩ := bnd_eq_some.mp hr
  cases hr
  obtain ⟨w', g1, g2⟩ := mapUpdate_run (P := P) H (opv_VR he hu) (opv_VR he hu') (opv_VR he hu'') hv
  exact ⟨ρ, w', .skip, Go.undef, by unfold execOp; rw [ho]; simp [g1], rfl, VR.undef, g2⟩
theorem mapEntry_sound {o : Oper} {t : TypeId} {m k : Operand} (ho : o.op = .mapEntry t m k) : SoundOp P o (mem2 m k (mapEntryF P t).run) := by
  refine sound_mem2 ?_
  intro ρ h h' w a u u' v H hu hu' hr
  obtain ⟨w', v', g1, g2, g3⟩ := mapEntry_run (P := P) H hu hu' hr
  exact ⟨ρ, w', v', by unfold execOp; rw [ho]; simp [g1], g2, g3⟩
theorem entryStore_sound {o : Oper} {t : TypeId} {m s x : Operand} (ho : o.op = .entryStore t m s x) : SoundOp P o (write3 m s x entryStoreV) := by
  intro e h v h' ρ w a hr he H
  obtain ⟨u, hu, hr⟩ := bnd_eq_some.mp hr
  obtain ⟨u', hu', hr⟩ := bnd_eq_some.mp hr
  obtain ⟨u'', hu'', hr⟩ := bnd_eq_some.mp hr
  obtain ⟨h1, hv, hr⟩ := bnd_eq_some.mp hr
  cases hr
  obtain ⟨w', g1, g2⟩ := entryStore_run (P := P) (t := t) H (opv_VR he hu) (opv_VR he hu') (opv_VR he hu'') hv
  exact ⟨ρ, w', .skip, Go.undef, by unfold execOp; rw [ho]; simp [g1], rfl, VR.undef, g2⟩
theorem deleteO_sound {o : Oper} {c : Call} (ho : o.op = .call c) (hc : c.callee = .builtin .delete) : SoundOp P o (deleteO P c.argTypes.toList c.args.toList) := by
  unfold deleteO
  split
  · rename_i t ts ht
    split
    · rename_i m k ha
      refine sound_mem2 ?_
      intro ρ h h' w a u u' v H hu hu' hr
      have h0 : c.argTypes[0]? = some t := by rw [← Array.getElem?_toList, ht]; rfl
      obtain ⟨w', v', g1, g2, g3⟩ := delete_run (P := P) (ty := o.type) H h0 hu hu' hr
      refine ⟨ρ, w', v', ?_, g2, g3⟩
      have ea : c.args.map a.eval = #[a.eval m, a.eval k] := by apply Array.ext'; rw [Array.toList_map, ha]; rfl
      unfold execOp; rw [ho]
      simp [resolve, hc, invoke, ea, builtin, g1]
    · exact sound_no
  · exact sound_no

theorem operF_sound {call : CallV} (hc : CallSound P call) (o : Oper) : SoundOper P call o (operF P o.op) := by
  have simple : ∀ g, SoundOp P o (opF P o.op) → operF P o.op = g → g = operOp (opF P o.op) → SoundOper P call o (operF P o.op) := by
    intro g h1 h2 h3
    rw [h2, h3]; exact soundOper_of h1
  cases ho : o.op with
  | call c =>
    show SoundOper P call o (operCallF P c)
    unfold operCallF
    have dyn : ∀ y : Operand, c.callee = .value y → SoundOper P call o (operCall y c.args.toList) := by
      intro y hcc e h v h' ρ w a hr he H
      obtain ⟨g, hg, hr⟩ := bnd_eq_some.mp hr
      obtain ⟨l, hl, hr⟩ := bnd_eq_some.mp hr
      have hv : VRL ρ l (c.args.map a.eval).toList := by rw [Array.toList_map]; exact opvs_VRL he hl
      replace hr : callV call g l h = some (v, h') := hr
      unfold callV at hr
      split at hr
      · rename_i fn first captured _
        split at hr
        · rename_i f' _
          have hgv := opv_VR he hg
          simp only [VR] at hgv
          obtain ⟨x, z, k1, k2, k3⟩ := hgv
          have hall : VRL ρ (app first (app l captured)) (x ++ c.args.map a.eval ++ z).toList := by
            rw [app_eq, app_eq]
            simp only [Array.toList_append, List.append_assoc]
            exact VRL.append k2 (VRL.append hv k3)
          refine .inr ⟨f', _, ?_, hc f' _ h v h' ρ w _ hr hall H⟩
          unfold execOp; rw [ho]
          simp only [resolve, hcc, Sem.run_bind, k1, Deferred.ofValue, Sem.run_pure, Result.andThen_ok, invoke]
        · cases hr
      · cases hr
    cases hcc : c.callee with
    | value f =>
      cases f with
      | func f =>
        simp only
        intro e h v h' ρ w a hr he H
        obtain ⟨l, hl, hr⟩ := bnd_eq_some.mp hr
        have hv : VRL ρ l (c.args.map a.eval).toList := by rw [Array.toList_map]; exact opvs_VRL he hl
        refine .inr ⟨f, _, ?_, hc f l h v h' ρ w _ hr hv H⟩
        unfold execOp; rw [ho]
        simp [resolve, hcc, Deferred.ofValue, invoke, Act.eval]
      | _ =>
        first
        | (intro e h v h' ρ w a hr; cases hr; done)
        | (refine dyn _ hcc)
    | builtin b =>
      simp only
      split
      · exact soundOper_of (deleteO_sound ho hcc)
      have := opF_sound (P := P) o
      rw [ho] at this
      have e2 : opF P (.call c) = opBuiltin (builtinF P c.argTypes.toList b) c.args.toList := by
        show opCallF P c = _
        unfold opCallF; rw [hcc]
      rw [e2] at this
      exact soundOper_of this
    | invoke r m =>
      simp only
      intro e h v h' ρ w a hr
      cases hr
  | makeChan t x => exact soundOper_of (makeChan_sound ho)
  | makeMap t n => exact soundOper_of (makeMapO_sound ho)
  | lookup t x k ok => exact soundOper_of (lookup_sound ho)
  | mapUpdate t m k x => exact soundOper_of (mapUpdate_sound ho)
  | mapEntry t m k => exact soundOper_of (mapEntry_sound ho)
  | entryStore t m s x => exact soundOper_of (entryStore_sound ho)
  | _ =>
    have := opF_sound (P := P) o
    rw [ho] at this
    exact soundOper_of this

/-! ### frames -/
theorem put_R {e : Env} {a : Act} {d : Option Tmp} {v : AV} {v' : Value} (he : EnvR ρ e a) (hv : VR ρ v v') : EnvR ρ (putD e d v) (a.put d v') := by
  cases d with
  | none => exact he
  | some d =>
    show VRL ρ (setN e d v) (a.tmps.setIfInBounds d v').toList
    rw [setN_eq, Array.toList_setIfInBounds]
    exact VRL.set d he hv
theorem put_defers (a : Act) (d : Option Tmp) (v : Value) : (a.put d v).defers = a.defers := by cases d <;> rfl
theorem EnvR.mono {ρ' : Rho} {e : Env} {a : Act} (he : EnvR ρ e a) (hx : Ext ρ ρ') : EnvR ρ' e a := VRL.mono hx _ _ he

theorem VR.bool_iff {x : AV} {b : Bool} (hx : VR ρ x (.bool b)) : x = .bool b := by
  match x, hx with
  | .bool _, hx => simp [VR] at hx; rw [hx]
  | .int _ _, hx => simp [VR] at hx
  | .str _, hx => simp [VR] at hx
  | .ptr none, hx => simp [VR] at hx
  | .ptr (some _), hx => simp [VR] at hx
  | .slice none _ _, hx => simp [VR] at hx
  | .slice (some _) _ _, hx => simp [VR] at hx
  | .map none, hx => simp [VR] at hx
  | .map (some _), hx => simp [VR] at hx
  | .chan none, hx => simp [VR] at hx
  | .chan (some _), hx => simp [VR] at hx
  | .func _ _ _, hx => simp [VR] at hx
  | .nilFunc, hx => simp [VR] at hx
  | .iface _ _, hx => simp [VR] at hx
  | .nilIface, hx => simp [VR] at hx
  | .agg _, hx => simp [VR] at hx
  | .tuple _, hx => simp [VR] at hx

theorem guard_iff {ops : Array Oper} {e : Env} {a : Act} {j : Nat} {want : Bool} (he : EnvR ρ e a) :
    guardV ((ops.toList[j]?).bind Oper.dst) want e = (yielded ops a.tmps j == some want) := by
  unfold guardV yielded
  rw [Array.getElem?_toList]
  cases hd : (ops[j]?).bind Oper.dst with
  | none =>
    simp
  | some d =>
    have hd' : (ops[j]?).bind (fun x => x.dst) = some d := hd
    simp only [Option.bind_some]
    have hn := nth_VR he d
    rw [Array.getD_eq_getD_getElem?] at hn
    cases ht : a.tmps[d]? with
    | none =>
      rw [ht] at hn
      have : nth e d = .undef := by
        rw [nth_eq]
        have hl := VRL.length he
        rw [Array.length_toList] at hl
        have := Array.getElem?_eq_none_iff.mp ht
        rw [List.getD_eq_getElem?_getD, List.getElem?_eq_none (by omega)]; rfl
      rw [this]; rfl
    | some u =>
      rw [ht] at hn
      simp only [Option.getD_some] at hn
      cases hx : nth e d with
      | bool b =>
        rw [hx] at hn
        simp only [VR] at hn; subst hn
        cases b <;> cases want <;> simp
      | _ =>
        have : ∀ b, u ≠ .bool b := by
          rintro b rfl
          have := VR.bool_iff hn
          rw [hx] at this; cases this
        cases u <;> first | rfl | exact absurd rfl (this _)

def Matches (ops : Array Oper) : List Nat → List Oper → Prop
  | [], l => l = []
  | i :: t, l => ∃ o r, l = o :: r ∧ ops[i]? = some o ∧ Matches ops t r

theorem matches_range' (ops : Array Oper) : ∀ n i, i + n = ops.size → Matches ops (List.range' i n) (ops.toList.drop i)
  | 0, i, h => by
    simp only [List.range'_zero, Matches]
    rw [List.drop_eq_nil_iff]; simp; omega
  | n + 1, i, h => by
    rw [List.range'_succ]
    simp only [Matches]
    have hlt : i < ops.toList.length := by simp; omega
    refine ⟨ops.toList[i], ops.toList.drop (i + 1), List.drop_eq_getElem_cons hlt, ?_, matches_range' ops n (i + 1) (by omega)⟩
    rw [← Array.getElem?_toList]; exact List.getElem?_eq_getElem hlt
theorem matches_range (ops : Array Oper) : Matches ops (List.range ops.size) ops.toList := by
  have := matches_range' ops ops.size 0 (by omega)
  rw [List.range_eq_range']; simpa using this

/-! ### a select of one case with a default -/
theorem opOk_comm {o : Oper} {a : Act} {cases : Array CommCase} {R : Value → World → Prop} (hr : (execOp a.eval o).run P w = .ok (.comm cases false .select) w)
    (hs : ∀ (fr : Frame) (cs : List Frame) (es : Array Event), stepG P true (Conc.G fr cs) w = .comm (Conc.G fr cs) cases false .select w es → ∃ v w', R v w' ∧ step P (Conc.solo (Conc.G fr cs) w) = .next (Conc.solo (Conc.G (fr.finish v) cs) w')) :
    OpOk P o a w R := by
  intro b ops i rest k cs ho hw
  have hg := stepG_op (P := P) (b := b) (k := k) (cs := cs) (w := w) (rest := rest) ho hw
  have hfin : ∀ v, (b.at a (.inRegion ops (i :: rest) :: k)).finish v = b.at (a.put o.dst v) (.inRegion ops rest :: k) := by
    intro v; rw [Frame.finish_at, ho]; rfl
  have hb : (stepG P true (Conc.G (b.at a (.inRegion ops (i :: rest) :: k)) cs) w).bare = .comm (Conc.G (b.at a (.inRegion ops (i :: rest) :: k)) cs) cases false .select w := by
    show (stepG P true { frame := b.at a (.inRegion ops (i :: rest) :: k), callers := cs, status := .running, dying := none } w).bare = _
    rw [hg]; simp [stepG.apply, hr, Conc.G]
  obtain ⟨es, he⟩ : ∃ es, stepG P true (Conc.G (b.at a (.inRegion ops (i :: rest) :: k)) cs) w = .comm (Conc.G (b.at a (.inRegion ops (i :: rest) :: k)) cs) cases false .select w es := by
    generalize stepG P true (Conc.G (b.at a (.inRegion ops (i :: rest) :: k)) cs) w = s at hb
    cases s <;> simp [GStep.bare] at hb
    obtain ⟨rfl, rfl, rfl, rfl, rfl⟩ := hb
    exact ⟨_, rfl⟩
  obtain ⟨v, w', hR, hstep⟩ := hs _ _ _ he
  refine ⟨v, w', hR, .one ?_⟩
  rw [← hfin]; exact hstep

theorem chanAt_spec {h : AHeap} {r n : Nat} {b : List AV} {s k : Nat} (hc : chanAt h r = some (n, b, s, k)) : h.get r = some (.chan n b s k) := by
  unfold chanAt at hc
  split at hc
  · rename_i hh
    rw [hh]; simp only [Option.some.injEq, Prod.mk.injEq] at hc
    obtain ⟨rfl, rfl, rfl, rfl⟩ := hc; rfl
  · cases hc

/-- In the text's order. -/
def SoundT (P : Program) (call : CallV) (o : Oper) (f : OperF) : Prop := ∀ (e : Env) (h : AHeap) (v : AV) (h' : AHeap) (ρ : Rho) (w : World) (a : Act), f.run call e h = some (v, h') → EnvR ρ e a → HRel ρ h w →
  OpOk P o a w fun v' w' => ∃ ρ', VR ρ' v v' ∧ Trans ρ h w ρ' h' w'

theorem tuple2 {ρ : Rho} {x y : AV} {u v : Value} (h1 : VR ρ x u) (h2 : VR ρ y v) : VR ρ (.tuple [x, y]) (.tuple #[u, v]) := by
  simp only [VR]; exact ⟨_, rfl, VRL.cons h1 (VRL.cons h2 VRL.nil)⟩
theorem tuple3 {ρ : Rho} {x y z : AV} {u v t : Value} (h1 : VR ρ x u) (h2 : VR ρ y v) (h3 : VR ρ z t) : VR ρ (.tuple [x, y, z]) (.tuple #[u, v, t]) := by
  simp only [VR]; exact ⟨_, rfl, VRL.cons h1 (VRL.cons h2 (VRL.cons h3 VRL.nil))⟩

theorem select_sound {call : CallV} {o : Oper} {cs : Array SelectCase} {blocking : Bool} (ho : o.op = .select cs blocking) : SoundT P call o (selectF P cs.toList blocking) := by
  intro e h v h' ρ w a hr he H
  unfold selectF at hr
  split at hr
  · rename_i c hcs
    have hcs' : cs = #[c] := Array.ext' (by simpa using hcs)
    cases hz : zeroOf P c.elem with
    | none => rw [hz] at hr; cases hr
    | some z =>
      rw [hz] at hr
      obtain ⟨zv, hz1, hz2⟩ := zeroOf_run (w := w) ρ hz
      simp only at hr
      split at hr
      · rename_i hsend
        obtain ⟨x, hx, hr⟩ := bnd_eq_some.mp hr
        obtain ⟨ro, hr1, hr⟩ := bnd_eq_some.mp hr
        obtain ⟨r, hr2, hr⟩ := (bnd_eq_some (o := ro)).mp hr
        subst hr2
        obtain ⟨⟨n, buf, s, k⟩, hq, hfin⟩ := (bnd_eq_some (o := chanAt h r)).mp hr
        have hxv := opv_VR he hx
        cases x <;> simp [chanRef] at hr1
        subst hr1
        simp only [VR] at hxv
        obtain ⟨cl, hcl, hev⟩ := hxv
        have hget := chanAt_spec hq
        obtain ⟨cl', y, g1, g2, g3⟩ := H.objs _ _ hget
        rw [hcl] at g1; cases g1
        obtain ⟨b, rfl, hb⟩ := g3
        have hrun : (execOp a.eval o).run P w = .ok (.comm #[Conc.rcase cl.blk zv] false .select) w := by
          unfold execOp; rw [ho, hcs']
          simp [hz1, hsend, Conc.rcase, hev]
        refine opOk_comm hrun fun fr cs' es hstep => ?_
        cases buf with
        | nil =>
          cases hfin
          have hb0 : b = #[] := Array.ext' (by simpa [VRL] using hb)
          subst hb0
          exact ⟨_, _, ⟨ρ, tuple3 (by simp only [VR]; rfl) (by simp only [VR]) hz2, .refl H⟩, Conc.step_lone_select_default hstep g2⟩
        | cons x0 rest =>
          cases hfin
          simp only [VRL] at hb
          obtain ⟨u, l', hb1, hb2, hb3⟩ := hb
          have hsz : 0 < b.size := by rw [← Array.length_toList, hb1]; simp
          have hget0 : b.getD 0 Go.undef = u := by
            rw [Array.getD_eq_getD_getElem?, ← Array.getElem?_toList, hb1]; rfl
          have hext : (b.extract 1 b.size).toList = l' := by
            rw [Array.toList_extract, hb1]
            simp [List.extract, ← Array.length_toList, hb1]
          refine ⟨_, _, ⟨ρ, tuple3 (by simp only [VR]; rfl) (by simp only [VR]) (by rw [hget0]; exact hb2), ?_⟩, Conc.step_lone_select_recv_buf hstep g2 hsz⟩
          have hlt : cl.blk < w.heap.size := (Array.getElem?_eq_some_iff.mp g2).1
          refine Trans.ofSet H hget rfl hcl (y' := .chan n (b.extract 1 b.size) false s (k + 1) false) ?_ ?_ ?_ ?_ rfl rfl
          · simp [World.setChan, hlt]
          · exact ⟨_, rfl, by rw [hext]; exact hb3⟩
          · simp [World.setChan]
          · intro b' hne
            simp only [World.setChan]
            rw [Array.getElem?_setIfInBounds_ne (Ne.symm hne)]
      · rename_i vo hsend
        obtain ⟨x, hx, hr⟩ := bnd_eq_some.mp hr
        obtain ⟨y, hy, hr⟩ := bnd_eq_some.mp hr
        obtain ⟨ro, hr1, hr⟩ := bnd_eq_some.mp hr
        obtain ⟨r, hr2, hr⟩ := (bnd_eq_some (o := ro)).mp hr
        subst hr2
        obtain ⟨⟨n, buf, s, k⟩, hq, hfin⟩ := (bnd_eq_some (o := chanAt h r)).mp hr
        have hxv := opv_VR he hx
        have hyv := opv_VR he hy
        cases x <;> simp [chanRef] at hr1
        subst hr1
        simp only [VR] at hxv
        obtain ⟨cl, hcl, hev⟩ := hxv
        have hget := chanAt_spec hq
        obtain ⟨cl', y', g1, g2, g3⟩ := H.objs _ _ hget
        rw [hcl] at g1; cases g1
        obtain ⟨b, rfl, hb⟩ := g3
        have hrun : (execOp a.eval o).run P w = .ok (.comm #[Conc.scase cl.blk (a.eval vo) zv] false .select) w := by
          unfold execOp; rw [ho, hcs']
          simp [hz1, hsend, Conc.scase, hev]
        have hlen : b.size = buf.length := by
          have := VRL.length hb; simpa using this
        refine opOk_comm hrun fun fr cs' es hstep => ?_
        simp only [cnd_eq, Nat.blt_eq, lenA_eq] at hfin
        split at hfin
        · rename_i hlt'
          cases hfin
          refine ⟨_, _, ⟨ρ, tuple2 (by simp only [VR]; rfl) (by simp only [VR]), ?_⟩, Conc.step_lone_select_send_room hstep g2 (by omega)⟩
          have hlt : cl.blk < w.heap.size := (Array.getElem?_eq_some_iff.mp g2).1
          refine Trans.ofSet H hget rfl hcl (y' := .chan n (b.push (a.eval vo)) false (s + 1) k false) ?_ ?_ ?_ ?_ rfl rfl
          · simp [World.setChan, hlt]
          · exact ⟨_, rfl, by rw [app_eq, Array.toList_push]; exact VRL.append hb (VRL.cons hyv VRL.nil)⟩
          · simp [World.setChan]
          · intro b' hne
            simp only [World.setChan]
            rw [Array.getElem?_setIfInBounds_ne (Ne.symm hne)]
        · rename_i hlt'
          cases hfin
          exact ⟨_, _, ⟨ρ, tuple2 (by simp only [VR]; rfl) (by simp only [VR]), .refl H⟩, Conc.step_lone_select_send_full hstep g2 (by omega)⟩
  · cases hr

theorem operTF_sound {call : CallV} (hc : CallSound P call) (o : Oper) : SoundT P call o (operTF P o.op) := by
  have base : SoundT P call o (operF P o.op) := fun e h v h' ρ w a hr he H => (operF_sound hc o e h v h' ρ w a hr he H).ok
  cases ho : o.op with
  | select cs blocking => exact select_sound ho
  | _ => rw [ho] at base; exact base

theorem opsF_sound {call : CallV} (hc : CallSound P call) (ops : Array Oper) : ∀ (todo : List Nat) (l : List Oper), Matches ops todo l → ∀ (e : Env) (h : AHeap) (e' : Env) (h' : AHeap) (ρ : Rho) (w : World) (a : Act),
    (opsF P ops.toList l).run call e h = some (e', h') → EnvR ρ e a → HRel ρ h w → ∀ (b : Frame) (k : List Item) (cs : List Frame),
    ∃ ρ' w' a', Steps P (lone (b.at a (.inRegion ops todo :: k)) cs w) (lone (b.at a' (.inRegion ops [] :: k)) cs w') ∧ EnvR ρ' e' a' ∧ a'.defers = a.defers ∧ Trans ρ h w ρ' h' w'
  | [], l, hm, e, h, e', h', ρ, w, a, hr, he, H, b, k, cs => by
    simp only [Matches] at hm; subst hm
    cases hr
    exact ⟨ρ, w, a, .refl _ _, he, rfl, .refl H⟩
  | i :: t, l, hm, e, h, e', h', ρ, w, a, hr, he, H, b, k, cs => by
    simp only [Matches] at hm
    obtain ⟨o, r, rfl, ho, hm⟩ := hm
    have doit : Region.wanted o (yielded ops a.tmps) = true → (bnd ((operTF P o.op).run call e h) fun q => (opsF P ops.toList r).run call (putD e o.dst q.1) q.2) = some (e', h') →
        ∃ ρ' w' a', Steps P (lone (b.at a (.inRegion ops (i :: t) :: k)) cs w) (lone (b.at a' (.inRegion ops [] :: k)) cs w') ∧ EnvR ρ' e' a' ∧ a'.defers = a.defers ∧ Trans ρ h w ρ' h' w' := by
      intro hw hr
      obtain ⟨q, hq, hr⟩ := bnd_eq_some.mp hr
      obtain ⟨v', w₁, ⟨ρ₁, g2, g3⟩, g1⟩ := operTF_sound hc o e h q.1 q.2 ρ w a hq he H b ops i t k cs ho hw
      obtain ⟨ρ₂, w₂, a₂, k1, k2, k3, k4⟩ := opsF_sound hc ops t r hm _ _ e' h' ρ₁ w₁ (a.put o.dst v') hr (put_R (he.mono g3.ext) g2) g3.rel b k cs
      exact ⟨ρ₂, w₂, a₂, g1.trans k1, k2, by rw [k3, put_defers], g3.trans k4⟩
    unfold opsF at hr
    cases hg : o.guard with
    | none =>
      rw [hg] at hr
      exact doit (by unfold Region.wanted; rw [hg]) hr
    | some g =>
      rw [hg] at hr
      obtain ⟨j, want⟩ := g
      simp only at hr
      replace hr : (if guardV ((ops.toList[j]?).bind Oper.dst) want e = true then bnd ((operTF P o.op).run call e h) fun q => (opsF P ops.toList r).run call (putD e o.dst q.1) q.2 else
        (opsF P ops.toList r).run call (putD e o.dst .undef) h) = some (e', h') := hr
      rw [guard_iff (ops := ops) he] at hr
      split at hr
      · rename_i hw
        exact doit (by unfold Region.wanted; rw [hg]; exact hw) hr
      · rename_i hw
        obtain ⟨ρ₂, w₂, a₂, k1, k2, k3, k4⟩ := opsF_sound hc ops t r hm _ _ e' h' ρ w (a.put o.dst Go.undef) hr (put_R he VR.undef) H b k cs
        refine ⟨ρ₂, w₂, a₂, .head ?_ k1, k2, by rw [k3, put_defers], k4⟩
        have hs := step_op_skip (P := P) (b := b) (a := a) (k := k) (cs := cs) (w := w) (ops := ops) (i := i) (rest := t)
          (by simp only [ho, Option.map_some, Option.getD_some]; unfold Region.wanted; rw [hg]; simpa using hw)
        simp only [ho, Option.bind_some] at hs
        exact hs

end
end Go.Proofs.YtonojkcnencodaaDoor.BH
