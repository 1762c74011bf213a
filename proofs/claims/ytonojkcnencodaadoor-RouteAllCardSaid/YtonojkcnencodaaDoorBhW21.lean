/-
  BH: walking by facts: zeros appended where there is no room; copies at a place.
-/
import Derived.Test.YtonojkcnencodaaDoorBhIns
section
namespace Go.Proofs.YtonojkcnencodaaDoor.BH
open Go
noncomputable section
section
variable {C : Ctx} {n d : Nat} {all r : List Oper} {ty : TypeId} {pos : String} {after : Array Edge} {E : Fs} {HF HR : List HI} {Q : Fs → List HI → Prop}
@[reducible] def putF (dst : Option Tmp) (v : AV) (E : Fs) : Fs := match dst with
  | some q => (q, v) :: E
  | none => E
end
end
end Go.Proofs.YtonojkcnencodaaDoor.BH

end
section
namespace Go.Proofs.YtonojkcnencodaaDoor.BH
noncomputable section
section
variable {C : Ctx} {n d : Nat} {ty : TypeId} {pos : String} {after : Array Edge} {E : Fs}
theorem lz_call {ops : List Oper} {dst : Option Tmp} {g : Option (Nat × Bool)} {f : FuncId} {args : Array Operand} {ts : Array TypeId} {l : List AV} {v : AV} (hl : evs E args.toList = some l) (hc : CallW C f l [] fun v' _ => v' = v) : LazyF C n ops E ⟨dst, .call ⟨.value (.func f), args, ts⟩, ty, pos, after, g⟩ v := ⟨fun {es} hs ρ h w a ea hw he hlk H => by
  have hgv := opv_VR he (show opv ea (.func f) = some (.func (.func f) [] []) from rfl)
  simp only [VR] at hgv
  obtain ⟨y, z, k1, k2, k3⟩ := hgv
  have hv : VRL ρ l (args.map a.eval).toList := by
    rw [Array.toList_map]
    exact opvs_VRL he ((opvs_congr fun q hq => opv_congr fun t ht => hlk t (by
      subst ht
      unfold looks
      exact List.mem_append_left _ (List.mem_filterMap.mpr ⟨.tmp t, by simp [Op.operands, Call.operands, (by simpa using hq : Operand.tmp t ∈ args)], rfl⟩))).trans (evs_opvs hs hl))
  have hall : VRL ρ l (y ++ args.map a.eval ++ z).toList := by
    simp only [Array.toList_append, List.append_assoc]
    have := VRL.append k2 (VRL.append hv k3)
    rwa [List.nil_append, List.append_nil] at this
  have s0 : SatH [] [] h := rfl
  refine exec_call rfl k1 ((hc h [] s0 hw ρ w _ hall H).mono ?_)
  rintro u w' ⟨v', ρ', h', fp', HF', g1, g2, g3, g4, g5, rfl⟩
  exact ⟨ρ', h', g1, g2, g4, fun x hx => g5.keep x (by simp) hx⟩⟩
/-- .. by what a pure function comes to. -/
theorem lz_fn {ops : List Oper} {dst : Option Tmp} {g : Option (Nat × Bool)} {f : FuncId} {keep : Bool} {args : Array Operand} {ts : Array TypeId} {l l' : List AV} {v : AV} {HF' : List HI} (hl : evs E args.toList = some l) (hs : C.cfg.sum f = none) (hk : C.cfg.kind f = ⟨true, keep, false, false, false⟩) (hf : FrzRL keep deep [] l l' HF') (hr : PFn C f l' v) : LazyF C n ops E ⟨dst, .call ⟨.value (.func f), args, ts⟩, ty, pos, after, g⟩ v :=
  lz_call hl (cw_fn hs hk hf hr rfl)
theorem pf_text {s t e : TypeId} {x : Operand} {l : List UInt8} (hu : undOf C.P t = some .string) (hs : undOf C.P s = some (.slice e)) (hb : undOf C.P e = some (.int .u8)) (hx : ev E x = some (AL eB l)) : PureF C n E (.convert s t x) (.str l) := fun e' h _ h1 => by
  show (bnd (opv e' x) fun a => (convF C.P s t).run h a) = _
  rw [ev_opv h1 hx]
  unfold convF; simp only [hu, hs]
  have e1 : isByte C.P e = true := by unfold isByte; rw [hb]
  simp only [e1, cnd_true, bnd_some]
  show (bnd (takeN l.length (l.flatMap eB)) fun cs => bnd (bytesOfCells cs) fun l => some (AV.str l, h)) = _
  have := slots_of (cs := l.flatMap eB) (o := 0) (k := l.length) (by rw [flat_length eB_len]; omega)
  rw [show takeN l.length (l.flatMap eB) = some (((l.flatMap eB).drop 0).take l.length) from this, bnd_some, List.drop_zero, List.take_of_length_le (by rw [flat_length eB_len]; omega), bytes_cells]; rfl
end
end
end Go.Proofs.YtonojkcnencodaaDoor.BH

end
section
namespace Go.Proofs.YtonojkcnencodaaDoor.BH
noncomputable section
section
variable {C : Ctx} {n d : Nat} {all r : List Oper} {ty : TypeId} {pos : String} {after : Array Edge} {E : Fs} {HF : List HI} {Q : Fs → List HI → Prop}
theorem buildSO_run {P : Program} {ρ : Rho} {h : AHeap} {w : World} (H : HRel ρ h w) {t e s m : Nat} {ps : List (Nat × AV)} {ps' : Array (Nat × Value)} {z cs : List AV} (hp : PartsR ρ ps ps'.toList) (hu : undOf P t = some (.slice e)) (hs : szOf P e = some s) (hz : zeroCells P e = some z) (hle : m * s ≤ 65536)
    (hcs : fillV (fun i => some (i * s, s)) (repl m z) ps = some cs) : ∃ ρ' w' v', (Instr.buildSlice t m ps').run P w = .ok v' w' ∧ VR ρ' (.slice (some ⟨h.next, 0⟩) m (.op 0)) v' ∧ Trans ρ h w ρ' (h.push (.row e s false cs)) w' := by
  obtain ⟨_, _, _, z3, z4⟩ := zeroCells_run (w := w) ρ hz
  rw [hs] at z3; cases z3
  obtain ⟨zs, g0, g1, g2⟩ := zeroIf_run (P := P) (ρ := ρ) (w := w) (n := m) hz
  obtain ⟨us', f1, f2, f3, f4⟩ := fill_run hcs hp g2 (repl_scalar z4 m)
  rw [repl_length] at f3
  obtain ⟨w', n1, n2⟩ := newRow_run (P := P) H (e := e) (s := z.length) (k := m) f2 f4 f3
  refine ⟨_, w', .slice (some ⟨w.heap.size, 0, none⟩) m m, ?_, slice_VR_op (Nat.le_refl _), n2⟩
  unfold Instr.buildSlice
  have e1 : ¬ m * z.length > 2 ^ 24 := by omega
  by_cases h0 : m * z.length = 0
  · rw [g0 h0, h0] at f1
    simp only [Sem.run_bind, run_und hu, Result.andThen_ok, run_sizeOf' hs]
    rw [if_neg e1]
    simp only [Sem.run_bind, h0, if_true, Sem.run_pure, Result.andThen_ok, f1, n1]
  · obtain ⟨zv, k1, k2⟩ := g1 h0
    rw [← k2] at f1
    simp only [Sem.run_bind, run_und hu, Result.andThen_ok, run_sizeOf' hs, e1, if_false, h0, Sem.run_pure, k1, f1, n1]
theorem w_buildSO {t e s m : Nat} {ps : Array (Nat × Operand)} {l : List (Nat × AV)} {z cs : List AV} (hu : undOf C.P t = some (.slice e)) (hz : szOf C.P e = some s) (hzc : zeroCells C.P e = some z) (hle : m * s ≤ 65536) (hd : Nat.blt d n = true)
    (hl : evp E ps.toList = some l) (hf : fillV (fun i => some (i * s, s)) (repl m z) l = some cs) (hk : ∀ o, WS C n all r ((d, .slice (some ⟨o, 0⟩) m (.op 0)) :: E) (.obj o (.row e s false cs) :: HF) Q) :
    WS C n all (⟨some d, .buildSlice t m ps, ty, pos, after, none⟩ :: r) E HF Q :=
  ws_opX rfl (by show (2 : Nat) ≠ 0; decide) fun e' h fp h1 h2 h3 ρ w a ea he hse H => by
    have hp' : parts ea ps.toList = some l := (parts_congr fun x hx => hse.opv (x := x.2) (by
      simp only [Op.operands]
      exact List.mem_toArray.mpr (List.mem_map_of_mem (f := fun x => x.2) hx))).trans (evp_parts h1 hl)
    have hp : PartsR ρ l (ps.map fun (i, x) => (i, a.eval x)).toList := by rw [Array.toList_map]; exact parts_R he hp'
    obtain ⟨ρ', w', v', g1, g2, g3⟩ := buildSO_run (P := C.P) H hp hu hz hzc hle hf
    obtain ⟨k1, k2⟩ := sat_push h2 h3 (.row e s false cs)
    refine .of (.inl ⟨.value v', v', w', ?_, rfl, _, ρ', _, _, _, _, g2, g3, h1.put d _ hd, k1, h3.push _, k2, hk h.next⟩)
    unfold execOp
    simp only [Sem.run_bind, g1, Result.andThen_ok]; rfl
end
end
end Go.Proofs.YtonojkcnencodaaDoor.BH

end
