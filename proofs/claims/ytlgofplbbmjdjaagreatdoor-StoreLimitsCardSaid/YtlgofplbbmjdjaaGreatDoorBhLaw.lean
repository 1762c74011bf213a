/-
  BH: from a run of the evaluator to a row: a law that takes nothing.
-/
import Derived.Test.YtlgofplbbmjdjaaGreatDoorBhDraw3
import Derived.ProofKit
namespace Go.Proofs.YtlgofplbbmjdjaaGreatDoor.BH
open Go.ChangeShapes Go.WideShapes Go.ChangeAt Go.RowKit

def isTrue : Option (AV × AHeap) → Bool
  | some (.bool true, _) => true
  | _ => false

/-- What a call may leave behind, where it is handed nothing. -/
structure Kept (W W' : World) : Prop where
  kept : W.keptBut W' (fun _ => False)
  size : W.heap.size ≤ W'.heap.size
  frozen : ∀ a, a.block < W.heap.size → W'.frozen? a = W.frozen? a

theorem HRel.init (n : Nat) (W : World) : HRel Rho.zero (AHeap.init n) W where
  objs := by
    intro o x hx
    have : (AHeap.init n).get o = none := by
      unfold AHeap.init AHeap.get
      simp [T.get_leaf]
    rw [this] at hx; cases hx
  inj := by
    intro o o' x x' c c' hx
    have : (AHeap.init n).get o = none := by
      unfold AHeap.init AHeap.get
      simp [T.get_leaf]
    rw [this] at hx; cases hx
  fresh := fun _ _ => rfl
  rets := by
    intro b x hb
    rcases hb with hb | hb <;> cases hb
  fixed := by
    intro o x c hx hf hc
    cases hc

theorem Trans.keeps {n : Nat} {W W' : World} {ρ' : Rho} {h' : AHeap} (T : Trans Rho.zero (AHeap.init n) W ρ' h' W') : Kept W W' := by
  have same : ∀ b, b < W.heap.size → W'.heap[b]? = W.heap[b]? := fun b hb => T.kept b hb fun o x c _ _ hc => by cases hc
  refine ⟨⟨T.os, T.outp, fun i hi => ?_⟩, T.size, fun a ha => ?_⟩
  · rw [same i hi]
    split
    · rename_i c t fr c' t' fr' h1 h2
      rw [h1] at h2; cases h2
      exact ⟨rfl, rfl, rfl, fun _ _ => rfl⟩
    · rename_i es cl es' cl' h1 h2
      rw [h1] at h2; cases h2
      exact .inr ⟨rfl, rfl⟩
    · rfl
  · unfold World.frozen?
    rw [same _ ha]

/-- A law that takes nothing: what the evaluator finds, it returns. -/
theorem closed_calls {P : Program} {f : FuncId} {fn : Func} {c : Code} {n k : Nat} (hm : P.follows .mixedOrders = true) (hf : P.funcs[f]? = some fn) (hname : (fn.name == "runtime.NumGoroutine") = false) (hb : fn.body = some c)
    (hr : isTrue (callF P (regionF P) n f [] (AHeap.init k)) = true) (W : World) : Calls P f #[] W fun e W' => e = .returned (.bool true) ∧ Kept W W' := by
  obtain ⟨h', hr⟩ : ∃ h', callF P (regionF P) n f [] (AHeap.init k) = some (.bool true, h') := by
    cases hq : callF P (regionF P) n f [] (AHeap.init k) with
    | none => rw [hq] at hr; cases hr
    | some q =>
      obtain ⟨v, h'⟩ := q
      rw [hq] at hr
      unfold isTrue at hr
      split at hr
      · rename_i heq
        cases heq; exact ⟨_, rfl⟩
      · cases hr
  have hname' : fn.name ≠ "runtime.NumGoroutine" := by simpa using hname
  have henter : (callFunc f #[]).run P W = .ok (.enter f #[]) W := by simp [callFunc, hf, hname', hb]
  rcases callF_sound (regionF_sound hm) n f [] (AHeap.init k) (.bool true) h' Rho.zero W #[] hr VRL.nil (HRel.init k W) with ⟨_, hc⟩ | ⟨v, w', hv, _⟩
  · refine hc.mono ?_
    rintro e W' ⟨v, rfl, ρ', hv, T⟩
    simp only [VR] at hv
    subst hv
    exact ⟨rfl, T.keeps⟩
  · rw [henter] at hv; cases hv

/-- The row's end, where only old memory is held to. -/
theorem post_of_kept {H : Type} {enc : TypeId × Value → H} {P : Program} {f : Func} {s : ChangeSpec} {apart fresh handsOn again : Bool} {W W' : World} {v : Value} {gs : List (DataW H)} {before : List MemPlace}
    (hp : f.params.toList = []) (hv : s.vars = []) (hW : DataW.Whole enc P f.params.toList s.vars apart W ([] : List Value) [] gs before)
    (hres : ∀ (b : Nat) (sp : Nat → Bool) (hd : Bool), DataW.TrodAll enc P W' b sp hd f.resultTypes.toList (v.resultList f.resultTypes.size) (s.fn H ([] ++ gs)).results [])
    (ha : (s.fn H ([] ++ gs)).args = []) (hvs : (s.fn H ([] ++ gs)).vars = []) (hk : Kept W W')
    (hok : ∀ (j : Nat) (t : TypeId) (r : Value), f.resultTypes[j]? = some t → (v.resultList f.resultTypes.size)[j]? = some r → Value.okWide P W' .any 0 t r) :
    s.post enc P f apart fresh handsOn again W #[] v W' := by
  have hbef : before = [] := by
    obtain ⟨p, q, h1, h2, h3, _, _⟩ := hW
    rw [hp] at h1
    rw [hv] at h2
    have e1 : p = [] := (trodAll_none (args := #[]) h1).2.2
    obtain ⟨_, e2⟩ := trodVars_none h2
    rw [h3, e1, e2]; rfl
  subst hbef
  have targs : ∀ sp : Nat → Bool, DataW.TrodAll enc P W' 0 sp true f.params.toList ([] : List Value) (s.fn H ([] ++ gs)).args [] := by
    intro sp
    rw [hp, ha]; exact trodAll_mk0
  have tvars : ∀ sp : Nat → Bool, DataW.TrodVars enc P W' sp s.vars (s.fn H ([] ++ gs)).vars [] := by
    intro sp
    rw [hv, hvs]; rfl
  refine ⟨[], gs, [], [], [], [], hW, hres _ _ _, targs _, tvars _, World.keptBut_mono (fun p hp => hp.elim) hk.kept, fun _ => ?_⟩
  refine ⟨hok, _, _, ([] ++ []) ++ [], ⟨[] ++ [], [], trodAll_append (targs _) (hres _ _ _), tvars _, rfl, ?_, ?_⟩, ?_⟩
  · intro b off hp
    simp at hp
  · intro _
    simp
  · intro p hp
    simp at hp

end Go.Proofs.YtlgofplbbmjdjaaGreatDoor.BH
