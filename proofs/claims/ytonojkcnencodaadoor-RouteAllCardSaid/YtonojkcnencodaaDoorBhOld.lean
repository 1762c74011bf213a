/-
  BH: walking by facts: lists of things laid flat into cells.
-/
import Derived.Test.YtonojkcnencodaaDoorBhW5
import Derived.Test.YtonojkcnencodaaDoorBhDraw3
import Derived.ProofKit
section
namespace Go.Proofs.YtonojkcnencodaaDoor.BH
noncomputable section

section
variable {α : Type}
/-- A list, laid into cells. -/
def AL (enc : α → List AV) (l : List α) : AV := .lst (l.flatMap enc) l.length false true
theorem flat_length {enc : α → List AV} {s : Nat} (hs : ∀ x, (enc x).length = s) : ∀ l : List α, (l.flatMap enc).length = l.length * s
  | [] => by simp
  | a :: r => by rw [List.flatMap_cons, List.length_append, hs, flat_length hs r, List.length_cons, Nat.add_mul]; omega
theorem flat_get {enc : α → List AV} {s : Nat} (hs : ∀ x, (enc x).length = s) : ∀ {l : List α} {k off : Nat} {x : α}, l[k]? = some x → off < s → (l.flatMap enc)[k * s + off]? = (enc x)[off]?
  | [], _, _, _, h, _ => by simp at h
  | a :: r, 0, off, x, h, ho => by
    simp at h; subst h
    rw [List.flatMap_cons, Nat.zero_mul, Nat.zero_add, List.getElem?_append_left (by rw [hs]; exact ho)]
  | a :: r, k + 1, off, x, h, ho => by
    rw [List.flatMap_cons, List.getElem?_append_right (by rw [hs, Nat.add_mul]; omega), hs, show (k + 1) * s + off - s = k * s + off by rw [Nat.add_mul]; omega]
    exact flat_get hs (by simpa using h) ho
theorem flat_slots {enc : α → List AV} {s : Nat} (hs : ∀ x, (enc x).length = s) {l : List α} {k : Nat} {x : α} (h : l[k]? = some x) : slots (l.flatMap enc) (k * s) s = some (enc x) := by
  have hk := (List.getElem?_eq_some_iff.mp h).1
  have hle : k * s + s ≤ (l.flatMap enc).length := by
    rw [flat_length hs]
    calc k * s + s = (k + 1) * s := by rw [Nat.add_mul]; omega
      _ ≤ l.length * s := Nat.mul_le_mul_right _ hk
  rw [slots_of hle]
  congr 1
  refine List.ext_getElem? fun i => ?_
  rw [List.getElem?_take]
  split
  · rename_i hi
    rw [List.getElem?_drop, flat_get hs h hi]
  · rename_i hi
    rw [List.getElem?_eq_none]; rw [hs]; omega
theorem flat_done {enc : α → List AV} (hd : ∀ x, (enc x).all doneV = true) : ∀ l : List α, (l.flatMap enc).all doneV = true
  | [] => rfl
  | a :: r => by rw [List.flatMap_cons, List.all_append, hd, flat_done hd r]; rfl
theorem flat_scalar {enc : α → List AV} (hd : ∀ x, (enc x).all AV.scalar = true) : ∀ l : List α, (l.flatMap enc).all AV.scalar = true
  | [] => rfl
  | a :: r => by rw [List.flatMap_cons, List.all_append, hd, flat_scalar hd r]; rfl
theorem get_of_lt {l : List α} {k : Nat} (h : k < l.length) : ∃ x, l[k]? = some x := ⟨l[k], List.getElem?_eq_getElem h⟩
theorem take_one {l : List α} {k : Nat} {x : α} (h : l[k]? = some x) : l.take (k + 1) = l.take k ++ [x] := by rw [List.take_add_one, h]; rfl
theorem drop_one {l : List α} {k : Nat} {x : α} (h : l[k]? = some x) : l.drop k = x :: l.drop (k + 1) := by
  have hk := (List.getElem?_eq_some_iff.mp h)
  obtain ⟨h1, h2⟩ := hk
  rw [List.drop_eq_getElem_cons h1, h2]
end

section
variable {α : Type} {enc : α → List AV} {s : Nat} {l : List α} {k : Nat} {x : α}
theorem flat_aggs (hs : ∀ x, (enc x).length = s) (hx : l[k]? = some x) : slots (l.flatMap enc) (((k : Nat) : Int).toNat * s) s = some (enc x) := by rw [Int.toNat_natCast]; exact flat_slots hs hx
theorem new_flat {HF : List HI} {b : Bool} {p : Bool} (hs : ∀ x, (enc x).length = s) (hd : ∀ x, (enc x).all AV.scalar = true) : NewR s HF (.lst (l.flatMap enc) l.length b p) l.length (l.flatMap enc) := new_lst (flat_length hs l) (flat_scalar hd l)
theorem slice_al {P : Program} {t e i j : Nat} {lo hi : Option AV} (hu : undOf P t = some (.slice e)) (hz : szOf P e = some (s + 1)) (hs : ∀ x, (enc x).length = s + 1) (hl : natOr 0 lo = some i) (hh : natOr l.length hi = some j) (h1 : i ≤ j) (h2 : j ≤ l.length) (h : AHeap) :
    (sliceF P t).run h (AL enc l) lo hi none = some (AL enc ((l.drop i).take (j - i))) := by
  have := slice_lst (cs := l.flatMap enc) (m := l.length) (f := false) (p := true) hu hz hl hh h1 h2 (flat_length hs l) h
  unfold AL
  rw [this]
  have e1 : ((l.flatMap enc).drop (i * (s + 1))).take ((j - i) * (s + 1)) = ((l.drop i).take (j - i)).flatMap enc := by
    have d : ∀ (i : Nat) (l : List α), (l.flatMap enc).drop (i * (s + 1)) = (l.drop i).flatMap enc := by
      intro i
      induction i with
      | zero => intro l; simp
      | succ i ih =>
        intro l
        cases l with
        | nil => simp
        | cons a r => rw [List.flatMap_cons, show (i + 1) * (s + 1) = (enc a).length + i * (s + 1) by rw [hs, Nat.add_mul]; omega, ← List.drop_drop, List.drop_left, ih]; rfl
    have t : ∀ (i : Nat) (l : List α), (l.flatMap enc).take (i * (s + 1)) = (l.take i).flatMap enc := by
      intro i
      induction i with
      | zero => intro l; simp
      | succ i ih =>
        intro l
        cases l with
        | nil => simp
        | cons a r => rw [List.flatMap_cons, show (i + 1) * (s + 1) = (enc a).length + i * (s + 1) by rw [hs, Nat.add_mul]; omega, List.take_length_add_append, ih]; rfl
    rw [d, t]
  rw [e1, List.length_take, List.length_drop]
  congr 2
  omega
end

/-- Texts, whole numbers, bytes, truths. -/
def eS (s : List UInt8) : List AV := [.str s]
def eI (n : Int) : List AV := [.int .i64 n]
def eB (b : UInt8) : List AV := [.int .u8 b.toNat]
theorem eB_len (b : UInt8) : (eB b).length = 1 := rfl
end
end Go.Proofs.YtonojkcnencodaaDoor.BH

end
section
namespace Go.Proofs.YtonojkcnencodaaDoor.BH
open Go.ChangeShapes Go.WideShapes Go.ChangeAt Go.RowKit

def isTrue : Option (AV × AHeap) → Bool
  | some (.bool true, _) => true
  | _ => false

/-- What a call may leave behind, where it is handed nothing. -/
structure Kept (W W' : World) : Prop where
  kept : W.keptBut W' (fun _ => False)
  size : W.heap.size ≤ W'.heap.size
  frozen : ∀ a, a.block < W.heap.size → W'.frozen? a = W.frozen? a

theorem HRel.init (n : Nat) (W : World) : HRel Rho.zero (AHeap.init n) W where
  objs := by
    intro o x hx
    have : (AHeap.init n).get o = none := by
      unfold AHeap.init AHeap.get
      simp [T.get_leaf]
    rw [this] at hx; cases hx
  inj := by
    intro o o' x x' c c' hx
    have : (AHeap.init n).get o = none := by
      unfold AHeap.init AHeap.get
      simp [T.get_leaf]
    rw [this] at hx; cases hx
  fresh := fun _ _ => rfl
  rets := by
    intro b x hb
    rcases hb with hb | hb <;> cases hb
  fixed := by
    intro o x c hx hf hc
    cases hc

theorem Trans.keeps {n : Nat} {W W' : World} {ρ' : Rho} {h' : AHeap} (T : Trans Rho.zero (AHeap.init n) W ρ' h' W') : Kept W W' := by
  have same : ∀ b, b < W.heap.size → W'.heap[b]? = W.heap[b]? := fun b hb => T.kept b hb fun o x c _ _ hc => by cases hc
  refine ⟨⟨T.os, T.outp, fun i hi => ?_⟩, T.size, fun a ha => ?_⟩
  · rw [same i hi]
    split
    · rename_i c t fr c' t' fr' h1 h2
      rw [h1] at h2; cases h2
      exact ⟨rfl, rfl, rfl, fun _ _ => rfl⟩
    · rename_i es cl es' cl' h1 h2
      rw [h1] at h2; cases h2
      exact .inr ⟨rfl, rfl⟩
    · rfl
  · unfold World.frozen?
    rw [same _ ha]

end Go.Proofs.YtonojkcnencodaaDoor.BH

end
section
namespace Go.Proofs.YtonojkcnencodaaDoor.BH
open Go.ChangeShapes Go.WideShapes Go.ChangeAt Go.RowKit

/-- What was there stands; the streams are as they were. -/
structure Old (W W' : World) : Prop where
  os : W'.os = W.os
  output : W'.output = W.output
  size : W.heap.size ≤ W'.heap.size
  block : ∀ b, b < W.heap.size → W'.heap[b]? = W.heap[b]?

theorem Old.refl (W : World) : Old W W := ⟨rfl, rfl, Nat.le_refl _, fun _ _ => rfl⟩
theorem Old.trans {a b c : World} (h : Old a b) (k : Old b c) : Old a c :=
  ⟨k.os.trans h.os, k.output.trans h.output, Nat.le_trans h.size k.size, fun i hi => (k.block i (Nat.lt_of_lt_of_le hi h.size)).trans (h.block i hi)⟩
theorem Old.frozen {W W' : World} (h : Old W W') {p : Addr} (hp : p.block < W.heap.size) : W'.frozen? p = W.frozen? p := World.frozen?_of_block (w := W) (h.block p.block hp)
theorem Old.cell {W W' : World} (h : Old W W') {p : Addr} (hp : p.block < W.heap.size) : W'.cell? p = W.cell? p := World.cell?_of_block (w := W) (h.block p.block hp)
theorem Old.frame {W W' : World} (h : Old W W') (may : MemPlace → Prop) : W.keptBut W' may := by
  refine ⟨h.os, h.output, fun i hi => ?_⟩
  rw [h.block i hi]
  split <;> simp_all
theorem Old.same {W W' : World} (h : Old W W') {p : MemPlace} (hp : p.block < W.heap.size) : W.sameAt W' p := by
  cases p with
  | cell b o => exact World.cell?_of_block (w := W) (h.block b hp)
  | map b => exact h.block b hp

theorem Trans.old {n : Nat} {W W' : World} {ρ' : Rho} {h' : AHeap} (T : Trans Rho.zero (AHeap.init n) W ρ' h' W') : Old W W' :=
  ⟨T.os, T.outp, T.size, fun b hb => T.kept b hb fun o x c _ _ hc => by cases hc⟩

theorem trodAll_stays {H : Type} {enc : TypeId × Value → H} {P : Program} (hl : laidOutB P = true) {W W' : World} {sp' : Nat → Bool} : ∀ (ts : List TypeId) (vs : List Value) (ds : List (DataW H)) (ps : List MemPlace),
    ts.all (fun t => P.readableRec t && decide (t < P.types.size)) = true → DataW.TrodAll enc P W 0 (fun _ => true) true ts vs ds ps → (∀ p ∈ ps, W.sameAt W' p) → (∀ p ∈ ps, sp' p.block = true) → DataW.TrodAll enc P W' 0 sp' true ts vs ds ps
  | [], [], [], _, _, h, _, _ => h
  | t :: ts, v :: vs, d :: ds, ps, ht, h, hs, hp => by
    simp only [List.all_cons, Bool.and_eq_true, decide_eq_true_eq] at ht
    obtain ⟨p, q, h1, h2, rfl⟩ := h
    exact ⟨p, q, WideElems.Trod_stays hl ht.1.1 ht.1.2 h1 (fun x hx => hs x (List.mem_append_left _ hx)) (fun x hx => hp x (List.mem_append_left _ hx)),
      trodAll_stays hl ts vs ds q ht.2 h2 (fun x hx => hs x (List.mem_append_right _ hx)) (fun x hx => hp x (List.mem_append_right _ hx)), rfl⟩
  | [], _ :: _, _, _, _, h, _, _ => h.elim
  | [], [], _ :: _, _, _, h, _, _ => h.elim
  | _ :: _, [], _, _, _, h, _, _ => h.elim
  | _ :: _, _ :: _, [], _, _, h, _, _ => h.elim

/-- The row's end: what the law returns reads without memory; nothing old has turned. -/
theorem post_of_old {H : Type} {enc : TypeId × Value → H} {P : Program} {f : Func} {s : ChangeSpec} {apart fresh handsOn again : Bool} {W W' : World} {args : Array Value} {v : Value} {ds gs : List (DataW H)} {before : List MemPlace}
    (hl : laidOutB P = true) (hts : f.params.toList.all (fun t => P.readableRec t && decide (t < P.types.size)) = true) (hv : s.vars = []) (hW : DataW.Whole enc P f.params.toList s.vars apart W args.toList ds gs before)
    (hres : ∀ (b : Nat) (sp : Nat → Bool) (hd : Bool), DataW.TrodAll enc P W' b sp hd f.resultTypes.toList (v.resultList f.resultTypes.size) (s.fn H (ds ++ gs)).results [])
    (ha : (s.fn H (ds ++ gs)).args = ds) (hvs : (s.fn H (ds ++ gs)).vars = []) (hk : Old W W')
    (hok : ∀ (j : Nat) (t : TypeId) (r : Value), f.resultTypes[j]? = some t → (v.resultList f.resultTypes.size)[j]? = some r → Value.okWide P W' .any 0 t r) :
    s.post enc P f apart fresh handsOn again W args v W' := by
  have hlt := fun (p : MemPlace) (hp : p ∈ before) => hW.lt p hp
  have hold : ∀ p ∈ before, (fun b => decide (b < W.heap.size)) p.block = true := fun p hp => by simpa using hlt p hp
  have hW0 := hW
  obtain ⟨p, q, h1, h2, h3, hz, hn⟩ := hW
  rw [hv] at h2
  obtain ⟨_, e2⟩ := trodVars_none h2
  have e3 : before = p := by rw [h3, e2, List.append_nil]
  subst e3
  have targs : ∀ sp : Nat → Bool, (∀ x ∈ before, sp x.block = true) → DataW.TrodAll enc P W' 0 sp true f.params.toList args.toList (s.fn H (ds ++ gs)).args before := by
    intro sp hsp
    rw [ha]
    exact trodAll_stays hl _ _ _ _ hts h1 (fun x hx => hk.same (hlt x hx)) hsp
  have tvars : ∀ sp : Nat → Bool, DataW.TrodVars enc P W' sp s.vars (s.fn H (ds ++ gs)).vars [] := by
    intro sp
    rw [hv, hvs]; rfl
  refine ⟨ds, gs, before, [], before, [], hW0, hres _ _ _, targs _ hold, tvars _, World.keptBut_mono (fun x hx => hx.elim) (hk.frame fun _ => False), fun _ => ?_⟩
  refine ⟨hok, _, _, ([] ++ before) ++ [], ⟨[] ++ before, [], trodAll_append (targs _ (fun _ _ => rfl)) (hres _ _ _), tvars _, rfl, ?_, ?_⟩, ?_⟩
  · intro b off hp
    have hp' : MemPlace.cell b off ∈ before := by simpa using hp
    have hb : b < W.heap.size := hlt (.cell b off) hp'
    rw [hk.frozen hb]
    exact hz b off hp'
  · intro ha
    have := hn ha
    simpa using this
  · intro x hx _
    simpa using hx

end Go.Proofs.YtonojkcnencodaaDoor.BH

end
