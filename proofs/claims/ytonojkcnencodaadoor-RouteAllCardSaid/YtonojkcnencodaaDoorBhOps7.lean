/-
  BH: slices made, appended to, copied; conversions.
-/
import Derived.Test.YtonojkcnencodaaDoorBhOps5
section
namespace Go.Proofs.YtonojkcnencodaaDoor.BH

section
variable {P : Program} {ρ : Rho} {h : AHeap} {w : World}

theorem HRel.of_heap {w' : World} (H : HRel ρ h w) (e : w'.heap = w.heap) : HRel ρ h w' :=
  ⟨by rw [e]; exact H.objs, H.inj, H.fresh, by rw [e]; exact H.rets, H.fixed⟩
theorem Trans.of_heap {ρ' : Rho} {h' : AHeap} {w₁ w' : World} (e : w₁.heap = w.heap) (eo : w₁.output = w.output) (es : w₁.os = w.os) (A : Trans ρ h w₁ ρ' h' w') : Trans ρ h w ρ' h' w' where
  ext := A.ext
  rel := A.rel
  kept := by have := A.kept; rw [e] at this; exact this
  size := by have := A.size; rw [e] at this; exact this
  outp := A.outp.trans eo
  os := A.os.trans es
  blks := by have := A.blks; rw [e] at this; exact this
  ids := A.ids
  next := A.next
  rids := by have := A.rids; rw [e] at this; exact this
  views := A.views

theorem range_zero (zs : Array Value) (n s : Nat) (hs : zs.size = s) :
    ((Array.range (n * s)).map (zs[· % zs.size]!)).toList = (List.range (n * zs.toList.length)).map fun i => zs.toList[i % zs.toList.length]! := by
  simp only [Array.toList_map, Array.toList_range, hs, Array.length_toList]
  refine List.map_congr_left fun i _ => ?_
  simp [Array.getElem!_eq_getD, Array.getD_eq_getD_getElem?]

theorem repl_range {z : List AV} {zs : Array Value} (hz : VRL ρ z zs.toList) (n : Nat) :
    VRL ρ (repl n z) ((Array.range (n * z.length)).map (zs[· % zs.size]!)).toList := by
  have hl := hz.length
  rw [Array.length_toList] at hl
  rw [range_zero zs n z.length hl]
  by_cases he : zs.toList = []
  · have e1 : z.length = 0 := by rw [← hl, ← Array.length_toList, he]; rfl
    have e2 : z = [] := List.length_eq_zero_iff.mp e1
    have e3 : repl n z = [] := List.length_eq_zero_iff.mp (by rw [repl_length, e1]; omega)
    rw [e3, he]; simp; exact VRL.nil
  · exact repl_VRL hz he n

/-- The zero value's cells, as the model takes them: none where none are wanted. -/
theorem zeroIf_run {e n : Nat} {z : List AV} (hz : zeroCells P e = some z) :
    ∃ zs : Array Value, (n * z.length = 0 → zs = #[]) ∧ (n * z.length ≠ 0 → ∃ zv, (zeroValue e).run P w = .ok zv w ∧ zv.cells = zs) ∧
      VRL ρ (repl n z) ((Array.range (n * z.length)).map (zs[· % zs.size]!)).toList := by
  obtain ⟨zv, z1, z2, z3, z4⟩ := zeroCells_run (w := w) ρ hz
  by_cases h0 : n * z.length = 0
  · refine ⟨#[], fun _ => rfl, fun hh => absurd h0 hh, ?_⟩
    have e3 : repl n z = [] := List.length_eq_zero_iff.mp (by rw [repl_length]; exact h0)
    rw [h0, e3]; simp; exact VRL.nil
  · exact ⟨zv.cells, fun hh => absurd hh h0, fun _ => ⟨zv, z1, rfl⟩, repl_range z2 n⟩

theorem slice_VR {o blk k n c : Nat} : VR (upd ρ o ⟨blk, 0, k⟩) (.slice (some ⟨o, 0⟩) n (.exact c)) (.slice (some ⟨blk, 0, none⟩) n c) ↔ n ≤ c := by
  simp only [VR, ACap.val]
  constructor
  · rintro ⟨c', ad, _, h2, h3, _⟩; exact h3
  · intro hn; exact ⟨_, _, upd_self _ _ _, rfl, hn, fun _ => rfl⟩
theorem slice_VR_op {o blk k n : Nat} (hn : n ≤ k) : VR (upd ρ o ⟨blk, 0, k⟩) (.slice (some ⟨o, 0⟩) n (.op 0)) (.slice (some ⟨blk, 0, none⟩) n k) := by
  simp only [VR, ACap.val]
  exact ⟨_, _, upd_self _ _ _, rfl, hn, fun _ => rfl⟩

theorem buildSlice_run (H : HRel ρ h w) {t : TypeId} {n : Nat} {ps : List (Nat × AV)} {ps' : Array (Nat × Value)} {v : AV} {h' : AHeap} (hp : PartsR ρ ps ps'.toList)
    (hr : (buildSliceF P t n).run h ps = some (v, h')) : ∃ ρ' w' v', (Instr.buildSlice t n ps').run P w = .ok v' w' ∧ VR ρ' v v' ∧ Trans ρ h w ρ' h' w' := by
  unfold buildSliceF at hr
  cases hu : undOf P t with
  | none => rw [hu] at hr; cases hr
  | some D =>
    rw [hu] at hr
    cases D with
    | slice e =>
      simp only at hr
      cases hs : szOf P e with
      | none => simp only [hs] at hr; cases hr
      | some s =>
        cases hz : zeroCells P e with
        | none => simp only [hs, hz] at hr; cases hr
        | some z =>
          simp only [hs, hz] at hr
          rw [cnd_eq] at hr
          split at hr
          · rename_i hle
            rw [bleN] at hle
            obtain ⟨cs, hcs, hr⟩ := bnd_eq_some.mp hr
            cases hr
            obtain ⟨_, _, _, z3, z4⟩ := zeroCells_run (w := w) ρ hz
            rw [hs] at z3; cases z3
            obtain ⟨zs, g0, g1, g2⟩ := zeroIf_run (P := P) (ρ := ρ) (w := w) (n := n) hz
            obtain ⟨us', f1, f2, f3, f4⟩ := fill_run hcs hp g2 (repl_scalar z4 n)
            rw [repl_length] at f3
            obtain ⟨w', n1, n2⟩ := newRow_run (P := P) H (e := e) (s := z.length) (k := n) f2 f4 f3
            refine ⟨_, w', .slice (some ⟨w.heap.size, 0, none⟩) n n, ?_, slice_VR.mpr (Nat.le_refl _), n2⟩
            unfold Instr.buildSlice
            have e1 : ¬ n * z.length > 2 ^ 24 := by omega
            by_cases h0 : n * z.length = 0
            · rw [g0 h0, h0] at f1
              simp only [Sem.run_bind, run_und hu, Result.andThen_ok, run_sizeOf' hs]
              rw [if_neg e1]
              simp only [Sem.run_bind, h0, if_true, Sem.run_pure, Result.andThen_ok, f1, n1]
            · obtain ⟨zv, k1, k2⟩ := g1 h0
              rw [← k2] at f1
              simp only [Sem.run_bind, run_und hu, Result.andThen_ok, run_sizeOf' hs, e1, if_false, h0, Sem.run_pure, k1, f1, n1]
          · cases hr
    | _ => cases hr

theorem wrap_nat {n : Nat} (hn : n ≤ bigBy) : IntKind.i64.wrap (n : Int) = n := IntWalk.i64_in _ (by unfold bigBy at hn; omega)

set_option maxRecDepth 10000 in
theorem makeSlice_run (H : HRel ρ h w) {t : TypeId} {x y v : AV} {u u' : Value} {h' : AHeap} (hx : VR ρ x u) (hy : VR ρ y u')
    (hr : (makeSliceF P t).run h x y = some (v, h')) : ∃ ρ' w' v', (Instr.makeSlice t u u').run P w = .ok v' w' ∧ VR ρ' v v' ∧ Trans ρ h w ρ' h' w' := by
  unfold makeSliceF at hr
  cases hu : undOf P t with
  | none => rw [hu] at hr; cases hr
  | some D =>
    rw [hu] at hr
    cases D with
    | slice e =>
      simp only at hr
      cases hb : bytesOf P e with
      | none => simp only [hb] at hr; cases hr
      | some b =>
        cases hs : szOf P e with
        | none => simp only [hb, hs] at hr; cases hr
        | some s =>
          cases hz : zeroCells P e with
          | none => simp only [hb, hs, hz] at hr; cases hr
          | some z =>
            simp only [hb, hs, hz] at hr
            have hr : makeSliceV e b s z h x y = some (v, h') := hr
            unfold makeSliceV at hr
            obtain ⟨i, hi, hr⟩ := bnd_eq_some.mp hr
            obtain ⟨j, hj, hr⟩ := bnd_eq_some.mp hr
            obtain ⟨l, hl, hr⟩ := bnd_eq_some.mp hr
            obtain ⟨c, hc, hr⟩ := bnd_eq_some.mp hr
            rw [cnd_eq] at hr
            split at hr
            · rename_i hh
              cases hr
              simp only [Bool.and_eq_true, bleN] at hh
              obtain ⟨⟨h1, h2⟩, h3⟩ := hh
              obtain ⟨_, _, _, z3, z4⟩ := zeroCells_run (w := w) ρ hz
              rw [hs] at z3; cases z3
              obtain ⟨zs, g0, g1, g2⟩ := zeroIf_run (P := P) (ρ := ρ) (w := w) (n := c) hz
              obtain ⟨w', n1, n2⟩ := newRow_run (P := P) H (e := e) (s := z.length) (k := c) g2 (repl_scalar z4 c) (repl_length _ _)
              refine ⟨_, w', .slice (some ⟨w.heap.size, 0, none⟩) l c, ?_, slice_VR.mpr h1, n2⟩
              obtain ⟨ti, t1, t2⟩ := run_bytes (w := w) hb
              rw [intOf_VR hi hx, intOf_VR hj hy, natI_eq hl, natI_eq hc]
              unfold Instr.makeSlice
              have hb2 : (b : Int) * (c : Int) ≤ 4398046511104 := by
                have h2' : b * c ≤ 4398046511104 := h2
                rw [← Int.natCast_mul]
                clear h2 hr
                generalize b * c = m at h2'
                omega
              have p1 : ¬ ((decide ((c : Int) < 0) || decide ((b : Int) * (c : Int) > 2 ^ 48)) || decide ((l : Int) < 0) || decide ((l : Int) > (c : Int))) = true := by
                rw [Bool.or_eq_true, Bool.or_eq_true, Bool.or_eq_true, decide_eq_true_eq, decide_eq_true_eq, decide_eq_true_eq, decide_eq_true_eq]
                omega
              rw [Sem.run_bind, run_und hu, Result.andThen_ok]
              simp only [asInt, asIntOf, Sem.run_bind, Sem.run_pure, Result.andThen_ok, t1, t2]
              rw [wrap_nat (Nat.le_trans h1 h3), wrap_nat h3]
              rw [if_neg p1]
              simp only [Sem.run_bind, run_askRoom, Result.andThen_ok, run_sizeOf' hs, Int.toNat_natCast]
              by_cases h0 : c * z.length = 0
              · rw [g0 h0] at n1
                rw [h0] at n1
                simp only [h0, if_true, Sem.run_bind, Sem.run_pure, Result.andThen_ok, n1]
              · obtain ⟨zv, k1, k2⟩ := g1 h0
                rw [← k2] at n1
                simp only [h0, if_false, Sem.run_bind, k1, Sem.run_pure, Result.andThen_ok, n1]
            · cases hr
    | _ => cases hr

/-! ### conversions -/
theorem byteCells_cons (b : UInt8) (r : List UInt8) : byteCells (b :: r) = .int .u8 (.ofNat b.toNat) :: byteCells r := rfl
theorem byteCells_length : ∀ s : List UInt8, (byteCells s).length = s.length
  | [] => rfl
  | b :: r => by rw [byteCells_cons]; simp [byteCells_length r]
def byteVals (s : List UInt8) : List Value := s.map fun b => .int .u8 b.toNat
theorem byteVals_length (s : List UInt8) : (byteVals s).length = s.length := by simp [byteVals]
theorem byteCells_VRL : ∀ s : List UInt8, VRL ρ (byteCells s) (byteVals s)
  | [] => VRL.nil
  | b :: r => by rw [byteCells_cons]; exact VRL.cons (by simp only [VR]; rfl) (byteCells_VRL r)
theorem byteCells_scalar : ∀ s : List UInt8, (byteCells s).all AV.scalar = true
  | [] => rfl
  | b :: r => by rw [byteCells_cons]; simpa [AV.scalar] using byteCells_scalar r

/-- A new row behind whose cells there is room. -/
theorem newRoom_run (H : HRel ρ h w) {e s k : Nat} {cells : List AV} {us rest : List Value} {w₁ : World} (e1 : w₁.heap = w.heap) (eo : w₁.output = w.output) (es : w₁.os = w.os)
    (hv : VRL ρ cells us) (hs : cells.all AV.scalar = true) (hk : cells.length ≤ k * s) (hr : k * s ≤ us.length + rest.length) :
    ∃ w', (newRow e ((us ++ rest).toArray)).run P w₁ = .ok ⟨w.heap.size, 0, none⟩ w' ∧ Trans ρ h w (upd ρ h.next ⟨w.heap.size, 0, k⟩) (h.push (.row e s false cells)) w' ∧
      w'.heap = w.heap.push (.cells ((us ++ rest).toArray) e) := by
  refine ⟨{ w₁ with heap := w₁.heap.push (.cells ((us ++ rest).toArray) e) }, by unfold newRow; simp [e1], ?_, by rw [← e1]⟩
  refine Trans.ofPush H (by rw [← e1]) ?_ eo es
  exact ORel.ofCells (VRL.mono (ext_upd (H.fresh _ (Nat.le_refl _))) _ _ hv) hs hk hr

theorem markStringish_run {w' : World} {cs : Array Value} {e : TypeId} {b : Nat} (hb : w'.heap[b]? = some (.cells cs e)) :
    (markStringish ⟨b, 0, none⟩).run P w' = .ok () (w'.freeze ⟨b, cs.size, none⟩ 1) := by
  unfold markStringish
  have : w'.shape? b = some (e, cs.size) := by unfold World.shape?; simp [hb]
  simp [this]

theorem toBytes_run (H : HRel ρ h w) {src dst e : TypeId} {x v : AV} {u : Value} {h' : AHeap} (hus : undOf P src = some .string) (hud : undOf P dst = some (.slice e)) (hue : undOf P e = some (.int .u8))
    (hx : VR ρ x u) (hr : toBytes e h x = some (v, h')) : ∃ ρ' w' v', (convert src dst u).run P w = .ok v' w' ∧ VR ρ' v v' ∧ Trans ρ h w ρ' h' w' := by
  unfold toBytes at hr
  obtain ⟨l, hl, hr⟩ := bnd_eq_some.mp hr
  rw [cnd_eq] at hr
  split at hr
  · rename_i hle
    cases hr
    rw [bleN, lenA_eq] at hle
    rw [strOf_VR hl hx]
    obtain ⟨t, ht⟩ : ∃ t, t = w.tape w.drawn (.appendCap l.length 0 e) := ⟨_, rfl⟩
    obtain ⟨k, hk⟩ : ∃ k, k = l.length + t % (2 ^ 63 - l.length) := ⟨_, rfl⟩
    have hkl : l.length ≤ k := by omega
    obtain ⟨w', n1, n2, n3⟩ := newRoom_run (P := P) H (w₁ := { w with drawn := w.drawn + 1 }) (e := e) (s := 1) (k := k) (cells := byteCells l) (us := byteVals l)
      (rest := List.replicate (k - l.length) (Value.int .u8 0)) rfl rfl rfl (byteCells_VRL l) (byteCells_scalar l) (by rw [byteCells_length]; omega) (by simp [byteVals_length]; omega)
    have hlast : w'.heap[w.heap.size]? = some (.cells (((byteVals l) ++ List.replicate (k - l.length) (Value.int .u8 0)).toArray) e) := by rw [n3]; simp
    obtain ⟨wf, hwf⟩ : ∃ wf, wf = w'.freeze ⟨w.heap.size, (((byteVals l) ++ List.replicate (k - l.length) (Value.int .u8 0)).toArray).size, none⟩ 1 := ⟨_, rfl⟩
    have hm := markStringish_run (P := P) hlast
    rw [← hwf] at hm
    have tf : Trans (upd ρ h.next ⟨w.heap.size, 0, k⟩) (h.push (.row e 1 false (byteCells l))) w' (upd ρ h.next ⟨w.heap.size, 0, k⟩) ((h.push (.row e 1 false (byteCells l))).set h.next (.row e 1 false (byteCells l))) wf := by
      have hg : (h.push (.row e 1 false (byteCells l))).get h.next = some (.row e 1 false (byteCells l)) := by rw [AHeap.get_push, if_pos rfl]
      obtain ⟨c, y, q1, q2, q3⟩ := n2.rel.objs _ _ hg
      rw [upd_self] at q1; cases q1
      have q2' : w'.heap[w.heap.size]? = some y := q2
      rw [hlast] at q2'; cases q2'
      obtain ⟨cs, fr, q4, q5⟩ := q3
      cases q4
      refine Trans.ofSet n2.rel hg rfl (upd_self _ _ _) (y' := .cells ((byteVals l ++ List.replicate (k - l.length) (Value.int .u8 0)).toArray) e ((byteVals l ++ List.replicate (k - l.length) (Value.int .u8 0)).toArray.size, (byteVals l ++ List.replicate (k - l.length) (Value.int .u8 0)).toArray.size + 1)) ?_ ⟨_, _, rfl, q5.1, q5.2.1, q5.2.2.1, q5.2.2.2.1, fun _ i hi => by intro hh; omega, fun h1 => absurd rfl h1⟩ ?_ ?_ ?_ ?_
      · rw [hwf]; unfold World.freeze
        simp only [Nat.one_ne_zero, if_false, Array.getElem?_modify, if_true, hlast]
        rfl
      · rw [hwf]; unfold World.freeze; simp
      · intro b hb
        rw [hwf]; unfold World.freeze
        simp only [Nat.one_ne_zero, if_false, Array.getElem?_modify]
        rw [if_neg (fun hh => hb hh.symm)]
      · rw [hwf]; rfl
      · rw [hwf]; rfl
    have eset : ∀ m, ((h.push (.row e 1 false (byteCells l))).set h.next (.row e 1 false (byteCells l))).get m = (h.push (.row e 1 false (byteCells l))).get m := by
      intro m; rw [AHeap.get_set, AHeap.get_push]; split <;> rfl
    have tf' : Trans (upd ρ h.next ⟨w.heap.size, 0, k⟩) (h.push (.row e 1 false (byteCells l))) w' (upd ρ h.next ⟨w.heap.size, 0, k⟩) (h.push (.row e 1 false (byteCells l))) wf := by
      refine ⟨tf.ext, ⟨fun o x hx => tf.rel.objs o x (by rw [eset]; exact hx), fun o o' x x' c c' hx hx' => tf.rel.inj o o' x x' c c' (by rw [eset]; exact hx) (by rw [eset]; exact hx'), tf.rel.fresh, fun b z hz => ⟨(tf.rel.rets b z hz).1, fun o y c hy hf hc => (tf.rel.rets b z hz).2 o y c (by rw [eset]; exact hy) hf hc⟩, fun o y c hy hf hc => tf.rel.fixed o y c (by rw [eset]; exact hy) hf hc⟩,
        tf.kept, tf.size, tf.outp, tf.os, fun o x c hx hf hc => tf.blks o x c (by rw [eset]; exact hx) hf hc, tf.ids, tf.next, tf.rids, tf.views⟩
    refine ⟨_, wf, .slice (some ⟨w.heap.size, 0, none⟩) l.length k, ?_, ?_, n2.trans tf'⟩
    · unfold convert
      simp only [Sem.run_bind, run_und hus, run_und hud, run_und hue, Result.andThen_ok]
      unfold Conv.stringToBytes
      have e0 : ∀ n : Nat, (Question.appendCap n 0 e).forced = false := fun _ => rfl
      have e2 : (ByteArray.mk l.toArray).size = l.length := by simp [ByteArray.size]
      have e3 : (Question.appendCap l.length 0 e).cut (w.tape w.drawn (.appendCap l.length 0 e)) = k := by rw [hk, ht]; rfl
      have e4 : (Array.map (fun b : UInt8 => Value.int .u8 b.toNat) l.toArray ++ Array.replicate (k - l.length) (Value.int .u8 0)) =
          ((byteVals l) ++ List.replicate (k - l.length) (Value.int .u8 0)).toArray := by
        apply Array.ext'; simp [byteVals]
      simp only [Sem.run_bind, run_choose, e0, Bool.false_eq_true, if_false, Result.andThen_ok, e2, e3]
      rw [e4, n1]
      simp only [Result.andThen_ok, hm]
      rfl
    · rw [lenA_eq]; exact slice_VR_op hkl
  · cases hr

end
end Go.Proofs.YtonojkcnencodaaDoor.BH

end
section
namespace Go.Proofs.YtonojkcnencodaaDoor.BH

section
variable {P : Program} {ρ : Rho} {h : AHeap} {w : World}

theorem growBy_le (newLen : Nat) (hp : 256 ≤ newLen) : ∀ (r c : Nat), c ≤ 3 * newLen → Builtin.growBy newLen r c ≤ 3 * newLen
  | 0, c, hc => by unfold Builtin.growBy; exact hc
  | r + 1, c, hc => by
    unfold Builtin.growBy
    split
    · exact hc
    · exact growBy_le newLen hp r _ (by omega)
theorem nextslicecap_le {need c : Nat} (hc : c < need) : Builtin.nextslicecap need c ≤ 3 * need := by
  unfold Builtin.nextslicecap
  split
  · omega
  · split
    · omega
    · exact growBy_le need (by omega) 4 c (by omega)

/-- The first cells of what is read: a slice's, a string's. -/
theorem firstCells_run (H : HRel ρ h w) {size n m : Nat} {x : AV} {u : Value} {l : List AV} (hx : VR ρ x u) (hl : lenV x = some m) (hn : n ≤ m) (hr : firstV h size n x = some l) {w₁ : World} (e : w₁.heap = w.heap) :
    ∃ us : List Value, (Builtin.firstCells size n u).run P w₁ = .ok us.toArray w₁ ∧ VRL ρ l us ∧ us.length = n * size ∧ l.all AV.scalar = true := by
  cases x with
  | slice a k c =>
    simp only [firstV] at hr
    rw [cnd_eq] at hr
    split at hr
    · rename_i h0
      rw [beqN] at h0
      subst h0; cases hr
      refine ⟨[], ?_, VRL.nil, by simp, rfl⟩
      cases a with
      | none => simp only [VR] at hx; obtain ⟨_, _, rfl⟩ := hx; rfl
      | some a =>
        simp only [VR] at hx
        obtain ⟨c', ad, _, rfl, _⟩ := hx
        simp only [Builtin.firstCells, Nat.zero_mul]; rfl
    · rename_i h0
      rw [beqN] at h0
      obtain ⟨a', ha, hr⟩ := bnd_eq_some.mp hr
      subst ha
      simp only [lenV] at hl; cases hl
      simp only [VR] at hx
      obtain ⟨c', ad, hc', rfl, h1, h2⟩ := hx
      obtain ⟨c2, us, hc2, hv, hlen, hs, hcell⟩ := readRow_run H hr
      rw [hc'] at hc2; cases hc2
      refine ⟨us, ?_, hv, hlen, hs⟩
      rw [h2 (by omega)]
      simp only [Builtin.firstCells]
      rw [← hlen]
      exact run_loadCells us a'.off fun j v hv' => by
        have := hcell j v hv'
        unfold World.cell? at this ⊢
        rw [e]; exact this
  | str s =>
    simp only [firstV] at hr
    rw [cnd_eq] at hr
    split at hr
    · rename_i h1
      rw [beqN] at h1
      cases hr
      simp only [lenV, lenA_eq] at hl; cases hl
      simp only [VR] at hx; subst hx
      refine ⟨byteVals (s.take n), ?_, by rw [takeB_eq]; exact byteCells_VRL _, by rw [byteVals_length, List.length_take, h1]; omega, by rw [takeB_eq]; exact byteCells_scalar _⟩
      simp only [Builtin.firstCells, Sem.run_pure]
      congr 1
      rw [ByteArray.extract_mk]
      apply Array.ext'
      simp [byteVals]
    · cases hr
  | lst cs k f pf =>
    replace hr : takeN (n * size) cs = some l := hr
    simp only [lenV] at hl; cases hl
    simp only [VR] at hx
    obtain ⟨ao, cap, rfl, k2, k3, k4, _, ⟨rfl, rfl, _⟩ | ⟨b, off, xs, us, rfl, g1, g2, g3⟩⟩ := hx
    · have h0 : n = 0 := by omega
      subst h0
      obtain ⟨_, g⟩ := takeN_eq_some hr
      subst g
      refine ⟨[], ?_, by simpa using VRL.nil, by simp, by simp⟩
      cases ao with
      | none => rfl
      | some a => simp only [Builtin.firstCells, Nat.zero_mul]; rfl
    · have hr' : slots cs 0 (n * size) = some l := hr
      obtain ⟨us', q1, q2, q3⟩ := still_cells H (.inr g1) g2 g3 hr'
      obtain ⟨_, q4⟩ := takeN_eq_some hr
      refine ⟨us', ?_, VRL.mono (inner_ext ρ pf) _ _ q1, q2, by
        rw [q4, List.all_eq_true]; intro a ha; exact List.all_eq_true.mp k4 a (List.mem_of_mem_take ha)⟩
      simp only [Builtin.firstCells]
      rw [← q2]
      have := run_loadCells (P := P) (w := w₁) (c := ⟨b, off, 0⟩) us' 0 fun j v hv' => by
        have := q3 j v hv'
        unfold World.cell? at this ⊢
        rw [e]; exact this
      simpa [CLoc.at] using this
  | _ => simp [firstV] at hr

theorem lenV_run {x : AV} {u : Value} {m : Nat} (hx : VR ρ x u) (hl : lenV x = some m) : (Builtin.lenOf u).run P w = .ok m w := by
  cases x with
  | slice a k c =>
    simp only [lenV] at hl; cases hl
    cases a with
    | none => simp only [VR] at hx; obtain ⟨rfl, _, rfl⟩ := hx; rfl
    | some a => simp only [VR] at hx; obtain ⟨c', ad, _, rfl, _⟩ := hx; rfl
  | str s =>
    simp only [lenV, lenA_eq] at hl; cases hl
    simp only [VR] at hx; subst hx
    simp [Builtin.lenOf, ByteArray.size]
  | lst cs k f pf =>
    simp only [lenV] at hl; cases hl
    simp only [VR] at hx
    obtain ⟨ao, cap, rfl, _⟩ := hx
    cases ao <;> rfl
  | _ => simp [lenV] at hl

/-- Does what is appended come as a number of zero values? -/
def zerosOf (P : Program) : Option TypeId → Bool
  | none => false
  | some t => match undOf P t with
    | some (.int _) => true
    | _ => false

theorem zeroCells_range (zs : Array Value) (n : Nat) : Builtin.zeroCells zs n = (Array.range (n * zs.size)).map (zs[· % zs.size]!) := rfl

/-- What is appended: how much it is, and its cells. -/
theorem newF_run (H : HRel ρ h w) {e size bytes n : Nat} {t : Option TypeId} {x : AV} {u : Value} {new : List AV} (hs : szOf P e = some size) (hpos : 0 < size) (hx : VR ρ x u)
    (hr : (newF P e size bytes t).run h x = some (n, new)) :
    (zerosOf P t = false → (Builtin.lenOf u).run P w = .ok n w) ∧ (zerosOf P t = true → u = .int .i64 (n : Int) ∧ n * bytes ≤ bigBy ∧ n ≤ bigBy) ∧
    (∀ t', t = some t' → ∃ d, undOf P t' = some d) ∧
    ∀ w₁ : World, w₁.heap = w.heap → ∃ us : List Value, VRL ρ new us ∧ us.length = n * size ∧ new.all AV.scalar = true ∧
      (zerosOf P t = false → (Builtin.firstCells size n u).run P w₁ = .ok us.toArray w₁) ∧
      (zerosOf P t = true → n * size ≠ 0 → ∃ zv, (zeroValue e).run P w₁ = .ok zv w₁ ∧ Builtin.zeroCells zv.cells n = us.toArray) ∧ (zerosOf P t = true → n * size = 0 → us = []) := by
  have reads : newOf size h x = some (n, new) → (Builtin.lenOf u).run P w = .ok n w ∧
      ∀ w₁ : World, w₁.heap = w.heap → ∃ us : List Value, VRL ρ new us ∧ us.length = n * size ∧ new.all AV.scalar = true ∧ (Builtin.firstCells size n u).run P w₁ = .ok us.toArray w₁ := by
    intro hr
    unfold newOf at hr
    obtain ⟨m, hm, hr⟩ := bnd_eq_some.mp hr
    obtain ⟨cs, hcs, hr⟩ := bnd_eq_some.mp hr
    cases hr
    refine ⟨lenV_run hx hm, fun w₁ e1 => ?_⟩
    obtain ⟨us, f1, f2, f3, f4⟩ := firstCells_run (P := P) H hx hm (Nat.le_refl _) hcs e1
    exact ⟨us, f2, f3, f4, f1⟩
  unfold newF at hr
  cases t with
  | none =>
    obtain ⟨r1, r2⟩ := reads hr
    refine ⟨fun _ => r1, fun hh => by (cases hh), fun _ hh => by (cases hh), fun w₁ e1 => ?_⟩
    obtain ⟨us, f1, f2, f3, f4⟩ := r2 w₁ e1
    exact ⟨us, f1, f2, f3, fun _ => f4, fun hh => by (cases hh), fun hh => by (cases hh)⟩
  | some t =>
    simp only at hr
    cases hu : undOf P t with
    | none => rw [hu] at hr; cases hr
    | some D =>
      rw [hu] at hr
      have other : (∀ k, D ≠ .int k) → newOf size h x = some (n, new) →
          (zerosOf P (some t) = false → (Builtin.lenOf u).run P w = .ok n w) ∧ (zerosOf P (some t) = true → u = .int .i64 (n : Int) ∧ n * bytes ≤ bigBy ∧ n ≤ bigBy) ∧
          (∀ t', some t = some t' → ∃ d, undOf P t' = some d) ∧
          ∀ w₁ : World, w₁.heap = w.heap → ∃ us : List Value, VRL ρ new us ∧ us.length = n * size ∧ new.all AV.scalar = true ∧
            (zerosOf P (some t) = false → (Builtin.firstCells size n u).run P w₁ = .ok us.toArray w₁) ∧
            (zerosOf P (some t) = true → n * size ≠ 0 → ∃ zv, (zeroValue e).run P w₁ = .ok zv w₁ ∧ Builtin.zeroCells zv.cells n = us.toArray) ∧ (zerosOf P (some t) = true → n * size = 0 → us = []) := by
        intro hk hr
        have hz : zerosOf P (some t) = false := by
          unfold zerosOf; simp only [hu]
          cases D <;> first | rfl | (exact absurd rfl (hk _))
        obtain ⟨r1, r2⟩ := reads hr
        refine ⟨fun _ => r1, fun hh => by (rw [hz] at hh; cases hh), fun t' hh => by (cases hh; exact ⟨D, hu⟩), fun w₁ e1 => ?_⟩
        obtain ⟨us, f1, f2, f3, f4⟩ := r2 w₁ e1
        exact ⟨us, f1, f2, f3, fun _ => f4, fun hh => by (rw [hz] at hh; cases hh), fun hh => by (rw [hz] at hh; cases hh)⟩
      cases D with
      | int k =>
        have hz : zerosOf P (some t) = true := by unfold zerosOf; simp only [hu]
        cases hzc : zeroCells P e with
        | none => simp only [hzc] at hr; cases hr
        | some z =>
          simp only [hzc] at hr
          have hr : newZeros bytes z x = some (n, new) := hr
          unfold newZeros at hr
          obtain ⟨i, hi, hr⟩ := bnd_eq_some.mp hr
          rw [cnd_eq] at hr
          split at hr
          · rename_i hk
            obtain ⟨m, hm, hr⟩ := bnd_eq_some.mp hr
            rw [cnd_eq] at hr
            split at hr
            · rename_i hle
              cases hr
              rw [Bool.and_eq_true, bleN, bleN] at hle
              have hx' := intOf_VR hi hx
              rw [kno_inj hk, natI_eq hm] at hx'
              refine ⟨fun hh => by (rw [hz] at hh; cases hh), fun _ => ⟨hx', hle.1, hle.2⟩, fun t' hh => by (cases hh; exact ⟨_, hu⟩), fun w₁ e1 => ?_⟩
              obtain ⟨zv, z1, z2, z3, z4⟩ := zeroCells_run (w := w₁) ρ hzc
              rw [hs] at z3; cases z3
              have hzl : zv.cells.size = z.length := by rw [← Array.length_toList, z2.length]
              refine ⟨(Builtin.zeroCells zv.cells n).toList, ?_, ?_, repl_scalar z4 n, fun hh => by (rw [hz] at hh; cases hh), fun _ _ => ⟨zv, z1, by simp⟩, fun _ h0 => ?_⟩
              · rw [zeroCells_range, hzl]
                have := repl_range z2 n
                rw [hzl] at this; exact this
              · rw [zeroCells_range]; simp [hzl]
              · rw [zeroCells_range, hzl, h0]; simp
            · cases hr
          · cases hr
      | _ => exact other (by simp) hr

end
end Go.Proofs.YtonojkcnencodaaDoor.BH

end
