/-
  BH: unary operations, addresses, fields, indexes, slices, building, conversions that read.
-/
import Derived.Test.YtonojkcnencodaaDoorBhOps3
namespace Go.Proofs.YtonojkcnencodaaDoor.BH

section
variable {P : Program} {ρ : Rho} {h : AHeap} {w : World}

theorem unF_run {op : UnOp} {x r : AV} {u : Value} (hx : VR ρ x u) (hr : (unF op).run x = some r) : ∃ r', (Op.unary op u).run P w = .ok r' w ∧ VR ρ r r' := by
  cases op <;> simp only [unF] at hr <;> first | cases hr | skip
  · obtain ⟨p, hp, hr⟩ := bnd_eq_some.mp hr
    cases hr
    rw [intOf_VR hp hx]
    refine ⟨_, rfl, ?_⟩
    simp only [VR, wrapF_eq]
  · obtain ⟨p, hp, hr⟩ := bnd_eq_some.mp hr
    cases hr
    rw [intOf_VR hp hx]
    refine ⟨_, rfl, ?_⟩
    simp only [VR, wrapF_eq]
  · obtain ⟨p, hp, hr⟩ := bnd_eq_some.mp hr
    cases hr
    rw [boolOf_VR hp hx]
    exact ⟨_, rfl, by simp only [VR]⟩

theorem sureAddr_run (a : Addr) : (Instr.sureAddr (.pointer (some a))).run P w = .ok a w := rfl

/-! ### what nobody writes -/
theorem cptrOf_eq {x : AV} {c : List AV × Nat} (h : cptrOf x = some c) : x = .cptr c.1 c.2 := by
  cases x <;> simp [cptrOf] at h
  subst h; rfl
theorem lstOf_eq {x : AV} {c : List AV × Nat × Bool × Bool} (h : lstOf x = some c) : x = .lst c.1 c.2.1 c.2.2.1 c.2.2.2 := by
  cases x <;> simp [lstOf] at h
  subst h; rfl
theorem HRel.rets1 (H : HRel ρ h w) {b : Nat} {x : Array Value} (hb : ρ.view b = some x ∨ ρ.ret b = some x) : ∃ e fr, w.heap[b]? = some (.cells x e fr) := (H.rets b x hb.symm).1
/-- The cells of memory that nobody writes, from a place on. -/
theorem still_cells (H : HRel ρ h w) {b base o n : Nat} {x : Array Value} {cs l : List AV} {us : List Value} {σ : Rho} (hb : ρ.view b = some x ∨ ρ.ret b = some x) (hv : VRL σ cs us)
    (hx : ∀ (i : Nat) (u : Value), us[i]? = some u → x[base + i]? = some u) (hl : slots cs o n = some l) :
    ∃ us', VRL σ l us' ∧ us'.length = n ∧ ∀ (j : Nat) (u : Value), us'[j]? = some u → w.cell? ((⟨b, base, 0⟩ : CLoc).at (o + j)) = some u := by
  obtain ⟨e, fr, hw⟩ := H.rets1 hb
  obtain ⟨h1, h2⟩ := slots_eq_some hl
  subst h2
  refine ⟨(us.drop o).take n, VRL.take n (VRL.drop o hv), ?_, ?_⟩
  · have := hv.length
    rw [List.length_take, List.length_drop]; omega
  · intro j u hu
    rw [cell_at (c := ⟨b, base, 0⟩) hw]
    rw [List.getElem?_take] at hu
    split at hu
    · rw [List.getElem?_drop] at hu; exact hx _ _ hu
    · cases hu
theorem inner_ext (ρ : Rho) (pf : Bool) : Ext (ρ.inner pf) ρ := by
  cases pf
  · exact ⟨fun _ _ h => (by cases h), fun _ _ h => h, fun _ _ h => h⟩
  · exact ⟨fun _ _ h => (by cases h), fun _ _ h => h, fun _ _ h => (by cases h)⟩
theorem inner_noloc (ρ : Rho) (pf : Bool) : Ext (ρ.inner pf) ρ.noloc := by
  cases pf
  · exact ⟨fun _ _ h => (by cases h), fun _ _ h => h, fun _ _ h => h⟩
  · exact ⟨fun _ _ h => (by cases h), fun _ _ h => h, fun _ _ h => (by cases h)⟩
theorem noloc_ext (ρ : Rho) : Ext ρ.noloc ρ := ⟨fun _ _ h => (by cases h), fun _ _ h => h, fun _ _ h => h⟩

/-! ### loads -/
theorem loadF_run (H : HRel ρ h w) {t : TypeId} {x r : AV} {u : Value} (hx : VR ρ x u) (hr : (loadF P t).run h x = some r) :
    ∃ a r', u = .pointer (some a) ∧ (loadVar t a).run P w = .ok r' w ∧ VR ρ r r' := by
  unfold loadF at hr
  cases ha : aggOf P t with
  | none => rw [ha] at hr; cases hr
  | some b =>
    rw [ha] at hr
    cases b with
    | true =>
      cases hs : szOf P t with
      | none => rw [hs] at hr; cases hr
      | some n =>
        rw [hs] at hr
        have hr : loadAgg n h x = some r := hr
        unfold loadAgg at hr
        cases hcx : cptrOf x with
        | some c =>
          rw [hcx] at hr
          replace hr : (bnd (slots c.1 c.2 n) fun l => some (.agg l)) = some r := hr
          obtain ⟨l, hl, hr⟩ := bnd_eq_some.mp hr
          cases hr
          rw [cptrOf_eq hcx] at hx
          simp only [VR] at hx
          obtain ⟨b, base, xs, us, rfl, k2, k3, k4, k5⟩ := hx
          obtain ⟨us', g1, g2, g3⟩ := still_cells H k2 k4 k5 hl
          refine ⟨_, .agg us'.toArray, rfl, ?_, by simp only [VR]; exact ⟨_, rfl, by simpa using VRL.mono (noloc_ext ρ) _ _ g1⟩⟩
          unfold loadVar
          simp only [Sem.run_bind, run_isAgg' ha, Result.andThen_ok, if_true, run_sizeOf' hs]
          rw [← g2]
          have := run_loadCells (P := P) (c := ⟨b, base, 0⟩) us' c.2 g3
          simp only [CLoc.at] at this
          rw [this]
          rfl
        | none =>
        rw [hcx] at hr
        replace hr : (bnd (ptrOf x) fun a => bnd (readRow h a n) fun l => some (.agg l)) = some r := hr
        obtain ⟨p, hp, hr⟩ := bnd_eq_some.mp hr
        obtain ⟨l, hl, hr⟩ := bnd_eq_some.mp hr
        cases hr
        obtain ⟨c, hc, rfl⟩ := ptrOf_VR hp hx
        obtain ⟨c', us, hc', hv, hn, _, hcell⟩ := readRow_run H hl
        rw [hc] at hc'; cases hc'
        refine ⟨_, .agg us.toArray, rfl, ?_, by simp only [VR]; exact ⟨_, rfl, by simpa using hv⟩⟩
        unfold loadVar
        simp only [Sem.run_bind, run_isAgg' ha, Result.andThen_ok, if_true, run_sizeOf' hs]
        rw [← hn, run_loadCells us p.off hcell]
        rfl
    | false =>
      have hr : loadOne h x = some r := hr
      unfold loadOne at hr
      cases hcx : cptrOf x with
      | some c =>
        rw [hcx] at hr
        replace hr : cellAt c.1 c.2 = some r := hr
        rw [cptrOf_eq hcx] at hx
        simp only [VR] at hx
        obtain ⟨b, base, xs, us, rfl, k2, k3, k4, k5⟩ := hx
        obtain ⟨e, fr, hw⟩ := H.rets1 k2
        rw [cellAt_eq] at hr
        obtain ⟨v, hv, hvr⟩ := k4.get hr
        refine ⟨_, v, rfl, ?_, VR.mono (noloc_ext ρ) _ _ hvr⟩
        unfold loadVar
        simp only [Sem.run_bind, run_isAgg' ha, Result.andThen_ok, Bool.false_eq_true, if_false, run_load]
        have := cell_at (c := ⟨b, base, 0⟩) hw c.2
        simp only [CLoc.at] at this
        rw [this, k5 _ _ hv]
      | none =>
      rw [hcx] at hr
      replace hr : (bnd (ptrOf x) fun a => bnd (rowAt h a.obj) fun r => cellAt r.cells a.off) = some r := hr
      obtain ⟨p, hp, hr⟩ := bnd_eq_some.mp hr
      obtain ⟨row, hrow, hr⟩ := bnd_eq_some.mp hr
      obtain ⟨c, hc, rfl⟩ := ptrOf_VR hp hx
      obtain ⟨c', y, hc', hy, hrel⟩ := H.objs _ _ (row_of hrow)
      rw [hc] at hc'; cases hc'
      obtain ⟨cs, fr, rfl, _, hcells, _⟩ := hrel
      rw [cellAt_eq] at hr
      obtain ⟨_, v, hv, hvr⟩ := hcells _ _ hr
      refine ⟨_, v, rfl, ?_, hvr⟩
      unfold loadVar
      simp only [Sem.run_bind, run_isAgg' ha, Result.andThen_ok, Bool.false_eq_true, if_false, run_load]
      rw [cell_at hy, hv]

theorem loadAt_run (H : HRel ρ h w) {t : TypeId} {x r : AV} {u : Value} (hx : VR ρ x u) (hr : (loadF P t).run h x = some r) :
    ∃ r', (Instr.loadAt t u).run P w = .ok r' w ∧ VR ρ r r' := by
  obtain ⟨a, r', rfl, h1, h2⟩ := loadF_run H hx hr
  exact ⟨r', by unfold Instr.loadAt; simp only [Sem.run_bind, sureAddr_run, Result.andThen_ok]; exact h1, h2⟩

/-! ### fields -/
theorem fieldAt_eq {t : TypeId} {i : Nat} {f : Field} (hf : fieldAt P t i = some f) : ∃ fs : Array Field, undOf P t = some (.struct fs) ∧ fs[i]? = some f := by
  unfold fieldAt at hf
  split at hf
  · rename_i fs hu; exact ⟨fs, hu, by rw [← Array.getElem?_toList]; exact hf⟩
  · cases hf

theorem fieldAddr_run {s : TypeId} {i : Nat} {x r : AV} {u : Value} (hx : VR ρ x u) (hr : fieldAddrV (fieldOff P s i) x = some r) :
    ∃ r', (Instr.fieldAt s u i).run P w = .ok r' w ∧ VR ρ r r' := by
  unfold fieldAddrV at hr
  obtain ⟨n, hn, hr⟩ := bnd_eq_some.mp hr
  cases hcx : cptrOf x with
  | some q =>
    rw [hcx] at hr
    replace hr : some (AV.cptr q.1 (Nat.add q.2 n)) = some r := hr
    cases hr
    unfold fieldOff at hn
    obtain ⟨f, hf, hn⟩ := bnd_eq_some.mp hn
    obtain ⟨m, hm, hn⟩ := bnd_eq_some.mp hn
    cases m with
    | zero => cases hn
    | succ m =>
      cases hn
      obtain ⟨fs, hu, hfs⟩ := fieldAt_eq hf
      rw [cptrOf_eq hcx] at hx
      simp only [VR] at hx
      obtain ⟨b, base, xs, us, rfl, k2, k3, k4, k5⟩ := hx
      refine ⟨.pointer (some ((⟨b, base, 0⟩ : CLoc).at (q.2 + f.offset))), ?_, by simp only [VR]; exact ⟨b, base, xs, us, rfl, k2, k3, k4, k5⟩⟩
      unfold Instr.fieldAt
      simp only [Sem.run_bind, run_und hu, Result.andThen_ok, hfs, sureAddr_run]
      unfold fieldPlace
      have := at_add ⟨b, base, 0⟩ q.2 f.offset
      simp only [CLoc.at] at this ⊢
      simp [run_sizeOf' hm, this]
  | none =>
  rw [hcx] at hr
  replace hr : (bnd (ptrOf x) fun a => some (AV.ptr (some ⟨a.obj, Nat.add a.off n⟩))) = some r := hr
  obtain ⟨p, hp, hr⟩ := bnd_eq_some.mp hr
  cases hr
  unfold fieldOff at hn
  obtain ⟨f, hf, hn⟩ := bnd_eq_some.mp hn
  obtain ⟨m, hm, hn⟩ := bnd_eq_some.mp hn
  cases m with
  | zero => cases hn
  | succ m =>
    cases hn
    obtain ⟨fs, hu, hfs⟩ := fieldAt_eq hf
    obtain ⟨c, hc, rfl⟩ := ptrOf_VR hp hx
    refine ⟨.pointer (some (c.at (p.off + f.offset))), ?_, by simp only [VR]; exact ⟨c, hc, rfl⟩⟩
    unfold Instr.fieldAt
    simp only [Sem.run_bind, run_und hu, Result.andThen_ok, hfs, sureAddr_run]
    unfold fieldPlace
    simp [run_sizeOf' hm, at_add]

theorem field_run {t : TypeId} {i : Nat} {x r : AV} {u : Value} (hx : VR ρ x u) (hr : fieldV (fieldF P t i) x = some r) :
    ∃ r', (Instr.field t u i).run P w = .ok r' w ∧ VR ρ r r' := by
  unfold fieldV at hr
  obtain ⟨cs, hcs, hr⟩ := bnd_eq_some.mp hr
  obtain ⟨vs, rfl, hvs⟩ := aggCells_VR hcs hx
  unfold fieldF at hr
  cases hf : fieldAt P t i with
  | none => rw [hf] at hr; cases hr
  | some f =>
    rw [hf] at hr
    obtain ⟨fs, hu, hfs⟩ := fieldAt_eq hf
    obtain ⟨r', h1, h2⟩ := part_run (w := w) hr hvs
    refine ⟨r', ?_, h2⟩
    unfold Instr.field
    simp only [Sem.run_bind, run_und hu, Result.andThen_ok, hfs, asAgg, Sem.run_pure]
    exact h1

/-! ### indexes -/
theorem blt_iff {a b : Nat} : Nat.ble (Nat.succ a) b = true ↔ a < b := by rw [bleN]; exact Iff.rfl

theorem indexAddr_run {t : TypeId} {x ix r : AV} {u v : Value} (hx : VR ρ x u) (hi : VR ρ ix v) (hr : (indexAddrF P t).run x ix = some r) :
    ∃ r', (Instr.indexAt t u v).run P w = .ok r' w ∧ VR ρ r r' := by
  unfold indexAddrF at hr
  cases hu : undOf P t with
  | none => rw [hu] at hr; cases hr
  | some D =>
    rw [hu] at hr
    cases D with
    | array n e =>
      cases hs : szOf P e with
      | none => simp only [hs] at hr; cases hr
      | some s =>
        simp only [hs] at hr
        obtain ⟨i, hi', hr⟩ := bnd_eq_some.mp hr
        unfold arrAddr at hr
        cases hcx : cptrOf x with
        | some q =>
          rw [hcx] at hr
          replace hr : placeC q.1 q.2 s n i.2 = some r := hr
          unfold placeC at hr
          obtain ⟨k, hk, hr⟩ := bnd_eq_some.mp hr
          rw [cnd_eq] at hr
          split at hr
          · rename_i hlt
            cases hr
            rw [blt_iff] at hlt
            rw [intOf_VR hi' hi]
            have e1 := natI_eq hk
            rw [cptrOf_eq hcx] at hx
            simp only [VR] at hx
            obtain ⟨b, base, xs, us, rfl, k2, k3, k4, k5⟩ := hx
            refine ⟨.pointer (some ((⟨b, base, 0⟩ : CLoc).at (q.2 + k * s))), ?_, by simp only [VR]; exact ⟨b, base, xs, us, rfl, k2, k3, k4, k5⟩⟩
            unfold Instr.indexAt
            simp only [asIntOf, Sem.run_bind, Sem.run_pure, Result.andThen_ok, run_und hu, sureAddr_run, e1]
            rw [if_pos (by omega)]
            have := at_add ⟨b, base, 0⟩ q.2 (k * s)
            simp only [CLoc.at] at this ⊢
            simp [run_sizeOf' hs, this]
          · cases hr
        | none =>
        rw [hcx] at hr
        replace hr : (bnd (ptrOf x) fun a => placeV a s n i.2) = some r := hr
        obtain ⟨p, hp, hr⟩ := bnd_eq_some.mp hr
        unfold placeV at hr
        obtain ⟨k, hk, hr⟩ := bnd_eq_some.mp hr
        rw [cnd_eq] at hr
        split at hr
        · rename_i hlt
          cases hr
          rw [blt_iff] at hlt
          rw [intOf_VR hi' hi]
          have e1 := natI_eq hk
          obtain ⟨c, hc, rfl⟩ := ptrOf_VR hp hx
          refine ⟨.pointer (some (c.at (p.off + k * s))), ?_, by simp only [VR]; exact ⟨c, hc, rfl⟩⟩
          unfold Instr.indexAt
          simp only [asIntOf, Sem.run_bind, Sem.run_pure, Result.andThen_ok, run_und hu, sureAddr_run, e1]
          rw [if_pos (by omega)]
          simp [run_sizeOf' hs, at_add]
        · cases hr
    | slice e =>
      cases hs : szOf P e with
      | none => simp only [hs] at hr; cases hr
      | some s =>
        simp only [hs] at hr
        obtain ⟨i, hi', hr⟩ := bnd_eq_some.mp hr
        unfold slcAddr at hr
        cases hlx : lstOf x with
        | some q =>
          rw [hlx] at hr
          replace hr : placeC q.1 0 s q.2.1 i.2 = some r := hr
          unfold placeC at hr
          obtain ⟨k, hk, hr⟩ := bnd_eq_some.mp hr
          rw [cnd_eq] at hr
          split at hr
          · rename_i hlt
            cases hr
            rw [blt_iff] at hlt
            rw [intOf_VR hi' hi]
            have e1 := natI_eq hk
            rw [lstOf_eq hlx] at hx
            simp only [VR] at hx
            obtain ⟨ao, cap, rfl, _, _, k3, _, ⟨k0, _⟩ | ⟨b, off, xs, us, rfl, k2, k4, k5⟩⟩ := hx
            · omega
            refine ⟨.pointer (some ((⟨b, off, 0⟩ : CLoc).at (0 + k * s))), ?_, by simp only [VR]; exact ⟨b, off, xs, us, rfl, .inr k2, k3, VRL.mono (inner_noloc ρ _) _ _ k4, k5⟩⟩
            unfold Instr.indexAt
            simp only [asIntOf, Sem.run_bind, Sem.run_pure, Result.andThen_ok, run_und hu, e1]
            rw [if_pos (by omega)]
            have := at_add ⟨b, off, 0⟩ 0 (k * s)
            simp only [CLoc.at, Nat.add_zero] at this ⊢
            simp [run_sizeOf' hs, this]
          · cases hr
        | none =>
        rw [hlx] at hr
        replace hr : (bnd (sliceOf x) fun b => bnd b.1 fun a => placeV a s b.2.1 i.2) = some r := hr
        obtain ⟨b, hb, hr⟩ := bnd_eq_some.mp hr
        obtain ⟨a, ha, hr⟩ := bnd_eq_some.mp hr
        unfold placeV at hr
        obtain ⟨k, hk, hr⟩ := bnd_eq_some.mp hr
        rw [cnd_eq] at hr
        split at hr
        · rename_i hlt
          cases hr
          rw [blt_iff] at hlt
          rw [intOf_VR hi' hi]
          have e1 := natI_eq hk
          have hx' := sliceOf_VR hb hx
          rw [ha] at hx'
          simp only [VR] at hx'
          obtain ⟨c, ad, hc, rfl, h1, h2⟩ := hx'
          rw [h2 (by omega)]
          refine ⟨.pointer (some (c.at (a.off + k * s))), ?_, by simp only [VR]; exact ⟨c, hc, rfl⟩⟩
          unfold Instr.indexAt
          simp only [asIntOf, Sem.run_bind, Sem.run_pure, Result.andThen_ok, run_und hu, e1]
          rw [if_pos (by omega)]
          simp [run_sizeOf' hs, at_add]
        · cases hr
    | _ => cases hr

theorem index_run {t : TypeId} {x ix r : AV} {u v : Value} (hx : VR ρ x u) (hi : VR ρ ix v) (hr : (indexF P t).run x ix = some r) :
    ∃ r', (Instr.index t u v).run P w = .ok r' w ∧ VR ρ r r' := by
  unfold indexF at hr
  cases hu : undOf P t with
  | none => rw [hu] at hr; cases hr
  | some D =>
    rw [hu] at hr
    cases D with
    | array n e =>
      cases hs : szOf P e with
      | none => simp only [hs] at hr; cases hr
      | some s =>
        simp only [hs] at hr
        obtain ⟨i, hi', hr⟩ := bnd_eq_some.mp hr
        obtain ⟨cs, hcs, hr⟩ := bnd_eq_some.mp hr
        obtain ⟨k, hk, hr⟩ := bnd_eq_some.mp hr
        rw [cnd_eq] at hr
        split at hr
        · rename_i hlt
          have hlt : Nat.ble (Nat.succ k) n = true := hlt
          rw [blt_iff] at hlt
          rw [intOf_VR hi' hi]
          have e1 := natI_eq hk
          obtain ⟨vs, rfl, hvs⟩ := aggCells_VR hcs hx
          obtain ⟨r', h1, h2⟩ := part_run (w := w) hr hvs
          refine ⟨r', ?_, h2⟩
          unfold Instr.index
          simp only [asIntOf, Sem.run_bind, Sem.run_pure, Result.andThen_ok, run_und hu, e1]
          rw [if_pos (by omega)]
          simp only [Sem.run_bind, run_sizeOf' hs, Result.andThen_ok, Int.toNat_natCast]
          exact h1
        · cases hr
    | string =>
      simp only at hr
      obtain ⟨i, hi', hr⟩ := bnd_eq_some.mp hr
      obtain ⟨l, hl, hr⟩ := bnd_eq_some.mp hr
      obtain ⟨k, hk, hr⟩ := bnd_eq_some.mp hr
      obtain ⟨b, hb, hr⟩ := bnd_eq_some.mp hr
      cases hr
      rw [intOf_VR hi' hi, strOf_VR hl hx]
      have e1 := natI_eq hk
      rw [byteAt_eq] at hb
      have hlt : k < l.length := (List.getElem?_eq_some_iff.mp hb).1
      refine ⟨.int .u8 b.toNat, ?_, by simp only [VR]; rfl⟩
      unfold Instr.index
      simp only [asIntOf, Sem.run_bind, Sem.run_pure, Result.andThen_ok, run_und hu, e1]
      rw [if_pos (by omega)]
      have e2 : (ByteArray.mk l.toArray)[k]? = some b := by
        rw [ByteArray.getElem?_lt' _ _ (by simpa [ByteArray.size] using hlt)]
        congr 1
        have e3 : l[k] = b := by rw [List.getElem?_eq_getElem hlt] at hb; injection hb
        rw [← e3]; rfl
      simp only [Int.toNat_natCast, e2]
      rfl
    | _ => cases hr

/-! ### slices -/
theorem natOr_run {d : Nat} {x : Option AV} {n : Nat} (hn : natOr d x = some n) {y : Option Value} (hy : match x, y with | none, none => True | some a, some v => VR ρ a v | _, _ => False) :
    (x = none ∧ y = none ∧ n = d) ∨ ∃ a k, x = some a ∧ y = some (.int k (n : Int)) := by
  cases x with
  | none =>
    cases y with
    | none => cases hn; exact .inl ⟨rfl, rfl, rfl⟩
    | some _ => exact hy.elim
  | some a =>
    cases y with
    | none => exact hy.elim
    | some v =>
      unfold natOr at hn
      obtain ⟨i, hi, hn⟩ := bnd_eq_some.mp hn
      have := intOf_VR hi hy
      rw [natI_eq hn] at this
      exact .inr ⟨a, i.1, rfl, by rw [this]⟩

theorem cut_eq {lo hi mx : Option AV} {len c md : Nat} {r : Nat × Nat × Nat} (hc : cut lo hi mx len c md = some r) :
    natOr md mx = some r.2.2 ∧ natOr len hi = some r.2.1 ∧ natOr 0 lo = some r.1 ∧ r.1 ≤ r.2.1 ∧ r.2.1 ≤ r.2.2 ∧ r.2.2 ≤ c ∧ (mx ≠ none → hi ≠ none) := by
  unfold cut at hc
  obtain ⟨_, h0, hc⟩ := bnd_eq_some.mp hc
  obtain ⟨m, hm, hc⟩ := bnd_eq_some.mp hc
  obtain ⟨e, he, hc⟩ := bnd_eq_some.mp hc
  obtain ⟨b, hb, hc⟩ := bnd_eq_some.mp hc
  rw [cnd_eq] at hc
  split at hc
  · rename_i hh
    cases hc
    simp only [Bool.and_eq_true, bleN] at hh
    refine ⟨hm, he, hb, hh.1.1, hh.1.2, hh.2, fun h1 h2 => ?_⟩
    subst h2
    cases mx with
    | none => exact h1 rfl
    | some m => cases h0
  · cases hc

theorem sliceBound_run {k : IntKind} {n y : Nat} {code : BoundsCode} (hn : n ≤ y) : (Instr.sliceBound (.int k (n : Int)) y code).run P w = .ok n w := by
  unfold Instr.sliceBound
  simp only [asIntOf, Sem.run_bind, Sem.run_pure, Result.andThen_ok]
  rw [if_pos (by omega)]
  simp

def OptVR (ρ : Rho) : Option AV → Option Value → Prop
  | none, none => True
  | some a, some v => VR ρ a v
  | _, _ => False

/-- The bounds of a slice: what is known to be b, e and m at most c', the capacity in truth. -/
theorem sliceBounds_run {isSlice : Bool} {lo hi mx : Option AV} {lo' hi' mx' : Option Value} {len c' b e m md : Nat} (h1 : OptVR ρ lo lo') (h2 : OptVR ρ hi hi') (h3 : OptVR ρ mx mx')
    (hm : natOr md mx = some m) (he : natOr len hi = some e) (hb : natOr 0 lo = some b) (g1 : b ≤ e) (g2 : mx ≠ none → e ≤ m ∧ m ≤ c') (g3 : mx = none → e ≤ c') (gh : mx ≠ none → hi ≠ none) :
    (Instr.sliceBounds isSlice len c' lo' hi' mx').run P w = .ok (b, e, if mx = none then c' else m) w := by
  unfold Instr.sliceBounds
  rcases natOr_run hm (y := mx') (by cases mx <;> cases mx' <;> first | trivial | exact h3) with ⟨rfl, rfl, rfl⟩ | ⟨am, km, rfl, rfl⟩
  · rcases natOr_run he (y := hi') (by cases hi <;> cases hi' <;> first | trivial | exact h2) with ⟨rfl, rfl, rfl⟩ | ⟨ae, ke, rfl, rfl⟩
    · rcases natOr_run hb (y := lo') (by cases lo <;> cases lo' <;> first | trivial | exact h1) with ⟨rfl, rfl, rfl⟩ | ⟨ab, kb, rfl, rfl⟩
      · simp
      · simp [sliceBound_run g1]
    · rcases natOr_run hb (y := lo') (by cases lo <;> cases lo' <;> first | trivial | exact h1) with ⟨rfl, rfl, rfl⟩ | ⟨ab, kb, rfl, rfl⟩
      · simp [sliceBound_run (g3 rfl)]
      · simp [sliceBound_run (g3 rfl), sliceBound_run g1]
  · obtain ⟨g4, g5⟩ := g2 (by simp)
    rcases natOr_run he (y := hi') (by cases hi <;> cases hi' <;> first | trivial | exact h2) with ⟨rfl, rfl, rfl⟩ | ⟨ae, ke, rfl, rfl⟩
    · exact absurd rfl (gh (by simp))
    · rcases natOr_run hb (y := lo') (by cases lo <;> cases lo' <;> first | trivial | exact h1) with ⟨rfl, rfl, rfl⟩ | ⟨ab, kb, rfl, rfl⟩
      · simp [sliceBound_run g4, sliceBound_run g5]
      · simp [sliceBound_run g4, sliceBound_run g5, sliceBound_run g1]

theorem slice_mk {e : TypeId} {s len cap b e' m : Nat} {t : TypeId} {a : Option Addr} {lo hi mx : Option Value} (hu : undOf P t = some (.slice e)) (hs : szOf P e = some s)
    (hb : (Instr.sliceBounds true len cap lo hi mx).run P w = .ok (b, e', m) w) :
    (Instr.sliceAt t (.slice a len cap) lo hi mx).run P w = .ok (.slice (if m = b then a else a.map (·.add (b * s))) (e' - b) (m - b)) w := by
  unfold Instr.sliceAt
  simp only [Sem.run_bind, run_und hu, Result.andThen_ok]
  unfold Instr.slice
  simp only [Sem.run_bind, run_und hu, Result.andThen_ok, hb, run_sizeOf' hs]
  rfl

theorem known_le (H : HRel ρ h w) {a : ALoc} {s d n : Nat} {c : CLoc} (hc : ρ a.obj = some c) (_hs : 0 < s) (hn : n ≤ c.cap - d) : known h a s d n ≤ c.cap - d := by
  unfold known
  cases hr : rowAt h a.obj with
  | none => exact hn
  | some r =>
    simp only [ocase_some, cnd_eq]
    split
    · rename_i hh
      rw [Bool.and_eq_true, beqN, beqN] at hh
      obtain ⟨c', y, hc', hy, hrel⟩ := H.objs _ _ (row_of hr)
      rw [hc] at hc'; cases hc'
      obtain ⟨cs, fr, rfl, _, _, hcap, _⟩ := hrel
      rw [hh.1] at hcap
      refine Nat.max_le.mpr ⟨hn, ?_⟩
      rw [lenA_eq, hh.2]
      show (r.cells.length - d * s) / s ≤ _
      refine Nat.div_le_of_le_mul ?_
      rw [Nat.mul_comm s, Nat.sub_mul]
      omega
    · exact hn

theorem ite_some_ne {p : Prop} [Decidable p] (a b : Addr) (f : Addr → Addr) : (if p then some a else (some b).map f) ≠ none := by split <;> simp

theorem sliceSlice_run (H : HRel ρ h w) {t e : TypeId} {s : Nat} (hu : undOf P t = some (.slice e)) (hs : szOf P e = some s) (hpos : 0 < s) {x r : AV} {u : Value} {lo hi mx : Option AV} {lo' hi' mx' : Option Value}
    (hx : VR ρ x u) (h1 : OptVR ρ lo lo') (h2 : OptVR ρ hi hi') (h3 : OptVR ρ mx mx') (hr : sliceSlice s h x lo hi mx = some r) :
    ∃ r', (Instr.sliceAt t u lo' hi' mx').run P w = .ok r' w ∧ VR ρ r r' := by
  unfold sliceSlice at hr
  cases hlx : lstOf x with
  | some l =>
    rw [hlx] at hr
    replace hr : cutLst s l.1 l.2.1 l.2.2.1 l.2.2.2 lo hi mx = some r := hr
    unfold cutLst at hr
    obtain ⟨q, hq, hr⟩ := bnd_eq_some.mp hr
    obtain ⟨m, hm, hr⟩ := bnd_eq_some.mp hr
    cases hr
    rw [lstOf_eq hlx] at hx
    simp only [VR] at hx
    obtain ⟨ao, cap, rfl, hn, hf, hsc, hnone, hd⟩ := hx
    obtain ⟨c1, c2, c3, c4, c5, c6, c7⟩ := cut_eq hq
    have hb := sliceBounds_run (P := P) (w := w) (isSlice := true) (c' := cap) h1 h2 h3 c1 c2 c3 c4 (fun _ => ⟨c5, by omega⟩) (fun _ => by omega) c7
    refine ⟨_, slice_mk hu hs hb, ?_⟩
    obtain ⟨s1, s2⟩ := slots_eq_some hm
    simp only [VR]
    refine ⟨_, _, rfl, ?_, ?_, ?_, ?_, ?_⟩
    · split <;> omega
    · intro hfl
      cases mx with
      | none =>
        simp only [ocase_none, Bool.and_eq_true, beqN] at hfl
        have := hf hfl.1
        simp only [if_true]; omega
      | some m =>
        simp only [ocase_some, beqN] at hfl
        simp only [reduceCtorEq, if_false]; omega
    · rw [s2, List.all_eq_true]
      intro a ha
      exact List.all_eq_true.mp hsc a (List.mem_of_mem_drop (List.mem_of_mem_take ha))
    · intro he
      cases ao with
      | none => have := hnone rfl; split <;> omega
      | some a => exact absurd he (ite_some_ne _ _ _)
    · by_cases h0 : q.2.1 - q.1 = 0
      · refine .inl ⟨h0, by rw [s2, h0]; simp, fun hp => ?_⟩
        cases ao with
        | none =>
          rcases hd with ⟨_, _, k⟩ | ⟨b, off, xs, us, e, _⟩
          · exact absurd rfl (k hp)
          · cases e
        | some a => exact ite_some_ne _ _ _
      · right
        rcases hd with ⟨k0, _⟩ | ⟨b, off, xs, us, rfl, k2, k4, k5⟩
        · omega
        · refine ⟨b, off + q.1 * s, xs, (us.drop (q.1 * s)).take ((q.2.1 - q.1) * s), ?_, k2, ?_, ?_⟩
          · have e1 : ¬ ((if mx = none then cap else q.2.2) = q.1) := by split <;> omega
            rw [if_neg e1]
            have := at_add ⟨b, off, 0⟩ 0 (q.1 * s)
            simp only [CLoc.at, Nat.add_zero, Nat.zero_add] at this
            simp [this]
          · rw [s2]; exact VRL.take _ (VRL.drop _ k4)
          · intro i u hu
            rw [List.getElem?_take] at hu
            split at hu
            · rw [List.getElem?_drop] at hu
              rw [Nat.add_assoc]; exact k5 _ _ hu
            · cases hu
  | none =>
  rw [hlx] at hr
  replace hr : (bnd (sliceOf x) fun v => ocase v.1 (bnd (cut lo hi mx 0 0 0) fun _ => some (AV.slice none 0 (.exact 0))) fun a => sliceCap s h a v.2.1 lo hi mx v.2.2) = some r := hr
  obtain ⟨v, hv, hr⟩ := bnd_eq_some.mp hr
  have hx' := sliceOf_VR hv hx
  obtain ⟨va, vn, vc⟩ := v
  cases va with
  | none =>
    simp only [VR] at hx'
    obtain ⟨rfl, rfl, rfl⟩ := hx'
    obtain ⟨q, hq, hr⟩ := bnd_eq_some.mp hr
    cases hr
    obtain ⟨c1, c2, c3, c4, c5, c6, c7⟩ := cut_eq hq
    have hb := sliceBounds_run (P := P) (w := w) (isSlice := true) (c' := 0) h1 h2 h3 c1 c2 c3 c4 (fun _ => ⟨c5, c6⟩) (fun _ => by omega) c7
    refine ⟨_, slice_mk hu hs hb, ?_⟩
    have e1 : q.1 = 0 := by omega
    have e2 : q.2.1 = 0 := by omega
    have e3 : (if mx = none then 0 else q.2.2) = 0 := by split <;> omega
    simp only [VR, e1, e2, e3]
    simp
  | some a =>
    simp only [VR] at hx'
    obtain ⟨c, ad, hc, rfl, hlen, had⟩ := hx'
    have hr : sliceCap s h a vn lo hi mx vc = some r := hr
    unfold sliceCap at hr
    cases vc with
    | exact k =>
      obtain ⟨q, hq, hr⟩ := bnd_eq_some.mp hr
      cases hr
      obtain ⟨c1, c2, c3, c4, c5, c6, c7⟩ := cut_eq hq
      have em : (if mx = none then k else q.2.2) = q.2.2 := by
        split
        · rename_i e; subst e; cases c1; rfl
        · rfl
      have hb := sliceBounds_run (P := P) (w := w) (isSlice := true) (c' := k) h1 h2 h3 c1 c2 c3 c4 (fun _ => ⟨c5, c6⟩) (fun _ => by omega) c7
      rw [em] at hb
      refine ⟨_, slice_mk hu hs hb, ?_⟩
      simp only [VR, ACap.val] at had ⊢
      refine ⟨c, if q.2.2 = q.1 then ad else ad.add (q.1 * s), hc, ?_, by omega, fun hne => ?_⟩
      · split <;> rfl
      · rw [if_neg (by omega), had (by omega), at_add]
    | op d =>
      obtain ⟨q, hq, hr⟩ := bnd_eq_some.mp hr
      cases hr
      obtain ⟨c1, c2, c3, c4, c5, c6, c7⟩ := cut_eq hq
      simp only [ACap.val] at hlen had
      have hk := known_le H hc hpos hlen
      have hb := sliceBounds_run (P := P) (w := w) (isSlice := true) (c' := c.cap - d) h1 h2 h3 c1 c2 c3 c4 (fun _ => ⟨c5, by omega⟩) (fun _ => by omega) c7
      refine ⟨_, slice_mk hu hs hb, ?_⟩
      cases mx with
      | none =>
        simp only [VR, ACap.val, ocase_none, if_true]
        refine ⟨c, if c.cap - d = q.1 then ad else ad.add (q.1 * s), hc, ?_, by omega, fun hne => ?_⟩
        · rw [show c.cap - (d + q.1) = c.cap - d - q.1 by omega]; split <;> rfl
        · rw [if_neg (by omega), had (by omega), at_add]
      | some m =>
        simp only [VR, ACap.val, ocase_some, reduceCtorEq, if_false]
        refine ⟨c, if q.2.2 = q.1 then ad else ad.add (q.1 * s), hc, ?_, by omega, fun hne => ?_⟩
        · split <;> rfl
        · rw [if_neg (by omega), had (by omega), at_add]

theorem sliceF_run (H : HRel ρ h w) {t : TypeId} {x r : AV} {u : Value} {lo hi mx : Option AV} {lo' hi' mx' : Option Value}
    (hx : VR ρ x u) (h1 : OptVR ρ lo lo') (h2 : OptVR ρ hi hi') (h3 : OptVR ρ mx mx') (hr : (sliceF P t).run h x lo hi mx = some r) :
    ∃ r', (Instr.sliceAt t u lo' hi' mx').run P w = .ok r' w ∧ VR ρ r r' := by
  unfold sliceF at hr
  cases hu : undOf P t with
  | none => rw [hu] at hr; cases hr
  | some D =>
    rw [hu] at hr
    cases D with
    | string =>
      have hr : sliceStr x lo hi mx = some r := hr
      unfold sliceStr at hr
      cases mx with
      | some m => cases hr
      | none =>
        obtain ⟨l, hl, hr⟩ := bnd_eq_some.mp hr
        obtain ⟨q, hq, hr⟩ := bnd_eq_some.mp hr
        cases hr
        obtain ⟨c1, c2, c3, c4, c5, c6, c7⟩ := cut_eq hq
        simp only [lenA_eq] at c1 c2 c6
        rw [strOf_VR hl hx]
        have hb := sliceBounds_run (P := P) (w := w) (isSlice := false) (c' := l.length) h1 h2 h3 c1 c2 c3 c4 (fun hh => absurd rfl hh) (fun _ => by omega) c7
        cases mx' with
        | some _ => exact h3.elim
        | none =>
          refine ⟨.string ((ByteArray.mk l.toArray).extract q.1 q.2.1), ?_, ?_⟩
          · unfold Instr.sliceAt
            simp only [Sem.run_bind, run_und hu, Result.andThen_ok]
            unfold Instr.slice
            have e1 : (ByteArray.mk l.toArray).size = l.length := by simp [ByteArray.size]
            simp only [Sem.run_bind, run_und hu, Result.andThen_ok, Option.isSome_none, Bool.false_eq_true, if_false, Sem.run_pure, e1, hb]
          · simp only [VR]
            rw [ByteArray.extract_mk]; simp
    | slice e =>
      cases hs : szOf P e with
      | none => simp only [hs] at hr; cases hr
      | some s =>
        cases s with
        | zero => simp only [hs] at hr; cases hr
        | succ s => simp only [hs] at hr; exact sliceSlice_run H hu hs (by omega) hx h1 h2 h3 hr
    | array n e =>
      cases hs : szOf P e with
      | none => simp only [hs] at hr; cases hr
      | some s =>
        simp only [hs] at hr
        have hr : sliceArr n s x lo hi mx = some r := hr
        unfold sliceArr at hr
        obtain ⟨p, hp, hr⟩ := bnd_eq_some.mp hr
        obtain ⟨q, hq, hr⟩ := bnd_eq_some.mp hr
        cases hr
        obtain ⟨c1, c2, c3, c4, c5, c6, c7⟩ := cut_eq hq
        obtain ⟨c, hc, rfl⟩ := ptrOf_VR hp hx
        have em : (if mx = none then n else q.2.2) = q.2.2 := by
          split
          · rename_i e; subst e; cases c1; rfl
          · rfl
        have hb := sliceBounds_run (P := P) (w := w) (isSlice := false) (c' := n) h1 h2 h3 c1 c2 c3 c4 (fun _ => ⟨c5, c6⟩) (fun _ => by omega) c7
        rw [em] at hb
        refine ⟨.slice (some (if q.2.2 = q.1 then c.at p.off else (c.at p.off).add (q.1 * s))) (q.2.1 - q.1) (q.2.2 - q.1), ?_, ?_⟩
        · unfold Instr.sliceAt
          simp only [Sem.run_bind, run_und hu, Result.andThen_ok, sureAddr_run, hb, run_sizeOf' hs]
          rfl
        · simp only [VR, ACap.val]
          refine ⟨c, _, hc, rfl, by omega, fun hne => ?_⟩
          rw [if_neg (by omega), at_add]
    | _ => cases hr

end
end Go.Proofs.YtonojkcnencodaaDoor.BH
