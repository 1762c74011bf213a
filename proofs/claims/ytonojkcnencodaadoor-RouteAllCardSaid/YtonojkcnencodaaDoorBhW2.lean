/-
  BH: walking by facts: operations that read slots alone.
-/
import Derived.Test.YtonojkcnencodaaDoorBhW
namespace Go.Proofs.YtonojkcnencodaaDoor.BH
noncomputable section
variable {C : Ctx} {n d : Nat} {all r : List Oper} {ty : TypeId} {pos : String} {after : Array Edge} {E : Fs} {HF : List HI} {Q : Fs → List HI → Prop}

theorem w_move {x : Operand} {v : AV} (hd : Nat.blt d n = true) (hx : ev E x = some v) (hk : WS C n all r ((d, v) :: E) HF Q) : WS C n all (⟨some d, .move x, ty, pos, after, none⟩ :: r) E HF Q :=
  ws_pure hd (fun e h _ hs => by show (bnd (opv e x) fun a => bnd (some a) fun v => some (v, h)) = _; rw [ev_opv hs hx]; rfl) hk
theorem w_assign {x : Operand} {v : AV} (hd : Nat.blt d n = true) (hx : ev E x = some v) (hk : WS C n all r ((d, v) :: E) HF Q) : WS C n all (⟨some d, .assign x, ty, pos, after, none⟩ :: r) E HF Q :=
  ws_pure hd (fun e h _ hs => by show (bnd (opv e x) fun a => bnd (some a) fun v => some (v, h)) = _; rw [ev_opv hs hx]; rfl) hk
theorem w_pick {c a b : Operand} {t : Bool} {x y : AV} (hd : Nat.blt d n = true) (hc : ev E c = some (.bool t)) (ha : ev E a = some x) (hb : ev E b = some y) (hk : WS C n all r ((d, cnd t x y) :: E) HF Q) :
    WS C n all (⟨some d, .pick c a b, ty, pos, after, none⟩ :: r) E HF Q :=
  ws_pure hd (fun e h _ hs => by
    show (bnd (opv e c) fun z => bnd (opv e a) fun x => bnd (opv e b) fun y => bnd (boolOf z) fun t => some (cnd t x y, h)) = _
    rw [ev_opv hs hc, ev_opv hs ha, ev_opv hs hb]; rfl) hk
theorem w_nil {x : Operand} {v : AV} (hd : Nat.blt d n = true) (hx : ev E x = some v) (hv : nilCheckV v = some v) (hk : WS C n all r ((d, v) :: E) HF Q) : WS C n all (⟨some d, .nilCheck x, ty, pos, after, none⟩ :: r) E HF Q :=
  ws_pure hd (fun e h _ hs => by show (bnd (opv e x) fun a => bnd (nilCheckV a) fun v => some (v, h)) = _; rw [ev_opv hs hx, bnd_some, hv]; rfl) hk
/-! ### two operands -/
theorem w_bin {op : BinOp} {t t' : TypeId} {x y : Operand} {a b v : AV} (hd : Nat.blt d n = true) (hx : ev E x = some a) (hy : ev E y = some b) (hv : (binF C.P op t (isConst x || isConst y)).run a b = some v)
    (hk : WS C n all r ((d, v) :: E) HF Q) : WS C n all (⟨some d, .binOp op t x y t', ty, pos, after, none⟩ :: r) E HF Q :=
  ws_pure hd (fun e h _ hs => by
    show (bnd (opv e x) fun a => bnd (opv e y) fun b => bnd ((binF C.P op t (isConst x || isConst y)).run a b) fun v => some (v, h)) = _
    rw [ev_opv hs hx, ev_opv hs hy, bnd_some, bnd_some, hv]; rfl) hk

section
variable {P : Program} {t : TypeId} {lit : Bool} {k : IntKind} {a b : Int}
theorem kinds_same (k : IntKind) : sameKind k k = true := by cases k <;> rfl
theorem bin_int {op : BinOp} (hu : undOf P t = some (.int k)) (h1 : op ≠ .shl) (h2 : op ≠ .shr) : (binF P op t lit).run (.int k a) (.int k b) = (intF op).run k a b := by
  unfold binF
  rw [hu]
  have : intBin (intF op) (.int k a) (.int k b) = (intF op).run k a b := by
    show cnd (sameKind k k) _ _ = _
    rw [kinds_same]; rfl
  cases op <;> first | exact this | exact absurd rfl h1 | exact absurd rfl h2
theorem wrap64 {z : Int} (h : -9223372036854775808 ≤ z ∧ z ≤ 9223372036854775807) : wrapF .i64 z = z := by rw [wrapF_eq]; exact IntWalk.i64_in _ (by omega)
end

section
variable {t t' : TypeId} {x y : Operand} {a b : Int} {k : IntKind}
theorem w_add (hu : undOf C.P t = some (.int .i64)) (hd : Nat.blt d n = true) (hx : ev E x = some (.int .i64 a)) (hy : ev E y = some (.int .i64 b)) (hb : -9223372036854775808 ≤ a + b ∧ a + b ≤ 9223372036854775807)
    (hk : WS C n all r ((d, .int .i64 (a + b)) :: E) HF Q) : WS C n all (⟨some d, .binOp .add t x y t', ty, pos, after, none⟩ :: r) E HF Q :=
  w_bin hd hx hy (by rw [bin_int hu (by decide) (by decide)]; show some (AV.int .i64 (wrapF .i64 (a + b))) = _; rw [wrap64 hb]) hk
theorem w_sub (hu : undOf C.P t = some (.int .i64)) (hd : Nat.blt d n = true) (hx : ev E x = some (.int .i64 a)) (hy : ev E y = some (.int .i64 b)) (hb : -9223372036854775808 ≤ a - b ∧ a - b ≤ 9223372036854775807)
    (hk : WS C n all r ((d, .int .i64 (a - b)) :: E) HF Q) : WS C n all (⟨some d, .binOp .sub t x y t', ty, pos, after, none⟩ :: r) E HF Q :=
  w_bin hd hx hy (by rw [bin_int hu (by decide) (by decide)]; show some (AV.int .i64 (wrapF .i64 (a - b))) = _; rw [wrap64 hb]) hk
theorem w_quo (hu : undOf C.P t = some (.int k)) (hd : Nat.blt d n = true) (hx : ev E x = some (.int k a)) (hy : ev E y = some (.int k b)) (hb : b ≠ 0)
    (hk : WS C n all r ((d, .int k (k.wrap (a.tdiv b))) :: E) HF Q) : WS C n all (⟨some d, .binOp .quo t x y t', ty, pos, after, none⟩ :: r) E HF Q :=
  w_bin hd hx hy (by
    rw [bin_int hu (by decide) (by decide)]; show cnd (eqI b 0) none (some (AV.int k (wrapF k (a.tdiv b)))) = _
    rw [eqI_eq, wrapF_eq, show (b == 0) = false by simpa using hb]; rfl) hk
theorem w_rem (hu : undOf C.P t = some (.int k)) (hd : Nat.blt d n = true) (hx : ev E x = some (.int k a)) (hy : ev E y = some (.int k b)) (hb : b ≠ 0)
    (hk : WS C n all r ((d, .int k (a.tmod b)) :: E) HF Q) : WS C n all (⟨some d, .binOp .rem t x y t', ty, pos, after, none⟩ :: r) E HF Q :=
  w_bin hd hx hy (by
    rw [bin_int hu (by decide) (by decide)]; show cnd (eqI b 0) none (some (AV.int k (a.tmod b))) = _
    rw [eqI_eq, show (b == 0) = false by simpa using hb]; rfl) hk
theorem w_eql (hu : undOf C.P t = some (.int k)) (hd : Nat.blt d n = true) (hx : ev E x = some (.int k a)) (hy : ev E y = some (.int k b)) (hk : WS C n all r ((d, .bool (decide (a = b))) :: E) HF Q) :
    WS C n all (⟨some d, .binOp .eql t x y t', ty, pos, after, none⟩ :: r) E HF Q :=
  w_bin hd hx hy (by rw [bin_int hu (by decide) (by decide)]; show some (AV.bool (eqI a b)) = _; rw [eqI_eq]; congr 2) hk
theorem w_neq (hu : undOf C.P t = some (.int k)) (hd : Nat.blt d n = true) (hx : ev E x = some (.int k a)) (hy : ev E y = some (.int k b)) (hk : WS C n all r ((d, .bool (decide (a ≠ b))) :: E) HF Q) :
    WS C n all (⟨some d, .binOp .neq t x y t', ty, pos, after, none⟩ :: r) E HF Q :=
  w_bin hd hx hy (by rw [bin_int hu (by decide) (by decide)]; show some (AV.bool (!eqI a b)) = _; rw [eqI_eq]; congr 2; rw [Bool.eq_iff_iff]; simp) hk
theorem w_lss (hu : undOf C.P t = some (.int k)) (hd : Nat.blt d n = true) (hx : ev E x = some (.int k a)) (hy : ev E y = some (.int k b)) (hk : WS C n all r ((d, .bool (decide (a < b))) :: E) HF Q) :
    WS C n all (⟨some d, .binOp .lss t x y t', ty, pos, after, none⟩ :: r) E HF Q :=
  w_bin hd hx hy (by rw [bin_int hu (by decide) (by decide)]; show some (AV.bool (ltI a b)) = _; rw [ltI_eq]) hk
theorem w_leq (hu : undOf C.P t = some (.int k)) (hd : Nat.blt d n = true) (hx : ev E x = some (.int k a)) (hy : ev E y = some (.int k b)) (hk : WS C n all r ((d, .bool (decide (a ≤ b))) :: E) HF Q) :
    WS C n all (⟨some d, .binOp .leq t x y t', ty, pos, after, none⟩ :: r) E HF Q :=
  w_bin hd hx hy (by rw [bin_int hu (by decide) (by decide)]; show some (AV.bool (!ltI b a)) = _; rw [ltI_eq]; congr 2; rw [Bool.eq_iff_iff]; simp) hk
theorem w_gtr (hu : undOf C.P t = some (.int k)) (hd : Nat.blt d n = true) (hx : ev E x = some (.int k a)) (hy : ev E y = some (.int k b)) (hk : WS C n all r ((d, .bool (decide (b < a))) :: E) HF Q) :
    WS C n all (⟨some d, .binOp .gtr t x y t', ty, pos, after, none⟩ :: r) E HF Q :=
  w_bin hd hx hy (by rw [bin_int hu (by decide) (by decide)]; show some (AV.bool (ltI b a)) = _; rw [ltI_eq]) hk
theorem w_geq (hu : undOf C.P t = some (.int k)) (hd : Nat.blt d n = true) (hx : ev E x = some (.int k a)) (hy : ev E y = some (.int k b)) (hk : WS C n all r ((d, .bool (decide (b ≤ a))) :: E) HF Q) :
    WS C n all (⟨some d, .binOp .geq t x y t', ty, pos, after, none⟩ :: r) E HF Q :=
  w_bin hd hx hy (by rw [bin_int hu (by decide) (by decide)]; show some (AV.bool (!ltI a b)) = _; rw [ltI_eq]; congr 2; rw [Bool.eq_iff_iff]; simp) hk
end

/-! strings -/
section
variable {t t' : TypeId} {x y : Operand} {a b : List UInt8}
theorem bin_str {P : Program} {lit : Bool} {op : BinOp} (hu : undOf P t = some .string) : (binF P op t lit).run (.str a) (.str b) = (strF op).run a b := by
  unfold binF; rw [hu]; rfl
theorem w_seql (hu : undOf C.P t = some .string) (hd : Nat.blt d n = true) (hx : ev E x = some (.str a)) (hy : ev E y = some (.str b)) (hk : WS C n all r ((d, .bool (decide (a = b))) :: E) HF Q) :
    WS C n all (⟨some d, .binOp .eql t x y t', ty, pos, after, none⟩ :: r) E HF Q :=
  w_bin hd hx hy (by rw [bin_str hu]; show some (AV.bool (same a b)) = _; rw [same_eq]; congr 2; rw [Bool.eq_iff_iff]; simp) hk
theorem w_sneq (hu : undOf C.P t = some .string) (hd : Nat.blt d n = true) (hx : ev E x = some (.str a)) (hy : ev E y = some (.str b)) (hk : WS C n all r ((d, .bool (decide (a ≠ b))) :: E) HF Q) :
    WS C n all (⟨some d, .binOp .neq t x y t', ty, pos, after, none⟩ :: r) E HF Q :=
  w_bin hd hx hy (by rw [bin_str hu]; show some (AV.bool (!same a b)) = _; rw [same_eq]; congr 2; rw [Bool.eq_iff_iff]; simp) hk
theorem w_sgeq (hu : undOf C.P t = some .string) (hd : Nat.blt d n = true) (hx : ev E x = some (.str a)) (hy : ev E y = some (.str b)) (hk : WS C n all r ((d, .bool (!less a b)) :: E) HF Q) :
    WS C n all (⟨some d, .binOp .geq t x y t', ty, pos, after, none⟩ :: r) E HF Q := w_bin hd hx hy (by rw [bin_str hu]; rfl) hk
end

/-! truths; nils; structs -/
section
variable {t t' : TypeId} {x y : Operand}
theorem w_not {t : TypeId} {a : Bool} (hd : Nat.blt d n = true) (hx : ev E x = some (.bool a)) (hk : WS C n all r ((d, .bool (!a)) :: E) HF Q) : WS C n all (⟨some d, .unOp .not t x, ty, pos, after, none⟩ :: r) E HF Q :=
  ws_pure hd (fun e h _ hs => by show (bnd (opv e x) fun a => bnd ((unF .not).run a) fun v => some (v, h)) = _; rw [ev_opv hs hx]; rfl) hk
end

/-! whole numbers turned into others -/
theorem w_conv {s t : TypeId} {x : Operand} {a v : AV} (hd : Nat.blt d n = true) (hx : ev E x = some a) (hc : ∀ h, (convF C.P s t).run h a = some (v, h)) (hk : WS C n all r ((d, v) :: E) HF Q) :
    WS C n all (⟨some d, .convert s t x, ty, pos, after, none⟩ :: r) E HF Q :=
  ws_pure hd (fun e h _ hs => by show (bnd (opv e x) fun a => (convF C.P s t).run h a) = _; rw [ev_opv hs hx, bnd_some, hc]) hk
theorem conv_int {P : Program} {s t : TypeId} {j k : IntKind} {a : Int} (hs : undOf P s = some (.int j)) (ht : undOf P t = some (.int k)) (h : AHeap) : (convF P s t).run h (.int j a) = some (.int k (k.wrap a), h) := by
  unfold convF; simp only [hs, ht]
  show some (AV.int k (wrapF k a), h) = _
  rw [wrapF_eq]
/-! ### structs, strings, lists -/
theorem w_faddrC {s : TypeId} {x : Operand} {i o q : Nat} {cs : List AV} (ho : fieldOff C.P s i = some q) (hd : Nat.blt d n = true) (hx : ev E x = some (.cptr cs o)) (hk : WS C n all r ((d, .cptr cs (o + q)) :: E) HF Q) :
    WS C n all (⟨some d, .fieldAddr s x i, ty, pos, after, none⟩ :: r) E HF Q :=
  ws_pure hd (fun e h _ hs => by
    show (bnd (opv e x) fun a => bnd (fieldAddrV (fieldOff C.P s i) a) fun v => some (v, h)) = _
    rw [ev_opv hs hx, ho]; rfl) hk
theorem w_faddrP {s : TypeId} {x : Operand} {i o p q : Nat} (ho : fieldOff C.P s i = some q) (hd : Nat.blt d n = true) (hx : ev E x = some (.ptr (some ⟨p, o⟩))) (hk : WS C n all r ((d, .ptr (some ⟨p, o + q⟩)) :: E) HF Q) :
    WS C n all (⟨some d, .fieldAddr s x i, ty, pos, after, none⟩ :: r) E HF Q :=
  ws_pure hd (fun e h _ hs => by
    show (bnd (opv e x) fun a => bnd (fieldAddrV (fieldOff C.P s i) a) fun v => some (v, h)) = _
    rw [ev_opv hs hx, ho]; rfl) hk
theorem w_build {t : TypeId} {ps : Array (Nat × Operand)} {l : List (Nat × AV)} {v : AV} {f : BuildF} (hf : buildF C.P t = f) (hd : Nat.blt d n = true) (hl : evp E ps.toList = some l) (hv : f.run l = some v) (hk : WS C n all r ((d, v) :: E) HF Q) :
    WS C n all (⟨some d, .build t ps, ty, pos, after, none⟩ :: r) E HF Q :=
  ws_pure hd (fun e h _ hs => by
    show (bnd (parts e ps.toList) fun l => bnd ((buildF C.P t).run l) fun v => some (v, h)) = _
    rw [evp_parts hs hl, hf, bnd_some, hv]; rfl) hk
theorem w_extract {x : Operand} {i : Nat} {vs : List AV} {v : AV} (hd : Nat.blt d n = true) (hx : ev E x = some (.tuple vs)) (hv : cellAt vs i = some v) (hk : WS C n all r ((d, v) :: E) HF Q) :
    WS C n all (⟨some d, .extract x i, ty, pos, after, none⟩ :: r) E HF Q :=
  ws_pure hd (fun e h _ hs => by
    show (bnd (opv e x) fun a => bnd (extractV i a) fun v => some (v, h)) = _
    rw [ev_opv hs hx]
    show (bnd (cellAt vs i) fun v => some (v, h)) = _
    rw [hv]; rfl) hk
theorem w_lidx {t : TypeId} {x y : Operand} {e s m : Nat} {cs : List AV} {f p : Bool} {k : IntKind} {i : Int} (hu : undOf C.P t = some (.slice e)) (hz : szOf C.P e = some s) (hd : Nat.blt d n = true) (hx : ev E x = some (.lst cs m f p)) (hy : ev E y = some (.int k i))
    (hi : 0 ≤ i ∧ i < m) (hk : WS C n all r ((d, .cptr cs (i.toNat * s)) :: E) HF Q) : WS C n all (⟨some d, .indexAddr t x y, ty, pos, after, none⟩ :: r) E HF Q :=
  ws_pure hd (fun e h _ hs => by
    show (bnd (opv e x) fun a => bnd (opv e y) fun b => bnd ((indexAddrF C.P t).run a b) fun v => some (v, h)) = _
    rw [ev_opv hs hx, ev_opv hs hy]
    unfold indexAddrF; simp only [hu, hz, bnd_some]
    show (bnd (placeC cs 0 s m i) fun v => some (v, h)) = _
    obtain ⟨j, rfl⟩ : ∃ j : Nat, i = j := ⟨i.toNat, by omega⟩
    show (bnd (cnd (Nat.ble (Nat.succ j) m) (some (AV.cptr cs (Nat.add 0 (Nat.mul j s)))) none) fun v => some (v, h)) = _
    rw [(bleN _ _).mpr (by omega)]
    simp only [cnd_true, bnd_some, Int.toNat_natCast, Nat.add_eq, Nat.zero_add, Nat.mul_eq]) hk
theorem w_aidxC {t : TypeId} {x y : Operand} {m e s o : Nat} {cs : List AV} {k : IntKind} {i : Int} (hu : undOf C.P t = some (.array m e)) (hz : szOf C.P e = some s) (hd : Nat.blt d n = true) (hx : ev E x = some (.cptr cs o)) (hy : ev E y = some (.int k i))
    (hi : 0 ≤ i ∧ i < m) (hk : WS C n all r ((d, .cptr cs (o + i.toNat * s)) :: E) HF Q) : WS C n all (⟨some d, .indexAddr t x y, ty, pos, after, none⟩ :: r) E HF Q :=
  ws_pure hd (fun e h _ hs => by
    show (bnd (opv e x) fun a => bnd (opv e y) fun b => bnd ((indexAddrF C.P t).run a b) fun v => some (v, h)) = _
    rw [ev_opv hs hx, ev_opv hs hy]
    unfold indexAddrF; simp only [hu, hz, bnd_some]
    show (bnd (placeC cs o s m i) fun v => some (v, h)) = _
    obtain ⟨j, rfl⟩ : ∃ j : Nat, i = j := ⟨i.toNat, by omega⟩
    show (bnd (cnd (Nat.ble (Nat.succ j) m) (some (AV.cptr cs (Nat.add o (Nat.mul j s)))) none) fun v => some (v, h)) = _
    rw [(bleN _ _).mpr (by omega)]
    simp only [cnd_true, bnd_some, Int.toNat_natCast, Nat.add_eq, Nat.mul_eq]) hk
theorem w_aidxP {t : TypeId} {x y : Operand} {m e s o q : Nat} {k : IntKind} {i : Int} (hu : undOf C.P t = some (.array m e)) (hz : szOf C.P e = some s) (hd : Nat.blt d n = true) (hx : ev E x = some (.ptr (some ⟨q, o⟩))) (hy : ev E y = some (.int k i))
    (hi : 0 ≤ i ∧ i < m) (hk : WS C n all r ((d, .ptr (some ⟨q, o + i.toNat * s⟩)) :: E) HF Q) : WS C n all (⟨some d, .indexAddr t x y, ty, pos, after, none⟩ :: r) E HF Q :=
  ws_pure hd (fun e h _ hs => by
    show (bnd (opv e x) fun a => bnd (opv e y) fun b => bnd ((indexAddrF C.P t).run a b) fun v => some (v, h)) = _
    rw [ev_opv hs hx, ev_opv hs hy]
    unfold indexAddrF; simp only [hu, hz, bnd_some]
    show (bnd (placeV ⟨q, o⟩ s m i) fun v => some (v, h)) = _
    obtain ⟨j, rfl⟩ : ∃ j : Nat, i = j := ⟨i.toNat, by omega⟩
    show (bnd (cnd (Nat.ble (Nat.succ j) m) (some (AV.ptr (some ⟨q, Nat.add o (Nat.mul j s)⟩))) none) fun v => some (v, h)) = _
    rw [(bleN _ _).mpr (by omega)]
    simp only [cnd_true, bnd_some, Int.toNat_natCast, Nat.add_eq, Nat.mul_eq]) hk
theorem w_slidx {t : TypeId} {x y : Operand} {e s m q o : Nat} {c : ACap} {k : IntKind} {i : Int} (hu : undOf C.P t = some (.slice e)) (hz : szOf C.P e = some s) (hd : Nat.blt d n = true) (hx : ev E x = some (.slice (some ⟨q, o⟩) m c)) (hy : ev E y = some (.int k i))
    (hi : 0 ≤ i ∧ i < m) (hk : WS C n all r ((d, .ptr (some ⟨q, o + i.toNat * s⟩)) :: E) HF Q) : WS C n all (⟨some d, .indexAddr t x y, ty, pos, after, none⟩ :: r) E HF Q :=
  ws_pure hd (fun e h _ hs => by
    show (bnd (opv e x) fun a => bnd (opv e y) fun b => bnd ((indexAddrF C.P t).run a b) fun v => some (v, h)) = _
    rw [ev_opv hs hx, ev_opv hs hy]
    unfold indexAddrF; simp only [hu, hz, bnd_some]
    show (bnd (placeV ⟨q, o⟩ s m i) fun v => some (v, h)) = _
    obtain ⟨j, rfl⟩ : ∃ j : Nat, i = j := ⟨i.toNat, by omega⟩
    show (bnd (cnd (Nat.ble (Nat.succ j) m) (some (AV.ptr (some ⟨q, Nat.add o (Nat.mul j s)⟩))) none) fun v => some (v, h)) = _
    rw [(bleN _ _).mpr (by omega)]
    simp only [cnd_true, bnd_some, Int.toNat_natCast, Nat.add_eq, Nat.mul_eq]) hk
theorem w_sidx {t : TypeId} {x y : Operand} {l : List UInt8} {k : IntKind} {i : Int} {b : UInt8} (hu : undOf C.P t = some .string) (hd : Nat.blt d n = true) (hx : ev E x = some (.str l)) (hy : ev E y = some (.int k i))
    (hi : 0 ≤ i) (hb : l[i.toNat]? = some b) (hk : WS C n all r ((d, .int .u8 b.toNat) :: E) HF Q) : WS C n all (⟨some d, .index t x y, ty, pos, after, none⟩ :: r) E HF Q :=
  ws_pure hd (fun e h _ hs => by
    show (bnd (opv e x) fun a => bnd (opv e y) fun b => bnd ((indexF C.P t).run a b) fun v => some (v, h)) = _
    rw [ev_opv hs hx, ev_opv hs hy]
    unfold indexF; simp only [hu, bnd_some]
    obtain ⟨j, rfl⟩ : ∃ j : Nat, i = j := ⟨i.toNat, by omega⟩
    show (bnd (bnd (byteAt l j) fun b => some (AV.int .u8 (.ofNat b.toNat))) fun v => some (v, h)) = _
    rw [byteAt_eq]
    simp only [Int.toNat_natCast] at hb
    rw [hb]; rfl) hk

/-- Memory that nobody writes, read. -/
theorem w_ldC {t : TypeId} {x : Operand} {k o : Nat} {cs l : List AV} (ha : aggOf C.P t = some true) (hz : szOf C.P t = some k) (hd : Nat.blt d n = true) (hx : ev E x = some (.cptr cs o)) (hl : slots cs o k = some l)
    (hk : WS C n all r ((d, .agg l) :: E) HF Q) : WS C n all (⟨some d, .load t x, ty, pos, after, none⟩ :: r) E HF Q :=
  ws_pure hd (fun e h _ hs => by
    show (bnd (opv e x) fun a => bnd ((loadF C.P t).run h a) fun v => some (v, h)) = _
    rw [ev_opv hs hx]
    unfold loadF; simp only [ha, hz, bnd_some]
    show (bnd (bnd (slots cs o k) fun l => some (AV.agg l)) fun v => some (v, h)) = _
    rw [hl]; rfl) hk
theorem w_ldC1 {t : TypeId} {x : Operand} {o : Nat} {cs : List AV} {v : AV} (ha : aggOf C.P t = some false) (hd : Nat.blt d n = true) (hx : ev E x = some (.cptr cs o)) (hl : cs[o]? = some v)
    (hk : WS C n all r ((d, v) :: E) HF Q) : WS C n all (⟨some d, .load t x, ty, pos, after, none⟩ :: r) E HF Q :=
  ws_pure hd (fun e h _ hs => by
    show (bnd (opv e x) fun a => bnd ((loadF C.P t).run h a) fun v => some (v, h)) = _
    rw [ev_opv hs hx]
    unfold loadF; simp only [ha, bnd_some]
    show (bnd (cellAt cs o) fun v => some (v, h)) = _
    rw [cellAt_eq, hl]; rfl) hk

/-! lengths -/
theorem w_len {ts : Array TypeId} {x : Operand} {a : AV} {m : Nat} (hd : Nat.blt d n = true) (hx : ev E x = some a) (hl : ∀ h, (lenF C.P ts.toList).run h a = some (.int .i64 m)) (hk : WS C n all r ((d, .int .i64 m) :: E) HF Q) :
    WS C n all (⟨some d, .call ⟨.builtin .len, #[x], ts⟩, ty, pos, after, none⟩ :: r) E HF Q :=
  ws_pure hd (fun e h _ hs => by
    show (bnd (opvs e [x]) fun l => (builtR (lenF C.P ts.toList)).run h l) = _
    rw [show opvs e [x] = some [a] from evs_opvs hs (by show (bnd (ev E x) fun a => bnd (some []) fun l => some (a :: l)) = _; rw [hx]; rfl)]
    show (bnd ((lenF C.P ts.toList).run h a) fun v => some (v, h)) = _
    rw [hl]; rfl) hk
theorem len_lst {P : Program} {t e : TypeId} {ts : List TypeId} {cs : List AV} {m : Nat} {f p : Bool} (hu : undOf P t = some (.slice e)) (h : AHeap) : (lenF P (t :: ts)).run h (.lst cs m f p) = some (.int .i64 m) := by
  unfold lenF; simp only [hu]; rfl
theorem len_slice {P : Program} {t e : TypeId} {ts : List TypeId} {a : Option ALoc} {m : Nat} {c : ACap} (hu : undOf P t = some (.slice e)) (h : AHeap) : (lenF P (t :: ts)).run h (.slice a m c) = some (.int .i64 m) := by
  unfold lenF; simp only [hu]; rfl
theorem len_str {P : Program} {t : TypeId} {ts : List TypeId} {l : List UInt8} (hu : undOf P t = some .string) (h : AHeap) : (lenF P (t :: ts)).run h (.str l) = some (.int .i64 l.length) := by
  unfold lenF; simp only [hu]
  show some (AV.int .i64 (.ofNat (lenA l))) = _
  rw [lenA_eq]; rfl
/-! min, max of whole numbers -/
/-! parts of strings and lists -/
def evo (E : Fs) (x : Option Operand) : Option (Option AV) := ocase x (some none) fun x => bnd (ev E x) fun v => some (some v)
theorem evo_opvo {e : Env} (hs : Sat n E e) {x : Option Operand} {v : Option AV} (h : evo E x = some v) : opvo e x = some v := by
  cases x with
  | none => exact h
  | some x =>
    obtain ⟨a, ha, h⟩ := bnd_eq_some.mp (show (bnd (ev E x) fun v => some (some v)) = some v from h)
    cases h
    show (bnd (opv e x) fun v => some (some v)) = _
    rw [ev_opv hs ha]; rfl
theorem w_slice {t : TypeId} {x : Operand} {lo hi mx : Option Operand} {a v : AV} {l b m : Option AV} (hd : Nat.blt d n = true) (hx : ev E x = some a) (hl : evo E lo = some l) (hb : evo E hi = some b) (hm : evo E mx = some m)
    (hv : ∀ h, (sliceF C.P t).run h a l b m = some v) (hk : WS C n all r ((d, v) :: E) HF Q) : WS C n all (⟨some d, .slice t x lo hi mx, ty, pos, after, none⟩ :: r) E HF Q :=
  ws_pure hd (fun e h _ hs => by
    show (bnd (opv e x) fun v => bnd (opvo e lo) fun l => bnd (opvo e hi) fun b => bnd (opvo e mx) fun m => bnd ((sliceF C.P t).run h v l b m) fun v => some (v, h)) = _
    rw [ev_opv hs hx, evo_opvo hs hl, evo_opvo hs hb, evo_opvo hs hm]
    show (bnd ((sliceF C.P t).run h a l b m) fun v => some (v, h)) = _
    rw [hv]; rfl) hk
theorem cut_is {lo hi mx : Option AV} {len c md b e m : Nat} (h0 : bothOk hi mx = some ()) (hm : natOr md mx = some m) (he : natOr len hi = some e) (hb : natOr 0 lo = some b) (h1 : b ≤ e) (h2 : e ≤ m) (h3 : m ≤ c) : cut lo hi mx len c md = some (b, e, m) := by
  unfold cut
  rw [h0, hm, he, hb]
  simp only [bnd_some, (bleN _ _).mpr h1, (bleN _ _).mpr h2, (bleN _ _).mpr h3]
  rfl
theorem slice_str {P : Program} {t : TypeId} {l : List UInt8} {lo hi : Option AV} {i j : Nat} (hu : undOf P t = some .string) (hl : natOr 0 lo = some i) (hh : natOr l.length hi = some j) (h1 : i ≤ j) (h2 : j ≤ l.length) (h : AHeap) :
    (sliceF P t).run h (.str l) lo hi none = some (.str ((l.drop i).take (j - i))) := by
  unfold sliceF; simp only [hu]
  show (bnd (cut lo hi none (lenA l) (lenA l) (lenA l)) fun r => some (AV.str (takeB (dropB l r.1) (r.2.1 - r.1)))) = _
  rw [lenA_eq, cut_is rfl rfl hh hl h1 h2 (Nat.le_refl _)]
  simp
theorem slots_of {cs : List AV} {o k : Nat} (h : o + k ≤ cs.length) : slots cs o k = some ((cs.drop o).take k) := by
  induction o generalizing cs with
  | zero =>
    have : ∀ (k : Nat) (cs : List AV), k ≤ cs.length → takeN k cs = some (cs.take k) := by
      intro k
      induction k with
      | zero => intro cs _; rfl
      | succ k ih => intro cs hk; cases cs with
        | nil => simp at hk
        | cons a r => show (bnd (takeN k r) fun l => some (a :: l)) = _; rw [ih r (by simpa using hk)]; rfl
    exact this k cs (by omega)
  | succ o ih => cases cs with
    | nil => simp at h
    | cons a r => show slots r o k = _; rw [ih (by simp at h; omega)]; rfl
/-- A part of a list. -/
theorem slice_lst {P : Program} {t e s : Nat} {cs : List AV} {m : Nat} {f p : Bool} {lo hi : Option AV} {i j : Nat} (hu : undOf P t = some (.slice e)) (hz : szOf P e = some (s + 1)) (hl : natOr 0 lo = some i) (hh : natOr m hi = some j) (h1 : i ≤ j) (h2 : j ≤ m)
    (hc : cs.length = m * (s + 1)) (h : AHeap) :
    (sliceF P t).run h (.lst cs m f p) lo hi none = some (.lst ((cs.drop (i * (s + 1))).take ((j - i) * (s + 1))) (j - i) (f && Nat.beq j m) p) := by
  unfold sliceF; simp only [hu, hz]
  show (bnd (cut lo hi none m m m) fun r => bnd (slots cs (r.1 * (s + 1)) ((r.2.1 - r.1) * (s + 1))) fun l => some (AV.lst l (r.2.1 - r.1) (f && Nat.beq r.2.1 m) p)) = _
  rw [cut_is rfl rfl hh hl h1 h2 (Nat.le_refl _)]
  have : i * (s + 1) + (j - i) * (s + 1) ≤ cs.length := by
    rw [hc, ← Nat.add_mul]; exact Nat.mul_le_mul_right _ (by omega)
  simp only [bnd_some]
  rw [slots_of this]; rfl
end
end Go.Proofs.YtonojkcnencodaaDoor.BH
