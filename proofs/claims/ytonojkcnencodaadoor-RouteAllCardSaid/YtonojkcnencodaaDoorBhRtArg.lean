/-
  BH: walking by facts: short words for what the walks say again and again.
-/
import Derived.Test.YtonojkcnencodaaDoorBhW10
import Derived.Test.YtonojkcnencodaaDoorBhW7
section
namespace Go.Proofs.YtonojkcnencodaaDoor.BH
noncomputable section

theorem tk {HF HR : List HI} {i : HI} (h : Take HF i HR := by first | exact .head | exact .tail .head | exact .tail (.tail .head) | exact .tail (.tail (.tail .head)) | exact .tail (.tail (.tail (.tail .head))) | exact .tail (.tail (.tail (.tail (.tail .head)))) | exact .tail (.tail (.tail (.tail (.tail (.tail .head)))))) : Take HF i HR := h
theorem dn {cs : List AV} (h : cs.all doneV = true := by first | exact tab_done _ _ | exact flat_done (by intro _; rfl) _ | rfl | assumption) : cs.all doneV = true := h
theorem ln {α : Type} {l : List α} {k : Nat} (h : l.length = k := by first | exact tab_length _ _ | exact flat_length (by intro _; rfl) _ | exact (flat_length (s := 1) (by intro _; rfl) _).trans (by simp only [*]) | exact (flat_length (s := 2) (by intro _; rfl) _).trans (by simp only [*]) | exact (flat_length (s := 3) (by intro _; rfl) _).trans (by simp only [*]) | exact (flat_length (s := 4) (by intro _; rfl) _).trans (by simp only [*]) | exact (flat_length (s := 5) (by intro _; rfl) _).trans (by simp only [*]) | exact (flat_length (s := 6) (by intro _; rfl) _).trans (by simp only [*]) | rfl) : l.length = k := h
/-- What a call is handed. -/
theorem fz {keep : Bool} {f : Nat} {HF HF' : List HI} {v v' : AV} (h : FrzR keep f HF v v' HF' := by first | exact .closed rfl | exact .nil | exact .ownV rfl tk dn | exact .objV rfl tk ln dn | exact .ownK rfl tk dn | exact .objK rfl (by omega) tk ln dn | exact .ptr tk dn) : FrzR keep f HF v v' HF' := h
/-- What a function returns. -/
theorem fr {keep : Bool} {f : Nat} {HF HF' : List HI} {v v' : AV} (h : FrzR keep f HF v v' HF' := by first | exact .closed rfl | exact .nil | exact .ownK rfl tk dn | exact .objK rfl (by omega) tk ln dn) : FrzR keep f HF v v' HF' := h
theorem rdp {cs : List AV} {i : Nat} {v : AV} (h : cs[i]? = some v := by first | exact tab_getP (by omega) | exact flat_getP0 (by intro _; rfl) (by assumption) (by first | rfl | omega) (by decide) rfl | exact flat_getP (by intro _; rfl) (by assumption) (by first | rfl | omega) (by decide) rfl | rfl) : cs[i]? = some v := h
theorem rdc {cs : List AV} {i : Nat} {v : AV} (h : cs[i]? = some v := by first | exact tab_getL (by omega) | exact tab_getP (by omega) | exact flat_getI0 (by intro _; rfl) (by assumption) (by first | rfl | omega) (by decide) rfl | exact flat_getI (by intro _; rfl) (by assumption) (by first | rfl | omega) (by decide) rfl | rfl) : cs[i]? = some v := h
theorem ovw {cs vs cs' : List AV} {i : Nat} (h : over cs i vs = some cs' := by first | exact tab_setP (by omega) | exact flat_setP (off := 0) (by intro _; rfl) (by assumption) (by first | rfl | omega) rfl | exact flat_setP (off := 1) (by intro _; rfl) (by assumption) (by first | rfl | omega) rfl | rfl) : over cs i vs = some cs' := h
theorem agc {cs l : List AV} {i k : Nat} (h : slots cs i k = some l := by first | exact flat_aggs (by intro _; rfl) (by assumption) | exact flat_aggsI (by intro _; rfl) (by assumption) (by first | rfl | omega) | rfl) : slots cs i k = some l := h
theorem agp {cs l : List AV} {i k : Nat} (h : slots cs i k = some l := by first | exact flat_aggsP (by intro _; rfl) (by assumption) (by first | rfl | omega) | rfl) : slots cs i k = some l := h
theorem nw {size k : Nat} {HF : List HI} {a : AV} {new : List AV} (h : NewR size HF a k new := by first | exact new_obj tk rfl rfl | exact new_flat (by intro _; rfl) (by intro _; rfl) | exact new_own tk (flat_length (by intro _; rfl) _) (flat_scalar (by intro _; rfl) _) | exact new_lst rfl rfl) : NewR size HF a k new := h
end
end Go.Proofs.YtonojkcnencodaaDoor.BH

end
section
namespace Go.Proofs.YtonojkcnencodaaDoor.BH
noncomputable section
section
variable {C : Ctx} {n d : Nat} {all r : List Oper} {ty : TypeId} {pos : String} {after : Array Edge} {E : Fs} {HF HR : List HI} {Q : Fs → List HI → Prop}

theorem WC.reobj {c : Code} {Q : Post} {o : Nat} {x : AObj} (x' : AObj) (t : Take HF (.obj o x) HR) (h : x = x') (k : WC C n c E (.obj o x' :: HR) Q) : WC C n c E HF Q := by subst h; exact WC.take t k
theorem WS.reobj {o : Nat} {x : AObj} (x' : AObj) (t : Take HF (.obj o x) HR) (h : x = x') (k : WS C n all r E (.obj o x' :: HR) Q) : WS C n all r E HF Q := by subst h; exact WS.take t k

theorem LazyF.weak {l : List Oper} {o : Oper} {v v' : AV} (h : LazyF C n l E o v) (hv : VRLe v v') : LazyF C n l E o v' := ⟨fun hs ρ h0 w a ea hw he hl H => (h.run hs ρ h0 w a ea hw he hl H).mono fun u w' ⟨ρ', h', g1, g2⟩ => ⟨ρ', h', hv.2 _ _ g1, g2⟩⟩
/-! ### texts of bytes -/
theorem bytes_cells : ∀ l : List UInt8, bytesOfCells (l.flatMap eB) = some l
  | [] => rfl
  | b :: r => by
    show (bnd (byteOf (.int .u8 b.toNat)) fun a => bnd (bytesOfCells (r.flatMap eB)) fun l => some (a :: l)) = _
    rw [bytes_cells r]
    have : byteOf (.int .u8 (b.toNat : Nat)) = some b := by
      show cnd (Nat.ble b.toNat 255) (some (UInt8.ofNat b.toNat)) none = _
      rw [(bleN _ _).mpr (by have := b.toNat_lt; omega)]
      simp
    rw [this]; rfl
end
end
end Go.Proofs.YtonojkcnencodaaDoor.BH

end
section
namespace Go.Proofs.YtonojkcnencodaaDoor.BH
open Go
set_option maxRecDepth 10000
section
variable {C : Ctx} {n : Nat} {E : Fs} {ty : TypeId} {pos : String} {after : Array Edge}
end
end Go.Proofs.YtonojkcnencodaaDoor.BH

end
section
namespace Go.Proofs.YtonojkcnencodaaDoor.BH
open Go
set_option maxRecDepth 10000
theorem pfn_run {C : Ctx} {f N : Nat} {l : List AV} {v : AV} {h' : AHeap} (hc : l.all closedV = true) (hk : (C.cfg.kind f).keep = false) (hp : plainV v = true) (hr : callF C.P (regionF C.P) N f l AHeap.empty = some (v, h')) : PFn C f l v := by
  refine ⟨hc, fun ρ w us hv H => ?_⟩
  refine (callF_sound (regionF_sound C.mixed) N f l AHeap.empty _ h' ρ w us hr hv H).mono ?_
  rintro u w' ⟨ρ', g1, g2⟩
  exact ⟨ρ', h', _, g1, g2, .inl ⟨hk, rfl, hp⟩⟩
theorem pfn_eval {C : Ctx} {f N : Nat} {l : List AV} {v : AV} (hc : l.all closedV = true) (hk : (C.cfg.kind f).keep = false) (hp : plainV v = true) (hr : (callF C.P (regionF C.P) N f l AHeap.empty).map (·.1) = some v) : PFn C f l v := by
  cases h : callF C.P (regionF C.P) N f l AHeap.empty with
  | none => rw [h] at hr; cases hr
  | some r =>
    obtain ⟨u, h'⟩ := r
    rw [h] at hr
    have e : u = v := by simpa using hr
    subst e
    exact pfn_run hc hk hp h
theorem byteOf_is (b : UInt8) : byteOf (.int .u8 (b.toNat : Nat)) = some b := by
  show cnd (Nat.ble b.toNat 255) (some (UInt8.ofNat b.toNat)) none = _
  rw [(bleN _ _).mpr (by have := UInt8.toNat_lt b; omega)]
  simp
end Go.Proofs.YtonojkcnencodaaDoor.BH

end
section
namespace Go.Proofs.YtonojkcnencodaaDoor.BH.Rt
/-- Letters; what a name may have within. -/
def small : List UInt8 := [97, 98, 99, 100, 101, 102, 103, 104, 105, 106, 107, 108, 109, 110, 111, 112, 113, 114, 115, 116, 117, 118, 119, 120, 121, 122]
def inner : List UInt8 := [97, 98, 99, 100, 101, 102, 103, 104, 105, 106, 107, 108, 109, 110, 111, 112, 113, 114, 115, 116, 117, 118, 119, 120, 121, 122, 48, 49, 50, 51, 52, 53, 54, 55, 56, 57, 95]
def isIn (i : Nat) : Bool := (inner.map UInt8.toNat).any fun j => Nat.beq j i
def SET : List AV := tab 256 isIn
def trimL (l : List UInt8) : List UInt8 := l.dropWhile fun b => isIn b.toNat
def trimR (l : List UInt8) : List UInt8 := (l.reverse.dropWhile fun b => isIn b.toNat).reverse
theorem trimL_in {b : UInt8} {l : List UInt8} (h : isIn b.toNat = true) : trimL (b :: l) = trimL l := by simp [trimL, h]
theorem trimL_out {b : UInt8} {l : List UInt8} (h : isIn b.toNat = false) : trimL (b :: l) = b :: l := by simp [trimL, h]
theorem trimR_in {b : UInt8} {l : List UInt8} (h : isIn b.toNat = true) : trimR (l ++ [b]) = trimR l := by simp [trimR, h]
theorem trimR_out {b : UInt8} {l : List UInt8} (h : isIn b.toNat = false) : trimR (l ++ [b]) = l ++ [b] := by simp [trimR, h]
theorem drop_head {p : UInt8 → Bool} {m r : List UInt8} {a : UInt8} (h : m.dropWhile p = a :: r) : p a = false := by
  induction m with
  | nil => cases h
  | cons b t ih =>
    rw [List.dropWhile_cons] at h
    by_cases hb : p b = true
    · rw [if_pos hb] at h; exact ih h
    · rw [if_neg hb] at h; cases h; simpa using hb
theorem trim_nil (l : List UInt8) : trimL (trimR l) = [] ↔ l.all (fun b => isIn b.toNat) = true := by
  have h : ∀ m : List UInt8, (m.dropWhile fun b => isIn b.toNat) = [] ↔ m.all (fun b => isIn b.toNat) = true := by
    intro m
    induction m with
    | nil => simp
    | cons a r ih =>
      rw [List.dropWhile_cons, List.all_cons]
      by_cases ha : isIn a.toNat = true
      · rw [if_pos ha, ih, ha]; simp
      · rw [if_neg ha]; simp [ha]
  unfold trimL trimR
  rw [h, List.all_reverse]
  constructor
  · intro hd
    have : (l.reverse.dropWhile fun b => isIn b.toNat) = [] := by
      cases hx : l.reverse.dropWhile fun b => isIn b.toNat with
      | nil => rfl
      | cons a r =>
        rw [hx] at hd
        have h1 : isIn a.toNat = true := by simp at hd; exact hd.1
        have h2 := drop_head hx
        rw [h1] at h2; cases h2
    rw [h, List.all_reverse] at this; exact this
  · intro ha
    have : (l.reverse.dropWhile fun b => isIn b.toNat) = [] := by rw [h, List.all_reverse]; exact ha
    rw [this]; rfl
/-- May a text be a name? -/
noncomputable def wordV (s : List UInt8) : Bool := match s with
  | [] => false
  | b :: _ => decide (s.length ≤ 24) && decide (0 ≤ indexByteV b.toNat small 0) && s.all (fun b => isIn b.toNat)
theorem word_long {b : UInt8} {r : List UInt8} (h : 24 < ((b :: r).length : Int)) : wordV (b :: r) = false := by
  unfold wordV; rw [decide_eq_false (by omega)]; rfl
theorem word_first {b : UInt8} {r : List UInt8} (h : indexByteV b.toNat small 0 < 0) : wordV (b :: r) = false := by
  unfold wordV; simp only []; rw [show decide (0 ≤ indexByteV b.toNat small 0) = false from decide_eq_false (by omega), Bool.and_false]; rfl
theorem word_ok {b : UInt8} {r : List UInt8} (h : ((b :: r).length : Int) ≤ 24) (h1 : ¬ indexByteV b.toNat small 0 < 0) : decide (trimL (trimR (b :: r)) = []) = wordV (b :: r) := by
  unfold wordV; simp only []
  rw [decide_eq_true (show (b :: r).length ≤ 24 by omega), decide_eq_true (show 0 ≤ indexByteV b.toNat small 0 by omega), Bool.true_and, Bool.true_and]
  rw [Bool.eq_iff_iff, decide_eq_true_eq]; exact trim_nil _
theorem last_of {l : List UInt8} {k : Nat} (h : l.length = k + 1) : ∃ b m, l = m ++ [b] ∧ m.length = k := by
  have hne : l ≠ [] := by rintro rfl; cases h
  exact ⟨l.getLast hne, l.dropLast, (List.dropLast_concat_getLast hne).symm, by simp [h]⟩
/-- Labels, matchers. -/
structure LD where
  name : List UInt8
  value : List UInt8
  deriving DecidableEq
structure MD where
  name : List UInt8
  value : List UInt8
  kind : Int
  deriving DecidableEq
def eL (x : LD) : List AV := [.str x.name, .str x.value]
def eM (m : MD) : List AV := [.str m.name, .str m.value, .int .i64 m.kind]
def signV (k : Int) : List UInt8 := if k = 1 then [61] else if k = 2 then [33, 61] else if k = 3 then [94, 61] else if k = 4 then [33, 94] else []
def prefV (s p : List UInt8) : Bool := decide (p.length ≤ s.length) && decide (s.take p.length = p)
def getV : List LD → List UInt8 → List UInt8
  | [], _ => []
  | a :: r, n => if a.name = n then a.value else getV r n
theorem getV_cons (a : LD) (r : List LD) (n : List UInt8) : getV (a :: r) n = if a.name = n then a.value else getV r n := rfl
def holdsV (l : List LD) (m : MD) : Bool :=
  if m.kind = 1 then decide (getV l m.name = m.value) else if m.kind = 2 then decide (¬ getV l m.name = m.value) else if m.kind = 3 then prefV (getV l m.name) m.value else if m.kind = 4 then !prefV (getV l m.name) m.value else false
def allV (l : List LD) (ms : List MD) : Bool := ms.all (holdsV l)
noncomputable def okM (m : MD) : Bool := wordV m.name && decide (m.value.length ≤ 24) && decide (signV m.kind ≠ [])
noncomputable def msV (ms : List MD) : Bool := ms.all okM && decide (ms.length ≤ 6)
theorem all_take {α : Type} {p : α → Bool} {l : List α} {k : Nat} {x : α} (hx : l[k]? = some x) (h : (l.take k).all p = true) (hp : p x = true) : (l.take (k + 1)).all p = true := by
  rw [take_one hx, List.all_append, h]; simpa using hp
theorem all_not {α : Type} {p : α → Bool} {l : List α} {k : Nat} {x : α} (hx : l[k]? = some x) (hp : p x = false) : l.all p = false := by
  rw [List.all_eq_false]; exact ⟨x, List.mem_of_getElem? hx, by rw [hp]; simp⟩
theorem all_end {α : Type} {p : α → Bool} {l : List α} {k : Nat} (hk : l.length ≤ k) (h : (l.take k).all p = true) : l.all p = true := by rw [List.take_of_length_le hk] at h; exact h
theorem natOr_of {d : Nat} {k : IntKind} {z : Int} {j : Nat} (h : z = j) : natOr d (some (.int k z)) = some j := by subst h; rfl
end Go.Proofs.YtonojkcnencodaaDoor.BH.Rt

end
section
namespace Go.Proofs.YtonojkcnencodaaDoor.BH.Kx
open Go.Proofs.YtonojkcnencodaaDoor.BH Go.Proofs.YtonojkcnencodaaDoor.BH.Rt Go.ChangeShapes Go.WideShapes
/-- A struct of two fields. -/
theorem dec_s2 {P : Program} {α β : Type} {t : TypeId} {f0 f1 : Field} {n0 n1 n : Nat} {e0 : α → List AV} {e1 : β → List AV} {g0 : α → Prop} {g1 : β → Prop} (ht : P.underlying t = some (.struct #[f0, f1]))
    (hc : P.cellsOf t = n0 + n1) (h0 : P.cellsOf f0.type = n0) (h1 : P.cellsOf f1.type = n1) (o0 : f0.offset = 0) (o1 : f1.offset = n0)
    (D0 : ∀ m, m < n → DecN P f0.type e0 g0 m) (D1 : ∀ m, m < n → DecN P f1.type e1 g1 m) :
    DecN P t (fun p : α × β => e0 p.1 ++ e1 p.2) (fun p => g0 p.1 ∧ g1 p.2) n := by
  intro H e' W held cs x hx
  obtain ⟨xs, m, hn, rfl, hl, hlen, hf⟩ := DataW.trod_struct ht hx
  match xs, hlen with
  | [y0, y1], _ =>
    have k0 := hf 0 f0 rfl
    have k1 := hf 1 f1 rfl
    rw [h0, o0] at k0; rw [h1, o1] at k1
    obtain ⟨a, a1, a2⟩ := D0 m (by omega) e' W held _ _ k0
    obtain ⟨b, b1, b2⟩ := D1 m (by omega) e' W held _ _ k1
    refine ⟨(a, b), ?_, a2, b2⟩
    have hcs : cs = (cs.drop 0).take n0 ++ (cs.drop n0).take n1 := by
      have e3 : (cs.drop n0).take n1 = cs.drop n0 := List.take_of_length_le (by rw [List.length_drop]; omega)
      rw [e3, List.drop_zero, List.take_append_drop]
    rw [hcs]
    exact VRL.append a1 b1
/-- A struct of three fields. -/
theorem dec_s3 {P : Program} {α β γ : Type} {t : TypeId} {f0 f1 f2 : Field} {n0 n1 n2 n : Nat} {e0 : α → List AV} {e1 : β → List AV} {e2 : γ → List AV} {g0 : α → Prop} {g1 : β → Prop} {g2 : γ → Prop} (ht : P.underlying t = some (.struct #[f0, f1, f2]))
    (hc : P.cellsOf t = n0 + n1 + n2) (h0 : P.cellsOf f0.type = n0) (h1 : P.cellsOf f1.type = n1) (h2 : P.cellsOf f2.type = n2) (o0 : f0.offset = 0) (o1 : f1.offset = n0) (o2 : f2.offset = n0 + n1)
    (D0 : ∀ m, m < n → DecN P f0.type e0 g0 m) (D1 : ∀ m, m < n → DecN P f1.type e1 g1 m) (D2 : ∀ m, m < n → DecN P f2.type e2 g2 m) :
    DecN P t (fun p : α × β × γ => e0 p.1 ++ (e1 p.2.1 ++ e2 p.2.2)) (fun p => g0 p.1 ∧ g1 p.2.1 ∧ g2 p.2.2) n := by
  intro H e' W held cs x hx
  obtain ⟨xs, m, hn, rfl, hl, hlen, hf⟩ := DataW.trod_struct ht hx
  match xs, hlen with
  | [y0, y1, y2], _ =>
    have k0 := hf 0 f0 rfl
    have k1 := hf 1 f1 rfl
    have k2 := hf 2 f2 rfl
    rw [h0, o0] at k0; rw [h1, o1] at k1; rw [h2, o2] at k2
    obtain ⟨a, a1, a2⟩ := D0 m (by omega) e' W held _ _ k0
    obtain ⟨b, b1, b2⟩ := D1 m (by omega) e' W held _ _ k1
    obtain ⟨c, c1, c2⟩ := D2 m (by omega) e' W held _ _ k2
    refine ⟨(a, b, c), ?_, a2, b2, c2⟩
    have hcs : cs = (cs.drop 0).take n0 ++ ((cs.drop n0).take n1 ++ (cs.drop (n0 + n1)).take n2) := by
      have e3 : (cs.drop (n0 + n1)).take n2 = (cs.drop n0).drop n1 := by rw [List.drop_drop]; exact List.take_of_length_le (by rw [List.length_drop]; omega)
      rw [e3, List.take_append_drop, List.drop_zero, List.take_append_drop]
    rw [hcs]
    exact VRL.append a1 (VRL.append b1 c1)
/-- A struct that is handed over. -/
theorem arg_struct {P : Program} {α : Type} {H : Type} {e' : TypeId × Value → H} {W : World} {held : Bool} {t : TypeId} {v : Value} {d : DataW H} {ps : List MemPlace} {enc : α → List AV} {good : α → Prop} (hs : ∃ cs, v = .agg cs ∧ cs.size = P.cellsOf t) (h : DataW.Trod e' P W 0 (fun _ => true) held t v d ps) (D : ∀ n, DecN P t enc good n) :
    ∃ a, VRL (Rho.data W) [.agg (enc a)] [v] ∧ good a := by
  obtain ⟨cs, rfl, _⟩ := hs
  obtain ⟨fuel, hf⟩ := h
  obtain ⟨a, h1, h2⟩ := D fuel e' W held _ _ hf
  exact ⟨a, VRL.cons (by simp only [VR]; exact ⟨cs, rfl, h1⟩) VRL.nil, h2⟩
end Go.Proofs.YtonojkcnencodaaDoor.BH.Kx

end
