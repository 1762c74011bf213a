/-
  New memory that is written no more, told weaker than it was made.
-/
import Derived.Test.YtonojkcnencodaaDoorBhW12
namespace Go.Proofs.YtonojkcnencodaaDoor.BH
open Go
set_option maxRecDepth 10000
section
variable {C : Ctx} {n : Nat} {E : Fs} {ty : TypeId} {pos : String} {after : Array Edge}
theorem lz_newW {l : List Oper} {op : Op} {dst : Option Tmp} {g : Option (Nat × Bool)} {m e s : Nat} {c : ACap} {cs0 cs : List AV} (hns : noSel ⟨dst, op, ty, pos, after, g⟩ = true)
    (hop : ∀ e' h call, Sat n E e' → (operTF C.P op).run call e' h = some (.slice (some ⟨h.next, 0⟩) m c, h.push (.row e s false cs0))) (hle : LeL cs0 cs) (hm : 0 < m) (hl : cs.length = m * s) (hdn : cs.all doneV = true) : LazyF C n l E ⟨dst, op, ty, pos, after, g⟩ (.lst cs m false true) := ⟨fun {es} hs ρ h w a ea hw he hlk H => by
  have hc := callX_sound (regionF_sound C.mixed) C.sums 0
  have rr := hop es h (callX C.P (regionF C.P) C.cfg 0) hs
  rw [show (operTF C.P op) = operF C.P op from noSel_oper hns, ← operF_congr op fun x hx => opv_congr fun t ht => hlk t (by
    subst ht
    unfold looks
    exact List.mem_append_left _ (List.mem_filterMap.mpr ⟨.tmp t, by simpa using hx, rfl⟩))] at rr
  refine ExecOk.mono (operF_sound hc ⟨dst, op, ty, pos, after, g⟩ ea h _ _ ρ w a rr he H) ?_
  rintro u w' ⟨ρ', g1, g2⟩
  have s0 : SatH [] [] h := rfl
  obtain ⟨k1, k2⟩ := sat_push s0 hw (.row e s false cs0)
  obtain ⟨m1, m2, m3⟩ := sat_set (x' := .row e s false cs) k1 (hw.push _)
  have hx := ((Take.head : Take [.obj h.next (.row e s false cs0)] (.obj h.next (.row e s false cs0)) []).obj k1).1
  obtain ⟨cc, y, r1, r2, r3⟩ := g2.rel.objs _ _ hx
  obtain ⟨us0, fr, rfl, q1, q2, q3⟩ := r3
  have T : Trans ρ' (h.push (.row e s false cs0)) w' ρ' ((h.push (.row e s false cs0)).set h.next (.row e s false cs)) w' := Trans.ofSet g2.rel hx rfl r1 r2 ⟨us0, fr, rfl, by rw [hle.length]; exact q1, fun i b hb => by
    obtain ⟨a0, z1, z2⟩ := hle.get hb
    obtain ⟨s1, v, s2, s3⟩ := q2 i a0 z1
    exact ⟨z2.1 s1, v, s2, z2.2 _ _ s3⟩, by rw [hle.length]; exact q3⟩ rfl (fun _ _ => rfl) rfl rfl
  obtain ⟨h'', fp'', z1, z2, z3, z4⟩ := (FrzR.objK (keep := true) (f := 11) rfl hm (c := c) .head hl hdn).run m1 m2
  obtain ⟨ρ'', T2, y⟩ := frz_same z1 rfl g1 T.rel
  refine ⟨ρ'', h'', y, (g2.trans T).trans T2, z3, fun x hx => ?_⟩
  rw [z4.keep x (by simp; omega) (by simp; omega), m3.keep x (by simp; omega) (by simp; omega)]
  rw [AHeap.get_push, if_neg (by omega)]⟩
theorem lz_buildW {l : List Oper} {dst : Option Tmp} {g : Option (Nat × Bool)} {t e s m : Nat} {ps : Array (Nat × Operand)} {q : List (Nat × AV)} {z cs0 cs : List AV} (hu : undOf C.P t = some (.slice e)) (hz : szOf C.P e = some s) (hzc : zeroCells C.P e = some z) (hle : m * s ≤ 65536)
    (hl : evp E ps.toList = some q) (hf : fillV (fun i => some (i * s, s)) (repl m z) q = some cs0) (hw : LeL cs0 cs) (hm : 0 < m) (hlen : cs.length = m * s) (hdn : cs.all doneV = true) : LazyF C n l E ⟨dst, .buildSlice t m ps, ty, pos, after, g⟩ (.lst cs m false true) :=
  lz_newW (e := e) (c := .exact m) rfl (fun e' h _ h1 => by
    show (bnd (parts e' ps.toList) fun l => (buildSliceF C.P t m).run h l) = _
    rw [evp_parts h1 hl]
    unfold buildSliceF; simp only [hu, hz, hzc, (bleN _ _).mpr hle, cnd_true, bnd_some, hf]) hw hm hlen hdn
end
end Go.Proofs.YtonojkcnencodaaDoor.BH
namespace Go.Proofs.YtonojkcnencodaaDoor.BH
open Go
set_option maxRecDepth 10000
theorem pfn_run {C : Ctx} {f N : Nat} {l : List AV} {v : AV} {h' : AHeap} (hc : l.all closedV = true) (hk : (C.cfg.kind f).keep = false) (hp : plainV v = true) (hr : callF C.P (regionF C.P) N f l AHeap.empty = some (v, h')) : PFn C f l v := by
  refine ⟨hc, fun ρ w us hv H => ?_⟩
  refine (callF_sound (regionF_sound C.mixed) N f l AHeap.empty _ h' ρ w us hr hv H).mono ?_
  rintro u w' ⟨ρ', g1, g2⟩
  exact ⟨ρ', h', _, g1, g2, .inl ⟨hk, rfl, hp⟩⟩
theorem pfn_eval {C : Ctx} {f N : Nat} {l : List AV} {v : AV} (hc : l.all closedV = true) (hk : (C.cfg.kind f).keep = false) (hp : plainV v = true) (hr : (callF C.P (regionF C.P) N f l AHeap.empty).map (·.1) = some v) : PFn C f l v := by
  cases h : callF C.P (regionF C.P) N f l AHeap.empty with
  | none => rw [h] at hr; cases hr
  | some r =>
    obtain ⟨u, h'⟩ := r
    rw [h] at hr
    have e : u = v := by simpa using hr
    subst e
    exact pfn_run hc hk hp h
theorem byteOf_is (b : UInt8) : byteOf (.int .u8 (b.toNat : Nat)) = some b := by
  show cnd (Nat.ble b.toNat 255) (some (UInt8.ofNat b.toNat)) none = _
  rw [(bleN _ _).mpr (by have := UInt8.toNat_lt b; omega)]
  simp
end Go.Proofs.YtonojkcnencodaaDoor.BH
namespace Go.Proofs.YtonojkcnencodaaDoor.BH
open Go
section
variable {C : Ctx} {n : Nat} {E : Fs} {HF HF' HR HR0 : List HI}
theorem WC.freezeCell {c : Code} {Q : Post} {o e s i : Nat} {cs : List AV} {v v' : AV} (t0 : Take HF (.obj o (.row e s false cs)) HR0) (hi : cs[i]? = some v) (hf : FrzR true deep HF v v' HF') (hd : doneV v' = true) (hsc : v'.scalar = true)
    (t : Take HF' (.obj o (.row e s false cs)) HR) (h : WC C n c E (.obj o (.row e s false (cs.set i v')) :: HR) Q) : WC C n c E HF Q := fun e' hh fp h1 h2 h3 ρ w a he H => by
  obtain ⟨h', fp', k1, k2, k3, k4⟩ := hf.run h2 h3
  have hx0 := (t0.obj h2).1
  obtain ⟨cc, y, g1, g2, g3⟩ := H.objs _ _ hx0
  obtain ⟨us, fr, rfl, q1, q2, q3⟩ := g3
  obtain ⟨s1, u, s2, s3⟩ := q2 i v hi
  obtain ⟨ρ', T, g⟩ := frz_same k1 hd s3 H
  have hx := (t.obj k2).1
  obtain ⟨cc', y', r1, r2, r3⟩ := T.rel.objs _ _ hx
  have e1 := T.ext.loc _ _ g1
  rw [r1] at e1; cases e1
  rw [g2] at r2; cases r2
  obtain ⟨us', fr', hy, p1, p2, p3⟩ := r3
  cases hy
  obtain ⟨fp1, m0, m1⟩ := t.sat k2
  obtain ⟨z1, z2, z3⟩ := sat_set (x' := .row e s false (cs.set i v')) m0 k3
  have T2 : Trans ρ' h' w ρ' (h'.set o (.row e s false (cs.set i v'))) w := Trans.ofSet T.rel hx rfl r1 g2 ⟨us, fr, rfl, by rw [List.length_set]; exact p1, fun j b hb => by
    by_cases hj : j = i
    · subst hj
      have hlt : j < cs.length := (List.getElem?_eq_some_iff.mp hi).1
      rw [List.getElem?_set_self hlt] at hb
      cases hb
      exact ⟨hsc, u, s2, g⟩
    · rw [List.getElem?_set_ne (Ne.symm hj)] at hb
      exact p2 j b hb, by rw [List.length_set]; exact p3⟩ rfl (fun _ _ => rfl) rfl rfl
  refine wp_mono (h e' _ fp1 h1 z1 z2 ρ' w a (VRL.mono T.ext _ _ he) T2.rel) ?_
  rintro ex a' w' ⟨x, rfl, ρ2, e2, h2', fp2, E2, HF2, b1, b2, b3, b4, b5, b6, b7, b8⟩
  exact ⟨x, rfl, ρ2, e2, h2', fp2, E2, HF2, b1, b2, (T.trans T2).trans b3, b4, b5, b6, (k4.trans (z3.left m1)).trans b7, b8⟩
end
end Go.Proofs.YtonojkcnencodaaDoor.BH
namespace Go.Proofs.YtonojkcnencodaaDoor.BH
open Go
section
variable {C : Ctx} {n d : Nat} {all r : List Oper} {E : Fs} {HF : List HI}
theorem w_lazy {Q : Fs → List HI → Prop} {o : Oper} {v : AV} (hp : LazyF C n all E o v) (hd0 : o.dst = some d) (hd : Nat.blt d n = true) (hg : o.guard = none) (hk2 : opKind C.P o.op ≠ 0) (hk : WS C n all r ((d, v) :: E) HF Q) : WS C n all (o :: r) E HF Q :=
  ws_opX hg hk2 fun e h fp h1 h2 h3 ρ w a ea he hse H => by
    refine .of (ExecOk.mono (hp.run h1 ρ h w a ea h3 he hse.1 H) ?_)
    rintro u w' ⟨ρ', h', g1, g2, g3, g4⟩
    refine ⟨v, ρ', h', fp, _, HF, g1, g2, ?_, h2.frame fun o ho => g4 o (h2.lt h3 o ho), g3, ⟨fun x _ hx => g4 x hx, g2.next, fun x hx => .inl hx⟩, hk⟩
    rw [hd0]; exact h1.put d v hd
end
end Go.Proofs.YtonojkcnencodaaDoor.BH
