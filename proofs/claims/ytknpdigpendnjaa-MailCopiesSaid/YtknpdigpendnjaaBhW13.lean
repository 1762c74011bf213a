/-
  New memory that is written no more, told weaker than it was made.
-/
import Derived.Test.YtknpdigpendnjaaBhW12
namespace Go.Proofs.Ytknpdigpendnjaa.BH
open Go
set_option maxRecDepth 10000
section
variable {C : Ctx} {n : Nat} {E : Fs} {ty : TypeId} {pos : String} {after : Array Edge}
theorem lz_newW {l : List Oper} {op : Op} {dst : Option Tmp} {g : Option (Nat × Bool)} {m e s : Nat} {c : ACap} {cs0 cs : List AV} (hns : noSel ⟨dst, op, ty, pos, after, g⟩ = true)
    (hop : ∀ e' h call, Sat n E e' → (operTF C.P op).run call e' h = some (.slice (some ⟨h.next, 0⟩) m c, h.push (.row e s false cs0))) (hle : LeL cs0 cs) (hm : 0 < m) (hl : cs.length = m * s) (hdn : cs.all doneV = true) : LazyF C n l E ⟨dst, op, ty, pos, after, g⟩ (.lst cs m false true) := ⟨fun {es} hs ρ h w a ea hw he hlk H => by
  have hc := callX_sound (regionF_sound C.mixed) C.sums 0
  have rr := hop es h (callX C.P (regionF C.P) C.cfg 0) hs
  rw [show (operTF C.P op) = operF C.P op from noSel_oper hns, ← operF_congr op fun x hx => opv_congr fun t ht => hlk t (by
    subst ht
    unfold looks
    exact List.mem_append_left _ (List.mem_filterMap.mpr ⟨.tmp t, by simpa using hx, rfl⟩))] at rr
  refine ExecOk.mono (operF_sound hc ⟨dst, op, ty, pos, after, g⟩ ea h _ _ ρ w a rr he H) ?_
  rintro u w' ⟨ρ', g1, g2⟩
  have s0 : SatH [] [] h := rfl
  obtain ⟨k1, k2⟩ := sat_push s0 hw (.row e s false cs0)
  obtain ⟨m1, m2, m3⟩ := sat_set (x' := .row e s false cs) k1 (hw.push _)
  have hx := ((Take.head : Take [.obj h.next (.row e s false cs0)] (.obj h.next (.row e s false cs0)) []).obj k1).1
  obtain ⟨cc, y, r1, r2, r3⟩ := g2.rel.objs _ _ hx
  obtain ⟨us0, fr, rfl, q1, q2, q3⟩ := r3
  have T : Trans ρ' (h.push (.row e s false cs0)) w' ρ' ((h.push (.row e s false cs0)).set h.next (.row e s false cs)) w' := Trans.ofSet g2.rel hx rfl r1 r2 ⟨us0, fr, rfl, by rw [hle.length]; exact q1, fun i b hb => by
    obtain ⟨a0, z1, z2⟩ := hle.get hb
    obtain ⟨s1, v, s2, s3⟩ := q2 i a0 z1
    exact ⟨z2.1 s1, v, s2, z2.2 _ _ s3⟩, by rw [hle.length]; exact q3⟩ rfl (fun _ _ => rfl) rfl rfl
  obtain ⟨h'', fp'', z1, z2, z3, z4⟩ := (FrzR.objK (keep := true) (f := 11) rfl hm (c := c) .head hl hdn).run m1 m2
  obtain ⟨ρ'', T2, y⟩ := frz_same z1 rfl g1 T.rel
  refine ⟨ρ'', h'', y, (g2.trans T).trans T2, z3, fun x hx => ?_⟩
  rw [z4.keep x (by simp; omega) (by simp; omega), m3.keep x (by simp; omega) (by simp; omega)]
  rw [AHeap.get_push, if_neg (by omega)]⟩
theorem lz_buildW {l : List Oper} {dst : Option Tmp} {g : Option (Nat × Bool)} {t e s m : Nat} {ps : Array (Nat × Operand)} {q : List (Nat × AV)} {z cs0 cs : List AV} (hu : undOf C.P t = some (.slice e)) (hz : szOf C.P e = some s) (hzc : zeroCells C.P e = some z) (hle : m * s ≤ 65536)
    (hl : evp E ps.toList = some q) (hf : fillV (fun i => some (i * s, s)) (repl m z) q = some cs0) (hw : LeL cs0 cs) (hm : 0 < m) (hlen : cs.length = m * s) (hdn : cs.all doneV = true) : LazyF C n l E ⟨dst, .buildSlice t m ps, ty, pos, after, g⟩ (.lst cs m false true) :=
  lz_newW (e := e) (c := .exact m) rfl (fun e' h _ h1 => by
    show (bnd (parts e' ps.toList) fun l => (buildSliceF C.P t m).run h l) = _
    rw [evp_parts h1 hl]
    unfold buildSliceF; simp only [hu, hz, hzc, (bleN _ _).mpr hle, cnd_true, bnd_some, hf]) hw hm hlen hdn
end
end Go.Proofs.Ytknpdigpendnjaa.BH
