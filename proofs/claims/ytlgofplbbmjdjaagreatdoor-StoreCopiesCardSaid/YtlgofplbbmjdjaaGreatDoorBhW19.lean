/-
  slices.Insert of one element into a slice of our own: where there is room (told by a walk of the world), and where there is none (told by a call).
-/
import Derived.Test.YtlgofplbbmjdjaaGreatDoorBhW18
import Derived.Laws.IdiomCopy
namespace Go.Proofs.YtlgofplbbmjdjaaGreatDoor.BH
open Go Go.RowKit
set_option maxRecDepth 10000
/-- copy of elements of any size. -/
theorem run_copy_k {P : Program} (w : World) (dT sT ty elem : TypeId) (s b o dLen dCap : Nat) (a : Addr) (sLen sCap : Nat) (cs : List Value)
    (hu : P.underlying dT = some (.slice elem)) (hs : (P.info? elem).map (·.size) = some s) (hn : cs.length = Nat.min sLen dLen * s)
    (hsrc : ∀ j v, cs[j]? = some v → w.cell? (a.add j) = some v) (hc : ∀ j, j < cs.length → (w.cell? ⟨b, o + j, none⟩).isSome = true) (hf : ∀ j, j < cs.length → w.frozen? ⟨b, o + j, none⟩ = false) (h1 : ∀ v ∈ cs, v.oneCell' = true) :
    (Builtin.copy_ #[dT, sT] ty #[.slice (some ⟨b, o, none⟩) dLen dCap, .slice (some a) sLen sCap]).run P w = .ok (goInt (Nat.min sLen dLen : Nat)) (w.setCells b o cs) := by
  have hl := run_loadCells_list (P := P) w a cs hsrc
  have hst := run_storeCells_cells (P := P) b o cs 0 w (by simpa using hc) (by simpa using hf) h1
  cases hq : P.info? elem with
  | none => simp [hq] at hs
  | some i =>
    have hi : i.size = s := by simpa [hq] using hs
    simp [Builtin.copy_, run_underlying hu, Builtin.lenOf, Builtin.firstCells, sizeOf, typeInfo, hq, hi, ← hn, hl, hst]
theorem heap_setCells (b : Nat) : ∀ (vs : List Value) (o : Nat) (w : World) (cs : Array Value) (e : TypeId) (fr : Nat × Nat), w.heap[b]? = some (.cells cs e fr) →
    ∃ cs', (w.setCells b o vs).heap[b]? = some (.cells cs' e fr) ∧ cs'.size = cs.size ∧ (∀ k : Nat, k < cs.size → cs'[k]? = if o ≤ k ∧ k < o + vs.length then vs[k - o]? else cs[k]?) ∧
      (w.setCells b o vs).heap.size = w.heap.size ∧ (∀ d, d ≠ b → (w.setCells b o vs).heap[d]? = w.heap[d]?) ∧ (w.setCells b o vs).output = w.output ∧ (w.setCells b o vs).os = w.os
  | [], o, w, cs, e, fr, h => ⟨cs, h, rfl, fun k _ => by rw [if_neg (by rw [List.length_nil]; omega)], rfl, fun _ _ => rfl, rfl, rfl⟩
  | v :: r, o, w, cs, e, fr, h => by
    have h1 : (w.setCell ⟨b, o, none⟩ v).heap[b]? = some (.cells (cs.setIfInBounds o v) e fr) := by
      unfold World.setCell
      simp only [Array.getElem?_modify, if_true, h, Option.map_some]
      rfl
    obtain ⟨cs', g1, g2, g3, g4, g5, g6, g7⟩ := heap_setCells b r (o + 1) (w.setCell ⟨b, o, none⟩ v) _ e fr h1
    rw [Array.size_setIfInBounds] at g2
    refine ⟨cs', g1, g2, fun k hk => ?_, ?_, fun d hd => ?_, g6, g7⟩
    · rw [g3 k (by rw [Array.size_setIfInBounds]; exact hk), Array.getElem?_setIfInBounds]
      by_cases h0 : o = k
      · subst h0
        rw [if_neg (by omega), if_pos rfl, if_pos hk, if_pos (by simp)]; simp
      · by_cases h2 : o + 1 ≤ k ∧ k < o + 1 + r.length
        · rw [if_pos h2, if_pos (by simp; omega), show k - o = (k - (o + 1)) + 1 by omega]; simp
        · rw [if_neg h2, if_neg h0, if_neg (by simp; omega)]
    · rw [World.setCells, g4]; unfold World.setCell; simp
    · rw [World.setCells, g5 d hd]; unfold World.setCell
      simp only [Array.getElem?_modify]
      rw [if_neg (Ne.symm hd)]
/-- The concrete cells of a row. -/
theorem row_vals {ρ : Rho} {w : World} {c : CLoc} {e s : Nat} {cells : List AV} {y : Obj} (hy : w.heap[c.blk]? = some y) (hr : ORel ρ c (.row e s false cells) y) :
    ∃ (cs : Array Value) (fr : Nat × Nat) (vs : List Value), y = .cells cs e fr ∧ VRL ρ cells vs ∧ cells.all AV.scalar = true ∧ (∀ (j : Nat) (v : Value), vs[j]? = some v → cs[c.base + j]? = some v) := by
  obtain ⟨cs, fr, rfl, q1, q2, q3⟩ := hr
  refine ⟨cs, fr, (cs.toList.drop c.base).take cells.length, rfl, ?_, ?_, fun j v hj => ?_⟩
  · have key : ∀ (l : List AV) (i : Nat), (∀ (j : Nat) (a : AV), l[j]? = some a → ∃ v, cs[i + j]? = some v ∧ VR ρ a v) → VRL ρ l ((cs.toList.drop i).take l.length) := by
      intro l
      induction l with
      | nil => intro i _; simp only [VRL]; simp
      | cons a r ih =>
        intro i h
        obtain ⟨v, h1, h2⟩ := h 0 a rfl
        have hlt : i < cs.toList.length := by
          rw [Array.length_toList]; exact (Array.getElem?_eq_some_iff.mp h1).1
        rw [List.drop_eq_getElem_cons hlt, List.length_cons, List.take_succ_cons]
        have hv : cs.toList[i] = v := by
          have := (Array.getElem?_eq_some_iff.mp h1).2
          simpa using this
        rw [hv]
        exact VRL.cons h2 (ih (i + 1) fun j b hb => by
          obtain ⟨u, z1, z2⟩ := h (j + 1) b (by simpa using hb)
          exact ⟨u, by rw [← z1]; congr 1; omega, z2⟩)
    exact key cells c.base fun j a ha => let ⟨_, v, h1, h2⟩ := q2 j a ha; ⟨v, h1, h2⟩
  · rw [List.all_eq_true]
    intro a ha
    obtain ⟨j, hj⟩ := List.getElem?_of_mem ha
    exact (q2 j a hj).1
  · rw [List.getElem?_take] at hj
    split at hj
    · rw [List.getElem?_drop, Array.getElem?_toList] at hj; exact hj
    · cases hj
theorem ones {ρ : Rho} {l : List AV} {m : List Value} (h : VRL ρ l m) (hs : l.all AV.scalar = true) : ∀ v ∈ m, v.oneCell' = true := by
  intro v hv
  obtain ⟨i, hi⟩ := List.getElem?_of_mem hv
  have hi' : i < l.length := by rw [← h.length]; exact (List.getElem?_eq_some_iff.mp hi).1
  obtain ⟨u, h1, h2⟩ := h.get (List.getElem?_eq_getElem hi')
  rw [hi] at h1; cases h1
  exact h2.oneCell (List.all_eq_true.mp hs _ (List.getElem_mem hi'))

theorem insert_cw {C : Ctx} {f : FuncId} {fn : Func} {cd : Code} (hf : C.P.funcs[f]? = some fn) (hn : (fn.name == "runtime.NumGoroutine") = false) (hb : fn.body = some cd) {k e : Nat} (hk1 : k ≠ 1) (hk0 : 0 < k)
    (hshift : ∀ (b off m c i vb voff vc : Nat) (cs vs : List Value) (w : World), i < m → m + 1 ≤ c → m ≤ 1000000 → vb ≠ b → cs.length = m * k → vs.length = k →
      (∀ j v, cs[j]? = some v → w.cell? ⟨b, off + j, none⟩ = some v) → (∀ j, j < (m + 1) * k → (w.cell? ⟨b, off + j, none⟩).isSome = true) → (∀ j, j < (m + 1) * k → w.frozen? ⟨b, off + j, none⟩ = false) →
      (∀ j v, vs[j]? = some v → w.cell? ⟨vb, voff + j, none⟩ = some v) → (∀ v ∈ cs, v.oneCell' = true) → (∀ v ∈ vs, v.oneCell' = true) →
      ∀ tA tB kA kB, w.shape? vb = some (tA, kA) → w.shape? b = some (tB, kB) → kB ≠ 0 → w.frozen? ⟨vb, voff, none⟩ = false → w.frozen? ⟨vb, kA, none⟩ = false →
      Calls C.P f #[.slice (some ⟨b, off, none⟩) m c, .int .i64 i, .slice (some ⟨vb, voff, none⟩) 1 vc] w fun ex w' => ex = .returned (.slice (some ⟨b, off, none⟩) (m + 1) c) ∧ w' = (w.drew.setCells b (off + (i + 1) * k) (cs.drop (i * k))).setCells b (off + i * k) vs)
    {o ov m i : Nat} {cells vcells : List AV} {R : List HI} (hi : i < m) (hm : m ≤ 1000000) (hcl : cells.length = m * k) (hvl : vcells.length = k)
    (hgrow : ∀ c, m ≤ c → c < m + 1 → CallW C f [.slice (some ⟨o, 0⟩) m (.exact c), .int .i64 i, .slice (some ⟨ov, 0⟩) 1 (.exact 1)] (.obj o (.row e k false cells) :: .obj ov (.row e k false vcells) :: R) fun v H => H = .own v e k (cells.take (i * k) ++ vcells ++ cells.drop (i * k)) (m + 1) :: R) :
    CallW C f [.slice (some ⟨o, 0⟩) m (.op 0), .int .i64 i, .slice (some ⟨ov, 0⟩) 1 (.exact 1)] (.obj o (.row e k false cells) :: .obj ov (.row e k false vcells) :: R) fun v H => H = .own v e k (cells.take (i * k) ++ vcells ++ cells.drop (i * k)) (m + 1) :: R := by
  intro h fp s1 s2 ρ w us hv H
  have hvv := hv
  simp only [VRL, VR] at hvv
  obtain ⟨u1, l1, e1, ⟨c, ad, c1, rfl, c2, c3⟩, u2, l2, rfl, rfl, u3, l3, rfl, ⟨cv, av, d1, rfl, d2, d3⟩, rfl⟩ := hvv
  have hx : h.get o = some (.row e k false cells) := ((Take.head).obj s1).1
  have hxv : h.get ov = some (.row e k false vcells) := ((Take.tail .head).obj s1).1
  by_cases hroom : m + 1 ≤ ACap.val c (.op 0)
  · obtain ⟨c', y, g1, g2, g3⟩ := H.objs _ _ hx
    rw [c1] at g1; cases g1
    obtain ⟨cv', yv, p1, p2, p3⟩ := H.objs _ _ hxv
    rw [d1] at p1; cases p1
    have hcap : ACap.val c (.op 0) = c.cap := by show c.cap - 0 = c.cap; omega
    rw [hcap] at hroom
    have e2 : us = #[.slice (some ⟨c.blk, c.base, none⟩) m c.cap, .int .i64 i, .slice (some ⟨cv.blk, cv.base, none⟩) 1 1] := by
      apply Array.ext'
      rw [e1, c3 (by rw [hcap]; omega), d3 (by show (1 : Nat) ≠ 0; decide), hcap]
      simp [CLoc.at, ACap.val]
    have hne : cv.blk ≠ c.blk := fun hh => by
      rcases H.inj o ov _ _ c cv hx hxv c1 d1 hh.symm with hoo | ⟨hf1, _⟩
      · obtain ⟨fp', rfl, _, hno, fp'', rfl, _⟩ := s1
        exact hno (by rw [hoo]; exact List.mem_cons_self)
      · cases hf1
    obtain ⟨cs, fr, vs, rfl, v1, v2, v3⟩ := row_vals g2 g3
    obtain ⟨csv, frv, vsv, rfl, z1, z2, z3⟩ := row_vals p2 p3
    obtain ⟨cs0, fr0, ee, q1, q2, q3, q4, q5, q6⟩ := g3
    cases ee
    obtain ⟨cs0v, fr0v, ee, r1, r2, r3, r4, r5, r6⟩ := p3
    cases ee
    have hlv : vs.length = m * k := by rw [v1.length, hcl]
    have hlvv : vsv.length = k := by rw [z1.length, hvl]
    have hsz : c.base + (m + 1) * k ≤ cs.size := by have := Nat.mul_le_mul_right k hroom; omega
    have hcell : ∀ j, j < cs.size → w.cell? ⟨c.blk, j, none⟩ = cs[j]? := fun j _ => by unfold World.cell?; rw [g2]; rfl
    have hcellv : ∀ j, w.cell? ⟨cv.blk, j, none⟩ = csv[j]? := fun j => by unfold World.cell?; rw [p2]; rfl
    have hfr : ∀ j, j < cs.size → w.frozen? ⟨c.blk, j, none⟩ = false := fun j hj => by
      unfold World.frozen?; rw [g2]
      have := q5 rfl j hj
      simp only [Bool.and_eq_false_iff, decide_eq_false_iff_not]; omega
    have hvsz : 0 < csv.size := by omega
    have hfrv : ∀ j, j ≤ csv.size → w.frozen? ⟨cv.blk, j, none⟩ = false := fun j hj => by
      unfold World.frozen?; rw [p2]
      rcases Nat.lt_or_ge j csv.size with hl | hl
      · have := r5 rfl j hl
        simp only [Bool.and_eq_false_iff, decide_eq_false_iff_not]; omega
      · obtain rfl : j = csv.size := by omega
        have := r6 hk1
        simp only [Bool.and_eq_false_iff, decide_eq_false_iff_not]; omega
    have hmk : m * k + k = (m + 1) * k := by rw [Nat.add_mul]; omega
    have hik : i * k + k ≤ m * k := by
      have := Nat.mul_le_mul_right k (show i + 1 ≤ m by omega)
      rw [Nat.add_mul] at this; omega
    have hi1 : (i + 1) * k = i * k + k := by rw [Nat.add_mul]; omega
    have main := hshift c.blk c.base m c.cap i cv.blk cv.base 1 vs vsv w hi hroom hm hne hlv hlvv
      (fun j v hj => by
        have hj' : j < m * k := by rw [← hlv]; exact (List.getElem?_eq_some_iff.mp hj).1
        rw [hcell _ (by omega)]; exact v3 j v hj)
      (fun j hj => by rw [hcell _ (by omega), Array.getElem?_eq_getElem (by omega)]; rfl)
      (fun j hj => hfr _ (by omega))
      (fun j v hj => by rw [hcellv]; exact z3 j v hj) (ones v1 v2) (ones z1 z2) e e csv.size cs.size
      (by unfold World.shape?; rw [p2]) (by unfold World.shape?; rw [g2]) (by omega) (hfrv _ (by omega)) (hfrv _ (Nat.le_refl _))
    have hname : ¬ fn.name = "runtime.NumGoroutine" := by simpa using hn
    subst e2
    refine .inl ⟨by simp [callFunc, hf, hname, hb], main.mono ?_⟩
    rintro ex w' ⟨rfl, rfl⟩
    obtain ⟨csA, a1, a2, a3, a4, a5, a6, a7⟩ := heap_setCells c.blk (vs.drop (i * k)) (c.base + (i + 1) * k) w.drew cs e fr g2
    obtain ⟨csB, b1, b2, b3, b4, b5, b6, b7⟩ := heap_setCells c.blk vsv (c.base + i * k) _ csA e fr a1
    have hval : ∀ (j : Nat) (v : Value), ((vs.take (i * k) ++ vsv) ++ vs.drop (i * k))[j]? = some v → csB[c.base + j]? = some v := by
      intro j v hj
      have hjl : j < (m + 1) * k := by
        have := (List.getElem?_eq_some_iff.mp hj).1
        simp only [List.length_append, List.length_take, List.length_drop, hlv, hlvv] at this; omega
      rw [b3 _ (by omega)]
      by_cases h1 : c.base + i * k ≤ c.base + j ∧ c.base + j < c.base + i * k + vsv.length
      · rw [if_pos h1]
        rw [List.getElem?_append_left (by simp only [List.length_append, List.length_take, hlv]; omega), List.getElem?_append_right (by simp only [List.length_take, hlv]; omega)] at hj
        rw [← hj]; congr 1; simp only [List.length_take, hlv]; omega
      · rw [if_neg h1, a3 _ (by omega)]
        by_cases h2 : c.base + (i + 1) * k ≤ c.base + j ∧ c.base + j < c.base + (i + 1) * k + (vs.drop (i * k)).length
        · rw [if_pos h2]
          rw [List.getElem?_append_right (by simp only [List.length_append, List.length_take, hlv, hlvv]; omega)] at hj
          rw [← hj]; congr 1; simp only [List.length_append, List.length_take, hlv, hlvv]; omega
        · rw [if_neg h2]
          have hjk : j < i * k := by
            simp only [List.length_drop, hlv] at h2
            omega
          rw [List.getElem?_append_left (by simp only [List.length_append, List.length_take, hlv]; omega), List.getElem?_append_left (by simp only [List.length_take, hlv]; omega), List.getElem?_take, if_pos hjk] at hj
          exact v3 j v hj
    have hlen : (cells.take (i * k) ++ vcells ++ cells.drop (i * k)).length = (m + 1) * k := by
      simp only [List.length_append, List.length_take, List.length_drop, hcl, hvl]; omega
    have hVRL : VRL ρ (cells.take (i * k) ++ vcells ++ cells.drop (i * k)) (vs.take (i * k) ++ vsv ++ vs.drop (i * k)) := VRL.append (VRL.append (v1.take _) z1) (v1.drop _)
    have hsc : (cells.take (i * k) ++ vcells ++ cells.drop (i * k)).all AV.scalar = true := by
      rw [List.all_eq_true] at v2 z2 ⊢
      intro a ha
      rcases List.mem_append.mp ha with ha | ha
      · rcases List.mem_append.mp ha with ha | ha
        · exact v2 a (List.mem_of_mem_take ha)
        · exact z2 a ha
      · exact v2 a (List.mem_of_mem_drop ha)
    have T : Trans ρ h w ρ (h.set o (.row e k false (cells.take (i * k) ++ vcells ++ cells.drop (i * k)))) ((w.drew.setCells c.blk (c.base + (i + 1) * k) (vs.drop (i * k))).setCells c.blk (c.base + i * k) vsv) :=
      Trans.ofSet (y' := .cells csB e fr) H hx rfl c1 b1 ⟨csB, fr, rfl, by rw [hlen, b2, a2]; exact hsz, fun j a ha => by
        refine ⟨List.all_eq_true.mp hsc _ (List.mem_of_getElem? ha), ?_⟩
        obtain ⟨u, k1, k2⟩ := hVRL.get ha
        exact ⟨u, hval j u k1, k2⟩, by rw [hlen]; exact Nat.mul_le_mul_right _ hroom, by rw [b2, a2]; exact q4, fun _ j hj => q5 rfl j (by rw [b2, a2] at hj; exact hj), fun h1 => by rw [b2, a2]; exact q6 h1⟩
        (b4.trans a4) (fun d hd => (b5 d hd).trans (a5 d hd)) (b6.trans a6) (b7.trans a7)
    obtain ⟨m1, m2, m3⟩ := sat_set (x' := .row e k false (cells.take (i * k) ++ vcells ++ cells.drop (i * k))) s1 s2
    have m4 : SatH (.obj o (.row e k false (cells.take (i * k) ++ vcells ++ cells.drop (i * k))) :: R) (o :: (fp.drop 2)) (h.set o (.row e k false (cells.take (i * k) ++ vcells ++ cells.drop (i * k)))) ∧ ∀ p ∈ o :: fp.drop 2, p ∈ fp := by
      obtain ⟨fp', rfl, t1, t2, fp'', rfl, t3, t4, t5⟩ := m1
      exact ⟨⟨fp'', rfl, t1, fun hh => t2 (List.mem_cons_of_mem _ hh), t5⟩, fun p hp => by
        rcases List.mem_cons.mp hp with rfl | hp
        · exact List.mem_cons_self
        · exact List.mem_cons_of_mem _ (List.mem_cons_of_mem _ hp)⟩
    obtain ⟨fp3, n1, n2⟩ := weak_close (m := m + 1) hlen _ _ m4.1
    refine ⟨_, rfl, .slice (some ⟨o, 0⟩) (m + 1) (.op 0), ρ, _, fp3, _, ?_, T, n1, m2, m3.less (fun p hp => m4.2 p (n2 p hp)), rfl⟩
    simp only [VR]
    exact ⟨c, _, c1, by rw [hcap], by rw [hcap]; exact hroom, fun _ => by simp [CLoc.at]⟩
  · have hg := hgrow (ACap.val c (.op 0)) c2 (by omega)
    refine hg h fp s1 s2 ρ w us ?_ H
    simp only [VRL, VR]
    exact ⟨_, _, e1, ⟨c, ad, c1, rfl, c2, c3⟩, _, _, rfl, rfl, _, _, rfl, ⟨cv, av, d1, rfl, d2, d3⟩, rfl⟩
end Go.Proofs.YtlgofplbbmjdjaaGreatDoor.BH
namespace Go.Proofs.YtlgofplbbmjdjaaGreatDoor.BH
open Go
noncomputable section
section
variable {C : Ctx} {n d : Nat} {all r : List Oper} {ty : TypeId} {pos : String} {after : Array Edge} {E : Fs} {HF HR : List HI} {Q : Fs → List HI → Prop}
/-- append(s, make(..)..) where s has no room: a new row. -/
theorem w_appXZ {t e k b m t' o p c : Nat} {j : Nat} {ts : List TypeId} {x y : Operand} {e' s' : Nat} {fz : Bool} {z cells old : List AV} {tys : Array TypeId} (htys : tys.toList = t :: t' :: ts) (hu : undOf C.P t = some (.slice e)) (hz : szOf C.P e = some (k + 1)) (hb : bytesOf C.P e = some b) (hzc : zeroCells C.P e = some z)
    (hu' : undOf C.P t' = some (.int .i64)) (hd : Nat.blt d n = true) (hx : ev E x = some (.slice (some ⟨o, p⟩) m (.exact c))) (hy : ev E y = some (.int .i64 (j : Nat))) (ht : Take HF (.obj o (.row e' s' fz cells)) HR) (hold : slots cells p (m * (k + 1)) = some old) (hj : 0 < j) (hc : c < m + j)
    (h0 : j * b ≤ bigBy) (h01 : j ≤ bigBy) (h1 : (m + j) * b ≤ bigBy) (h2 : m + j ≤ bigBy)
    (hk : ∀ o', WS C n all r ((d, .slice (some ⟨o', 0⟩) (m + j) (.op 0)) :: E) (.obj o' (.row e (k + 1) false (old ++ repl j z)) :: HF) Q) : WS C n all (⟨some d, .call ⟨.builtin .append, #[x, y], tys⟩, ty, pos, after, none⟩ :: r) E HF Q :=
  ws_stepX rfl fun ee h fp hs hh hw => by
    obtain ⟨k1, k2⟩ := sat_push hh hw (.row e (k + 1) false (old ++ repl j z))
    refine ⟨.slice (some ⟨h.next, 0⟩) (m + j) (.op 0), _, _, _, _, ⟨0, fun q _ => ?_⟩, hs.put d _ hd, k1, hw.push _, k2, hk h.next⟩
    show (bnd (opvs ee [x, y]) fun l => (built2 (appendF C.P tys.toList)).run h l) = _
    rw [show opvs ee [x, y] = some [.slice (some ⟨o, p⟩) m (.exact c), .int .i64 (j : Nat)] from evs_opvs hs (by show (bnd (ev E x) fun a => bnd (bnd (ev E y) fun b => bnd (some []) fun l => some (b :: l)) fun l => some (a :: l)) = _; rw [hx, hy]; rfl)]
    show (appendF C.P tys.toList).run h _ _ = _
    rw [htys, app_run hu hz hb hzc (m := j) (new := repl j z) (by
      unfold newF
      simp only [List.head?_cons, hu', hzc]
      show cnd (Nat.ble (j * b) bigBy && Nat.ble j bigBy) (some (j, repl j z)) none = _
      rw [(bleN _ _).mpr h0, (bleN _ _).mpr h01]; rfl) rfl]
    have hnj : Nat.beq j 0 = false := by rw [← Bool.not_eq_true, beqN]; omega
    show cnd (Nat.beq j 0) _ (appendExact e (k + 1) b h ⟨o, p⟩ m c j (repl j z)) = _
    rw [hnj, cnd_false]
    unfold appendExact
    rw [show Nat.ble (m + j) c = false by rw [← Bool.not_eq_true, bleN]; omega, cnd_false]
    have hfv : firstV h (k + 1) m (.slice (some ⟨o, p⟩) m (.exact c)) = some old := by
      show cnd (Nat.beq m 0) (some []) (bnd (some (⟨o, p⟩ : ALoc)) fun a => readRow h a (m * (k + 1))) = _
      rw [cnd_eq]
      split
      · rename_i hm
        rw [beqN] at hm; subst hm
        obtain ⟨_, g⟩ := slots_eq_some hold
        rw [g]; simp
      · rw [bnd_some]
        unfold readRow
        rw [rowAt_of (ht.obj hh).1, bnd_some]; exact hold
    rw [hfv, bnd_some]
    unfold growNew
    rw [(bleN _ _).mpr h1, (bleN _ _).mpr h2, app_eq]; rfl
theorem new_at {size o p k e s : Nat} {f : Bool} {c : ACap} {cs new : List AV} (t : Take HF (.obj o (.row e s f cs)) HR) (hn : slots cs p (k * size) = some new) (hs : cs.all AV.scalar = true) (h0 : 0 < size) : NewR size HF (.slice (some ⟨o, p⟩) k c) k new := by
  intro h fp h2 _
  obtain ⟨g1, g2⟩ := slots_eq_some hn
  have hl : new.length = k * size := by
    rw [g2, List.length_take, List.length_drop]
    rcases g1 with g1 | g1 <;> omega
  refine ⟨?_, hl, ?_⟩
  · show (bnd (cnd (Nat.beq k 0) (some []) (bnd (rowAt h o) fun r => slots r.cells p (k * size))) fun c => some (k, c)) = _
    rw [cnd_eq]
    split
    · rename_i hk
      rw [beqN] at hk; subst hk
      have : new = [] := List.length_eq_zero_iff.mp (by omega)
      rw [this]; rfl
    · rw [rowAt_of (t.obj h2).1, bnd_some, hn]; rfl
  · rw [List.all_eq_true] at hs ⊢
    intro v hv
    rw [g2] at hv
    exact hs v (List.mem_of_mem_drop (List.mem_of_mem_take hv))
theorem slice_ex0 {P : Program} {t e s o m c j : Nat} {hi : Option AV} (hu : undOf P t = some (.slice e)) (hz : szOf P e = some (s + 1)) (hh : natOr m hi = some j) (h2 : j ≤ c) (h : AHeap) :
    (sliceF P t).run h (.slice (some ⟨o, 0⟩) m (.exact c)) none hi none = some (.slice (some ⟨o, 0⟩) j (.exact c)) := by
  have := slice_ex (lo := none) (p := 0) (o := o) hu hz (i := 0) rfl hh (Nat.zero_le _) h2 h
  simpa using this
theorem slots_ok {cs : List AV} {o k : Nat} (h : o + k ≤ cs.length) : slots cs o k = some ((cs.drop o).take k) := slots_of h
@[reducible] def putF (dst : Option Tmp) (v : AV) (E : Fs) : Fs := match dst with
  | some q => (q, v) :: E
  | none => E
/-- copy into a part of a row. -/
theorem w_copyAt {t e e' s m k o p : Nat} {ts : List TypeId} {x y : Operand} {c : ACap} {cells new cells' : List AV} {a : AV} {dst : Option Tmp} {tys : Array TypeId} (htys : tys.toList = t :: ts) (hu : undOf C.P t = some (.slice e)) (hz : szOf C.P e = some s)
    (hd : ∀ q, dst = some q → Nat.blt q n = true) (hx : ev E x = some (.slice (some ⟨o, p⟩) m c)) (hy : ev E y = some a) (ht : Take HF (.obj o (.row e' s false cells)) HR) (hn : NewR s HF a k new) (h0s : 0 < s)
    (hc : over cells p (new.take (min k m * s)) = some cells')
    (hk : WS C n all r (putF dst (.int .i64 (min k m : Nat)) E) (.obj o (.row e' s false cells') :: HR) Q) : WS C n all (⟨dst, .call ⟨.builtin .copy, #[x, y], tys⟩, ty, pos, after, none⟩ :: r) E HF Q :=
  ws_stepX rfl fun ee h fp hs hh hw => by
    obtain ⟨n1, n2, n3⟩ := hn h fp hh hw
    obtain ⟨fp1, k1, k2⟩ := ht.sat hh
    have hrow := rowAt_of (ht.obj hh).1
    have hlen : lenV a = some k := by
      obtain ⟨q, h1, h2⟩ := bnd_eq_some.mp n1
      obtain ⟨q2, h3, h4⟩ := bnd_eq_some.mp h2
      cases h4; exact h1
    have hfst : firstV h s k a = some new := by
      obtain ⟨q, h1, h2⟩ := bnd_eq_some.mp n1
      obtain ⟨q2, h3, h4⟩ := bnd_eq_some.mp h2
      cases h4; exact h3
    have run : ∀ v h', copyV s h (.slice (some ⟨o, p⟩) m c) a = some (v, h') → ∀ q, 0 ≤ q → (operTF C.P (.call ⟨.builtin .copy, #[x, y], tys⟩)).run (callX C.P (regionF C.P) C.cfg q) ee h = some (v, h') := by
      intro v h' hv q _
      show (bnd (opvs ee [x, y]) fun l => (built2 (copyF C.P tys.toList)).run h l) = _
      rw [show opvs ee [x, y] = some [.slice (some ⟨o, p⟩) m c, a] from evs_opvs hs (by show (bnd (ev E x) fun a => bnd (bnd (ev E y) fun b => bnd (some []) fun l => some (b :: l)) fun l => some (a :: l)) = _; rw [hx, hy]; rfl)]
      show (copyF C.P tys.toList).run h (.slice (some ⟨o, p⟩) m c) a = _
      rw [htys]
      unfold copyF; simp only [hu, hz]
      exact hv
    have hput : ∀ v, v = AV.int .i64 (min k m : Nat) → Sat n (putF dst (.int .i64 (min k m : Nat)) E) (putD ee dst v) := by
      rintro v rfl
      cases dst with
      | none => exact hs
      | some q => exact hs.put q _ (hd q rfl)
    by_cases h0 : min k m = 0
    · have e1 : cells' = cells := by
        rw [h0, Nat.zero_mul, List.take_zero, over_none] at hc
        cases hc; rfl
      subst e1
      refine ⟨.int .i64 (min k m : Nat), h, fp1, _, _, ⟨0, fun q hq => run _ h ?_ q hq⟩, hput _ rfl, k1, hw, (Frame.refl _ _).left k2, hk⟩
      unfold copyV
      show (bnd (lenV a) fun n => _) = _
      rw [hlen, bnd_some]
      show cnd (Nat.beq (min k m) 0) _ _ = _
      rw [h0]; rfl
    · have e0 : Nat.beq (min k m) 0 = false := by rw [← Bool.not_eq_true, beqN]; exact h0
      obtain ⟨g1, g2, g3⟩ := sat_set (x' := .row e' s false cells') k1 hw
      have ef : firstV h s (min k m) a = some (new.take (min k m * s)) := by
        have hmk : min k m ≤ k := Nat.min_le_left _ _
        cases a with
        | slice ao q c' =>
          replace hfst : cnd (Nat.beq k 0) (some []) (bnd ao fun a => readRow h a (k * s)) = some new := hfst
          rw [show Nat.beq k 0 = false by rw [← Bool.not_eq_true, beqN]; omega, cnd_false] at hfst
          obtain ⟨a2, q1, q2⟩ := bnd_eq_some.mp hfst
          obtain ⟨r2, q3, q4⟩ := bnd_eq_some.mp q2
          show cnd (Nat.beq (min k m) 0) (some []) (bnd ao fun a => readRow h a (min k m * s)) = _
          rw [e0, cnd_false, q1, bnd_some]
          show (bnd (rowAt h a2.obj) fun r => slots r.cells a2.off (min k m * s)) = _
          rw [q3, bnd_some]
          obtain ⟨z1, z2⟩ := slots_eq_some q4
          have hpos : 0 < k * s := Nat.mul_pos (by omega) h0s
          rw [slots_of (by have := Nat.mul_le_mul_right s hmk; omega), z2, List.take_take, Nat.min_eq_left (Nat.mul_le_mul_right s hmk)]
        | str b =>
          replace hfst : cnd (Nat.beq s 1) (some (byteCells (takeB b k))) none = some new := hfst
          cases es : Nat.beq s 1 with
          | false => rw [es] at hfst; cases hfst
          | true =>
            rw [es] at hfst; cases hfst
            rw [beqN] at es; subst es
            show some (byteCells (takeB b (min k m))) = _
            rw [takeB_eq, takeB_eq, Nat.mul_one]
            congr 1
            have bt : ∀ (l : List UInt8) (i : Nat), (byteCells l).take i = byteCells (l.take i) := by
              intro l
              induction l with
              | nil => intro i; simp [byteCells, lrec]
              | cons u r ih => intro i; cases i with
                | zero => rfl
                | succ i => rw [byteCells_cons, List.take_succ_cons, ih, List.take_succ_cons, byteCells_cons]
            rw [bt, List.take_take, Nat.min_eq_left hmk]
        | lst cs q f pp =>
          replace hfst : slots cs 0 (k * s) = some new := hfst
          show slots cs 0 (min k m * s) = _
          obtain ⟨z1, z2⟩ := slots_eq_some hfst
          have hpos : 0 < k * s := Nat.mul_pos (by omega) h0s
          rw [slots_of (by have := Nat.mul_le_mul_right s hmk; omega), z2, List.take_take, Nat.min_eq_left (Nat.mul_le_mul_right s hmk)]
        | _ => cases hfst
      refine ⟨.int .i64 (min k m : Nat), h.set o (.row e' s false cells'), fp1, _, _, ⟨0, fun q hq => run _ _ ?_ q hq⟩, hput _ rfl, g1, g2, g3.left k2, hk⟩
      unfold copyV
      show (bnd (lenV a) fun n => _) = _
      rw [hlen, bnd_some]
      show cnd (Nat.beq (min k m) 0) _ (bnd (some (⟨o, p⟩ : ALoc)) fun a2 => bnd (firstV h s (min k m) a) fun cs => bnd (writeRow h a2 cs) fun h' => some (AV.int .i64 (.ofNat (min k m)), h')) = _
      rw [e0, cnd_false, bnd_some, ef, bnd_some]
      unfold writeRow
      rw [hrow]
      have hsc : (new.take (min k m * s)).all AV.scalar = true := by
        rw [List.all_eq_true] at n3 ⊢
        exact fun v hv => n3 v (List.mem_of_mem_take hv)
      simp only [cnd_true, bnd_some, cnd_false, allA_eq, hsc, hc]
      rfl
theorem shr_half {P : Program} {t : TypeId} {lit : Bool} {k : IntKind} {i j : Nat} (hu : undOf P t = some (.int .u64)) (h : i + j ≤ 1000000000) : (binF P .shr t lit).run (.int .u64 (IntKind.u64.wrap ((i : Int) + (j : Int)))) (.int k 1) = some (.int .u64 (((i + j) / 2 : Nat) : Int)) := by
  have hw : IntKind.u64.wrap ((i : Int) + (j : Int)) = ((i + j : Nat) : Int) := by
    simp only [IntKind.wrap, IntKind.bits, IntKind.signed]
    simp
    omega
  unfold binF
  simp only [hu]
  rw [hw]
  show (bnd (natI 1) fun n => some (AV.int .u64 (Int.fdiv ((i + j : Nat) : Int) (2 ^ Nat.min n 64)))) = _
  show some (AV.int .u64 (Int.fdiv ((i + j : Nat) : Int) (2 ^ 1))) = _
  congr 2
  simp [Int.fdiv_eq_ediv_of_nonneg]
theorem wrap_half {n : Nat} (h : n ≤ 1000000000) : IntKind.i64.wrap ((n / 2 : Nat) : Int) = ((n / 2 : Nat) : Int) := by
  simp only [IntKind.wrap, IntKind.bits, IntKind.signed]
  simp
  omega
/-- A part of what is our own, looked at by nobody: whatever it is. -/
theorem w_sliceAny {t e s m i : Nat} {x : Operand} {lo : Option Operand} {lo' : Operand} {v lv : AV} {cells : List AV} (hu : undOf C.P t = some (.slice e)) (hz : szOf C.P e = some (s + 1)) (hd : Nat.blt d n = true) (hx : ev E x = some v) (hlo : lo = some lo') (hl : ev E lo' = some lv) (hi : natOr 0 (some lv) = some i) (him : i ≤ m)
    (ht : Take HF (.own v e (s + 1) cells m) HR) (hk : ∀ v', WS C n all r ((d, v') :: E) HF Q) : WS C n all (⟨some d, .slice t x lo none none, ty, pos, after, none⟩ :: r) E HF Q := by
  subst hlo
  refine ws_stepX rfl fun ee h fp hs hh hw => ?_
  have key : ∃ v', (sliceF C.P t).run h v (some lv) none none = some v' := by
    obtain ⟨own, q1, _⟩ := ht.get hh
    rcases q1 with ⟨_, ⟨a, rfl⟩ | rfl, _, hm⟩ | ⟨o, _, rfl, _⟩
    · obtain rfl : i = 0 := by omega
      cases a with
      | none =>
        refine ⟨.slice none 0 (.exact 0), ?_⟩
        unfold sliceF; simp only [hu, hz]
        show (bnd (cut (some lv) none none 0 0 0) fun _ => some (AV.slice none 0 (.exact 0))) = _
        rw [cut_is rfl rfl rfl hi (Nat.le_refl _) (Nat.le_refl _) (Nat.le_refl _)]; rfl
      | some a => obtain ⟨o, p⟩ := a; exact ⟨_, slice_ex hu hz hi rfl (Nat.le_refl _) (Nat.le_refl _) h⟩
    · obtain rfl : i = 0 := by omega
      refine ⟨.lst [] 0 true true, ?_⟩
      unfold sliceF; simp only [hu, hz]
      show cutLst (s + 1) [] 0 true true (some lv) none none = _
      unfold cutLst
      rw [cut_is rfl rfl rfl hi (Nat.le_refl _) (Nat.le_refl _) (Nat.le_refl _), bnd_some]
      simp only [Nat.zero_mul, Nat.sub_self]
      rfl
    · exact ⟨_, slice_op hu hz hi rfl him (Nat.le_refl _) h⟩
  obtain ⟨v', hv⟩ := key
  refine ⟨v', h, fp, _, _, ⟨0, fun q _ => ?_⟩, hs.put d _ hd, hh, hw, .refl _ _, hk v'⟩
  show (bnd (opv ee x) fun v => bnd (opvo ee (some lo')) fun l => bnd (opvo ee none) fun b => bnd (opvo ee none) fun m => bnd ((sliceF C.P t).run h v l b m) fun v => some (v, h)) = _
  rw [ev_opv hs hx]
  show (bnd (bnd (opv ee lo') fun v => some (some v)) fun l => bnd (some none) fun b => bnd (some none) fun m => bnd ((sliceF C.P t).run h v l b m) fun v => some (v, h)) = _
  rw [ev_opv hs hl]
  simp only [bnd_some]
  rw [hv]; rfl
end
end
end Go.Proofs.YtlgofplbbmjdjaaGreatDoor.BH
