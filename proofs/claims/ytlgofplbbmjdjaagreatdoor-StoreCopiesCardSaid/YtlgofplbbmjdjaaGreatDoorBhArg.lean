/-
  BH: what came in, read as lists laid into cells; a law walked by facts is a law.
-/
import Derived.Test.YtlgofplbbmjdjaaGreatDoorBhW6
import Derived.Test.YtlgofplbbmjdjaaGreatDoorBhOld
import Derived.Deep.Slices
namespace Go.Proofs.YtlgofplbbmjdjaaGreatDoor.BH
open Go.ChangeShapes Go.WideShapes

/-- All that there is, looked at. -/
def Rho.data (W : World) : Rho := ⟨fun _ => none, cellsOf W, fun _ => none⟩

section
variable {P : Program} {α β : Type}
/-- Values of a type read as what 'enc' lays. -/
def DecN (P : Program) (t : TypeId) (enc : α → List AV) (good : α → Prop) (n : Nat) : Prop := ∀ {H : Type} (e' : TypeId × Value → H) (W : World) (held : Bool) (cs : List Value) (x : DataW H × List MemPlace),
  DataW.trod e' P W 0 (fun _ => true) held n t cs = some x → ∃ a, VRL (Rho.data W) (enc a) cs ∧ good a

theorem DecN.map {t : TypeId} {enc : α → List AV} {good : α → Prop} {enc' : β → List AV} {good' : β → Prop} {n : Nat} (h : DecN P t enc good n) (f : α → β) (he : ∀ a, enc' (f a) = enc a) (hg : ∀ a, good a → good' (f a)) : DecN P t enc' good' n := by
  intro H e' W held cs x hx
  obtain ⟨a, h1, h2⟩ := h e' W held cs x hx
  exact ⟨f a, by rw [he]; exact h1, hg a h2⟩

theorem dec_int {t : TypeId} (ht : P.underlying t = some (.int .i64)) (n : Nat) : DecN P t eI (fun z => -9223372036854775808 ≤ z ∧ z ≤ 9223372036854775807) n := by
  intro H e' W held cs x hx
  obtain ⟨z, rfl, _, hw⟩ := DataW.trod_int ht hx
  refine ⟨z, VRL.cons (by simp only [VR]) VRL.nil, ?_⟩
  have h1 : IntKind.i64.min = -9223372036854775808 := rfl
  have h2 : IntKind.i64.max = 9223372036854775807 := rfl
  simp only [Lit.wf, Bool.and_eq_true, decide_eq_true_eq] at hw
  omega
def eT (b : Bool) : List AV := [.bool b]
theorem list_of {p : Nat → α → Prop} : ∀ {n : Nat}, (∀ i, i < n → ∃ x, p i x) → ∃ l : List α, l.length = n ∧ ∀ i x, l[i]? = some x → p i x
  | 0, _ => ⟨[], rfl, fun i x h => by simp at h⟩
  | n + 1, h => by
    obtain ⟨l, hl, hp⟩ := list_of (n := n) fun i hi => h i (by omega)
    obtain ⟨x, hx⟩ := h n (by omega)
    refine ⟨l ++ [x], by simp [hl], fun i y hy => ?_⟩
    rcases Nat.lt_or_ge i n with hi | hi
    · rw [List.getElem?_append_left (by omega)] at hy; exact hp i y hy
    · rw [List.getElem?_append_right (by omega)] at hy
      have : i - l.length = 0 := by
        rcases Nat.eq_zero_or_pos (i - l.length) with h | h
        · exact h
        · rw [List.getElem?_eq_none (by simp; omega)] at hy; cases hy
      rw [this] at hy; simp at hy; subst hy
      have : i = n := by omega
      subst this; exact hx

theorem cell_block {w : World} {b o : Nat} {v : Value} (h : w.cell? ⟨b, o, none⟩ = some v) : ∃ x, cellsOf w b = some x ∧ x[o]? = some v := by
  unfold World.cell? at h
  simp only at h
  split at h
  · rename_i x e fr hh
    exact ⟨x, cellsOf_of hh, h⟩
  · cases h

theorem dec_slice {t e s n : Nat} {enc : α → List AV} {good : α → Prop} (ht : P.underlying t = some (.slice e)) (hc : P.cellsOf e = s) (hpos : 0 < s) (hs : ∀ a, (enc a).length = s) (hsc : ∀ a, (enc a).all AV.scalar = true) (D : ∀ m, m < n → DecN P e enc good m) :
    DecN P t (fun l => [AL enc l]) (fun l => (∀ x ∈ l, good x) ∧ l.length ≤ 9223372036854775807) n := by
  intro H e' W held cs x hx
  rcases DataW.trod_slice ht hx with ⟨rfl, _⟩ | ⟨a, len, cap, elems, rest, n', hn, rfl, _, _, hl, hm, hlen, hel, _⟩
  · refine ⟨[], VRL.cons ?_ VRL.nil, ⟨fun x hx => (by cases hx), by simp⟩⟩
    show VR _ (.lst [] 0 false true) _
    simp only [VR]
    exact ⟨none, 0, rfl, Nat.le_refl _, fun h => (by cases h), rfl, fun _ => rfl, .inl ⟨trivial, trivial, fun h => by cases h⟩⟩
  · have h1 : ∀ i, i < len → ∃ y, (∃ cs', W.cells? 0 (a.add (i * s)) s = some cs' ∧ VRL (Rho.data W) (enc y) cs') ∧ good y := by
      intro i hi
      have := hel i hi
      rw [hc, List.getElem?_eq_getElem (by omega)] at this
      obtain ⟨cs', g1, g2⟩ := Option.bind_eq_some_iff.1 this
      obtain ⟨y, g3, g4⟩ := D n' (by omega) e' W held cs' _ g2
      exact ⟨y, ⟨cs', g1, g3⟩, g4⟩
    obtain ⟨l, hll, hp⟩ := list_of h1
    refine ⟨l, VRL.cons ?_ VRL.nil, ⟨fun x hx => ?_, ?_⟩⟩
    · show VR _ (.lst (l.flatMap enc) l.length false true) _
      simp only [VR]
      refine ⟨some a, cap, by rw [hll], by omega, fun h => (by cases h), flat_scalar hsc l, fun h => (by cases h), ?_⟩
      by_cases h0 : len = 0
      · have : l = [] := List.length_eq_zero_iff.mp (by omega)
        subst this
        exact .inl ⟨rfl, rfl, fun h => by cases h⟩
      · right
        obtain ⟨y0, hy0⟩ := get_of_lt (l := l) (k := 0) (by omega)
        obtain ⟨⟨cs0, g1, g2⟩, _⟩ := hp 0 y0 hy0
        obtain ⟨_, g3, g4⟩ := World.cells?_some g1
        have g5 := g4 0 hpos
        rw [List.getElem?_eq_getElem (by omega)] at g5
        have hsp := World.cell?_spot g5
        obtain ⟨b, off, spot⟩ := a
        have hspot : spot = none := by
          simp only [Addr.add] at hsp
          simpa using hsp
        subst hspot
        have hadd : ∀ i j, ((⟨b, off, none⟩ : Addr).add i).add j = ⟨b, off + (i + j), none⟩ := by
          intro i j
          rw [Go.Deep.add_add]
          simp only [Addr.add]; split <;> simp_all
        rw [hadd] at g5
        obtain ⟨x, hx1, _⟩ := cell_block g5
        have hcellx : ∀ (i : Nat) (y : α), l[i]? = some y → ∃ cs', VRL (Rho.data W) (enc y) cs' ∧ cs'.length = s ∧ ∀ j, j < s → x[off + (i * s + j)]? = cs'[j]? := by
          intro i y hy
          obtain ⟨⟨cs', k1, k2⟩, _⟩ := hp i y hy
          obtain ⟨_, k3, k4⟩ := World.cells?_some k1
          refine ⟨cs', k2, k3, fun j hj => ?_⟩
          have k5 := k4 j hj
          rw [hadd, List.getElem?_eq_getElem (by omega)] at k5
          obtain ⟨x', q1, q2⟩ := cell_block k5
          rw [hx1] at q1; cases q1
          rw [q2, List.getElem?_eq_getElem (by omega)]
        refine ⟨b, off, x, (x.toList.drop off).take (l.length * s), rfl, hx1, ?_, fun i u hu => ?_⟩
        · have key : ∀ (m : List α) (i0 : Nat), (∀ (i : Nat) (y : α), m[i]? = some y → l[i0 + i]? = some y) → VRL (Rho.data W) (m.flatMap enc) ((x.toList.drop (off + i0 * s)).take (m.length * s)) := by
            intro m
            induction m with
            | nil => intro i0 _; simp only [List.flatMap_nil, List.length_nil, Nat.zero_mul, List.take_zero]; exact VRL.nil
            | cons y r ih =>
              intro i0 hm
              obtain ⟨cs', k1, k2, k3⟩ := hcellx (i0 + 0) y (hm 0 y rfl)
              have e1 : (x.toList.drop (off + i0 * s)).take ((y :: r).length * s) = cs' ++ (x.toList.drop (off + (i0 + 1) * s)).take (r.length * s) := by
                refine List.ext_getElem? fun j => ?_
                rw [List.getElem?_take, List.getElem?_drop, Array.getElem?_toList]
                have e2 : (y :: r).length * s = s + r.length * s := by rw [List.length_cons, Nat.add_mul]; omega
                have e3 : (i0 + 1) * s = i0 * s + s := by rw [Nat.add_mul]; omega
                by_cases hj : j < s
                · rw [if_pos (by omega), List.getElem?_append_left (by omega), ← k3 j hj, Nat.add_zero, Nat.add_assoc]
                · rw [List.getElem?_append_right (by omega), List.getElem?_take, k2]
                  by_cases hj2 : j < (y :: r).length * s
                  · rw [if_pos hj2, if_pos (by omega), List.getElem?_drop, Array.getElem?_toList]
                    congr 1; omega
                  · rw [if_neg hj2, if_neg (by omega)]
              rw [List.flatMap_cons, e1]
              exact VRL.append k1 (ih (i0 + 1) fun i z hz => by have := hm (i + 1) z (by simpa using hz); rwa [show i0 + 1 + i = i0 + (i + 1) by omega])
          have := key l 0 fun i y hy => by rw [Nat.zero_add]; exact hy
          rw [Nat.zero_mul, Nat.add_zero] at this
          exact this
        · rw [List.getElem?_take] at hu
          split at hu
          · rw [List.getElem?_drop, Array.getElem?_toList] at hu; exact hu
          · cases hu
    · obtain ⟨i, hi⟩ := List.getElem?_of_mem hx
      exact (hp i x hi).2
    · have h2 : maxLen = 9223372036854775807 := rfl
      rw [hll]; omega
end

/-! ### a law -/
theorem law_calls {C : Ctx} {f : FuncId} {fn : Func} {c : Code} {args : List AV} {us : Array Value} {W : World} (hk : (C.cfg.kind f).keep = false) (hf : C.P.funcs[f]? = some fn) (hname : (fn.name == "runtime.NumGoroutine") = false) (hb : fn.body = some c)
    (hr : PFn C f args (.bool true)) (hv : VRL (Rho.data W) args us.toList) : Calls C.P f us W fun e W' => e = .returned (.bool true) ∧ Old W W' := by
  have hname' : fn.name ≠ "runtime.NumGoroutine" := by simpa using hname
  have henter : (callFunc f us).run C.P W = .ok (.enter f us) W := by simp [callFunc, hf, hname', hb]
  have hext : Ext (Rho.data W) (Rho.all W) := ⟨fun _ _ h => h, fun _ _ h => h, fun _ _ h => (by cases h)⟩
  have H0 : HRel (Rho.all W) AHeap.empty W := empty_rel (w := W) (cellsOf W) (fun _ => false) fun _ _ h => h
  rcases hr.2 (Rho.all W) W us (VRL.mono hext _ _ hv) H0 with ⟨_, hc⟩ | ⟨v, w', hv', _⟩
  · refine hc.mono ?_
    rintro e W' ⟨v, rfl, ρ', h', v0, hv, T, ⟨_, rfl, _⟩ | ⟨hk', _⟩⟩
    · simp only [VR] at hv
      subst hv
      exact ⟨rfl, T.os, T.outp, T.size, fun b hb => T.kept b hb fun o x c hx => by rw [empty_get] at hx; cases hx⟩
    · rw [hk] at hk'; cases hk'
  · rw [henter] at hv'; cases hv'

end Go.Proofs.YtlgofplbbmjdjaaGreatDoor.BH
