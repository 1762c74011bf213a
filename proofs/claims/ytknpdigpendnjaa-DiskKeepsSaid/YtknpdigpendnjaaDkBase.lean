/-
  Package disk: bytes in memory; slices.Clone, slices.Grow.
-/
import Derived.Test.YtknpdigpendnjaaProg
import Derived.Test.YtknpdigpendnjaaAhOld
import Derived.WalkKit
import Derived.ProofKit
import Derived.Handy
import Derived.Deep.LoopGhost
import Derived.Deep.QuietTactic
import Derived.BigQuiet
import Derived.BigRegion
import Derived.WalkLawsBesides
import Derived.Lib.SliceRun
import Derived.Deep.DeepCutAuto
namespace Go.Proofs.Ytknpdigpendnjaa.disk
open Go Go.Proofs Go.RowKit Go.Proofs.Ytknpdigpendnjaa.AH
set_option maxRecDepth 10000

theorem info5 : (Try.prog.info? 5).map (fun i => (i.zero, i.size, i.bytes)) = some (some (.int .u8 0), 1, 1) := by kernel_rfl

/-- All that was there stands, but block D. -/
structure But (D : Nat) (w w' : World) : Prop where
  os : w'.os = w.os
  tape : w'.tape = w.tape
  output : w'.output = w.output
  size : w.heap.size ≤ w'.heap.size
  block : ∀ k, k < w.heap.size → k ≠ D → w'.heap[k]? = w.heap[k]?
theorem But.refl (D : Nat) (w : World) : But D w w := ⟨rfl, rfl, rfl, Nat.le_refl _, fun _ _ _ => rfl⟩
theorem But.trans {D : Nat} {a b c : World} (h : But D a b) (k : But D b c) : But D a c :=
  ⟨k.os.trans h.os, k.tape.trans h.tape, k.output.trans h.output, Nat.le_trans h.size k.size, fun i hi hne => (k.block i (Nat.lt_of_lt_of_le hi h.size) hne).trans (h.block i hi hne)⟩
theorem But.of_below {D : Nat} {w w' : World} (h : Below w.heap.size w w') : But D w w' := ⟨h.os, h.tape, h.output, h.size, fun k hk _ => h.block k hk⟩
theorem But.set {D i : Nat} {w : World} (v : Value) : But D w (w.setCell ⟨D, i, none⟩ v) :=
  ⟨rfl, rfl, rfl, by simp [World.setCell], fun k _ hne => Below.heap_setCell _ _ _ _ (by exact hne)⟩
theorem But.cell {D : Nat} {w w' : World} (h : But D w w') {p : Addr} (hp : p.block < w.heap.size) (hne : p.block ≠ D) : w'.cell? p = w.cell? p := World.cell?_of_block (w := w) (h.block p.block hp hne)
theorem But.old {D : Nat} {w0 w w' : World} (h0 : Below w0.heap.size w0 w) (h : But D w w') (hD : w0.heap.size ≤ D) : Below w0.heap.size w0 w' :=
  ⟨h.os.trans h0.os, h.tape.trans h0.tape, h.output.trans h0.output, Nat.le_trans h0.size h.size, fun k hk => (h.block k (Nat.lt_of_lt_of_le hk h0.size) (by omega)).trans (h0.block k hk)⟩

/-- Bytes that lie in memory, aside of block D. -/
structure Byt (D : Nat) (w : World) (ao : Option Addr) (l : List Int) : Prop where
  lie : l ≠ [] → ∃ b off, ao = some ⟨b, off, none⟩ ∧ b < w.heap.size ∧ b ≠ D ∧ ∀ i x, l[i]? = some x → w.cell? ⟨b, off + i, none⟩ = some (.int .u8 x)
  wf : ∀ x ∈ l, 0 ≤ x ∧ x ≤ 255
theorem Byt.carry {D : Nat} {w w' : World} {ao : Option Addr} {l : List Int} (h : Byt D w ao l) (hb : But D w w') : Byt D w' ao l := by
  refine ⟨fun hl => ?_, h.wf⟩
  obtain ⟨b, off, e, hB, hD, hc⟩ := h.lie hl
  exact ⟨b, off, e, Nat.lt_of_lt_of_le hB hb.size, hD, fun i x hx => (hb.cell (p := ⟨b, off + i, none⟩) hB hD).trans (hc i x hx)⟩
theorem Byt.nil {D : Nat} {w : World} {ao : Option Addr} : Byt D w ao [] := ⟨fun h => absurd rfl h, fun x hx => by cases hx⟩
def bytV (l : List Int) : List Value := l.map (Value.int .u8)
theorem byt_news {D : Nat} {w : World} {ad : Addr} {l : List Int} (h : Byt D w (some ad) l) (o : Obj) : ∀ j u, (bytV l)[j]? = some u → (w.alloc o).cell? (ad.add j) = some u := by
  intro j u hj
  have hne : l ≠ [] := by intro e; subst e; simp [bytV] at hj
  obtain ⟨b, off, e, hB, hD, hc⟩ := h.lie hne
  cases e
  simp only [bytV, List.getElem?_map, Option.map_eq_some_iff] at hj
  obtain ⟨x, hx, rfl⟩ := hj
  have : (⟨b, off, none⟩ : Addr).add j = ⟨b, off + j, none⟩ := by simp only [Addr.add]; split <;> simp_all
  rw [this]
  have h3 : (w.alloc o).heap[b]? = w.heap[b]? := by
    show (w.heap.push o)[b]? = _
    rw [Array.getElem?_push, if_neg (by omega)]
  exact (World.cell?_of_block (w := w) h3).trans (hc j x hx)
theorem byt_news0 {D : Nat} {w : World} {ad : Addr} {l : List Int} (h : Byt D w (some ad) l) : ∀ j u, (bytV l)[j]? = some u → w.cell? (ad.add j) = some u := by
  intro j u hj
  have hne : l ≠ [] := by intro e; subst e; simp [bytV] at hj
  obtain ⟨b, off, e, hB, hD, hc⟩ := h.lie hne
  cases e
  simp only [bytV, List.getElem?_map, Option.map_eq_some_iff] at hj
  obtain ⟨x, hx, rfl⟩ := hj
  have : (⟨b, off, none⟩ : Addr).add j = ⟨b, off + j, none⟩ := by simp only [Addr.add]; split <;> simp_all
  rw [this]
  exact hc j x hx
theorem byt_one (l : List Int) : ∀ u ∈ bytV l, u.oneCell' = true := by
  intro u hu
  obtain ⟨x, _, rfl⟩ := List.mem_map.mp hu
  rfl
theorem own_byt {D : Nat} {w : World} {B : Nat} {v : Value} {l : List Int} (h : w.ownsRow B 5 1 v l.length (bytV l)) (hD : D < B) (hl : ∀ x ∈ l, 0 ≤ x ∧ x ≤ 255) : ∃ ao cap, v = .slice ao l.length cap ∧ Byt D w ao l ∧ (ao = none → l = [] ∧ cap = 0) ∧ l.length ≤ cap := by
  have h0 := h
  obtain ⟨_, ⟨rfl, h1⟩ | ⟨b, cap, cur, rfl, hg, hh, hn, hc, hs, ht⟩⟩ := h
  · have : l = [] := List.length_eq_zero_iff.mp h1
    subst this
    exact ⟨none, 0, rfl, Byt.nil, fun _ => ⟨rfl, rfl⟩, Nat.le_refl _⟩
  · refine ⟨_, cap, rfl, ⟨fun _ => ⟨b, 0, rfl, (Array.getElem?_eq_some_iff.mp hh).1, by omega, fun i x hx => ?_⟩, hl⟩, fun h => (by cases h), hn⟩
    have hi := (List.getElem?_eq_some_iff.mp hx).1
    rw [Nat.zero_add, h0.cellAt i (by omega)]
    simp [bytV, hx]

theorem own_new5 (w : World) (base : Nat) (hb : base ≤ w.heap.size) : (w.alloc (.cells #[] 5)).ownsRow base 5 1 (.slice (some ⟨w.heap.size, 0, none⟩) 0 0) 0 [] :=
  ⟨rfl, .inr ⟨w.heap.size, 0, #[], rfl, hb, by show (w.heap.push _)[w.heap.size]? = _; simp, Nat.le_refl _, by unfold maxLen; omega, rfl, rfl⟩⟩

theorem clone_own (D : Nat) (ao : Option Addr) (l : List Int) (cap : Nat) (w : World) (hl : Byt D w ao l) (hn : l.length ≤ 1000000) (h0 : ao = none → l = [] ∧ cap = 0) :
    Calls Try.prog 36 #[.slice ao l.length cap] w fun e w' => ∃ v, e = .returned v ∧ w'.ownsRow w.heap.size 5 1 v l.length (bytV l) ∧ Below w.heap.size w w' := by
  obtain ⟨i0, hi, hz0, hz1, hz2⟩ := info_parts info5
  cases ao with
  | none =>
    obtain ⟨rfl, rfl⟩ := h0 rfl
    have hq := fun w => Lib.run_eql_slice_nil (P := Try.prog) w 37 5 none 0 0 0 0 Try.underlying37
    go_enter Try.func36, Try.ntmps36
    go_wp2_with fail
    go_ret
    exact ⟨_, rfl, World.ownsRow_nil _ _ _ _, Below.refl _ _⟩
  | some ad =>
    have hnews := byt_news hl (.cells #[] 5)
    have hone := byt_one l
    have hq := fun w => Lib.run_eql_slice_nil (P := Try.prog) w 37 5 (some ad) l.length cap 0 0 Try.underlying37
    have hll : (bytV l).length = l.length * 1 := by simp [bytV]
    go_enter Try.func36, Try.ntmps36
    go_wp2_with (at_builtin; refine wpList_append_own _ rfl _ _ 37 rfl w.heap.size 5 i0 (.int .u8 0) 1 1 Try.underlying37 hi hz0 hz1 hz2 rfl (by decide) _ 0 [] rfl (own_new5 w _ (Nat.le_refl _)) ad l.length cap (bytV l) rfl hll hnews hone (by unfold maxLen; omega) (by omega) (by simp) ?_)
    intro v' w1 hown hgrow _
    have hb : Below w.heap.size w w1 := ((Below.refl _ _).alloc (Nat.le_refl _) _).grown hgrow (by simp) (fun j hj => by cases hj; exact Nat.le_refl _)
    clear hgrow
    go_wp2_with fail
    go_ret
    exact ⟨_, rfl, by simpa using hown, hb⟩

theorem clone_walk (D : Nat) (ao : Option Addr) (l : List Int) (cap : Nat) (w : World) (hl : Byt D w ao l) (hn : l.length ≤ 1000000) (hD : D < w.heap.size) (h0 : ao = none → l = [] ∧ cap = 0) :
    Calls Try.prog 36 #[.slice ao l.length cap] w fun e w' => ∃ ao' cap', e = .returned (.slice ao' l.length cap') ∧ Byt D w' ao' l ∧ (ao' = none → l = [] ∧ cap' = 0) ∧ l.length ≤ cap' ∧ Below w.heap.size w w' :=
  (clone_own D ao l cap w hl hn h0).mono fun e w' ⟨v, he, hown, hb⟩ => by
    obtain ⟨ao', cap', rfl, h1, h2, h3⟩ := own_byt hown hD hl.wf
    exact ⟨ao', cap', he, h1, h2, h3, hb⟩

-- slices.Grow
theorem und37 : undOf Try.prog 37 = some (.slice 5) := by kernel_rfl
theorem sz5 : szOf Try.prog 5 = some 1 := by kernel_rfl
theorem zeros3 : zerosOf Try.prog (some 3) = true := by kernel_rfl
theorem bytes5 : bytesOf Try.prog 5 = some 1 := by kernel_rfl

/-- 'append(s[:cap(s)], make([]byte, n)...)' of a nil slice: a new block, its capacity the tape's. -/
theorem run_grow (ty : TypeId) (n : Nat) (hn : 0 < n) (hn' : n ≤ 1000000) (w : World) :
    ∃ k cur, (Builtin.append_ #[37, 3] ty #[.slice none 0 0, .int .i64 (n : Int)]).run Try.prog w = .ok (.slice (some ⟨w.heap.size, 0, none⟩) n k) (w.drew.alloc (.cells cur 5)) ∧ n ≤ k ∧ cur.size = k ∧ k ≤ maxLen := by
  obtain ⟨k, hk, hkn⟩ := newCap (w := w) (need := 0 + n) (c := 0) 5
  have hkm : k ≤ maxLen := by
    have hlt := Nat.mod_lt (w.tape w.drawn (.appendCap (0 + n) 0 5)) (show 0 < 2 ^ 63 - (0 + n) by omega)
    have e : k = (0 + n) + w.tape w.drawn (.appendCap (0 + n) 0 5) % (2 ^ 63 - (0 + n)) := hk.symm
    unfold maxLen
    omega
  have hzv : (zeroValue 5).run Try.prog w.drew = .ok (.int .u8 0) w.drew := by
    obtain ⟨i, hi, hzz⟩ := Option.map_eq_some_iff.1 info5
    simp only [Prod.mk.injEq] at hzz
    simp [zeroValue, typeInfo, hi, hzz.1]
  obtain ⟨us, hus⟩ : ∃ us : List Value, Builtin.zeroCells (Value.int .u8 0).cells n = us.toArray := ⟨_, (Array.toArray_toList).symm⟩
  have husl : us.length = n := by
    have := congrArg Array.size hus
    rw [zeroCells_range] at this
    simp [Value.cells] at this
    exact this.symm
  have ho : (Builtin.firstCells 1 0 (.slice none 0 0)).run Try.prog w.drew = .ok ([] : List Value).toArray w.drew := by
    simp [Builtin.firstCells]
  have hnew : (newRow 5 (([] : List Value).toArray ++ us.toArray ++ Builtin.zeroCells (Value.int .u8 0).cells (k - (0 + n)))).run Try.prog w.drew = .ok ⟨w.heap.size, 0, none⟩ (w.drew.alloc (.cells (([] : List Value).toArray ++ us.toArray ++ Builtin.zeroCells (Value.int .u8 0).cells (k - (0 + n))) 5)) := by
    simp [newRow]
  have h := append_grow_zeros (P := Try.prog) (argTypes := #[37, 3]) (ty := ty) (sT := 37) (e := 5) (size := 1) (base := none) (sLen := 0) (sCap := 0) (n := n) (os := []) (us := us) (t := 3) (b := 1) (k := k) (w := w) rfl rfl und37 sz5 zeros3 bytes5
    (by unfold bigBy; omega) (by unfold bigBy; omega) (by omega) (by unfold bigBy; omega) (by unfold bigBy; omega) hk ho (by omega) hzv hus hnew
  refine ⟨k, ([] : List Value).toArray ++ us.toArray ++ Builtin.zeroCells (Value.int .u8 0).cells (k - (0 + n)), ?_, by omega, ?_, hkm⟩
  · rw [Nat.zero_add] at h
    simpa using h
  · rw [zeroCells_range]
    simp [Value.cells, husl]
    omega

theorem wpList_grow {w : World} {ops : Array Oper} {rest : List Oper} {o : Oper} {a : Act} {Q : Exit → Act → World → Prop} (hgd : o.guard = none) (s x : Operand)
    (ho : o.op = .call { callee := .builtin .append, args := #[s, x], argTypes := #[37, 3] }) (n : Nat) (hs : a.eval s = .slice none 0 0) (hx : a.eval x = .int .i64 (n : Int)) (hn : 0 < n) (hn' : n ≤ 1000000)
    (h : ∀ k w', n ≤ k → w'.ownsRow w.heap.size 5 1 (.slice (some ⟨w.heap.size, 0, none⟩) 0 k) 0 [] → Below w.heap.size w w' → wpList Try.prog ops Q rest (a.put o.dst (.slice (some ⟨w.heap.size, 0, none⟩) n k)) w') : wpList Try.prog ops Q (o :: rest) a w := by
  refine wpList_plain hgd fun K hK => ?_
  obtain ⟨k, cur, hr, hk, hc, hkm⟩ := run_grow o.type n hn hn' w
  unfold Oper.wp execOp
  simp only [ho, resolve, invoke, builtin, Sem.run_bind, Sem.run_pure, Result.andThen_ok, List.map_toArray, List.map_cons, List.map_nil, hs, hx, hr]
  exact hK _ _ (h k _ hk (World.ownsRow_made w.drew cur k (Nat.le_refl _) hkm (by omega)) ((Below.refl _ _).drew.alloc (Nat.le_refl _) _))

theorem grow_walk (n : Nat) (hn : n ≤ 1000000) (w : World) : Calls Try.prog 39 #[.slice none 0 0, .int .i64 (n : Int)] w fun e w' => ∃ v, e = .returned v ∧ w'.ownsRow w.heap.size 5 1 v 0 [] ∧ Below w.heap.size w w' := by
  by_cases h0 : n = 0
  · subst h0
    go_enter Try.func39, Try.ntmps39
    go_wp2_with fail
    go_ret
    exact ⟨_, rfl, World.ownsRow_nil _ _ _ _, Below.refl _ _⟩
  · have hp : 0 < n := by omega
    go_enter Try.func39, Try.ntmps39
    go_wp2_with (at_builtin; refine wpList_grow rfl _ _ rfl n rfl rfl hp hn ?_)
    intro k w' hk hown hb
    go_wp2_with fail
    go_ret
    exact ⟨_, rfl, hown, hb⟩

end Go.Proofs.Ytknpdigpendnjaa.disk
