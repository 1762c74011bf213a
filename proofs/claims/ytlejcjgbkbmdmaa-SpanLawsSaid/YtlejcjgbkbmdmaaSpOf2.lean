/-
  Package span: Of, Has, Ticks, Count.
-/
import Derived.Test.YtlejcjgbkbmdmaaSpOf
namespace Go.Proofs.Ytlejcjgbkbmdmaa.span
open Go Go.Proofs Go.RowKit
set_option maxRecDepth 10000

/-- Numbers that lie in memory, whosever they are. -/
structure Nums (w : World) (ao : Option Addr) (l : List Int) : Prop where
  lie : l ≠ [] → ∃ b off, ao = some ⟨b, off, none⟩ ∧ b < w.heap.size ∧ ∀ i x, l[i]? = some x → w.cell? ⟨b, off + i, none⟩ = some (.int .i64 x)
  wf : ∀ x ∈ l, -9223372036854775808 ≤ x ∧ x ≤ 9223372036854775807
theorem Nums.carry {w w' : World} {ao : Option Addr} {l : List Int} (h : Nums w ao l) (hb : Below w.heap.size w w') : Nums w' ao l := by
  refine ⟨fun hl => ?_, h.wf⟩
  obtain ⟨b, off, e, hB, hc⟩ := h.lie hl
  exact ⟨b, off, e, Nat.lt_of_lt_of_le hB hb.size, fun i p hp => (hb.cell (p := ⟨b, off + i, none⟩) hB).trans (hc i p hp)⟩

theorem own_mono {w : World} {base base' : Nat} {e : TypeId} {size : Nat} {v : Value} {n : Nat} {xs : List Value} (h : w.ownsRow base e size v n xs) (hb : base' ≤ base) : w.ownsRow base' e size v n xs :=
  ⟨h.1, h.2.imp id fun ⟨g, cap, cur, h1, h2, h3⟩ => ⟨g, cap, cur, h1, Nat.le_trans hb h2, h3⟩⟩

def ones (l : List Int) : List (Int × Int) := l.map fun x => (x, x)
/-- The spans of some spans' ticks. -/
def normL (l : List (Int × Int)) : List (Int × Int) := spansTo (tabOf l) 200

theorem ofTicks_walk (ao : Option Addr) (l : List Int) (cap : Nat) (w : World) (hl : Nums w ao l) (hn : l.length ≤ 9223372036854775807) :
    Calls Try.prog 9 #[.slice ao l.length cap] w fun e w' => ∃ v, e = .returned v ∧ w'.ownsRow w.heap.size 26 2 v (normL (ones l)).length (flat (normL (ones l))) ∧ Below w.heap.size w w' := by
  have hz := zero55
  go_enter Try.func9, Try.ntmps9
  go_wp2_with fail
  go_loopg [10] l.length (fun g i wr => ∃ k : Nat, k + g = l.length ∧ i = .int .i64 k ∧ Tab wr w.heap.size (tabOf (ones (l.take k))) ∧ Below w.heap.size w wr)
  case atStart => exact ⟨0, by omega, rfl, (tab_new w).congr fun _ _ => by simp [tabOf, ones], by go_grown⟩
  case round =>
    obtain ⟨k, hk, rfl, ht, hb⟩ := hrel
    cases gk with
    | zero =>
      have : k = l.length := by omega
      subst this
      rw [List.take_length] at ht
      go_wp2_with fail
      refine (spans_walk w.heap.size _ wr ht).mono ?_
      rintro e w2 ⟨v, rfl, hown, hb2⟩
      go_wp2_with fail
      go_ret
      exact ⟨_, rfl, own_mono hown hb.size, hb.trans (hb2.mono hb.size)⟩
    | succ g =>
      obtain ⟨p, hp⟩ : ∃ p, l[k]? = some p := ⟨l[k]'(by omega), List.getElem?_eq_getElem _⟩
      have hl' := hl.carry hb
      obtain ⟨b, off, rfl, hB, hc⟩ := hl'.lie (by intro e; subst e; simp at hk)
      have hc1 := hc k p hp
      have hw := hl.wf p (List.mem_of_getElem? hp)
      have hp' : (ones l)[k]? = some (p, p) := by simp [ones, hp]
      have htk : ones (l.take k) = (ones l).take k := by simp [ones, List.map_take]
      have htk1 : ones (l.take (k + 1)) = (ones l).take (k + 1) := by simp [ones, List.map_take]
      clear hc
      go_wp2_with fail
      refine (put_walk w.heap.size (tabOf (ones (l.take k))) p p _ ht hw hw).mono ?_
      rintro e w2 ⟨rfl, ht2, hb2⟩
      go_wp2_with fail
      go_roundg g
      case rel => exact ⟨k + 1, by omega, by simp, ht2.congr fun j _ => by rw [htk, htk1]; exact putT_take hp' j, hb.trans hb2⟩
      case measure => omega

/-- Is a tick in one of spans? -/
def hasL (l : List (Int × Int)) (x : Int) : Bool := l.any fun p => decide (p.1 ≤ x ∧ x ≤ p.2)
theorem has_walk (ao : Option Addr) (l : List (Int × Int)) (cap : Nat) (x : Int) (w : World) (hl : Spn w ao l) (hn : l.length ≤ 9223372036854775807) :
    Calls Try.prog 18 #[.slice ao l.length cap, .int .i64 x] w fun e w' => e = .returned (.bool (hasL l x)) ∧ Below w.heap.size w w' := by
  go_enter Try.func18, Try.ntmps18
  go_wp2_with fail
  go_loopg [9] l.length (fun g i wr => ∃ k : Nat, k + g = l.length ∧ i = .int .i64 k ∧ hasL (l.drop k) x = hasL l x ∧ Below w.heap.size w wr)
  case atStart => exact ⟨0, by omega, rfl, by simp, Below.refl _ _⟩
  case round =>
    obtain ⟨k, hk, rfl, hh, hb⟩ := hrel
    cases gk with
    | zero =>
      have : k = l.length := by omega
      subst this
      go_wp2_with fail
      go_ret
      rw [← hh, List.drop_length]
      exact ⟨rfl, hb⟩
    | succ g =>
      have hkl : k < l.length := by omega
      obtain ⟨p, hp⟩ : ∃ p, l[k]? = some p := ⟨l[k]'(by omega), List.getElem?_eq_getElem _⟩
      have hl' := hl.carry hb
      obtain ⟨b, off, rfl, hB, hc⟩ := hl'.lie (by intro e; subst e; simp at hk)
      obtain ⟨hc1, hc2⟩ := hc k p hp
      have hw := hl.wf p (List.mem_of_getElem? hp)
      have hd : hasL (l.drop k) x = (decide (p.1 ≤ x ∧ x ≤ p.2) || hasL (l.drop (k + 1)) x) := by
        rw [List.drop_eq_getElem_cons hkl]
        have : l[k] = p := by rw [List.getElem?_eq_getElem hkl] at hp; exact Option.some.inj hp
        simp [hasL, this]
      clear hc
      go_wp2_with fail
      · have h1 : p.1 ≤ x ∧ x ≤ p.2 := by omega
        go_ret
        refine ⟨?_, hb.alloc hb.size _⟩
        rw [← hh, hd]; simp [h1]
      · have h1 : ¬ (p.1 ≤ x ∧ x ≤ p.2) := by omega
        go_roundg g
        case rel => exact ⟨k + 1, by omega, by simp, by rw [← hh, hd]; simp [h1], hb.alloc hb.size _⟩
        case measure => omega
      · have h1 : ¬ (p.1 ≤ x ∧ x ≤ p.2) := by omega
        go_roundg g
        case rel => exact ⟨k + 1, by omega, by simp, by rw [← hh, hd]; simp [h1], hb.alloc hb.size _⟩
        case measure => omega

theorem info3 : (Try.prog.info? 3).map (fun i => (i.zero, i.size, i.bytes)) = some (some (.int .i64 0), 1, 8) := by kernel_rfl
/-- The numbers of ticks. -/
def ticksTo (t : Nat → Bool) : Nat → List Int
  | 0 => []
  | k + 1 => if t k then ticksTo t k ++ [(k : Int)] else ticksTo t k
theorem ticksTo_le (t : Nat → Bool) : ∀ k, (ticksTo t k).length ≤ k
  | 0 => Nat.le_refl _
  | k + 1 => by
    have := ticksTo_le t k
    simp only [ticksTo]
    split
    · simp; omega
    · omega
def numsV (l : List Int) : List Value := l.map (Value.int .i64)
theorem one_new (w : World) (t : TypeId) (x : Value) : ∀ (j : Nat) (u : Value), [x][j]? = some u → (w.alloc (.cells #[x] t (0, 0))).cell? ((⟨w.heap.size, 0, none⟩ : Addr).add j) = some u := by
  intro j u hj
  match j, hj with
  | 0, hj => simp at hj; subst hj; simp [Addr.add]
theorem one_one (k : IntKind) (x : Int) : ∀ u ∈ [Value.int k x], u.oneCell' = true := by
  intro u hu; simp at hu; subst hu; rfl
theorem nums_step {w : World} {B : Nat} {v : Value} {l : List Int} {k : Int} {m : List Int} (h : w.ownsRow B 3 1 v (l.length + 1) (numsV l ++ [.int .i64 k])) (hm : m = l ++ [k]) : w.ownsRow B 3 1 v m.length (numsV m) := by
  subst hm
  rw [List.length_append]
  unfold numsV at h ⊢
  rw [List.map_append]
  exact h

theorem ticks_walk (ao : Option Addr) (l : List (Int × Int)) (cap : Nat) (w : World) (hl : Spn w ao l) (hn : l.length ≤ 9223372036854775807) :
    Calls Try.prog 22 #[.slice ao l.length cap] w fun e w' => ∃ v, e = .returned v ∧ w'.ownsRow w.heap.size 3 1 v (ticksTo (tabOf l) 200).length (numsV (ticksTo (tabOf l) 200)) ∧ Below w.heap.size w w' := by
  obtain ⟨i0, hi, hz0, hz1, hz2⟩ := info_parts info3
  go_enter Try.func22, Try.ntmps22
  go_wp2_with fail
  refine (of_walk ao l cap w hl hn).mono ?_
  rintro e w0 ⟨rfl, ht, hb0⟩
  go_wp2_with fail
  go_loopg [3, 8] 200 (fun g v i wr => ∃ k : Nat, k + g = 200 ∧ i = .int .i64 k ∧ wr.ownsRow w0.heap.size 3 1 v (ticksTo (tabOf l) k).length (numsV (ticksTo (tabOf l) k)) ∧ Below w0.heap.size w0 wr)
  case atStart => exact ⟨0, rfl, rfl, World.ownsRow_nil _ _ _ _, Below.refl _ _⟩
  case round =>
    obtain ⟨k, hk, rfl, hown, hb⟩ := hrel
    cases gk with
    | zero =>
      have : k = 200 := by omega
      subst this
      go_wp2_with fail
      go_ret
      exact ⟨_, rfl, own_mono hown hb0.size, hb0.trans (hb.mono hb0.size)⟩
    | succ g =>
      have hcell := (ht.carry hb ht.lt).cell k (by omega)
      have hbd := ticksTo_le (tabOf l) k
      by_cases hin : tabOf l k = true
      · have hS : ticksTo (tabOf l) (k + 1) = ticksTo (tabOf l) k ++ [(k : Int)] := by simp only [ticksTo, hin, if_true]
        rw [hin] at hcell
        generalize ticksTo (tabOf l) k = m at hown hS hbd
        have hm1 : m.length + 1 ≤ maxLen := by unfold maxLen; omega
        have hm2 : (m.length + 1) * 8 ≤ 140737488355328 := by omega
        go_wp2_with fail
        go_quiet (fail)
        have hown := own_dN hown nq
        have hb := below_dN hb nq
        generalize wr.drewN nq = wq at hown hb ⊢
        have hs := hb.size
        have hm3 : ∀ o, w0.heap.size ≤ (wq.alloc o).heap.size := fun o => by simp; omega
        go_wp2_with (at_builtin; refine wpList_append_own _ rfl _ _ 30 rfl w0.heap.size 3 i0 (.int .i64 0) 1 8 Try.underlying30 hi hz0 hz1 hz2 rfl (by decide) _ _ _ rfl (hown.alloc _) ⟨wq.heap.size, 0, none⟩ 1 1 [.int .i64 k] rfl rfl (one_new wq _ _) (one_one _ _) hm1 hm2 (hm3 _) ?_)
        intro v' w1 hown' hgrow _
        have hb' : Below w0.heap.size w0 w1 := (hb.alloc hs _).grown hgrow (by simp; omega) (fun j hj => (hown.lt j hj).1)
        clear hgrow hown hb
        go_wp2_with fail
        go_roundg g
        case rel => exact ⟨k + 1, by omega, by simp, by rw [hS]; exact nums_step hown' rfl, hb'⟩
        case measure => omega
      · have hS : ticksTo (tabOf l) (k + 1) = ticksTo (tabOf l) k := by simp [ticksTo, hin]
        have hin' : tabOf l k = false := by simpa using hin
        rw [hin'] at hcell
        rw [← hS] at hown
        go_wp2_with fail
        go_quiet (fail)
        go_wp2_with fail
        go_roundg g
        case rel => exact ⟨k + 1, by omega, by simp, own_dN hown nq, below_dN hb nq⟩
        case measure => omega

theorem own_len {w : World} {B : Nat} {e : TypeId} {size : Nat} {v : Value} {n : Nat} {xs : List Value} (h : w.ownsRow B e size v n xs) : ∃ ao cap, v = .slice ao n cap := by
  obtain ⟨_, ⟨rfl, rfl⟩ | ⟨b, cap, cur, rfl, _⟩⟩ := h
  · exact ⟨_, _, rfl⟩
  · exact ⟨_, _, rfl⟩

def countL (l : List (Int × Int)) : Nat := (ticksTo (tabOf l) 200).length
theorem count_walk (ao : Option Addr) (l : List (Int × Int)) (cap : Nat) (w : World) (hl : Spn w ao l) (hn : l.length ≤ 9223372036854775807) :
    Calls Try.prog 12 #[.slice ao l.length cap] w fun e w' => e = .returned (.int .i64 (countL l)) ∧ Below w.heap.size w w' := by
  go_enter Try.func12, Try.ntmps12
  go_wp2_with fail
  refine (ticks_walk ao l cap w hl hn).mono ?_
  rintro e w0 ⟨v, rfl, hown, hb0⟩
  have hle := ticksTo_le (tabOf l) 200
  obtain ⟨ao', cap', rfl⟩ := own_len hown
  go_wp2_with fail
  go_ret
  exact ⟨rfl, hb0⟩

end Go.Proofs.Ytlejcjgbkbmdmaa.span
