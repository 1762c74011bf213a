/-
  The law's flags (klaxonlaw14.flags), klaxonbook.Within.
-/
import Derived.Test.YtlejcjgbkbmdmaaSpFlags
namespace Go.Proofs.Ytlejcjgbkbmdmaa.span
open Go Go.Proofs Go.RowKit
set_option maxRecDepth 10000

def withinV (n lo hi : Int) : Int := lo + (if n.tmod (hi - lo + 1) < 0 then n.tmod (hi - lo + 1) + hi - lo + 1 else n.tmod (hi - lo + 1))
theorem within_walk (n lo hi : Int) (w : World) (h0 : 0 ≤ lo) (h1 : lo ≤ hi) (h2 : hi ≤ 100000) :
    Calls Try.prog 17 #[.int .i64 n, .int .i64 lo, .int .i64 hi] w fun e w' => e = .returned (.int .i64 (withinV n lo hi)) ∧ w' = w := by
  have hlo : -(hi - lo + 1) < n.tmod (hi - lo + 1) := by
    have := Int.lt_tmod_of_pos n (show 0 < hi - lo + 1 by omega)
    exact this
  have hhi : n.tmod (hi - lo + 1) < hi - lo + 1 := Int.tmod_lt_of_pos n (by omega)
  go_enter Try.func17, Try.ntmps17
  go_wp2
  · have h : n.tmod (hi - lo + 1) < 0 := by assumption
    go_ret
    simp [withinV, h]
  · have h : ¬ n.tmod (hi - lo + 1) < 0 := by omega
    go_ret
    simp [withinV, h]
theorem withinV_in (n lo hi : Int) (h1 : lo ≤ hi) : lo ≤ withinV n lo hi ∧ withinV n lo hi ≤ hi := by
  have hlo : -(hi - lo + 1) < n.tmod (hi - lo + 1) := Int.lt_tmod_of_pos n (show 0 < hi - lo + 1 by omega)
  have hhi : n.tmod (hi - lo + 1) < hi - lo + 1 := Int.tmod_lt_of_pos n (by omega)
  unfold withinV
  split <;> omega

theorem info4 : (Try.prog.info? 4).map (fun i => (i.zero, i.size, i.bytes)) = some (some (.bool false), 1, 1) := by kernel_rfl
theorem marks_make (n : Nat) (hn : n ≤ 100000) (w : World) : (Instr.makeSlice 31 (.int .i64 n) (.int .i64 n)).run Try.prog w = .ok (.slice (some ⟨w.heap.size, 0, none⟩) n n) (w.alloc (.cells (madeCells #[.bool false] n) 4)) :=
  run_make_row' 31 4 (.bool false) 1 Try.underlying31 info4 rfl .i64 .i64 n (by omega) (by omega) w
theorem marks60 (w : World) : (Instr.makeSlice 31 (.int .i64 60) (.int .i64 60)).run Try.prog w = .ok (.slice (some ⟨w.heap.size, 0, none⟩) 60 60) (w.alloc (.cells (madeCells #[.bool false] 60) 4)) := marks_make 60 (by omega) w
theorem marks_new (w : World) (n : Nat) : Marks (w.alloc (.cells (madeCells #[.bool false] n) 4)) w.heap.size n (fun _ => false) := by
  refine ⟨fun k hk => ?_, fun k => World.frozen?_alloc_new _ _ _ _⟩
  rw [World.cell?_alloc_new]
  simp [madeCells, hk, Nat.mod_one]

/-- Which ticks numbers flag. -/
def flagT (l : List Int) (k : Nat) : Bool := l.any fun x => decide (withinV x 0 59 = (k : Int))
theorem flagT_lt {l : List Int} {k : Nat} (h : flagT l k = true) : k < 60 := by
  simp only [flagT, List.any_eq_true, decide_eq_true_eq] at h
  obtain ⟨x, _, h⟩ := h
  have := withinV_in x 0 59 (by omega)
  omega
def flagsT (l : List Int) : Nat → Bool := flagT (l.take 40)

theorem flag_step {l : List Int} {k x j : Nat} {p : Int} (hp : l[k]? = some p) (hx : withinV p 0 59 = x) : (if j = x then true else flagT (l.take k) j) = flagT (l.take (k + 1)) j := by
  rw [List.take_add_one, hp]
  simp only [flagT, Option.toList_some, List.any_append, List.any_cons, List.any_nil, Bool.or_false, hx]
  by_cases e : j = x
  · subst e; simp
  · have : ¬ (x : Int) = (j : Int) := by omega
    simp [e, this]

theorem flags_walk (ao : Option Addr) (l : List Int) (cap : Nat) (w : World) (hl : Nums w ao l) (hn : l.length ≤ 9223372036854775807) :
    Calls Try.prog 13 #[.slice ao l.length cap] w fun e w' => ∃ v, e = .returned (.tuple #[.slice (some ⟨w.heap.size, 0, none⟩) 60 60, v]) ∧ Marks w' w.heap.size 60 (flagsT l) ∧
      w'.ownsRow w.heap.size 26 2 v (spansTo (flagsT l) 60).length (flat (spansTo (flagsT l) 60)) ∧ Below w.heap.size w w' := by
  have hmk := marks60
  go_enter Try.func13, Try.ntmps13
  go_wp2_with fail
  go_loopg [5] (min l.length 40) (fun g i wr => ∃ k : Nat, k + g = min l.length 40 ∧ i = .int .i64 k ∧ Marks wr w.heap.size 60 (flagT (l.take k)) ∧ Below w.heap.size w wr)
  case atStart => exact ⟨0, by omega, rfl, (marks_new w 60).congr fun _ _ => by simp [flagT], by go_grown⟩
  case round =>
    obtain ⟨k, hk, rfl, ht, hb⟩ := hrel
    cases gk with
    | zero =>
      have hk' : k = min l.length 40 := by omega
      have htk : l.take k = l.take 40 := by
        rw [hk']
        rcases Nat.le_total 40 l.length with h | h
        · rw [Nat.min_eq_right h]
        · rw [Nat.min_eq_left h, List.take_length, List.take_of_length_le h]
      rw [htk] at ht
      go_wp2_with fail
      all_goals
        refine (refSpans_walk w.heap.size 60 60 (flagsT l) wr ht (fun _ => by have := hb.size; exact World.block_lt_of_cell? _ _ (ht.cell 0 (by omega))) (by omega)).mono ?_
        rintro e w2 ⟨v, rfl, hown, hb2⟩
        go_wp2_with fail
        go_returns
        exact ⟨_, rfl, ht.carry hb2 (World.block_lt_of_cell? _ _ (ht.cell 0 (by omega))), own_mono hown hb.size, hb.trans (hb2.mono hb.size)⟩
    | succ g =>
      have hkl : k < l.length := by omega
      obtain ⟨p, hp⟩ : ∃ p, l[k]? = some p := ⟨l[k]'(by omega), List.getElem?_eq_getElem _⟩
      have hl' := hl.carry hb
      obtain ⟨b, off, rfl, hB, hc⟩ := hl'.lie (by intro e; subst e; simp at hk)
      have hc1 := hc k p hp
      have hk40 : (k : Int) < 40 := by omega
      clear hc
      go_wp2_with fail
      refine (within_walk p 0 59 wr (by omega) (by omega) (by omega)).mono ?_
      rintro e w2 ⟨rfl, rfl⟩
      have hin := withinV_in p 0 59 (by omega)
      obtain ⟨x, hx⟩ : ∃ x : Nat, withinV p 0 59 = x := ⟨(withinV p 0 59).toNat, by omega⟩
      have hT : Marks (w2.setCell ⟨w.heap.size, x, none⟩ (.bool true)) w.heap.size 60 (flagT (l.take (k + 1))) := (ht.set (by omega)).congr fun j _ => flag_step hp hx
      have hB2 : Below w.heap.size w (w2.setCell ⟨w.heap.size, x, none⟩ (.bool true)) := hb.setCell (Nat.le_refl _) _
      rw [hx] at hin ⊢
      have hcx := ht.cell x (by omega)
      have hfx := ht.free x
      go_wp2_with fail
      go_roundg g
      case rel => exact ⟨k + 1, by omega, by simp, hT, hB2⟩
      case measure => omega

end Go.Proofs.Ytlejcjgbkbmdmaa.span
