/-
  What the package's functions do with spans of sets: each contract with its plain law.
-/
import Derived.Test.YtlejcjgbkbmdmaaSpPlain
namespace Go.Proofs.Ytlejcjgbkbmdmaa.span
open Go Go.Proofs Go.RowKit
set_option maxRecDepth 10000

/-- The spans of a set. -/
def S (t : Nat → Bool) : List (Int × Int) := spansTo t 200
def orT (t u : Nat → Bool) (k : Nat) : Bool := t k || u k
def andT (t u : Nat → Bool) (k : Nat) : Bool := t k && u k
def lessT (t u : Nat → Bool) (k : Nat) : Bool := t k && !u k
theorem S_congr {t u : Nat → Bool} (h : ∀ k, k < 200 → t k = u k) : S t = S u := spansTo_congr 200 h
theorem S_len (t : Nat → Bool) : (S t).length ≤ 200 := (spansTo_bound t 200).1
theorem tabOf_S (t : Nat → Bool) {k : Nat} (h : k < 200) : tabOf (S t) k = t k := by simp [S, tabOf_spansTo, h]
theorem S_nil {t : Nat → Bool} (h : ∀ k, k < 200 → t k = false) : S t = [] := by
  rw [S_congr (u := fun _ => false) h]
  have : ∀ n, spansTo (fun _ => false) n = [] := fun n => by
    induction n with
    | zero => rfl
    | succ n ih => simp [spansTo, ih]
  exact this 200

def spanC (L : List (Int × Int)) (w : World) (e : Ending) (w' : World) : Prop := ∃ ao cap, e = .returned (.slice ao L.length cap) ∧ Spn w' ao L ∧ Below w.heap.size w w'
theorem spanC_of {t : Nat → Bool} {L : List (Int × Int)} {w w' : World} {e : Ending} (hL : L = S t) (h : ∃ v, e = .returned v ∧ w'.ownsRow w.heap.size 26 2 v L.length (flat L) ∧ Below w.heap.size w w') : spanC (S t) w e w' := by
  obtain ⟨v, rfl, hown, hb⟩ := h
  subst hL
  obtain ⟨ao, cap, rfl, hs, _⟩ := own_spn_of hown (by omega)
  exact ⟨ao, cap, rfl, hs, hb⟩

theorem bothS {w : World} {ao bo : Option Addr} {cap cap2 : Nat} {t u : Nat → Bool} (hl : Spn w ao (S t)) (hm : Spn w bo (S u)) :
    Calls Try.prog 15 #[.slice ao (S t).length cap, .slice bo (S u).length cap2] w (spanC (S (andT t u)) w) := by
  have h1 := S_len t; have h2 := S_len u
  exact (both_walk ao bo (S t) (S u) cap cap2 w hl hm (by omega) (by omega)).mono fun e w' h => spanC_of (S_congr fun k hk => by simp only [partT, tabOf_S t hk, tabOf_S u hk, andT]; cases u k <;> rfl) h
theorem lessS {w : World} {ao bo : Option Addr} {cap cap2 : Nat} {t u : Nat → Bool} (hl : Spn w ao (S t)) (hm : Spn w bo (S u)) :
    Calls Try.prog 11 #[.slice ao (S t).length cap, .slice bo (S u).length cap2] w (spanC (S (lessT t u)) w) := by
  have h1 := S_len t; have h2 := S_len u
  exact (less_walk ao bo (S t) (S u) cap cap2 w hl hm (by omega) (by omega)).mono fun e w' h => spanC_of (S_congr fun k hk => by simp only [partT, tabOf_S t hk, tabOf_S u hk, lessT]; cases u k <;> rfl) h
theorem sameS {w : World} {ao bo : Option Addr} {cap cap2 : Nat} {t u : Nat → Bool} (hl : Spn w ao (S t)) (hm : Spn w bo (S u)) (h : ∀ k, k < 200 → t k = u k) :
    Calls Try.prog 10 #[.slice ao (S t).length cap, .slice bo (S u).length cap2] w fun e w' => e = .returned (.bool true) ∧ Below w.heap.size w w' := by
  have h1 := S_len t; have h2 := S_len u
  have hw := same_walk ao bo (S t) (S u) cap cap2 w hl hm (by omega) (by omega)
  rw [decide_eq_true (S_congr h)] at hw
  exact hw
theorem rightS {w : World} {ao : Option Addr} {cap : Nat} {t : Nat → Bool} (hl : Spn w ao (S t)) :
    Calls Try.prog 16 #[.slice ao (S t).length cap] w fun e w' => e = .returned (.bool true) ∧ Below w.heap.size w w' := by
  have h1 := S_len t
  have hw := right_walk ao (S t) cap w hl (by omega)
  rw [show rightL (S t) none = true from rightL_spansTo t 200 (by omega)] at hw
  exact hw

theorem Spn.alloc {w : World} {ao : Option Addr} {l : List (Int × Int)} (h : Spn w ao l) (o : Obj) : Spn (w.alloc o) ao l := h.carry ((Below.refl _ _).alloc (Nat.le_refl _) o)

/-- A new slice of two, of three. -/
theorem many2 {w : World} {ao bo : Option Addr} {cap cap2 : Nat} {t u : Nat → Bool} {ty : TypeId} (hl : Spn w ao (S t)) (hm : Spn w bo (S u)) :
    Many (w.alloc (.cells #[.slice ao (S t).length cap, .slice bo (S u).length cap2] ty)) (some ⟨w.heap.size, 0, none⟩) [(ao, cap, S t), (bo, cap2, S u)] := by
  have h1 := S_len t; have h2 := S_len u
  refine ⟨fun _ => ⟨w.heap.size, 0, rfl, by simp, fun i p hp => ?_⟩, fun p hp => ?_⟩
  · rw [Nat.zero_add, World.cell?_alloc_new]
    match i, hp with
    | 0, hp => cases hp; rfl
    | 1, hp => cases hp; rfl
  · simp only [List.mem_cons, List.not_mem_nil, or_false] at hp
    rcases hp with rfl | rfl
    · exact ⟨hl.alloc _, by dsimp only; omega⟩
    · exact ⟨hm.alloc _, by dsimp only; omega⟩
theorem many3 {w : World} {ao bo co : Option Addr} {cap cap2 cap3 : Nat} {t u v : Nat → Bool} {ty : TypeId} (hl : Spn w ao (S t)) (hm : Spn w bo (S u)) (hn : Spn w co (S v)) :
    Many (w.alloc (.cells #[.slice ao (S t).length cap, .slice bo (S u).length cap2, .slice co (S v).length cap3] ty)) (some ⟨w.heap.size, 0, none⟩) [(ao, cap, S t), (bo, cap2, S u), (co, cap3, S v)] := by
  have h1 := S_len t; have h2 := S_len u; have h3 := S_len v
  refine ⟨fun _ => ⟨w.heap.size, 0, rfl, by simp, fun i p hp => ?_⟩, fun p hp => ?_⟩
  · rw [Nat.zero_add, World.cell?_alloc_new]
    match i, hp with
    | 0, hp => cases hp; rfl
    | 1, hp => cases hp; rfl
    | 2, hp => cases hp; rfl
  · simp only [List.mem_cons, List.not_mem_nil, or_false] at hp
    rcases hp with rfl | rfl | rfl
    · exact ⟨hl.alloc _, by dsimp only; omega⟩
    · exact ⟨hm.alloc _, by dsimp only; omega⟩
    · exact ⟨hn.alloc _, by dsimp only; omega⟩

theorem join2S {w : World} {ao bo : Option Addr} {cap cap2 : Nat} {t u : Nat → Bool} {ty : TypeId} (hl : Spn w ao (S t)) (hm : Spn w bo (S u)) :
    Calls Try.prog 14 #[.slice (some ⟨w.heap.size, 0, none⟩) 2 2] (w.alloc (.cells #[.slice ao (S t).length cap, .slice bo (S u).length cap2] ty)) (spanC (S (orT t u)) w) := by
  refine (join_walk _ _ 2 _ (many2 hl hm) (by simp)).mono fun e w' h => ?_
  have := spanC_of (t := orT t u) (S_congr fun k hk => by simp only [allL, List.flatMap_cons, List.flatMap_nil, List.append_nil, tabOf_append, tabOf_S t hk, tabOf_S u hk, orT]) h
  obtain ⟨a, c, e1, h1, h2⟩ := this
  exact ⟨a, c, e1, h1, ((Below.refl _ _).alloc (Nat.le_refl _) _).trans (h2.mono (by simp))⟩
theorem join3S {w : World} {ao bo co : Option Addr} {cap cap2 cap3 : Nat} {t u v : Nat → Bool} {ty : TypeId} (hl : Spn w ao (S t)) (hm : Spn w bo (S u)) (hn : Spn w co (S v)) :
    Calls Try.prog 14 #[.slice (some ⟨w.heap.size, 0, none⟩) 3 3] (w.alloc (.cells #[.slice ao (S t).length cap, .slice bo (S u).length cap2, .slice co (S v).length cap3] ty)) (spanC (S (orT t (orT u v))) w) := by
  refine (join_walk _ _ 3 _ (many3 hl hm hn) (by simp)).mono fun e w' h => ?_
  have := spanC_of (t := orT t (orT u v)) (S_congr fun k hk => by simp only [allL, List.flatMap_cons, List.flatMap_nil, List.append_nil, tabOf_append, tabOf_S t hk, tabOf_S u hk, tabOf_S v hk, orT]) h
  obtain ⟨a, c, e1, h1, h2⟩ := this
  exact ⟨a, c, e1, h1, ((Below.refl _ _).alloc (Nat.le_refl _) _).trans (h2.mono (by simp))⟩
theorem join0S {w : World} : Calls Try.prog 14 #[.slice none 0 0] w (spanC (S fun _ => false) w) := by
  refine (join_walk none [] 0 w ⟨fun h => absurd rfl h, fun p hp => by cases hp⟩ (by simp)).mono fun e w' h => spanC_of (S_congr fun k hk => by simp [allL, tabOf]) h

theorem flagsS {w : World} {ao : Option Addr} {cap : Nat} {l : List Int} (hl : Nums w ao l) (hn : l.length ≤ 9223372036854775807) :
    Calls Try.prog 13 #[.slice ao l.length cap] w fun e w' => ∃ ao' cap', e = .returned (.tuple #[.slice (some ⟨w.heap.size, 0, none⟩) 60 60, .slice ao' (S (flagsT l)).length cap']) ∧ Marks w' w.heap.size 60 (flagsT l) ∧
      Spn w' ao' (S (flagsT l)) ∧ Below w.heap.size w w' := by
  refine (flags_walk ao l cap w hl hn).mono fun e w' h => ?_
  obtain ⟨v, e1, hm, hown, hb⟩ := h
  have hS : spansTo (flagsT l) 60 = S (flagsT l) := (spansTo_stop (n := 60) (fun k hk => by
    cases h : flagsT l k
    · rfl
    · have := flagT_lt h; omega) 140).symm
  rw [hS] at hown
  obtain ⟨ao', cap', rfl, hs, _⟩ := own_spn_of hown (by omega)
  exact ⟨ao', cap', e1, hm, hs, hb⟩

end Go.Proofs.Ytlejcjgbkbmdmaa.span
