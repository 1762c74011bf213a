/-
  lset.Quote, walked.
-/
import Derived.Test.YtlgofplbbmjdjaaGreatDoorKx6zW
import Derived.Test.YtlgofplbbmjdjaaGreatDoorKxCp
import Derived.Deep.LoopGhost
namespace Go.Proofs
open Go.Shelf Go.RowKit Go.Proofs.YtlgofplbbmjdjaaGreatDoor.BH.Kx
set_option maxRecDepth 10000
theorem Tryz.bytes_one (l : List UInt8) (b : UInt8) : Lib.byteCells l ++ [.int .u8 b.toNat] = Lib.byteCells (l ++ [b]) := by rw [Lib.byteCells_append]; rfl
set_option maxHeartbeats 4000000 in
theorem Tryz.quote_walk (s : List UInt8) (hs : s.length ≤ 1000000) (w : World) : Calls Tryz.prog 160 #[.string ⟨s.toArray⟩] w fun e w' => e = .returned (.string ⟨(quoteV s).toArray⟩) ∧ Below w.heap.size w w' := by
  have h0 : Lib.IsBuilder 216 5 w.heap.size w.heap.size (Lib.byteCells []) (w.alloc (.cells #[.pointer none, .slice none 0 0] 216)) := Lib.fresh_isBuilder 216 5 w
  have b0 : Below w.heap.size w (w.alloc (.cells #[.pointer none, .slice none 0 0] 216)) := (Below.refl _ w).alloc (Nat.le_refl _) _
  have hsz : (⟨s.toArray⟩ : ByteArray).size = s.length := rfl
  go_enter Tryz.func160, Tryz.ntmps160
  go_wp2_with (go_at_call 179; refine (Tryz.writeByte w.heap.size w.heap.size (Lib.byteCells []) 34 _ h0 (by decide) b0.size).mono ?_)
  rintro e W1 ⟨rfl, h1, b1⟩
  rw [show (34 : Int) = ((34 : UInt8).toNat : Int) from rfl, Tryz.bytes_one] at h1
  go_wp2
  go_loopg [8] s.length (fun g i wr => ∃ k : Nat, k + g = s.length ∧ i = .int .i64 k ∧ Lib.BuilderAt 216 5 w.heap.size w.heap.size (.pointer (some ⟨w.heap.size, 0, none⟩)) (Lib.byteCells (34 :: (s.take k).flatMap quoteB)) wr ∧ Below w.heap.size w wr)
  case atStart => exact ⟨0, by simp, rfl, by simpa using h1, b0.trans b1⟩
  case round =>
    obtain ⟨k, hk, rfl, hI, hB⟩ := hrel
    have hI' : Lib.IsBuilder 216 5 w.heap.size w.heap.size (Lib.byteCells (34 :: (s.take k).flatMap quoteB)) wr := Or.inr hI
    have hlen : (Lib.byteCells (34 :: (s.take k).flatMap quoteB)).length ≤ 3000000 := by
      rw [Lib.byteCells_length, List.length_cons]
      have := flat_quote (s.take k)
      rw [List.length_take] at this; omega
    clear h1 h0 b1
    cases gk with
    | zero =>
      have hk0 : k = s.length := by omega
      subst hk0
      rw [List.take_length] at hI'
      go_wp2_with (go_at_call 179; refine (Tryz.writeByte w.heap.size w.heap.size _ 34 _ hI' (by rw [List.take_length] at hlen; omega) hB.size).mono ?_)
      rintro e W2 ⟨rfl, h2, b2⟩
      rw [show (34 : Int) = ((34 : UInt8).toNat : Int) from rfl, Tryz.bytes_one] at h2
      go_wp2_with (go_at_call 180; refine (Tryz.builderString w.heap.size w.heap.size _ _ (Or.inr h2) (hB.trans b2).size).mono ?_)
      rintro e W3 ⟨rfl, b3⟩
      go_wp2
      go_ret
      exact ⟨rfl, (hB.trans b2).trans b3⟩
    | succ g =>
      have hlt : k < s.length := by omega
      obtain ⟨b, hx⟩ : ∃ b, s[k]? = some b := ⟨_, List.getElem?_eq_getElem hlt⟩
      have hge : (⟨s.toArray⟩ : ByteArray)[k]'(by rw [hsz]; exact hlt) = b := by
        have := List.getElem?_eq_some_iff.mp hx
        obtain ⟨_, h⟩ := this
        exact h
      have hnext : (s.take (k + 1)).flatMap quoteB = (s.take k).flatMap quoteB ++ quoteB b := by
        rw [Go.Proofs.YtlgofplbbmjdjaaGreatDoor.BH.take_one hx, List.flatMap_append, List.flatMap_cons, List.flatMap_nil, List.append_nil]
      have two : (b = 34 ∨ b = 92) → ∀ W (hW : Lib.BuilderAt 216 5 w.heap.size w.heap.size (.pointer (some ⟨w.heap.size, 0, none⟩)) (Lib.byteCells (34 :: (s.take k).flatMap quoteB) ++ [.int .u8 92] ++ [.int .u8 b.toNat]) W), Lib.BuilderAt 216 5 w.heap.size w.heap.size (.pointer (some ⟨w.heap.size, 0, none⟩)) (Lib.byteCells (34 :: (s.take (k + 1)).flatMap quoteB)) W := by
        intro hb W hW
        rw [show (92 : Int) = ((92 : UInt8).toNat : Int) from rfl, Tryz.bytes_one, Tryz.bytes_one] at hW
        rw [hnext]
        have : quoteB b = [92, b] := by unfold quoteB; rw [if_pos hb]
        rw [this]
        simpa using hW
      have one : ¬ (b = 34 ∨ b = 92) → ∀ W (hW : Lib.BuilderAt 216 5 w.heap.size w.heap.size (.pointer (some ⟨w.heap.size, 0, none⟩)) (Lib.byteCells (34 :: (s.take k).flatMap quoteB) ++ [.int .u8 b.toNat]) W), Lib.BuilderAt 216 5 w.heap.size w.heap.size (.pointer (some ⟨w.heap.size, 0, none⟩)) (Lib.byteCells (34 :: (s.take (k + 1)).flatMap quoteB)) W := by
        intro hb W hW
        rw [Tryz.bytes_one] at hW
        rw [hnext]
        have : quoteB b = [b] := by unfold quoteB; rw [if_neg hb]
        rw [this]
        simpa using hW
      have T : Hid (∀ (h : b = 34 ∨ b = 92), _) := two
      have O : Hid (∀ (h : ¬ (b = 34 ∨ b = 92)), _) := one
      clear two one hnext hx
      by_cases hq : b = 34
      · subst hq
        have hge' := hge
        go_wp2_with (go_at_call 179; refine (Tryz.writeByte w.heap.size w.heap.size _ 92 _ hI' (by omega) hB.size).mono ?_)
        rintro e W2 rfl h2 b2
        have l2 : (Lib.byteCells (34 :: (s.take k).flatMap quoteB) ++ [Value.int .u8 92]).length + 1 ≤ 140737488355328 := by rw [List.length_append, List.length_singleton]; omega
        have i2 := (hB.trans b2).size
        go_wp2_with (go_at_call 179; refine (Tryz.writeByte w.heap.size w.heap.size _ _ _ (Or.inr h2) l2 i2).mono ?_)
        first | rintro e W3 rfl h3 b3 | rintro e W3 ⟨rfl, h3, b3⟩
        clear l2 i2
        go_wp2
        go_roundg g
        case measure => omega
        case rel => exact ⟨k + 1, by omega, by go_num, T.out (by simp) _ h3, (hB.trans b2).trans b3⟩
      by_cases hq2 : b = 92
      · subst hq2
        have hge' := hge
        go_wp2_with (go_at_call 179; refine (Tryz.writeByte w.heap.size w.heap.size _ 92 _ hI' (by omega) hB.size).mono ?_)
        rintro e W2 rfl h2 b2
        have l2 : (Lib.byteCells (34 :: (s.take k).flatMap quoteB) ++ [Value.int .u8 92]).length + 1 ≤ 140737488355328 := by rw [List.length_append, List.length_singleton]; omega
        have i2 := (hB.trans b2).size
        go_wp2_with (go_at_call 179; refine (Tryz.writeByte w.heap.size w.heap.size _ _ _ (Or.inr h2) l2 i2).mono ?_)
        first | rintro e W3 rfl h3 b3 | rintro e W3 ⟨rfl, h3, b3⟩
        clear l2 i2
        go_wp2
        go_roundg g
        case measure => omega
        case rel => exact ⟨k + 1, by omega, by go_num, T.out (by simp) _ h3, (hB.trans b2).trans b3⟩
      · have n1 : ¬ ((b.toNat : Int) = 34) := fun h => hq (UInt8.toNat_inj.mp (by have : (34 : UInt8).toNat = 34 := rfl; omega))
        have n2 : ¬ ((b.toNat : Int) = 92) := fun h => hq2 (UInt8.toNat_inj.mp (by have : (92 : UInt8).toNat = 92 := rfl; omega))
        have m1 : ¬ (b.toNat = 34) := by omega
        have m2 : ¬ (b.toNat = 92) := by omega
        have t1 : ((b.toNat : Int) == 34) = false := by simpa using n1
        have t2 : ((b.toNat : Int) == 92) = false := by simpa using n2
        have l1 : (Lib.byteCells (34 :: (s.take k).flatMap quoteB)).length + 1 ≤ 140737488355328 := by omega
        go_wp2_with fail
        refine (Tryz.writeByte w.heap.size w.heap.size _ _ _ hI' l1 hB.size).mono ?_
        first | rintro e W3 rfl h3 b3 | rintro e W3 ⟨rfl, h3, b3⟩
        go_wp2
        go_roundg g
        case measure => omega
        case rel => exact ⟨k + 1, by omega, by go_num, O.out (fun h => h.elim hq hq2) _ h3, hB.trans b3⟩
end Go.Proofs
