/-
  The program walked by facts (printed by kx.py).
-/
import Derived.Test.YtlgofplbbmjdjaaDoorProg
import Derived.Test.YtlgofplbbmjdjaaDoorBhW18
import Derived.KernelRfl
import Derived.Test.YtlgofplbbmjdjaaDoorBhRtL
import Derived.Test.YtlgofplbbmjdjaaDoorBhDkL
namespace Go.Proofs.YtlgofplbbmjdjaaDoor.kx
open Go Go.Proofs Go.Proofs.YtlgofplbbmjdjaaDoor.BH
set_option maxRecDepth 100000
noncomputable def kinds (f : FuncId) : Kind :=
  if (f = 3 ∨ f = 7 ∨ f = 8 ∨ f = 11 ∨ f = 17 ∨ f = 22 ∨ f = 25 ∨ f = 29 ∨ f = 32 ∨ f = 35 ∨ f = 36 ∨ f = 37 ∨ f = 38 ∨ f = 40 ∨ f = 41 ∨ f = 42 ∨ f = 54 ∨ f = 57 ∨ f = 58 ∨ f = 59 ∨ f = 62 ∨ f = 63 ∨ f = 64 ∨ f = 66 ∨ f = 73 ∨ f = 74 ∨ f = 78) then ⟨true, false, false, false, false⟩ else
  ⟨false, false, false, false, false⟩
noncomputable def C : Ctx := ⟨Tryd.prog, ⟨kinds, fun _ => none⟩, fun _ _ h => (by cases h), by kernel_rfl⟩
theorem nb_T {b : Bool} (h : (!b) = true) : b = false := by cases b <;> simp_all
theorem nb_F {b : Bool} (h : (!b) = false) : b = true := by cases b <;> simp_all
theorem B25 : buildF C.P 25 = ⟨fun ps => bnd (fillV (pairAt [(0, 1), (1, 1)]) [.str [], .str []] ps) fun l => some (.agg l)⟩ := by kernel_rfl
theorem B30 : buildF C.P 30 = ⟨fun ps => bnd (fillV (pairAt [(0, 1), (1, 1)]) [.int .i64 0, .int .i64 0] ps) fun l => some (.agg l)⟩ := by kernel_rfl
theorem B34 : buildF C.P 34 = ⟨fun ps => bnd (fillV (pairAt [(0, 1), (1, 1)]) [.slice none 0 (.exact 0), .int .i64 0] ps) fun l => some (.agg l)⟩ := by kernel_rfl
theorem B44 : buildF C.P 44 = ⟨fun ps => bnd (fillV (pairAt [(0, 1)]) [.slice none 0 (.exact 0)] ps) fun l => some (.agg l)⟩ := by kernel_rfl
theorem B51 : buildF C.P 51 = ⟨fun ps => bnd (fillV (pairAt [(0, 1), (1, 1)]) [.slice none 0 (.exact 0), .ptr none] ps) fun l => some (.agg l)⟩ := by kernel_rfl
theorem B56 : buildF C.P 56 = ⟨fun ps => bnd (fillV (pairAt [(0, 1)]) [.slice none 0 (.exact 0)] ps) fun l => some (.agg l)⟩ := by kernel_rfl
theorem O25_0 : fieldOff C.P 25 0 = some 0 := by kernel_rfl
theorem O25_1 : fieldOff C.P 25 1 = some 1 := by kernel_rfl
theorem O30_0 : fieldOff C.P 30 0 = some 0 := by kernel_rfl
theorem O30_1 : fieldOff C.P 30 1 = some 1 := by kernel_rfl
theorem O34_0 : fieldOff C.P 34 0 = some 0 := by kernel_rfl
theorem O34_1 : fieldOff C.P 34 1 = some 1 := by kernel_rfl
theorem O44_0 : fieldOff C.P 44 0 = some 0 := by kernel_rfl
theorem O51_0 : fieldOff C.P 51 0 = some 0 := by kernel_rfl
theorem O51_1 : fieldOff C.P 51 1 = some 1 := by kernel_rfl
theorem O56_0 : fieldOff C.P 56 0 = some 0 := by kernel_rfl
theorem O72_0 : fieldOff C.P 72 0 = some 0 := by kernel_rfl
theorem O72_1 : fieldOff C.P 72 1 = some 1 := by kernel_rfl
theorem O72_2 : fieldOff C.P 72 2 = some 2 := by kernel_rfl
theorem a25 : aggOf C.P 25 = some true := by kernel_rfl
theorem a26 : aggOf C.P 26 = some false := by kernel_rfl
theorem a3 : aggOf C.P 3 = some false := by kernel_rfl
theorem a30 : aggOf C.P 30 = some true := by kernel_rfl
theorem a4 : aggOf C.P 4 = some false := by kernel_rfl
theorem a42 : aggOf C.P 42 = some false := by kernel_rfl
theorem a49 : aggOf C.P 49 = some false := by kernel_rfl
theorem a51 : aggOf C.P 51 = some true := by kernel_rfl
theorem a54 : aggOf C.P 54 = some false := by kernel_rfl
theorem a72 : aggOf C.P 72 = some true := by kernel_rfl
theorem a9 : aggOf C.P 9 = some false := by kernel_rfl
theorem b25 : bytesOf C.P 25 = some 32 := by kernel_rfl
theorem b26 : bytesOf C.P 26 = some 24 := by kernel_rfl
theorem b3 : bytesOf C.P 3 = some 8 := by kernel_rfl
theorem b30 : bytesOf C.P 30 = some 16 := by kernel_rfl
theorem b34 : bytesOf C.P 34 = some 32 := by kernel_rfl
theorem b51 : bytesOf C.P 51 = some 32 := by kernel_rfl
theorem b9 : bytesOf C.P 9 = some 16 := by kernel_rfl
theorem s101 : szOf C.P 101 = some 256 := by kernel_rfl
theorem s25 : szOf C.P 25 = some 2 := by kernel_rfl
theorem s26 : szOf C.P 26 = some 1 := by kernel_rfl
theorem s3 : szOf C.P 3 = some 1 := by kernel_rfl
theorem s30 : szOf C.P 30 = some 2 := by kernel_rfl
theorem s34 : szOf C.P 34 = some 2 := by kernel_rfl
theorem s4 : szOf C.P 4 = some 1 := by kernel_rfl
theorem s42 : szOf C.P 42 = some 1 := by kernel_rfl
theorem s44 : szOf C.P 44 = some 1 := by kernel_rfl
theorem s51 : szOf C.P 51 = some 2 := by kernel_rfl
theorem s54 : szOf C.P 54 = some 1 := by kernel_rfl
theorem s56 : szOf C.P 56 = some 1 := by kernel_rfl
theorem s72 : szOf C.P 72 = some 3 := by kernel_rfl
theorem s9 : szOf C.P 9 = some 1 := by kernel_rfl
theorem u101 : undOf C.P 101 = some (.array 256 4) := by kernel_rfl
theorem u106 : undOf C.P 106 = some (.slice 9) := by kernel_rfl
theorem u22 : undOf C.P 22 = some (.pointer 44) := by kernel_rfl
theorem u25 : undOf C.P 25 = some (.struct (fieldsOf C.P 25)) := by kernel_rfl
theorem u26 : undOf C.P 26 = some (.slice 25) := by kernel_rfl
theorem u27 : undOf C.P 27 = some (.int .i64) := by kernel_rfl
theorem u3 : undOf C.P 3 = some (.int .i64) := by kernel_rfl
theorem u31 : undOf C.P 31 = some (.slice 34) := by kernel_rfl
theorem u37 : undOf C.P 37 = some (.slice 3) := by kernel_rfl
theorem u39 : undOf C.P 39 = some (.slice 26) := by kernel_rfl
theorem u42 : undOf C.P 42 = some (.slice 51) := by kernel_rfl
theorem u54 : undOf C.P 54 = some (.slice 30) := by kernel_rfl
theorem u58 : undOf C.P 58 = some (.slice 72) := by kernel_rfl
theorem u79 : undOf C.P 79 = some (.int .u64) := by kernel_rfl
theorem u9 : undOf C.P 9 = some (.string) := by kernel_rfl
theorem z101 : zeroCells C.P 101 = some [.bool false, .bool false, .bool false, .bool false, .bool false, .bool false, .bool false, .bool false, .bool false, .bool false, .bool false, .bool false, .bool false, .bool false, .bool false, .bool false, .bool false, .bool false, .bool false, .bool false, .bool false, .bool false, .bool false, .bool false, .bool false, .bool false, .bool false, .bool false, .bool false, .bool false, .bool false, .bool false, .bool false, .bool false, .bool false, .bool false, .bool false, .bool false, .bool false, .bool false, .bool false, .bool false, .bool false, .bool false, .bool false, .bool false, .bool false, .bool false, .bool false, .bool false, .bool false, .bool false, .bool false, .bool false, .bool false, .bool false, .bool false, .bool false, .bool false, .bool false, .bool false, .bool false, .bool false, .bool false, .bool false, .bool false, .bool false, .bool false, .bool false, .bool false, .bool false, .bool false, .bool false, .bool false, .bool false, .bool false, .bool false, .bool false, .bool false, .bool false, .bool false, .bool false, .bool false, .bool false, .bool false, .bool false, .bool false, .bool false, .bool false, .bool false, .bool false, .bool false, .bool false, .bool false, .bool false, .bool false, .bool false, .bool false, .bool false, .bool false, .bool false, .bool false, .bool false, .bool false, .bool false, .bool false, .bool false, .bool false, .bool false, .bool false, .bool false, .bool false, .bool false, .bool false, .bool false, .bool false, .bool false, .bool false, .bool false, .bool false, .bool false, .bool false, .bool false, .bool false, .bool false, .bool false, .bool false, .bool false, .bool false, .bool false, .bool false, .bool false, .bool false, .bool false, .bool false, .bool false, .bool false, .bool false, .bool false, .bool false, .bool false, .bool false, .bool false, .bool false, .bool false, .bool false, .bool false, .bool false, .bool false, .bool false, .bool false, .bool false, .bool false, .bool false, .bool false, .bool false, .bool false, .bool false, .bool false, .bool false, .bool false, .bool false, .bool false, .bool false, .bool false, .bool false, .bool false, .bool false, .bool false, .bool false, .bool false, .bool false, .bool false, .bool false, .bool false, .bool false, .bool false, .bool false, .bool false, .bool false, .bool false, .bool false, .bool false, .bool false, .bool false, .bool false, .bool false, .bool false, .bool false, .bool false, .bool false, .bool false, .bool false, .bool false, .bool false, .bool false, .bool false, .bool false, .bool false, .bool false, .bool false, .bool false, .bool false, .bool false, .bool false, .bool false, .bool false, .bool false, .bool false, .bool false, .bool false, .bool false, .bool false, .bool false, .bool false, .bool false, .bool false, .bool false, .bool false, .bool false, .bool false, .bool false, .bool false, .bool false, .bool false, .bool false, .bool false, .bool false, .bool false, .bool false, .bool false, .bool false, .bool false, .bool false, .bool false, .bool false, .bool false, .bool false, .bool false, .bool false, .bool false, .bool false, .bool false, .bool false, .bool false, .bool false, .bool false, .bool false, .bool false, .bool false, .bool false, .bool false, .bool false, .bool false, .bool false, .bool false] := by kernel_rfl
theorem z25 : zeroCells C.P 25 = some [.str [], .str []] := by kernel_rfl
theorem z26 : zeroCells C.P 26 = some [.slice none 0 (.exact 0)] := by kernel_rfl
theorem z3 : zeroCells C.P 3 = some [.int .i64 0] := by kernel_rfl
theorem z30 : zeroCells C.P 30 = some [.int .i64 0, .int .i64 0] := by kernel_rfl
theorem z34 : zeroCells C.P 34 = some [.slice none 0 (.exact 0), .int .i64 0] := by kernel_rfl
theorem z51 : zeroCells C.P 51 = some [.slice none 0 (.exact 0), .ptr none] := by kernel_rfl
theorem z72 : zeroCells C.P 72 = some [.str [], .str [], .int .i64 0] := by kernel_rfl
theorem z9 : zeroCells C.P 9 = some [.str []] := by kernel_rfl
end Go.Proofs.YtlgofplbbmjdjaaDoor.kx
namespace Go.Proofs.YtlgofplbbmjdjaaDoor.kx
open Go Go.Proofs Go.Proofs.YtlgofplbbmjdjaaDoor.BH
open Go.Proofs.YtlgofplbbmjdjaaDoor.BH.Rt
open Go.Proofs.YtlgofplbbmjdjaaDoor.BH.Dk (withinV withinV_in)
set_option maxRecDepth 100000
theorem extIB_fn (s : List UInt8) (b : UInt8) : PFn C 73 [.str s, .int .u8 b.toNat] (.int .i64 (indexByteV b.toNat s 0)) := by
  refine pfn_run (N := 1) (h' := AHeap.empty) rfl rfl rfl ?_
  show (externF "internal/bytealg.IndexByteString").run [.str s, .int .u8 b.toNat] AHeap.empty = _
  unfold externF
  rw [if_pos rfl]
  show (bnd (strOf (.str s)) fun s => bnd (Go.Proofs.YtlgofplbbmjdjaaDoor.BH.byteOf (.int .u8 b.toNat)) fun (c : UInt8) => some (AV.int .i64 (indexByteV c.toNat s 0), AHeap.empty)) = _
  rw [byteOf_is]; rfl
theorem set_fn : PFn C 57 [.str inner] (.tuple [.agg SET, .bool true]) := pfn_eval (N := 4000) rfl rfl (by kernel_rfl) (by kernel_rfl)

theorem slIndexByte_fn (s : List UInt8) (b : UInt8) : PFn C 54 [.str s, .int .u8 b.toNat] (.int .i64 (indexByteV b.toNat s 0)) := by
  refine fn_view rfl rfl (fn := Tryd.f54) rfl rfl rfl rfl rfl ?_
  refine wc_seq ?_
  refine wc_text ?_
  refine w_assign rfl rfl ?_
  refine ws_nil ?_
  refine wc_seq ?_
  refine wc_text ?_
  refine w_move rfl rfl ?_
  refine w_move rfl rfl ?_
  refine w_call rfl rfl (cw_fn rfl rfl (.cons fz (.cons fz .nil)) (extIB_fn _ _) ?_)
  refine w_assign rfl rfl ?_
  refine ws_nil ?_
  refine wc_ret ?_
  refine ⟨_, (.cons (.tmp rfl) .nil), ?_, rfl⟩
  first | rfl | simp [oneOf]

theorem indexByte_fn (s : List UInt8) (b : UInt8) : PFn C 35 [.str s, .int .u8 b.toNat] (.int .i64 (indexByteV b.toNat s 0)) := by
  refine fn_view rfl rfl (fn := Tryd.f35) rfl rfl rfl rfl rfl ?_
  refine wc_seq ?_
  refine wc_text ?_
  refine w_assign rfl rfl ?_
  refine ws_nil ?_
  refine wc_seq ?_
  refine wc_text ?_
  refine w_move rfl rfl ?_
  refine w_move rfl rfl ?_
  refine w_call rfl rfl (cw_fn rfl rfl (.cons fz (.cons fz .nil)) (slIndexByte_fn _ _) ?_)
  refine w_assign rfl rfl ?_
  refine ws_nil ?_
  refine wc_ret ?_
  refine ⟨_, (.cons (.tmp rfl) .nil), ?_, rfl⟩
  first | rfl | simp [oneOf]

theorem contains_fn (b : UInt8) : PFn C 74 [.cptr SET 0, .int .u8 b.toNat] (.bool (isIn b.toNat)) := by
  refine fn_view rfl rfl (fn := Tryd.f74) rfl rfl rfl rfl rfl ?_
  have hb := UInt8.toNat_lt b
  refine wc_seq ?_
  refine wc_text ?_
  refine w_assign rfl rfl ?_
  refine ws_nil ?_
  refine wc_seq ?_
  refine wc_text ?_
  refine w_move rfl rfl ?_
  refine w_move rfl rfl ?_
  refine w_nil rfl rfl rfl ?_
  first | refine w_aidxC u101 s4 rfl rfl rfl (by omega) ?_ | refine w_aidxP u101 s4 rfl rfl rfl (by omega) ?_
  first | refine w_ldC1 a4 rfl rfl rdc ?_ | refine w_ldP1 a4 rfl rfl tk rdp ?_
  refine w_assign rfl rfl ?_
  refine ws_nil ?_
  refine wc_ret ?_
  refine ⟨_, (.cons (.tmp rfl) .nil), ?_, rfl⟩
  first | rfl | simp [oneOf]

theorem trimL_fn (s0 : List UInt8) : PFn C 58 [.str s0, .cptr SET 0] (.str (trimL s0)) := by
  refine fn_view rfl rfl (fn := Tryd.f58) rfl rfl rfl rfl rfl ?_
  refine wc_seq ?_
  refine wc_text ?_
  refine w_assign (v := .str []) rfl rfl ?_
  refine ws_nil ?_
  refine wc_seq ?_
  refine wc_block ?_
  refine wc_loop (σ := { l : List UInt8 // trimL l = trimL s0 }) (fun u => [(0, .str u.1), (1, .cptr SET 0)]) (fun u => []) (fun u => u.1.length) ?_ ⟨s0, rfl⟩ (.cons rfl (.cons rfl (.nil _))) (Sel.weak .nil)
  rintro ⟨l, hl⟩
  try dsimp only
  refine wc_seq ?_
  refine wc_seq ?_
  refine wc_text ?_
  refine w_move rfl rfl ?_
  refine w_len rfl rfl (len_str u9) ?_
  refine w_gtr u3 rfl rfl rfl ?_
  refine ws_nil ?_
  refine wc_cond rfl (fun h1 => ?_) (fun h1 => ?_)
  · replace h1 := of_decide_eq_true h1
    obtain ⟨b, r, rfl⟩ : ∃ b r, l = b :: r := by
      cases l with
      | nil => exact absurd h1 (by simp)
      | cons b r => exact ⟨b, r, rfl⟩
    have hx : (b :: r)[(0 : Int).toNat]? = some b := rfl
    refine wc_stay ?_
    refine wc_block ?_
    refine wc_seq ?_
    refine wc_seq ?_
    refine wc_text ?_
    refine w_move rfl rfl ?_
    refine w_move rfl rfl ?_
    refine w_sidx u9 rfl rfl rfl (by omega) (by assumption) ?_
    refine w_call rfl rfl (cw_fn rfl rfl (.cons fz (.cons fz .nil)) (contains_fn _) ?_)
    refine w_not rfl rfl ?_
    refine ws_nil ?_
    refine wc_cond rfl (fun h2 => ?_) (fun h2 => ?_)
    · replace h2 := nb_T h2
      rw [trimL_out h2] at hl
      refine wc_exit ?_
      refine wc_seq ?_
      refine wc_text ?_
      refine w_move rfl rfl ?_
      refine w_assign rfl rfl ?_
      refine ws_nil ?_
      refine wc_ret ?_
      refine ⟨_, (.cons (.tmp rfl) .nil), ?_, rfl⟩
      rw [← hl]; rfl
    · replace h2 := nb_F h2
      refine wc_stay ?_
      refine wc_text ?_
      have hl1 : (b :: r).length = r.length + 1 := rfl
      refine w_move rfl rfl ?_
      refine w_slice rfl rfl rfl rfl rfl (slice_str (i := 1) (j := (b :: r).length) u9 (by rfl) (by rfl) (by omega) (by omega)) ?_
      refine w_assign rfl rfl ?_
      refine ws_nil ?_
      rw [show ((b :: r).drop 1).take ((b :: r).length - 1) = r by simp]
      exact ⟨⟨r, by rw [← trimL_in h2]; exact hl⟩, by simp only; omega, (.cons rfl (.cons rfl (.nil _))), (Sel.weak .nil)⟩
  · replace h1 := of_decide_eq_false h1
    obtain rfl : l = [] := by
      cases l with
      | nil => rfl
      | cons b r => exact absurd (by simp only [List.length_cons]; omega) h1
    refine wc_exit ?_
    refine wc_seq ?_
    refine wc_text ?_
    refine w_move rfl rfl ?_
    refine w_assign rfl rfl ?_
    refine ws_nil ?_
    refine wc_ret ?_
    refine ⟨_, (.cons (.tmp rfl) .nil), ?_, rfl⟩
    rw [← hl]; rfl

theorem trimR_fn (s0 : List UInt8) (hs : s0.length < 1000000) : PFn C 59 [.str s0, .cptr SET 0] (.str (trimR s0)) := by
  refine fn_view rfl rfl (fn := Tryd.f59) rfl rfl rfl rfl rfl ?_
  refine wc_seq ?_
  refine wc_text ?_
  refine w_assign (v := .str []) rfl rfl ?_
  refine ws_nil ?_
  refine wc_seq ?_
  refine wc_block ?_
  refine wc_loop (σ := { l : List UInt8 // trimR l = trimR s0 ∧ l.length ≤ s0.length }) (fun u => [(0, .str u.1), (1, .cptr SET 0)]) (fun u => []) (fun u => u.1.length) ?_ ⟨s0, rfl, Nat.le_refl _⟩ (.cons rfl (.cons rfl (.nil _))) (Sel.weak .nil)
  rintro ⟨l, hl, hle⟩
  try dsimp only
  refine wc_seq ?_
  refine wc_seq ?_
  refine wc_text ?_
  refine w_move rfl rfl ?_
  refine w_len rfl rfl (len_str u9) ?_
  refine w_gtr u3 rfl rfl rfl ?_
  refine ws_nil ?_
  refine wc_cond rfl (fun h1 => ?_) (fun h1 => ?_)
  · replace h1 := of_decide_eq_true h1
    obtain ⟨b, r, rfl, hr⟩ := last_of (l := l) (k := l.length - 1) (by omega)
    have hl1 : (r ++ [b]).length = r.length + 1 := by simp
    have hx : (r ++ [b])[(((r ++ [b]).length : Int) - 1).toNat]? = some b := by
      rw [show (((r ++ [b]).length : Int) - 1).toNat = r.length by omega]; simp
    refine wc_stay ?_
    refine wc_block ?_
    refine wc_seq ?_
    refine wc_seq ?_
    refine wc_text ?_
    refine w_move rfl rfl ?_
    refine w_move rfl rfl ?_
    refine w_move rfl rfl ?_
    refine w_len rfl rfl (len_str u9) ?_
    refine w_sub u3 rfl rfl rfl (by omega) ?_
    refine w_sidx u9 rfl rfl rfl (by omega) (by assumption) ?_
    refine w_call rfl rfl (cw_fn rfl rfl (.cons fz (.cons fz .nil)) (contains_fn _) ?_)
    refine w_not rfl rfl ?_
    refine ws_nil ?_
    refine wc_cond rfl (fun h2 => ?_) (fun h2 => ?_)
    · replace h2 := nb_T h2
      rw [trimR_out h2] at hl
      refine wc_exit ?_
      refine wc_seq ?_
      refine wc_text ?_
      refine w_move rfl rfl ?_
      refine w_assign rfl rfl ?_
      refine ws_nil ?_
      refine wc_ret ?_
      refine ⟨_, (.cons (.tmp rfl) .nil), ?_, rfl⟩
      rw [← hl]; rfl
    · replace h2 := nb_F h2
      refine wc_stay ?_
      refine wc_text ?_
      refine w_move rfl rfl ?_
      refine w_move rfl rfl ?_
      refine w_len rfl rfl (len_str u9) ?_
      refine w_sub u3 rfl rfl rfl (by omega) ?_
      refine w_slice rfl rfl rfl rfl rfl (slice_str (i := 0) (j := r.length) u9 (by rfl) (natOr_of (by omega)) (by omega) (by omega)) ?_
      refine w_assign rfl rfl ?_
      refine ws_nil ?_
      rw [show ((r ++ [b]).drop 0).take (r.length - 0) = r by simp]
      exact ⟨⟨r, by rw [← trimR_in h2]; exact hl, by omega⟩, by simp only; omega, (.cons rfl (.cons rfl (.nil _))), (Sel.weak .nil)⟩
  · replace h1 := of_decide_eq_false h1
    obtain rfl : l = [] := List.eq_nil_of_length_eq_zero (by omega)
    refine wc_exit ?_
    refine wc_seq ?_
    refine wc_text ?_
    refine w_move rfl rfl ?_
    refine w_assign rfl rfl ?_
    refine ws_nil ?_
    refine wc_ret ?_
    refine ⟨_, (.cons (.tmp rfl) .nil), ?_, rfl⟩
    rw [← hl]; rfl

theorem trim_fn (s : List UInt8) (hs : s.length < 1000000) : PFn C 36 [.str s, .str inner] (.str (trimL (trimR s))) := by
  refine fn_view rfl rfl (fn := Tryd.f36) rfl rfl rfl rfl rfl ?_
  refine wc_seq ?_
  refine wc_text ?_
  refine w_assign (v := .str []) rfl rfl ?_
  refine ws_nil ?_
  refine wc_seq ?_
  refine wc_seq ?_
  refine wc_text ?_
  refine w_move rfl rfl ?_
  refine w_seql (b := []) u9 rfl rfl rfl ?_
  refine w_move rfl rfl ?_
  refine ws_split (t := 9) rfl (fun g9 => ?_) (fun g9 => ?_)
  · first | replace g9 := of_decide_eq_true g9 | replace g9 := of_decide_eq_false g9 | replace g9 := of_decide_eq_false (nb_T g9) | replace g9 := of_decide_eq_true (nb_F g9) | replace g9 := nb_T g9 | replace g9 := nb_F g9 | skip
    first | replace g9 := Int.not_lt.mp g9 | replace g9 := Int.not_le.mp g9 | replace g9 := Decidable.not_not.mp g9 | skip
    refine ws_off rfl rfl rfl rfl ?_
    refine ws_off rfl rfl rfl rfl ?_
    first | refine w_pickT rfl rfl rfl ⟨_, rfl⟩ ?_ | refine w_pickF rfl rfl ⟨_, rfl⟩ rfl ?_ | refine w_pick rfl rfl rfl rfl ?_
    refine ws_nil ?_
    refine wc_condT rfl ?_
    refine wc_seq ?_
    refine wc_text ?_
    refine w_move rfl rfl ?_
    refine w_assign rfl rfl ?_
    refine ws_nil ?_
    refine wc_ret ?_
    refine ⟨_, (.cons (.tmp rfl) .nil), ?_, rfl⟩
    first | (rw [g9]; rfl) | (subst g9; rfl) | rfl
  · first | replace g9 := of_decide_eq_true g9 | replace g9 := of_decide_eq_false g9 | replace g9 := of_decide_eq_false (nb_T g9) | replace g9 := of_decide_eq_true (nb_F g9) | replace g9 := nb_T g9 | replace g9 := nb_F g9 | skip
    first | replace g9 := Int.not_lt.mp g9 | replace g9 := Int.not_le.mp g9 | replace g9 := Decidable.not_not.mp g9 | skip
    refine ws_on rfl rfl ?_
    refine w_move rfl rfl ?_
    refine ws_on rfl rfl ?_
    refine w_seql (b := []) u9 rfl rfl rfl ?_
    first | refine w_pickT rfl rfl rfl ⟨_, rfl⟩ ?_ | refine w_pickF rfl rfl ⟨_, rfl⟩ rfl ?_ | refine w_pick rfl rfl rfl rfl ?_
    refine ws_nil ?_
    refine wc_cond rfl (fun h1 => ?_) (fun h1 => ?_)
    · first | replace h1 := of_decide_eq_true h1 | replace h1 := of_decide_eq_false h1 | replace h1 := of_decide_eq_false (nb_T h1) | replace h1 := of_decide_eq_true (nb_F h1) | replace h1 := nb_T h1 | replace h1 := nb_F h1 | skip
      first | replace h1 := Int.not_lt.mp h1 | replace h1 := Int.not_le.mp h1 | replace h1 := Decidable.not_not.mp h1 | skip
      exact absurd h1 (by decide)
    · first | replace h1 := of_decide_eq_true h1 | replace h1 := of_decide_eq_false h1 | replace h1 := of_decide_eq_false (nb_T h1) | replace h1 := of_decide_eq_true (nb_F h1) | replace h1 := nb_T h1 | replace h1 := nb_F h1 | skip
      first | replace h1 := Int.not_lt.mp h1 | replace h1 := Int.not_le.mp h1 | replace h1 := Decidable.not_not.mp h1 | skip
      refine wc_stay ?_
      refine wc_seq ?_
      refine wc_seq ?_
      refine wc_text ?_
      refine w_move rfl rfl ?_
      refine w_len rfl rfl (len_str u9) ?_
      refine w_eql u3 rfl rfl rfl ?_
      refine w_move rfl rfl ?_
      refine ws_split (t := 17) rfl (fun g17 => ?_) (fun g17 => ?_)
      · first | replace g17 := of_decide_eq_true g17 | replace g17 := of_decide_eq_false g17 | replace g17 := of_decide_eq_false (nb_T g17) | replace g17 := of_decide_eq_true (nb_F g17) | replace g17 := nb_T g17 | replace g17 := nb_F g17 | skip
        first | replace g17 := Int.not_lt.mp g17 | replace g17 := Int.not_le.mp g17 | replace g17 := Decidable.not_not.mp g17 | skip
        cases g17
      · first | replace g17 := of_decide_eq_true g17 | replace g17 := of_decide_eq_false g17 | replace g17 := of_decide_eq_false (nb_T g17) | replace g17 := of_decide_eq_true (nb_F g17) | replace g17 := nb_T g17 | replace g17 := nb_F g17 | skip
        first | replace g17 := Int.not_lt.mp g17 | replace g17 := Int.not_le.mp g17 | replace g17 := Decidable.not_not.mp g17 | skip
        refine ws_off rfl rfl rfl rfl ?_
        refine ws_off rfl rfl rfl rfl ?_
        refine ws_off rfl rfl rfl rfl ?_
        first | refine w_pickT rfl rfl rfl ⟨_, rfl⟩ ?_ | refine w_pickF rfl rfl ⟨_, rfl⟩ rfl ?_ | refine w_pick rfl rfl rfl rfl ?_
        refine ws_nil ?_
        refine wc_condF rfl ?_
        refine wc_stay ?_
        refine wc_seq ?_
        refine wc_seq ?_
        refine wc_text ?_
        refine w_move rfl rfl ?_
        refine w_call rfl rfl (cw_fn rfl rfl (.cons fz .nil) (set_fn) ?_)
        refine w_move rfl rfl ?_
        refine w_extract rfl rfl rfl ?_
        refine w_extract rfl rfl rfl ?_
        refine w_alloc z101 s101 rfl (fun o5 => ?_)
        refine w_st s101 rfl rfl rfl tk rfl rfl ovw ?_
        refine w_assign rfl rfl ?_
        refine ws_nil ?_
        refine wc_seq ?_
        refine wc_text ?_
        refine w_move rfl rfl ?_
        refine ws_nil ?_
        refine wc_cond rfl (fun h6 => ?_) (fun h6 => ?_)
        · skip
          refine wc_seq ?_
          refine wc_text ?_
          refine w_move rfl rfl ?_
          refine w_call rfl rfl (cw_fn rfl rfl (.cons fz (.cons fz .nil)) (trimR_fn _ (by omega)) ?_)
          refine w_call rfl rfl (cw_fn rfl rfl (.cons fz (.cons fz .nil)) (trimL_fn _) ?_)
          refine w_assign rfl rfl ?_
          refine ws_nil ?_
          refine wc_ret ?_
          refine ⟨_, (.cons (.tmp rfl) .nil), ?_, rfl⟩
          first | rfl | simp [oneOf]
        · skip
          cases h6

theorem word_fn (s : List UInt8) : PFn C 22 [.str s] (.bool (wordV s)) := by
  refine fn_view rfl rfl (fn := Tryd.f22) rfl rfl rfl rfl rfl ?_
  refine wc_seq ?_
  refine wc_text ?_
  refine w_assign rfl rfl ?_
  refine ws_nil ?_
  refine wc_seq ?_
  refine wc_seq ?_
  refine wc_text ?_
  refine w_move rfl rfl ?_
  refine w_seql (b := []) u9 rfl rfl rfl ?_
  refine w_move rfl rfl ?_
  refine ws_split (t := 5) rfl (fun g5 => ?_) (fun g5 => ?_)
  · first | replace g5 := of_decide_eq_true g5 | replace g5 := of_decide_eq_false g5 | replace g5 := of_decide_eq_false (nb_T g5) | replace g5 := of_decide_eq_true (nb_F g5) | replace g5 := nb_T g5 | replace g5 := nb_F g5 | skip
    first | replace g5 := Int.not_lt.mp g5 | replace g5 := Int.not_le.mp g5 | replace g5 := Decidable.not_not.mp g5 | skip
    refine ws_off rfl rfl rfl rfl ?_
    refine ws_off rfl rfl rfl rfl ?_
    refine ws_off rfl rfl rfl rfl ?_
    first | refine w_pickT rfl rfl rfl ⟨_, rfl⟩ ?_ | refine w_pickF rfl rfl ⟨_, rfl⟩ rfl ?_ | refine w_pick rfl rfl rfl rfl ?_
    refine w_move rfl rfl ?_
    refine ws_off rfl rfl rfl rfl ?_
    refine ws_off rfl rfl rfl rfl ?_
    refine ws_off rfl rfl rfl rfl ?_
    refine ws_off rfl rfl rfl rfl ?_
    first | refine w_pickT rfl rfl rfl ⟨_, rfl⟩ ?_ | refine w_pickF rfl rfl ⟨_, rfl⟩ rfl ?_ | refine w_pick rfl rfl rfl rfl ?_
    refine ws_nil ?_
    refine wc_condT rfl ?_
    refine wc_seq ?_
    refine wc_text ?_
    refine w_assign rfl rfl ?_
    refine ws_nil ?_
    refine wc_ret ?_
    refine ⟨_, (.cons (.tmp rfl) .nil), ?_, rfl⟩
    refine congrArg AV.bool ?_
    first | (rw [g5]; rfl) | exact word_long g10 | exact word_first (of_decide_eq_true h1)
  · first | replace g5 := of_decide_eq_true g5 | replace g5 := of_decide_eq_false g5 | replace g5 := of_decide_eq_false (nb_T g5) | replace g5 := of_decide_eq_true (nb_F g5) | replace g5 := nb_T g5 | replace g5 := nb_F g5 | skip
    first | replace g5 := Int.not_lt.mp g5 | replace g5 := Int.not_le.mp g5 | replace g5 := Decidable.not_not.mp g5 | skip
    obtain ⟨b, r, rfl⟩ : ∃ b r, s = b :: r := by
      cases s with
      | nil => exact absurd rfl g5
      | cons b r => exact ⟨b, r, rfl⟩
    have hx : (b :: r)[(0 : Int).toNat]? = some b := rfl
    refine ws_on rfl rfl ?_
    refine w_move rfl rfl ?_
    refine ws_on rfl rfl ?_
    refine w_len rfl rfl (len_str u9) ?_
    refine ws_on rfl rfl ?_
    refine w_gtr u3 rfl rfl rfl ?_
    first | refine w_pickT rfl rfl rfl ⟨_, rfl⟩ ?_ | refine w_pickF rfl rfl ⟨_, rfl⟩ rfl ?_ | refine w_pick rfl rfl rfl rfl ?_
    refine w_move rfl rfl ?_
    refine ws_split (t := 10) rfl (fun g10 => ?_) (fun g10 => ?_)
    · first | replace g10 := of_decide_eq_true g10 | replace g10 := of_decide_eq_false g10 | replace g10 := of_decide_eq_false (nb_T g10) | replace g10 := of_decide_eq_true (nb_F g10) | replace g10 := nb_T g10 | replace g10 := nb_F g10 | skip
      first | replace g10 := Int.not_lt.mp g10 | replace g10 := Int.not_le.mp g10 | replace g10 := Decidable.not_not.mp g10 | skip
      refine ws_off rfl rfl rfl rfl ?_
      refine ws_off rfl rfl rfl rfl ?_
      refine ws_off rfl rfl rfl rfl ?_
      refine ws_off rfl rfl rfl rfl ?_
      first | refine w_pickT rfl rfl rfl ⟨_, rfl⟩ ?_ | refine w_pickF rfl rfl ⟨_, rfl⟩ rfl ?_ | refine w_pick rfl rfl rfl rfl ?_
      refine ws_nil ?_
      refine wc_condT rfl ?_
      refine wc_seq ?_
      refine wc_text ?_
      refine w_assign rfl rfl ?_
      refine ws_nil ?_
      refine wc_ret ?_
      refine ⟨_, (.cons (.tmp rfl) .nil), ?_, rfl⟩
      refine congrArg AV.bool ?_
      first | (rw [g5]; rfl) | exact word_long g10 | exact word_first (of_decide_eq_true h1)
    · first | replace g10 := of_decide_eq_true g10 | replace g10 := of_decide_eq_false g10 | replace g10 := of_decide_eq_false (nb_T g10) | replace g10 := of_decide_eq_true (nb_F g10) | replace g10 := nb_T g10 | replace g10 := nb_F g10 | skip
      first | replace g10 := Int.not_lt.mp g10 | replace g10 := Int.not_le.mp g10 | replace g10 := Decidable.not_not.mp g10 | skip
      refine ws_on rfl rfl ?_
      refine w_move rfl rfl ?_
      refine ws_on rfl rfl ?_
      refine w_sidx u9 rfl rfl rfl (by omega) (by assumption) ?_
      refine ws_on rfl rfl ?_
      refine w_call rfl rfl (cw_fn rfl rfl (.cons fz (.cons fz .nil)) (indexByte_fn small b) ?_)
      refine ws_on rfl rfl ?_
      refine w_lss u3 rfl rfl rfl ?_
      first | refine w_pickT rfl rfl rfl ⟨_, rfl⟩ ?_ | refine w_pickF rfl rfl ⟨_, rfl⟩ rfl ?_ | refine w_pick rfl rfl rfl rfl ?_
      refine ws_nil ?_
      refine wc_cond rfl (fun h1 => ?_) (fun h1 => ?_)
      · skip
        refine wc_seq ?_
        refine wc_text ?_
        refine w_assign rfl rfl ?_
        refine ws_nil ?_
        refine wc_ret ?_
        refine ⟨_, (.cons (.tmp rfl) .nil), ?_, rfl⟩
        refine congrArg AV.bool ?_
        first | (rw [g5]; rfl) | exact word_long g10 | exact word_first (of_decide_eq_true h1)
      · skip
        refine wc_stay ?_
        refine wc_seq ?_
        refine wc_text ?_
        refine w_move rfl rfl ?_
        refine w_call rfl rfl (cw_fn rfl rfl (.cons fz (.cons fz .nil)) (trim_fn _ (by omega)) ?_)
        refine w_seql (b := []) u9 rfl rfl rfl ?_
        refine w_assign rfl rfl ?_
        refine ws_nil ?_
        refine wc_ret ?_
        refine ⟨_, (.cons (.tmp rfl) .nil), ?_, rfl⟩
        exact congrArg AV.bool (word_ok g10 (of_decide_eq_false h1)).symm

theorem slPref_fn (s p : List UInt8) : PFn C 66 [.str s, .str p] (.bool (prefV s p)) := by
  refine fn_view rfl rfl (fn := Tryd.f66) rfl rfl rfl rfl rfl ?_
  refine wc_seq ?_
  refine wc_text ?_
  refine w_assign rfl rfl ?_
  refine ws_nil ?_
  refine wc_seq ?_
  refine wc_text ?_
  refine w_move rfl rfl ?_
  refine w_len rfl rfl (len_str u9) ?_
  refine w_move rfl rfl ?_
  refine w_len rfl rfl (len_str u9) ?_
  refine w_geq u3 rfl rfl rfl ?_
  refine w_move rfl rfl ?_
  refine ws_split (t := 10) rfl (fun g10 => ?_) (fun g10 => ?_)
  · first | replace g10 := of_decide_eq_true g10 | replace g10 := of_decide_eq_false g10 | replace g10 := of_decide_eq_false (nb_T g10) | replace g10 := of_decide_eq_true (nb_F g10) | replace g10 := nb_T g10 | replace g10 := nb_F g10 | skip
    first | replace g10 := Int.not_lt.mp g10 | replace g10 := Int.not_le.mp g10 | replace g10 := Decidable.not_not.mp g10 | skip
    refine ws_on rfl rfl ?_
    refine w_move rfl rfl ?_
    refine ws_on rfl rfl ?_
    refine w_move rfl rfl ?_
    refine ws_on rfl rfl ?_
    refine w_len rfl rfl (len_str u9) ?_
    refine ws_on rfl rfl ?_
    refine w_slice rfl rfl rfl rfl rfl (slice_str (i := 0) (j := p.length) u9 (by rfl) (natOr_of (by omega)) (by omega) (by omega)) ?_
    refine ws_on rfl rfl ?_
    refine w_move rfl rfl ?_
    refine ws_on rfl rfl ?_
    refine w_seql u9 rfl rfl rfl ?_
    first | refine w_pickT rfl rfl rfl ⟨_, rfl⟩ ?_ | refine w_pickF rfl rfl ⟨_, rfl⟩ rfl ?_ | refine w_pick rfl rfl rfl rfl ?_
    refine w_assign rfl rfl ?_
    refine ws_nil ?_
    refine wc_ret ?_
    refine ⟨_, (.cons (.tmp rfl) .nil), ?_, rfl⟩
    refine congrArg AV.bool ?_
    unfold prefV
    first | (rw [decide_eq_false (by omega : ¬ p.length ≤ s.length)]; rfl) | (rw [decide_eq_true (by omega : p.length ≤ s.length)]; rfl)
  · first | replace g10 := of_decide_eq_true g10 | replace g10 := of_decide_eq_false g10 | replace g10 := of_decide_eq_false (nb_T g10) | replace g10 := of_decide_eq_true (nb_F g10) | replace g10 := nb_T g10 | replace g10 := nb_F g10 | skip
    first | replace g10 := Int.not_lt.mp g10 | replace g10 := Int.not_le.mp g10 | replace g10 := Decidable.not_not.mp g10 | skip
    refine ws_off rfl rfl rfl rfl ?_
    refine ws_off rfl rfl rfl rfl ?_
    refine ws_off rfl rfl rfl rfl ?_
    refine ws_off rfl rfl rfl rfl ?_
    refine ws_off rfl rfl rfl rfl ?_
    refine ws_off rfl rfl rfl rfl ?_
    first | refine w_pickT rfl rfl rfl ⟨_, rfl⟩ ?_ | refine w_pickF rfl rfl ⟨_, rfl⟩ rfl ?_ | refine w_pick rfl rfl rfl rfl ?_
    refine w_assign rfl rfl ?_
    refine ws_nil ?_
    refine wc_ret ?_
    refine ⟨_, (.cons (.tmp rfl) .nil), ?_, rfl⟩
    refine congrArg AV.bool ?_
    unfold prefV
    first | (rw [decide_eq_false (by omega : ¬ p.length ≤ s.length)]; rfl) | (rw [decide_eq_true (by omega : p.length ≤ s.length)]; rfl)

theorem pref_fn (s p : List UInt8) : PFn C 41 [.str s, .str p] (.bool (prefV s p)) := by
  refine fn_view rfl rfl (fn := Tryd.f41) rfl rfl rfl rfl rfl ?_
  refine wc_seq ?_
  refine wc_text ?_
  refine w_assign rfl rfl ?_
  refine ws_nil ?_
  refine wc_seq ?_
  refine wc_text ?_
  refine w_move rfl rfl ?_
  refine w_move rfl rfl ?_
  refine w_call rfl rfl (cw_fn rfl rfl (.cons fz (.cons fz .nil)) (slPref_fn _ _) ?_)
  refine w_assign rfl rfl ?_
  refine ws_nil ?_
  refine wc_ret ?_
  refine ⟨_, (.cons (.tmp rfl) .nil), ?_, rfl⟩
  first | rfl | simp [oneOf]

theorem get_fn (l : List LD) (n : List UInt8) (hl : l.length ≤ 9223372036854775807) : PFn C 40 [AL eL l, .str n] (.str (getV l n)) := by
  refine fn_view rfl rfl (fn := Tryd.f40) rfl rfl rfl rfl rfl ?_
  refine wc_seq ?_
  refine wc_text ?_
  refine w_assign (v := .str []) rfl rfl ?_
  refine ws_nil ?_
  refine wc_seq ?_
  refine wc_seq ?_
  refine wc_text ?_
  refine w_move rfl rfl ?_
  first | refine w_len rfl rfl (len_lst u26) ?_ | refine w_len rfl rfl (len_slice u26) ?_ | refine w_lenO rfl u26 rfl rfl tk ?_
  refine w_move rfl rfl ?_
  refine ws_nil ?_
  refine wc_block ?_
  refine wc_loop (σ := { k : Nat // k ≤ l.length ∧ getV (l.drop k) n = getV l n }) (fun u => [(1, .str n), (7, AL eL l), (8, .int .i64 (l.length : Nat)), (9, .int .i64 (u.1 : Nat))]) (fun u => []) (fun u => l.length - u.1) ?_ ⟨0, Nat.zero_le _, rfl⟩ (.cons rfl (.cons rfl (.cons rfl (.cons rfl (.nil _))))) (Sel.weak .nil)
  rintro ⟨k, hk, hs⟩
  try dsimp only
  refine wc_seq ?_
  refine wc_text ?_
  refine w_lss u3 rfl rfl rfl ?_
  refine ws_nil ?_
  refine wc_seq ?_
  refine wc_cond rfl (fun h2 => ?_) (fun h2 => ?_)
  · first | replace h2 := of_decide_eq_true h2 | replace h2 := of_decide_eq_false h2 | replace h2 := of_decide_eq_false (nb_T h2) | replace h2 := of_decide_eq_true (nb_F h2) | replace h2 := nb_T h2 | replace h2 := nb_F h2 | skip
    first | replace h2 := Int.not_lt.mp h2 | replace h2 := Int.not_le.mp h2 | replace h2 := Decidable.not_not.mp h2 | skip
    refine wc_stay ?_
    refine wc_seq ?_
    refine wc_block ?_
    refine wc_seq ?_
    refine wc_text ?_
    obtain ⟨x, hx⟩ := get_of_lt (l := l) (k := k) (by omega)
    first | refine w_lidx u26 s25 rfl rfl rfl (by omega) ?_ | refine w_slidx u26 s25 rfl rfl rfl (by omega) ?_
    first | refine w_ldC a25 s25 rfl rfl agc ?_ | refine w_ldP a25 s25 rfl rfl tk agp ?_
    refine w_alloc z25 s25 rfl (fun o6 => ?_)
    refine w_st s25 rfl rfl rfl tk rfl rfl ovw ?_
    refine ws_nil ?_
    refine WC.recell (eL x) tk rfl ?_
    refine wc_seq ?_
    refine wc_text ?_
    first | refine w_faddrC O25_0 rfl rfl ?_ | refine w_faddrP O25_0 rfl rfl ?_
    first | refine w_ldC1 a9 rfl rfl rdc ?_ | refine w_ldP1 a9 rfl rfl tk rdp ?_
    refine w_move rfl rfl ?_
    refine w_seql u9 rfl rfl rfl ?_
    refine ws_nil ?_
    refine wc_cond rfl (fun h4 => ?_) (fun h4 => ?_)
    · first | replace h4 := of_decide_eq_true h4 | replace h4 := of_decide_eq_false h4 | replace h4 := of_decide_eq_false (nb_T h4) | replace h4 := of_decide_eq_true (nb_F h4) | replace h4 := nb_T h4 | replace h4 := nb_F h4 | skip
      first | replace h4 := Int.not_lt.mp h4 | replace h4 := Int.not_le.mp h4 | replace h4 := Decidable.not_not.mp h4 | skip
      refine wc_seq ?_
      refine wc_text ?_
      first | refine w_faddrC O25_1 rfl rfl ?_ | refine w_faddrP O25_1 rfl rfl ?_
      first | refine w_ldC1 a9 rfl rfl rdc ?_ | refine w_ldP1 a9 rfl rfl tk rdp ?_
      refine w_assign rfl rfl ?_
      refine ws_nil ?_
      refine wc_ret ?_
      refine ⟨_, (.cons (.tmp rfl) .nil), ?_, rfl⟩
      rw [← hs, drop_one hx, getV_cons, if_pos h4]; rfl
    · first | replace h4 := of_decide_eq_true h4 | replace h4 := of_decide_eq_false h4 | replace h4 := of_decide_eq_false (nb_T h4) | replace h4 := of_decide_eq_true (nb_F h4) | replace h4 := nb_T h4 | replace h4 := nb_F h4 | skip
      first | replace h4 := Int.not_lt.mp h4 | replace h4 := Int.not_le.mp h4 | replace h4 := Decidable.not_not.mp h4 | skip
      refine wc_stay ?_
      refine wc_text ?_
      refine w_add u3 rfl rfl rfl (by omega) ?_
      refine w_move rfl rfl ?_
      refine ws_nil ?_
      exact ⟨⟨k + 1, by omega, by rw [← hs, drop_one hx, getV_cons, if_neg h4]⟩, by simp only; omega, (.cons rfl (.cons rfl (.cons rfl (.cons rfl (.nil _))))), (Sel.weak .nil)⟩
  · first | replace h2 := of_decide_eq_true h2 | replace h2 := of_decide_eq_false h2 | replace h2 := of_decide_eq_false (nb_T h2) | replace h2 := of_decide_eq_true (nb_F h2) | replace h2 := nb_T h2 | replace h2 := nb_F h2 | skip
    first | replace h2 := Int.not_lt.mp h2 | replace h2 := Int.not_le.mp h2 | replace h2 := Decidable.not_not.mp h2 | skip
    refine wc_exit ?_
    refine wc_seq ?_
    refine wc_text ?_
    refine w_assign (v := .str []) rfl rfl ?_
    refine ws_nil ?_
    refine wc_ret ?_
    refine ⟨_, (.cons (.tmp rfl) .nil), ?_, rfl⟩
    rw [← hs, List.drop_eq_nil_of_le (by omega)]; rfl

theorem holds_fn (l : List LD) (m : MD) (hl : l.length ≤ 9223372036854775807) : PFn C 29 [AL eL l, .agg (eM m)] (.bool (holdsV l m)) := by
  refine fn_view rfl rfl (fn := Tryd.f29) rfl rfl rfl rfl rfl ?_
  refine wc_seq ?_
  refine wc_text ?_
  refine w_box (cs := eM m) s72 rfl rfl rfl rfl rfl (fun o3 => ?_)
  refine w_assign rfl rfl ?_
  refine ws_nil ?_
  refine wc_seq ?_
  refine wc_text ?_
  refine w_move rfl rfl ?_
  first | refine w_faddrC O72_0 rfl rfl ?_ | refine w_faddrP O72_0 rfl rfl ?_
  first | refine w_ldC1 a9 rfl rfl rdc ?_ | refine w_ldP1 a9 rfl rfl tk rdp ?_
  refine w_call rfl rfl (cw_fn rfl rfl (.cons fz (.cons fz .nil)) (get_fn _ _ (by assumption)) ?_)
  refine w_assign rfl rfl ?_
  refine ws_nil ?_
  refine wc_seq ?_
  refine wc_seq ?_
  refine wc_text ?_
  first | refine w_faddrC O72_2 rfl rfl ?_ | refine w_faddrP O72_2 rfl rfl ?_
  first | refine w_ldC1 a3 rfl rfl rdc ?_ | refine w_ldP1 a3 rfl rfl tk rdp ?_
  refine ws_nil ?_
  refine wc_block ?_
  refine wc_seq ?_
  refine wc_text ?_
  refine w_eql u3 rfl rfl rfl ?_
  refine w_assign rfl rfl ?_
  refine ws_nil ?_
  refine wc_cond rfl (fun h3 => ?_) (fun h3 => ?_)
  · first | replace h3 := of_decide_eq_true h3 | replace h3 := of_decide_eq_false h3 | replace h3 := of_decide_eq_false (nb_T h3) | replace h3 := of_decide_eq_true (nb_F h3) | replace h3 := nb_T h3 | replace h3 := nb_F h3 | skip
    first | replace h3 := Int.not_lt.mp h3 | replace h3 := Int.not_le.mp h3 | replace h3 := Decidable.not_not.mp h3 | skip
    refine wc_seq ?_
    refine wc_text ?_
    refine w_move rfl rfl ?_
    first | refine w_faddrC O72_1 rfl rfl ?_ | refine w_faddrP O72_1 rfl rfl ?_
    first | refine w_ldC1 a9 rfl rfl rdc ?_ | refine w_ldP1 a9 rfl rfl tk rdp ?_
    refine w_seql u9 rfl rfl rfl ?_
    refine w_assign rfl rfl ?_
    refine ws_nil ?_
    refine wc_ret ?_
    refine ⟨_, (.cons (.tmp rfl) .nil), ?_, rfl⟩
    refine congrArg AV.bool ?_; unfold holdsV; rw [if_pos h3]
  · first | replace h3 := of_decide_eq_true h3 | replace h3 := of_decide_eq_false h3 | replace h3 := of_decide_eq_false (nb_T h3) | replace h3 := of_decide_eq_true (nb_F h3) | replace h3 := nb_T h3 | replace h3 := nb_F h3 | skip
    first | replace h3 := Int.not_lt.mp h3 | replace h3 := Int.not_le.mp h3 | replace h3 := Decidable.not_not.mp h3 | skip
    refine wc_seq ?_
    refine wc_text ?_
    refine w_eql u3 rfl rfl rfl ?_
    refine w_assign rfl rfl ?_
    refine ws_nil ?_
    refine wc_cond rfl (fun h5 => ?_) (fun h5 => ?_)
    · first | replace h5 := of_decide_eq_true h5 | replace h5 := of_decide_eq_false h5 | replace h5 := of_decide_eq_false (nb_T h5) | replace h5 := of_decide_eq_true (nb_F h5) | replace h5 := nb_T h5 | replace h5 := nb_F h5 | skip
      first | replace h5 := Int.not_lt.mp h5 | replace h5 := Int.not_le.mp h5 | replace h5 := Decidable.not_not.mp h5 | skip
      refine wc_seq ?_
      refine wc_text ?_
      refine w_move rfl rfl ?_
      first | refine w_faddrC O72_1 rfl rfl ?_ | refine w_faddrP O72_1 rfl rfl ?_
      first | refine w_ldC1 a9 rfl rfl rdc ?_ | refine w_ldP1 a9 rfl rfl tk rdp ?_
      refine w_sneq u9 rfl rfl rfl ?_
      refine w_assign rfl rfl ?_
      refine ws_nil ?_
      refine wc_ret ?_
      refine ⟨_, (.cons (.tmp rfl) .nil), ?_, rfl⟩
      refine congrArg AV.bool ?_; unfold holdsV; rw [if_neg h3, if_pos h5]
    · first | replace h5 := of_decide_eq_true h5 | replace h5 := of_decide_eq_false h5 | replace h5 := of_decide_eq_false (nb_T h5) | replace h5 := of_decide_eq_true (nb_F h5) | replace h5 := nb_T h5 | replace h5 := nb_F h5 | skip
      first | replace h5 := Int.not_lt.mp h5 | replace h5 := Int.not_le.mp h5 | replace h5 := Decidable.not_not.mp h5 | skip
      refine wc_seq ?_
      refine wc_text ?_
      refine w_eql u3 rfl rfl rfl ?_
      refine w_assign rfl rfl ?_
      refine ws_nil ?_
      refine wc_cond rfl (fun h7 => ?_) (fun h7 => ?_)
      · first | replace h7 := of_decide_eq_true h7 | replace h7 := of_decide_eq_false h7 | replace h7 := of_decide_eq_false (nb_T h7) | replace h7 := of_decide_eq_true (nb_F h7) | replace h7 := nb_T h7 | replace h7 := nb_F h7 | skip
        first | replace h7 := Int.not_lt.mp h7 | replace h7 := Int.not_le.mp h7 | replace h7 := Decidable.not_not.mp h7 | skip
        refine wc_seq ?_
        refine wc_text ?_
        refine w_move rfl rfl ?_
        first | refine w_faddrC O72_1 rfl rfl ?_ | refine w_faddrP O72_1 rfl rfl ?_
        first | refine w_ldC1 a9 rfl rfl rdc ?_ | refine w_ldP1 a9 rfl rfl tk rdp ?_
        refine w_call rfl rfl (cw_fn rfl rfl (.cons fz (.cons fz .nil)) (pref_fn _ _) ?_)
        refine w_assign rfl rfl ?_
        refine ws_nil ?_
        refine wc_ret ?_
        refine ⟨_, (.cons (.tmp rfl) .nil), ?_, rfl⟩
        refine congrArg AV.bool ?_; unfold holdsV; rw [if_neg h3, if_neg h5, if_pos h7]
      · first | replace h7 := of_decide_eq_true h7 | replace h7 := of_decide_eq_false h7 | replace h7 := of_decide_eq_false (nb_T h7) | replace h7 := of_decide_eq_true (nb_F h7) | replace h7 := nb_T h7 | replace h7 := nb_F h7 | skip
        first | replace h7 := Int.not_lt.mp h7 | replace h7 := Int.not_le.mp h7 | replace h7 := Decidable.not_not.mp h7 | skip
        refine wc_seq ?_
        refine wc_text ?_
        refine w_eql u3 rfl rfl rfl ?_
        refine w_assign rfl rfl ?_
        refine ws_nil ?_
        refine wc_cond rfl (fun h9 => ?_) (fun h9 => ?_)
        · first | replace h9 := of_decide_eq_true h9 | replace h9 := of_decide_eq_false h9 | replace h9 := of_decide_eq_false (nb_T h9) | replace h9 := of_decide_eq_true (nb_F h9) | replace h9 := nb_T h9 | replace h9 := nb_F h9 | skip
          first | replace h9 := Int.not_lt.mp h9 | replace h9 := Int.not_le.mp h9 | replace h9 := Decidable.not_not.mp h9 | skip
          refine wc_seq ?_
          refine wc_text ?_
          refine w_move rfl rfl ?_
          first | refine w_faddrC O72_1 rfl rfl ?_ | refine w_faddrP O72_1 rfl rfl ?_
          first | refine w_ldC1 a9 rfl rfl rdc ?_ | refine w_ldP1 a9 rfl rfl tk rdp ?_
          refine w_call rfl rfl (cw_fn rfl rfl (.cons fz (.cons fz .nil)) (pref_fn _ _) ?_)
          refine w_not rfl rfl ?_
          refine w_assign rfl rfl ?_
          refine ws_nil ?_
          refine wc_ret ?_
          refine ⟨_, (.cons (.tmp rfl) .nil), ?_, rfl⟩
          refine congrArg AV.bool ?_; unfold holdsV; rw [if_neg h3, if_neg h5, if_neg h7, if_pos h9]
        · first | replace h9 := of_decide_eq_true h9 | replace h9 := of_decide_eq_false h9 | replace h9 := of_decide_eq_false (nb_T h9) | replace h9 := of_decide_eq_true (nb_F h9) | replace h9 := nb_T h9 | replace h9 := nb_F h9 | skip
          first | replace h9 := Int.not_lt.mp h9 | replace h9 := Int.not_le.mp h9 | replace h9 := Decidable.not_not.mp h9 | skip
          refine wc_stay ?_
          refine wc_seq ?_
          refine wc_text ?_
          refine w_assign rfl rfl ?_
          refine ws_nil ?_
          refine wc_ret ?_
          refine ⟨_, (.cons (.tmp rfl) .nil), ?_, rfl⟩
          refine congrArg AV.bool ?_; unfold holdsV; rw [if_neg h3, if_neg h5, if_neg h7, if_neg h9]

theorem all_fn (l : List LD) (ms : List MD) (hl : l.length ≤ 9223372036854775807) (hm : ms.length ≤ 9223372036854775807) : PFn C 17 [AL eL l, AL eM ms] (.bool (allV l ms)) := by
  refine fn_view rfl rfl (fn := Tryd.f17) rfl rfl rfl rfl rfl ?_
  refine wc_seq ?_
  refine wc_text ?_
  refine w_assign rfl rfl ?_
  refine ws_nil ?_
  refine wc_seq ?_
  refine wc_seq ?_
  refine wc_text ?_
  refine w_move rfl rfl ?_
  first | refine w_len rfl rfl (len_lst u58) ?_ | refine w_len rfl rfl (len_slice u58) ?_ | refine w_lenO rfl u58 rfl rfl tk ?_
  refine w_move rfl rfl ?_
  refine ws_nil ?_
  refine wc_block ?_
  refine wc_loop (σ := { k : Nat // k ≤ ms.length ∧ (ms.take k).all (holdsV l) = true }) (fun u => [(0, AL eL l), (7, AL eM ms), (8, .int .i64 (ms.length : Nat)), (9, .int .i64 (u.1 : Nat))]) (fun u => []) (fun u => ms.length - u.1) ?_ ⟨0, Nat.zero_le _, rfl⟩ (.cons rfl (.cons rfl (.cons rfl (.cons rfl (.nil _))))) (Sel.weak .nil)
  rintro ⟨k, hk, hs⟩
  try dsimp only
  refine wc_seq ?_
  refine wc_text ?_
  refine w_lss u3 rfl rfl rfl ?_
  refine ws_nil ?_
  refine wc_seq ?_
  refine wc_cond rfl (fun h2 => ?_) (fun h2 => ?_)
  · first | replace h2 := of_decide_eq_true h2 | replace h2 := of_decide_eq_false h2 | replace h2 := of_decide_eq_false (nb_T h2) | replace h2 := of_decide_eq_true (nb_F h2) | replace h2 := nb_T h2 | replace h2 := nb_F h2 | skip
    first | replace h2 := Int.not_lt.mp h2 | replace h2 := Int.not_le.mp h2 | replace h2 := Decidable.not_not.mp h2 | skip
    refine wc_stay ?_
    refine wc_seq ?_
    refine wc_block ?_
    refine wc_seq ?_
    refine wc_text ?_
    obtain ⟨x, hx⟩ := get_of_lt (l := ms) (k := k) (by omega)
    first | refine w_lidx u58 s72 rfl rfl rfl (by omega) ?_ | refine w_slidx u58 s72 rfl rfl rfl (by omega) ?_
    first | refine w_ldC a72 s72 rfl rfl agc ?_ | refine w_ldP a72 s72 rfl rfl tk agp ?_
    refine w_alloc z72 s72 rfl (fun o6 => ?_)
    refine w_st s72 rfl rfl rfl tk rfl rfl ovw ?_
    refine ws_nil ?_
    refine WC.recell (eM x) tk rfl ?_
    refine wc_seq ?_
    refine wc_text ?_
    refine w_move rfl rfl ?_
    first | refine w_ldC a72 s72 rfl rfl agc ?_ | refine w_ldP a72 s72 rfl rfl tk agp ?_
    refine w_call rfl rfl (cw_fn rfl rfl (.cons fz (.cons fz .nil)) (holds_fn _ _ (by assumption)) ?_)
    refine w_not rfl rfl ?_
    refine ws_nil ?_
    refine wc_cond rfl (fun h4 => ?_) (fun h4 => ?_)
    · replace h4 := nb_T h4
      refine wc_seq ?_
      refine wc_text ?_
      refine w_assign rfl rfl ?_
      refine ws_nil ?_
      refine wc_ret ?_
      refine ⟨_, (.cons (.tmp rfl) .nil), ?_, rfl⟩
      exact congrArg AV.bool (all_not hx h4)
    · replace h4 := nb_F h4
      refine wc_stay ?_
      refine wc_text ?_
      refine w_add u3 rfl rfl rfl (by omega) ?_
      refine w_move rfl rfl ?_
      refine ws_nil ?_
      exact ⟨⟨k + 1, by omega, all_take hx hs h4⟩, by simp only; omega, (.cons rfl (.cons rfl (.cons rfl (.cons rfl (.nil _))))), (Sel.weak .nil)⟩
  · first | replace h2 := of_decide_eq_true h2 | replace h2 := of_decide_eq_false h2 | replace h2 := of_decide_eq_false (nb_T h2) | replace h2 := of_decide_eq_true (nb_F h2) | replace h2 := nb_T h2 | replace h2 := nb_F h2 | skip
    first | replace h2 := Int.not_lt.mp h2 | replace h2 := Int.not_le.mp h2 | replace h2 := Decidable.not_not.mp h2 | skip
    refine wc_exit ?_
    refine wc_seq ?_
    refine wc_text ?_
    refine w_assign rfl rfl ?_
    refine ws_nil ?_
    refine wc_ret ?_
    refine ⟨_, (.cons (.tmp rfl) .nil), ?_, rfl⟩
    exact congrArg AV.bool (all_end (by omega) hs)
end Go.Proofs.YtlgofplbbmjdjaaDoor.kx
