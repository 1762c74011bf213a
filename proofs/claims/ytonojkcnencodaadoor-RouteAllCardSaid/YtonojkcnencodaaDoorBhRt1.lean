/-
  Package route, and what it calls, walked by facts (printed by gen_rt.py).
-/
import Derived.Test.YtonojkcnencodaaDoorProg
import Derived.Test.YtonojkcnencodaaDoorBhRtArg
import Derived.KernelRfl
namespace Go.Proofs.YtonojkcnencodaaDoor.rt
open Go Go.Proofs Go.Proofs.YtonojkcnencodaaDoor.BH Go.Proofs.YtonojkcnencodaaDoor.BH.Rt
set_option maxRecDepth 100000
noncomputable def kinds (f : FuncId) : Kind :=
  if (f = 68 ∨ f = 55 ∨ f = 52 ∨ f = 37 ∨ f = 69 ∨ f = 56 ∨ f = 57 ∨ f = 38 ∨ f = 31 ∨ f = 73 ∨ f = 61 ∨ f = 39 ∨ f = 60 ∨ f = 40 ∨ f = 33 ∨ f = 32 ∨ f = 11 ∨ f = 24 ∨ f = 10 ∨ f = 12 ∨ f = 16 ∨ f = 14 ∨ f = 5 ∨ f = 17 ∨ f = 4) then ⟨true, false, false, false, false⟩ else
  if (f = 25 ∨ f = 13 ∨ f = 15 ∨ f = 18 ∨ f = 19 ∨ f = 6 ∨ f = 9) then ⟨true, true, false, false, false⟩ else
  ⟨false, false, false, false, false⟩
noncomputable def C : Ctx := ⟨Tryd.prog, ⟨kinds, fun _ => none⟩, fun _ _ h => (by cases h), by kernel_rfl⟩
theorem nb_T {b : Bool} (h : (!b) = true) : b = false := by cases b <;> simp_all
theorem nb_F {b : Bool} (h : (!b) = false) : b = true := by cases b <;> simp_all
theorem dT {p : Prop} [Decidable p] (h : decide p = true) : p := of_decide_eq_true h
theorem dF {p : Prop} [Decidable p] (h : decide p = false) : ¬ p := of_decide_eq_false h
theorem dFT {p : Prop} [Decidable p] (h : (!decide p) = true) : ¬ p := of_decide_eq_false (nb_T h)
theorem dTF {p : Prop} [Decidable p] (h : (!decide p) = false) : p := of_decide_eq_true (nb_F h)
theorem nL {a b : Int} (h : ¬ a < b) : b ≤ a := Int.not_lt.mp h
theorem nM {a b : Int} (h : ¬ a ≤ b) : b < a := Int.not_le.mp h
theorem nN {p : Prop} [Decidable p] (h : ¬ ¬ p) : p := Decidable.not_not.mp h
theorem bg {n : Nat} (h : n ≤ bigBy := by unfold bigBy; first | omega | (simp only [List.length_nil, List.length_cons, List.length_append, List.length_take, List.length_drop]; omega)) : n ≤ bigBy := h
theorem B28 : buildF C.P 28 = ⟨fun ps => bnd (fillV (pairAt [(0, 1), (1, 1), (2, 1), (3, 1)]) [.slice none 0 (.exact 0), .str [], .bool false, .slice none 0 (.exact 0)] ps) fun l => some (.agg l)⟩ := by kernel_rfl
theorem B55 : buildF C.P 55 = ⟨fun ps => bnd (fillV (pairAt [(0, 1), (1, 1), (2, 1)]) [.str [], .str [], .int .i64 0] ps) fun l => some (.agg l)⟩ := by kernel_rfl
theorem B59 : buildF C.P 59 = ⟨fun ps => bnd (fillV (pairAt [(0, 1), (1, 1)]) [.str [], .str []] ps) fun l => some (.agg l)⟩ := by kernel_rfl
theorem O24_0 : fieldOff C.P 24 0 = some 0 := by kernel_rfl
theorem O24_1 : fieldOff C.P 24 1 = some 1 := by kernel_rfl
theorem O24_2 : fieldOff C.P 24 2 = some 2 := by kernel_rfl
theorem O28_0 : fieldOff C.P 28 0 = some 0 := by kernel_rfl
theorem O28_1 : fieldOff C.P 28 1 = some 1 := by kernel_rfl
theorem O28_2 : fieldOff C.P 28 2 = some 2 := by kernel_rfl
theorem O28_3 : fieldOff C.P 28 3 = some 3 := by kernel_rfl
theorem O30_0 : fieldOff C.P 30 0 = some 0 := by kernel_rfl
theorem O30_1 : fieldOff C.P 30 1 = some 1 := by kernel_rfl
theorem O55_0 : fieldOff C.P 55 0 = some 0 := by kernel_rfl
theorem O55_1 : fieldOff C.P 55 1 = some 1 := by kernel_rfl
theorem O55_2 : fieldOff C.P 55 2 = some 2 := by kernel_rfl
theorem O59_0 : fieldOff C.P 59 0 = some 0 := by kernel_rfl
theorem O59_1 : fieldOff C.P 59 1 = some 1 := by kernel_rfl
theorem a22 : aggOf C.P 22 = some false := by kernel_rfl
theorem a24 : aggOf C.P 24 = some true := by kernel_rfl
theorem a25 : aggOf C.P 25 = some false := by kernel_rfl
theorem a26 : aggOf C.P 26 = some false := by kernel_rfl
theorem a28 : aggOf C.P 28 = some true := by kernel_rfl
theorem a3 : aggOf C.P 3 = some false := by kernel_rfl
theorem a30 : aggOf C.P 30 = some true := by kernel_rfl
theorem a36 : aggOf C.P 36 = some false := by kernel_rfl
theorem a4 : aggOf C.P 4 = some false := by kernel_rfl
theorem a55 : aggOf C.P 55 = some true := by kernel_rfl
theorem a59 : aggOf C.P 59 = some true := by kernel_rfl
theorem a9 : aggOf C.P 9 = some false := by kernel_rfl
theorem b28 : bytesOf C.P 28 = some 72 := by kernel_rfl
theorem b3 : bytesOf C.P 3 = some 8 := by kernel_rfl
theorem b36 : bytesOf C.P 36 = some 24 := by kernel_rfl
theorem b59 : bytesOf C.P 59 = some 32 := by kernel_rfl
theorem b9 : bytesOf C.P 9 = some 16 := by kernel_rfl
theorem s24 : szOf C.P 24 = some 3 := by kernel_rfl
theorem s25 : szOf C.P 25 = some 1 := by kernel_rfl
theorem s26 : szOf C.P 26 = some 1 := by kernel_rfl
theorem s28 : szOf C.P 28 = some 4 := by kernel_rfl
theorem s3 : szOf C.P 3 = some 1 := by kernel_rfl
theorem s30 : szOf C.P 30 = some 2 := by kernel_rfl
theorem s36 : szOf C.P 36 = some 1 := by kernel_rfl
theorem s4 : szOf C.P 4 = some 1 := by kernel_rfl
theorem s5 : szOf C.P 5 = some 1 := by kernel_rfl
theorem s55 : szOf C.P 55 = some 3 := by kernel_rfl
theorem s59 : szOf C.P 59 = some 2 := by kernel_rfl
theorem s9 : szOf C.P 9 = some 1 := by kernel_rfl
theorem s93 : szOf C.P 93 = some 256 := by kernel_rfl
theorem u22 : undOf C.P 22 = some (.slice 3) := by kernel_rfl
theorem u25 : undOf C.P 25 = some (.slice 55) := by kernel_rfl
theorem u26 : undOf C.P 26 = some (.slice 28) := by kernel_rfl
theorem u3 : undOf C.P 3 = some (.int .i64) := by kernel_rfl
theorem u34 : undOf C.P 34 = some (.slice 9) := by kernel_rfl
theorem u36 : undOf C.P 36 = some (.slice 59) := by kernel_rfl
theorem u43 : undOf C.P 43 = some (.slice 30) := by kernel_rfl
theorem u44 : undOf C.P 44 = some (.map 9 4) := by kernel_rfl
theorem u45 : undOf C.P 45 = some (.slice 36) := by kernel_rfl
theorem u49 : undOf C.P 49 = some (.slice 5) := by kernel_rfl
theorem u5 : undOf C.P 5 = some (.int .u8) := by kernel_rfl
theorem u9 : undOf C.P 9 = some (.string) := by kernel_rfl
theorem u93 : undOf C.P 93 = some (.array 256 4) := by kernel_rfl
theorem y4 : zeroOf C.P 4 = some (.bool false) := by kernel_rfl
theorem z28 : zeroCells C.P 28 = some [.slice none 0 (.exact 0), .str [], .bool false, .slice none 0 (.exact 0)] := by kernel_rfl
theorem z3 : zeroCells C.P 3 = some [.int .i64 0] := by kernel_rfl
theorem z36 : zeroCells C.P 36 = some [.slice none 0 (.exact 0)] := by kernel_rfl
theorem z5 : zeroCells C.P 5 = some [.int .u8 0] := by kernel_rfl
theorem z55 : zeroCells C.P 55 = some [.str [], .str [], .int .i64 0] := by kernel_rfl
theorem z59 : zeroCells C.P 59 = some [.str [], .str []] := by kernel_rfl
theorem z9 : zeroCells C.P 9 = some [.str []] := by kernel_rfl
theorem z93 : zeroCells C.P 93 = some [.bool false, .bool false, .bool false, .bool false, .bool false, .bool false, .bool false, .bool false, .bool false, .bool false, .bool false, .bool false, .bool false, .bool false, .bool false, .bool false, .bool false, .bool false, .bool false, .bool false, .bool false, .bool false, .bool false, .bool false, .bool false, .bool false, .bool false, .bool false, .bool false, .bool false, .bool false, .bool false, .bool false, .bool false, .bool false, .bool false, .bool false, .bool false, .bool false, .bool false, .bool false, .bool false, .bool false, .bool false, .bool false, .bool false, .bool false, .bool false, .bool false, .bool false, .bool false, .bool false, .bool false, .bool false, .bool false, .bool false, .bool false, .bool false, .bool false, .bool false, .bool false, .bool false, .bool false, .bool false, .bool false, .bool false, .bool false, .bool false, .bool false, .bool false, .bool false, .bool false, .bool false, .bool false, .bool false, .bool false, .bool false, .bool false, .bool false, .bool false, .bool false, .bool false, .bool false, .bool false, .bool false, .bool false, .bool false, .bool false, .bool false, .bool false, .bool false, .bool false, .bool false, .bool false, .bool false, .bool false, .bool false, .bool false, .bool false, .bool false, .bool false, .bool false, .bool false, .bool false, .bool false, .bool false, .bool false, .bool false, .bool false, .bool false, .bool false, .bool false, .bool false, .bool false, .bool false, .bool false, .bool false, .bool false, .bool false, .bool false, .bool false, .bool false, .bool false, .bool false, .bool false, .bool false, .bool false, .bool false, .bool false, .bool false, .bool false, .bool false, .bool false, .bool false, .bool false, .bool false, .bool false, .bool false, .bool false, .bool false, .bool false, .bool false, .bool false, .bool false, .bool false, .bool false, .bool false, .bool false, .bool false, .bool false, .bool false, .bool false, .bool false, .bool false, .bool false, .bool false, .bool false, .bool false, .bool false, .bool false, .bool false, .bool false, .bool false, .bool false, .bool false, .bool false, .bool false, .bool false, .bool false, .bool false, .bool false, .bool false, .bool false, .bool false, .bool false, .bool false, .bool false, .bool false, .bool false, .bool false, .bool false, .bool false, .bool false, .bool false, .bool false, .bool false, .bool false, .bool false, .bool false, .bool false, .bool false, .bool false, .bool false, .bool false, .bool false, .bool false, .bool false, .bool false, .bool false, .bool false, .bool false, .bool false, .bool false, .bool false, .bool false, .bool false, .bool false, .bool false, .bool false, .bool false, .bool false, .bool false, .bool false, .bool false, .bool false, .bool false, .bool false, .bool false, .bool false, .bool false, .bool false, .bool false, .bool false, .bool false, .bool false, .bool false, .bool false, .bool false, .bool false, .bool false, .bool false, .bool false, .bool false, .bool false, .bool false, .bool false, .bool false, .bool false, .bool false, .bool false, .bool false, .bool false, .bool false, .bool false, .bool false, .bool false, .bool false, .bool false, .bool false, .bool false, .bool false, .bool false, .bool false, .bool false, .bool false, .bool false] := by kernel_rfl
theorem ext68 (s : List UInt8) (b : UInt8) : PFn C 68 [.str s, .int .u8 b.toNat] (.int .i64 (indexByteV b.toNat s 0)) := by
  refine pfn_run (N := 1) (h' := AHeap.empty) rfl rfl rfl ?_
  show (externF "internal/bytealg.IndexByteString").run [.str s, .int .u8 b.toNat] AHeap.empty = _
  unfold externF
  rw [if_pos rfl]
  show (bnd (strOf (.str s)) fun s => bnd (Go.Proofs.YtonojkcnencodaaDoor.BH.byteOf (.int .u8 b.toNat)) fun (c : UInt8) => some (AV.int .i64 (indexByteV c.toNat s 0), AHeap.empty)) = _
  rw [byteOf_is]; rfl
theorem set_fn : PFn C 55 [.str inner] (.tuple [.agg SET, .bool true]) := pfn_eval (N := 4000) rfl rfl (by kernel_rfl) (by kernel_rfl)

theorem ib52_fn (s : List UInt8) (b : UInt8) : PFn C 52 [.str s, .int .u8 b.toNat] (.int .i64 (indexByteV b.toNat s 0)) := by
 refine fn_view rfl rfl (fn := Tryd.f52) rfl rfl rfl rfl rfl ?_
 refine wc_seq ?_
 refine wc_text ?_
 refine w_assign rfl rfl ?_
 refine ws_nil ?_
 refine wc_seq ?_
 refine wc_text ?_
 refine w_move rfl rfl ?_
 refine w_move rfl rfl ?_
 refine w_call rfl rfl (cw_fn rfl rfl (.cons fz (.cons fz .nil)) (ext68 _ _) ?_)
 refine w_assign rfl rfl ?_
 refine ws_nil ?_
 refine wc_ret ?_
 refine ⟨_, (.cons (.tmp rfl) .nil), ?_, rfl⟩
 first | rfl | simp [oneOf]

theorem indexByte_fn (s : List UInt8) (b : UInt8) : PFn C 37 [.str s, .int .u8 b.toNat] (.int .i64 (indexByteV b.toNat s 0)) := by
 refine fn_view rfl rfl (fn := Tryd.f37) rfl rfl rfl rfl rfl ?_
 refine wc_seq ?_
 refine wc_text ?_
 refine w_assign rfl rfl ?_
 refine ws_nil ?_
 refine wc_seq ?_
 refine wc_text ?_
 refine w_move rfl rfl ?_
 refine w_move rfl rfl ?_
 refine w_call rfl rfl (cw_fn rfl rfl (.cons fz (.cons fz .nil)) (ib52_fn _ _) ?_)
 refine w_assign rfl rfl ?_
 refine ws_nil ?_
 refine wc_ret ?_
 refine ⟨_, (.cons (.tmp rfl) .nil), ?_, rfl⟩
 first | rfl | simp [oneOf]

theorem contains_fn (b : UInt8) : PFn C 69 [.cptr SET 0, .int .u8 b.toNat] (.bool (isIn b.toNat)) := by
 refine fn_view rfl rfl (fn := Tryd.f69) rfl rfl rfl rfl rfl ?_
 have hb := UInt8.toNat_lt b
 refine wc_seq ?_
 refine wc_text ?_
 refine w_assign rfl rfl ?_
 refine ws_nil ?_
 refine wc_seq ?_
 refine wc_text ?_
 refine w_move rfl rfl ?_
 refine w_move rfl rfl ?_
 refine w_nil rfl rfl rfl ?_
 first | refine w_aidxC u93 s4 rfl rfl rfl (by omega) ?_ | refine w_aidxP u93 s4 rfl rfl rfl (by omega) ?_
 first | refine w_ldC1 a4 rfl rfl rdc ?_ | refine w_ldP1 a4 rfl rfl tk rdp ?_
 refine w_assign rfl rfl ?_
 refine ws_nil ?_
 refine wc_ret ?_
 refine ⟨_, (.cons (.tmp rfl) .nil), ?_, rfl⟩
 first | rfl | simp [oneOf]

theorem trimL_fn (s0 : List UInt8) : PFn C 56 [.str s0, .cptr SET 0] (.str (trimL s0)) := by
 refine fn_view rfl rfl (fn := Tryd.f56) rfl rfl rfl rfl rfl ?_
 refine wc_seq ?_
 refine wc_text ?_
 refine w_assign (v := .str []) rfl rfl ?_
 refine ws_nil ?_
 refine wc_seq ?_
 refine wc_block ?_
 refine wc_loop (σ := { l : List UInt8 // trimL l = trimL s0 }) (fun u => [(0, .str u.1), (1, .cptr SET 0)]) (fun u => []) (fun u => u.1.length) ?_ ⟨s0, rfl⟩ (.cons rfl (.cons rfl (.nil _))) (Sel.weak .nil)
 rintro ⟨l, hl⟩
 try dsimp only
 refine wc_seq ?_
 refine wc_seq ?_
 refine wc_text ?_
 refine w_move rfl rfl ?_
 refine w_len rfl rfl (len_str u9) ?_
 refine w_gtr u3 rfl rfl rfl ?_
 refine ws_nil ?_
 refine wc_cond rfl (fun h1 => ?_) (fun h1 => ?_)
 ·replace h1 := of_decide_eq_true h1
  obtain ⟨b, r, rfl⟩ : ∃ b r, l = b :: r := by
    cases l with
    | nil => exact absurd h1 (by simp)
    | cons b r => exact ⟨b, r, rfl⟩
  have hx : (b :: r)[(0 : Int).toNat]? = some b := rfl
  refine wc_stay ?_
  refine wc_block ?_
  refine wc_seq ?_
  refine wc_seq ?_
  refine wc_text ?_
  refine w_move rfl rfl ?_
  refine w_move rfl rfl ?_
  refine w_sidx u9 rfl rfl rfl (by omega) (by assumption) ?_
  refine w_call rfl rfl (cw_fn rfl rfl (.cons fz (.cons fz .nil)) (contains_fn _) ?_)
  refine w_not rfl rfl ?_
  refine ws_nil ?_
  refine wc_cond rfl (fun h2 => ?_) (fun h2 => ?_)
  ·replace h2 := nb_T h2
   rw [trimL_out h2] at hl
   refine wc_exit ?_
   refine wc_seq ?_
   refine wc_text ?_
   refine w_move rfl rfl ?_
   refine w_assign rfl rfl ?_
   refine ws_nil ?_
   refine wc_ret ?_
   refine ⟨_, (.cons (.tmp rfl) .nil), ?_, rfl⟩
   rw [← hl]; rfl
  ·replace h2 := nb_F h2
   refine wc_stay ?_
   refine wc_text ?_
   have hl1 : (b :: r).length = r.length + 1 := rfl
   refine w_move rfl rfl ?_
   refine w_slice rfl rfl rfl rfl rfl (slice_str (i := 1) (j := (b :: r).length) u9 (by rfl) (by rfl) (by omega) (by omega)) ?_
   refine w_assign rfl rfl ?_
   refine ws_nil ?_
   rw [show ((b :: r).drop 1).take ((b :: r).length - 1) = r by simp]
   exact ⟨⟨r, by rw [← trimL_in h2]; exact hl⟩, by simp only; omega, (.cons rfl (.cons rfl (.nil _))), (Sel.weak .nil)⟩
 ·replace h1 := of_decide_eq_false h1
  obtain rfl : l = [] := by
    cases l with
    | nil => rfl
    | cons b r => exact absurd (by simp only [List.length_cons]; omega) h1
  refine wc_exit ?_
  refine wc_seq ?_
  refine wc_text ?_
  refine w_move rfl rfl ?_
  refine w_assign rfl rfl ?_
  refine ws_nil ?_
  refine wc_ret ?_
  refine ⟨_, (.cons (.tmp rfl) .nil), ?_, rfl⟩
  rw [← hl]; rfl

theorem trimR_fn (s0 : List UInt8) (hs : s0.length < 1000000) : PFn C 57 [.str s0, .cptr SET 0] (.str (trimR s0)) := by
 refine fn_view rfl rfl (fn := Tryd.f57) rfl rfl rfl rfl rfl ?_
 refine wc_seq ?_
 refine wc_text ?_
 refine w_assign (v := .str []) rfl rfl ?_
 refine ws_nil ?_
 refine wc_seq ?_
 refine wc_block ?_
 refine wc_loop (σ := { l : List UInt8 // trimR l = trimR s0 ∧ l.length ≤ s0.length }) (fun u => [(0, .str u.1), (1, .cptr SET 0)]) (fun u => []) (fun u => u.1.length) ?_ ⟨s0, rfl, Nat.le_refl _⟩ (.cons rfl (.cons rfl (.nil _))) (Sel.weak .nil)
 rintro ⟨l, hl, hle⟩
 try dsimp only
 refine wc_seq ?_
 refine wc_seq ?_
 refine wc_text ?_
 refine w_move rfl rfl ?_
 refine w_len rfl rfl (len_str u9) ?_
 refine w_gtr u3 rfl rfl rfl ?_
 refine ws_nil ?_
 refine wc_cond rfl (fun h1 => ?_) (fun h1 => ?_)
 ·replace h1 := of_decide_eq_true h1
  obtain ⟨b, r, rfl, hr⟩ := last_of (l := l) (k := l.length - 1) (by omega)
  have hl1 : (r ++ [b]).length = r.length + 1 := by simp
  have hx : (r ++ [b])[(((r ++ [b]).length : Int) - 1).toNat]? = some b := by
    rw [show (((r ++ [b]).length : Int) - 1).toNat = r.length by omega]; simp
  refine wc_stay ?_
  refine wc_block ?_
  refine wc_seq ?_
  refine wc_seq ?_
  refine wc_text ?_
  refine w_move rfl rfl ?_
  refine w_move rfl rfl ?_
  refine w_move rfl rfl ?_
  refine w_len rfl rfl (len_str u9) ?_
  refine w_sub u3 rfl rfl rfl (by omega) ?_
  refine w_sidx u9 rfl rfl rfl (by omega) (by assumption) ?_
  refine w_call rfl rfl (cw_fn rfl rfl (.cons fz (.cons fz .nil)) (contains_fn _) ?_)
  refine w_not rfl rfl ?_
  refine ws_nil ?_
  refine wc_cond rfl (fun h2 => ?_) (fun h2 => ?_)
  ·replace h2 := nb_T h2
   rw [trimR_out h2] at hl
   refine wc_exit ?_
   refine wc_seq ?_
   refine wc_text ?_
   refine w_move rfl rfl ?_
   refine w_assign rfl rfl ?_
   refine ws_nil ?_
   refine wc_ret ?_
   refine ⟨_, (.cons (.tmp rfl) .nil), ?_, rfl⟩
   rw [← hl]; rfl
  ·replace h2 := nb_F h2
   refine wc_stay ?_
   refine wc_text ?_
   refine w_move rfl rfl ?_
   refine w_move rfl rfl ?_
   refine w_len rfl rfl (len_str u9) ?_
   refine w_sub u3 rfl rfl rfl (by omega) ?_
   refine w_slice rfl rfl rfl rfl rfl (slice_str (i := 0) (j := r.length) u9 (by rfl) (natOr_of (by omega)) (by omega) (by omega)) ?_
   refine w_assign rfl rfl ?_
   refine ws_nil ?_
   rw [show ((r ++ [b]).drop 0).take (r.length - 0) = r by simp]
   exact ⟨⟨r, by rw [← trimR_in h2]; exact hl, by omega⟩, by simp only; omega, (.cons rfl (.cons rfl (.nil _))), (Sel.weak .nil)⟩
 ·replace h1 := of_decide_eq_false h1
  obtain rfl : l = [] := List.eq_nil_of_length_eq_zero (by omega)
  refine wc_exit ?_
  refine wc_seq ?_
  refine wc_text ?_
  refine w_move rfl rfl ?_
  refine w_assign rfl rfl ?_
  refine ws_nil ?_
  refine wc_ret ?_
  refine ⟨_, (.cons (.tmp rfl) .nil), ?_, rfl⟩
  rw [← hl]; rfl

theorem trim_fn (s : List UInt8) (hs : s.length < 1000000) : PFn C 38 [.str s, .str inner] (.str (trimL (trimR s))) := by
 refine fn_view rfl rfl (fn := Tryd.f38) rfl rfl rfl rfl rfl ?_
 refine wc_seq ?_
 refine wc_text ?_
 refine w_assign (v := .str []) rfl rfl ?_
 refine ws_nil ?_
 refine wc_seq ?_
 refine wc_seq ?_
 refine wc_text ?_
 refine w_move rfl rfl ?_
 refine w_seql (b := []) u9 rfl rfl rfl ?_
 refine w_move rfl rfl ?_
 refine ws_split (t := 9) rfl (fun g9 => ?_) (fun g9 => ?_)
 ·first | replace g9 := dT g9 | replace g9 := dF g9 | replace g9 := dFT g9 | replace g9 := dTF g9 | replace g9 := nb_T g9 | replace g9 := nb_F g9 | skip
  first | replace g9 := nL g9 | replace g9 := nM g9 | replace g9 := nN g9 | skip
  refine ws_off rfl rfl rfl rfl ?_
  refine ws_off rfl rfl rfl rfl ?_
  first | refine w_pickT rfl rfl rfl ⟨_, rfl⟩ ?_ | refine w_pickF rfl rfl ⟨_, rfl⟩ rfl ?_ | refine w_pick rfl rfl rfl rfl ?_
  refine ws_nil ?_
  refine wc_condT rfl ?_
  refine wc_seq ?_
  refine wc_text ?_
  refine w_move rfl rfl ?_
  refine w_assign rfl rfl ?_
  refine ws_nil ?_
  refine wc_ret ?_
  refine ⟨_, (.cons (.tmp rfl) .nil), ?_, rfl⟩
  first | (rw [g9]; rfl) | (subst g9; rfl) | rfl
 ·first | replace g9 := dT g9 | replace g9 := dF g9 | replace g9 := dFT g9 | replace g9 := dTF g9 | replace g9 := nb_T g9 | replace g9 := nb_F g9 | skip
  first | replace g9 := nL g9 | replace g9 := nM g9 | replace g9 := nN g9 | skip
  refine ws_on rfl rfl ?_
  refine w_move rfl rfl ?_
  refine ws_on rfl rfl ?_
  refine w_seql (b := []) u9 rfl rfl rfl ?_
  first | refine w_pickT rfl rfl rfl ⟨_, rfl⟩ ?_ | refine w_pickF rfl rfl ⟨_, rfl⟩ rfl ?_ | refine w_pick rfl rfl rfl rfl ?_
  refine ws_nil ?_
  refine wc_cond rfl (fun h1 => ?_) (fun h1 => ?_)
  ·first | replace h1 := dT h1 | replace h1 := dF h1 | replace h1 := dFT h1 | replace h1 := dTF h1 | replace h1 := nb_T h1 | replace h1 := nb_F h1 | skip
   first | replace h1 := nL h1 | replace h1 := nM h1 | replace h1 := nN h1 | skip
   exact absurd h1 (by decide)
  ·first | replace h1 := dT h1 | replace h1 := dF h1 | replace h1 := dFT h1 | replace h1 := dTF h1 | replace h1 := nb_T h1 | replace h1 := nb_F h1 | skip
   first | replace h1 := nL h1 | replace h1 := nM h1 | replace h1 := nN h1 | skip
   refine wc_stay ?_
   refine wc_seq ?_
   refine wc_seq ?_
   refine wc_text ?_
   refine w_move rfl rfl ?_
   refine w_len rfl rfl (len_str u9) ?_
   refine w_eql u3 rfl rfl rfl ?_
   refine w_move rfl rfl ?_
   refine ws_split (t := 17) rfl (fun g17 => ?_) (fun g17 => ?_)
   ·first | replace g17 := dT g17 | replace g17 := dF g17 | replace g17 := dFT g17 | replace g17 := dTF g17 | replace g17 := nb_T g17 | replace g17 := nb_F g17 | skip
    first | replace g17 := nL g17 | replace g17 := nM g17 | replace g17 := nN g17 | skip
    cases g17
   ·first | replace g17 := dT g17 | replace g17 := dF g17 | replace g17 := dFT g17 | replace g17 := dTF g17 | replace g17 := nb_T g17 | replace g17 := nb_F g17 | skip
    first | replace g17 := nL g17 | replace g17 := nM g17 | replace g17 := nN g17 | skip
    refine ws_off rfl rfl rfl rfl ?_
    refine ws_off rfl rfl rfl rfl ?_
    refine ws_off rfl rfl rfl rfl ?_
    first | refine w_pickT rfl rfl rfl ⟨_, rfl⟩ ?_ | refine w_pickF rfl rfl ⟨_, rfl⟩ rfl ?_ | refine w_pick rfl rfl rfl rfl ?_
    refine ws_nil ?_
    refine wc_condF rfl ?_
    refine wc_stay ?_
    refine wc_seq ?_
    refine wc_seq ?_
    refine wc_text ?_
    refine w_move rfl rfl ?_
    refine w_call rfl rfl (cw_fn rfl rfl (.cons fz .nil) (set_fn) ?_)
    refine w_move rfl rfl ?_
    refine w_extract rfl rfl rfl ?_
    refine w_extract rfl rfl rfl ?_
    refine w_alloc z93 s93 rfl (fun o5 => ?_)
    refine w_st s93 rfl rfl rfl tk rfl rfl ovw ?_
    refine w_assign rfl rfl ?_
    refine ws_nil ?_
    refine wc_seq ?_
    refine wc_text ?_
    refine w_move rfl rfl ?_
    refine ws_nil ?_
    refine wc_cond rfl (fun h6 => ?_) (fun h6 => ?_)
    ·skip
     refine wc_seq ?_
     refine wc_text ?_
     refine w_move rfl rfl ?_
     refine w_call rfl rfl (cw_fn rfl rfl (.cons fz (.cons fz .nil)) (trimR_fn _ (by omega)) ?_)
     refine w_call rfl rfl (cw_fn rfl rfl (.cons fz (.cons fz .nil)) (trimL_fn _) ?_)
     refine w_assign rfl rfl ?_
     refine ws_nil ?_
     refine wc_ret ?_
     refine ⟨_, (.cons (.tmp rfl) .nil), ?_, rfl⟩
     first | rfl | simp [oneOf]
    ·skip
     cases h6

theorem word_fn (s : List UInt8) : PFn C 31 [.str s] (.bool (wordV s)) := by
 refine fn_view rfl rfl (fn := Tryd.f31) rfl rfl rfl rfl rfl ?_
 refine wc_seq ?_
 refine wc_text ?_
 refine w_assign rfl rfl ?_
 refine ws_nil ?_
 refine wc_seq ?_
 refine wc_seq ?_
 refine wc_text ?_
 refine w_move rfl rfl ?_
 refine w_seql (b := []) u9 rfl rfl rfl ?_
 refine w_move rfl rfl ?_
 refine ws_split (t := 5) rfl (fun g5 => ?_) (fun g5 => ?_)
 ·first | replace g5 := dT g5 | replace g5 := dF g5 | replace g5 := dFT g5 | replace g5 := dTF g5 | replace g5 := nb_T g5 | replace g5 := nb_F g5 | skip
  first | replace g5 := nL g5 | replace g5 := nM g5 | replace g5 := nN g5 | skip
  refine ws_off rfl rfl rfl rfl ?_
  refine ws_off rfl rfl rfl rfl ?_
  refine ws_off rfl rfl rfl rfl ?_
  first | refine w_pickT rfl rfl rfl ⟨_, rfl⟩ ?_ | refine w_pickF rfl rfl ⟨_, rfl⟩ rfl ?_ | refine w_pick rfl rfl rfl rfl ?_
  refine w_move rfl rfl ?_
  refine ws_off rfl rfl rfl rfl ?_
  refine ws_off rfl rfl rfl rfl ?_
  refine ws_off rfl rfl rfl rfl ?_
  refine ws_off rfl rfl rfl rfl ?_
  first | refine w_pickT rfl rfl rfl ⟨_, rfl⟩ ?_ | refine w_pickF rfl rfl ⟨_, rfl⟩ rfl ?_ | refine w_pick rfl rfl rfl rfl ?_
  refine ws_nil ?_
  refine wc_condT rfl ?_
  refine wc_seq ?_
  refine wc_text ?_
  refine w_assign rfl rfl ?_
  refine ws_nil ?_
  refine wc_ret ?_
  refine ⟨_, (.cons (.tmp rfl) .nil), ?_, rfl⟩
  refine congrArg AV.bool ?_
  first | (rw [g5]; rfl) | exact word_long g10 | exact word_first (of_decide_eq_true h1)
 ·first | replace g5 := dT g5 | replace g5 := dF g5 | replace g5 := dFT g5 | replace g5 := dTF g5 | replace g5 := nb_T g5 | replace g5 := nb_F g5 | skip
  first | replace g5 := nL g5 | replace g5 := nM g5 | replace g5 := nN g5 | skip
  obtain ⟨b, r, rfl⟩ : ∃ b r, s = b :: r := by
    cases s with
    | nil => exact absurd rfl g5
    | cons b r => exact ⟨b, r, rfl⟩
  have hx : (b :: r)[(0 : Int).toNat]? = some b := rfl
  refine ws_on rfl rfl ?_
  refine w_move rfl rfl ?_
  refine ws_on rfl rfl ?_
  refine w_len rfl rfl (len_str u9) ?_
  refine ws_on rfl rfl ?_
  refine w_gtr u3 rfl rfl rfl ?_
  first | refine w_pickT rfl rfl rfl ⟨_, rfl⟩ ?_ | refine w_pickF rfl rfl ⟨_, rfl⟩ rfl ?_ | refine w_pick rfl rfl rfl rfl ?_
  refine w_move rfl rfl ?_
  refine ws_split (t := 10) rfl (fun g10 => ?_) (fun g10 => ?_)
  ·first | replace g10 := dT g10 | replace g10 := dF g10 | replace g10 := dFT g10 | replace g10 := dTF g10 | replace g10 := nb_T g10 | replace g10 := nb_F g10 | skip
   first | replace g10 := nL g10 | replace g10 := nM g10 | replace g10 := nN g10 | skip
   refine ws_off rfl rfl rfl rfl ?_
   refine ws_off rfl rfl rfl rfl ?_
   refine ws_off rfl rfl rfl rfl ?_
   refine ws_off rfl rfl rfl rfl ?_
   first | refine w_pickT rfl rfl rfl ⟨_, rfl⟩ ?_ | refine w_pickF rfl rfl ⟨_, rfl⟩ rfl ?_ | refine w_pick rfl rfl rfl rfl ?_
   refine ws_nil ?_
   refine wc_condT rfl ?_
   refine wc_seq ?_
   refine wc_text ?_
   refine w_assign rfl rfl ?_
   refine ws_nil ?_
   refine wc_ret ?_
   refine ⟨_, (.cons (.tmp rfl) .nil), ?_, rfl⟩
   refine congrArg AV.bool ?_
   first | (rw [g5]; rfl) | exact word_long g10 | exact word_first (of_decide_eq_true h1)
  ·first | replace g10 := dT g10 | replace g10 := dF g10 | replace g10 := dFT g10 | replace g10 := dTF g10 | replace g10 := nb_T g10 | replace g10 := nb_F g10 | skip
   first | replace g10 := nL g10 | replace g10 := nM g10 | replace g10 := nN g10 | skip
   refine ws_on rfl rfl ?_
   refine w_move rfl rfl ?_
   refine ws_on rfl rfl ?_
   refine w_sidx u9 rfl rfl rfl (by omega) (by assumption) ?_
   refine ws_on rfl rfl ?_
   refine w_call rfl rfl (cw_fn rfl rfl (.cons fz (.cons fz .nil)) (indexByte_fn small b) ?_)
   refine ws_on rfl rfl ?_
   refine w_lss u3 rfl rfl rfl ?_
   first | refine w_pickT rfl rfl rfl ⟨_, rfl⟩ ?_ | refine w_pickF rfl rfl ⟨_, rfl⟩ rfl ?_ | refine w_pick rfl rfl rfl rfl ?_
   refine ws_nil ?_
   refine wc_cond rfl (fun h1 => ?_) (fun h1 => ?_)
   ·skip
    refine wc_seq ?_
    refine wc_text ?_
    refine w_assign rfl rfl ?_
    refine ws_nil ?_
    refine wc_ret ?_
    refine ⟨_, (.cons (.tmp rfl) .nil), ?_, rfl⟩
    refine congrArg AV.bool ?_
    first | (rw [g5]; rfl) | exact word_long g10 | exact word_first (of_decide_eq_true h1)
   ·skip
    refine wc_stay ?_
    refine wc_seq ?_
    refine wc_text ?_
    refine w_move rfl rfl ?_
    refine w_call rfl rfl (cw_fn rfl rfl (.cons fz (.cons fz .nil)) (trim_fn _ (by omega)) ?_)
    refine w_seql (b := []) u9 rfl rfl rfl ?_
    refine w_assign rfl rfl ?_
    refine ws_nil ?_
    refine wc_ret ?_
    refine ⟨_, (.cons (.tmp rfl) .nil), ?_, rfl⟩
    exact congrArg AV.bool (word_ok g10 (of_decide_eq_false h1)).symm

theorem pref73_fn (s p : List UInt8) : PFn C 73 [.str s, .str p] (.bool (prefV s p)) := by
 refine fn_view rfl rfl (fn := Tryd.f73) rfl rfl rfl rfl rfl ?_
 refine wc_seq ?_
 refine wc_text ?_
 refine w_assign rfl rfl ?_
 refine ws_nil ?_
 refine wc_seq ?_
 refine wc_text ?_
 refine w_move rfl rfl ?_
 refine w_len rfl rfl (len_str u9) ?_
 refine w_move rfl rfl ?_
 refine w_len rfl rfl (len_str u9) ?_
 refine w_geq u3 rfl rfl rfl ?_
 refine w_move rfl rfl ?_
 refine ws_split (t := 10) rfl (fun g10 => ?_) (fun g10 => ?_)
 ·first | replace g10 := dT g10 | replace g10 := dF g10 | replace g10 := dFT g10 | replace g10 := dTF g10 | replace g10 := nb_T g10 | replace g10 := nb_F g10 | skip
  first | replace g10 := nL g10 | replace g10 := nM g10 | replace g10 := nN g10 | skip
  refine ws_on rfl rfl ?_
  refine w_move rfl rfl ?_
  refine ws_on rfl rfl ?_
  refine w_move rfl rfl ?_
  refine ws_on rfl rfl ?_
  refine w_len rfl rfl (len_str u9) ?_
  refine ws_on rfl rfl ?_
  refine w_slice rfl rfl rfl rfl rfl (slice_str (i := 0) (j := p.length) u9 (by rfl) (natOr_of (by omega)) (by omega) (by omega)) ?_
  refine ws_on rfl rfl ?_
  refine w_move rfl rfl ?_
  refine ws_on rfl rfl ?_
  refine w_seql u9 rfl rfl rfl ?_
  first | refine w_pickT rfl rfl rfl ⟨_, rfl⟩ ?_ | refine w_pickF rfl rfl ⟨_, rfl⟩ rfl ?_ | refine w_pick rfl rfl rfl rfl ?_
  refine w_assign rfl rfl ?_
  refine ws_nil ?_
  refine wc_ret ?_
  refine ⟨_, (.cons (.tmp rfl) .nil), ?_, rfl⟩
  refine congrArg AV.bool ?_
  unfold prefV
  first | (rw [decide_eq_false (by omega : ¬ p.length ≤ s.length)]; rfl) | (rw [decide_eq_true (by omega : p.length ≤ s.length)]; rfl)
 ·first | replace g10 := dT g10 | replace g10 := dF g10 | replace g10 := dFT g10 | replace g10 := dTF g10 | replace g10 := nb_T g10 | replace g10 := nb_F g10 | skip
  first | replace g10 := nL g10 | replace g10 := nM g10 | replace g10 := nN g10 | skip
  refine ws_off rfl rfl rfl rfl ?_
  refine ws_off rfl rfl rfl rfl ?_
  refine ws_off rfl rfl rfl rfl ?_
  refine ws_off rfl rfl rfl rfl ?_
  refine ws_off rfl rfl rfl rfl ?_
  refine ws_off rfl rfl rfl rfl ?_
  first | refine w_pickT rfl rfl rfl ⟨_, rfl⟩ ?_ | refine w_pickF rfl rfl ⟨_, rfl⟩ rfl ?_ | refine w_pick rfl rfl rfl rfl ?_
  refine w_assign rfl rfl ?_
  refine ws_nil ?_
  refine wc_ret ?_
  refine ⟨_, (.cons (.tmp rfl) .nil), ?_, rfl⟩
  refine congrArg AV.bool ?_
  unfold prefV
  first | (rw [decide_eq_false (by omega : ¬ p.length ≤ s.length)]; rfl) | (rw [decide_eq_true (by omega : p.length ≤ s.length)]; rfl)

theorem pref_fn (s p : List UInt8) : PFn C 61 [.str s, .str p] (.bool (prefV s p)) := by
 refine fn_view rfl rfl (fn := Tryd.f61) rfl rfl rfl rfl rfl ?_
 refine wc_seq ?_
 refine wc_text ?_
 refine w_assign rfl rfl ?_
 refine ws_nil ?_
 refine wc_seq ?_
 refine wc_text ?_
 refine w_move rfl rfl ?_
 refine w_move rfl rfl ?_
 refine w_call rfl rfl (cw_fn rfl rfl (.cons fz (.cons fz .nil)) (pref73_fn _ _) ?_)
 refine w_assign rfl rfl ?_
 refine ws_nil ?_
 refine wc_ret ?_
 refine ⟨_, (.cons (.tmp rfl) .nil), ?_, rfl⟩
 first | rfl | simp [oneOf]

theorem sign_fn (k : Int) : PFn C 39 [.int .i64 k] (.str (signV k)) := by
 refine fn_view rfl rfl (fn := Tryd.f39) rfl rfl rfl rfl rfl ?_
 refine wc_seq ?_
 refine wc_text ?_
 refine w_assign (v := .str []) rfl rfl ?_
 refine ws_nil ?_
 refine wc_seq ?_
 refine wc_seq ?_
 refine wc_text ?_
 refine w_move rfl rfl ?_
 refine ws_nil ?_
 refine wc_block ?_
 refine wc_seq ?_
 refine wc_text ?_
 refine w_eql u3 rfl rfl rfl ?_
 refine w_assign rfl rfl ?_
 refine ws_nil ?_
 refine wc_cond rfl (fun h2 => ?_) (fun h2 => ?_)
 ·first | replace h2 := dT h2 | replace h2 := dF h2 | replace h2 := dFT h2 | replace h2 := dTF h2 | replace h2 := nb_T h2 | replace h2 := nb_F h2 | skip
  first | replace h2 := nL h2 | replace h2 := nM h2 | replace h2 := nN h2 | skip
  refine wc_seq ?_
  refine wc_text ?_
  refine w_assign (v := .str [61]) rfl rfl ?_
  refine ws_nil ?_
  refine wc_ret ?_
  refine ⟨_, (.cons (.tmp rfl) .nil), ?_, rfl⟩
  rw [show signV k = [61] by unfold signV; rw [if_pos h2]]; rfl
 ·first | replace h2 := dT h2 | replace h2 := dF h2 | replace h2 := dFT h2 | replace h2 := dTF h2 | replace h2 := nb_T h2 | replace h2 := nb_F h2 | skip
  first | replace h2 := nL h2 | replace h2 := nM h2 | replace h2 := nN h2 | skip
  refine wc_seq ?_
  refine wc_text ?_
  refine w_eql u3 rfl rfl rfl ?_
  refine w_assign rfl rfl ?_
  refine ws_nil ?_
  refine wc_cond rfl (fun h4 => ?_) (fun h4 => ?_)
  ·first | replace h4 := dT h4 | replace h4 := dF h4 | replace h4 := dFT h4 | replace h4 := dTF h4 | replace h4 := nb_T h4 | replace h4 := nb_F h4 | skip
   first | replace h4 := nL h4 | replace h4 := nM h4 | replace h4 := nN h4 | skip
   refine wc_seq ?_
   refine wc_text ?_
   refine w_assign (v := .str [33, 61]) rfl rfl ?_
   refine ws_nil ?_
   refine wc_ret ?_
   refine ⟨_, (.cons (.tmp rfl) .nil), ?_, rfl⟩
   rw [show signV k = [33, 61] by unfold signV; rw [if_neg h2, if_pos h4]]; rfl
  ·first | replace h4 := dT h4 | replace h4 := dF h4 | replace h4 := dFT h4 | replace h4 := dTF h4 | replace h4 := nb_T h4 | replace h4 := nb_F h4 | skip
   first | replace h4 := nL h4 | replace h4 := nM h4 | replace h4 := nN h4 | skip
   refine wc_seq ?_
   refine wc_text ?_
   refine w_eql u3 rfl rfl rfl ?_
   refine w_assign rfl rfl ?_
   refine ws_nil ?_
   refine wc_cond rfl (fun h6 => ?_) (fun h6 => ?_)
   ·first | replace h6 := dT h6 | replace h6 := dF h6 | replace h6 := dFT h6 | replace h6 := dTF h6 | replace h6 := nb_T h6 | replace h6 := nb_F h6 | skip
    first | replace h6 := nL h6 | replace h6 := nM h6 | replace h6 := nN h6 | skip
    refine wc_seq ?_
    refine wc_text ?_
    refine w_assign (v := .str [94, 61]) rfl rfl ?_
    refine ws_nil ?_
    refine wc_ret ?_
    refine ⟨_, (.cons (.tmp rfl) .nil), ?_, rfl⟩
    rw [show signV k = [94, 61] by unfold signV; rw [if_neg h2, if_neg h4, if_pos h6]]; rfl
   ·first | replace h6 := dT h6 | replace h6 := dF h6 | replace h6 := dFT h6 | replace h6 := dTF h6 | replace h6 := nb_T h6 | replace h6 := nb_F h6 | skip
    first | replace h6 := nL h6 | replace h6 := nM h6 | replace h6 := nN h6 | skip
    refine wc_seq ?_
    refine wc_text ?_
    refine w_eql u3 rfl rfl rfl ?_
    refine w_assign rfl rfl ?_
    refine ws_nil ?_
    refine wc_cond rfl (fun h8 => ?_) (fun h8 => ?_)
    ·first | replace h8 := dT h8 | replace h8 := dF h8 | replace h8 := dFT h8 | replace h8 := dTF h8 | replace h8 := nb_T h8 | replace h8 := nb_F h8 | skip
     first | replace h8 := nL h8 | replace h8 := nM h8 | replace h8 := nN h8 | skip
     refine wc_seq ?_
     refine wc_text ?_
     refine w_assign (v := .str [33, 94]) rfl rfl ?_
     refine ws_nil ?_
     refine wc_ret ?_
     refine ⟨_, (.cons (.tmp rfl) .nil), ?_, rfl⟩
     rw [show signV k = [33, 94] by unfold signV; rw [if_neg h2, if_neg h4, if_neg h6, if_pos h8]]; rfl
    ·first | replace h8 := dT h8 | replace h8 := dF h8 | replace h8 := dFT h8 | replace h8 := dTF h8 | replace h8 := nb_T h8 | replace h8 := nb_F h8 | skip
     first | replace h8 := nL h8 | replace h8 := nM h8 | replace h8 := nN h8 | skip
     refine wc_stay ?_
     refine wc_seq ?_
     refine wc_text ?_
     refine w_assign (v := .str []) rfl rfl ?_
     refine ws_nil ?_
     refine wc_ret ?_
     refine ⟨_, (.cons (.tmp rfl) .nil), ?_, rfl⟩
     rw [show signV k = [] by unfold signV; rw [if_neg h2, if_neg h4, if_neg h6, if_neg h8]]; rfl

theorem get_fn (l : List LD) (n : List UInt8) (hl : l.length ≤ 9223372036854775807) : PFn C 60 [AL eL l, .str n] (.str (getV l n)) := by
 refine fn_view rfl rfl (fn := Tryd.f60) rfl rfl rfl rfl rfl ?_
 refine wc_seq ?_
 refine wc_text ?_
 refine w_assign (v := .str []) rfl rfl ?_
 refine ws_nil ?_
 refine wc_seq ?_
 refine wc_seq ?_
 refine wc_text ?_
 refine w_move rfl rfl ?_
 first | refine w_len rfl rfl (len_lst u36) ?_ | refine w_len rfl rfl (len_slice u36) ?_ | refine w_lenO rfl u36 rfl rfl tk ?_
 refine w_move rfl rfl ?_
 refine ws_nil ?_
 refine wc_block ?_
 refine wc_loop (σ := { k : Nat // k ≤ l.length ∧ getV (l.drop k) n = getV l n }) (fun u => [(1, .str n), (7, AL eL l), (8, .int .i64 (l.length : Nat)), (9, .int .i64 (u.1 : Nat))]) (fun u => []) (fun u => l.length - u.1) ?_ ⟨0, Nat.zero_le _, rfl⟩ (.cons rfl (.cons rfl (.cons rfl (.cons rfl (.nil _))))) (Sel.weak .nil)
 rintro ⟨k, hk, hs⟩
 try dsimp only
 refine wc_seq ?_
 refine wc_text ?_
 refine w_lss u3 rfl rfl rfl ?_
 refine ws_nil ?_
 refine wc_seq ?_
 refine wc_cond rfl (fun h2 => ?_) (fun h2 => ?_)
 ·first | replace h2 := dT h2 | replace h2 := dF h2 | replace h2 := dFT h2 | replace h2 := dTF h2 | replace h2 := nb_T h2 | replace h2 := nb_F h2 | skip
  first | replace h2 := nL h2 | replace h2 := nM h2 | replace h2 := nN h2 | skip
  refine wc_stay ?_
  refine wc_seq ?_
  refine wc_block ?_
  refine wc_seq ?_
  refine wc_text ?_
  obtain ⟨x, hx⟩ := get_of_lt (l := l) (k := k) (by omega)
  first | refine w_lidx u36 s59 rfl rfl rfl (by omega) ?_ | refine w_slidx u36 s59 rfl rfl rfl (by omega) ?_
  first | refine w_ldC a59 s59 rfl rfl agc ?_ | refine w_ldP a59 s59 rfl rfl tk agp ?_
  refine w_alloc z59 s59 rfl (fun o6 => ?_)
  refine w_st s59 rfl rfl rfl tk rfl rfl ovw ?_
  refine ws_nil ?_
  refine WC.recell (eL x) tk rfl ?_
  refine wc_seq ?_
  refine wc_text ?_
  first | refine w_faddrC O59_0 rfl rfl ?_ | refine w_faddrP O59_0 rfl rfl ?_
  first | refine w_ldC1 a9 rfl rfl rdc ?_ | refine w_ldP1 a9 rfl rfl tk rdp ?_
  refine w_move rfl rfl ?_
  refine w_seql u9 rfl rfl rfl ?_
  refine ws_nil ?_
  refine wc_cond rfl (fun h4 => ?_) (fun h4 => ?_)
  ·first | replace h4 := dT h4 | replace h4 := dF h4 | replace h4 := dFT h4 | replace h4 := dTF h4 | replace h4 := nb_T h4 | replace h4 := nb_F h4 | skip
   first | replace h4 := nL h4 | replace h4 := nM h4 | replace h4 := nN h4 | skip
   refine wc_seq ?_
   refine wc_text ?_
   first | refine w_faddrC O59_1 rfl rfl ?_ | refine w_faddrP O59_1 rfl rfl ?_
   first | refine w_ldC1 a9 rfl rfl rdc ?_ | refine w_ldP1 a9 rfl rfl tk rdp ?_
   refine w_assign rfl rfl ?_
   refine ws_nil ?_
   refine wc_ret ?_
   refine ⟨_, (.cons (.tmp rfl) .nil), ?_, rfl⟩
   rw [← hs, drop_one hx, getV_cons, if_pos h4]; rfl
  ·first | replace h4 := dT h4 | replace h4 := dF h4 | replace h4 := dFT h4 | replace h4 := dTF h4 | replace h4 := nb_T h4 | replace h4 := nb_F h4 | skip
   first | replace h4 := nL h4 | replace h4 := nM h4 | replace h4 := nN h4 | skip
   refine wc_stay ?_
   refine wc_text ?_
   refine w_add u3 rfl rfl rfl (by omega) ?_
   refine w_move rfl rfl ?_
   refine ws_nil ?_
   exact ⟨⟨k + 1, by omega, by rw [← hs, drop_one hx, getV_cons, if_neg h4]⟩, by simp only; omega, (.cons rfl (.cons rfl (.cons rfl (.cons rfl (.nil _))))), (Sel.weak .nil)⟩
 ·first | replace h2 := dT h2 | replace h2 := dF h2 | replace h2 := dFT h2 | replace h2 := dTF h2 | replace h2 := nb_T h2 | replace h2 := nb_F h2 | skip
  first | replace h2 := nL h2 | replace h2 := nM h2 | replace h2 := nN h2 | skip
  refine wc_exit ?_
  refine wc_seq ?_
  refine wc_text ?_
  refine w_assign (v := .str []) rfl rfl ?_
  refine ws_nil ?_
  refine wc_ret ?_
  refine ⟨_, (.cons (.tmp rfl) .nil), ?_, rfl⟩
  rw [← hs, List.drop_eq_nil_of_le (by omega)]; rfl

theorem holds_fn (l : List LD) (m : MD) (hl : l.length ≤ 9223372036854775807) : PFn C 40 [AL eL l, .agg (eM m)] (.bool (holdsV l m)) := by
 refine fn_view rfl rfl (fn := Tryd.f40) rfl rfl rfl rfl rfl ?_
 refine wc_seq ?_
 refine wc_text ?_
 refine w_box (cs := eM m) s55 rfl rfl rfl rfl rfl (fun o3 => ?_)
 refine w_assign rfl rfl ?_
 refine ws_nil ?_
 refine wc_seq ?_
 refine wc_text ?_
 refine w_move rfl rfl ?_
 first | refine w_faddrC O55_0 rfl rfl ?_ | refine w_faddrP O55_0 rfl rfl ?_
 first | refine w_ldC1 a9 rfl rfl rdc ?_ | refine w_ldP1 a9 rfl rfl tk rdp ?_
 refine w_call rfl rfl (cw_fn rfl rfl (.cons fz (.cons fz .nil)) (get_fn _ _ (by assumption)) ?_)
 refine w_assign rfl rfl ?_
 refine ws_nil ?_
 refine wc_seq ?_
 refine wc_seq ?_
 refine wc_text ?_
 first | refine w_faddrC O55_2 rfl rfl ?_ | refine w_faddrP O55_2 rfl rfl ?_
 first | refine w_ldC1 a3 rfl rfl rdc ?_ | refine w_ldP1 a3 rfl rfl tk rdp ?_
 refine ws_nil ?_
 refine wc_block ?_
 refine wc_seq ?_
 refine wc_text ?_
 refine w_eql u3 rfl rfl rfl ?_
 refine w_assign rfl rfl ?_
 refine ws_nil ?_
 refine wc_cond rfl (fun h3 => ?_) (fun h3 => ?_)
 ·first | replace h3 := dT h3 | replace h3 := dF h3 | replace h3 := dFT h3 | replace h3 := dTF h3 | replace h3 := nb_T h3 | replace h3 := nb_F h3 | skip
  first | replace h3 := nL h3 | replace h3 := nM h3 | replace h3 := nN h3 | skip
  refine wc_seq ?_
  refine wc_text ?_
  refine w_move rfl rfl ?_
  first | refine w_faddrC O55_1 rfl rfl ?_ | refine w_faddrP O55_1 rfl rfl ?_
  first | refine w_ldC1 a9 rfl rfl rdc ?_ | refine w_ldP1 a9 rfl rfl tk rdp ?_
  refine w_seql u9 rfl rfl rfl ?_
  refine w_assign rfl rfl ?_
  refine ws_nil ?_
  refine wc_ret ?_
  refine ⟨_, (.cons (.tmp rfl) .nil), ?_, rfl⟩
  refine congrArg AV.bool ?_; unfold holdsV; rw [if_pos h3]
 ·first | replace h3 := dT h3 | replace h3 := dF h3 | replace h3 := dFT h3 | replace h3 := dTF h3 | replace h3 := nb_T h3 | replace h3 := nb_F h3 | skip
  first | replace h3 := nL h3 | replace h3 := nM h3 | replace h3 := nN h3 | skip
  refine wc_seq ?_
  refine wc_text ?_
  refine w_eql u3 rfl rfl rfl ?_
  refine w_assign rfl rfl ?_
  refine ws_nil ?_
  refine wc_cond rfl (fun h5 => ?_) (fun h5 => ?_)
  ·first | replace h5 := dT h5 | replace h5 := dF h5 | replace h5 := dFT h5 | replace h5 := dTF h5 | replace h5 := nb_T h5 | replace h5 := nb_F h5 | skip
   first | replace h5 := nL h5 | replace h5 := nM h5 | replace h5 := nN h5 | skip
   refine wc_seq ?_
   refine wc_text ?_
   refine w_move rfl rfl ?_
   first | refine w_faddrC O55_1 rfl rfl ?_ | refine w_faddrP O55_1 rfl rfl ?_
   first | refine w_ldC1 a9 rfl rfl rdc ?_ | refine w_ldP1 a9 rfl rfl tk rdp ?_
   refine w_sneq u9 rfl rfl rfl ?_
   refine w_assign rfl rfl ?_
   refine ws_nil ?_
   refine wc_ret ?_
   refine ⟨_, (.cons (.tmp rfl) .nil), ?_, rfl⟩
   refine congrArg AV.bool ?_; unfold holdsV; rw [if_neg h3, if_pos h5]
  ·first | replace h5 := dT h5 | replace h5 := dF h5 | replace h5 := dFT h5 | replace h5 := dTF h5 | replace h5 := nb_T h5 | replace h5 := nb_F h5 | skip
   first | replace h5 := nL h5 | replace h5 := nM h5 | replace h5 := nN h5 | skip
   refine wc_seq ?_
   refine wc_text ?_
   refine w_eql u3 rfl rfl rfl ?_
   refine w_assign rfl rfl ?_
   refine ws_nil ?_
   refine wc_cond rfl (fun h7 => ?_) (fun h7 => ?_)
   ·first | replace h7 := dT h7 | replace h7 := dF h7 | replace h7 := dFT h7 | replace h7 := dTF h7 | replace h7 := nb_T h7 | replace h7 := nb_F h7 | skip
    first | replace h7 := nL h7 | replace h7 := nM h7 | replace h7 := nN h7 | skip
    refine wc_seq ?_
    refine wc_text ?_
    refine w_move rfl rfl ?_
    first | refine w_faddrC O55_1 rfl rfl ?_ | refine w_faddrP O55_1 rfl rfl ?_
    first | refine w_ldC1 a9 rfl rfl rdc ?_ | refine w_ldP1 a9 rfl rfl tk rdp ?_
    refine w_call rfl rfl (cw_fn rfl rfl (.cons fz (.cons fz .nil)) (pref_fn _ _) ?_)
    refine w_assign rfl rfl ?_
    refine ws_nil ?_
    refine wc_ret ?_
    refine ⟨_, (.cons (.tmp rfl) .nil), ?_, rfl⟩
    refine congrArg AV.bool ?_; unfold holdsV; rw [if_neg h3, if_neg h5, if_pos h7]
   ·first | replace h7 := dT h7 | replace h7 := dF h7 | replace h7 := dFT h7 | replace h7 := dTF h7 | replace h7 := nb_T h7 | replace h7 := nb_F h7 | skip
    first | replace h7 := nL h7 | replace h7 := nM h7 | replace h7 := nN h7 | skip
    refine wc_seq ?_
    refine wc_text ?_
    refine w_eql u3 rfl rfl rfl ?_
    refine w_assign rfl rfl ?_
    refine ws_nil ?_
    refine wc_cond rfl (fun h9 => ?_) (fun h9 => ?_)
    ·first | replace h9 := dT h9 | replace h9 := dF h9 | replace h9 := dFT h9 | replace h9 := dTF h9 | replace h9 := nb_T h9 | replace h9 := nb_F h9 | skip
     first | replace h9 := nL h9 | replace h9 := nM h9 | replace h9 := nN h9 | skip
     refine wc_seq ?_
     refine wc_text ?_
     refine w_move rfl rfl ?_
     first | refine w_faddrC O55_1 rfl rfl ?_ | refine w_faddrP O55_1 rfl rfl ?_
     first | refine w_ldC1 a9 rfl rfl rdc ?_ | refine w_ldP1 a9 rfl rfl tk rdp ?_
     refine w_call rfl rfl (cw_fn rfl rfl (.cons fz (.cons fz .nil)) (pref_fn _ _) ?_)
     refine w_not rfl rfl ?_
     refine w_assign rfl rfl ?_
     refine ws_nil ?_
     refine wc_ret ?_
     refine ⟨_, (.cons (.tmp rfl) .nil), ?_, rfl⟩
     refine congrArg AV.bool ?_; unfold holdsV; rw [if_neg h3, if_neg h5, if_neg h7, if_pos h9]
    ·first | replace h9 := dT h9 | replace h9 := dF h9 | replace h9 := dFT h9 | replace h9 := dTF h9 | replace h9 := nb_T h9 | replace h9 := nb_F h9 | skip
     first | replace h9 := nL h9 | replace h9 := nM h9 | replace h9 := nN h9 | skip
     refine wc_stay ?_
     refine wc_seq ?_
     refine wc_text ?_
     refine w_assign rfl rfl ?_
     refine ws_nil ?_
     refine wc_ret ?_
     refine ⟨_, (.cons (.tmp rfl) .nil), ?_, rfl⟩
     refine congrArg AV.bool ?_; unfold holdsV; rw [if_neg h3, if_neg h5, if_neg h7, if_neg h9]

theorem all_fn (l : List LD) (ms : List MD) (hl : l.length ≤ 9223372036854775807) (hm : ms.length ≤ 9223372036854775807) : PFn C 33 [AL eL l, AL eM ms] (.bool (allV l ms)) := by
 refine fn_view rfl rfl (fn := Tryd.f33) rfl rfl rfl rfl rfl ?_
 refine wc_seq ?_
 refine wc_text ?_
 refine w_assign rfl rfl ?_
 refine ws_nil ?_
 refine wc_seq ?_
 refine wc_seq ?_
 refine wc_text ?_
 refine w_move rfl rfl ?_
 first | refine w_len rfl rfl (len_lst u25) ?_ | refine w_len rfl rfl (len_slice u25) ?_ | refine w_lenO rfl u25 rfl rfl tk ?_
 refine w_move rfl rfl ?_
 refine ws_nil ?_
 refine wc_block ?_
 refine wc_loop (σ := { k : Nat // k ≤ ms.length ∧ (ms.take k).all (holdsV l) = true }) (fun u => [(0, AL eL l), (7, AL eM ms), (8, .int .i64 (ms.length : Nat)), (9, .int .i64 (u.1 : Nat))]) (fun u => []) (fun u => ms.length - u.1) ?_ ⟨0, Nat.zero_le _, rfl⟩ (.cons rfl (.cons rfl (.cons rfl (.cons rfl (.nil _))))) (Sel.weak .nil)
 rintro ⟨k, hk, hs⟩
 try dsimp only
 refine wc_seq ?_
 refine wc_text ?_
 refine w_lss u3 rfl rfl rfl ?_
 refine ws_nil ?_
 refine wc_seq ?_
 refine wc_cond rfl (fun h2 => ?_) (fun h2 => ?_)
 ·first | replace h2 := dT h2 | replace h2 := dF h2 | replace h2 := dFT h2 | replace h2 := dTF h2 | replace h2 := nb_T h2 | replace h2 := nb_F h2 | skip
  first | replace h2 := nL h2 | replace h2 := nM h2 | replace h2 := nN h2 | skip
  refine wc_stay ?_
  refine wc_seq ?_
  refine wc_block ?_
  refine wc_seq ?_
  refine wc_text ?_
  obtain ⟨x, hx⟩ := get_of_lt (l := ms) (k := k) (by omega)
  first | refine w_lidx u25 s55 rfl rfl rfl (by omega) ?_ | refine w_slidx u25 s55 rfl rfl rfl (by omega) ?_
  first | refine w_ldC a55 s55 rfl rfl agc ?_ | refine w_ldP a55 s55 rfl rfl tk agp ?_
  refine w_alloc z55 s55 rfl (fun o6 => ?_)
  refine w_st s55 rfl rfl rfl tk rfl rfl ovw ?_
  refine ws_nil ?_
  refine WC.recell (eM x) tk rfl ?_
  refine wc_seq ?_
  refine wc_text ?_
  refine w_move rfl rfl ?_
  first | refine w_ldC a55 s55 rfl rfl agc ?_ | refine w_ldP a55 s55 rfl rfl tk agp ?_
  refine w_call rfl rfl (cw_fn rfl rfl (.cons fz (.cons fz .nil)) (holds_fn _ _ (by assumption)) ?_)
  refine w_not rfl rfl ?_
  refine ws_nil ?_
  refine wc_cond rfl (fun h4 => ?_) (fun h4 => ?_)
  ·replace h4 := nb_T h4
   refine wc_seq ?_
   refine wc_text ?_
   refine w_assign rfl rfl ?_
   refine ws_nil ?_
   refine wc_ret ?_
   refine ⟨_, (.cons (.tmp rfl) .nil), ?_, rfl⟩
   exact congrArg AV.bool (all_not hx h4)
  ·replace h4 := nb_F h4
   refine wc_stay ?_
   refine wc_text ?_
   refine w_add u3 rfl rfl rfl (by omega) ?_
   refine w_move rfl rfl ?_
   refine ws_nil ?_
   exact ⟨⟨k + 1, by omega, all_take hx hs h4⟩, by simp only; omega, (.cons rfl (.cons rfl (.cons rfl (.cons rfl (.nil _))))), (Sel.weak .nil)⟩
 ·first | replace h2 := dT h2 | replace h2 := dF h2 | replace h2 := dFT h2 | replace h2 := dTF h2 | replace h2 := nb_T h2 | replace h2 := nb_F h2 | skip
  first | replace h2 := nL h2 | replace h2 := nM h2 | replace h2 := nN h2 | skip
  refine wc_exit ?_
  refine wc_seq ?_
  refine wc_text ?_
  refine w_assign rfl rfl ?_
  refine ws_nil ?_
  refine wc_ret ?_
  refine ⟨_, (.cons (.tmp rfl) .nil), ?_, rfl⟩
  exact congrArg AV.bool (all_end (by omega) hs)

theorem msRight_fn (ms : List MD) (hm : ms.length ≤ 9223372036854775807) : PFn C 32 [AL eM ms] (.bool (msV ms)) := by
 refine fn_view rfl rfl (fn := Tryd.f32) rfl rfl rfl rfl rfl ?_
 refine wc_seq ?_
 refine wc_text ?_
 refine w_assign rfl rfl ?_
 refine ws_nil ?_
 refine wc_seq ?_
 refine wc_seq ?_
 refine wc_text ?_
 refine w_move rfl rfl ?_
 first | refine w_len rfl rfl (len_lst u25) ?_ | refine w_len rfl rfl (len_slice u25) ?_ | refine w_lenO rfl u25 rfl rfl tk ?_
 refine w_move rfl rfl ?_
 refine ws_nil ?_
 refine wc_block ?_
 refine wc_loop (σ := { k : Nat // k ≤ ms.length ∧ (ms.take k).all okM = true }) (fun u => [(0, AL eM ms), (5, AL eM ms), (6, .int .i64 (ms.length : Nat)), (7, .int .i64 (u.1 : Nat))]) (fun u => []) (fun u => ms.length - u.1) ?_ ⟨0, Nat.zero_le _, rfl⟩ (.cons rfl (.cons rfl (.cons rfl (.cons rfl (.nil _))))) (Sel.weak .nil)
 rintro ⟨k, hk, hs⟩
 try dsimp only
 refine wc_seq ?_
 refine wc_text ?_
 refine w_lss u3 rfl rfl rfl ?_
 refine ws_nil ?_
 refine wc_seq ?_
 refine wc_cond rfl (fun h2 => ?_) (fun h2 => ?_)
 ·first | replace h2 := dT h2 | replace h2 := dF h2 | replace h2 := dFT h2 | replace h2 := dTF h2 | replace h2 := nb_T h2 | replace h2 := nb_F h2 | skip
  first | replace h2 := nL h2 | replace h2 := nM h2 | replace h2 := nN h2 | skip
  refine wc_stay ?_
  refine wc_seq ?_
  refine wc_block ?_
  refine wc_seq ?_
  refine wc_text ?_
  obtain ⟨x, hx⟩ := get_of_lt (l := ms) (k := k) (by omega)
  first | refine w_lidx u25 s55 rfl rfl rfl (by omega) ?_ | refine w_slidx u25 s55 rfl rfl rfl (by omega) ?_
  first | refine w_ldC a55 s55 rfl rfl agc ?_ | refine w_ldP a55 s55 rfl rfl tk agp ?_
  refine w_alloc z55 s55 rfl (fun o4 => ?_)
  refine w_st s55 rfl rfl rfl tk rfl rfl ovw ?_
  refine ws_nil ?_
  refine WC.recell (eM x) tk rfl ?_
  refine wc_seq ?_
  refine wc_text ?_
  first | refine w_faddrC O55_0 rfl rfl ?_ | refine w_faddrP O55_0 rfl rfl ?_
  first | refine w_ldC1 a9 rfl rfl rdc ?_ | refine w_ldP1 a9 rfl rfl tk rdp ?_
  refine w_call rfl rfl (cw_fn rfl rfl (.cons fz .nil) (word_fn _) ?_)
  refine w_not rfl rfl ?_
  refine w_move rfl rfl ?_
  refine ws_split (t := 15) rfl (fun g15 => ?_) (fun g15 => ?_)
  ·first | replace g15 := dT g15 | replace g15 := dF g15 | replace g15 := dFT g15 | replace g15 := dTF g15 | replace g15 := nb_T g15 | replace g15 := nb_F g15 | skip
   first | replace g15 := nL g15 | replace g15 := nM g15 | replace g15 := nN g15 | skip
   refine ws_off rfl rfl rfl rfl ?_
   refine ws_off rfl rfl rfl rfl ?_
   refine ws_off rfl rfl rfl rfl ?_
   refine ws_off rfl rfl rfl rfl ?_
   first | refine w_pickT rfl rfl rfl ⟨_, rfl⟩ ?_ | refine w_pickF rfl rfl ⟨_, rfl⟩ rfl ?_ | refine w_pick rfl rfl rfl rfl ?_
   refine w_move rfl rfl ?_
   refine ws_off rfl rfl rfl rfl ?_
   refine ws_off rfl rfl rfl rfl ?_
   refine ws_off rfl rfl rfl rfl ?_
   refine ws_off rfl rfl rfl rfl ?_
   first | refine w_pickT rfl rfl rfl ⟨_, rfl⟩ ?_ | refine w_pickF rfl rfl ⟨_, rfl⟩ rfl ?_ | refine w_pick rfl rfl rfl rfl ?_
   refine ws_nil ?_
   refine wc_condT rfl ?_
   refine wc_seq ?_
   refine wc_text ?_
   refine w_assign rfl rfl ?_
   refine ws_nil ?_
   refine wc_ret ?_
   refine ⟨_, (.cons (.tmp rfl) .nil), ?_, rfl⟩
   refine congrArg AV.bool ?_
   unfold msV
   rw [all_not hx (by unfold okM; first | (rw [g15]; rfl) | (rw [decide_eq_false (show ¬ x.value.length ≤ 24 by omega), Bool.and_false]; rfl) | (rw [decide_eq_false (p := signV x.kind ≠ []) (by simpa using h4), Bool.and_false]))]; rfl
  ·first | replace g15 := dT g15 | replace g15 := dF g15 | replace g15 := dFT g15 | replace g15 := dTF g15 | replace g15 := nb_T g15 | replace g15 := nb_F g15 | skip
   first | replace g15 := nL g15 | replace g15 := nM g15 | replace g15 := nN g15 | skip
   refine ws_on rfl rfl ?_
   first | refine w_faddrC O55_1 rfl rfl ?_ | refine w_faddrP O55_1 rfl rfl ?_
   refine ws_on rfl rfl ?_
   first | refine w_ldC1 a9 rfl rfl rdc ?_ | refine w_ldP1 a9 rfl rfl tk rdp ?_
   refine ws_on rfl rfl ?_
   refine w_len rfl rfl (len_str u9) ?_
   refine ws_on rfl rfl ?_
   refine w_gtr u3 rfl rfl rfl ?_
   first | refine w_pickT rfl rfl rfl ⟨_, rfl⟩ ?_ | refine w_pickF rfl rfl ⟨_, rfl⟩ rfl ?_ | refine w_pick rfl rfl rfl rfl ?_
   refine w_move rfl rfl ?_
   refine ws_split (t := 21) rfl (fun g21 => ?_) (fun g21 => ?_)
   ·first | replace g21 := dT g21 | replace g21 := dF g21 | replace g21 := dFT g21 | replace g21 := dTF g21 | replace g21 := nb_T g21 | replace g21 := nb_F g21 | skip
    first | replace g21 := nL g21 | replace g21 := nM g21 | replace g21 := nN g21 | skip
    refine ws_off rfl rfl rfl rfl ?_
    refine ws_off rfl rfl rfl rfl ?_
    refine ws_off rfl rfl rfl rfl ?_
    refine ws_off rfl rfl rfl rfl ?_
    first | refine w_pickT rfl rfl rfl ⟨_, rfl⟩ ?_ | refine w_pickF rfl rfl ⟨_, rfl⟩ rfl ?_ | refine w_pick rfl rfl rfl rfl ?_
    refine ws_nil ?_
    refine wc_condT rfl ?_
    refine wc_seq ?_
    refine wc_text ?_
    refine w_assign rfl rfl ?_
    refine ws_nil ?_
    refine wc_ret ?_
    refine ⟨_, (.cons (.tmp rfl) .nil), ?_, rfl⟩
    refine congrArg AV.bool ?_
    unfold msV
    rw [all_not hx (by unfold okM; first | (rw [g15]; rfl) | (rw [decide_eq_false (show ¬ x.value.length ≤ 24 by omega), Bool.and_false]; rfl) | (rw [decide_eq_false (p := signV x.kind ≠ []) (by simpa using h4), Bool.and_false]))]; rfl
   ·first | replace g21 := dT g21 | replace g21 := dF g21 | replace g21 := dFT g21 | replace g21 := dTF g21 | replace g21 := nb_T g21 | replace g21 := nb_F g21 | skip
    first | replace g21 := nL g21 | replace g21 := nM g21 | replace g21 := nN g21 | skip
    refine ws_on rfl rfl ?_
    first | refine w_faddrC O55_2 rfl rfl ?_ | refine w_faddrP O55_2 rfl rfl ?_
    refine ws_on rfl rfl ?_
    first | refine w_ldC1 a3 rfl rfl rdc ?_ | refine w_ldP1 a3 rfl rfl tk rdp ?_
    refine ws_on rfl rfl ?_
    refine w_call rfl rfl (cw_fn rfl rfl (.cons fz .nil) (sign_fn _) ?_)
    refine ws_on rfl rfl ?_
    refine w_seql (b := []) u9 rfl rfl rfl ?_
    first | refine w_pickT rfl rfl rfl ⟨_, rfl⟩ ?_ | refine w_pickF rfl rfl ⟨_, rfl⟩ rfl ?_ | refine w_pick rfl rfl rfl rfl ?_
    refine ws_nil ?_
    refine wc_cond rfl (fun h4 => ?_) (fun h4 => ?_)
    ·first | replace h4 := dT h4 | replace h4 := dF h4 | replace h4 := dFT h4 | replace h4 := dTF h4 | replace h4 := nb_T h4 | replace h4 := nb_F h4 | skip
     first | replace h4 := nL h4 | replace h4 := nM h4 | replace h4 := nN h4 | skip
     refine wc_seq ?_
     refine wc_text ?_
     refine w_assign rfl rfl ?_
     refine ws_nil ?_
     refine wc_ret ?_
     refine ⟨_, (.cons (.tmp rfl) .nil), ?_, rfl⟩
     refine congrArg AV.bool ?_
     unfold msV
     rw [all_not hx (by unfold okM; first | (rw [g15]; rfl) | (rw [decide_eq_false (show ¬ x.value.length ≤ 24 by omega), Bool.and_false]; rfl) | (rw [decide_eq_false (p := signV x.kind ≠ []) (by simpa using h4), Bool.and_false]))]; rfl
    ·first | replace h4 := dT h4 | replace h4 := dF h4 | replace h4 := dFT h4 | replace h4 := dTF h4 | replace h4 := nb_T h4 | replace h4 := nb_F h4 | skip
     first | replace h4 := nL h4 | replace h4 := nM h4 | replace h4 := nN h4 | skip
     refine wc_stay ?_
     refine wc_text ?_
     refine w_add u3 rfl rfl rfl (by omega) ?_
     refine w_move rfl rfl ?_
     refine ws_nil ?_
     exact ⟨⟨k + 1, by omega, all_take hx hs (by unfold okM; rw [g15, decide_eq_true (show x.value.length ≤ 24 by omega), decide_eq_true (p := signV x.kind ≠ []) (by simpa using h4)]; rfl)⟩, by simp only; omega, (.cons rfl (.cons rfl (.cons rfl (.cons rfl (.nil _))))), (Sel.weak .nil)⟩
 ·first | replace h2 := dT h2 | replace h2 := dF h2 | replace h2 := dFT h2 | replace h2 := dTF h2 | replace h2 := nb_T h2 | replace h2 := nb_F h2 | skip
  first | replace h2 := nL h2 | replace h2 := nM h2 | replace h2 := nN h2 | skip
  refine wc_exit ?_
  refine wc_seq ?_
  refine wc_text ?_
  refine w_move rfl rfl ?_
  first | refine w_len rfl rfl (len_lst u25) ?_ | refine w_len rfl rfl (len_slice u25) ?_ | refine w_lenO rfl u25 rfl rfl tk ?_
  refine w_leq u3 rfl rfl rfl ?_
  refine w_assign rfl rfl ?_
  refine ws_nil ?_
  refine wc_ret ?_
  refine ⟨_, (.cons (.tmp rfl) .nil), ?_, rfl⟩
  refine congrArg AV.bool ?_
  unfold msV
  rw [all_end (by omega) hs]
  simp
  omega
end Go.Proofs.YtonojkcnencodaaDoor.rt
