/-
  The program walked by facts (printed by kx.py).
-/
import Derived.Test.YtlgofplbbmjdjaaGreatDoorProg
import Derived.Test.YtlgofplbbmjdjaaGreatDoorBhW18
import Derived.KernelRfl
import Derived.Test.YtlgofplbbmjdjaaGreatDoorBhRtL
import Derived.Test.YtlgofplbbmjdjaaGreatDoorBhDkL
namespace Go.Proofs.YtlgofplbbmjdjaaGreatDoor.kx
open Go Go.Proofs Go.Proofs.YtlgofplbbmjdjaaGreatDoor.BH
set_option maxRecDepth 100000
noncomputable def kinds (f : FuncId) : Kind :=
  if (f = 3 ∨ f = 4 ∨ f = 5 ∨ f = 13 ∨ f = 15 ∨ f = 17 ∨ f = 21 ∨ f = 40 ∨ f = 46 ∨ f = 50 ∨ f = 52 ∨ f = 75 ∨ f = 76 ∨ f = 79 ∨ f = 83 ∨ f = 85 ∨ f = 94 ∨ f = 121 ∨ f = 122 ∨ f = 123 ∨ f = 124 ∨ f = 126 ∨ f = 127 ∨ f = 128 ∨ f = 145 ∨ f = 151 ∨ f = 154 ∨ f = 155 ∨ f = 156 ∨ f = 159 ∨ f = 160 ∨ f = 161 ∨ f = 163 ∨ f = 173 ∨ f = 174 ∨ f = 178) then ⟨true, false, false, false, false⟩ else
  if (f = 38 ∨ f = 39 ∨ f = 73 ∨ f = 74) then ⟨true, true, false, false, false⟩ else
  ⟨false, false, false, false, false⟩
noncomputable def C : Ctx := ⟨Tryz.prog, ⟨kinds, fun _ => none⟩, fun _ _ h => (by cases h), by kernel_rfl⟩
theorem nb_T {b : Bool} (h : (!b) = true) : b = false := by cases b <;> simp_all
theorem nb_F {b : Bool} (h : (!b) = false) : b = true := by cases b <;> simp_all
theorem dT {p : Prop} [Decidable p] (h : decide p = true) : p := of_decide_eq_true h
theorem dF {p : Prop} [Decidable p] (h : decide p = false) : ¬ p := of_decide_eq_false h
theorem dFT {p : Prop} [Decidable p] (h : (!decide p) = true) : ¬ p := of_decide_eq_false (nb_T h)
theorem dTF {p : Prop} [Decidable p] (h : (!decide p) = false) : p := of_decide_eq_true (nb_F h)
theorem nL {a b : Int} (h : ¬ a < b) : b ≤ a := Int.not_lt.mp h
theorem nM {a b : Int} (h : ¬ a ≤ b) : b < a := Int.not_le.mp h
theorem nN {p : Prop} [Decidable p] (h : ¬ ¬ p) : p := Decidable.not_not.mp h
theorem bg {n : Nat} (h : n ≤ bigBy := by unfold bigBy; first | omega | (simp only [List.length_nil, List.length_cons, List.length_append, List.length_take, List.length_drop]; omega)) : n ≤ bigBy := h
theorem B104 : buildF C.P 104 = ⟨fun ps => bnd (fillV (pairAt [(0, 1), (1, 1)]) [.slice none 0 (.exact 0), .ptr none] ps) fun l => some (.agg l)⟩ := by kernel_rfl
theorem B108 : buildF C.P 108 = ⟨fun ps => bnd (fillV (pairAt [(0, 1)]) [.slice none 0 (.exact 0)] ps) fun l => some (.agg l)⟩ := by kernel_rfl
theorem B42 : buildF C.P 42 = ⟨fun ps => bnd (fillV (pairAt [(0, 1), (1, 1)]) [.str [], .str []] ps) fun l => some (.agg l)⟩ := by kernel_rfl
theorem B46 : buildF C.P 46 = ⟨fun ps => bnd (fillV (pairAt [(0, 1), (1, 1)]) [.int .i64 0, .int .i64 0] ps) fun l => some (.agg l)⟩ := by kernel_rfl
theorem B73 : buildF C.P 73 = ⟨fun ps => bnd (fillV (pairAt [(0, 1), (1, 1)]) [.slice none 0 (.exact 0), .int .i64 0] ps) fun l => some (.agg l)⟩ := by kernel_rfl
theorem B92 : buildF C.P 92 = ⟨fun ps => bnd (fillV (pairAt [(0, 1)]) [.slice none 0 (.exact 0)] ps) fun l => some (.agg l)⟩ := by kernel_rfl
theorem O104_0 : fieldOff C.P 104 0 = some 0 := by kernel_rfl
theorem O104_1 : fieldOff C.P 104 1 = some 1 := by kernel_rfl
theorem O108_0 : fieldOff C.P 108 0 = some 0 := by kernel_rfl
theorem O25_0 : fieldOff C.P 25 0 = some 0 := by kernel_rfl
theorem O25_1 : fieldOff C.P 25 1 = some 1 := by kernel_rfl
theorem O42_0 : fieldOff C.P 42 0 = some 0 := by kernel_rfl
theorem O42_1 : fieldOff C.P 42 1 = some 1 := by kernel_rfl
theorem O46_0 : fieldOff C.P 46 0 = some 0 := by kernel_rfl
theorem O46_1 : fieldOff C.P 46 1 = some 1 := by kernel_rfl
theorem O48_0 : fieldOff C.P 48 0 = some 0 := by kernel_rfl
theorem O48_1 : fieldOff C.P 48 1 = some 1 := by kernel_rfl
theorem O48_2 : fieldOff C.P 48 2 = some 2 := by kernel_rfl
theorem O73_0 : fieldOff C.P 73 0 = some 0 := by kernel_rfl
theorem O73_1 : fieldOff C.P 73 1 = some 1 := by kernel_rfl
theorem O92_0 : fieldOff C.P 92 0 = some 0 := by kernel_rfl
theorem O95_0 : fieldOff C.P 95 0 = some 0 := by kernel_rfl
theorem O95_1 : fieldOff C.P 95 1 = some 1 := by kernel_rfl
theorem a102 : aggOf C.P 102 = some false := by kernel_rfl
theorem a104 : aggOf C.P 104 = some true := by kernel_rfl
theorem a108 : aggOf C.P 108 = some true := by kernel_rfl
theorem a22 : aggOf C.P 22 = some false := by kernel_rfl
theorem a23 : aggOf C.P 23 = some false := by kernel_rfl
theorem a25 : aggOf C.P 25 = some true := by kernel_rfl
theorem a3 : aggOf C.P 3 = some false := by kernel_rfl
theorem a33 : aggOf C.P 33 = some false := by kernel_rfl
theorem a4 : aggOf C.P 4 = some false := by kernel_rfl
theorem a42 : aggOf C.P 42 = some true := by kernel_rfl
theorem a43 : aggOf C.P 43 = some false := by kernel_rfl
theorem a46 : aggOf C.P 46 = some true := by kernel_rfl
theorem a48 : aggOf C.P 48 = some true := by kernel_rfl
theorem a52 : aggOf C.P 52 = some false := by kernel_rfl
theorem a9 : aggOf C.P 9 = some false := by kernel_rfl
theorem a90 : aggOf C.P 90 = some false := by kernel_rfl
theorem a95 : aggOf C.P 95 = some true := by kernel_rfl
theorem b104 : bytesOf C.P 104 = some 32 := by kernel_rfl
theorem b3 : bytesOf C.P 3 = some 8 := by kernel_rfl
theorem b42 : bytesOf C.P 42 = some 32 := by kernel_rfl
theorem b43 : bytesOf C.P 43 = some 24 := by kernel_rfl
theorem b46 : bytesOf C.P 46 = some 16 := by kernel_rfl
theorem b73 : bytesOf C.P 73 = some 32 := by kernel_rfl
theorem b9 : bytesOf C.P 9 = some 16 := by kernel_rfl
theorem s104 : szOf C.P 104 = some 2 := by kernel_rfl
theorem s108 : szOf C.P 108 = some 1 := by kernel_rfl
theorem s195 : szOf C.P 195 = some 256 := by kernel_rfl
theorem s25 : szOf C.P 25 = some 2 := by kernel_rfl
theorem s3 : szOf C.P 3 = some 1 := by kernel_rfl
theorem s33 : szOf C.P 33 = some 1 := by kernel_rfl
theorem s4 : szOf C.P 4 = some 1 := by kernel_rfl
theorem s42 : szOf C.P 42 = some 2 := by kernel_rfl
theorem s43 : szOf C.P 43 = some 1 := by kernel_rfl
theorem s46 : szOf C.P 46 = some 2 := by kernel_rfl
theorem s48 : szOf C.P 48 = some 3 := by kernel_rfl
theorem s5 : szOf C.P 5 = some 1 := by kernel_rfl
theorem s52 : szOf C.P 52 = some 1 := by kernel_rfl
theorem s73 : szOf C.P 73 = some 2 := by kernel_rfl
theorem s9 : szOf C.P 9 = some 1 := by kernel_rfl
theorem s90 : szOf C.P 90 = some 1 := by kernel_rfl
theorem s92 : szOf C.P 92 = some 1 := by kernel_rfl
theorem s95 : szOf C.P 95 = some 2 := by kernel_rfl
theorem u154 : undOf C.P 154 = some (.int .u64) := by kernel_rfl
theorem u195 : undOf C.P 195 = some (.array 256 4) := by kernel_rfl
theorem u22 : undOf C.P 22 = some (.slice 95) := by kernel_rfl
theorem u23 : undOf C.P 23 = some (.slice 33) := by kernel_rfl
theorem u26 : undOf C.P 26 = some (.slice 48) := by kernel_rfl
theorem u27 : undOf C.P 27 = some (.pointer 92) := by kernel_rfl
theorem u3 : undOf C.P 3 = some (.int .i64) := by kernel_rfl
theorem u32 : undOf C.P 32 = some (.map 3 4) := by kernel_rfl
theorem u33 : undOf C.P 33 = some (.slice 3) := by kernel_rfl
theorem u36 : undOf C.P 36 = some (.slice 73) := by kernel_rfl
theorem u40 : undOf C.P 40 = some (.slice 5) := by kernel_rfl
theorem u42 : undOf C.P 42 = some (.struct (fieldsOf C.P 42)) := by kernel_rfl
theorem u43 : undOf C.P 43 = some (.slice 42) := by kernel_rfl
theorem u44 : undOf C.P 44 = some (.int .i64) := by kernel_rfl
theorem u46 : undOf C.P 46 = some (.struct (fieldsOf C.P 46)) := by kernel_rfl
theorem u49 : undOf C.P 49 = some (.slice 43) := by kernel_rfl
theorem u5 : undOf C.P 5 = some (.int .u8) := by kernel_rfl
theorem u52 : undOf C.P 52 = some (.slice 46) := by kernel_rfl
theorem u59 : undOf C.P 59 = some (.slice 9) := by kernel_rfl
theorem u9 : undOf C.P 9 = some (.string) := by kernel_rfl
theorem u90 : undOf C.P 90 = some (.slice 104) := by kernel_rfl
theorem u93 : undOf C.P 93 = some (.map 9 4) := by kernel_rfl
theorem y4 : zeroOf C.P 4 = some (.bool false) := by kernel_rfl
theorem z104 : zeroCells C.P 104 = some [.slice none 0 (.exact 0), .ptr none] := by kernel_rfl
theorem z108 : zeroCells C.P 108 = some [.slice none 0 (.exact 0)] := by kernel_rfl
theorem z195 : zeroCells C.P 195 = some [.bool false, .bool false, .bool false, .bool false, .bool false, .bool false, .bool false, .bool false, .bool false, .bool false, .bool false, .bool false, .bool false, .bool false, .bool false, .bool false, .bool false, .bool false, .bool false, .bool false, .bool false, .bool false, .bool false, .bool false, .bool false, .bool false, .bool false, .bool false, .bool false, .bool false, .bool false, .bool false, .bool false, .bool false, .bool false, .bool false, .bool false, .bool false, .bool false, .bool false, .bool false, .bool false, .bool false, .bool false, .bool false, .bool false, .bool false, .bool false, .bool false, .bool false, .bool false, .bool false, .bool false, .bool false, .bool false, .bool false, .bool false, .bool false, .bool false, .bool false, .bool false, .bool false, .bool false, .bool false, .bool false, .bool false, .bool false, .bool false, .bool false, .bool false, .bool false, .bool false, .bool false, .bool false, .bool false, .bool false, .bool false, .bool false, .bool false, .bool false, .bool false, .bool false, .bool false, .bool false, .bool false, .bool false, .bool false, .bool false, .bool false, .bool false, .bool false, .bool false, .bool false, .bool false, .bool false, .bool false, .bool false, .bool false, .bool false, .bool false, .bool false, .bool false, .bool false, .bool false, .bool false, .bool false, .bool false, .bool false, .bool false, .bool false, .bool false, .bool false, .bool false, .bool false, .bool false, .bool false, .bool false, .bool false, .bool false, .bool false, .bool false, .bool false, .bool false, .bool false, .bool false, .bool false, .bool false, .bool false, .bool false, .bool false, .bool false, .bool false, .bool false, .bool false, .bool false, .bool false, .bool false, .bool false, .bool false, .bool false, .bool false, .bool false, .bool false, .bool false, .bool false, .bool false, .bool false, .bool false, .bool false, .bool false, .bool false, .bool false, .bool false, .bool false, .bool false, .bool false, .bool false, .bool false, .bool false, .bool false, .bool false, .bool false, .bool false, .bool false, .bool false, .bool false, .bool false, .bool false, .bool false, .bool false, .bool false, .bool false, .bool false, .bool false, .bool false, .bool false, .bool false, .bool false, .bool false, .bool false, .bool false, .bool false, .bool false, .bool false, .bool false, .bool false, .bool false, .bool false, .bool false, .bool false, .bool false, .bool false, .bool false, .bool false, .bool false, .bool false, .bool false, .bool false, .bool false, .bool false, .bool false, .bool false, .bool false, .bool false, .bool false, .bool false, .bool false, .bool false, .bool false, .bool false, .bool false, .bool false, .bool false, .bool false, .bool false, .bool false, .bool false, .bool false, .bool false, .bool false, .bool false, .bool false, .bool false, .bool false, .bool false, .bool false, .bool false, .bool false, .bool false, .bool false, .bool false, .bool false, .bool false, .bool false, .bool false, .bool false, .bool false, .bool false, .bool false, .bool false, .bool false, .bool false, .bool false, .bool false, .bool false, .bool false, .bool false, .bool false, .bool false, .bool false, .bool false, .bool false, .bool false, .bool false, .bool false, .bool false] := by kernel_rfl
theorem z3 : zeroCells C.P 3 = some [.int .i64 0] := by kernel_rfl
theorem z42 : zeroCells C.P 42 = some [.str [], .str []] := by kernel_rfl
theorem z43 : zeroCells C.P 43 = some [.slice none 0 (.exact 0)] := by kernel_rfl
theorem z46 : zeroCells C.P 46 = some [.int .i64 0, .int .i64 0] := by kernel_rfl
theorem z48 : zeroCells C.P 48 = some [.str [], .str [], .int .i64 0] := by kernel_rfl
theorem z5 : zeroCells C.P 5 = some [.int .u8 0] := by kernel_rfl
theorem z73 : zeroCells C.P 73 = some [.slice none 0 (.exact 0), .int .i64 0] := by kernel_rfl
theorem z9 : zeroCells C.P 9 = some [.str []] := by kernel_rfl
end Go.Proofs.YtlgofplbbmjdjaaGreatDoor.kx
namespace Go.Proofs.YtlgofplbbmjdjaaGreatDoor.kx
open Go Go.Proofs Go.Proofs.YtlgofplbbmjdjaaGreatDoor.BH
open Go.Proofs.YtlgofplbbmjdjaaGreatDoor.BH.Rt
open Go.Proofs.YtlgofplbbmjdjaaGreatDoor.BH.Dk (withinV withinV_in)
set_option maxRecDepth 100000
theorem extIB_fn (s : List UInt8) (b : UInt8) : PFn C 173 [.str s, .int .u8 b.toNat] (.int .i64 (indexByteV b.toNat s 0)) := by
  refine pfn_run (N := 1) (h' := AHeap.empty) rfl rfl rfl ?_
  show (externF "internal/bytealg.IndexByteString").run [.str s, .int .u8 b.toNat] AHeap.empty = _
  unfold externF
  rw [if_pos rfl]
  show (bnd (strOf (.str s)) fun s => bnd (Go.Proofs.YtlgofplbbmjdjaaGreatDoor.BH.byteOf (.int .u8 b.toNat)) fun (c : UInt8) => some (AV.int .i64 (indexByteV c.toNat s 0), AHeap.empty)) = _
  rw [byteOf_is]; rfl
theorem set_fn : PFn C 154 [.str inner] (.tuple [.agg SET, .bool true]) := pfn_eval (N := 4000) rfl rfl (by kernel_rfl) (by kernel_rfl)

theorem slIndexByte_fn (s : List UInt8) (b : UInt8) : PFn C 151 [.str s, .int .u8 b.toNat] (.int .i64 (indexByteV b.toNat s 0)) := by
 refine fn_view rfl rfl (fn := Tryz.f151) rfl rfl rfl rfl rfl ?_
 refine wc_seq ?_
 refine wc_text ?_
 refine w_assign rfl rfl ?_
 refine ws_nil ?_
 refine wc_seq ?_
 refine wc_text ?_
 refine w_move rfl rfl ?_
 refine w_move rfl rfl ?_
 refine w_call rfl rfl (cw_fn rfl rfl (.cons fz (.cons fz .nil)) (extIB_fn _ _) ?_)
 refine w_assign rfl rfl ?_
 refine ws_nil ?_
 refine wc_ret ?_
 refine ⟨_, (.cons (.tmp rfl) .nil), ?_, rfl⟩
 first | rfl | simp [oneOf]

theorem indexByte_fn (s : List UInt8) (b : UInt8) : PFn C 121 [.str s, .int .u8 b.toNat] (.int .i64 (indexByteV b.toNat s 0)) := by
 refine fn_view rfl rfl (fn := Tryz.f121) rfl rfl rfl rfl rfl ?_
 refine wc_seq ?_
 refine wc_text ?_
 refine w_assign rfl rfl ?_
 refine ws_nil ?_
 refine wc_seq ?_
 refine wc_text ?_
 refine w_move rfl rfl ?_
 refine w_move rfl rfl ?_
 refine w_call rfl rfl (cw_fn rfl rfl (.cons fz (.cons fz .nil)) (slIndexByte_fn _ _) ?_)
 refine w_assign rfl rfl ?_
 refine ws_nil ?_
 refine wc_ret ?_
 refine ⟨_, (.cons (.tmp rfl) .nil), ?_, rfl⟩
 first | rfl | simp [oneOf]

theorem contains_fn (b : UInt8) : PFn C 174 [.cptr SET 0, .int .u8 b.toNat] (.bool (isIn b.toNat)) := by
 refine fn_view rfl rfl (fn := Tryz.f174) rfl rfl rfl rfl rfl ?_
 have hb := UInt8.toNat_lt b
 refine wc_seq ?_
 refine wc_text ?_
 refine w_assign rfl rfl ?_
 refine ws_nil ?_
 refine wc_seq ?_
 refine wc_text ?_
 refine w_move rfl rfl ?_
 refine w_move rfl rfl ?_
 refine w_nil rfl rfl rfl ?_
 first | refine w_aidxC u195 s4 rfl rfl rfl (by omega) ?_ | refine w_aidxP u195 s4 rfl rfl rfl (by omega) ?_
 first | refine w_ldC1 a4 rfl rfl rdc ?_ | refine w_ldP1 a4 rfl rfl tk rdp ?_
 refine w_assign rfl rfl ?_
 refine ws_nil ?_
 refine wc_ret ?_
 refine ⟨_, (.cons (.tmp rfl) .nil), ?_, rfl⟩
 first | rfl | simp [oneOf]

theorem trimL_fn (s0 : List UInt8) : PFn C 155 [.str s0, .cptr SET 0] (.str (trimL s0)) := by
 refine fn_view rfl rfl (fn := Tryz.f155) rfl rfl rfl rfl rfl ?_
 refine wc_seq ?_
 refine wc_text ?_
 refine w_assign (v := .str []) rfl rfl ?_
 refine ws_nil ?_
 refine wc_seq ?_
 refine wc_block ?_
 refine wc_loop (σ := { l : List UInt8 // trimL l = trimL s0 }) (fun u => [(0, .str u.1), (1, .cptr SET 0)]) (fun u => []) (fun u => u.1.length) ?_ ⟨s0, rfl⟩ (.cons rfl (.cons rfl (.nil _))) (Sel.weak .nil)
 rintro ⟨l, hl⟩
 try dsimp only
 refine wc_seq ?_
 refine wc_seq ?_
 refine wc_text ?_
 refine w_move rfl rfl ?_
 refine w_len rfl rfl (len_str u9) ?_
 refine w_gtr u3 rfl rfl rfl ?_
 refine ws_nil ?_
 refine wc_cond rfl (fun h1 => ?_) (fun h1 => ?_)
 ·replace h1 := of_decide_eq_true h1
  obtain ⟨b, r, rfl⟩ : ∃ b r, l = b :: r := by
    cases l with
    | nil => exact absurd h1 (by simp)
    | cons b r => exact ⟨b, r, rfl⟩
  have hx : (b :: r)[(0 : Int).toNat]? = some b := rfl
  refine wc_stay ?_
  refine wc_block ?_
  refine wc_seq ?_
  refine wc_seq ?_
  refine wc_text ?_
  refine w_move rfl rfl ?_
  refine w_move rfl rfl ?_
  refine w_sidx u9 rfl rfl rfl (by omega) (by assumption) ?_
  refine w_call rfl rfl (cw_fn rfl rfl (.cons fz (.cons fz .nil)) (contains_fn _) ?_)
  refine w_not rfl rfl ?_
  refine ws_nil ?_
  refine wc_cond rfl (fun h2 => ?_) (fun h2 => ?_)
  ·replace h2 := nb_T h2
   rw [trimL_out h2] at hl
   refine wc_exit ?_
   refine wc_seq ?_
   refine wc_text ?_
   refine w_move rfl rfl ?_
   refine w_assign rfl rfl ?_
   refine ws_nil ?_
   refine wc_ret ?_
   refine ⟨_, (.cons (.tmp rfl) .nil), ?_, rfl⟩
   rw [← hl]; rfl
  ·replace h2 := nb_F h2
   refine wc_stay ?_
   refine wc_text ?_
   have hl1 : (b :: r).length = r.length + 1 := rfl
   refine w_move rfl rfl ?_
   refine w_slice rfl rfl rfl rfl rfl (slice_str (i := 1) (j := (b :: r).length) u9 (by rfl) (by rfl) (by omega) (by omega)) ?_
   refine w_assign rfl rfl ?_
   refine ws_nil ?_
   rw [show ((b :: r).drop 1).take ((b :: r).length - 1) = r by simp]
   exact ⟨⟨r, by rw [← trimL_in h2]; exact hl⟩, by simp only; omega, (.cons rfl (.cons rfl (.nil _))), (Sel.weak .nil)⟩
 ·replace h1 := of_decide_eq_false h1
  obtain rfl : l = [] := by
    cases l with
    | nil => rfl
    | cons b r => exact absurd (by simp only [List.length_cons]; omega) h1
  refine wc_exit ?_
  refine wc_seq ?_
  refine wc_text ?_
  refine w_move rfl rfl ?_
  refine w_assign rfl rfl ?_
  refine ws_nil ?_
  refine wc_ret ?_
  refine ⟨_, (.cons (.tmp rfl) .nil), ?_, rfl⟩
  rw [← hl]; rfl

theorem trimR_fn (s0 : List UInt8) (hs : s0.length < 1000000) : PFn C 156 [.str s0, .cptr SET 0] (.str (trimR s0)) := by
 refine fn_view rfl rfl (fn := Tryz.f156) rfl rfl rfl rfl rfl ?_
 refine wc_seq ?_
 refine wc_text ?_
 refine w_assign (v := .str []) rfl rfl ?_
 refine ws_nil ?_
 refine wc_seq ?_
 refine wc_block ?_
 refine wc_loop (σ := { l : List UInt8 // trimR l = trimR s0 ∧ l.length ≤ s0.length }) (fun u => [(0, .str u.1), (1, .cptr SET 0)]) (fun u => []) (fun u => u.1.length) ?_ ⟨s0, rfl, Nat.le_refl _⟩ (.cons rfl (.cons rfl (.nil _))) (Sel.weak .nil)
 rintro ⟨l, hl, hle⟩
 try dsimp only
 refine wc_seq ?_
 refine wc_seq ?_
 refine wc_text ?_
 refine w_move rfl rfl ?_
 refine w_len rfl rfl (len_str u9) ?_
 refine w_gtr u3 rfl rfl rfl ?_
 refine ws_nil ?_
 refine wc_cond rfl (fun h1 => ?_) (fun h1 => ?_)
 ·replace h1 := of_decide_eq_true h1
  obtain ⟨b, r, rfl, hr⟩ := last_of (l := l) (k := l.length - 1) (by omega)
  have hl1 : (r ++ [b]).length = r.length + 1 := by simp
  have hx : (r ++ [b])[(((r ++ [b]).length : Int) - 1).toNat]? = some b := by
    rw [show (((r ++ [b]).length : Int) - 1).toNat = r.length by omega]; simp
  refine wc_stay ?_
  refine wc_block ?_
  refine wc_seq ?_
  refine wc_seq ?_
  refine wc_text ?_
  refine w_move rfl rfl ?_
  refine w_move rfl rfl ?_
  refine w_move rfl rfl ?_
  refine w_len rfl rfl (len_str u9) ?_
  refine w_sub u3 rfl rfl rfl (by omega) ?_
  refine w_sidx u9 rfl rfl rfl (by omega) (by assumption) ?_
  refine w_call rfl rfl (cw_fn rfl rfl (.cons fz (.cons fz .nil)) (contains_fn _) ?_)
  refine w_not rfl rfl ?_
  refine ws_nil ?_
  refine wc_cond rfl (fun h2 => ?_) (fun h2 => ?_)
  ·replace h2 := nb_T h2
   rw [trimR_out h2] at hl
   refine wc_exit ?_
   refine wc_seq ?_
   refine wc_text ?_
   refine w_move rfl rfl ?_
   refine w_assign rfl rfl ?_
   refine ws_nil ?_
   refine wc_ret ?_
   refine ⟨_, (.cons (.tmp rfl) .nil), ?_, rfl⟩
   rw [← hl]; rfl
  ·replace h2 := nb_F h2
   refine wc_stay ?_
   refine wc_text ?_
   refine w_move rfl rfl ?_
   refine w_move rfl rfl ?_
   refine w_len rfl rfl (len_str u9) ?_
   refine w_sub u3 rfl rfl rfl (by omega) ?_
   refine w_slice rfl rfl rfl rfl rfl (slice_str (i := 0) (j := r.length) u9 (by rfl) (natOr_of (by omega)) (by omega) (by omega)) ?_
   refine w_assign rfl rfl ?_
   refine ws_nil ?_
   rw [show ((r ++ [b]).drop 0).take (r.length - 0) = r by simp]
   exact ⟨⟨r, by rw [← trimR_in h2]; exact hl, by omega⟩, by simp only; omega, (.cons rfl (.cons rfl (.nil _))), (Sel.weak .nil)⟩
 ·replace h1 := of_decide_eq_false h1
  obtain rfl : l = [] := List.eq_nil_of_length_eq_zero (by omega)
  refine wc_exit ?_
  refine wc_seq ?_
  refine wc_text ?_
  refine w_move rfl rfl ?_
  refine w_assign rfl rfl ?_
  refine ws_nil ?_
  refine wc_ret ?_
  refine ⟨_, (.cons (.tmp rfl) .nil), ?_, rfl⟩
  rw [← hl]; rfl

theorem trim_fn (s : List UInt8) (hs : s.length < 1000000) : PFn C 122 [.str s, .str inner] (.str (trimL (trimR s))) := by
 refine fn_view rfl rfl (fn := Tryz.f122) rfl rfl rfl rfl rfl ?_
 refine wc_seq ?_
 refine wc_text ?_
 refine w_assign (v := .str []) rfl rfl ?_
 refine ws_nil ?_
 refine wc_seq ?_
 refine wc_seq ?_
 refine wc_text ?_
 refine w_move rfl rfl ?_
 refine w_seql (b := []) u9 rfl rfl rfl ?_
 refine w_move rfl rfl ?_
 refine ws_split (t := 9) rfl (fun g9 => ?_) (fun g9 => ?_)
 ·first | replace g9 := dT g9 | replace g9 := dF g9 | replace g9 := dFT g9 | replace g9 := dTF g9 | replace g9 := nb_T g9 | replace g9 := nb_F g9 | skip
  first | replace g9 := nL g9 | replace g9 := nM g9 | replace g9 := nN g9 | skip
  refine ws_off rfl rfl rfl rfl ?_
  refine ws_off rfl rfl rfl rfl ?_
  first | refine w_pickT rfl rfl rfl ⟨_, rfl⟩ ?_ | refine w_pickF rfl rfl ⟨_, rfl⟩ rfl ?_ | refine w_pick rfl rfl rfl rfl ?_
  refine ws_nil ?_
  refine wc_condT rfl ?_
  refine wc_seq ?_
  refine wc_text ?_
  refine w_move rfl rfl ?_
  refine w_assign rfl rfl ?_
  refine ws_nil ?_
  refine wc_ret ?_
  refine ⟨_, (.cons (.tmp rfl) .nil), ?_, rfl⟩
  first | (rw [g9]; rfl) | (subst g9; rfl) | rfl
 ·first | replace g9 := dT g9 | replace g9 := dF g9 | replace g9 := dFT g9 | replace g9 := dTF g9 | replace g9 := nb_T g9 | replace g9 := nb_F g9 | skip
  first | replace g9 := nL g9 | replace g9 := nM g9 | replace g9 := nN g9 | skip
  refine ws_on rfl rfl ?_
  refine w_move rfl rfl ?_
  refine ws_on rfl rfl ?_
  refine w_seql (b := []) u9 rfl rfl rfl ?_
  first | refine w_pickT rfl rfl rfl ⟨_, rfl⟩ ?_ | refine w_pickF rfl rfl ⟨_, rfl⟩ rfl ?_ | refine w_pick rfl rfl rfl rfl ?_
  refine ws_nil ?_
  refine wc_cond rfl (fun h1 => ?_) (fun h1 => ?_)
  ·first | replace h1 := dT h1 | replace h1 := dF h1 | replace h1 := dFT h1 | replace h1 := dTF h1 | replace h1 := nb_T h1 | replace h1 := nb_F h1 | skip
   first | replace h1 := nL h1 | replace h1 := nM h1 | replace h1 := nN h1 | skip
   exact absurd h1 (by decide)
  ·first | replace h1 := dT h1 | replace h1 := dF h1 | replace h1 := dFT h1 | replace h1 := dTF h1 | replace h1 := nb_T h1 | replace h1 := nb_F h1 | skip
   first | replace h1 := nL h1 | replace h1 := nM h1 | replace h1 := nN h1 | skip
   refine wc_stay ?_
   refine wc_seq ?_
   refine wc_seq ?_
   refine wc_text ?_
   refine w_move rfl rfl ?_
   refine w_len rfl rfl (len_str u9) ?_
   refine w_eql u3 rfl rfl rfl ?_
   refine w_move rfl rfl ?_
   refine ws_split (t := 17) rfl (fun g17 => ?_) (fun g17 => ?_)
   ·first | replace g17 := dT g17 | replace g17 := dF g17 | replace g17 := dFT g17 | replace g17 := dTF g17 | replace g17 := nb_T g17 | replace g17 := nb_F g17 | skip
    first | replace g17 := nL g17 | replace g17 := nM g17 | replace g17 := nN g17 | skip
    cases g17
   ·first | replace g17 := dT g17 | replace g17 := dF g17 | replace g17 := dFT g17 | replace g17 := dTF g17 | replace g17 := nb_T g17 | replace g17 := nb_F g17 | skip
    first | replace g17 := nL g17 | replace g17 := nM g17 | replace g17 := nN g17 | skip
    refine ws_off rfl rfl rfl rfl ?_
    refine ws_off rfl rfl rfl rfl ?_
    refine ws_off rfl rfl rfl rfl ?_
    first | refine w_pickT rfl rfl rfl ⟨_, rfl⟩ ?_ | refine w_pickF rfl rfl ⟨_, rfl⟩ rfl ?_ | refine w_pick rfl rfl rfl rfl ?_
    refine ws_nil ?_
    refine wc_condF rfl ?_
    refine wc_stay ?_
    refine wc_seq ?_
    refine wc_seq ?_
    refine wc_text ?_
    refine w_move rfl rfl ?_
    refine w_call rfl rfl (cw_fn rfl rfl (.cons fz .nil) (set_fn) ?_)
    refine w_move rfl rfl ?_
    refine w_extract rfl rfl rfl ?_
    refine w_extract rfl rfl rfl ?_
    refine w_alloc z195 s195 rfl (fun o5 => ?_)
    refine w_st s195 rfl rfl rfl tk rfl rfl ovw ?_
    refine w_assign rfl rfl ?_
    refine ws_nil ?_
    refine wc_seq ?_
    refine wc_text ?_
    refine w_move rfl rfl ?_
    refine ws_nil ?_
    refine wc_cond rfl (fun h6 => ?_) (fun h6 => ?_)
    ·skip
     refine wc_seq ?_
     refine wc_text ?_
     refine w_move rfl rfl ?_
     refine w_call rfl rfl (cw_fn rfl rfl (.cons fz (.cons fz .nil)) (trimR_fn _ (by omega)) ?_)
     refine w_call rfl rfl (cw_fn rfl rfl (.cons fz (.cons fz .nil)) (trimL_fn _) ?_)
     refine w_assign rfl rfl ?_
     refine ws_nil ?_
     refine wc_ret ?_
     refine ⟨_, (.cons (.tmp rfl) .nil), ?_, rfl⟩
     first | rfl | simp [oneOf]
    ·skip
     cases h6

theorem word_fn (s : List UInt8) : PFn C 76 [.str s] (.bool (wordV s)) := by
 refine fn_view rfl rfl (fn := Tryz.f76) rfl rfl rfl rfl rfl ?_
 refine wc_seq ?_
 refine wc_text ?_
 refine w_assign rfl rfl ?_
 refine ws_nil ?_
 refine wc_seq ?_
 refine wc_seq ?_
 refine wc_text ?_
 refine w_move rfl rfl ?_
 refine w_seql (b := []) u9 rfl rfl rfl ?_
 refine w_move rfl rfl ?_
 refine ws_split (t := 5) rfl (fun g5 => ?_) (fun g5 => ?_)
 ·first | replace g5 := dT g5 | replace g5 := dF g5 | replace g5 := dFT g5 | replace g5 := dTF g5 | replace g5 := nb_T g5 | replace g5 := nb_F g5 | skip
  first | replace g5 := nL g5 | replace g5 := nM g5 | replace g5 := nN g5 | skip
  refine ws_off rfl rfl rfl rfl ?_
  refine ws_off rfl rfl rfl rfl ?_
  refine ws_off rfl rfl rfl rfl ?_
  first | refine w_pickT rfl rfl rfl ⟨_, rfl⟩ ?_ | refine w_pickF rfl rfl ⟨_, rfl⟩ rfl ?_ | refine w_pick rfl rfl rfl rfl ?_
  refine w_move rfl rfl ?_
  refine ws_off rfl rfl rfl rfl ?_
  refine ws_off rfl rfl rfl rfl ?_
  refine ws_off rfl rfl rfl rfl ?_
  refine ws_off rfl rfl rfl rfl ?_
  first | refine w_pickT rfl rfl rfl ⟨_, rfl⟩ ?_ | refine w_pickF rfl rfl ⟨_, rfl⟩ rfl ?_ | refine w_pick rfl rfl rfl rfl ?_
  refine ws_nil ?_
  refine wc_condT rfl ?_
  refine wc_seq ?_
  refine wc_text ?_
  refine w_assign rfl rfl ?_
  refine ws_nil ?_
  refine wc_ret ?_
  refine ⟨_, (.cons (.tmp rfl) .nil), ?_, rfl⟩
  refine congrArg AV.bool ?_
  first | (rw [g5]; rfl) | exact word_long g10 | exact word_first (of_decide_eq_true h1)
 ·first | replace g5 := dT g5 | replace g5 := dF g5 | replace g5 := dFT g5 | replace g5 := dTF g5 | replace g5 := nb_T g5 | replace g5 := nb_F g5 | skip
  first | replace g5 := nL g5 | replace g5 := nM g5 | replace g5 := nN g5 | skip
  obtain ⟨b, r, rfl⟩ : ∃ b r, s = b :: r := by
    cases s with
    | nil => exact absurd rfl g5
    | cons b r => exact ⟨b, r, rfl⟩
  have hx : (b :: r)[(0 : Int).toNat]? = some b := rfl
  refine ws_on rfl rfl ?_
  refine w_move rfl rfl ?_
  refine ws_on rfl rfl ?_
  refine w_len rfl rfl (len_str u9) ?_
  refine ws_on rfl rfl ?_
  refine w_gtr u3 rfl rfl rfl ?_
  first | refine w_pickT rfl rfl rfl ⟨_, rfl⟩ ?_ | refine w_pickF rfl rfl ⟨_, rfl⟩ rfl ?_ | refine w_pick rfl rfl rfl rfl ?_
  refine w_move rfl rfl ?_
  refine ws_split (t := 10) rfl (fun g10 => ?_) (fun g10 => ?_)
  ·first | replace g10 := dT g10 | replace g10 := dF g10 | replace g10 := dFT g10 | replace g10 := dTF g10 | replace g10 := nb_T g10 | replace g10 := nb_F g10 | skip
   first | replace g10 := nL g10 | replace g10 := nM g10 | replace g10 := nN g10 | skip
   refine ws_off rfl rfl rfl rfl ?_
   refine ws_off rfl rfl rfl rfl ?_
   refine ws_off rfl rfl rfl rfl ?_
   refine ws_off rfl rfl rfl rfl ?_
   first | refine w_pickT rfl rfl rfl ⟨_, rfl⟩ ?_ | refine w_pickF rfl rfl ⟨_, rfl⟩ rfl ?_ | refine w_pick rfl rfl rfl rfl ?_
   refine ws_nil ?_
   refine wc_condT rfl ?_
   refine wc_seq ?_
   refine wc_text ?_
   refine w_assign rfl rfl ?_
   refine ws_nil ?_
   refine wc_ret ?_
   refine ⟨_, (.cons (.tmp rfl) .nil), ?_, rfl⟩
   refine congrArg AV.bool ?_
   first | (rw [g5]; rfl) | exact word_long g10 | exact word_first (of_decide_eq_true h1)
  ·first | replace g10 := dT g10 | replace g10 := dF g10 | replace g10 := dFT g10 | replace g10 := dTF g10 | replace g10 := nb_T g10 | replace g10 := nb_F g10 | skip
   first | replace g10 := nL g10 | replace g10 := nM g10 | replace g10 := nN g10 | skip
   refine ws_on rfl rfl ?_
   refine w_move rfl rfl ?_
   refine ws_on rfl rfl ?_
   refine w_sidx u9 rfl rfl rfl (by omega) (by assumption) ?_
   refine ws_on rfl rfl ?_
   refine w_call rfl rfl (cw_fn rfl rfl (.cons fz (.cons fz .nil)) (indexByte_fn small b) ?_)
   refine ws_on rfl rfl ?_
   refine w_lss u3 rfl rfl rfl ?_
   first | refine w_pickT rfl rfl rfl ⟨_, rfl⟩ ?_ | refine w_pickF rfl rfl ⟨_, rfl⟩ rfl ?_ | refine w_pick rfl rfl rfl rfl ?_
   refine ws_nil ?_
   refine wc_cond rfl (fun h1 => ?_) (fun h1 => ?_)
   ·skip
    refine wc_seq ?_
    refine wc_text ?_
    refine w_assign rfl rfl ?_
    refine ws_nil ?_
    refine wc_ret ?_
    refine ⟨_, (.cons (.tmp rfl) .nil), ?_, rfl⟩
    refine congrArg AV.bool ?_
    first | (rw [g5]; rfl) | exact word_long g10 | exact word_first (of_decide_eq_true h1)
   ·skip
    refine wc_stay ?_
    refine wc_seq ?_
    refine wc_text ?_
    refine w_move rfl rfl ?_
    refine w_call rfl rfl (cw_fn rfl rfl (.cons fz (.cons fz .nil)) (trim_fn _ (by omega)) ?_)
    refine w_seql (b := []) u9 rfl rfl rfl ?_
    refine w_assign rfl rfl ?_
    refine ws_nil ?_
    refine wc_ret ?_
    refine ⟨_, (.cons (.tmp rfl) .nil), ?_, rfl⟩
    exact congrArg AV.bool (word_ok g10 (of_decide_eq_false h1)).symm

theorem slPref_fn (s p : List UInt8) : PFn C 163 [.str s, .str p] (.bool (prefV s p)) := by
 refine fn_view rfl rfl (fn := Tryz.f163) rfl rfl rfl rfl rfl ?_
 refine wc_seq ?_
 refine wc_text ?_
 refine w_assign rfl rfl ?_
 refine ws_nil ?_
 refine wc_seq ?_
 refine wc_text ?_
 refine w_move rfl rfl ?_
 refine w_len rfl rfl (len_str u9) ?_
 refine w_move rfl rfl ?_
 refine w_len rfl rfl (len_str u9) ?_
 refine w_geq u3 rfl rfl rfl ?_
 refine w_move rfl rfl ?_
 refine ws_split (t := 10) rfl (fun g10 => ?_) (fun g10 => ?_)
 ·first | replace g10 := dT g10 | replace g10 := dF g10 | replace g10 := dFT g10 | replace g10 := dTF g10 | replace g10 := nb_T g10 | replace g10 := nb_F g10 | skip
  first | replace g10 := nL g10 | replace g10 := nM g10 | replace g10 := nN g10 | skip
  refine ws_on rfl rfl ?_
  refine w_move rfl rfl ?_
  refine ws_on rfl rfl ?_
  refine w_move rfl rfl ?_
  refine ws_on rfl rfl ?_
  refine w_len rfl rfl (len_str u9) ?_
  refine ws_on rfl rfl ?_
  refine w_slice rfl rfl rfl rfl rfl (slice_str (i := 0) (j := p.length) u9 (by rfl) (natOr_of (by omega)) (by omega) (by omega)) ?_
  refine ws_on rfl rfl ?_
  refine w_move rfl rfl ?_
  refine ws_on rfl rfl ?_
  refine w_seql u9 rfl rfl rfl ?_
  first | refine w_pickT rfl rfl rfl ⟨_, rfl⟩ ?_ | refine w_pickF rfl rfl ⟨_, rfl⟩ rfl ?_ | refine w_pick rfl rfl rfl rfl ?_
  refine w_assign rfl rfl ?_
  refine ws_nil ?_
  refine wc_ret ?_
  refine ⟨_, (.cons (.tmp rfl) .nil), ?_, rfl⟩
  refine congrArg AV.bool ?_
  unfold prefV
  first | (rw [decide_eq_false (by omega : ¬ p.length ≤ s.length)]; rfl) | (rw [decide_eq_true (by omega : p.length ≤ s.length)]; rfl)
 ·first | replace g10 := dT g10 | replace g10 := dF g10 | replace g10 := dFT g10 | replace g10 := dTF g10 | replace g10 := nb_T g10 | replace g10 := nb_F g10 | skip
  first | replace g10 := nL g10 | replace g10 := nM g10 | replace g10 := nN g10 | skip
  refine ws_off rfl rfl rfl rfl ?_
  refine ws_off rfl rfl rfl rfl ?_
  refine ws_off rfl rfl rfl rfl ?_
  refine ws_off rfl rfl rfl rfl ?_
  refine ws_off rfl rfl rfl rfl ?_
  refine ws_off rfl rfl rfl rfl ?_
  first | refine w_pickT rfl rfl rfl ⟨_, rfl⟩ ?_ | refine w_pickF rfl rfl ⟨_, rfl⟩ rfl ?_ | refine w_pick rfl rfl rfl rfl ?_
  refine w_assign rfl rfl ?_
  refine ws_nil ?_
  refine wc_ret ?_
  refine ⟨_, (.cons (.tmp rfl) .nil), ?_, rfl⟩
  refine congrArg AV.bool ?_
  unfold prefV
  first | (rw [decide_eq_false (by omega : ¬ p.length ≤ s.length)]; rfl) | (rw [decide_eq_true (by omega : p.length ≤ s.length)]; rfl)

theorem pref_fn (s p : List UInt8) : PFn C 127 [.str s, .str p] (.bool (prefV s p)) := by
 refine fn_view rfl rfl (fn := Tryz.f127) rfl rfl rfl rfl rfl ?_
 refine wc_seq ?_
 refine wc_text ?_
 refine w_assign rfl rfl ?_
 refine ws_nil ?_
 refine wc_seq ?_
 refine wc_text ?_
 refine w_move rfl rfl ?_
 refine w_move rfl rfl ?_
 refine w_call rfl rfl (cw_fn rfl rfl (.cons fz (.cons fz .nil)) (slPref_fn _ _) ?_)
 refine w_assign rfl rfl ?_
 refine ws_nil ?_
 refine wc_ret ?_
 refine ⟨_, (.cons (.tmp rfl) .nil), ?_, rfl⟩
 first | rfl | simp [oneOf]

theorem get_fn (l : List LD) (n : List UInt8) (hl : l.length ≤ 9223372036854775807) : PFn C 126 [AL eL l, .str n] (.str (getV l n)) := by
 refine fn_view rfl rfl (fn := Tryz.f126) rfl rfl rfl rfl rfl ?_
 refine wc_seq ?_
 refine wc_text ?_
 refine w_assign (v := .str []) rfl rfl ?_
 refine ws_nil ?_
 refine wc_seq ?_
 refine wc_seq ?_
 refine wc_text ?_
 refine w_move rfl rfl ?_
 first | refine w_len rfl rfl (len_lst u43) ?_ | refine w_len rfl rfl (len_slice u43) ?_ | refine w_lenO rfl u43 rfl rfl tk ?_
 refine w_move rfl rfl ?_
 refine ws_nil ?_
 refine wc_block ?_
 refine wc_loop (σ := { k : Nat // k ≤ l.length ∧ getV (l.drop k) n = getV l n }) (fun u => [(1, .str n), (7, AL eL l), (8, .int .i64 (l.length : Nat)), (9, .int .i64 (u.1 : Nat))]) (fun u => []) (fun u => l.length - u.1) ?_ ⟨0, Nat.zero_le _, rfl⟩ (.cons rfl (.cons rfl (.cons rfl (.cons rfl (.nil _))))) (Sel.weak .nil)
 rintro ⟨k, hk, hs⟩
 try dsimp only
 refine wc_seq ?_
 refine wc_text ?_
 refine w_lss u3 rfl rfl rfl ?_
 refine ws_nil ?_
 refine wc_seq ?_
 refine wc_cond rfl (fun h2 => ?_) (fun h2 => ?_)
 ·first | replace h2 := dT h2 | replace h2 := dF h2 | replace h2 := dFT h2 | replace h2 := dTF h2 | replace h2 := nb_T h2 | replace h2 := nb_F h2 | skip
  first | replace h2 := nL h2 | replace h2 := nM h2 | replace h2 := nN h2 | skip
  refine wc_stay ?_
  refine wc_seq ?_
  refine wc_block ?_
  refine wc_seq ?_
  refine wc_text ?_
  obtain ⟨x, hx⟩ := get_of_lt (l := l) (k := k) (by omega)
  first | refine w_lidx u43 s42 rfl rfl rfl (by omega) ?_ | refine w_slidx u43 s42 rfl rfl rfl (by omega) ?_
  first | refine w_ldC a42 s42 rfl rfl agc ?_ | refine w_ldP a42 s42 rfl rfl tk agp ?_
  refine w_alloc z42 s42 rfl (fun o6 => ?_)
  refine w_st s42 rfl rfl rfl tk rfl rfl ovw ?_
  refine ws_nil ?_
  refine WC.recell (eL x) tk rfl ?_
  refine wc_seq ?_
  refine wc_text ?_
  first | refine w_faddrC O42_0 rfl rfl ?_ | refine w_faddrP O42_0 rfl rfl ?_
  first | refine w_ldC1 a9 rfl rfl rdc ?_ | refine w_ldP1 a9 rfl rfl tk rdp ?_
  refine w_move rfl rfl ?_
  refine w_seql u9 rfl rfl rfl ?_
  refine ws_nil ?_
  refine wc_cond rfl (fun h4 => ?_) (fun h4 => ?_)
  ·first | replace h4 := dT h4 | replace h4 := dF h4 | replace h4 := dFT h4 | replace h4 := dTF h4 | replace h4 := nb_T h4 | replace h4 := nb_F h4 | skip
   first | replace h4 := nL h4 | replace h4 := nM h4 | replace h4 := nN h4 | skip
   refine wc_seq ?_
   refine wc_text ?_
   first | refine w_faddrC O42_1 rfl rfl ?_ | refine w_faddrP O42_1 rfl rfl ?_
   first | refine w_ldC1 a9 rfl rfl rdc ?_ | refine w_ldP1 a9 rfl rfl tk rdp ?_
   refine w_assign rfl rfl ?_
   refine ws_nil ?_
   refine wc_ret ?_
   refine ⟨_, (.cons (.tmp rfl) .nil), ?_, rfl⟩
   rw [← hs, drop_one hx, getV_cons, if_pos h4]; rfl
  ·first | replace h4 := dT h4 | replace h4 := dF h4 | replace h4 := dFT h4 | replace h4 := dTF h4 | replace h4 := nb_T h4 | replace h4 := nb_F h4 | skip
   first | replace h4 := nL h4 | replace h4 := nM h4 | replace h4 := nN h4 | skip
   refine wc_stay ?_
   refine wc_text ?_
   refine w_add u3 rfl rfl rfl (by omega) ?_
   refine w_move rfl rfl ?_
   refine ws_nil ?_
   exact ⟨⟨k + 1, by omega, by rw [← hs, drop_one hx, getV_cons, if_neg h4]⟩, by simp only; omega, (.cons rfl (.cons rfl (.cons rfl (.cons rfl (.nil _))))), (Sel.weak .nil)⟩
 ·first | replace h2 := dT h2 | replace h2 := dF h2 | replace h2 := dFT h2 | replace h2 := dTF h2 | replace h2 := nb_T h2 | replace h2 := nb_F h2 | skip
  first | replace h2 := nL h2 | replace h2 := nM h2 | replace h2 := nN h2 | skip
  refine wc_exit ?_
  refine wc_seq ?_
  refine wc_text ?_
  refine w_assign (v := .str []) rfl rfl ?_
  refine ws_nil ?_
  refine wc_ret ?_
  refine ⟨_, (.cons (.tmp rfl) .nil), ?_, rfl⟩
  rw [← hs, List.drop_eq_nil_of_le (by omega)]; rfl

theorem holds_fn (l : List LD) (m : MD) (hl : l.length ≤ 9223372036854775807) : PFn C 83 [AL eL l, .agg (eM m)] (.bool (holdsV l m)) := by
 refine fn_view rfl rfl (fn := Tryz.f83) rfl rfl rfl rfl rfl ?_
 refine wc_seq ?_
 refine wc_text ?_
 refine w_box (cs := eM m) s48 rfl rfl rfl rfl rfl (fun o3 => ?_)
 refine w_assign rfl rfl ?_
 refine ws_nil ?_
 refine wc_seq ?_
 refine wc_text ?_
 refine w_move rfl rfl ?_
 first | refine w_faddrC O48_0 rfl rfl ?_ | refine w_faddrP O48_0 rfl rfl ?_
 first | refine w_ldC1 a9 rfl rfl rdc ?_ | refine w_ldP1 a9 rfl rfl tk rdp ?_
 refine w_call rfl rfl (cw_fn rfl rfl (.cons fz (.cons fz .nil)) (get_fn _ _ (by assumption)) ?_)
 refine w_assign rfl rfl ?_
 refine ws_nil ?_
 refine wc_seq ?_
 refine wc_seq ?_
 refine wc_text ?_
 first | refine w_faddrC O48_2 rfl rfl ?_ | refine w_faddrP O48_2 rfl rfl ?_
 first | refine w_ldC1 a3 rfl rfl rdc ?_ | refine w_ldP1 a3 rfl rfl tk rdp ?_
 refine ws_nil ?_
 refine wc_block ?_
 refine wc_seq ?_
 refine wc_text ?_
 refine w_eql u3 rfl rfl rfl ?_
 refine w_assign rfl rfl ?_
 refine ws_nil ?_
 refine wc_cond rfl (fun h3 => ?_) (fun h3 => ?_)
 ·first | replace h3 := dT h3 | replace h3 := dF h3 | replace h3 := dFT h3 | replace h3 := dTF h3 | replace h3 := nb_T h3 | replace h3 := nb_F h3 | skip
  first | replace h3 := nL h3 | replace h3 := nM h3 | replace h3 := nN h3 | skip
  refine wc_seq ?_
  refine wc_text ?_
  refine w_move rfl rfl ?_
  first | refine w_faddrC O48_1 rfl rfl ?_ | refine w_faddrP O48_1 rfl rfl ?_
  first | refine w_ldC1 a9 rfl rfl rdc ?_ | refine w_ldP1 a9 rfl rfl tk rdp ?_
  refine w_seql u9 rfl rfl rfl ?_
  refine w_assign rfl rfl ?_
  refine ws_nil ?_
  refine wc_ret ?_
  refine ⟨_, (.cons (.tmp rfl) .nil), ?_, rfl⟩
  refine congrArg AV.bool ?_; unfold holdsV; rw [if_pos h3]
 ·first | replace h3 := dT h3 | replace h3 := dF h3 | replace h3 := dFT h3 | replace h3 := dTF h3 | replace h3 := nb_T h3 | replace h3 := nb_F h3 | skip
  first | replace h3 := nL h3 | replace h3 := nM h3 | replace h3 := nN h3 | skip
  refine wc_seq ?_
  refine wc_text ?_
  refine w_eql u3 rfl rfl rfl ?_
  refine w_assign rfl rfl ?_
  refine ws_nil ?_
  refine wc_cond rfl (fun h5 => ?_) (fun h5 => ?_)
  ·first | replace h5 := dT h5 | replace h5 := dF h5 | replace h5 := dFT h5 | replace h5 := dTF h5 | replace h5 := nb_T h5 | replace h5 := nb_F h5 | skip
   first | replace h5 := nL h5 | replace h5 := nM h5 | replace h5 := nN h5 | skip
   refine wc_seq ?_
   refine wc_text ?_
   refine w_move rfl rfl ?_
   first | refine w_faddrC O48_1 rfl rfl ?_ | refine w_faddrP O48_1 rfl rfl ?_
   first | refine w_ldC1 a9 rfl rfl rdc ?_ | refine w_ldP1 a9 rfl rfl tk rdp ?_
   refine w_sneq u9 rfl rfl rfl ?_
   refine w_assign rfl rfl ?_
   refine ws_nil ?_
   refine wc_ret ?_
   refine ⟨_, (.cons (.tmp rfl) .nil), ?_, rfl⟩
   refine congrArg AV.bool ?_; unfold holdsV; rw [if_neg h3, if_pos h5]
  ·first | replace h5 := dT h5 | replace h5 := dF h5 | replace h5 := dFT h5 | replace h5 := dTF h5 | replace h5 := nb_T h5 | replace h5 := nb_F h5 | skip
   first | replace h5 := nL h5 | replace h5 := nM h5 | replace h5 := nN h5 | skip
   refine wc_seq ?_
   refine wc_text ?_
   refine w_eql u3 rfl rfl rfl ?_
   refine w_assign rfl rfl ?_
   refine ws_nil ?_
   refine wc_cond rfl (fun h7 => ?_) (fun h7 => ?_)
   ·first | replace h7 := dT h7 | replace h7 := dF h7 | replace h7 := dFT h7 | replace h7 := dTF h7 | replace h7 := nb_T h7 | replace h7 := nb_F h7 | skip
    first | replace h7 := nL h7 | replace h7 := nM h7 | replace h7 := nN h7 | skip
    refine wc_seq ?_
    refine wc_text ?_
    refine w_move rfl rfl ?_
    first | refine w_faddrC O48_1 rfl rfl ?_ | refine w_faddrP O48_1 rfl rfl ?_
    first | refine w_ldC1 a9 rfl rfl rdc ?_ | refine w_ldP1 a9 rfl rfl tk rdp ?_
    refine w_call rfl rfl (cw_fn rfl rfl (.cons fz (.cons fz .nil)) (pref_fn _ _) ?_)
    refine w_assign rfl rfl ?_
    refine ws_nil ?_
    refine wc_ret ?_
    refine ⟨_, (.cons (.tmp rfl) .nil), ?_, rfl⟩
    refine congrArg AV.bool ?_; unfold holdsV; rw [if_neg h3, if_neg h5, if_pos h7]
   ·first | replace h7 := dT h7 | replace h7 := dF h7 | replace h7 := dFT h7 | replace h7 := dTF h7 | replace h7 := nb_T h7 | replace h7 := nb_F h7 | skip
    first | replace h7 := nL h7 | replace h7 := nM h7 | replace h7 := nN h7 | skip
    refine wc_seq ?_
    refine wc_text ?_
    refine w_eql u3 rfl rfl rfl ?_
    refine w_assign rfl rfl ?_
    refine ws_nil ?_
    refine wc_cond rfl (fun h9 => ?_) (fun h9 => ?_)
    ·first | replace h9 := dT h9 | replace h9 := dF h9 | replace h9 := dFT h9 | replace h9 := dTF h9 | replace h9 := nb_T h9 | replace h9 := nb_F h9 | skip
     first | replace h9 := nL h9 | replace h9 := nM h9 | replace h9 := nN h9 | skip
     refine wc_seq ?_
     refine wc_text ?_
     refine w_move rfl rfl ?_
     first | refine w_faddrC O48_1 rfl rfl ?_ | refine w_faddrP O48_1 rfl rfl ?_
     first | refine w_ldC1 a9 rfl rfl rdc ?_ | refine w_ldP1 a9 rfl rfl tk rdp ?_
     refine w_call rfl rfl (cw_fn rfl rfl (.cons fz (.cons fz .nil)) (pref_fn _ _) ?_)
     refine w_not rfl rfl ?_
     refine w_assign rfl rfl ?_
     refine ws_nil ?_
     refine wc_ret ?_
     refine ⟨_, (.cons (.tmp rfl) .nil), ?_, rfl⟩
     refine congrArg AV.bool ?_; unfold holdsV; rw [if_neg h3, if_neg h5, if_neg h7, if_pos h9]
    ·first | replace h9 := dT h9 | replace h9 := dF h9 | replace h9 := dFT h9 | replace h9 := dTF h9 | replace h9 := nb_T h9 | replace h9 := nb_F h9 | skip
     first | replace h9 := nL h9 | replace h9 := nM h9 | replace h9 := nN h9 | skip
     refine wc_stay ?_
     refine wc_seq ?_
     refine wc_text ?_
     refine w_assign rfl rfl ?_
     refine ws_nil ?_
     refine wc_ret ?_
     refine ⟨_, (.cons (.tmp rfl) .nil), ?_, rfl⟩
     refine congrArg AV.bool ?_; unfold holdsV; rw [if_neg h3, if_neg h5, if_neg h7, if_neg h9]

theorem all_fn (l : List LD) (ms : List MD) (hl : l.length ≤ 9223372036854775807) (hm : ms.length ≤ 9223372036854775807) : PFn C 46 [AL eL l, AL eM ms] (.bool (allV l ms)) := by
 refine fn_view rfl rfl (fn := Tryz.f46) rfl rfl rfl rfl rfl ?_
 refine wc_seq ?_
 refine wc_text ?_
 refine w_assign rfl rfl ?_
 refine ws_nil ?_
 refine wc_seq ?_
 refine wc_seq ?_
 refine wc_text ?_
 refine w_move rfl rfl ?_
 first | refine w_len rfl rfl (len_lst u26) ?_ | refine w_len rfl rfl (len_slice u26) ?_ | refine w_lenO rfl u26 rfl rfl tk ?_
 refine w_move rfl rfl ?_
 refine ws_nil ?_
 refine wc_block ?_
 refine wc_loop (σ := { k : Nat // k ≤ ms.length ∧ (ms.take k).all (holdsV l) = true }) (fun u => [(0, AL eL l), (7, AL eM ms), (8, .int .i64 (ms.length : Nat)), (9, .int .i64 (u.1 : Nat))]) (fun u => []) (fun u => ms.length - u.1) ?_ ⟨0, Nat.zero_le _, rfl⟩ (.cons rfl (.cons rfl (.cons rfl (.cons rfl (.nil _))))) (Sel.weak .nil)
 rintro ⟨k, hk, hs⟩
 try dsimp only
 refine wc_seq ?_
 refine wc_text ?_
 refine w_lss u3 rfl rfl rfl ?_
 refine ws_nil ?_
 refine wc_seq ?_
 refine wc_cond rfl (fun h2 => ?_) (fun h2 => ?_)
 ·first | replace h2 := dT h2 | replace h2 := dF h2 | replace h2 := dFT h2 | replace h2 := dTF h2 | replace h2 := nb_T h2 | replace h2 := nb_F h2 | skip
  first | replace h2 := nL h2 | replace h2 := nM h2 | replace h2 := nN h2 | skip
  refine wc_stay ?_
  refine wc_seq ?_
  refine wc_block ?_
  refine wc_seq ?_
  refine wc_text ?_
  obtain ⟨x, hx⟩ := get_of_lt (l := ms) (k := k) (by omega)
  first | refine w_lidx u26 s48 rfl rfl rfl (by omega) ?_ | refine w_slidx u26 s48 rfl rfl rfl (by omega) ?_
  first | refine w_ldC a48 s48 rfl rfl agc ?_ | refine w_ldP a48 s48 rfl rfl tk agp ?_
  refine w_alloc z48 s48 rfl (fun o6 => ?_)
  refine w_st s48 rfl rfl rfl tk rfl rfl ovw ?_
  refine ws_nil ?_
  refine WC.recell (eM x) tk rfl ?_
  refine wc_seq ?_
  refine wc_text ?_
  refine w_move rfl rfl ?_
  first | refine w_ldC a48 s48 rfl rfl agc ?_ | refine w_ldP a48 s48 rfl rfl tk agp ?_
  refine w_call rfl rfl (cw_fn rfl rfl (.cons fz (.cons fz .nil)) (holds_fn _ _ (by assumption)) ?_)
  refine w_not rfl rfl ?_
  refine ws_nil ?_
  refine wc_cond rfl (fun h4 => ?_) (fun h4 => ?_)
  ·replace h4 := nb_T h4
   refine wc_seq ?_
   refine wc_text ?_
   refine w_assign rfl rfl ?_
   refine ws_nil ?_
   refine wc_ret ?_
   refine ⟨_, (.cons (.tmp rfl) .nil), ?_, rfl⟩
   exact congrArg AV.bool (all_not hx h4)
  ·replace h4 := nb_F h4
   refine wc_stay ?_
   refine wc_text ?_
   refine w_add u3 rfl rfl rfl (by omega) ?_
   refine w_move rfl rfl ?_
   refine ws_nil ?_
   exact ⟨⟨k + 1, by omega, all_take hx hs h4⟩, by simp only; omega, (.cons rfl (.cons rfl (.cons rfl (.cons rfl (.nil _))))), (Sel.weak .nil)⟩
 ·first | replace h2 := dT h2 | replace h2 := dF h2 | replace h2 := dFT h2 | replace h2 := dTF h2 | replace h2 := nb_T h2 | replace h2 := nb_F h2 | skip
  first | replace h2 := nL h2 | replace h2 := nM h2 | replace h2 := nN h2 | skip
  refine wc_exit ?_
  refine wc_seq ?_
  refine wc_text ?_
  refine w_assign rfl rfl ?_
  refine ws_nil ?_
  refine wc_ret ?_
  refine ⟨_, (.cons (.tmp rfl) .nil), ?_, rfl⟩
  exact congrArg AV.bool (all_end (by omega) hs)

theorem within_fn (n lo hi : Int) (h0 : -1000000000 ≤ lo) (h1 : lo ≤ hi) (h2 : hi ≤ 1000000000) : PFn C 13 [.int .i64 n, .int .i64 lo, .int .i64 hi] (.int .i64 (withinV n lo hi)) := by
 refine fn_view rfl rfl (fn := Tryz.f13) rfl rfl rfl rfl rfl ?_
 have hlo : -(hi - lo + 1) < n.tmod (hi - lo + 1) := Int.lt_tmod_of_pos n (show 0 < hi - lo + 1 by omega)
 have hhi : n.tmod (hi - lo + 1) < hi - lo + 1 := Int.tmod_lt_of_pos n (by omega)
 refine wc_seq ?_
 refine wc_text ?_
 refine w_assign rfl rfl ?_
 refine ws_nil ?_
 refine wc_seq ?_
 refine wc_text ?_
 refine w_move rfl rfl ?_
 refine w_move rfl rfl ?_
 refine w_move rfl rfl ?_
 refine w_sub u3 rfl rfl rfl (by omega) ?_
 refine w_add u3 rfl rfl rfl (by omega) ?_
 refine w_rem u3 rfl rfl rfl (by omega) ?_
 refine w_assign rfl rfl ?_
 refine ws_nil ?_
 refine wc_seq ?_
 refine wc_seq ?_
 refine wc_text ?_
 refine w_move rfl rfl ?_
 refine w_lss u3 rfl rfl rfl ?_
 refine ws_nil ?_
 refine wc_cond rfl (fun h2 => ?_) (fun h2 => ?_)
 ·first | replace h2 := dT h2 | replace h2 := dF h2 | replace h2 := dFT h2 | replace h2 := dTF h2 | replace h2 := nb_T h2 | replace h2 := nb_F h2 | skip
  first | replace h2 := nL h2 | replace h2 := nM h2 | replace h2 := nN h2 | skip
  refine wc_text ?_
  refine w_move rfl rfl ?_
  refine w_move rfl rfl ?_
  refine w_add u3 rfl rfl rfl (by omega) ?_
  refine w_move rfl rfl ?_
  refine w_sub u3 rfl rfl rfl (by omega) ?_
  refine w_add u3 rfl rfl rfl (by omega) ?_
  refine w_assign rfl rfl ?_
  refine ws_nil ?_
  refine wc_seq ?_
  refine wc_text ?_
  refine w_move rfl rfl ?_
  refine w_move rfl rfl ?_
  refine w_add u3 rfl rfl rfl (by omega) ?_
  refine w_assign rfl rfl ?_
  refine ws_nil ?_
  refine wc_ret ?_
  refine ⟨_, (.cons (.tmp rfl) .nil), ?_, rfl⟩
  refine congrArg (AV.int .i64) ?_; unfold withinV; first | rw [if_pos h2] | rw [if_neg (by omega)]
 ·first | replace h2 := dT h2 | replace h2 := dF h2 | replace h2 := dFT h2 | replace h2 := dTF h2 | replace h2 := nb_T h2 | replace h2 := nb_F h2 | skip
  first | replace h2 := nL h2 | replace h2 := nM h2 | replace h2 := nN h2 | skip
  refine wc_stay ?_
  refine wc_seq ?_
  refine wc_text ?_
  refine w_move rfl rfl ?_
  refine w_move rfl rfl ?_
  refine w_add u3 rfl rfl rfl (by omega) ?_
  refine w_assign rfl rfl ?_
  refine ws_nil ?_
  refine wc_ret ?_
  refine ⟨_, (.cons (.tmp rfl) .nil), ?_, rfl⟩
  refine congrArg (AV.int .i64) ?_; unfold withinV; first | rw [if_pos h2] | rw [if_neg (by omega)]
end Go.Proofs.YtlgofplbbmjdjaaGreatDoor.kx
