/-
  DERIVED: THE SHELF's CONTRACTS AT THIS DUMP, IN PLAIN WORDS (tools/lay-plain.mjs out of 'Kx6zLay.lean', which tools/lay-shelf.mjs wrote): THE SAME DECLARATIONS UNDER THE SAME NAMES: 'import', 'namespace', 'open', 'def', 'theorem' AND NOTHING ELSE: no command of the shelf's: FOR A HAND-IN. Each laying: the table of numbers ('.._ren') and one theorem, a field a fact of the dump's own or the kernel's comparison; each contract: ONE APPLICATION.
-/
import Derived.Shelf.Sort.Plain
import Derived.Shelf.Slices.In.SortNone
import Derived.Shelf.Slices.CompactI
import Derived.Shelf.Slices.CompactS
import Derived.Shelf.Strings.Builder1
import Derived.Shelf.Strings.OnBuilder
import Derived.Test.YtlgofplbbmjdjaaGreatDoorProg
import Derived.WalkKit
import Derived.BigCall
namespace Go.Proofs
open Go.Shelf
def Tryz.laysString_ren : Go.Shelf.Ren := ⟨fun | 169 => 180 | n => n, fun | 70 => 214 | 9 => 9 | 0 => 0 | 72 => 216 | 37 => 40 | 127 => 227 | 3 => 3 | 5 => 5 | n => n, fun | n => n⟩
theorem Tryz.laysString : Go.Proofs.Lays.n169 Tryz.prog Tryz.laysString_ren := {
  mixed := by kernel_rfl
  f169 := Tryz.func180.trans (congrArg some (by kernel_rfl))
  t0 := Tryz.underlying0
  a0 := Tryz.isAgg0
  z0 := Tryz.sizeOf0
  v0 := Tryz.zeroValue0
  t3 := Tryz.underlying3
  a3 := Tryz.isAgg3
  z3 := Tryz.sizeOf3
  v3 := Tryz.zeroValue3
  t9 := Tryz.underlying9
  a9 := Tryz.isAgg9
  z9 := Tryz.sizeOf9
  v9 := Tryz.zeroValue9
  t37 := Tryz.underlying40
  a37 := Tryz.isAgg40
  z37 := Tryz.sizeOf40
  v37 := Tryz.zeroValue40
  t70 := Tryz.underlying214
  a70 := Tryz.isAgg214
  z70 := Tryz.sizeOf214
  v70 := Tryz.zeroValue214
  t72 := Tryz.underlying216
  a72 := Tryz.isAgg216
  z72 := Tryz.sizeOf216
  v72 := Tryz.zeroValue216
  t127 := Tryz.underlying227
  a127 := Tryz.isAgg227
  z127 := Tryz.sizeOf227
  v127 := Tryz.zeroValue227 }
def Tryz.laysJoin_ren : Go.Shelf.Ren := ⟨fun | 156 => 161 | 165 => 181 | 166 => 182 | 169 => 180 | 240 => 188 | 241 => 189 | 276 => 194 | 277 => 195 | n => n, fun | 31 => 59 | 9 => 9 | 3 => 3 | 4 => 4 | 0 => 0 | 20 => 20 | 72 => 216 | 76 => 222 | 70 => 214 | 37 => 40 | 75 => 218 | 127 => 227 | 164 => 233 | 5 => 5 | 80 => 220 | n => n, fun | n => n⟩
theorem Tryz.laysJoin : Go.Proofs.Lays.n156 Tryz.prog Tryz.laysJoin_ren := {
  mixed := by kernel_rfl
  f156 := Tryz.func161.trans (congrArg some (by kernel_rfl))
  f165 := Tryz.func181.trans (congrArg some (by kernel_rfl))
  f166 := Tryz.func182.trans (congrArg some (by kernel_rfl))
  f169 := Tryz.func180.trans (congrArg some (by kernel_rfl))
  f240 := Tryz.func188.trans (congrArg some (by kernel_rfl))
  f241 := Tryz.func189.trans (congrArg some (by kernel_rfl))
  f276 := Tryz.func194.trans (congrArg some (by kernel_rfl))
  f277 := Tryz.func195.trans (congrArg some (by kernel_rfl))
  t0 := Tryz.underlying0
  a0 := Tryz.isAgg0
  z0 := Tryz.sizeOf0
  v0 := Tryz.zeroValue0
  t3 := Tryz.underlying3
  a3 := Tryz.isAgg3
  z3 := Tryz.sizeOf3
  v3 := Tryz.zeroValue3
  t4 := Tryz.underlying4
  a4 := Tryz.isAgg4
  z4 := Tryz.sizeOf4
  v4 := Tryz.zeroValue4
  t9 := Tryz.underlying9
  a9 := Tryz.isAgg9
  z9 := Tryz.sizeOf9
  v9 := Tryz.zeroValue9
  t20 := Tryz.underlying20
  a20 := Tryz.isAgg20
  z20 := Tryz.sizeOf20
  v20 := Tryz.zeroValue20
  t31 := Tryz.underlying59
  a31 := Tryz.isAgg59
  z31 := Tryz.sizeOf59
  v31 := Tryz.zeroValue59
  t37 := Tryz.underlying40
  a37 := Tryz.isAgg40
  z37 := Tryz.sizeOf40
  v37 := Tryz.zeroValue40
  t70 := Tryz.underlying214
  a70 := Tryz.isAgg214
  z70 := Tryz.sizeOf214
  v70 := Tryz.zeroValue214
  t72 := Tryz.underlying216
  a72 := Tryz.isAgg216
  z72 := Tryz.sizeOf216
  v72 := Tryz.zeroValue216
  t75 := Tryz.underlying218
  a75 := Tryz.isAgg218
  z75 := Tryz.sizeOf218
  v75 := Tryz.zeroValue218
  t76 := Tryz.underlying222
  a76 := Tryz.isAgg222
  z76 := Tryz.sizeOf222
  v76 := Tryz.zeroValue222
  t127 := Tryz.underlying227
  a127 := Tryz.isAgg227
  z127 := Tryz.sizeOf227
  v127 := Tryz.zeroValue227
  t164 := Tryz.underlying233
  a164 := Tryz.isAgg233
  z164 := Tryz.sizeOf233
  v164 := Tryz.zeroValue233 }
def Tryz.laysSortI_ren : Go.Shelf.Ren := ⟨fun | 189 => 48 | 125 => 87 | 257 => 86 | 128 => 138 | 129 => 139 | 294 => 129 | 295 => 130 | 296 => 131 | 297 => 132 | 298 => 133 | 299 => 134 | 216 => 135 | 300 => 136 | 301 => 137 | 328 => 164 | 329 => 165 | 330 => 166 | 331 => 167 | 332 => 168 | 215 => 169 | 343 => 183 | n => n, fun | 28 => 33 | 3 => 3 | 46 => 154 | 0 => 0 | 51 => 184 | 53 => 186 | 4 => 4 | 183 => 177 | 182 => 176 | 131 => 99 | 5 => 5 | 9 => 9 | 218 => 202 | 222 => 121 | 228 => 224 | 229 => 85 | n => n, fun | n => n⟩
theorem Tryz.laysSortI : Go.Proofs.Lays.n189 Tryz.prog Tryz.laysSortI_ren := {
  mixed := by kernel_rfl
  f125 := Tryz.func87.trans (congrArg some (by kernel_rfl))
  f128 := Tryz.func138.trans (congrArg some (by kernel_rfl))
  f129 := Tryz.func139.trans (congrArg some (by kernel_rfl))
  f189 := Tryz.func48.trans (congrArg some (by kernel_rfl))
  f215 := Tryz.func169.trans (congrArg some (by kernel_rfl))
  f216 := Tryz.func135.trans (congrArg some (by kernel_rfl))
  f257 := Tryz.func86.trans (congrArg some (by kernel_rfl))
  f294 := Tryz.func129.trans (congrArg some (by kernel_rfl))
  f295 := Tryz.func130.trans (congrArg some (by kernel_rfl))
  f296 := Tryz.func131.trans (congrArg some (by kernel_rfl))
  f297 := Tryz.func132.trans (congrArg some (by kernel_rfl))
  f298 := Tryz.func133.trans (congrArg some (by kernel_rfl))
  f299 := Tryz.func134.trans (congrArg some (by kernel_rfl))
  f300 := Tryz.func136.trans (congrArg some (by kernel_rfl))
  f301 := Tryz.func137.trans (congrArg some (by kernel_rfl))
  f328 := Tryz.func164.trans (congrArg some (by kernel_rfl))
  f329 := Tryz.func165.trans (congrArg some (by kernel_rfl))
  f330 := Tryz.func166.trans (congrArg some (by kernel_rfl))
  f331 := Tryz.func167.trans (congrArg some (by kernel_rfl))
  f332 := Tryz.func168.trans (congrArg some (by kernel_rfl))
  f343 := Tryz.func183.trans (congrArg some (by kernel_rfl))
  t0 := Tryz.underlying0
  a0 := Tryz.isAgg0
  z0 := Tryz.sizeOf0
  v0 := Tryz.zeroValue0
  t3 := Tryz.underlying3
  a3 := Tryz.isAgg3
  z3 := Tryz.sizeOf3
  v3 := Tryz.zeroValue3
  t4 := Tryz.underlying4
  a4 := Tryz.isAgg4
  z4 := Tryz.sizeOf4
  v4 := Tryz.zeroValue4
  t5 := Tryz.underlying5
  a5 := Tryz.isAgg5
  z5 := Tryz.sizeOf5
  v5 := Tryz.zeroValue5
  t9 := Tryz.underlying9
  a9 := Tryz.isAgg9
  z9 := Tryz.sizeOf9
  v9 := Tryz.zeroValue9
  t28 := Tryz.underlying33
  a28 := Tryz.isAgg33
  z28 := Tryz.sizeOf33
  v28 := Tryz.zeroValue33
  t46 := Tryz.underlying154
  a46 := Tryz.isAgg154
  z46 := Tryz.sizeOf154
  v46 := Tryz.zeroValue154
  t51 := Tryz.underlying184
  a51 := Tryz.isAgg184
  z51 := Tryz.sizeOf184
  v51 := Tryz.zeroValue184
  t53 := Tryz.underlying186
  a53 := Tryz.isAgg186
  z53 := Tryz.sizeOf186
  v53 := Tryz.zeroValue186
  t131 := Tryz.underlying99
  a131 := Tryz.isAgg99
  z131 := Tryz.sizeOf99
  v131 := Tryz.zeroValue99
  t182 := Tryz.underlying176
  a182 := Tryz.isAgg176
  z182 := Tryz.sizeOf176
  v182 := Tryz.zeroValue176
  t183 := Tryz.underlying177
  a183 := Tryz.isAgg177
  z183 := Tryz.sizeOf177
  v183 := Tryz.zeroValue177
  t218 := Tryz.underlying202
  a218 := Tryz.isAgg202
  z218 := Tryz.sizeOf202
  v218 := Tryz.zeroValue202
  t222 := Tryz.underlying121
  a222 := Tryz.isAgg121
  z222 := Tryz.sizeOf121
  v222 := Tryz.zeroValue121
  t228 := Tryz.underlying224
  a228 := Tryz.isAgg224
  z228 := Tryz.sizeOf224
  v228 := Tryz.zeroValue224
  t229 := Tryz.underlying85
  a229 := Tryz.isAgg85
  z229 := Tryz.sizeOf85
  v229 := Tryz.zeroValue85 }
def Tryz.laysCompactI_ren : Go.Shelf.Ren := ⟨fun | 20 => 49 | n => n, fun | 22 => 33 | 3 => 3 | 4 => 4 | 0 => 0 | n => n, fun | n => n⟩
theorem Tryz.laysCompactI : Go.Proofs.Lays2.n20 Tryz.prog Tryz.laysCompactI_ren := {
  mixed := by kernel_rfl
  f20 := Tryz.func49.trans (congrArg some (by kernel_rfl))
  t0 := Tryz.underlying0
  a0 := Tryz.isAgg0
  z0 := Tryz.sizeOf0
  v0 := Tryz.zeroValue0
  t3 := Tryz.underlying3
  a3 := Tryz.isAgg3
  z3 := Tryz.sizeOf3
  v3 := Tryz.zeroValue3
  t4 := Tryz.underlying4
  a4 := Tryz.isAgg4
  z4 := Tryz.sizeOf4
  v4 := Tryz.zeroValue4
  t22 := Tryz.underlying33
  a22 := Tryz.isAgg33
  z22 := Tryz.sizeOf33
  v22 := Tryz.zeroValue33
  i3 := by kernel_rfl }
end Go.Proofs
namespace Go.Proofs
open Go.Shelf Go.RowKit
def Tryz.laysWriteByte_ren : Go.Shelf.Ren := ⟨fun | 167 => 179 | 240 => 188 | 276 => 194 | n => n, fun | 31 => 59 | 9 => 9 | 3 => 3 | 4 => 4 | 0 => 0 | 20 => 20 | 72 => 216 | 76 => 222 | 70 => 214 | 37 => 40 | 75 => 218 | 127 => 227 | 164 => 233 | 5 => 5 | 80 => 220 | n => n, fun | n => n⟩
theorem Tryz.laysWriteByte : Go.Proofs.Lays.n167 Tryz.prog Tryz.laysWriteByte_ren := {
  mixed := by kernel_rfl
  f167 := Tryz.func179.trans (congrArg some (by kernel_rfl))
  f240 := Tryz.func188.trans (congrArg some (by kernel_rfl))
  f276 := Tryz.func194.trans (congrArg some (by kernel_rfl))
  t0 := Tryz.underlying0
  a0 := Tryz.isAgg0
  z0 := Tryz.sizeOf0
  v0 := Tryz.zeroValue0
  t4 := Tryz.underlying4
  a4 := Tryz.isAgg4
  z4 := Tryz.sizeOf4
  v4 := Tryz.zeroValue4
  t5 := Tryz.underlying5
  a5 := Tryz.isAgg5
  z5 := Tryz.sizeOf5
  v5 := Tryz.zeroValue5
  t9 := Tryz.underlying9
  a9 := Tryz.isAgg9
  z9 := Tryz.sizeOf9
  v9 := Tryz.zeroValue9
  t20 := Tryz.underlying20
  a20 := Tryz.isAgg20
  z20 := Tryz.sizeOf20
  v20 := Tryz.zeroValue20
  t37 := Tryz.underlying40
  a37 := Tryz.isAgg40
  z37 := Tryz.sizeOf40
  v37 := Tryz.zeroValue40
  t70 := Tryz.underlying214
  a70 := Tryz.isAgg214
  z70 := Tryz.sizeOf214
  v70 := Tryz.zeroValue214
  t72 := Tryz.underlying216
  a72 := Tryz.isAgg216
  z72 := Tryz.sizeOf216
  v72 := Tryz.zeroValue216
  t75 := Tryz.underlying218
  a75 := Tryz.isAgg218
  z75 := Tryz.sizeOf218
  v75 := Tryz.zeroValue218
  t164 := Tryz.underlying233
  a164 := Tryz.isAgg233
  z164 := Tryz.sizeOf233
  v164 := Tryz.zeroValue233
  }
theorem Tryz.XWriteByte : Builder.Extra Tryz.prog Tryz.laysWriteByte_ren where
  sizeBuilder := by kernel_rfl
  liesBuilder := by kernel_rfl
  t5 := Tryz.underlying5
  a5 := Tryz.isAgg5
  z5 := Tryz.sizeOf5
  v5 := Tryz.zeroValue5
  infoByte := by kernel_rfl
  cellsByte := by kernel_rfl
  sizeByte := by kernel_rfl
  neB5 := by decide
theorem Tryz.XString : Builder.Extra Tryz.prog Tryz.laysString_ren where
  sizeBuilder := by kernel_rfl
  liesBuilder := by kernel_rfl
  t5 := Tryz.underlying5
  a5 := Tryz.isAgg5
  z5 := Tryz.sizeOf5
  v5 := Tryz.zeroValue5
  infoByte := by kernel_rfl
  cellsByte := by kernel_rfl
  sizeByte := by kernel_rfl
  neB5 := by decide
theorem Tryz.XJoin : Builder.Extra Tryz.prog Tryz.laysJoin_ren where
  sizeBuilder := by kernel_rfl
  liesBuilder := by kernel_rfl
  t5 := Tryz.underlying5
  a5 := Tryz.isAgg5
  z5 := Tryz.sizeOf5
  v5 := Tryz.zeroValue5
  infoByte := by kernel_rfl
  cellsByte := by kernel_rfl
  sizeByte := by kernel_rfl
  neB5 := by decide
theorem Tryz.writeByte (B b : Nat) (bs : List Value) (c : Int) (w : World) (h : Lib.IsBuilder 216 5 B b bs w) (hlen : bs.length + 1 ≤ 140737488355328) (hBw : B ≤ w.heap.size) :
    Calls Tryz.prog 179 #[.pointer (some ⟨b, 0, none⟩), .int .u8 c] w fun e w' => e = .returned .nilIface ∧ (Lib.BuilderAt 216 5 B b (.pointer (some ⟨b, 0, none⟩)) (bs ++ [.int .u8 c]) w' ∧ Below B w w') := Any.Builder_WriteByte Tryz.laysWriteByte Tryz.XWriteByte B b bs c w h hlen hBw
theorem Tryz.builderString (B b : Nat) (l : List UInt8) (w : World) (h : Lib.IsBuilder 216 5 B b (Lib.byteCells l) w) (hBw : B ≤ w.heap.size) :
    Calls Tryz.prog 180 #[.pointer (some ⟨b, 0, none⟩)] w fun e w' => e = .returned (.string ⟨l.toArray⟩) ∧ Below B w w' := Any.Builder_String_any Tryz.laysString Tryz.XString B b l w h hBw
end Go.Proofs
