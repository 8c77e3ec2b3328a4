/-
  The contracts of the library at this dump that the walks use, in plain words: laid by the kit's shelf, each one application. No condition.
-/
import Derived.Shelf.Strings.Builder1
import Derived.Shelf.Strings.Trim
import Derived.Shelf.Small.Utf8
import Derived.Shelf.Small.Strs
import Derived.Shelf.Small.Wraps
import Derived.Shelf.Strings.BuilderF
import Derived.Shelf.Strings.BuilderK
import Derived.Shelf.Strconv.Itoa0
import Derived.Shelf.Strconv.Itoa1
import Derived.Shelf.LaysM
import Derived.Shelf.Strconv.Itoa2
import Derived.Shelf.Strconv.Itoa3
import Derived.Shelf.Strconv.Itoa4
import Derived.Shelf.Strconv.ParseIntEmpty
import Derived.Shelf.Strconv.Clone
import Derived.Shelf.Strconv.SyntaxError
import Derived.Shelf.LaysC
import Derived.Shelf.Strconv.ToError
import Derived.Shelf.Strconv.Lower
import Derived.Shelf.Strconv.ParseUint10
import Derived.Shelf.Strconv.ParseUint10Empty
import Derived.Shelf.Strconv.ParseUint10Any
import Derived.Shelf.Strconv.ParseInt10
import Derived.Shelf.Strconv.RangeError
import Derived.Shelf.Strconv.ToErrorRange
import Derived.Shelf.Strconv.ParseUintEmpty
import Derived.Shelf.Strconv.ParseUint10b64
import Derived.Shelf.Strconv.ParseUint10b32
import Derived.Shelf.Strconv.ParseUint10b16
import Derived.Shelf.Strconv.ParseUint10b8
import Derived.Shelf.Strconv.ParseUint10At
import Derived.Shelf.Strconv.ParseInt10At64
import Derived.Shelf.Strconv.ParseInt10At32
import Derived.Shelf.Strconv.ParseInt10At16
import Derived.Shelf.Strconv.ParseInt10At8
import Derived.Shelf.Strconv.ParseInt10All
import Derived.Shelf.Strconv.ParseIntPublic10
import Derived.Shelf.Strconv.ErrVarParseInt
import Derived.Shelf.Strings.Search1
import Derived.Shelf.Strings.Search2
import Derived.Shelf.Strings.Search3
import Derived.Shelf.Strings.Cut
import Derived.Shelf.Strings.Count
import Derived.Shelf.Strings.Shaped
import Derived.Shelf.Strings.Prefix
import Derived.Shelf.Strings.Split
import Derived.Shelf.Strings.SplitShaped
import Derived.Shelf.Strings.Runes
import Derived.Shelf.Strings.IndexAny
import Derived.Shelf.Strings.AsciiSet
import Derived.Shelf.Strings.IndexAnyAll
import Derived.Shelf.Unicode.DecodeSlow
import Derived.Shelf.Strings.FieldsFuncAny
import Derived.Shelf.Strings.BuilderCap
import Derived.Test.YtoiokbdipcecnaaGreatDoorProg
namespace Go.Proofs
open Go.Shelf
def Tryz.lays170_ren : Go.Shelf.Ren := ⟨fun | 170 => 23 | n => n, fun | 70 => 50 | 3 => 3 | 0 => 0 | 72 => 52 | 37 => 42 | 5 => 5 | n => n, fun | n => n⟩
theorem Tryz.lays170 : Go.Proofs.Lays.n170 Tryz.prog Tryz.lays170_ren := {
  mixed := by kernel_rfl
  f170 := Tryz.func23.trans (congrArg some (by kernel_rfl))
  t0 := Tryz.underlying0
  a0 := Tryz.isAgg0
  z0 := Tryz.sizeOf0
  v0 := Tryz.zeroValue0
  t3 := Tryz.underlying3
  a3 := Tryz.isAgg3
  z3 := Tryz.sizeOf3
  v3 := Tryz.zeroValue3
  t37 := Tryz.underlying42
  a37 := Tryz.isAgg42
  z37 := Tryz.sizeOf42
  v37 := Tryz.zeroValue42
  t70 := Tryz.underlying50
  a70 := Tryz.isAgg50
  z70 := Tryz.sizeOf50
  v70 := Tryz.zeroValue50
  t72 := Tryz.underlying52
  a72 := Tryz.isAgg52
  z72 := Tryz.sizeOf52
  v72 := Tryz.zeroValue52 }
open Go.RowKit in
theorem Tryz.Builder_Len (B b : Nat) (bs : List Value) (w : World) (h : Lib.IsBuilder 52 5 B b bs w) :
    Calls Tryz.prog 23 #[.pointer (some ⟨b, 0, none⟩)] w fun e w' => e = .returned (.int .i64 bs.length) ∧ w' = w := Any.Builder_Len Tryz.lays170 B b bs w h
def Tryz.lays169_ren : Go.Shelf.Ren := ⟨fun | 169 => 24 | n => n, fun | 70 => 50 | 9 => 9 | 0 => 0 | 72 => 52 | 37 => 42 | 127 => 94 | 3 => 3 | 5 => 5 | n => n, fun | n => n⟩
theorem Tryz.lays169 : Go.Proofs.Lays.n169 Tryz.prog Tryz.lays169_ren := {
  mixed := by kernel_rfl
  f169 := Tryz.func24.trans (congrArg some (by kernel_rfl))
  t0 := Tryz.underlying0
  a0 := Tryz.isAgg0
  z0 := Tryz.sizeOf0
  v0 := Tryz.zeroValue0
  t3 := Tryz.underlying3
  a3 := Tryz.isAgg3
  z3 := Tryz.sizeOf3
  v3 := Tryz.zeroValue3
  t9 := Tryz.underlying9
  a9 := Tryz.isAgg9
  z9 := Tryz.sizeOf9
  v9 := Tryz.zeroValue9
  t37 := Tryz.underlying42
  a37 := Tryz.isAgg42
  z37 := Tryz.sizeOf42
  v37 := Tryz.zeroValue42
  t70 := Tryz.underlying50
  a70 := Tryz.isAgg50
  z70 := Tryz.sizeOf50
  v70 := Tryz.zeroValue50
  t72 := Tryz.underlying52
  a72 := Tryz.isAgg52
  z72 := Tryz.sizeOf52
  v72 := Tryz.zeroValue52
  t127 := Tryz.underlying94
  a127 := Tryz.isAgg94
  z127 := Tryz.sizeOf94
  v127 := Tryz.zeroValue94 }
theorem Tryz.Builder_Extra_169 : Builder.Extra Tryz.prog Tryz.lays169_ren := {
  sizeBuilder := by kernel_rfl
  liesBuilder := by kernel_rfl
  t5 := Tryz.underlying5
  a5 := Tryz.isAgg5
  z5 := Tryz.sizeOf5
  v5 := Tryz.zeroValue5
  infoByte := by kernel_rfl
  cellsByte := by kernel_rfl
  sizeByte := by kernel_rfl
  neB5 := by decide }
open Go.RowKit in
theorem Tryz.Builder_String_any (B b : Nat) (l : List UInt8) (w : World) (h : Lib.IsBuilder 52 5 B b (Lib.byteCells l) w) (hBw : B ≤ w.heap.size) :
    Calls Tryz.prog 24 #[.pointer (some ⟨b, 0, none⟩)] w fun e w' => e = .returned (.string ⟨l.toArray⟩) ∧ Below B w w' := Any.Builder_String_any Tryz.lays169 Tryz.Builder_Extra_169 B b l w h hBw
def Tryz.lays160_ren : Go.Shelf.Ren := ⟨fun | 160 => 49 | 232 => 68 | 231 => 67 | 227 => 69 | 234 => 71 | 233 => 70 | 236 => 73 | 235 => 72 | 228 => 91 | 271 => 94 | 151 => 93 | 197 => 92 | 120 => 127 | 152 => 126 | 260 => 125 | 137 => 146 | 119 => 147 | 224 => 123 | 225 => 122 | 217 => 121 | 266 => 144 | n => n, fun | 9 => 9 | 4 => 4 | 3 => 3 | 5 => 5 | 117 => 122 | 116 => 121 | 0 => 0 | 124 => 125 | 21 => 21 | 105 => 149 | 46 => 177 | 119 => 202 | 139 => 205 | 138 => 204 | n => n, fun | 3 => 2 | 4 => 3 | n => n⟩
theorem Tryz.lays160 : Go.Proofs.Lays.n160 Tryz.prog Tryz.lays160_ren := {
  mixed := by kernel_rfl
  f119 := Tryz.func147.trans (congrArg some (by kernel_rfl))
  f120 := Tryz.func127.trans (congrArg some (by kernel_rfl))
  f137 := Tryz.func146.trans (congrArg some (by kernel_rfl))
  f151 := Tryz.func93.trans (congrArg some (by kernel_rfl))
  f152 := Tryz.func126.trans (congrArg some (by kernel_rfl))
  f160 := Tryz.func49.trans (congrArg some (by kernel_rfl))
  f197 := Tryz.func92.trans (congrArg some (by kernel_rfl))
  f217 := Tryz.func121.trans (congrArg some (by kernel_rfl))
  f224 := Tryz.func123.trans (congrArg some (by kernel_rfl))
  f225 := Tryz.func122.trans (congrArg some (by kernel_rfl))
  f227 := Tryz.func69.trans (congrArg some (by kernel_rfl))
  f228 := Tryz.func91.trans (congrArg some (by kernel_rfl))
  f231 := Tryz.func67.trans (congrArg some (by kernel_rfl))
  f232 := Tryz.func68.trans (congrArg some (by kernel_rfl))
  f233 := Tryz.func70.trans (congrArg some (by kernel_rfl))
  f234 := Tryz.func71.trans (congrArg some (by kernel_rfl))
  f235 := Tryz.func72.trans (congrArg some (by kernel_rfl))
  f236 := Tryz.func73.trans (congrArg some (by kernel_rfl))
  f260 := Tryz.func125.trans (congrArg some (by kernel_rfl))
  f266 := Tryz.func144.trans (congrArg some (by kernel_rfl))
  f271 := Tryz.func94.trans (congrArg some (by kernel_rfl))
  t0 := Tryz.underlying0
  a0 := Tryz.isAgg0
  z0 := Tryz.sizeOf0
  v0 := Tryz.zeroValue0
  t3 := Tryz.underlying3
  a3 := Tryz.isAgg3
  z3 := Tryz.sizeOf3
  v3 := Tryz.zeroValue3
  t4 := Tryz.underlying4
  a4 := Tryz.isAgg4
  z4 := Tryz.sizeOf4
  v4 := Tryz.zeroValue4
  t5 := Tryz.underlying5
  a5 := Tryz.isAgg5
  z5 := Tryz.sizeOf5
  v5 := Tryz.zeroValue5
  t9 := Tryz.underlying9
  a9 := Tryz.isAgg9
  z9 := Tryz.sizeOf9
  v9 := Tryz.zeroValue9
  t21 := Tryz.underlying21
  a21 := Tryz.isAgg21
  z21 := Tryz.sizeOf21
  v21 := Tryz.zeroValue21
  t46 := Tryz.underlying177
  a46 := Tryz.isAgg177
  z46 := Tryz.sizeOf177
  v46 := Tryz.zeroValue177
  t105 := Tryz.underlying149
  a105 := Tryz.isAgg149
  z105 := Tryz.sizeOf149
  v105 := Tryz.zeroValue149
  t116 := Tryz.underlying121
  a116 := Tryz.isAgg121
  z116 := Tryz.sizeOf121
  t117 := Tryz.underlying122
  a117 := Tryz.isAgg122
  z117 := Tryz.sizeOf122
  v117 := Tryz.zeroValue122
  t119 := Tryz.underlying202
  a119 := Tryz.isAgg202
  z119 := Tryz.sizeOf202
  t124 := Tryz.underlying125
  a124 := Tryz.isAgg125
  z124 := Tryz.sizeOf125
  v124 := Tryz.zeroValue125
  t138 := Tryz.underlying204
  a138 := Tryz.isAgg204
  z138 := Tryz.sizeOf204
  v138 := Tryz.zeroValue204
  t139 := Tryz.underlying205
  a139 := Tryz.isAgg205
  z139 := Tryz.sizeOf205
  v139 := Tryz.zeroValue205
  g3 := by kernel_rfl
  g4 := by kernel_rfl }
def Tryz.lays119_ren : Go.Shelf.Ren := ⟨fun | 119 => 147 | n => n, fun | 21 => 21 | 4 => 4 | n => n, fun | n => n⟩
theorem Tryz.lays119 : Go.Proofs.Lays.n119 Tryz.prog Tryz.lays119_ren := {
  mixed := by kernel_rfl
  f119 := Tryz.func147.trans (congrArg some (by kernel_rfl))
  t4 := Tryz.underlying4
  a4 := Tryz.isAgg4
  z4 := Tryz.sizeOf4
  v4 := Tryz.zeroValue4
  t21 := Tryz.underlying21
  a21 := Tryz.isAgg21
  z21 := Tryz.sizeOf21
  v21 := Tryz.zeroValue21 }
theorem Tryz.utf8_ValidRune (r : Int) (w : World) :
    Calls Tryz.prog 147 #[.int .i32 r] w fun e w' => e = .returned (.bool (Lib.validRune r)) ∧ w' = w := Any.utf8_ValidRune Tryz.lays119 r w
def Tryz.lays137_ren : Go.Shelf.Ren := ⟨fun | 137 => 146 | 217 => 121 | 266 => 144 | n => n, fun | 9 => 9 | 5 => 5 | 3 => 3 | n => n, fun | n => n⟩
theorem Tryz.lays137 : Go.Proofs.Lays.n137 Tryz.prog Tryz.lays137_ren := {
  mixed := by kernel_rfl
  f137 := Tryz.func146.trans (congrArg some (by kernel_rfl))
  f217 := Tryz.func121.trans (congrArg some (by kernel_rfl))
  f266 := Tryz.func144.trans (congrArg some (by kernel_rfl))
  t3 := Tryz.underlying3
  a3 := Tryz.isAgg3
  z3 := Tryz.sizeOf3
  v3 := Tryz.zeroValue3
  t5 := Tryz.underlying5
  a5 := Tryz.isAgg5
  z5 := Tryz.sizeOf5
  v5 := Tryz.zeroValue5
  t9 := Tryz.underlying9
  a9 := Tryz.isAgg9
  z9 := Tryz.sizeOf9
  v9 := Tryz.zeroValue9 }
open Go.RowKit in
theorem Tryz.strings_IndexByte (s : ByteArray) (c : Int) (w : World) :
    Calls Tryz.prog 146 #[.string s, .int .u8 c] w fun e w' => e = .returned (.int .i64 (Lib.indexByte s.data.toList c.toNat.toUInt8)) ∧ w' = w := Any.strings_IndexByte Tryz.lays137 s c w
def Tryz.lays104_ren : Go.Shelf.Ren := ⟨fun | 104 => 128 | 211 => 148 | 207 => 167 | n => n, fun | 9 => 9 | 4 => 4 | 24 => 182 | 3 => 3 | n => n, fun | n => n⟩
theorem Tryz.lays104 : Go.Proofs.Lays.n104 Tryz.prog Tryz.lays104_ren := {
  mixed := by kernel_rfl
  f104 := Tryz.func128.trans (congrArg some (by kernel_rfl))
  f207 := Tryz.func167.trans (congrArg some (by kernel_rfl))
  f211 := Tryz.func148.trans (congrArg some (by kernel_rfl))
  t3 := Tryz.underlying3
  a3 := Tryz.isAgg3
  z3 := Tryz.sizeOf3
  v3 := Tryz.zeroValue3
  t4 := Tryz.underlying4
  a4 := Tryz.isAgg4
  z4 := Tryz.sizeOf4
  v4 := Tryz.zeroValue4
  t9 := Tryz.underlying9
  a9 := Tryz.isAgg9
  z9 := Tryz.sizeOf9
  v9 := Tryz.zeroValue9
  t24 := Tryz.underlying182
  a24 := Tryz.isAgg182
  z24 := Tryz.sizeOf182
  v24 := Tryz.zeroValue182 }
open Go.RowKit in
theorem Tryz.strings_CutSuffix (s p : ByteArray) (w : World) (hs : s.size ≤ 9223372036854775807) :
    Calls Tryz.prog 128 #[.string s, .string p] w fun e w' => e = .returned (.tuple #[.string ⟨(Lib.trimSuffix s.data.toList p.data.toList).toArray⟩, .bool (Lib.hasSuffix s.data.toList p.data.toList)]) ∧ w' = w := Any.strings_CutSuffix Tryz.lays104 s p w hs
def Tryz.laysM171_ren : Go.Shelf.Ren := ⟨fun | 171 => 41 | 243 => 64 | 246 => 63 | 283 => 83 | 284 => 84 | 285 => 85 | 286 => 86 | 129 => 115 | 317 => 114 | 318 => 116 | 319 => 117 | 320 => 118 | 337 => 142 | 338 => 143 | n => n, fun | 3 => 3 | 9 => 9 | 2 => 2 | 4 => 4 | 171 => 140 | 0 => 0 | 53 => 141 | 37 => 42 | 5 => 5 | 173 => 144 | 212 => 173 | 51 => 174 | 20 => 20 | 213 => 175 | 46 => 177 | 232 => 212 | 233 => 213 | n => n, fun | 17 => 0 | 18 => 6 | 19 => 7 | n => n⟩
theorem Tryz.laysM171 : Go.Proofs.LaysM.n171 Tryz.prog Tryz.laysM171_ren := {
  mixed := by kernel_rfl
  f129 := Tryz.func115.trans (congrArg some (by kernel_rfl))
  f171 := Tryz.func41.trans (congrArg some (by kernel_rfl))
  f243 := Tryz.func64.trans (congrArg some (by kernel_rfl))
  f246 := Tryz.func63.trans (congrArg some (by kernel_rfl))
  f283 := Tryz.func83.trans (congrArg some (by kernel_rfl))
  f284 := Tryz.func84.trans (congrArg some (by kernel_rfl))
  f285 := Tryz.func85.trans (congrArg some (by kernel_rfl))
  f286 := Tryz.func86.trans (congrArg some (by kernel_rfl))
  f317 := Tryz.func114.trans (congrArg some (by kernel_rfl))
  f318 := Tryz.func116.trans (congrArg some (by kernel_rfl))
  f319 := Tryz.func117.trans (congrArg some (by kernel_rfl))
  f320 := Tryz.func118.trans (congrArg some (by kernel_rfl))
  f337 := Tryz.func142.trans (congrArg some (by kernel_rfl))
  f338 := Tryz.func143.trans (congrArg some (by kernel_rfl))
  t0 := Tryz.underlying0
  a0 := Tryz.isAgg0
  z0 := Tryz.sizeOf0
  v0 := Tryz.zeroValue0
  t2 := Tryz.underlying2
  a2 := Tryz.isAgg2
  z2 := Tryz.sizeOf2
  v2 := Tryz.zeroValue2
  t3 := Tryz.underlying3
  a3 := Tryz.isAgg3
  z3 := Tryz.sizeOf3
  v3 := Tryz.zeroValue3
  t4 := Tryz.underlying4
  a4 := Tryz.isAgg4
  z4 := Tryz.sizeOf4
  v4 := Tryz.zeroValue4
  t5 := Tryz.underlying5
  a5 := Tryz.isAgg5
  z5 := Tryz.sizeOf5
  v5 := Tryz.zeroValue5
  t9 := Tryz.underlying9
  a9 := Tryz.isAgg9
  z9 := Tryz.sizeOf9
  v9 := Tryz.zeroValue9
  t20 := Tryz.underlying20
  a20 := Tryz.isAgg20
  z20 := Tryz.sizeOf20
  v20 := Tryz.zeroValue20
  t37 := Tryz.underlying42
  a37 := Tryz.isAgg42
  z37 := Tryz.sizeOf42
  v37 := Tryz.zeroValue42
  t46 := Tryz.underlying177
  a46 := Tryz.isAgg177
  z46 := Tryz.sizeOf177
  v46 := Tryz.zeroValue177
  t51 := Tryz.underlying174
  a51 := Tryz.isAgg174
  z51 := Tryz.sizeOf174
  v51 := Tryz.zeroValue174
  t53 := Tryz.underlying141
  a53 := Tryz.isAgg141
  z53 := Tryz.sizeOf141
  v53 := Tryz.zeroValue141
  t171 := Tryz.underlying140
  a171 := Tryz.isAgg140
  z171 := Tryz.sizeOf140
  v171 := Tryz.zeroValue140
  t173 := Tryz.underlying144
  a173 := Tryz.isAgg144
  z173 := Tryz.sizeOf144
  v173 := Tryz.zeroValue144
  t212 := Tryz.underlying173
  a212 := Tryz.isAgg173
  z212 := Tryz.sizeOf173
  v212 := Tryz.zeroValue173
  t213 := Tryz.underlying175
  a213 := Tryz.isAgg175
  z213 := Tryz.sizeOf175
  t232 := Tryz.underlying212
  a232 := Tryz.isAgg212
  z232 := Tryz.sizeOf212
  v232 := Tryz.zeroValue212
  t233 := Tryz.underlying213
  a233 := Tryz.isAgg213
  z233 := Tryz.sizeOf213
  v233 := Tryz.zeroValue213
  g17 := by kernel_rfl
  g18 := by kernel_rfl
  g19 := by kernel_rfl
  i0 := by kernel_rfl
  i2 := by kernel_rfl
  i3 := by kernel_rfl
  i4 := by kernel_rfl
  i5 := by kernel_rfl
  i9 := by kernel_rfl
  i20 := by kernel_rfl
  i37 := by kernel_rfl
  i46 := by kernel_rfl
  i51 := by kernel_rfl
  i53 := by kernel_rfl
  i171 := by kernel_rfl
  i173 := by kernel_rfl
  i212 := by kernel_rfl
  i232 := by kernel_rfl
  i233 := by kernel_rfl
  m17 := by kernel_rfl
  m18 := by kernel_rfl
  m19 := by kernel_rfl }
open Go.RowKit Go.Sort Go.Lib in
theorem Tryz.strconv_Itoa (n : Int) (h0 : -9223372036854775808 ≤ n) (h1 : n ≤ 9223372036854775807) (w : World) (htab : Lib.TabIs Tryz.prog w "internal/strconv.uint64pow10" .u64 Lib.pow10Tab) :
    Calls Tryz.prog 41 #[.int .i64 n] w fun e w' => e = .returned (.string ⟨(Lib.itoa n).toArray⟩) ∧ ∃ k os, w' = grow (w.drewN k) os := Any.strconv_Itoa Tryz.laysM171 n h0 h1 w htab
def Tryz.laysM173_ren : Go.Shelf.Ren := ⟨fun | 173 => 40 | 246 => 63 | 283 => 83 | 284 => 84 | 285 => 85 | 286 => 86 | 129 => 115 | 317 => 114 | 318 => 116 | 319 => 117 | 320 => 118 | 337 => 142 | 338 => 143 | n => n, fun | 2 => 2 | 3 => 3 | 9 => 9 | 4 => 4 | 171 => 140 | 0 => 0 | 53 => 141 | 37 => 42 | 5 => 5 | 173 => 144 | 212 => 173 | 51 => 174 | 20 => 20 | 213 => 175 | 46 => 177 | 232 => 212 | 233 => 213 | n => n, fun | 17 => 0 | 18 => 6 | 19 => 7 | n => n⟩
theorem Tryz.laysM173 : Go.Proofs.LaysM.n173 Tryz.prog Tryz.laysM173_ren := {
  mixed := by kernel_rfl
  f129 := Tryz.func115.trans (congrArg some (by kernel_rfl))
  f173 := Tryz.func40.trans (congrArg some (by kernel_rfl))
  f246 := Tryz.func63.trans (congrArg some (by kernel_rfl))
  f283 := Tryz.func83.trans (congrArg some (by kernel_rfl))
  f284 := Tryz.func84.trans (congrArg some (by kernel_rfl))
  f285 := Tryz.func85.trans (congrArg some (by kernel_rfl))
  f286 := Tryz.func86.trans (congrArg some (by kernel_rfl))
  f317 := Tryz.func114.trans (congrArg some (by kernel_rfl))
  f318 := Tryz.func116.trans (congrArg some (by kernel_rfl))
  f319 := Tryz.func117.trans (congrArg some (by kernel_rfl))
  f320 := Tryz.func118.trans (congrArg some (by kernel_rfl))
  f337 := Tryz.func142.trans (congrArg some (by kernel_rfl))
  f338 := Tryz.func143.trans (congrArg some (by kernel_rfl))
  t0 := Tryz.underlying0
  a0 := Tryz.isAgg0
  z0 := Tryz.sizeOf0
  v0 := Tryz.zeroValue0
  t2 := Tryz.underlying2
  a2 := Tryz.isAgg2
  z2 := Tryz.sizeOf2
  v2 := Tryz.zeroValue2
  t3 := Tryz.underlying3
  a3 := Tryz.isAgg3
  z3 := Tryz.sizeOf3
  v3 := Tryz.zeroValue3
  t4 := Tryz.underlying4
  a4 := Tryz.isAgg4
  z4 := Tryz.sizeOf4
  v4 := Tryz.zeroValue4
  t5 := Tryz.underlying5
  a5 := Tryz.isAgg5
  z5 := Tryz.sizeOf5
  v5 := Tryz.zeroValue5
  t9 := Tryz.underlying9
  a9 := Tryz.isAgg9
  z9 := Tryz.sizeOf9
  v9 := Tryz.zeroValue9
  t20 := Tryz.underlying20
  a20 := Tryz.isAgg20
  z20 := Tryz.sizeOf20
  v20 := Tryz.zeroValue20
  t37 := Tryz.underlying42
  a37 := Tryz.isAgg42
  z37 := Tryz.sizeOf42
  v37 := Tryz.zeroValue42
  t46 := Tryz.underlying177
  a46 := Tryz.isAgg177
  z46 := Tryz.sizeOf177
  v46 := Tryz.zeroValue177
  t51 := Tryz.underlying174
  a51 := Tryz.isAgg174
  z51 := Tryz.sizeOf174
  v51 := Tryz.zeroValue174
  t53 := Tryz.underlying141
  a53 := Tryz.isAgg141
  z53 := Tryz.sizeOf141
  v53 := Tryz.zeroValue141
  t171 := Tryz.underlying140
  a171 := Tryz.isAgg140
  z171 := Tryz.sizeOf140
  v171 := Tryz.zeroValue140
  t173 := Tryz.underlying144
  a173 := Tryz.isAgg144
  z173 := Tryz.sizeOf144
  v173 := Tryz.zeroValue144
  t212 := Tryz.underlying173
  a212 := Tryz.isAgg173
  z212 := Tryz.sizeOf173
  v212 := Tryz.zeroValue173
  t213 := Tryz.underlying175
  a213 := Tryz.isAgg175
  z213 := Tryz.sizeOf175
  t232 := Tryz.underlying212
  a232 := Tryz.isAgg212
  z232 := Tryz.sizeOf212
  v232 := Tryz.zeroValue212
  t233 := Tryz.underlying213
  a233 := Tryz.isAgg213
  z233 := Tryz.sizeOf213
  v233 := Tryz.zeroValue213
  g17 := by kernel_rfl
  g18 := by kernel_rfl
  g19 := by kernel_rfl
  i0 := by kernel_rfl
  i2 := by kernel_rfl
  i3 := by kernel_rfl
  i4 := by kernel_rfl
  i5 := by kernel_rfl
  i9 := by kernel_rfl
  i20 := by kernel_rfl
  i37 := by kernel_rfl
  i46 := by kernel_rfl
  i51 := by kernel_rfl
  i53 := by kernel_rfl
  i171 := by kernel_rfl
  i173 := by kernel_rfl
  i212 := by kernel_rfl
  i232 := by kernel_rfl
  i233 := by kernel_rfl
  m17 := by kernel_rfl
  m18 := by kernel_rfl
  m19 := by kernel_rfl }
open Go.RowKit Go.Sort Go.Lib in
theorem Tryz.strconv_FormatInt_10 (n : Int) (h0 : -9223372036854775808 ≤ n) (h1 : n ≤ 9223372036854775807) (w : World) (htab : Lib.TabIs Tryz.prog w "internal/strconv.uint64pow10" .u64 Lib.pow10Tab) :
    Calls Tryz.prog 40 #[.int .i64 n, .int .i64 10] w fun e w' => e = .returned (.string ⟨(Lib.itoa n).toArray⟩) ∧ ∃ k os, w' = grow (w.drewN k) os := Any.strconv_FormatInt_10 Tryz.laysM173 n h0 h1 w htab
def Tryz.laysC174_ren : Go.Shelf.Ren := ⟨fun | 174 => 82 | 247 => 112 | 245 => 113 | 287 => 137 | 279 => 138 | 280 => 139 | 281 => 140 | 282 => 141 | 321 => 163 | 322 => 164 | 316 => 165 | 171 => 41 | 205 => 166 | 243 => 64 | 246 => 63 | 283 => 83 | 284 => 84 | 285 => 85 | 286 => 86 | 129 => 115 | 317 => 114 | 318 => 116 | 319 => 117 | 320 => 118 | 337 => 142 | 338 => 143 | n => n, fun | 9 => 9 | 3 => 3 | 2 => 2 | 75 => 54 | 85 => 138 | 4 => 4 | 167 => 193 | 5 => 5 | 53 => 141 | 175 => 194 | 46 => 177 | 168 => 196 | 37 => 42 | 0 => 0 | 210 => 210 | 21 => 21 | 127 => 94 | 145 => 217 | 143 => 215 | 171 => 140 | 173 => 144 | 212 => 173 | 51 => 174 | 20 => 20 | 213 => 175 | 232 => 212 | 233 => 213 | 80 => 61 | n => n, fun | 15 => 4 | 16 => 5 | 17 => 0 | 18 => 6 | 19 => 7 | n => n⟩
theorem Tryz.laysC174 : Go.Proofs.LaysC.n174 Tryz.prog Tryz.laysC174_ren := {
  mixed := by kernel_rfl
  f129 := Tryz.func115.trans (congrArg some (by kernel_rfl))
  f171 := Tryz.func41.trans (congrArg some (by kernel_rfl))
  f174 := Tryz.func82.trans (congrArg some (by kernel_rfl))
  f205 := Tryz.func166.trans (congrArg some (by kernel_rfl))
  f243 := Tryz.func64.trans (congrArg some (by kernel_rfl))
  f245 := Tryz.func113.trans (congrArg some (by kernel_rfl))
  f246 := Tryz.func63.trans (congrArg some (by kernel_rfl))
  f247 := Tryz.func112.trans (congrArg some (by kernel_rfl))
  f279 := Tryz.func138.trans (congrArg some (by kernel_rfl))
  f280 := Tryz.func139.trans (congrArg some (by kernel_rfl))
  f281 := Tryz.func140.trans (congrArg some (by kernel_rfl))
  f282 := Tryz.func141.trans (congrArg some (by kernel_rfl))
  f283 := Tryz.func83.trans (congrArg some (by kernel_rfl))
  f284 := Tryz.func84.trans (congrArg some (by kernel_rfl))
  f285 := Tryz.func85.trans (congrArg some (by kernel_rfl))
  f286 := Tryz.func86.trans (congrArg some (by kernel_rfl))
  f287 := Tryz.func137.trans (congrArg some (by kernel_rfl))
  f316 := Tryz.func165.trans (congrArg some (by kernel_rfl))
  f317 := Tryz.func114.trans (congrArg some (by kernel_rfl))
  f318 := Tryz.func116.trans (congrArg some (by kernel_rfl))
  f319 := Tryz.func117.trans (congrArg some (by kernel_rfl))
  f320 := Tryz.func118.trans (congrArg some (by kernel_rfl))
  f321 := Tryz.func163.trans (congrArg some (by kernel_rfl))
  f322 := Tryz.func164.trans (congrArg some (by kernel_rfl))
  f337 := Tryz.func142.trans (congrArg some (by kernel_rfl))
  f338 := Tryz.func143.trans (congrArg some (by kernel_rfl))
  t0 := Tryz.underlying0
  a0 := Tryz.isAgg0
  z0 := Tryz.sizeOf0
  v0 := Tryz.zeroValue0
  t2 := Tryz.underlying2
  a2 := Tryz.isAgg2
  z2 := Tryz.sizeOf2
  v2 := Tryz.zeroValue2
  t3 := Tryz.underlying3
  a3 := Tryz.isAgg3
  z3 := Tryz.sizeOf3
  v3 := Tryz.zeroValue3
  t4 := Tryz.underlying4
  a4 := Tryz.isAgg4
  z4 := Tryz.sizeOf4
  v4 := Tryz.zeroValue4
  t5 := Tryz.underlying5
  a5 := Tryz.isAgg5
  z5 := Tryz.sizeOf5
  v5 := Tryz.zeroValue5
  t9 := Tryz.underlying9
  a9 := Tryz.isAgg9
  z9 := Tryz.sizeOf9
  v9 := Tryz.zeroValue9
  t20 := Tryz.underlying20
  a20 := Tryz.isAgg20
  z20 := Tryz.sizeOf20
  v20 := Tryz.zeroValue20
  t21 := Tryz.underlying21
  a21 := Tryz.isAgg21
  z21 := Tryz.sizeOf21
  v21 := Tryz.zeroValue21
  t37 := Tryz.underlying42
  a37 := Tryz.isAgg42
  z37 := Tryz.sizeOf42
  v37 := Tryz.zeroValue42
  t46 := Tryz.underlying177
  a46 := Tryz.isAgg177
  z46 := Tryz.sizeOf177
  v46 := Tryz.zeroValue177
  t51 := Tryz.underlying174
  a51 := Tryz.isAgg174
  z51 := Tryz.sizeOf174
  v51 := Tryz.zeroValue174
  t53 := Tryz.underlying141
  a53 := Tryz.isAgg141
  z53 := Tryz.sizeOf141
  v53 := Tryz.zeroValue141
  t75 := Tryz.underlying54
  a75 := Tryz.isAgg54
  z75 := Tryz.sizeOf54
  v75 := Tryz.zeroValue54
  t85 := Tryz.underlying138
  a85 := Tryz.isAgg138
  z85 := Tryz.sizeOf138
  v85 := Tryz.zeroValue138
  t127 := Tryz.underlying94
  a127 := Tryz.isAgg94
  z127 := Tryz.sizeOf94
  v127 := Tryz.zeroValue94
  t143 := Tryz.underlying215
  a143 := Tryz.isAgg215
  z143 := Tryz.sizeOf215
  v143 := Tryz.zeroValue215
  t145 := Tryz.underlying217
  a145 := Tryz.isAgg217
  z145 := Tryz.sizeOf217
  v145 := Tryz.zeroValue217
  t167 := Tryz.underlying193
  a167 := Tryz.isAgg193
  z167 := Tryz.sizeOf193
  v167 := Tryz.zeroValue193
  t168 := Tryz.underlying196
  a168 := Tryz.isAgg196
  z168 := Tryz.sizeOf196
  v168 := Tryz.zeroValue196
  t171 := Tryz.underlying140
  a171 := Tryz.isAgg140
  z171 := Tryz.sizeOf140
  v171 := Tryz.zeroValue140
  t173 := Tryz.underlying144
  a173 := Tryz.isAgg144
  z173 := Tryz.sizeOf144
  v173 := Tryz.zeroValue144
  t175 := Tryz.underlying194
  a175 := Tryz.isAgg194
  z175 := Tryz.sizeOf194
  v175 := Tryz.zeroValue194
  t210 := Tryz.underlying210
  a210 := Tryz.isAgg210
  z210 := Tryz.sizeOf210
  v210 := Tryz.zeroValue210
  t212 := Tryz.underlying173
  a212 := Tryz.isAgg173
  z212 := Tryz.sizeOf173
  v212 := Tryz.zeroValue173
  t213 := Tryz.underlying175
  a213 := Tryz.isAgg175
  z213 := Tryz.sizeOf175
  t232 := Tryz.underlying212
  a232 := Tryz.isAgg212
  z232 := Tryz.sizeOf212
  v232 := Tryz.zeroValue212
  t233 := Tryz.underlying213
  a233 := Tryz.isAgg213
  z233 := Tryz.sizeOf213
  v233 := Tryz.zeroValue213
  g15 := by kernel_rfl
  g16 := by kernel_rfl
  g17 := by kernel_rfl
  g18 := by kernel_rfl
  g19 := by kernel_rfl
  t80 := Tryz.underlying61
  a80 := Tryz.isAgg61
  z80 := Tryz.sizeOf61
  v80 := Tryz.zeroValue61
  i0 := by kernel_rfl
  i2 := by kernel_rfl
  i3 := by kernel_rfl
  i4 := by kernel_rfl
  i5 := by kernel_rfl
  i9 := by kernel_rfl
  i20 := by kernel_rfl
  i21 := by kernel_rfl
  i37 := by kernel_rfl
  i46 := by kernel_rfl
  i51 := by kernel_rfl
  i53 := by kernel_rfl
  i75 := by kernel_rfl
  i80 := by kernel_rfl
  i85 := by kernel_rfl
  i127 := by kernel_rfl
  i143 := by kernel_rfl
  i145 := by kernel_rfl
  i167 := by kernel_rfl
  i168 := by kernel_rfl
  i171 := by kernel_rfl
  i173 := by kernel_rfl
  i175 := by kernel_rfl
  i210 := by kernel_rfl
  i212 := by kernel_rfl
  i232 := by kernel_rfl
  i233 := by kernel_rfl
  m15 := by kernel_rfl
  m16 := by kernel_rfl
  m17 := by kernel_rfl
  m18 := by kernel_rfl
  m19 := by kernel_rfl
  c0 := by kernel_rfl
  c2 := by kernel_rfl
  c3 := by kernel_rfl
  c4 := by kernel_rfl
  c5 := by kernel_rfl
  c9 := by kernel_rfl
  c20 := by kernel_rfl
  c21 := by kernel_rfl
  c37 := by kernel_rfl
  c46 := by kernel_rfl
  c51 := by kernel_rfl
  c53 := by kernel_rfl
  c75 := by kernel_rfl
  c80 := by kernel_rfl
  c85 := by kernel_rfl
  c127 := by kernel_rfl
  c143 := by kernel_rfl
  c145 := by kernel_rfl
  c167 := by kernel_rfl
  c168 := by kernel_rfl
  c171 := by kernel_rfl
  c173 := by kernel_rfl
  c175 := by kernel_rfl
  c210 := by kernel_rfl
  c212 := by kernel_rfl
  c213 := by kernel_rfl
  c232 := by kernel_rfl
  c233 := by kernel_rfl }
open Go.RowKit in
theorem Tryz.strconv_ParseInt_10_at64_ok (s : ByteArray) (hmax : s.size ≤ 9223372036854775806) (v : Int) (h : Lib.parseIntB 64 s.data.toList = .ok v) (w : World) :
    Calls Tryz.prog 82 #[.string s, .int .i64 10, .int .i64 64] w fun e w' => e = .returned (.tuple #[.int .i64 v, .nilIface]) ∧ (w' = w ∨ ∃ t, w' = Lib.bytesWorld w 5 t) := Any.strconv_ParseInt_10_at64_ok Tryz.laysC174 s hmax v h w
open Go.RowKit in
theorem Tryz.strconv_ParseInt_10_at64_range_var (s : ByteArray) (hlim : s.size ≤ 281474976710656) (h : Lib.parseIntB 64 s.data.toList = .range) (tp : TypeId) (p : Value) (w : World) (hvar : w.var? Tryz.prog "strconv.ErrRange" = some #[.iface tp p]) :
    Calls Tryz.prog 82 #[.string s, .int .i64 10, .int .i64 64] w fun e w' => ∃ N, e = .returned (.tuple #[.int .i64 (Lib.intSat 64 s.data.toList), .iface 196 (.pointer (some ⟨N, 0, none⟩))]) ∧ w.heap.size ≤ N ∧ w'.heap[N]? = some (.cells #[.string ⟨#[80, 97, 114, 115, 101, 73, 110, 116]⟩, .string s, .iface tp p] 210 (0, 0)) ∧ Below w.heap.size w w' := Any.strconv_ParseInt_10_at64_range_var Tryz.laysC174 s hlim h tp p w hvar
def Tryz.lays145_ren : Go.Shelf.Ren := ⟨fun | 145 => 48 | 220 => 66 | 219 => 90 | 217 => 121 | 225 => 122 | 224 => 123 | 267 => 124 | 266 => 144 | 314 => 145 | n => n, fun | 9 => 9 | 4 => 4 | 59 => 97 | 3 => 3 | 5 => 5 | 46 => 177 | 146 => 200 | 51 => 174 | n => n, fun | 1 => 1 | n => n⟩
theorem Tryz.lays145 : Go.Proofs.Lays.n145 Tryz.prog Tryz.lays145_ren := {
  mixed := by kernel_rfl
  f145 := Tryz.func48.trans (congrArg some (by kernel_rfl))
  f217 := Tryz.func121.trans (congrArg some (by kernel_rfl))
  f219 := Tryz.func90.trans (congrArg some (by kernel_rfl))
  f220 := Tryz.func66.trans (congrArg some (by kernel_rfl))
  f224 := Tryz.func123.trans (congrArg some (by kernel_rfl))
  f225 := Tryz.func122.trans (congrArg some (by kernel_rfl))
  f266 := Tryz.func144.trans (congrArg some (by kernel_rfl))
  f267 := Tryz.func124.trans (congrArg some (by kernel_rfl))
  f314 := Tryz.func145.trans (congrArg some (by kernel_rfl))
  t3 := Tryz.underlying3
  a3 := Tryz.isAgg3
  z3 := Tryz.sizeOf3
  v3 := Tryz.zeroValue3
  t4 := Tryz.underlying4
  a4 := Tryz.isAgg4
  z4 := Tryz.sizeOf4
  v4 := Tryz.zeroValue4
  t5 := Tryz.underlying5
  a5 := Tryz.isAgg5
  z5 := Tryz.sizeOf5
  v5 := Tryz.zeroValue5
  t9 := Tryz.underlying9
  a9 := Tryz.isAgg9
  z9 := Tryz.sizeOf9
  v9 := Tryz.zeroValue9
  t46 := Tryz.underlying177
  a46 := Tryz.isAgg177
  z46 := Tryz.sizeOf177
  v46 := Tryz.zeroValue177
  t51 := Tryz.underlying174
  a51 := Tryz.isAgg174
  z51 := Tryz.sizeOf174
  v51 := Tryz.zeroValue174
  t59 := Tryz.underlying97
  a59 := Tryz.isAgg97
  z59 := Tryz.sizeOf97
  v59 := Tryz.zeroValue97
  t146 := Tryz.underlying200
  a146 := Tryz.isAgg200
  z146 := Tryz.sizeOf200
  v146 := Tryz.zeroValue200
  g1 := by kernel_rfl }
open Go.RowKit Go.Lib in
theorem Tryz.strings_Cut (s sep : ByteArray) (m : Int) (w : World) (hs : s.size < 4294967281) (hm : w.cell? ⟨1, 0, none⟩ = some (.int .i64 m)) :
    Calls Tryz.prog 48 #[.string s, .string sep] w fun e w' => e = .returned (.tuple #[.string ⟨(Lib.cut s.data.toList sep.data.toList).1.toArray⟩, .string ⟨(Lib.cut s.data.toList sep.data.toList).2.1.toArray⟩, .bool (Lib.cut s.data.toList sep.data.toList).2.2]) ∧ ∃ n, w' = w.drewN n := Any.strings_Cut Tryz.lays145 s sep m w hs hm
def Tryz.lays146_ren : Go.Shelf.Ren := ⟨fun | 146 => 47 | 221 => 65 | 268 => 87 | 138 => 88 | 143 => 89 | 195 => 119 | 197 => 92 | 218 => 120 | 219 => 90 | 260 => 125 | 217 => 121 | 225 => 122 | 224 => 123 | 267 => 124 | 266 => 144 | 314 => 145 | n => n, fun | 9 => 9 | 31 => 74 | 3 => 3 | 4 => 4 | 0 => 0 | 105 => 149 | 21 => 21 | 5 => 5 | 46 => 177 | 119 => 202 | 139 => 205 | 138 => 204 | 146 => 200 | 51 => 174 | n => n, fun | 1 => 1 | 3 => 2 | 4 => 3 | n => n⟩
theorem Tryz.lays146 : Go.Proofs.Lays.n146 Tryz.prog Tryz.lays146_ren := {
  mixed := by kernel_rfl
  f138 := Tryz.func88.trans (congrArg some (by kernel_rfl))
  f143 := Tryz.func89.trans (congrArg some (by kernel_rfl))
  f146 := Tryz.func47.trans (congrArg some (by kernel_rfl))
  f195 := Tryz.func119.trans (congrArg some (by kernel_rfl))
  f197 := Tryz.func92.trans (congrArg some (by kernel_rfl))
  f217 := Tryz.func121.trans (congrArg some (by kernel_rfl))
  f218 := Tryz.func120.trans (congrArg some (by kernel_rfl))
  f219 := Tryz.func90.trans (congrArg some (by kernel_rfl))
  f221 := Tryz.func65.trans (congrArg some (by kernel_rfl))
  f224 := Tryz.func123.trans (congrArg some (by kernel_rfl))
  f225 := Tryz.func122.trans (congrArg some (by kernel_rfl))
  f260 := Tryz.func125.trans (congrArg some (by kernel_rfl))
  f266 := Tryz.func144.trans (congrArg some (by kernel_rfl))
  f267 := Tryz.func124.trans (congrArg some (by kernel_rfl))
  f268 := Tryz.func87.trans (congrArg some (by kernel_rfl))
  f314 := Tryz.func145.trans (congrArg some (by kernel_rfl))
  t0 := Tryz.underlying0
  a0 := Tryz.isAgg0
  z0 := Tryz.sizeOf0
  v0 := Tryz.zeroValue0
  t3 := Tryz.underlying3
  a3 := Tryz.isAgg3
  z3 := Tryz.sizeOf3
  v3 := Tryz.zeroValue3
  t4 := Tryz.underlying4
  a4 := Tryz.isAgg4
  z4 := Tryz.sizeOf4
  v4 := Tryz.zeroValue4
  t5 := Tryz.underlying5
  a5 := Tryz.isAgg5
  z5 := Tryz.sizeOf5
  v5 := Tryz.zeroValue5
  t9 := Tryz.underlying9
  a9 := Tryz.isAgg9
  z9 := Tryz.sizeOf9
  v9 := Tryz.zeroValue9
  t21 := Tryz.underlying21
  a21 := Tryz.isAgg21
  z21 := Tryz.sizeOf21
  v21 := Tryz.zeroValue21
  t31 := Tryz.underlying74
  a31 := Tryz.isAgg74
  z31 := Tryz.sizeOf74
  v31 := Tryz.zeroValue74
  t46 := Tryz.underlying177
  a46 := Tryz.isAgg177
  z46 := Tryz.sizeOf177
  v46 := Tryz.zeroValue177
  t51 := Tryz.underlying174
  a51 := Tryz.isAgg174
  z51 := Tryz.sizeOf174
  v51 := Tryz.zeroValue174
  t105 := Tryz.underlying149
  a105 := Tryz.isAgg149
  z105 := Tryz.sizeOf149
  v105 := Tryz.zeroValue149
  t119 := Tryz.underlying202
  a119 := Tryz.isAgg202
  z119 := Tryz.sizeOf202
  t138 := Tryz.underlying204
  a138 := Tryz.isAgg204
  z138 := Tryz.sizeOf204
  v138 := Tryz.zeroValue204
  t139 := Tryz.underlying205
  a139 := Tryz.isAgg205
  z139 := Tryz.sizeOf205
  v139 := Tryz.zeroValue205
  t146 := Tryz.underlying200
  a146 := Tryz.isAgg200
  z146 := Tryz.sizeOf200
  v146 := Tryz.zeroValue200
  g1 := by kernel_rfl
  g3 := by kernel_rfl
  g4 := by kernel_rfl }
open Go.RowKit Go.Lib in
theorem Tryz.strings_Split (s sep : ByteArray) (m : Int) (w : World) (hs : s.size < 4294967281) (hm : w.cell? ⟨1, 0, none⟩ = some (.int .i64 m)) (h1 : 1 ≤ sep.size) :
    Calls Tryz.prog 47 #[.string s, .string sep] w fun e w' =>
      e = .returned (.slice (some ⟨w.heap.size, 0, none⟩) (Lib.countB s sep + 1) (Lib.countB s sep + 1)) ∧ w' = w.alloc (.cells ((Lib.splitB sep 0 (Lib.countB s sep) s).map Value.string).toArray 9) := Any.strings_Split Tryz.lays146 (by kernel_rfl) s sep m w hs hm h1
def Tryz.lays152_ren : Go.Shelf.Ren := ⟨fun | 152 => 126 | 137 => 146 | 119 => 147 | 224 => 123 | 225 => 122 | 217 => 121 | 266 => 144 | n => n, fun | 9 => 9 | 21 => 21 | 3 => 3 | 4 => 4 | 5 => 5 | 0 => 0 | 46 => 177 | n => n, fun | n => n⟩
theorem Tryz.lays152 : Go.Proofs.Lays.n152 Tryz.prog Tryz.lays152_ren := {
  mixed := by kernel_rfl
  f119 := Tryz.func147.trans (congrArg some (by kernel_rfl))
  f137 := Tryz.func146.trans (congrArg some (by kernel_rfl))
  f152 := Tryz.func126.trans (congrArg some (by kernel_rfl))
  f217 := Tryz.func121.trans (congrArg some (by kernel_rfl))
  f224 := Tryz.func123.trans (congrArg some (by kernel_rfl))
  f225 := Tryz.func122.trans (congrArg some (by kernel_rfl))
  f266 := Tryz.func144.trans (congrArg some (by kernel_rfl))
  t0 := Tryz.underlying0
  a0 := Tryz.isAgg0
  z0 := Tryz.sizeOf0
  v0 := Tryz.zeroValue0
  t3 := Tryz.underlying3
  a3 := Tryz.isAgg3
  z3 := Tryz.sizeOf3
  v3 := Tryz.zeroValue3
  t4 := Tryz.underlying4
  a4 := Tryz.isAgg4
  z4 := Tryz.sizeOf4
  v4 := Tryz.zeroValue4
  t5 := Tryz.underlying5
  a5 := Tryz.isAgg5
  z5 := Tryz.sizeOf5
  v5 := Tryz.zeroValue5
  t9 := Tryz.underlying9
  a9 := Tryz.isAgg9
  z9 := Tryz.sizeOf9
  v9 := Tryz.zeroValue9
  t21 := Tryz.underlying21
  a21 := Tryz.isAgg21
  z21 := Tryz.sizeOf21
  v21 := Tryz.zeroValue21
  t46 := Tryz.underlying177
  a46 := Tryz.isAgg177
  z46 := Tryz.sizeOf177
  v46 := Tryz.zeroValue177 }
open Go.RowKit Go.Lib in
theorem Tryz.strings_IndexRune_ascii (s : ByteArray) (r : Int) (w : World) (h0 : 0 ≤ r) (h1 : r < 128) :
    Calls Tryz.prog 126 #[.string s, .int .i32 r] w fun e w' => e = .returned (.int .i64 (Lib.indexByte s.data.toList r.toNat.toUInt8)) ∧ w' = w := Any.strings_IndexRune_ascii Tryz.lays152 s r w h0 h1
def Tryz.lays226_ren : Go.Shelf.Ren := ⟨fun | 226 => 149 | n => n, fun | 3 => 3 | 4 => 4 | n => n, fun | n => n⟩
theorem Tryz.lays226 : Go.Proofs.Lays.n226 Tryz.prog Tryz.lays226_ren := {
  mixed := by kernel_rfl
  f226 := Tryz.func149.trans (congrArg some (by kernel_rfl))
  t3 := Tryz.underlying3
  a3 := Tryz.isAgg3
  z3 := Tryz.sizeOf3
  v3 := Tryz.zeroValue3
  t4 := Tryz.underlying4
  a4 := Tryz.isAgg4
  z4 := Tryz.sizeOf4
  v4 := Tryz.zeroValue4 }
open Go.RowKit Go.Lib in
theorem Tryz.strings_shouldUseASCIISet (n : Int) (w : World) :
    Calls Tryz.prog 149 #[.int .i64 n] w fun e w' => e = .returned (.bool (decide (8 < n))) ∧ w' = w := Any.strings_shouldUseASCIISet Tryz.lays226 n w
def Tryz.lays153_ren : Go.Shelf.Ren := ⟨fun | 153 => 131 | 152 => 126 | 226 => 149 | 227 => 69 | 228 => 91 | 137 => 146 | 119 => 147 | 224 => 123 | 225 => 122 | 217 => 121 | 266 => 144 | n => n, fun | 9 => 9 | 3 => 3 | 4 => 4 | 5 => 5 | 21 => 21 | 117 => 122 | 116 => 121 | 0 => 0 | 46 => 177 | 124 => 125 | n => n, fun | n => n⟩
theorem Tryz.lays153 : Go.Proofs.Lays.n153 Tryz.prog Tryz.lays153_ren := {
  mixed := by kernel_rfl
  f119 := Tryz.func147.trans (congrArg some (by kernel_rfl))
  f137 := Tryz.func146.trans (congrArg some (by kernel_rfl))
  f152 := Tryz.func126.trans (congrArg some (by kernel_rfl))
  f153 := Tryz.func131.trans (congrArg some (by kernel_rfl))
  f217 := Tryz.func121.trans (congrArg some (by kernel_rfl))
  f224 := Tryz.func123.trans (congrArg some (by kernel_rfl))
  f225 := Tryz.func122.trans (congrArg some (by kernel_rfl))
  f226 := Tryz.func149.trans (congrArg some (by kernel_rfl))
  f227 := Tryz.func69.trans (congrArg some (by kernel_rfl))
  f228 := Tryz.func91.trans (congrArg some (by kernel_rfl))
  f266 := Tryz.func144.trans (congrArg some (by kernel_rfl))
  t0 := Tryz.underlying0
  a0 := Tryz.isAgg0
  z0 := Tryz.sizeOf0
  v0 := Tryz.zeroValue0
  t3 := Tryz.underlying3
  a3 := Tryz.isAgg3
  z3 := Tryz.sizeOf3
  v3 := Tryz.zeroValue3
  t4 := Tryz.underlying4
  a4 := Tryz.isAgg4
  z4 := Tryz.sizeOf4
  v4 := Tryz.zeroValue4
  t5 := Tryz.underlying5
  a5 := Tryz.isAgg5
  z5 := Tryz.sizeOf5
  v5 := Tryz.zeroValue5
  t9 := Tryz.underlying9
  a9 := Tryz.isAgg9
  z9 := Tryz.sizeOf9
  v9 := Tryz.zeroValue9
  t21 := Tryz.underlying21
  a21 := Tryz.isAgg21
  z21 := Tryz.sizeOf21
  v21 := Tryz.zeroValue21
  t46 := Tryz.underlying177
  a46 := Tryz.isAgg177
  z46 := Tryz.sizeOf177
  v46 := Tryz.zeroValue177
  t116 := Tryz.underlying121
  a116 := Tryz.isAgg121
  z116 := Tryz.sizeOf121
  t117 := Tryz.underlying122
  a117 := Tryz.isAgg122
  z117 := Tryz.sizeOf122
  v117 := Tryz.zeroValue122
  t124 := Tryz.underlying125
  a124 := Tryz.isAgg125
  z124 := Tryz.sizeOf125
  v124 := Tryz.zeroValue125 }
def Tryz.lays229_ren : Go.Shelf.Ren := ⟨fun | 229 => 50 | n => n, fun | 9 => 9 | 40 => 101 | 31 => 74 | 152 => 126 | 3 => 3 | 0 => 0 | 4 => 4 | 21 => 21 | 154 => 128 | n => n, fun | n => n⟩
theorem Tryz.lays229 : Go.Proofs.Lays.n229 Tryz.prog Tryz.lays229_ren := {
  mixed := by kernel_rfl
  f229 := Tryz.func50.trans (congrArg some (by kernel_rfl))
  t0 := Tryz.underlying0
  a0 := Tryz.isAgg0
  z0 := Tryz.sizeOf0
  v0 := Tryz.zeroValue0
  t3 := Tryz.underlying3
  a3 := Tryz.isAgg3
  z3 := Tryz.sizeOf3
  v3 := Tryz.zeroValue3
  t4 := Tryz.underlying4
  a4 := Tryz.isAgg4
  z4 := Tryz.sizeOf4
  v4 := Tryz.zeroValue4
  t9 := Tryz.underlying9
  a9 := Tryz.isAgg9
  z9 := Tryz.sizeOf9
  v9 := Tryz.zeroValue9
  t21 := Tryz.underlying21
  a21 := Tryz.isAgg21
  z21 := Tryz.sizeOf21
  v21 := Tryz.zeroValue21
  t31 := Tryz.underlying74
  a31 := Tryz.isAgg74
  z31 := Tryz.sizeOf74
  v31 := Tryz.zeroValue74
  t40 := Tryz.underlying101
  a40 := Tryz.isAgg101
  z40 := Tryz.sizeOf101
  v40 := Tryz.zeroValue101
  t152 := Tryz.underlying126
  a152 := Tryz.isAgg126
  z152 := Tryz.sizeOf126
  v152 := Tryz.zeroValue126
  t154 := Tryz.underlying128
  a154 := Tryz.isAgg128
  z154 := Tryz.sizeOf128
  v154 := Tryz.zeroValue128 }
open Go.RowKit Go.Lib in
theorem Tryz.strings_FieldsFunc_runes (g : Nat) (lb : Array Value) (eg : ∀ args w, (callFunc g args).run Tryz.prog w = .ok (.enter g args) w) (p : Nat → Bool) (s : ByteArray) (w : World) (hs : s.size ≤ 4294967296) (hp : PredAtRunes Tryz.prog g lb p w) :
    Calls Tryz.prog 50 #[.string s, .func (.func g) #[] lb] w fun e w' => ∃ A, e = .returned (.slice (some ⟨A, 0, none⟩) (Lib.goFieldsP p s).length (Lib.goFieldsP p s).length) ∧ w.heap.size ≤ A ∧
      w'.ownsRow w.heap.size 9 1 (.slice (some ⟨A, 0, none⟩) (Lib.goFieldsP p s).length (Lib.goFieldsP p s).length) (Lib.goFieldsP p s).length ((Lib.goFieldsP p s).map Value.string) ∧ Below w.heap.size w w' := Any.strings_FieldsFunc_runes Tryz.lays229 g lb eg p s w hs hp (by kernel_rfl) (by kernel_rfl)
end Go.Proofs
