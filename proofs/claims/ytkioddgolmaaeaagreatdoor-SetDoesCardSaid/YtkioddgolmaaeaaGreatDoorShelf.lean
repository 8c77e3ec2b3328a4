/-
  The contracts of the library at this dump that the walks use, in plain words: laid by the kit's shelf, each one application. No condition.
-/
import Derived.Shelf.Strings.Builder1
import Derived.Shelf.Strings.Trim
import Derived.Shelf.Small.Utf8
import Derived.Shelf.Small.Strs
import Derived.Shelf.Small.Wraps
import Derived.Shelf.Strings.BuilderF
import Derived.Shelf.Strings.BuilderK
import Derived.Shelf.Strconv.Itoa0
import Derived.Shelf.Strconv.Itoa1
import Derived.Shelf.LaysM
import Derived.Shelf.Strconv.Itoa2
import Derived.Shelf.Strconv.Itoa3
import Derived.Shelf.Strconv.Itoa4
import Derived.Shelf.Strconv.ParseIntEmpty
import Derived.Shelf.Strconv.Clone
import Derived.Shelf.Strconv.SyntaxError
import Derived.Shelf.LaysC
import Derived.Shelf.Strconv.ToError
import Derived.Shelf.Strconv.Lower
import Derived.Shelf.Strconv.ParseUint10
import Derived.Shelf.Strconv.ParseUint10Empty
import Derived.Shelf.Strconv.ParseUint10Any
import Derived.Shelf.Strconv.ParseInt10
import Derived.Shelf.Strconv.RangeError
import Derived.Shelf.Strconv.ToErrorRange
import Derived.Shelf.Strconv.ParseUintEmpty
import Derived.Shelf.Strconv.ParseUint10b64
import Derived.Shelf.Strconv.ParseUint10b32
import Derived.Shelf.Strconv.ParseUint10b16
import Derived.Shelf.Strconv.ParseUint10b8
import Derived.Shelf.Strconv.ParseUint10At
import Derived.Shelf.Strconv.ParseInt10At64
import Derived.Shelf.Strconv.ParseInt10At32
import Derived.Shelf.Strconv.ParseInt10At16
import Derived.Shelf.Strconv.ParseInt10At8
import Derived.Shelf.Strconv.ParseInt10All
import Derived.Shelf.Strconv.ParseIntPublic10
import Derived.Shelf.Strconv.ErrVarParseInt
import Derived.Shelf.Strings.Search1
import Derived.Shelf.Strings.Search2
import Derived.Shelf.Strings.Search3
import Derived.Shelf.Strings.Cut
import Derived.Shelf.Strings.Count
import Derived.Shelf.Strings.Shaped
import Derived.Shelf.Strings.Prefix
import Derived.Shelf.Strings.Split
import Derived.Shelf.Strings.SplitShaped
import Derived.Shelf.Strings.Runes
import Derived.Shelf.Strings.IndexAny
import Derived.Shelf.Strings.AsciiSet
import Derived.Shelf.Strings.IndexAnyAll
import Derived.Shelf.Unicode.DecodeSlow
import Derived.Shelf.Strings.BuilderCap
import Derived.Ground.SlgnProg
import Derived.Shelf.SlicesG.Reverse
import Derived.Shelf.SlicesG.Delete
import Derived.Shelf.SlicesG.Cells
import Derived.Test.YtkioddgolmaaeaaGreatDoorProg
namespace Go.Proofs
open Go.Shelf
def Tryz.lays170_ren : Go.Shelf.Ren := ⟨fun | 170 => 45 | n => n, fun | 70 => 88 | 3 => 3 | 0 => 0 | 72 => 91 | 37 => 89 | 5 => 5 | n => n, fun | n => n⟩
theorem Tryz.lays170 : Go.Proofs.Lays.n170 Tryz.prog Tryz.lays170_ren := {
  mixed := by kernel_rfl
  f170 := Tryz.func45.trans (congrArg some (by kernel_rfl))
  t0 := Tryz.underlying0
  a0 := Tryz.isAgg0
  z0 := Tryz.sizeOf0
  v0 := Tryz.zeroValue0
  t3 := Tryz.underlying3
  a3 := Tryz.isAgg3
  z3 := Tryz.sizeOf3
  v3 := Tryz.zeroValue3
  t37 := Tryz.underlying89
  a37 := Tryz.isAgg89
  z37 := Tryz.sizeOf89
  v37 := Tryz.zeroValue89
  t70 := Tryz.underlying88
  a70 := Tryz.isAgg88
  z70 := Tryz.sizeOf88
  v70 := Tryz.zeroValue88
  t72 := Tryz.underlying91
  a72 := Tryz.isAgg91
  z72 := Tryz.sizeOf91
  v72 := Tryz.zeroValue91 }
open Go.RowKit in
theorem Tryz.Builder_Len (B b : Nat) (bs : List Value) (w : World) (h : Lib.IsBuilder 91 5 B b bs w) :
    Calls Tryz.prog 45 #[.pointer (some ⟨b, 0, none⟩)] w fun e w' => e = .returned (.int .i64 bs.length) ∧ w' = w := Any.Builder_Len Tryz.lays170 B b bs w h
def Tryz.lays169_ren : Go.Shelf.Ren := ⟨fun | 169 => 49 | n => n, fun | 70 => 88 | 9 => 9 | 0 => 0 | 72 => 91 | 37 => 89 | 127 => 120 | 3 => 3 | 5 => 5 | n => n, fun | n => n⟩
theorem Tryz.lays169 : Go.Proofs.Lays.n169 Tryz.prog Tryz.lays169_ren := {
  mixed := by kernel_rfl
  f169 := Tryz.func49.trans (congrArg some (by kernel_rfl))
  t0 := Tryz.underlying0
  a0 := Tryz.isAgg0
  z0 := Tryz.sizeOf0
  v0 := Tryz.zeroValue0
  t3 := Tryz.underlying3
  a3 := Tryz.isAgg3
  z3 := Tryz.sizeOf3
  v3 := Tryz.zeroValue3
  t9 := Tryz.underlying9
  a9 := Tryz.isAgg9
  z9 := Tryz.sizeOf9
  v9 := Tryz.zeroValue9
  t37 := Tryz.underlying89
  a37 := Tryz.isAgg89
  z37 := Tryz.sizeOf89
  v37 := Tryz.zeroValue89
  t70 := Tryz.underlying88
  a70 := Tryz.isAgg88
  z70 := Tryz.sizeOf88
  v70 := Tryz.zeroValue88
  t72 := Tryz.underlying91
  a72 := Tryz.isAgg91
  z72 := Tryz.sizeOf91
  v72 := Tryz.zeroValue91
  t127 := Tryz.underlying120
  a127 := Tryz.isAgg120
  z127 := Tryz.sizeOf120
  v127 := Tryz.zeroValue120 }
theorem Tryz.Builder_Extra_169 : Builder.Extra Tryz.prog Tryz.lays169_ren := {
  sizeBuilder := by kernel_rfl
  liesBuilder := by kernel_rfl
  t5 := Tryz.underlying5
  a5 := Tryz.isAgg5
  z5 := Tryz.sizeOf5
  v5 := Tryz.zeroValue5
  infoByte := by kernel_rfl
  cellsByte := by kernel_rfl
  sizeByte := by kernel_rfl
  neB5 := by decide }
open Go.RowKit in
theorem Tryz.Builder_String_any (B b : Nat) (l : List UInt8) (w : World) (h : Lib.IsBuilder 91 5 B b (Lib.byteCells l) w) (hBw : B ≤ w.heap.size) :
    Calls Tryz.prog 49 #[.pointer (some ⟨b, 0, none⟩)] w fun e w' => e = .returned (.string ⟨l.toArray⟩) ∧ Below B w w' := Any.Builder_String_any Tryz.lays169 Tryz.Builder_Extra_169 B b l w h hBw
def Tryz.lays160_ren : Go.Shelf.Ren := ⟨fun | 160 => 72 | 232 => 90 | 231 => 89 | 227 => 91 | 234 => 93 | 233 => 92 | 236 => 95 | 235 => 94 | 228 => 99 | 271 => 110 | 151 => 109 | 197 => 81 | 120 => 117 | 152 => 97 | 260 => 102 | 137 => 112 | 119 => 113 | 224 => 105 | 225 => 104 | 217 => 103 | 266 => 115 | n => n, fun | 9 => 9 | 4 => 4 | 3 => 3 | 5 => 5 | 117 => 154 | 116 => 153 | 0 => 0 | 124 => 157 | 21 => 21 | 105 => 143 | 46 => 84 | 119 => 168 | 139 => 171 | 138 => 170 | n => n, fun | 3 => 2 | 4 => 3 | n => n⟩
theorem Tryz.lays160 : Go.Proofs.Lays.n160 Tryz.prog Tryz.lays160_ren := {
  mixed := by kernel_rfl
  f119 := Tryz.func113.trans (congrArg some (by kernel_rfl))
  f120 := Tryz.func117.trans (congrArg some (by kernel_rfl))
  f137 := Tryz.func112.trans (congrArg some (by kernel_rfl))
  f151 := Tryz.func109.trans (congrArg some (by kernel_rfl))
  f152 := Tryz.func97.trans (congrArg some (by kernel_rfl))
  f160 := Tryz.func72.trans (congrArg some (by kernel_rfl))
  f197 := Tryz.func81.trans (congrArg some (by kernel_rfl))
  f217 := Tryz.func103.trans (congrArg some (by kernel_rfl))
  f224 := Tryz.func105.trans (congrArg some (by kernel_rfl))
  f225 := Tryz.func104.trans (congrArg some (by kernel_rfl))
  f227 := Tryz.func91.trans (congrArg some (by kernel_rfl))
  f228 := Tryz.func99.trans (congrArg some (by kernel_rfl))
  f231 := Tryz.func89.trans (congrArg some (by kernel_rfl))
  f232 := Tryz.func90.trans (congrArg some (by kernel_rfl))
  f233 := Tryz.func92.trans (congrArg some (by kernel_rfl))
  f234 := Tryz.func93.trans (congrArg some (by kernel_rfl))
  f235 := Tryz.func94.trans (congrArg some (by kernel_rfl))
  f236 := Tryz.func95.trans (congrArg some (by kernel_rfl))
  f260 := Tryz.func102.trans (congrArg some (by kernel_rfl))
  f266 := Tryz.func115.trans (congrArg some (by kernel_rfl))
  f271 := Tryz.func110.trans (congrArg some (by kernel_rfl))
  t0 := Tryz.underlying0
  a0 := Tryz.isAgg0
  z0 := Tryz.sizeOf0
  v0 := Tryz.zeroValue0
  t3 := Tryz.underlying3
  a3 := Tryz.isAgg3
  z3 := Tryz.sizeOf3
  v3 := Tryz.zeroValue3
  t4 := Tryz.underlying4
  a4 := Tryz.isAgg4
  z4 := Tryz.sizeOf4
  v4 := Tryz.zeroValue4
  t5 := Tryz.underlying5
  a5 := Tryz.isAgg5
  z5 := Tryz.sizeOf5
  v5 := Tryz.zeroValue5
  t9 := Tryz.underlying9
  a9 := Tryz.isAgg9
  z9 := Tryz.sizeOf9
  v9 := Tryz.zeroValue9
  t21 := Tryz.underlying21
  a21 := Tryz.isAgg21
  z21 := Tryz.sizeOf21
  v21 := Tryz.zeroValue21
  t46 := Tryz.underlying84
  a46 := Tryz.isAgg84
  z46 := Tryz.sizeOf84
  v46 := Tryz.zeroValue84
  t105 := Tryz.underlying143
  a105 := Tryz.isAgg143
  z105 := Tryz.sizeOf143
  v105 := Tryz.zeroValue143
  t116 := Tryz.underlying153
  a116 := Tryz.isAgg153
  z116 := Tryz.sizeOf153
  t117 := Tryz.underlying154
  a117 := Tryz.isAgg154
  z117 := Tryz.sizeOf154
  v117 := Tryz.zeroValue154
  t119 := Tryz.underlying168
  a119 := Tryz.isAgg168
  z119 := Tryz.sizeOf168
  t124 := Tryz.underlying157
  a124 := Tryz.isAgg157
  z124 := Tryz.sizeOf157
  v124 := Tryz.zeroValue157
  t138 := Tryz.underlying170
  a138 := Tryz.isAgg170
  z138 := Tryz.sizeOf170
  v138 := Tryz.zeroValue170
  t139 := Tryz.underlying171
  a139 := Tryz.isAgg171
  z139 := Tryz.sizeOf171
  v139 := Tryz.zeroValue171
  g3 := by kernel_rfl
  g4 := by kernel_rfl }
def Tryz.lays119_ren : Go.Shelf.Ren := ⟨fun | 119 => 113 | n => n, fun | 21 => 21 | 4 => 4 | n => n, fun | n => n⟩
theorem Tryz.lays119 : Go.Proofs.Lays.n119 Tryz.prog Tryz.lays119_ren := {
  mixed := by kernel_rfl
  f119 := Tryz.func113.trans (congrArg some (by kernel_rfl))
  t4 := Tryz.underlying4
  a4 := Tryz.isAgg4
  z4 := Tryz.sizeOf4
  v4 := Tryz.zeroValue4
  t21 := Tryz.underlying21
  a21 := Tryz.isAgg21
  z21 := Tryz.sizeOf21
  v21 := Tryz.zeroValue21 }
theorem Tryz.utf8_ValidRune (r : Int) (w : World) :
    Calls Tryz.prog 113 #[.int .i32 r] w fun e w' => e = .returned (.bool (Lib.validRune r)) ∧ w' = w := Any.utf8_ValidRune Tryz.lays119 r w
def Tryz.lays137_ren : Go.Shelf.Ren := ⟨fun | 137 => 112 | 217 => 103 | 266 => 115 | n => n, fun | 9 => 9 | 5 => 5 | 3 => 3 | n => n, fun | n => n⟩
theorem Tryz.lays137 : Go.Proofs.Lays.n137 Tryz.prog Tryz.lays137_ren := {
  mixed := by kernel_rfl
  f137 := Tryz.func112.trans (congrArg some (by kernel_rfl))
  f217 := Tryz.func103.trans (congrArg some (by kernel_rfl))
  f266 := Tryz.func115.trans (congrArg some (by kernel_rfl))
  t3 := Tryz.underlying3
  a3 := Tryz.isAgg3
  z3 := Tryz.sizeOf3
  v3 := Tryz.zeroValue3
  t5 := Tryz.underlying5
  a5 := Tryz.isAgg5
  z5 := Tryz.sizeOf5
  v5 := Tryz.zeroValue5
  t9 := Tryz.underlying9
  a9 := Tryz.isAgg9
  z9 := Tryz.sizeOf9
  v9 := Tryz.zeroValue9 }
open Go.RowKit in
theorem Tryz.strings_IndexByte (s : ByteArray) (c : Int) (w : World) :
    Calls Tryz.prog 112 #[.string s, .int .u8 c] w fun e w' => e = .returned (.int .i64 (Lib.indexByte s.data.toList c.toNat.toUInt8)) ∧ w' = w := Any.strings_IndexByte Tryz.lays137 s c w
def Tryz.lays104_ren : Go.Shelf.Ren := ⟨fun | 104 => 73 | 211 => 96 | 207 => 111 | n => n, fun | 9 => 9 | 4 => 4 | 24 => 135 | 3 => 3 | n => n, fun | n => n⟩
theorem Tryz.lays104 : Go.Proofs.Lays.n104 Tryz.prog Tryz.lays104_ren := {
  mixed := by kernel_rfl
  f104 := Tryz.func73.trans (congrArg some (by kernel_rfl))
  f207 := Tryz.func111.trans (congrArg some (by kernel_rfl))
  f211 := Tryz.func96.trans (congrArg some (by kernel_rfl))
  t3 := Tryz.underlying3
  a3 := Tryz.isAgg3
  z3 := Tryz.sizeOf3
  v3 := Tryz.zeroValue3
  t4 := Tryz.underlying4
  a4 := Tryz.isAgg4
  z4 := Tryz.sizeOf4
  v4 := Tryz.zeroValue4
  t9 := Tryz.underlying9
  a9 := Tryz.isAgg9
  z9 := Tryz.sizeOf9
  v9 := Tryz.zeroValue9
  t24 := Tryz.underlying135
  a24 := Tryz.isAgg135
  z24 := Tryz.sizeOf135
  v24 := Tryz.zeroValue135 }
open Go.RowKit in
theorem Tryz.strings_CutSuffix (s p : ByteArray) (w : World) (hs : s.size ≤ 9223372036854775807) :
    Calls Tryz.prog 73 #[.string s, .string p] w fun e w' => e = .returned (.tuple #[.string ⟨(Lib.trimSuffix s.data.toList p.data.toList).toArray⟩, .bool (Lib.hasSuffix s.data.toList p.data.toList)]) ∧ w' = w := Any.strings_CutSuffix Tryz.lays104 s p w hs
def Tryz.laysM171_ren : Go.Shelf.Ren := ⟨fun | 171 => 129 | 243 => 130 | 246 => 57 | 283 => 67 | 284 => 68 | 285 => 69 | 286 => 70 | 129 => 85 | 317 => 84 | 318 => 86 | 319 => 87 | 320 => 88 | 337 => 107 | 338 => 108 | n => n, fun | 3 => 3 | 9 => 9 | 2 => 2 | 4 => 4 | 171 => 128 | 0 => 0 | 53 => 129 | 37 => 89 | 5 => 5 | 173 => 132 | 212 => 147 | 51 => 148 | 20 => 20 | 213 => 149 | 46 => 84 | 232 => 174 | 233 => 175 | n => n, fun | 17 => 0 | 18 => 4 | 19 => 5 | n => n⟩
theorem Tryz.laysM171 : Go.Proofs.LaysM.n171 Tryz.prog Tryz.laysM171_ren := {
  mixed := by kernel_rfl
  f129 := Tryz.func85.trans (congrArg some (by kernel_rfl))
  f171 := Tryz.func129.trans (congrArg some (by kernel_rfl))
  f243 := Tryz.func130.trans (congrArg some (by kernel_rfl))
  f246 := Tryz.func57.trans (congrArg some (by kernel_rfl))
  f283 := Tryz.func67.trans (congrArg some (by kernel_rfl))
  f284 := Tryz.func68.trans (congrArg some (by kernel_rfl))
  f285 := Tryz.func69.trans (congrArg some (by kernel_rfl))
  f286 := Tryz.func70.trans (congrArg some (by kernel_rfl))
  f317 := Tryz.func84.trans (congrArg some (by kernel_rfl))
  f318 := Tryz.func86.trans (congrArg some (by kernel_rfl))
  f319 := Tryz.func87.trans (congrArg some (by kernel_rfl))
  f320 := Tryz.func88.trans (congrArg some (by kernel_rfl))
  f337 := Tryz.func107.trans (congrArg some (by kernel_rfl))
  f338 := Tryz.func108.trans (congrArg some (by kernel_rfl))
  t0 := Tryz.underlying0
  a0 := Tryz.isAgg0
  z0 := Tryz.sizeOf0
  v0 := Tryz.zeroValue0
  t2 := Tryz.underlying2
  a2 := Tryz.isAgg2
  z2 := Tryz.sizeOf2
  v2 := Tryz.zeroValue2
  t3 := Tryz.underlying3
  a3 := Tryz.isAgg3
  z3 := Tryz.sizeOf3
  v3 := Tryz.zeroValue3
  t4 := Tryz.underlying4
  a4 := Tryz.isAgg4
  z4 := Tryz.sizeOf4
  v4 := Tryz.zeroValue4
  t5 := Tryz.underlying5
  a5 := Tryz.isAgg5
  z5 := Tryz.sizeOf5
  v5 := Tryz.zeroValue5
  t9 := Tryz.underlying9
  a9 := Tryz.isAgg9
  z9 := Tryz.sizeOf9
  v9 := Tryz.zeroValue9
  t20 := Tryz.underlying20
  a20 := Tryz.isAgg20
  z20 := Tryz.sizeOf20
  v20 := Tryz.zeroValue20
  t37 := Tryz.underlying89
  a37 := Tryz.isAgg89
  z37 := Tryz.sizeOf89
  v37 := Tryz.zeroValue89
  t46 := Tryz.underlying84
  a46 := Tryz.isAgg84
  z46 := Tryz.sizeOf84
  v46 := Tryz.zeroValue84
  t51 := Tryz.underlying148
  a51 := Tryz.isAgg148
  z51 := Tryz.sizeOf148
  v51 := Tryz.zeroValue148
  t53 := Tryz.underlying129
  a53 := Tryz.isAgg129
  z53 := Tryz.sizeOf129
  v53 := Tryz.zeroValue129
  t171 := Tryz.underlying128
  a171 := Tryz.isAgg128
  z171 := Tryz.sizeOf128
  v171 := Tryz.zeroValue128
  t173 := Tryz.underlying132
  a173 := Tryz.isAgg132
  z173 := Tryz.sizeOf132
  v173 := Tryz.zeroValue132
  t212 := Tryz.underlying147
  a212 := Tryz.isAgg147
  z212 := Tryz.sizeOf147
  v212 := Tryz.zeroValue147
  t213 := Tryz.underlying149
  a213 := Tryz.isAgg149
  z213 := Tryz.sizeOf149
  t232 := Tryz.underlying174
  a232 := Tryz.isAgg174
  z232 := Tryz.sizeOf174
  v232 := Tryz.zeroValue174
  t233 := Tryz.underlying175
  a233 := Tryz.isAgg175
  z233 := Tryz.sizeOf175
  v233 := Tryz.zeroValue175
  g17 := by kernel_rfl
  g18 := by kernel_rfl
  g19 := by kernel_rfl
  i0 := by kernel_rfl
  i2 := by kernel_rfl
  i3 := by kernel_rfl
  i4 := by kernel_rfl
  i5 := by kernel_rfl
  i9 := by kernel_rfl
  i20 := by kernel_rfl
  i37 := by kernel_rfl
  i46 := by kernel_rfl
  i51 := by kernel_rfl
  i53 := by kernel_rfl
  i171 := by kernel_rfl
  i173 := by kernel_rfl
  i212 := by kernel_rfl
  i232 := by kernel_rfl
  i233 := by kernel_rfl
  m17 := by kernel_rfl
  m18 := by kernel_rfl
  m19 := by kernel_rfl }
open Go.RowKit Go.Sort Go.Lib in
theorem Tryz.strconv_Itoa (n : Int) (h0 : -9223372036854775808 ≤ n) (h1 : n ≤ 9223372036854775807) (w : World) (htab : Lib.TabIs Tryz.prog w "internal/strconv.uint64pow10" .u64 Lib.pow10Tab) :
    Calls Tryz.prog 129 #[.int .i64 n] w fun e w' => e = .returned (.string ⟨(Lib.itoa n).toArray⟩) ∧ ∃ k os, w' = grow (w.drewN k) os := Any.strconv_Itoa Tryz.laysM171 n h0 h1 w htab
def Tryz.laysM173_ren : Go.Shelf.Ren := ⟨fun | 173 => 47 | 246 => 57 | 283 => 67 | 284 => 68 | 285 => 69 | 286 => 70 | 129 => 85 | 317 => 84 | 318 => 86 | 319 => 87 | 320 => 88 | 337 => 107 | 338 => 108 | n => n, fun | 2 => 2 | 3 => 3 | 9 => 9 | 4 => 4 | 171 => 128 | 0 => 0 | 53 => 129 | 37 => 89 | 5 => 5 | 173 => 132 | 212 => 147 | 51 => 148 | 20 => 20 | 213 => 149 | 46 => 84 | 232 => 174 | 233 => 175 | n => n, fun | 17 => 0 | 18 => 4 | 19 => 5 | n => n⟩
theorem Tryz.laysM173 : Go.Proofs.LaysM.n173 Tryz.prog Tryz.laysM173_ren := {
  mixed := by kernel_rfl
  f129 := Tryz.func85.trans (congrArg some (by kernel_rfl))
  f173 := Tryz.func47.trans (congrArg some (by kernel_rfl))
  f246 := Tryz.func57.trans (congrArg some (by kernel_rfl))
  f283 := Tryz.func67.trans (congrArg some (by kernel_rfl))
  f284 := Tryz.func68.trans (congrArg some (by kernel_rfl))
  f285 := Tryz.func69.trans (congrArg some (by kernel_rfl))
  f286 := Tryz.func70.trans (congrArg some (by kernel_rfl))
  f317 := Tryz.func84.trans (congrArg some (by kernel_rfl))
  f318 := Tryz.func86.trans (congrArg some (by kernel_rfl))
  f319 := Tryz.func87.trans (congrArg some (by kernel_rfl))
  f320 := Tryz.func88.trans (congrArg some (by kernel_rfl))
  f337 := Tryz.func107.trans (congrArg some (by kernel_rfl))
  f338 := Tryz.func108.trans (congrArg some (by kernel_rfl))
  t0 := Tryz.underlying0
  a0 := Tryz.isAgg0
  z0 := Tryz.sizeOf0
  v0 := Tryz.zeroValue0
  t2 := Tryz.underlying2
  a2 := Tryz.isAgg2
  z2 := Tryz.sizeOf2
  v2 := Tryz.zeroValue2
  t3 := Tryz.underlying3
  a3 := Tryz.isAgg3
  z3 := Tryz.sizeOf3
  v3 := Tryz.zeroValue3
  t4 := Tryz.underlying4
  a4 := Tryz.isAgg4
  z4 := Tryz.sizeOf4
  v4 := Tryz.zeroValue4
  t5 := Tryz.underlying5
  a5 := Tryz.isAgg5
  z5 := Tryz.sizeOf5
  v5 := Tryz.zeroValue5
  t9 := Tryz.underlying9
  a9 := Tryz.isAgg9
  z9 := Tryz.sizeOf9
  v9 := Tryz.zeroValue9
  t20 := Tryz.underlying20
  a20 := Tryz.isAgg20
  z20 := Tryz.sizeOf20
  v20 := Tryz.zeroValue20
  t37 := Tryz.underlying89
  a37 := Tryz.isAgg89
  z37 := Tryz.sizeOf89
  v37 := Tryz.zeroValue89
  t46 := Tryz.underlying84
  a46 := Tryz.isAgg84
  z46 := Tryz.sizeOf84
  v46 := Tryz.zeroValue84
  t51 := Tryz.underlying148
  a51 := Tryz.isAgg148
  z51 := Tryz.sizeOf148
  v51 := Tryz.zeroValue148
  t53 := Tryz.underlying129
  a53 := Tryz.isAgg129
  z53 := Tryz.sizeOf129
  v53 := Tryz.zeroValue129
  t171 := Tryz.underlying128
  a171 := Tryz.isAgg128
  z171 := Tryz.sizeOf128
  v171 := Tryz.zeroValue128
  t173 := Tryz.underlying132
  a173 := Tryz.isAgg132
  z173 := Tryz.sizeOf132
  v173 := Tryz.zeroValue132
  t212 := Tryz.underlying147
  a212 := Tryz.isAgg147
  z212 := Tryz.sizeOf147
  v212 := Tryz.zeroValue147
  t213 := Tryz.underlying149
  a213 := Tryz.isAgg149
  z213 := Tryz.sizeOf149
  t232 := Tryz.underlying174
  a232 := Tryz.isAgg174
  z232 := Tryz.sizeOf174
  v232 := Tryz.zeroValue174
  t233 := Tryz.underlying175
  a233 := Tryz.isAgg175
  z233 := Tryz.sizeOf175
  v233 := Tryz.zeroValue175
  g17 := by kernel_rfl
  g18 := by kernel_rfl
  g19 := by kernel_rfl
  i0 := by kernel_rfl
  i2 := by kernel_rfl
  i3 := by kernel_rfl
  i4 := by kernel_rfl
  i5 := by kernel_rfl
  i9 := by kernel_rfl
  i20 := by kernel_rfl
  i37 := by kernel_rfl
  i46 := by kernel_rfl
  i51 := by kernel_rfl
  i53 := by kernel_rfl
  i171 := by kernel_rfl
  i173 := by kernel_rfl
  i212 := by kernel_rfl
  i232 := by kernel_rfl
  i233 := by kernel_rfl
  m17 := by kernel_rfl
  m18 := by kernel_rfl
  m19 := by kernel_rfl }
open Go.RowKit Go.Sort Go.Lib in
theorem Tryz.strconv_FormatInt_10 (n : Int) (h0 : -9223372036854775808 ≤ n) (h1 : n ≤ 9223372036854775807) (w : World) (htab : Lib.TabIs Tryz.prog w "internal/strconv.uint64pow10" .u64 Lib.pow10Tab) :
    Calls Tryz.prog 47 #[.int .i64 n, .int .i64 10] w fun e w' => e = .returned (.string ⟨(Lib.itoa n).toArray⟩) ∧ ∃ k os, w' = grow (w.drewN k) os := Any.strconv_FormatInt_10 Tryz.laysM173 n h0 h1 w htab
def Tryz.laysC174_ren : Go.Shelf.Ren := ⟨fun | 174 => 114 | 247 => 118 | 245 => 119 | 287 => 120 | 279 => 121 | 280 => 122 | 281 => 123 | 282 => 124 | 321 => 125 | 322 => 126 | 316 => 127 | 171 => 129 | 205 => 128 | 243 => 130 | 246 => 57 | 283 => 67 | 284 => 68 | 285 => 69 | 286 => 70 | 129 => 85 | 317 => 84 | 318 => 86 | 319 => 87 | 320 => 88 | 337 => 107 | 338 => 108 | n => n, fun | 9 => 9 | 3 => 3 | 2 => 2 | 75 => 96 | 85 => 166 | 4 => 4 | 167 => 177 | 5 => 5 | 53 => 129 | 175 => 178 | 46 => 84 | 168 => 180 | 37 => 89 | 0 => 0 | 210 => 186 | 21 => 21 | 127 => 120 | 145 => 190 | 143 => 188 | 171 => 128 | 173 => 132 | 212 => 147 | 51 => 148 | 20 => 20 | 213 => 149 | 232 => 174 | 233 => 175 | 80 => 102 | n => n, fun | 15 => 6 | 16 => 7 | 17 => 0 | 18 => 4 | 19 => 5 | n => n⟩
theorem Tryz.laysC174 : Go.Proofs.LaysC.n174 Tryz.prog Tryz.laysC174_ren := {
  mixed := by kernel_rfl
  f129 := Tryz.func85.trans (congrArg some (by kernel_rfl))
  f171 := Tryz.func129.trans (congrArg some (by kernel_rfl))
  f174 := Tryz.func114.trans (congrArg some (by kernel_rfl))
  f205 := Tryz.func128.trans (congrArg some (by kernel_rfl))
  f243 := Tryz.func130.trans (congrArg some (by kernel_rfl))
  f245 := Tryz.func119.trans (congrArg some (by kernel_rfl))
  f246 := Tryz.func57.trans (congrArg some (by kernel_rfl))
  f247 := Tryz.func118.trans (congrArg some (by kernel_rfl))
  f279 := Tryz.func121.trans (congrArg some (by kernel_rfl))
  f280 := Tryz.func122.trans (congrArg some (by kernel_rfl))
  f281 := Tryz.func123.trans (congrArg some (by kernel_rfl))
  f282 := Tryz.func124.trans (congrArg some (by kernel_rfl))
  f283 := Tryz.func67.trans (congrArg some (by kernel_rfl))
  f284 := Tryz.func68.trans (congrArg some (by kernel_rfl))
  f285 := Tryz.func69.trans (congrArg some (by kernel_rfl))
  f286 := Tryz.func70.trans (congrArg some (by kernel_rfl))
  f287 := Tryz.func120.trans (congrArg some (by kernel_rfl))
  f316 := Tryz.func127.trans (congrArg some (by kernel_rfl))
  f317 := Tryz.func84.trans (congrArg some (by kernel_rfl))
  f318 := Tryz.func86.trans (congrArg some (by kernel_rfl))
  f319 := Tryz.func87.trans (congrArg some (by kernel_rfl))
  f320 := Tryz.func88.trans (congrArg some (by kernel_rfl))
  f321 := Tryz.func125.trans (congrArg some (by kernel_rfl))
  f322 := Tryz.func126.trans (congrArg some (by kernel_rfl))
  f337 := Tryz.func107.trans (congrArg some (by kernel_rfl))
  f338 := Tryz.func108.trans (congrArg some (by kernel_rfl))
  t0 := Tryz.underlying0
  a0 := Tryz.isAgg0
  z0 := Tryz.sizeOf0
  v0 := Tryz.zeroValue0
  t2 := Tryz.underlying2
  a2 := Tryz.isAgg2
  z2 := Tryz.sizeOf2
  v2 := Tryz.zeroValue2
  t3 := Tryz.underlying3
  a3 := Tryz.isAgg3
  z3 := Tryz.sizeOf3
  v3 := Tryz.zeroValue3
  t4 := Tryz.underlying4
  a4 := Tryz.isAgg4
  z4 := Tryz.sizeOf4
  v4 := Tryz.zeroValue4
  t5 := Tryz.underlying5
  a5 := Tryz.isAgg5
  z5 := Tryz.sizeOf5
  v5 := Tryz.zeroValue5
  t9 := Tryz.underlying9
  a9 := Tryz.isAgg9
  z9 := Tryz.sizeOf9
  v9 := Tryz.zeroValue9
  t20 := Tryz.underlying20
  a20 := Tryz.isAgg20
  z20 := Tryz.sizeOf20
  v20 := Tryz.zeroValue20
  t21 := Tryz.underlying21
  a21 := Tryz.isAgg21
  z21 := Tryz.sizeOf21
  v21 := Tryz.zeroValue21
  t37 := Tryz.underlying89
  a37 := Tryz.isAgg89
  z37 := Tryz.sizeOf89
  v37 := Tryz.zeroValue89
  t46 := Tryz.underlying84
  a46 := Tryz.isAgg84
  z46 := Tryz.sizeOf84
  v46 := Tryz.zeroValue84
  t51 := Tryz.underlying148
  a51 := Tryz.isAgg148
  z51 := Tryz.sizeOf148
  v51 := Tryz.zeroValue148
  t53 := Tryz.underlying129
  a53 := Tryz.isAgg129
  z53 := Tryz.sizeOf129
  v53 := Tryz.zeroValue129
  t75 := Tryz.underlying96
  a75 := Tryz.isAgg96
  z75 := Tryz.sizeOf96
  v75 := Tryz.zeroValue96
  t85 := Tryz.underlying166
  a85 := Tryz.isAgg166
  z85 := Tryz.sizeOf166
  v85 := Tryz.zeroValue166
  t127 := Tryz.underlying120
  a127 := Tryz.isAgg120
  z127 := Tryz.sizeOf120
  v127 := Tryz.zeroValue120
  t143 := Tryz.underlying188
  a143 := Tryz.isAgg188
  z143 := Tryz.sizeOf188
  v143 := Tryz.zeroValue188
  t145 := Tryz.underlying190
  a145 := Tryz.isAgg190
  z145 := Tryz.sizeOf190
  v145 := Tryz.zeroValue190
  t167 := Tryz.underlying177
  a167 := Tryz.isAgg177
  z167 := Tryz.sizeOf177
  v167 := Tryz.zeroValue177
  t168 := Tryz.underlying180
  a168 := Tryz.isAgg180
  z168 := Tryz.sizeOf180
  v168 := Tryz.zeroValue180
  t171 := Tryz.underlying128
  a171 := Tryz.isAgg128
  z171 := Tryz.sizeOf128
  v171 := Tryz.zeroValue128
  t173 := Tryz.underlying132
  a173 := Tryz.isAgg132
  z173 := Tryz.sizeOf132
  v173 := Tryz.zeroValue132
  t175 := Tryz.underlying178
  a175 := Tryz.isAgg178
  z175 := Tryz.sizeOf178
  v175 := Tryz.zeroValue178
  t210 := Tryz.underlying186
  a210 := Tryz.isAgg186
  z210 := Tryz.sizeOf186
  v210 := Tryz.zeroValue186
  t212 := Tryz.underlying147
  a212 := Tryz.isAgg147
  z212 := Tryz.sizeOf147
  v212 := Tryz.zeroValue147
  t213 := Tryz.underlying149
  a213 := Tryz.isAgg149
  z213 := Tryz.sizeOf149
  t232 := Tryz.underlying174
  a232 := Tryz.isAgg174
  z232 := Tryz.sizeOf174
  v232 := Tryz.zeroValue174
  t233 := Tryz.underlying175
  a233 := Tryz.isAgg175
  z233 := Tryz.sizeOf175
  v233 := Tryz.zeroValue175
  g15 := by kernel_rfl
  g16 := by kernel_rfl
  g17 := by kernel_rfl
  g18 := by kernel_rfl
  g19 := by kernel_rfl
  t80 := Tryz.underlying102
  a80 := Tryz.isAgg102
  z80 := Tryz.sizeOf102
  v80 := Tryz.zeroValue102
  i0 := by kernel_rfl
  i2 := by kernel_rfl
  i3 := by kernel_rfl
  i4 := by kernel_rfl
  i5 := by kernel_rfl
  i9 := by kernel_rfl
  i20 := by kernel_rfl
  i21 := by kernel_rfl
  i37 := by kernel_rfl
  i46 := by kernel_rfl
  i51 := by kernel_rfl
  i53 := by kernel_rfl
  i75 := by kernel_rfl
  i80 := by kernel_rfl
  i85 := by kernel_rfl
  i127 := by kernel_rfl
  i143 := by kernel_rfl
  i145 := by kernel_rfl
  i167 := by kernel_rfl
  i168 := by kernel_rfl
  i171 := by kernel_rfl
  i173 := by kernel_rfl
  i175 := by kernel_rfl
  i210 := by kernel_rfl
  i212 := by kernel_rfl
  i232 := by kernel_rfl
  i233 := by kernel_rfl
  m15 := by kernel_rfl
  m16 := by kernel_rfl
  m17 := by kernel_rfl
  m18 := by kernel_rfl
  m19 := by kernel_rfl
  c0 := by kernel_rfl
  c2 := by kernel_rfl
  c3 := by kernel_rfl
  c4 := by kernel_rfl
  c5 := by kernel_rfl
  c9 := by kernel_rfl
  c20 := by kernel_rfl
  c21 := by kernel_rfl
  c37 := by kernel_rfl
  c46 := by kernel_rfl
  c51 := by kernel_rfl
  c53 := by kernel_rfl
  c75 := by kernel_rfl
  c80 := by kernel_rfl
  c85 := by kernel_rfl
  c127 := by kernel_rfl
  c143 := by kernel_rfl
  c145 := by kernel_rfl
  c167 := by kernel_rfl
  c168 := by kernel_rfl
  c171 := by kernel_rfl
  c173 := by kernel_rfl
  c175 := by kernel_rfl
  c210 := by kernel_rfl
  c212 := by kernel_rfl
  c213 := by kernel_rfl
  c232 := by kernel_rfl
  c233 := by kernel_rfl }
open Go.RowKit in
theorem Tryz.strconv_ParseInt_10_at64_ok (s : ByteArray) (hmax : s.size ≤ 9223372036854775806) (v : Int) (h : Lib.parseIntB 64 s.data.toList = .ok v) (w : World) :
    Calls Tryz.prog 114 #[.string s, .int .i64 10, .int .i64 64] w fun e w' => e = .returned (.tuple #[.int .i64 v, .nilIface]) ∧ (w' = w ∨ ∃ t, w' = Lib.bytesWorld w 5 t) := Any.strconv_ParseInt_10_at64_ok Tryz.laysC174 s hmax v h w
open Go.RowKit in
theorem Tryz.strconv_ParseInt_10_at64_range_var (s : ByteArray) (hlim : s.size ≤ 281474976710656) (h : Lib.parseIntB 64 s.data.toList = .range) (tp : TypeId) (p : Value) (w : World) (hvar : w.var? Tryz.prog "strconv.ErrRange" = some #[.iface tp p]) :
    Calls Tryz.prog 114 #[.string s, .int .i64 10, .int .i64 64] w fun e w' => ∃ N, e = .returned (.tuple #[.int .i64 (Lib.intSat 64 s.data.toList), .iface 180 (.pointer (some ⟨N, 0, none⟩))]) ∧ w.heap.size ≤ N ∧ w'.heap[N]? = some (.cells #[.string ⟨#[80, 97, 114, 115, 101, 73, 110, 116]⟩, .string s, .iface tp p] 186 (0, 0)) ∧ Below w.heap.size w w' := Any.strconv_ParseInt_10_at64_range_var Tryz.laysC174 s hlim h tp p w hvar
def Tryz.lays145_ren : Go.Shelf.Ren := ⟨fun | 145 => 59 | 220 => 71 | 219 => 83 | 217 => 103 | 225 => 104 | 224 => 105 | 267 => 106 | 266 => 115 | 314 => 116 | n => n, fun | 9 => 9 | 4 => 4 | 59 => 117 | 3 => 3 | 5 => 5 | 46 => 84 | 146 => 172 | 51 => 148 | n => n, fun | 1 => 1 | n => n⟩
theorem Tryz.lays145 : Go.Proofs.Lays.n145 Tryz.prog Tryz.lays145_ren := {
  mixed := by kernel_rfl
  f145 := Tryz.func59.trans (congrArg some (by kernel_rfl))
  f217 := Tryz.func103.trans (congrArg some (by kernel_rfl))
  f219 := Tryz.func83.trans (congrArg some (by kernel_rfl))
  f220 := Tryz.func71.trans (congrArg some (by kernel_rfl))
  f224 := Tryz.func105.trans (congrArg some (by kernel_rfl))
  f225 := Tryz.func104.trans (congrArg some (by kernel_rfl))
  f266 := Tryz.func115.trans (congrArg some (by kernel_rfl))
  f267 := Tryz.func106.trans (congrArg some (by kernel_rfl))
  f314 := Tryz.func116.trans (congrArg some (by kernel_rfl))
  t3 := Tryz.underlying3
  a3 := Tryz.isAgg3
  z3 := Tryz.sizeOf3
  v3 := Tryz.zeroValue3
  t4 := Tryz.underlying4
  a4 := Tryz.isAgg4
  z4 := Tryz.sizeOf4
  v4 := Tryz.zeroValue4
  t5 := Tryz.underlying5
  a5 := Tryz.isAgg5
  z5 := Tryz.sizeOf5
  v5 := Tryz.zeroValue5
  t9 := Tryz.underlying9
  a9 := Tryz.isAgg9
  z9 := Tryz.sizeOf9
  v9 := Tryz.zeroValue9
  t46 := Tryz.underlying84
  a46 := Tryz.isAgg84
  z46 := Tryz.sizeOf84
  v46 := Tryz.zeroValue84
  t51 := Tryz.underlying148
  a51 := Tryz.isAgg148
  z51 := Tryz.sizeOf148
  v51 := Tryz.zeroValue148
  t59 := Tryz.underlying117
  a59 := Tryz.isAgg117
  z59 := Tryz.sizeOf117
  v59 := Tryz.zeroValue117
  t146 := Tryz.underlying172
  a146 := Tryz.isAgg172
  z146 := Tryz.sizeOf172
  v146 := Tryz.zeroValue172
  g1 := by kernel_rfl }
open Go.RowKit Go.Lib in
theorem Tryz.strings_Cut (s sep : ByteArray) (m : Int) (w : World) (hs : s.size < 4294967281) (hm : w.cell? ⟨1, 0, none⟩ = some (.int .i64 m)) :
    Calls Tryz.prog 59 #[.string s, .string sep] w fun e w' => e = .returned (.tuple #[.string ⟨(Lib.cut s.data.toList sep.data.toList).1.toArray⟩, .string ⟨(Lib.cut s.data.toList sep.data.toList).2.1.toArray⟩, .bool (Lib.cut s.data.toList sep.data.toList).2.2]) ∧ ∃ n, w' = w.drewN n := Any.strings_Cut Tryz.lays145 s sep m w hs hm
def Tryz.lays146_ren : Go.Shelf.Ren := ⟨fun | 146 => 44 | 221 => 55 | 268 => 63 | 138 => 64 | 143 => 65 | 195 => 80 | 197 => 81 | 218 => 82 | 219 => 83 | 260 => 102 | 217 => 103 | 225 => 104 | 224 => 105 | 267 => 106 | 266 => 115 | 314 => 116 | n => n, fun | 9 => 9 | 31 => 92 | 3 => 3 | 4 => 4 | 0 => 0 | 105 => 143 | 21 => 21 | 5 => 5 | 46 => 84 | 119 => 168 | 139 => 171 | 138 => 170 | 146 => 172 | 51 => 148 | n => n, fun | 1 => 1 | 3 => 2 | 4 => 3 | n => n⟩
theorem Tryz.lays146 : Go.Proofs.Lays.n146 Tryz.prog Tryz.lays146_ren := {
  mixed := by kernel_rfl
  f138 := Tryz.func64.trans (congrArg some (by kernel_rfl))
  f143 := Tryz.func65.trans (congrArg some (by kernel_rfl))
  f146 := Tryz.func44.trans (congrArg some (by kernel_rfl))
  f195 := Tryz.func80.trans (congrArg some (by kernel_rfl))
  f197 := Tryz.func81.trans (congrArg some (by kernel_rfl))
  f217 := Tryz.func103.trans (congrArg some (by kernel_rfl))
  f218 := Tryz.func82.trans (congrArg some (by kernel_rfl))
  f219 := Tryz.func83.trans (congrArg some (by kernel_rfl))
  f221 := Tryz.func55.trans (congrArg some (by kernel_rfl))
  f224 := Tryz.func105.trans (congrArg some (by kernel_rfl))
  f225 := Tryz.func104.trans (congrArg some (by kernel_rfl))
  f260 := Tryz.func102.trans (congrArg some (by kernel_rfl))
  f266 := Tryz.func115.trans (congrArg some (by kernel_rfl))
  f267 := Tryz.func106.trans (congrArg some (by kernel_rfl))
  f268 := Tryz.func63.trans (congrArg some (by kernel_rfl))
  f314 := Tryz.func116.trans (congrArg some (by kernel_rfl))
  t0 := Tryz.underlying0
  a0 := Tryz.isAgg0
  z0 := Tryz.sizeOf0
  v0 := Tryz.zeroValue0
  t3 := Tryz.underlying3
  a3 := Tryz.isAgg3
  z3 := Tryz.sizeOf3
  v3 := Tryz.zeroValue3
  t4 := Tryz.underlying4
  a4 := Tryz.isAgg4
  z4 := Tryz.sizeOf4
  v4 := Tryz.zeroValue4
  t5 := Tryz.underlying5
  a5 := Tryz.isAgg5
  z5 := Tryz.sizeOf5
  v5 := Tryz.zeroValue5
  t9 := Tryz.underlying9
  a9 := Tryz.isAgg9
  z9 := Tryz.sizeOf9
  v9 := Tryz.zeroValue9
  t21 := Tryz.underlying21
  a21 := Tryz.isAgg21
  z21 := Tryz.sizeOf21
  v21 := Tryz.zeroValue21
  t31 := Tryz.underlying92
  a31 := Tryz.isAgg92
  z31 := Tryz.sizeOf92
  v31 := Tryz.zeroValue92
  t46 := Tryz.underlying84
  a46 := Tryz.isAgg84
  z46 := Tryz.sizeOf84
  v46 := Tryz.zeroValue84
  t51 := Tryz.underlying148
  a51 := Tryz.isAgg148
  z51 := Tryz.sizeOf148
  v51 := Tryz.zeroValue148
  t105 := Tryz.underlying143
  a105 := Tryz.isAgg143
  z105 := Tryz.sizeOf143
  v105 := Tryz.zeroValue143
  t119 := Tryz.underlying168
  a119 := Tryz.isAgg168
  z119 := Tryz.sizeOf168
  t138 := Tryz.underlying170
  a138 := Tryz.isAgg170
  z138 := Tryz.sizeOf170
  v138 := Tryz.zeroValue170
  t139 := Tryz.underlying171
  a139 := Tryz.isAgg171
  z139 := Tryz.sizeOf171
  v139 := Tryz.zeroValue171
  t146 := Tryz.underlying172
  a146 := Tryz.isAgg172
  z146 := Tryz.sizeOf172
  v146 := Tryz.zeroValue172
  g1 := by kernel_rfl
  g3 := by kernel_rfl
  g4 := by kernel_rfl }
open Go.RowKit Go.Lib in
theorem Tryz.strings_Split (s sep : ByteArray) (m : Int) (w : World) (hs : s.size < 4294967281) (hm : w.cell? ⟨1, 0, none⟩ = some (.int .i64 m)) (h1 : 1 ≤ sep.size) :
    Calls Tryz.prog 44 #[.string s, .string sep] w fun e w' =>
      e = .returned (.slice (some ⟨w.heap.size, 0, none⟩) (Lib.countB s sep + 1) (Lib.countB s sep + 1)) ∧ w' = w.alloc (.cells ((Lib.splitB sep 0 (Lib.countB s sep) s).map Value.string).toArray 9) := Any.strings_Split Tryz.lays146 (by kernel_rfl) s sep m w hs hm h1
def Tryz.lays153_ren : Go.Shelf.Ren := ⟨fun | 153 => 76 | 152 => 97 | 226 => 98 | 227 => 91 | 228 => 99 | 137 => 112 | 119 => 113 | 224 => 105 | 225 => 104 | 217 => 103 | 266 => 115 | n => n, fun | 9 => 9 | 3 => 3 | 4 => 4 | 5 => 5 | 21 => 21 | 117 => 154 | 116 => 153 | 0 => 0 | 46 => 84 | 124 => 157 | n => n, fun | n => n⟩
theorem Tryz.lays153 : Go.Proofs.Lays.n153 Tryz.prog Tryz.lays153_ren := {
  mixed := by kernel_rfl
  f119 := Tryz.func113.trans (congrArg some (by kernel_rfl))
  f137 := Tryz.func112.trans (congrArg some (by kernel_rfl))
  f152 := Tryz.func97.trans (congrArg some (by kernel_rfl))
  f153 := Tryz.func76.trans (congrArg some (by kernel_rfl))
  f217 := Tryz.func103.trans (congrArg some (by kernel_rfl))
  f224 := Tryz.func105.trans (congrArg some (by kernel_rfl))
  f225 := Tryz.func104.trans (congrArg some (by kernel_rfl))
  f226 := Tryz.func98.trans (congrArg some (by kernel_rfl))
  f227 := Tryz.func91.trans (congrArg some (by kernel_rfl))
  f228 := Tryz.func99.trans (congrArg some (by kernel_rfl))
  f266 := Tryz.func115.trans (congrArg some (by kernel_rfl))
  t0 := Tryz.underlying0
  a0 := Tryz.isAgg0
  z0 := Tryz.sizeOf0
  v0 := Tryz.zeroValue0
  t3 := Tryz.underlying3
  a3 := Tryz.isAgg3
  z3 := Tryz.sizeOf3
  v3 := Tryz.zeroValue3
  t4 := Tryz.underlying4
  a4 := Tryz.isAgg4
  z4 := Tryz.sizeOf4
  v4 := Tryz.zeroValue4
  t5 := Tryz.underlying5
  a5 := Tryz.isAgg5
  z5 := Tryz.sizeOf5
  v5 := Tryz.zeroValue5
  t9 := Tryz.underlying9
  a9 := Tryz.isAgg9
  z9 := Tryz.sizeOf9
  v9 := Tryz.zeroValue9
  t21 := Tryz.underlying21
  a21 := Tryz.isAgg21
  z21 := Tryz.sizeOf21
  v21 := Tryz.zeroValue21
  t46 := Tryz.underlying84
  a46 := Tryz.isAgg84
  z46 := Tryz.sizeOf84
  v46 := Tryz.zeroValue84
  t116 := Tryz.underlying153
  a116 := Tryz.isAgg153
  z116 := Tryz.sizeOf153
  t117 := Tryz.underlying154
  a117 := Tryz.isAgg154
  z117 := Tryz.sizeOf154
  v117 := Tryz.zeroValue154
  t124 := Tryz.underlying157
  a124 := Tryz.isAgg157
  z124 := Tryz.sizeOf157
  v124 := Tryz.zeroValue157 }
open Go.RowKit Go.Lib in
theorem Tryz.strings_IndexAny_laid (s chars : ByteArray) (w : World) (hs : s.size < 4294967281) (hcs : chars.size < 4294967281) (has : ∀ (j : Nat) b, s.data.toList[j]? = some b → b.toNat < 128) (hac : ∀ (j : Nat) b, chars.data.toList[j]? = some b → b.toNat < 128) :
    Calls Tryz.prog 76 #[.string s, .string chars] w fun e w' => e = .returned (.int .i64 (Lib.indexAny s.data.toList chars.data.toList)) ∧ Below w.heap.size w w' := Any.strings_IndexAny_laid Tryz.lays153 (by kernel_rfl) s chars w hs hcs has hac
def Tryz.laysSlN45_f33_ren : Go.Shelf.Ren := ⟨fun | 45 => 33 | n => n, fun | 22 => 23 | 23 => 2 | 3 => 3 | 4 => 4 | 0 => 0 | n => n, fun | n => n⟩
theorem Tryz.laysSlN45_f33 : Go.Proofs.SlLaysN.n45 Tryz.prog Tryz.laysSlN45_f33_ren := {
  mixed := by kernel_rfl
  f45 := ⟨Tryz.f33.name, by decide, Tryz.func33.trans (congrArg some (by kernel_rfl))⟩
  t0 := Tryz.underlying0
  a0 := Tryz.isAgg0
  z0 := Tryz.sizeOf0
  v0 := Tryz.zeroValue0
  t3 := Tryz.underlying3
  a3 := Tryz.isAgg3
  z3 := Tryz.sizeOf3
  v3 := Tryz.zeroValue3
  t4 := Tryz.underlying4
  a4 := Tryz.isAgg4
  z4 := Tryz.sizeOf4
  v4 := Tryz.zeroValue4
  t22 := Tryz.underlying23
  a22 := Tryz.isAgg23
  z22 := Tryz.sizeOf23
  v22 := Tryz.zeroValue23
  t23 := Tryz.underlying2
  a23 := Tryz.isAgg2
  z23 := Tryz.sizeOf2
  v23 := Tryz.zeroValue2
  i23 := by kernel_rfl }
open Go.RowKit Go.Lib Go.Sort in
theorem Tryz.slices_Delete_int (blk off cap i j : Nat) (zs : List Int) (w : World) (hH : Holds (Value.int .i64) w blk off zs.toArray) (hcap : zs.length ≤ cap) (hm : cap ≤ 9223372036854775807) (hij : i ≤ j) (hj : j ≤ zs.length) :
    Calls Tryz.prog 33 #[.slice (some ⟨blk, off, none⟩) zs.length cap, .int .i64 i, .int .i64 j] w fun e w' => e = .returned (.slice (some ⟨blk, off, none⟩) (zs.length - (j - i)) cap) ∧ ∃ q, w' = putRow (Value.int .i64) (Sort.ahead w q) blk off (zs.take i ++ zs.drop j ++ List.replicate (j - i) 0).toArray := AnyG.slices_Delete_int Tryz.laysSlN45_f33 blk off cap i j zs w hH hcap hm hij hj
end Go.Proofs
