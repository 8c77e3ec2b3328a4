/-
  The contracts of the library at this dump that the walks use, in plain words: laid by the kit's shelf, each one application. No condition.
-/
import Derived.Shelf.Strings.Builder1
import Derived.Shelf.Strings.Trim
import Derived.Shelf.Small.Utf8
import Derived.Shelf.Small.Strs
import Derived.Shelf.Small.Wraps
import Derived.Shelf.Strings.BuilderF
import Derived.Shelf.Strings.BuilderK
import Derived.Shelf.Strconv.Itoa0
import Derived.Shelf.Strconv.Itoa1
import Derived.Shelf.LaysM
import Derived.Shelf.Strconv.Itoa2
import Derived.Shelf.Strconv.Itoa3
import Derived.Shelf.Strconv.Itoa4
import Derived.Shelf.Strconv.ParseIntEmpty
import Derived.Shelf.Strconv.Clone
import Derived.Shelf.Strconv.SyntaxError
import Derived.Shelf.LaysC
import Derived.Shelf.Strconv.ToError
import Derived.Shelf.Strconv.Lower
import Derived.Shelf.Strconv.ParseUint10
import Derived.Shelf.Strconv.ParseUint10Empty
import Derived.Shelf.Strconv.ParseUint10Any
import Derived.Shelf.Strconv.ParseInt10
import Derived.Shelf.Strconv.RangeError
import Derived.Shelf.Strconv.ToErrorRange
import Derived.Shelf.Strconv.ParseUintEmpty
import Derived.Shelf.Strconv.ParseUint10b64
import Derived.Shelf.Strconv.ParseUint10b32
import Derived.Shelf.Strconv.ParseUint10b16
import Derived.Shelf.Strconv.ParseUint10b8
import Derived.Shelf.Strconv.ParseUint10At
import Derived.Shelf.Strconv.ParseInt10At64
import Derived.Shelf.Strconv.ParseInt10At32
import Derived.Shelf.Strconv.ParseInt10At16
import Derived.Shelf.Strconv.ParseInt10At8
import Derived.Shelf.Strconv.ParseInt10All
import Derived.Shelf.Strconv.ParseIntPublic10
import Derived.Shelf.Strconv.ErrVarParseInt
import Derived.Shelf.Strings.Search1
import Derived.Shelf.Strings.Search2
import Derived.Shelf.Strings.Search3
import Derived.Shelf.Strings.Cut
import Derived.Shelf.Strings.Count
import Derived.Shelf.Strings.Shaped
import Derived.Shelf.Strings.Prefix
import Derived.Shelf.Strings.Split
import Derived.Shelf.Strings.SplitShaped
import Derived.Shelf.Strings.Runes
import Derived.Shelf.Strings.IndexAny
import Derived.Shelf.Strings.AsciiSet
import Derived.Shelf.Strings.IndexAnyAll
import Derived.Shelf.Unicode.DecodeSlow
import Derived.Shelf.Strings.BuilderCap
import Derived.Test.YtcobmefgefkdmaaGreatDoorProg
namespace Go.Proofs
open Go.Shelf
def Tryz.lays170_ren : Go.Shelf.Ren := ⟨fun | 170 => 42 | n => n, fun | 70 => 80 | 3 => 3 | 0 => 0 | 72 => 83 | 37 => 81 | 5 => 5 | n => n, fun | n => n⟩
theorem Tryz.lays170 : Go.Proofs.Lays.n170 Tryz.prog Tryz.lays170_ren := {
  mixed := by kernel_rfl
  f170 := Tryz.func42.trans (congrArg some (by kernel_rfl))
  t0 := Tryz.underlying0
  a0 := Tryz.isAgg0
  z0 := Tryz.sizeOf0
  v0 := Tryz.zeroValue0
  t3 := Tryz.underlying3
  a3 := Tryz.isAgg3
  z3 := Tryz.sizeOf3
  v3 := Tryz.zeroValue3
  t37 := Tryz.underlying81
  a37 := Tryz.isAgg81
  z37 := Tryz.sizeOf81
  v37 := Tryz.zeroValue81
  t70 := Tryz.underlying80
  a70 := Tryz.isAgg80
  z70 := Tryz.sizeOf80
  v70 := Tryz.zeroValue80
  t72 := Tryz.underlying83
  a72 := Tryz.isAgg83
  z72 := Tryz.sizeOf83
  v72 := Tryz.zeroValue83 }
open Go.RowKit in
theorem Tryz.Builder_Len (B b : Nat) (bs : List Value) (w : World) (h : Lib.IsBuilder 83 5 B b bs w) :
    Calls Tryz.prog 42 #[.pointer (some ⟨b, 0, none⟩)] w fun e w' => e = .returned (.int .i64 bs.length) ∧ w' = w := Any.Builder_Len Tryz.lays170 B b bs w h
def Tryz.lays169_ren : Go.Shelf.Ren := ⟨fun | 169 => 46 | n => n, fun | 70 => 80 | 9 => 9 | 0 => 0 | 72 => 83 | 37 => 81 | 127 => 106 | 3 => 3 | 5 => 5 | n => n, fun | n => n⟩
theorem Tryz.lays169 : Go.Proofs.Lays.n169 Tryz.prog Tryz.lays169_ren := {
  mixed := by kernel_rfl
  f169 := Tryz.func46.trans (congrArg some (by kernel_rfl))
  t0 := Tryz.underlying0
  a0 := Tryz.isAgg0
  z0 := Tryz.sizeOf0
  v0 := Tryz.zeroValue0
  t3 := Tryz.underlying3
  a3 := Tryz.isAgg3
  z3 := Tryz.sizeOf3
  v3 := Tryz.zeroValue3
  t9 := Tryz.underlying9
  a9 := Tryz.isAgg9
  z9 := Tryz.sizeOf9
  v9 := Tryz.zeroValue9
  t37 := Tryz.underlying81
  a37 := Tryz.isAgg81
  z37 := Tryz.sizeOf81
  v37 := Tryz.zeroValue81
  t70 := Tryz.underlying80
  a70 := Tryz.isAgg80
  z70 := Tryz.sizeOf80
  v70 := Tryz.zeroValue80
  t72 := Tryz.underlying83
  a72 := Tryz.isAgg83
  z72 := Tryz.sizeOf83
  v72 := Tryz.zeroValue83
  t127 := Tryz.underlying106
  a127 := Tryz.isAgg106
  z127 := Tryz.sizeOf106
  v127 := Tryz.zeroValue106 }
theorem Tryz.Builder_Extra_169 : Builder.Extra Tryz.prog Tryz.lays169_ren := {
  sizeBuilder := by kernel_rfl
  liesBuilder := by kernel_rfl
  t5 := Tryz.underlying5
  a5 := Tryz.isAgg5
  z5 := Tryz.sizeOf5
  v5 := Tryz.zeroValue5
  infoByte := by kernel_rfl
  cellsByte := by kernel_rfl
  sizeByte := by kernel_rfl
  neB5 := by decide }
open Go.RowKit in
theorem Tryz.Builder_String_any (B b : Nat) (l : List UInt8) (w : World) (h : Lib.IsBuilder 83 5 B b (Lib.byteCells l) w) (hBw : B ≤ w.heap.size) :
    Calls Tryz.prog 46 #[.pointer (some ⟨b, 0, none⟩)] w fun e w' => e = .returned (.string ⟨l.toArray⟩) ∧ Below B w w' := Any.Builder_String_any Tryz.lays169 Tryz.Builder_Extra_169 B b l w h hBw
def Tryz.lays160_ren : Go.Shelf.Ren := ⟨fun | 160 => 63 | 232 => 81 | 231 => 80 | 227 => 82 | 234 => 84 | 233 => 83 | 236 => 86 | 235 => 85 | 228 => 90 | 271 => 101 | 151 => 100 | 197 => 72 | 120 => 108 | 152 => 88 | 260 => 93 | 137 => 103 | 119 => 104 | 224 => 96 | 225 => 95 | 217 => 94 | 266 => 106 | n => n, fun | 9 => 9 | 4 => 4 | 3 => 3 | 5 => 5 | 117 => 140 | 116 => 139 | 0 => 0 | 124 => 143 | 21 => 21 | 105 => 128 | 46 => 135 | 119 => 154 | 139 => 157 | 138 => 156 | n => n, fun | 3 => 2 | 4 => 3 | n => n⟩
theorem Tryz.lays160 : Go.Proofs.Lays.n160 Tryz.prog Tryz.lays160_ren := {
  mixed := by kernel_rfl
  f119 := Tryz.func104.trans (congrArg some (by kernel_rfl))
  f120 := Tryz.func108.trans (congrArg some (by kernel_rfl))
  f137 := Tryz.func103.trans (congrArg some (by kernel_rfl))
  f151 := Tryz.func100.trans (congrArg some (by kernel_rfl))
  f152 := Tryz.func88.trans (congrArg some (by kernel_rfl))
  f160 := Tryz.func63.trans (congrArg some (by kernel_rfl))
  f197 := Tryz.func72.trans (congrArg some (by kernel_rfl))
  f217 := Tryz.func94.trans (congrArg some (by kernel_rfl))
  f224 := Tryz.func96.trans (congrArg some (by kernel_rfl))
  f225 := Tryz.func95.trans (congrArg some (by kernel_rfl))
  f227 := Tryz.func82.trans (congrArg some (by kernel_rfl))
  f228 := Tryz.func90.trans (congrArg some (by kernel_rfl))
  f231 := Tryz.func80.trans (congrArg some (by kernel_rfl))
  f232 := Tryz.func81.trans (congrArg some (by kernel_rfl))
  f233 := Tryz.func83.trans (congrArg some (by kernel_rfl))
  f234 := Tryz.func84.trans (congrArg some (by kernel_rfl))
  f235 := Tryz.func85.trans (congrArg some (by kernel_rfl))
  f236 := Tryz.func86.trans (congrArg some (by kernel_rfl))
  f260 := Tryz.func93.trans (congrArg some (by kernel_rfl))
  f266 := Tryz.func106.trans (congrArg some (by kernel_rfl))
  f271 := Tryz.func101.trans (congrArg some (by kernel_rfl))
  t0 := Tryz.underlying0
  a0 := Tryz.isAgg0
  z0 := Tryz.sizeOf0
  v0 := Tryz.zeroValue0
  t3 := Tryz.underlying3
  a3 := Tryz.isAgg3
  z3 := Tryz.sizeOf3
  v3 := Tryz.zeroValue3
  t4 := Tryz.underlying4
  a4 := Tryz.isAgg4
  z4 := Tryz.sizeOf4
  v4 := Tryz.zeroValue4
  t5 := Tryz.underlying5
  a5 := Tryz.isAgg5
  z5 := Tryz.sizeOf5
  v5 := Tryz.zeroValue5
  t9 := Tryz.underlying9
  a9 := Tryz.isAgg9
  z9 := Tryz.sizeOf9
  v9 := Tryz.zeroValue9
  t21 := Tryz.underlying21
  a21 := Tryz.isAgg21
  z21 := Tryz.sizeOf21
  v21 := Tryz.zeroValue21
  t46 := Tryz.underlying135
  a46 := Tryz.isAgg135
  z46 := Tryz.sizeOf135
  v46 := Tryz.zeroValue135
  t105 := Tryz.underlying128
  a105 := Tryz.isAgg128
  z105 := Tryz.sizeOf128
  v105 := Tryz.zeroValue128
  t116 := Tryz.underlying139
  a116 := Tryz.isAgg139
  z116 := Tryz.sizeOf139
  t117 := Tryz.underlying140
  a117 := Tryz.isAgg140
  z117 := Tryz.sizeOf140
  v117 := Tryz.zeroValue140
  t119 := Tryz.underlying154
  a119 := Tryz.isAgg154
  z119 := Tryz.sizeOf154
  t124 := Tryz.underlying143
  a124 := Tryz.isAgg143
  z124 := Tryz.sizeOf143
  v124 := Tryz.zeroValue143
  t138 := Tryz.underlying156
  a138 := Tryz.isAgg156
  z138 := Tryz.sizeOf156
  v138 := Tryz.zeroValue156
  t139 := Tryz.underlying157
  a139 := Tryz.isAgg157
  z139 := Tryz.sizeOf157
  v139 := Tryz.zeroValue157
  g3 := by kernel_rfl
  g4 := by kernel_rfl }
def Tryz.lays104_ren : Go.Shelf.Ren := ⟨fun | 104 => 64 | 211 => 87 | 207 => 102 | n => n, fun | 9 => 9 | 4 => 4 | 24 => 119 | 3 => 3 | n => n, fun | n => n⟩
theorem Tryz.lays104 : Go.Proofs.Lays.n104 Tryz.prog Tryz.lays104_ren := {
  mixed := by kernel_rfl
  f104 := Tryz.func64.trans (congrArg some (by kernel_rfl))
  f207 := Tryz.func102.trans (congrArg some (by kernel_rfl))
  f211 := Tryz.func87.trans (congrArg some (by kernel_rfl))
  t3 := Tryz.underlying3
  a3 := Tryz.isAgg3
  z3 := Tryz.sizeOf3
  v3 := Tryz.zeroValue3
  t4 := Tryz.underlying4
  a4 := Tryz.isAgg4
  z4 := Tryz.sizeOf4
  v4 := Tryz.zeroValue4
  t9 := Tryz.underlying9
  a9 := Tryz.isAgg9
  z9 := Tryz.sizeOf9
  v9 := Tryz.zeroValue9
  t24 := Tryz.underlying119
  a24 := Tryz.isAgg119
  z24 := Tryz.sizeOf119
  v24 := Tryz.zeroValue119 }
open Go.RowKit in
theorem Tryz.strings_CutSuffix (s p : ByteArray) (w : World) (hs : s.size ≤ 9223372036854775807) :
    Calls Tryz.prog 64 #[.string s, .string p] w fun e w' => e = .returned (.tuple #[.string ⟨(Lib.trimSuffix s.data.toList p.data.toList).toArray⟩, .bool (Lib.hasSuffix s.data.toList p.data.toList)]) ∧ w' = w := Any.strings_CutSuffix Tryz.lays104 s p w hs
def Tryz.laysM173_ren : Go.Shelf.Ren := ⟨fun | 173 => 44 | 246 => 49 | 283 => 58 | 284 => 59 | 285 => 60 | 286 => 61 | 129 => 76 | 317 => 75 | 318 => 77 | 319 => 78 | 320 => 79 | 337 => 98 | 338 => 99 | n => n, fun | 2 => 2 | 3 => 3 | 9 => 9 | 4 => 4 | 171 => 112 | 0 => 0 | 53 => 113 | 37 => 81 | 5 => 5 | 173 => 116 | 212 => 132 | 51 => 133 | 20 => 20 | 213 => 134 | 46 => 135 | 232 => 160 | 233 => 161 | n => n, fun | 17 => 0 | 18 => 4 | 19 => 5 | n => n⟩
theorem Tryz.laysM173 : Go.Proofs.LaysM.n173 Tryz.prog Tryz.laysM173_ren := {
  mixed := by kernel_rfl
  f129 := Tryz.func76.trans (congrArg some (by kernel_rfl))
  f173 := Tryz.func44.trans (congrArg some (by kernel_rfl))
  f246 := Tryz.func49.trans (congrArg some (by kernel_rfl))
  f283 := Tryz.func58.trans (congrArg some (by kernel_rfl))
  f284 := Tryz.func59.trans (congrArg some (by kernel_rfl))
  f285 := Tryz.func60.trans (congrArg some (by kernel_rfl))
  f286 := Tryz.func61.trans (congrArg some (by kernel_rfl))
  f317 := Tryz.func75.trans (congrArg some (by kernel_rfl))
  f318 := Tryz.func77.trans (congrArg some (by kernel_rfl))
  f319 := Tryz.func78.trans (congrArg some (by kernel_rfl))
  f320 := Tryz.func79.trans (congrArg some (by kernel_rfl))
  f337 := Tryz.func98.trans (congrArg some (by kernel_rfl))
  f338 := Tryz.func99.trans (congrArg some (by kernel_rfl))
  t0 := Tryz.underlying0
  a0 := Tryz.isAgg0
  z0 := Tryz.sizeOf0
  v0 := Tryz.zeroValue0
  t2 := Tryz.underlying2
  a2 := Tryz.isAgg2
  z2 := Tryz.sizeOf2
  v2 := Tryz.zeroValue2
  t3 := Tryz.underlying3
  a3 := Tryz.isAgg3
  z3 := Tryz.sizeOf3
  v3 := Tryz.zeroValue3
  t4 := Tryz.underlying4
  a4 := Tryz.isAgg4
  z4 := Tryz.sizeOf4
  v4 := Tryz.zeroValue4
  t5 := Tryz.underlying5
  a5 := Tryz.isAgg5
  z5 := Tryz.sizeOf5
  v5 := Tryz.zeroValue5
  t9 := Tryz.underlying9
  a9 := Tryz.isAgg9
  z9 := Tryz.sizeOf9
  v9 := Tryz.zeroValue9
  t20 := Tryz.underlying20
  a20 := Tryz.isAgg20
  z20 := Tryz.sizeOf20
  v20 := Tryz.zeroValue20
  t37 := Tryz.underlying81
  a37 := Tryz.isAgg81
  z37 := Tryz.sizeOf81
  v37 := Tryz.zeroValue81
  t46 := Tryz.underlying135
  a46 := Tryz.isAgg135
  z46 := Tryz.sizeOf135
  v46 := Tryz.zeroValue135
  t51 := Tryz.underlying133
  a51 := Tryz.isAgg133
  z51 := Tryz.sizeOf133
  v51 := Tryz.zeroValue133
  t53 := Tryz.underlying113
  a53 := Tryz.isAgg113
  z53 := Tryz.sizeOf113
  v53 := Tryz.zeroValue113
  t171 := Tryz.underlying112
  a171 := Tryz.isAgg112
  z171 := Tryz.sizeOf112
  v171 := Tryz.zeroValue112
  t173 := Tryz.underlying116
  a173 := Tryz.isAgg116
  z173 := Tryz.sizeOf116
  v173 := Tryz.zeroValue116
  t212 := Tryz.underlying132
  a212 := Tryz.isAgg132
  z212 := Tryz.sizeOf132
  v212 := Tryz.zeroValue132
  t213 := Tryz.underlying134
  a213 := Tryz.isAgg134
  z213 := Tryz.sizeOf134
  t232 := Tryz.underlying160
  a232 := Tryz.isAgg160
  z232 := Tryz.sizeOf160
  v232 := Tryz.zeroValue160
  t233 := Tryz.underlying161
  a233 := Tryz.isAgg161
  z233 := Tryz.sizeOf161
  v233 := Tryz.zeroValue161
  g17 := by kernel_rfl
  g18 := by kernel_rfl
  g19 := by kernel_rfl
  i0 := by kernel_rfl
  i2 := by kernel_rfl
  i3 := by kernel_rfl
  i4 := by kernel_rfl
  i5 := by kernel_rfl
  i9 := by kernel_rfl
  i20 := by kernel_rfl
  i37 := by kernel_rfl
  i46 := by kernel_rfl
  i51 := by kernel_rfl
  i53 := by kernel_rfl
  i171 := by kernel_rfl
  i173 := by kernel_rfl
  i212 := by kernel_rfl
  i232 := by kernel_rfl
  i233 := by kernel_rfl
  m17 := by kernel_rfl
  m18 := by kernel_rfl
  m19 := by kernel_rfl }
open Go.RowKit Go.Sort Go.Lib in
theorem Tryz.strconv_FormatInt_10 (n : Int) (h0 : -9223372036854775808 ≤ n) (h1 : n ≤ 9223372036854775807) (w : World) (htab : Lib.TabIs Tryz.prog w "internal/strconv.uint64pow10" .u64 Lib.pow10Tab) :
    Calls Tryz.prog 44 #[.int .i64 n, .int .i64 10] w fun e w' => e = .returned (.string ⟨(Lib.itoa n).toArray⟩) ∧ ∃ k os, w' = grow (w.drewN k) os := Any.strconv_FormatInt_10 Tryz.laysM173 n h0 h1 w htab
def Tryz.laysC174_ren : Go.Shelf.Ren := ⟨fun | 174 => 105 | 247 => 109 | 245 => 110 | 287 => 111 | 279 => 112 | 280 => 113 | 281 => 114 | 282 => 115 | 321 => 116 | 322 => 117 | 316 => 118 | 171 => 120 | 205 => 119 | 243 => 121 | 246 => 49 | 283 => 58 | 284 => 59 | 285 => 60 | 286 => 61 | 129 => 76 | 317 => 75 | 318 => 77 | 319 => 78 | 320 => 79 | 337 => 98 | 338 => 99 | n => n, fun | 9 => 9 | 3 => 3 | 2 => 2 | 75 => 88 | 85 => 152 | 4 => 4 | 167 => 163 | 5 => 5 | 53 => 113 | 175 => 164 | 46 => 135 | 168 => 166 | 37 => 81 | 0 => 0 | 210 => 172 | 21 => 21 | 127 => 106 | 145 => 176 | 143 => 174 | 171 => 112 | 173 => 116 | 212 => 132 | 51 => 133 | 20 => 20 | 213 => 134 | 232 => 160 | 233 => 161 | 80 => 94 | n => n, fun | 15 => 6 | 16 => 7 | 17 => 0 | 18 => 4 | 19 => 5 | n => n⟩
theorem Tryz.laysC174 : Go.Proofs.LaysC.n174 Tryz.prog Tryz.laysC174_ren := {
  mixed := by kernel_rfl
  f129 := Tryz.func76.trans (congrArg some (by kernel_rfl))
  f171 := Tryz.func120.trans (congrArg some (by kernel_rfl))
  f174 := Tryz.func105.trans (congrArg some (by kernel_rfl))
  f205 := Tryz.func119.trans (congrArg some (by kernel_rfl))
  f243 := Tryz.func121.trans (congrArg some (by kernel_rfl))
  f245 := Tryz.func110.trans (congrArg some (by kernel_rfl))
  f246 := Tryz.func49.trans (congrArg some (by kernel_rfl))
  f247 := Tryz.func109.trans (congrArg some (by kernel_rfl))
  f279 := Tryz.func112.trans (congrArg some (by kernel_rfl))
  f280 := Tryz.func113.trans (congrArg some (by kernel_rfl))
  f281 := Tryz.func114.trans (congrArg some (by kernel_rfl))
  f282 := Tryz.func115.trans (congrArg some (by kernel_rfl))
  f283 := Tryz.func58.trans (congrArg some (by kernel_rfl))
  f284 := Tryz.func59.trans (congrArg some (by kernel_rfl))
  f285 := Tryz.func60.trans (congrArg some (by kernel_rfl))
  f286 := Tryz.func61.trans (congrArg some (by kernel_rfl))
  f287 := Tryz.func111.trans (congrArg some (by kernel_rfl))
  f316 := Tryz.func118.trans (congrArg some (by kernel_rfl))
  f317 := Tryz.func75.trans (congrArg some (by kernel_rfl))
  f318 := Tryz.func77.trans (congrArg some (by kernel_rfl))
  f319 := Tryz.func78.trans (congrArg some (by kernel_rfl))
  f320 := Tryz.func79.trans (congrArg some (by kernel_rfl))
  f321 := Tryz.func116.trans (congrArg some (by kernel_rfl))
  f322 := Tryz.func117.trans (congrArg some (by kernel_rfl))
  f337 := Tryz.func98.trans (congrArg some (by kernel_rfl))
  f338 := Tryz.func99.trans (congrArg some (by kernel_rfl))
  t0 := Tryz.underlying0
  a0 := Tryz.isAgg0
  z0 := Tryz.sizeOf0
  v0 := Tryz.zeroValue0
  t2 := Tryz.underlying2
  a2 := Tryz.isAgg2
  z2 := Tryz.sizeOf2
  v2 := Tryz.zeroValue2
  t3 := Tryz.underlying3
  a3 := Tryz.isAgg3
  z3 := Tryz.sizeOf3
  v3 := Tryz.zeroValue3
  t4 := Tryz.underlying4
  a4 := Tryz.isAgg4
  z4 := Tryz.sizeOf4
  v4 := Tryz.zeroValue4
  t5 := Tryz.underlying5
  a5 := Tryz.isAgg5
  z5 := Tryz.sizeOf5
  v5 := Tryz.zeroValue5
  t9 := Tryz.underlying9
  a9 := Tryz.isAgg9
  z9 := Tryz.sizeOf9
  v9 := Tryz.zeroValue9
  t20 := Tryz.underlying20
  a20 := Tryz.isAgg20
  z20 := Tryz.sizeOf20
  v20 := Tryz.zeroValue20
  t21 := Tryz.underlying21
  a21 := Tryz.isAgg21
  z21 := Tryz.sizeOf21
  v21 := Tryz.zeroValue21
  t37 := Tryz.underlying81
  a37 := Tryz.isAgg81
  z37 := Tryz.sizeOf81
  v37 := Tryz.zeroValue81
  t46 := Tryz.underlying135
  a46 := Tryz.isAgg135
  z46 := Tryz.sizeOf135
  v46 := Tryz.zeroValue135
  t51 := Tryz.underlying133
  a51 := Tryz.isAgg133
  z51 := Tryz.sizeOf133
  v51 := Tryz.zeroValue133
  t53 := Tryz.underlying113
  a53 := Tryz.isAgg113
  z53 := Tryz.sizeOf113
  v53 := Tryz.zeroValue113
  t75 := Tryz.underlying88
  a75 := Tryz.isAgg88
  z75 := Tryz.sizeOf88
  v75 := Tryz.zeroValue88
  t85 := Tryz.underlying152
  a85 := Tryz.isAgg152
  z85 := Tryz.sizeOf152
  v85 := Tryz.zeroValue152
  t127 := Tryz.underlying106
  a127 := Tryz.isAgg106
  z127 := Tryz.sizeOf106
  v127 := Tryz.zeroValue106
  t143 := Tryz.underlying174
  a143 := Tryz.isAgg174
  z143 := Tryz.sizeOf174
  v143 := Tryz.zeroValue174
  t145 := Tryz.underlying176
  a145 := Tryz.isAgg176
  z145 := Tryz.sizeOf176
  v145 := Tryz.zeroValue176
  t167 := Tryz.underlying163
  a167 := Tryz.isAgg163
  z167 := Tryz.sizeOf163
  v167 := Tryz.zeroValue163
  t168 := Tryz.underlying166
  a168 := Tryz.isAgg166
  z168 := Tryz.sizeOf166
  v168 := Tryz.zeroValue166
  t171 := Tryz.underlying112
  a171 := Tryz.isAgg112
  z171 := Tryz.sizeOf112
  v171 := Tryz.zeroValue112
  t173 := Tryz.underlying116
  a173 := Tryz.isAgg116
  z173 := Tryz.sizeOf116
  v173 := Tryz.zeroValue116
  t175 := Tryz.underlying164
  a175 := Tryz.isAgg164
  z175 := Tryz.sizeOf164
  v175 := Tryz.zeroValue164
  t210 := Tryz.underlying172
  a210 := Tryz.isAgg172
  z210 := Tryz.sizeOf172
  v210 := Tryz.zeroValue172
  t212 := Tryz.underlying132
  a212 := Tryz.isAgg132
  z212 := Tryz.sizeOf132
  v212 := Tryz.zeroValue132
  t213 := Tryz.underlying134
  a213 := Tryz.isAgg134
  z213 := Tryz.sizeOf134
  t232 := Tryz.underlying160
  a232 := Tryz.isAgg160
  z232 := Tryz.sizeOf160
  v232 := Tryz.zeroValue160
  t233 := Tryz.underlying161
  a233 := Tryz.isAgg161
  z233 := Tryz.sizeOf161
  v233 := Tryz.zeroValue161
  g15 := by kernel_rfl
  g16 := by kernel_rfl
  g17 := by kernel_rfl
  g18 := by kernel_rfl
  g19 := by kernel_rfl
  t80 := Tryz.underlying94
  a80 := Tryz.isAgg94
  z80 := Tryz.sizeOf94
  v80 := Tryz.zeroValue94
  i0 := by kernel_rfl
  i2 := by kernel_rfl
  i3 := by kernel_rfl
  i4 := by kernel_rfl
  i5 := by kernel_rfl
  i9 := by kernel_rfl
  i20 := by kernel_rfl
  i21 := by kernel_rfl
  i37 := by kernel_rfl
  i46 := by kernel_rfl
  i51 := by kernel_rfl
  i53 := by kernel_rfl
  i75 := by kernel_rfl
  i80 := by kernel_rfl
  i85 := by kernel_rfl
  i127 := by kernel_rfl
  i143 := by kernel_rfl
  i145 := by kernel_rfl
  i167 := by kernel_rfl
  i168 := by kernel_rfl
  i171 := by kernel_rfl
  i173 := by kernel_rfl
  i175 := by kernel_rfl
  i210 := by kernel_rfl
  i212 := by kernel_rfl
  i232 := by kernel_rfl
  i233 := by kernel_rfl
  m15 := by kernel_rfl
  m16 := by kernel_rfl
  m17 := by kernel_rfl
  m18 := by kernel_rfl
  m19 := by kernel_rfl
  c0 := by kernel_rfl
  c2 := by kernel_rfl
  c3 := by kernel_rfl
  c4 := by kernel_rfl
  c5 := by kernel_rfl
  c9 := by kernel_rfl
  c20 := by kernel_rfl
  c21 := by kernel_rfl
  c37 := by kernel_rfl
  c46 := by kernel_rfl
  c51 := by kernel_rfl
  c53 := by kernel_rfl
  c75 := by kernel_rfl
  c80 := by kernel_rfl
  c85 := by kernel_rfl
  c127 := by kernel_rfl
  c143 := by kernel_rfl
  c145 := by kernel_rfl
  c167 := by kernel_rfl
  c168 := by kernel_rfl
  c171 := by kernel_rfl
  c173 := by kernel_rfl
  c175 := by kernel_rfl
  c210 := by kernel_rfl
  c212 := by kernel_rfl
  c213 := by kernel_rfl
  c232 := by kernel_rfl
  c233 := by kernel_rfl }
open Go.RowKit in
theorem Tryz.strconv_ParseInt_10_at64_ok (s : ByteArray) (hmax : s.size ≤ 9223372036854775806) (v : Int) (h : Lib.parseIntB 64 s.data.toList = .ok v) (w : World) :
    Calls Tryz.prog 105 #[.string s, .int .i64 10, .int .i64 64] w fun e w' => e = .returned (.tuple #[.int .i64 v, .nilIface]) ∧ (w' = w ∨ ∃ t, w' = Lib.bytesWorld w 5 t) := Any.strconv_ParseInt_10_at64_ok Tryz.laysC174 s hmax v h w
open Go.RowKit in
theorem Tryz.strconv_ParseInt_10_at64_range_var (s : ByteArray) (hlim : s.size ≤ 281474976710656) (h : Lib.parseIntB 64 s.data.toList = .range) (tp : TypeId) (p : Value) (w : World) (hvar : w.var? Tryz.prog "strconv.ErrRange" = some #[.iface tp p]) :
    Calls Tryz.prog 105 #[.string s, .int .i64 10, .int .i64 64] w fun e w' => ∃ N, e = .returned (.tuple #[.int .i64 (Lib.intSat 64 s.data.toList), .iface 166 (.pointer (some ⟨N, 0, none⟩))]) ∧ w.heap.size ≤ N ∧ w'.heap[N]? = some (.cells #[.string ⟨#[80, 97, 114, 115, 101, 73, 110, 116]⟩, .string s, .iface tp p] 172 (0, 0)) ∧ Below w.heap.size w w' := Any.strconv_ParseInt_10_at64_range_var Tryz.laysC174 s hlim h tp p w hvar
def Tryz.lays145_ren : Go.Shelf.Ren := ⟨fun | 145 => 51 | 220 => 62 | 219 => 74 | 217 => 94 | 225 => 95 | 224 => 96 | 267 => 97 | 266 => 106 | 314 => 107 | n => n, fun | 9 => 9 | 4 => 4 | 59 => 103 | 3 => 3 | 5 => 5 | 46 => 135 | 146 => 158 | 51 => 133 | n => n, fun | 1 => 1 | n => n⟩
theorem Tryz.lays145 : Go.Proofs.Lays.n145 Tryz.prog Tryz.lays145_ren := {
  mixed := by kernel_rfl
  f145 := Tryz.func51.trans (congrArg some (by kernel_rfl))
  f217 := Tryz.func94.trans (congrArg some (by kernel_rfl))
  f219 := Tryz.func74.trans (congrArg some (by kernel_rfl))
  f220 := Tryz.func62.trans (congrArg some (by kernel_rfl))
  f224 := Tryz.func96.trans (congrArg some (by kernel_rfl))
  f225 := Tryz.func95.trans (congrArg some (by kernel_rfl))
  f266 := Tryz.func106.trans (congrArg some (by kernel_rfl))
  f267 := Tryz.func97.trans (congrArg some (by kernel_rfl))
  f314 := Tryz.func107.trans (congrArg some (by kernel_rfl))
  t3 := Tryz.underlying3
  a3 := Tryz.isAgg3
  z3 := Tryz.sizeOf3
  v3 := Tryz.zeroValue3
  t4 := Tryz.underlying4
  a4 := Tryz.isAgg4
  z4 := Tryz.sizeOf4
  v4 := Tryz.zeroValue4
  t5 := Tryz.underlying5
  a5 := Tryz.isAgg5
  z5 := Tryz.sizeOf5
  v5 := Tryz.zeroValue5
  t9 := Tryz.underlying9
  a9 := Tryz.isAgg9
  z9 := Tryz.sizeOf9
  v9 := Tryz.zeroValue9
  t46 := Tryz.underlying135
  a46 := Tryz.isAgg135
  z46 := Tryz.sizeOf135
  v46 := Tryz.zeroValue135
  t51 := Tryz.underlying133
  a51 := Tryz.isAgg133
  z51 := Tryz.sizeOf133
  v51 := Tryz.zeroValue133
  t59 := Tryz.underlying103
  a59 := Tryz.isAgg103
  z59 := Tryz.sizeOf103
  v59 := Tryz.zeroValue103
  t146 := Tryz.underlying158
  a146 := Tryz.isAgg158
  z146 := Tryz.sizeOf158
  v146 := Tryz.zeroValue158
  g1 := by kernel_rfl }
open Go.RowKit Go.Lib in
theorem Tryz.strings_Cut (s sep : ByteArray) (m : Int) (w : World) (hs : s.size < 4294967281) (hm : w.cell? ⟨1, 0, none⟩ = some (.int .i64 m)) :
    Calls Tryz.prog 51 #[.string s, .string sep] w fun e w' => e = .returned (.tuple #[.string ⟨(Lib.cut s.data.toList sep.data.toList).1.toArray⟩, .string ⟨(Lib.cut s.data.toList sep.data.toList).2.1.toArray⟩, .bool (Lib.cut s.data.toList sep.data.toList).2.2]) ∧ ∃ n, w' = w.drewN n := Any.strings_Cut Tryz.lays145 s sep m w hs hm
def Tryz.lays146_ren : Go.Shelf.Ren := ⟨fun | 146 => 41 | 221 => 47 | 268 => 54 | 138 => 55 | 143 => 56 | 195 => 71 | 197 => 72 | 218 => 73 | 219 => 74 | 260 => 93 | 217 => 94 | 225 => 95 | 224 => 96 | 267 => 97 | 266 => 106 | 314 => 107 | n => n, fun | 9 => 9 | 31 => 84 | 3 => 3 | 4 => 4 | 0 => 0 | 105 => 128 | 21 => 21 | 5 => 5 | 46 => 135 | 119 => 154 | 139 => 157 | 138 => 156 | 146 => 158 | 51 => 133 | n => n, fun | 1 => 1 | 3 => 2 | 4 => 3 | n => n⟩
theorem Tryz.lays146 : Go.Proofs.Lays.n146 Tryz.prog Tryz.lays146_ren := {
  mixed := by kernel_rfl
  f138 := Tryz.func55.trans (congrArg some (by kernel_rfl))
  f143 := Tryz.func56.trans (congrArg some (by kernel_rfl))
  f146 := Tryz.func41.trans (congrArg some (by kernel_rfl))
  f195 := Tryz.func71.trans (congrArg some (by kernel_rfl))
  f197 := Tryz.func72.trans (congrArg some (by kernel_rfl))
  f217 := Tryz.func94.trans (congrArg some (by kernel_rfl))
  f218 := Tryz.func73.trans (congrArg some (by kernel_rfl))
  f219 := Tryz.func74.trans (congrArg some (by kernel_rfl))
  f221 := Tryz.func47.trans (congrArg some (by kernel_rfl))
  f224 := Tryz.func96.trans (congrArg some (by kernel_rfl))
  f225 := Tryz.func95.trans (congrArg some (by kernel_rfl))
  f260 := Tryz.func93.trans (congrArg some (by kernel_rfl))
  f266 := Tryz.func106.trans (congrArg some (by kernel_rfl))
  f267 := Tryz.func97.trans (congrArg some (by kernel_rfl))
  f268 := Tryz.func54.trans (congrArg some (by kernel_rfl))
  f314 := Tryz.func107.trans (congrArg some (by kernel_rfl))
  t0 := Tryz.underlying0
  a0 := Tryz.isAgg0
  z0 := Tryz.sizeOf0
  v0 := Tryz.zeroValue0
  t3 := Tryz.underlying3
  a3 := Tryz.isAgg3
  z3 := Tryz.sizeOf3
  v3 := Tryz.zeroValue3
  t4 := Tryz.underlying4
  a4 := Tryz.isAgg4
  z4 := Tryz.sizeOf4
  v4 := Tryz.zeroValue4
  t5 := Tryz.underlying5
  a5 := Tryz.isAgg5
  z5 := Tryz.sizeOf5
  v5 := Tryz.zeroValue5
  t9 := Tryz.underlying9
  a9 := Tryz.isAgg9
  z9 := Tryz.sizeOf9
  v9 := Tryz.zeroValue9
  t21 := Tryz.underlying21
  a21 := Tryz.isAgg21
  z21 := Tryz.sizeOf21
  v21 := Tryz.zeroValue21
  t31 := Tryz.underlying84
  a31 := Tryz.isAgg84
  z31 := Tryz.sizeOf84
  v31 := Tryz.zeroValue84
  t46 := Tryz.underlying135
  a46 := Tryz.isAgg135
  z46 := Tryz.sizeOf135
  v46 := Tryz.zeroValue135
  t51 := Tryz.underlying133
  a51 := Tryz.isAgg133
  z51 := Tryz.sizeOf133
  v51 := Tryz.zeroValue133
  t105 := Tryz.underlying128
  a105 := Tryz.isAgg128
  z105 := Tryz.sizeOf128
  v105 := Tryz.zeroValue128
  t119 := Tryz.underlying154
  a119 := Tryz.isAgg154
  z119 := Tryz.sizeOf154
  t138 := Tryz.underlying156
  a138 := Tryz.isAgg156
  z138 := Tryz.sizeOf156
  v138 := Tryz.zeroValue156
  t139 := Tryz.underlying157
  a139 := Tryz.isAgg157
  z139 := Tryz.sizeOf157
  v139 := Tryz.zeroValue157
  t146 := Tryz.underlying158
  a146 := Tryz.isAgg158
  z146 := Tryz.sizeOf158
  v146 := Tryz.zeroValue158
  g1 := by kernel_rfl
  g3 := by kernel_rfl
  g4 := by kernel_rfl }
open Go.RowKit Go.Lib in
theorem Tryz.strings_Split (s sep : ByteArray) (m : Int) (w : World) (hs : s.size < 4294967281) (hm : w.cell? ⟨1, 0, none⟩ = some (.int .i64 m)) (h1 : 1 ≤ sep.size) :
    Calls Tryz.prog 41 #[.string s, .string sep] w fun e w' =>
      e = .returned (.slice (some ⟨w.heap.size, 0, none⟩) (Lib.countB s sep + 1) (Lib.countB s sep + 1)) ∧ w' = w.alloc (.cells ((Lib.splitB sep 0 (Lib.countB s sep) s).map Value.string).toArray 9) := Any.strings_Split Tryz.lays146 (by kernel_rfl) s sep m w hs hm h1
def Tryz.lays153_ren : Go.Shelf.Ren := ⟨fun | 153 => 67 | 152 => 88 | 226 => 89 | 227 => 82 | 228 => 90 | 137 => 103 | 119 => 104 | 224 => 96 | 225 => 95 | 217 => 94 | 266 => 106 | n => n, fun | 9 => 9 | 3 => 3 | 4 => 4 | 5 => 5 | 21 => 21 | 117 => 140 | 116 => 139 | 0 => 0 | 46 => 135 | 124 => 143 | n => n, fun | n => n⟩
theorem Tryz.lays153 : Go.Proofs.Lays.n153 Tryz.prog Tryz.lays153_ren := {
  mixed := by kernel_rfl
  f119 := Tryz.func104.trans (congrArg some (by kernel_rfl))
  f137 := Tryz.func103.trans (congrArg some (by kernel_rfl))
  f152 := Tryz.func88.trans (congrArg some (by kernel_rfl))
  f153 := Tryz.func67.trans (congrArg some (by kernel_rfl))
  f217 := Tryz.func94.trans (congrArg some (by kernel_rfl))
  f224 := Tryz.func96.trans (congrArg some (by kernel_rfl))
  f225 := Tryz.func95.trans (congrArg some (by kernel_rfl))
  f226 := Tryz.func89.trans (congrArg some (by kernel_rfl))
  f227 := Tryz.func82.trans (congrArg some (by kernel_rfl))
  f228 := Tryz.func90.trans (congrArg some (by kernel_rfl))
  f266 := Tryz.func106.trans (congrArg some (by kernel_rfl))
  t0 := Tryz.underlying0
  a0 := Tryz.isAgg0
  z0 := Tryz.sizeOf0
  v0 := Tryz.zeroValue0
  t3 := Tryz.underlying3
  a3 := Tryz.isAgg3
  z3 := Tryz.sizeOf3
  v3 := Tryz.zeroValue3
  t4 := Tryz.underlying4
  a4 := Tryz.isAgg4
  z4 := Tryz.sizeOf4
  v4 := Tryz.zeroValue4
  t5 := Tryz.underlying5
  a5 := Tryz.isAgg5
  z5 := Tryz.sizeOf5
  v5 := Tryz.zeroValue5
  t9 := Tryz.underlying9
  a9 := Tryz.isAgg9
  z9 := Tryz.sizeOf9
  v9 := Tryz.zeroValue9
  t21 := Tryz.underlying21
  a21 := Tryz.isAgg21
  z21 := Tryz.sizeOf21
  v21 := Tryz.zeroValue21
  t46 := Tryz.underlying135
  a46 := Tryz.isAgg135
  z46 := Tryz.sizeOf135
  v46 := Tryz.zeroValue135
  t116 := Tryz.underlying139
  a116 := Tryz.isAgg139
  z116 := Tryz.sizeOf139
  t117 := Tryz.underlying140
  a117 := Tryz.isAgg140
  z117 := Tryz.sizeOf140
  v117 := Tryz.zeroValue140
  t124 := Tryz.underlying143
  a124 := Tryz.isAgg143
  z124 := Tryz.sizeOf143
  v124 := Tryz.zeroValue143 }
open Go.RowKit Go.Lib in
theorem Tryz.strings_IndexAny_laid (s chars : ByteArray) (w : World) (hs : s.size < 4294967281) (hcs : chars.size < 4294967281) (has : ∀ (j : Nat) b, s.data.toList[j]? = some b → b.toNat < 128) (hac : ∀ (j : Nat) b, chars.data.toList[j]? = some b → b.toNat < 128) :
    Calls Tryz.prog 67 #[.string s, .string chars] w fun e w' => e = .returned (.int .i64 (Lib.indexAny s.data.toList chars.data.toList)) ∧ Below w.heap.size w w' := Any.strings_IndexAny_laid Tryz.lays153 (by kernel_rfl) s chars w hs hcs has hac
end Go.Proofs
