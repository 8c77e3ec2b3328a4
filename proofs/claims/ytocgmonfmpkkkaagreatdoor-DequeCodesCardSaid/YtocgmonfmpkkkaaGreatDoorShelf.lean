/-
  The contracts of the library at this dump that the walks use, in plain words: laid by the kit's shelf, each one application. No condition.
-/
import Derived.Shelf.Strings.Builder1
import Derived.Shelf.Strings.Trim
import Derived.Shelf.Small.Utf8
import Derived.Shelf.Small.Strs
import Derived.Shelf.Small.Wraps
import Derived.Shelf.Strings.BuilderF
import Derived.Shelf.Strings.BuilderK
import Derived.Shelf.Strconv.Itoa0
import Derived.Shelf.Strconv.Itoa1
import Derived.Shelf.LaysM
import Derived.Shelf.Strconv.Itoa2
import Derived.Shelf.Strconv.Itoa3
import Derived.Shelf.Strconv.Itoa4
import Derived.Shelf.Strconv.ParseIntEmpty
import Derived.Shelf.Strconv.Clone
import Derived.Shelf.Strconv.SyntaxError
import Derived.Shelf.LaysC
import Derived.Shelf.Strconv.ToError
import Derived.Shelf.Strconv.Lower
import Derived.Shelf.Strconv.ParseUint10
import Derived.Shelf.Strconv.ParseUint10Empty
import Derived.Shelf.Strconv.ParseUint10Any
import Derived.Shelf.Strconv.ParseInt10
import Derived.Shelf.Strconv.RangeError
import Derived.Shelf.Strconv.ToErrorRange
import Derived.Shelf.Strconv.ParseUintEmpty
import Derived.Shelf.Strconv.ParseUint10b64
import Derived.Shelf.Strconv.ParseUint10b32
import Derived.Shelf.Strconv.ParseUint10b16
import Derived.Shelf.Strconv.ParseUint10b8
import Derived.Shelf.Strconv.ParseUint10At
import Derived.Shelf.Strconv.ParseInt10At64
import Derived.Shelf.Strconv.ParseInt10At32
import Derived.Shelf.Strconv.ParseInt10At16
import Derived.Shelf.Strconv.ParseInt10At8
import Derived.Shelf.Strconv.ParseInt10All
import Derived.Shelf.Strconv.ParseIntPublic10
import Derived.Shelf.Strconv.ErrVarParseInt
import Derived.Shelf.Strings.Search1
import Derived.Shelf.Strings.Search2
import Derived.Shelf.Strings.Search3
import Derived.Shelf.Strings.Cut
import Derived.Shelf.Strings.Count
import Derived.Shelf.Strings.Shaped
import Derived.Shelf.Strings.Prefix
import Derived.Shelf.Strings.Split
import Derived.Shelf.Strings.SplitShaped
import Derived.Shelf.Strings.Runes
import Derived.Shelf.Strings.IndexAny
import Derived.Shelf.Strings.AsciiSet
import Derived.Shelf.Strings.IndexAnyAll
import Derived.Shelf.Unicode.DecodeSlow
import Derived.Shelf.Strings.BuilderCap
import Derived.Ground.SlgnProg
import Derived.Shelf.SlicesG.Reverse
import Derived.Shelf.SlicesG.Delete
import Derived.Shelf.SlicesG.Cells
import Derived.Test.YtocgmonfmpkkkaaGreatDoorProg
namespace Go.Proofs
open Go.Shelf
def Tryz.lays170_ren : Go.Shelf.Ren := ⟨fun | 170 => 39 | n => n, fun | 70 => 75 | 3 => 3 | 0 => 0 | 72 => 78 | 37 => 76 | 5 => 5 | n => n, fun | n => n⟩
theorem Tryz.lays170 : Go.Proofs.Lays.n170 Tryz.prog Tryz.lays170_ren := {
  mixed := by kernel_rfl
  f170 := Tryz.func39.trans (congrArg some (by kernel_rfl))
  t0 := Tryz.underlying0
  a0 := Tryz.isAgg0
  z0 := Tryz.sizeOf0
  v0 := Tryz.zeroValue0
  t3 := Tryz.underlying3
  a3 := Tryz.isAgg3
  z3 := Tryz.sizeOf3
  v3 := Tryz.zeroValue3
  t37 := Tryz.underlying76
  a37 := Tryz.isAgg76
  z37 := Tryz.sizeOf76
  v37 := Tryz.zeroValue76
  t70 := Tryz.underlying75
  a70 := Tryz.isAgg75
  z70 := Tryz.sizeOf75
  v70 := Tryz.zeroValue75
  t72 := Tryz.underlying78
  a72 := Tryz.isAgg78
  z72 := Tryz.sizeOf78
  v72 := Tryz.zeroValue78 }
open Go.RowKit in
theorem Tryz.Builder_Len (B b : Nat) (bs : List Value) (w : World) (h : Lib.IsBuilder 78 5 B b bs w) :
    Calls Tryz.prog 39 #[.pointer (some ⟨b, 0, none⟩)] w fun e w' => e = .returned (.int .i64 bs.length) ∧ w' = w := Any.Builder_Len Tryz.lays170 B b bs w h
def Tryz.lays169_ren : Go.Shelf.Ren := ⟨fun | 169 => 43 | n => n, fun | 70 => 75 | 9 => 9 | 0 => 0 | 72 => 78 | 37 => 76 | 127 => 107 | 3 => 3 | 5 => 5 | n => n, fun | n => n⟩
theorem Tryz.lays169 : Go.Proofs.Lays.n169 Tryz.prog Tryz.lays169_ren := {
  mixed := by kernel_rfl
  f169 := Tryz.func43.trans (congrArg some (by kernel_rfl))
  t0 := Tryz.underlying0
  a0 := Tryz.isAgg0
  z0 := Tryz.sizeOf0
  v0 := Tryz.zeroValue0
  t3 := Tryz.underlying3
  a3 := Tryz.isAgg3
  z3 := Tryz.sizeOf3
  v3 := Tryz.zeroValue3
  t9 := Tryz.underlying9
  a9 := Tryz.isAgg9
  z9 := Tryz.sizeOf9
  v9 := Tryz.zeroValue9
  t37 := Tryz.underlying76
  a37 := Tryz.isAgg76
  z37 := Tryz.sizeOf76
  v37 := Tryz.zeroValue76
  t70 := Tryz.underlying75
  a70 := Tryz.isAgg75
  z70 := Tryz.sizeOf75
  v70 := Tryz.zeroValue75
  t72 := Tryz.underlying78
  a72 := Tryz.isAgg78
  z72 := Tryz.sizeOf78
  v72 := Tryz.zeroValue78
  t127 := Tryz.underlying107
  a127 := Tryz.isAgg107
  z127 := Tryz.sizeOf107
  v127 := Tryz.zeroValue107 }
theorem Tryz.Builder_Extra_169 : Builder.Extra Tryz.prog Tryz.lays169_ren := {
  sizeBuilder := by kernel_rfl
  liesBuilder := by kernel_rfl
  t5 := Tryz.underlying5
  a5 := Tryz.isAgg5
  z5 := Tryz.sizeOf5
  v5 := Tryz.zeroValue5
  infoByte := by kernel_rfl
  cellsByte := by kernel_rfl
  sizeByte := by kernel_rfl
  neB5 := by decide }
open Go.RowKit in
theorem Tryz.Builder_String_any (B b : Nat) (l : List UInt8) (w : World) (h : Lib.IsBuilder 78 5 B b (Lib.byteCells l) w) (hBw : B ≤ w.heap.size) :
    Calls Tryz.prog 43 #[.pointer (some ⟨b, 0, none⟩)] w fun e w' => e = .returned (.string ⟨l.toArray⟩) ∧ Below B w w' := Any.Builder_String_any Tryz.lays169 Tryz.Builder_Extra_169 B b l w h hBw
def Tryz.lays160_ren : Go.Shelf.Ren := ⟨fun | 160 => 64 | 232 => 82 | 231 => 81 | 227 => 83 | 234 => 85 | 233 => 84 | 236 => 87 | 235 => 86 | 228 => 91 | 271 => 102 | 151 => 101 | 197 => 73 | 120 => 109 | 152 => 89 | 260 => 94 | 137 => 104 | 119 => 105 | 224 => 97 | 225 => 96 | 217 => 95 | 266 => 107 | n => n, fun | 9 => 9 | 4 => 4 | 3 => 3 | 5 => 5 | 117 => 143 | 116 => 142 | 0 => 0 | 124 => 146 | 21 => 21 | 105 => 131 | 46 => 138 | 119 => 157 | 139 => 160 | 138 => 159 | n => n, fun | 3 => 2 | 4 => 3 | n => n⟩
theorem Tryz.lays160 : Go.Proofs.Lays.n160 Tryz.prog Tryz.lays160_ren := {
  mixed := by kernel_rfl
  f119 := Tryz.func105.trans (congrArg some (by kernel_rfl))
  f120 := Tryz.func109.trans (congrArg some (by kernel_rfl))
  f137 := Tryz.func104.trans (congrArg some (by kernel_rfl))
  f151 := Tryz.func101.trans (congrArg some (by kernel_rfl))
  f152 := Tryz.func89.trans (congrArg some (by kernel_rfl))
  f160 := Tryz.func64.trans (congrArg some (by kernel_rfl))
  f197 := Tryz.func73.trans (congrArg some (by kernel_rfl))
  f217 := Tryz.func95.trans (congrArg some (by kernel_rfl))
  f224 := Tryz.func97.trans (congrArg some (by kernel_rfl))
  f225 := Tryz.func96.trans (congrArg some (by kernel_rfl))
  f227 := Tryz.func83.trans (congrArg some (by kernel_rfl))
  f228 := Tryz.func91.trans (congrArg some (by kernel_rfl))
  f231 := Tryz.func81.trans (congrArg some (by kernel_rfl))
  f232 := Tryz.func82.trans (congrArg some (by kernel_rfl))
  f233 := Tryz.func84.trans (congrArg some (by kernel_rfl))
  f234 := Tryz.func85.trans (congrArg some (by kernel_rfl))
  f235 := Tryz.func86.trans (congrArg some (by kernel_rfl))
  f236 := Tryz.func87.trans (congrArg some (by kernel_rfl))
  f260 := Tryz.func94.trans (congrArg some (by kernel_rfl))
  f266 := Tryz.func107.trans (congrArg some (by kernel_rfl))
  f271 := Tryz.func102.trans (congrArg some (by kernel_rfl))
  t0 := Tryz.underlying0
  a0 := Tryz.isAgg0
  z0 := Tryz.sizeOf0
  v0 := Tryz.zeroValue0
  t3 := Tryz.underlying3
  a3 := Tryz.isAgg3
  z3 := Tryz.sizeOf3
  v3 := Tryz.zeroValue3
  t4 := Tryz.underlying4
  a4 := Tryz.isAgg4
  z4 := Tryz.sizeOf4
  v4 := Tryz.zeroValue4
  t5 := Tryz.underlying5
  a5 := Tryz.isAgg5
  z5 := Tryz.sizeOf5
  v5 := Tryz.zeroValue5
  t9 := Tryz.underlying9
  a9 := Tryz.isAgg9
  z9 := Tryz.sizeOf9
  v9 := Tryz.zeroValue9
  t21 := Tryz.underlying21
  a21 := Tryz.isAgg21
  z21 := Tryz.sizeOf21
  v21 := Tryz.zeroValue21
  t46 := Tryz.underlying138
  a46 := Tryz.isAgg138
  z46 := Tryz.sizeOf138
  v46 := Tryz.zeroValue138
  t105 := Tryz.underlying131
  a105 := Tryz.isAgg131
  z105 := Tryz.sizeOf131
  v105 := Tryz.zeroValue131
  t116 := Tryz.underlying142
  a116 := Tryz.isAgg142
  z116 := Tryz.sizeOf142
  t117 := Tryz.underlying143
  a117 := Tryz.isAgg143
  z117 := Tryz.sizeOf143
  v117 := Tryz.zeroValue143
  t119 := Tryz.underlying157
  a119 := Tryz.isAgg157
  z119 := Tryz.sizeOf157
  t124 := Tryz.underlying146
  a124 := Tryz.isAgg146
  z124 := Tryz.sizeOf146
  v124 := Tryz.zeroValue146
  t138 := Tryz.underlying159
  a138 := Tryz.isAgg159
  z138 := Tryz.sizeOf159
  v138 := Tryz.zeroValue159
  t139 := Tryz.underlying160
  a139 := Tryz.isAgg160
  z139 := Tryz.sizeOf160
  v139 := Tryz.zeroValue160
  g3 := by kernel_rfl
  g4 := by kernel_rfl }
def Tryz.lays104_ren : Go.Shelf.Ren := ⟨fun | 104 => 65 | 211 => 88 | 207 => 103 | n => n, fun | 9 => 9 | 4 => 4 | 24 => 122 | 3 => 3 | n => n, fun | n => n⟩
theorem Tryz.lays104 : Go.Proofs.Lays.n104 Tryz.prog Tryz.lays104_ren := {
  mixed := by kernel_rfl
  f104 := Tryz.func65.trans (congrArg some (by kernel_rfl))
  f207 := Tryz.func103.trans (congrArg some (by kernel_rfl))
  f211 := Tryz.func88.trans (congrArg some (by kernel_rfl))
  t3 := Tryz.underlying3
  a3 := Tryz.isAgg3
  z3 := Tryz.sizeOf3
  v3 := Tryz.zeroValue3
  t4 := Tryz.underlying4
  a4 := Tryz.isAgg4
  z4 := Tryz.sizeOf4
  v4 := Tryz.zeroValue4
  t9 := Tryz.underlying9
  a9 := Tryz.isAgg9
  z9 := Tryz.sizeOf9
  v9 := Tryz.zeroValue9
  t24 := Tryz.underlying122
  a24 := Tryz.isAgg122
  z24 := Tryz.sizeOf122
  v24 := Tryz.zeroValue122 }
open Go.RowKit in
theorem Tryz.strings_CutSuffix (s p : ByteArray) (w : World) (hs : s.size ≤ 9223372036854775807) :
    Calls Tryz.prog 65 #[.string s, .string p] w fun e w' => e = .returned (.tuple #[.string ⟨(Lib.trimSuffix s.data.toList p.data.toList).toArray⟩, .bool (Lib.hasSuffix s.data.toList p.data.toList)]) ∧ w' = w := Any.strings_CutSuffix Tryz.lays104 s p w hs
def Tryz.laysM173_ren : Go.Shelf.Ren := ⟨fun | 173 => 41 | 246 => 49 | 283 => 59 | 284 => 60 | 285 => 61 | 286 => 62 | 129 => 77 | 317 => 76 | 318 => 78 | 319 => 79 | 320 => 80 | 337 => 99 | 338 => 100 | n => n, fun | 2 => 2 | 3 => 3 | 9 => 9 | 4 => 4 | 171 => 115 | 0 => 0 | 53 => 116 | 37 => 76 | 5 => 5 | 173 => 119 | 212 => 135 | 51 => 136 | 20 => 20 | 213 => 137 | 46 => 138 | 232 => 163 | 233 => 164 | n => n, fun | 17 => 0 | 18 => 4 | 19 => 5 | n => n⟩
theorem Tryz.laysM173 : Go.Proofs.LaysM.n173 Tryz.prog Tryz.laysM173_ren := {
  mixed := by kernel_rfl
  f129 := Tryz.func77.trans (congrArg some (by kernel_rfl))
  f173 := Tryz.func41.trans (congrArg some (by kernel_rfl))
  f246 := Tryz.func49.trans (congrArg some (by kernel_rfl))
  f283 := Tryz.func59.trans (congrArg some (by kernel_rfl))
  f284 := Tryz.func60.trans (congrArg some (by kernel_rfl))
  f285 := Tryz.func61.trans (congrArg some (by kernel_rfl))
  f286 := Tryz.func62.trans (congrArg some (by kernel_rfl))
  f317 := Tryz.func76.trans (congrArg some (by kernel_rfl))
  f318 := Tryz.func78.trans (congrArg some (by kernel_rfl))
  f319 := Tryz.func79.trans (congrArg some (by kernel_rfl))
  f320 := Tryz.func80.trans (congrArg some (by kernel_rfl))
  f337 := Tryz.func99.trans (congrArg some (by kernel_rfl))
  f338 := Tryz.func100.trans (congrArg some (by kernel_rfl))
  t0 := Tryz.underlying0
  a0 := Tryz.isAgg0
  z0 := Tryz.sizeOf0
  v0 := Tryz.zeroValue0
  t2 := Tryz.underlying2
  a2 := Tryz.isAgg2
  z2 := Tryz.sizeOf2
  v2 := Tryz.zeroValue2
  t3 := Tryz.underlying3
  a3 := Tryz.isAgg3
  z3 := Tryz.sizeOf3
  v3 := Tryz.zeroValue3
  t4 := Tryz.underlying4
  a4 := Tryz.isAgg4
  z4 := Tryz.sizeOf4
  v4 := Tryz.zeroValue4
  t5 := Tryz.underlying5
  a5 := Tryz.isAgg5
  z5 := Tryz.sizeOf5
  v5 := Tryz.zeroValue5
  t9 := Tryz.underlying9
  a9 := Tryz.isAgg9
  z9 := Tryz.sizeOf9
  v9 := Tryz.zeroValue9
  t20 := Tryz.underlying20
  a20 := Tryz.isAgg20
  z20 := Tryz.sizeOf20
  v20 := Tryz.zeroValue20
  t37 := Tryz.underlying76
  a37 := Tryz.isAgg76
  z37 := Tryz.sizeOf76
  v37 := Tryz.zeroValue76
  t46 := Tryz.underlying138
  a46 := Tryz.isAgg138
  z46 := Tryz.sizeOf138
  v46 := Tryz.zeroValue138
  t51 := Tryz.underlying136
  a51 := Tryz.isAgg136
  z51 := Tryz.sizeOf136
  v51 := Tryz.zeroValue136
  t53 := Tryz.underlying116
  a53 := Tryz.isAgg116
  z53 := Tryz.sizeOf116
  v53 := Tryz.zeroValue116
  t171 := Tryz.underlying115
  a171 := Tryz.isAgg115
  z171 := Tryz.sizeOf115
  v171 := Tryz.zeroValue115
  t173 := Tryz.underlying119
  a173 := Tryz.isAgg119
  z173 := Tryz.sizeOf119
  v173 := Tryz.zeroValue119
  t212 := Tryz.underlying135
  a212 := Tryz.isAgg135
  z212 := Tryz.sizeOf135
  v212 := Tryz.zeroValue135
  t213 := Tryz.underlying137
  a213 := Tryz.isAgg137
  z213 := Tryz.sizeOf137
  t232 := Tryz.underlying163
  a232 := Tryz.isAgg163
  z232 := Tryz.sizeOf163
  v232 := Tryz.zeroValue163
  t233 := Tryz.underlying164
  a233 := Tryz.isAgg164
  z233 := Tryz.sizeOf164
  v233 := Tryz.zeroValue164
  g17 := by kernel_rfl
  g18 := by kernel_rfl
  g19 := by kernel_rfl
  i0 := by kernel_rfl
  i2 := by kernel_rfl
  i3 := by kernel_rfl
  i4 := by kernel_rfl
  i5 := by kernel_rfl
  i9 := by kernel_rfl
  i20 := by kernel_rfl
  i37 := by kernel_rfl
  i46 := by kernel_rfl
  i51 := by kernel_rfl
  i53 := by kernel_rfl
  i171 := by kernel_rfl
  i173 := by kernel_rfl
  i212 := by kernel_rfl
  i232 := by kernel_rfl
  i233 := by kernel_rfl
  m17 := by kernel_rfl
  m18 := by kernel_rfl
  m19 := by kernel_rfl }
open Go.RowKit Go.Sort Go.Lib in
theorem Tryz.strconv_FormatInt_10 (n : Int) (h0 : -9223372036854775808 ≤ n) (h1 : n ≤ 9223372036854775807) (w : World) (htab : Lib.TabIs Tryz.prog w "internal/strconv.uint64pow10" .u64 Lib.pow10Tab) :
    Calls Tryz.prog 41 #[.int .i64 n, .int .i64 10] w fun e w' => e = .returned (.string ⟨(Lib.itoa n).toArray⟩) ∧ ∃ k os, w' = grow (w.drewN k) os := Any.strconv_FormatInt_10 Tryz.laysM173 n h0 h1 w htab
def Tryz.laysC174_ren : Go.Shelf.Ren := ⟨fun | 174 => 106 | 247 => 110 | 245 => 111 | 287 => 112 | 279 => 113 | 280 => 114 | 281 => 115 | 282 => 116 | 321 => 117 | 322 => 118 | 316 => 119 | 171 => 121 | 205 => 120 | 243 => 122 | 246 => 49 | 283 => 59 | 284 => 60 | 285 => 61 | 286 => 62 | 129 => 77 | 317 => 76 | 318 => 78 | 319 => 79 | 320 => 80 | 337 => 99 | 338 => 100 | n => n, fun | 9 => 9 | 3 => 3 | 2 => 2 | 75 => 83 | 85 => 155 | 4 => 4 | 167 => 166 | 5 => 5 | 53 => 116 | 175 => 167 | 46 => 138 | 168 => 169 | 37 => 76 | 0 => 0 | 210 => 175 | 21 => 21 | 127 => 107 | 145 => 179 | 143 => 177 | 171 => 115 | 173 => 119 | 212 => 135 | 51 => 136 | 20 => 20 | 213 => 137 | 232 => 163 | 233 => 164 | 80 => 89 | n => n, fun | 15 => 6 | 16 => 7 | 17 => 0 | 18 => 4 | 19 => 5 | n => n⟩
theorem Tryz.laysC174 : Go.Proofs.LaysC.n174 Tryz.prog Tryz.laysC174_ren := {
  mixed := by kernel_rfl
  f129 := Tryz.func77.trans (congrArg some (by kernel_rfl))
  f171 := Tryz.func121.trans (congrArg some (by kernel_rfl))
  f174 := Tryz.func106.trans (congrArg some (by kernel_rfl))
  f205 := Tryz.func120.trans (congrArg some (by kernel_rfl))
  f243 := Tryz.func122.trans (congrArg some (by kernel_rfl))
  f245 := Tryz.func111.trans (congrArg some (by kernel_rfl))
  f246 := Tryz.func49.trans (congrArg some (by kernel_rfl))
  f247 := Tryz.func110.trans (congrArg some (by kernel_rfl))
  f279 := Tryz.func113.trans (congrArg some (by kernel_rfl))
  f280 := Tryz.func114.trans (congrArg some (by kernel_rfl))
  f281 := Tryz.func115.trans (congrArg some (by kernel_rfl))
  f282 := Tryz.func116.trans (congrArg some (by kernel_rfl))
  f283 := Tryz.func59.trans (congrArg some (by kernel_rfl))
  f284 := Tryz.func60.trans (congrArg some (by kernel_rfl))
  f285 := Tryz.func61.trans (congrArg some (by kernel_rfl))
  f286 := Tryz.func62.trans (congrArg some (by kernel_rfl))
  f287 := Tryz.func112.trans (congrArg some (by kernel_rfl))
  f316 := Tryz.func119.trans (congrArg some (by kernel_rfl))
  f317 := Tryz.func76.trans (congrArg some (by kernel_rfl))
  f318 := Tryz.func78.trans (congrArg some (by kernel_rfl))
  f319 := Tryz.func79.trans (congrArg some (by kernel_rfl))
  f320 := Tryz.func80.trans (congrArg some (by kernel_rfl))
  f321 := Tryz.func117.trans (congrArg some (by kernel_rfl))
  f322 := Tryz.func118.trans (congrArg some (by kernel_rfl))
  f337 := Tryz.func99.trans (congrArg some (by kernel_rfl))
  f338 := Tryz.func100.trans (congrArg some (by kernel_rfl))
  t0 := Tryz.underlying0
  a0 := Tryz.isAgg0
  z0 := Tryz.sizeOf0
  v0 := Tryz.zeroValue0
  t2 := Tryz.underlying2
  a2 := Tryz.isAgg2
  z2 := Tryz.sizeOf2
  v2 := Tryz.zeroValue2
  t3 := Tryz.underlying3
  a3 := Tryz.isAgg3
  z3 := Tryz.sizeOf3
  v3 := Tryz.zeroValue3
  t4 := Tryz.underlying4
  a4 := Tryz.isAgg4
  z4 := Tryz.sizeOf4
  v4 := Tryz.zeroValue4
  t5 := Tryz.underlying5
  a5 := Tryz.isAgg5
  z5 := Tryz.sizeOf5
  v5 := Tryz.zeroValue5
  t9 := Tryz.underlying9
  a9 := Tryz.isAgg9
  z9 := Tryz.sizeOf9
  v9 := Tryz.zeroValue9
  t20 := Tryz.underlying20
  a20 := Tryz.isAgg20
  z20 := Tryz.sizeOf20
  v20 := Tryz.zeroValue20
  t21 := Tryz.underlying21
  a21 := Tryz.isAgg21
  z21 := Tryz.sizeOf21
  v21 := Tryz.zeroValue21
  t37 := Tryz.underlying76
  a37 := Tryz.isAgg76
  z37 := Tryz.sizeOf76
  v37 := Tryz.zeroValue76
  t46 := Tryz.underlying138
  a46 := Tryz.isAgg138
  z46 := Tryz.sizeOf138
  v46 := Tryz.zeroValue138
  t51 := Tryz.underlying136
  a51 := Tryz.isAgg136
  z51 := Tryz.sizeOf136
  v51 := Tryz.zeroValue136
  t53 := Tryz.underlying116
  a53 := Tryz.isAgg116
  z53 := Tryz.sizeOf116
  v53 := Tryz.zeroValue116
  t75 := Tryz.underlying83
  a75 := Tryz.isAgg83
  z75 := Tryz.sizeOf83
  v75 := Tryz.zeroValue83
  t85 := Tryz.underlying155
  a85 := Tryz.isAgg155
  z85 := Tryz.sizeOf155
  v85 := Tryz.zeroValue155
  t127 := Tryz.underlying107
  a127 := Tryz.isAgg107
  z127 := Tryz.sizeOf107
  v127 := Tryz.zeroValue107
  t143 := Tryz.underlying177
  a143 := Tryz.isAgg177
  z143 := Tryz.sizeOf177
  v143 := Tryz.zeroValue177
  t145 := Tryz.underlying179
  a145 := Tryz.isAgg179
  z145 := Tryz.sizeOf179
  v145 := Tryz.zeroValue179
  t167 := Tryz.underlying166
  a167 := Tryz.isAgg166
  z167 := Tryz.sizeOf166
  v167 := Tryz.zeroValue166
  t168 := Tryz.underlying169
  a168 := Tryz.isAgg169
  z168 := Tryz.sizeOf169
  v168 := Tryz.zeroValue169
  t171 := Tryz.underlying115
  a171 := Tryz.isAgg115
  z171 := Tryz.sizeOf115
  v171 := Tryz.zeroValue115
  t173 := Tryz.underlying119
  a173 := Tryz.isAgg119
  z173 := Tryz.sizeOf119
  v173 := Tryz.zeroValue119
  t175 := Tryz.underlying167
  a175 := Tryz.isAgg167
  z175 := Tryz.sizeOf167
  v175 := Tryz.zeroValue167
  t210 := Tryz.underlying175
  a210 := Tryz.isAgg175
  z210 := Tryz.sizeOf175
  v210 := Tryz.zeroValue175
  t212 := Tryz.underlying135
  a212 := Tryz.isAgg135
  z212 := Tryz.sizeOf135
  v212 := Tryz.zeroValue135
  t213 := Tryz.underlying137
  a213 := Tryz.isAgg137
  z213 := Tryz.sizeOf137
  t232 := Tryz.underlying163
  a232 := Tryz.isAgg163
  z232 := Tryz.sizeOf163
  v232 := Tryz.zeroValue163
  t233 := Tryz.underlying164
  a233 := Tryz.isAgg164
  z233 := Tryz.sizeOf164
  v233 := Tryz.zeroValue164
  g15 := by kernel_rfl
  g16 := by kernel_rfl
  g17 := by kernel_rfl
  g18 := by kernel_rfl
  g19 := by kernel_rfl
  t80 := Tryz.underlying89
  a80 := Tryz.isAgg89
  z80 := Tryz.sizeOf89
  v80 := Tryz.zeroValue89
  i0 := by kernel_rfl
  i2 := by kernel_rfl
  i3 := by kernel_rfl
  i4 := by kernel_rfl
  i5 := by kernel_rfl
  i9 := by kernel_rfl
  i20 := by kernel_rfl
  i21 := by kernel_rfl
  i37 := by kernel_rfl
  i46 := by kernel_rfl
  i51 := by kernel_rfl
  i53 := by kernel_rfl
  i75 := by kernel_rfl
  i80 := by kernel_rfl
  i85 := by kernel_rfl
  i127 := by kernel_rfl
  i143 := by kernel_rfl
  i145 := by kernel_rfl
  i167 := by kernel_rfl
  i168 := by kernel_rfl
  i171 := by kernel_rfl
  i173 := by kernel_rfl
  i175 := by kernel_rfl
  i210 := by kernel_rfl
  i212 := by kernel_rfl
  i232 := by kernel_rfl
  i233 := by kernel_rfl
  m15 := by kernel_rfl
  m16 := by kernel_rfl
  m17 := by kernel_rfl
  m18 := by kernel_rfl
  m19 := by kernel_rfl
  c0 := by kernel_rfl
  c2 := by kernel_rfl
  c3 := by kernel_rfl
  c4 := by kernel_rfl
  c5 := by kernel_rfl
  c9 := by kernel_rfl
  c20 := by kernel_rfl
  c21 := by kernel_rfl
  c37 := by kernel_rfl
  c46 := by kernel_rfl
  c51 := by kernel_rfl
  c53 := by kernel_rfl
  c75 := by kernel_rfl
  c80 := by kernel_rfl
  c85 := by kernel_rfl
  c127 := by kernel_rfl
  c143 := by kernel_rfl
  c145 := by kernel_rfl
  c167 := by kernel_rfl
  c168 := by kernel_rfl
  c171 := by kernel_rfl
  c173 := by kernel_rfl
  c175 := by kernel_rfl
  c210 := by kernel_rfl
  c212 := by kernel_rfl
  c213 := by kernel_rfl
  c232 := by kernel_rfl
  c233 := by kernel_rfl }
open Go.RowKit in
theorem Tryz.strconv_ParseInt_10_at64_ok (s : ByteArray) (hmax : s.size ≤ 9223372036854775806) (v : Int) (h : Lib.parseIntB 64 s.data.toList = .ok v) (w : World) :
    Calls Tryz.prog 106 #[.string s, .int .i64 10, .int .i64 64] w fun e w' => e = .returned (.tuple #[.int .i64 v, .nilIface]) ∧ (w' = w ∨ ∃ t, w' = Lib.bytesWorld w 5 t) := Any.strconv_ParseInt_10_at64_ok Tryz.laysC174 s hmax v h w
open Go.RowKit in
theorem Tryz.strconv_ParseInt_10_at64_range_var (s : ByteArray) (hlim : s.size ≤ 281474976710656) (h : Lib.parseIntB 64 s.data.toList = .range) (tp : TypeId) (p : Value) (w : World) (hvar : w.var? Tryz.prog "strconv.ErrRange" = some #[.iface tp p]) :
    Calls Tryz.prog 106 #[.string s, .int .i64 10, .int .i64 64] w fun e w' => ∃ N, e = .returned (.tuple #[.int .i64 (Lib.intSat 64 s.data.toList), .iface 169 (.pointer (some ⟨N, 0, none⟩))]) ∧ w.heap.size ≤ N ∧ w'.heap[N]? = some (.cells #[.string ⟨#[80, 97, 114, 115, 101, 73, 110, 116]⟩, .string s, .iface tp p] 175 (0, 0)) ∧ Below w.heap.size w w' := Any.strconv_ParseInt_10_at64_range_var Tryz.laysC174 s hlim h tp p w hvar
def Tryz.lays145_ren : Go.Shelf.Ren := ⟨fun | 145 => 51 | 220 => 63 | 219 => 75 | 217 => 95 | 225 => 96 | 224 => 97 | 267 => 98 | 266 => 107 | 314 => 108 | n => n, fun | 9 => 9 | 4 => 4 | 59 => 104 | 3 => 3 | 5 => 5 | 46 => 138 | 146 => 161 | 51 => 136 | n => n, fun | 1 => 1 | n => n⟩
theorem Tryz.lays145 : Go.Proofs.Lays.n145 Tryz.prog Tryz.lays145_ren := {
  mixed := by kernel_rfl
  f145 := Tryz.func51.trans (congrArg some (by kernel_rfl))
  f217 := Tryz.func95.trans (congrArg some (by kernel_rfl))
  f219 := Tryz.func75.trans (congrArg some (by kernel_rfl))
  f220 := Tryz.func63.trans (congrArg some (by kernel_rfl))
  f224 := Tryz.func97.trans (congrArg some (by kernel_rfl))
  f225 := Tryz.func96.trans (congrArg some (by kernel_rfl))
  f266 := Tryz.func107.trans (congrArg some (by kernel_rfl))
  f267 := Tryz.func98.trans (congrArg some (by kernel_rfl))
  f314 := Tryz.func108.trans (congrArg some (by kernel_rfl))
  t3 := Tryz.underlying3
  a3 := Tryz.isAgg3
  z3 := Tryz.sizeOf3
  v3 := Tryz.zeroValue3
  t4 := Tryz.underlying4
  a4 := Tryz.isAgg4
  z4 := Tryz.sizeOf4
  v4 := Tryz.zeroValue4
  t5 := Tryz.underlying5
  a5 := Tryz.isAgg5
  z5 := Tryz.sizeOf5
  v5 := Tryz.zeroValue5
  t9 := Tryz.underlying9
  a9 := Tryz.isAgg9
  z9 := Tryz.sizeOf9
  v9 := Tryz.zeroValue9
  t46 := Tryz.underlying138
  a46 := Tryz.isAgg138
  z46 := Tryz.sizeOf138
  v46 := Tryz.zeroValue138
  t51 := Tryz.underlying136
  a51 := Tryz.isAgg136
  z51 := Tryz.sizeOf136
  v51 := Tryz.zeroValue136
  t59 := Tryz.underlying104
  a59 := Tryz.isAgg104
  z59 := Tryz.sizeOf104
  v59 := Tryz.zeroValue104
  t146 := Tryz.underlying161
  a146 := Tryz.isAgg161
  z146 := Tryz.sizeOf161
  v146 := Tryz.zeroValue161
  g1 := by kernel_rfl }
open Go.RowKit Go.Lib in
theorem Tryz.strings_Cut (s sep : ByteArray) (m : Int) (w : World) (hs : s.size < 4294967281) (hm : w.cell? ⟨1, 0, none⟩ = some (.int .i64 m)) :
    Calls Tryz.prog 51 #[.string s, .string sep] w fun e w' => e = .returned (.tuple #[.string ⟨(Lib.cut s.data.toList sep.data.toList).1.toArray⟩, .string ⟨(Lib.cut s.data.toList sep.data.toList).2.1.toArray⟩, .bool (Lib.cut s.data.toList sep.data.toList).2.2]) ∧ ∃ n, w' = w.drewN n := Any.strings_Cut Tryz.lays145 s sep m w hs hm
def Tryz.lays146_ren : Go.Shelf.Ren := ⟨fun | 146 => 38 | 221 => 47 | 268 => 55 | 138 => 56 | 143 => 57 | 195 => 72 | 197 => 73 | 218 => 74 | 219 => 75 | 260 => 94 | 217 => 95 | 225 => 96 | 224 => 97 | 267 => 98 | 266 => 107 | 314 => 108 | n => n, fun | 9 => 9 | 31 => 79 | 3 => 3 | 4 => 4 | 0 => 0 | 105 => 131 | 21 => 21 | 5 => 5 | 46 => 138 | 119 => 157 | 139 => 160 | 138 => 159 | 146 => 161 | 51 => 136 | n => n, fun | 1 => 1 | 3 => 2 | 4 => 3 | n => n⟩
theorem Tryz.lays146 : Go.Proofs.Lays.n146 Tryz.prog Tryz.lays146_ren := {
  mixed := by kernel_rfl
  f138 := Tryz.func56.trans (congrArg some (by kernel_rfl))
  f143 := Tryz.func57.trans (congrArg some (by kernel_rfl))
  f146 := Tryz.func38.trans (congrArg some (by kernel_rfl))
  f195 := Tryz.func72.trans (congrArg some (by kernel_rfl))
  f197 := Tryz.func73.trans (congrArg some (by kernel_rfl))
  f217 := Tryz.func95.trans (congrArg some (by kernel_rfl))
  f218 := Tryz.func74.trans (congrArg some (by kernel_rfl))
  f219 := Tryz.func75.trans (congrArg some (by kernel_rfl))
  f221 := Tryz.func47.trans (congrArg some (by kernel_rfl))
  f224 := Tryz.func97.trans (congrArg some (by kernel_rfl))
  f225 := Tryz.func96.trans (congrArg some (by kernel_rfl))
  f260 := Tryz.func94.trans (congrArg some (by kernel_rfl))
  f266 := Tryz.func107.trans (congrArg some (by kernel_rfl))
  f267 := Tryz.func98.trans (congrArg some (by kernel_rfl))
  f268 := Tryz.func55.trans (congrArg some (by kernel_rfl))
  f314 := Tryz.func108.trans (congrArg some (by kernel_rfl))
  t0 := Tryz.underlying0
  a0 := Tryz.isAgg0
  z0 := Tryz.sizeOf0
  v0 := Tryz.zeroValue0
  t3 := Tryz.underlying3
  a3 := Tryz.isAgg3
  z3 := Tryz.sizeOf3
  v3 := Tryz.zeroValue3
  t4 := Tryz.underlying4
  a4 := Tryz.isAgg4
  z4 := Tryz.sizeOf4
  v4 := Tryz.zeroValue4
  t5 := Tryz.underlying5
  a5 := Tryz.isAgg5
  z5 := Tryz.sizeOf5
  v5 := Tryz.zeroValue5
  t9 := Tryz.underlying9
  a9 := Tryz.isAgg9
  z9 := Tryz.sizeOf9
  v9 := Tryz.zeroValue9
  t21 := Tryz.underlying21
  a21 := Tryz.isAgg21
  z21 := Tryz.sizeOf21
  v21 := Tryz.zeroValue21
  t31 := Tryz.underlying79
  a31 := Tryz.isAgg79
  z31 := Tryz.sizeOf79
  v31 := Tryz.zeroValue79
  t46 := Tryz.underlying138
  a46 := Tryz.isAgg138
  z46 := Tryz.sizeOf138
  v46 := Tryz.zeroValue138
  t51 := Tryz.underlying136
  a51 := Tryz.isAgg136
  z51 := Tryz.sizeOf136
  v51 := Tryz.zeroValue136
  t105 := Tryz.underlying131
  a105 := Tryz.isAgg131
  z105 := Tryz.sizeOf131
  v105 := Tryz.zeroValue131
  t119 := Tryz.underlying157
  a119 := Tryz.isAgg157
  z119 := Tryz.sizeOf157
  t138 := Tryz.underlying159
  a138 := Tryz.isAgg159
  z138 := Tryz.sizeOf159
  v138 := Tryz.zeroValue159
  t139 := Tryz.underlying160
  a139 := Tryz.isAgg160
  z139 := Tryz.sizeOf160
  v139 := Tryz.zeroValue160
  t146 := Tryz.underlying161
  a146 := Tryz.isAgg161
  z146 := Tryz.sizeOf161
  v146 := Tryz.zeroValue161
  g1 := by kernel_rfl
  g3 := by kernel_rfl
  g4 := by kernel_rfl }
open Go.RowKit Go.Lib in
theorem Tryz.strings_Split (s sep : ByteArray) (m : Int) (w : World) (hs : s.size < 4294967281) (hm : w.cell? ⟨1, 0, none⟩ = some (.int .i64 m)) (h1 : 1 ≤ sep.size) :
    Calls Tryz.prog 38 #[.string s, .string sep] w fun e w' =>
      e = .returned (.slice (some ⟨w.heap.size, 0, none⟩) (Lib.countB s sep + 1) (Lib.countB s sep + 1)) ∧ w' = w.alloc (.cells ((Lib.splitB sep 0 (Lib.countB s sep) s).map Value.string).toArray 9) := Any.strings_Split Tryz.lays146 (by kernel_rfl) s sep m w hs hm h1
def Tryz.lays153_ren : Go.Shelf.Ren := ⟨fun | 153 => 68 | 152 => 89 | 226 => 90 | 227 => 83 | 228 => 91 | 137 => 104 | 119 => 105 | 224 => 97 | 225 => 96 | 217 => 95 | 266 => 107 | n => n, fun | 9 => 9 | 3 => 3 | 4 => 4 | 5 => 5 | 21 => 21 | 117 => 143 | 116 => 142 | 0 => 0 | 46 => 138 | 124 => 146 | n => n, fun | n => n⟩
theorem Tryz.lays153 : Go.Proofs.Lays.n153 Tryz.prog Tryz.lays153_ren := {
  mixed := by kernel_rfl
  f119 := Tryz.func105.trans (congrArg some (by kernel_rfl))
  f137 := Tryz.func104.trans (congrArg some (by kernel_rfl))
  f152 := Tryz.func89.trans (congrArg some (by kernel_rfl))
  f153 := Tryz.func68.trans (congrArg some (by kernel_rfl))
  f217 := Tryz.func95.trans (congrArg some (by kernel_rfl))
  f224 := Tryz.func97.trans (congrArg some (by kernel_rfl))
  f225 := Tryz.func96.trans (congrArg some (by kernel_rfl))
  f226 := Tryz.func90.trans (congrArg some (by kernel_rfl))
  f227 := Tryz.func83.trans (congrArg some (by kernel_rfl))
  f228 := Tryz.func91.trans (congrArg some (by kernel_rfl))
  f266 := Tryz.func107.trans (congrArg some (by kernel_rfl))
  t0 := Tryz.underlying0
  a0 := Tryz.isAgg0
  z0 := Tryz.sizeOf0
  v0 := Tryz.zeroValue0
  t3 := Tryz.underlying3
  a3 := Tryz.isAgg3
  z3 := Tryz.sizeOf3
  v3 := Tryz.zeroValue3
  t4 := Tryz.underlying4
  a4 := Tryz.isAgg4
  z4 := Tryz.sizeOf4
  v4 := Tryz.zeroValue4
  t5 := Tryz.underlying5
  a5 := Tryz.isAgg5
  z5 := Tryz.sizeOf5
  v5 := Tryz.zeroValue5
  t9 := Tryz.underlying9
  a9 := Tryz.isAgg9
  z9 := Tryz.sizeOf9
  v9 := Tryz.zeroValue9
  t21 := Tryz.underlying21
  a21 := Tryz.isAgg21
  z21 := Tryz.sizeOf21
  v21 := Tryz.zeroValue21
  t46 := Tryz.underlying138
  a46 := Tryz.isAgg138
  z46 := Tryz.sizeOf138
  v46 := Tryz.zeroValue138
  t116 := Tryz.underlying142
  a116 := Tryz.isAgg142
  z116 := Tryz.sizeOf142
  t117 := Tryz.underlying143
  a117 := Tryz.isAgg143
  z117 := Tryz.sizeOf143
  v117 := Tryz.zeroValue143
  t124 := Tryz.underlying146
  a124 := Tryz.isAgg146
  z124 := Tryz.sizeOf146
  v124 := Tryz.zeroValue146 }
open Go.RowKit Go.Lib in
theorem Tryz.strings_IndexAny_laid (s chars : ByteArray) (w : World) (hs : s.size < 4294967281) (hcs : chars.size < 4294967281) (has : ∀ (j : Nat) b, s.data.toList[j]? = some b → b.toNat < 128) (hac : ∀ (j : Nat) b, chars.data.toList[j]? = some b → b.toNat < 128) :
    Calls Tryz.prog 68 #[.string s, .string chars] w fun e w' => e = .returned (.int .i64 (Lib.indexAny s.data.toList chars.data.toList)) ∧ Below w.heap.size w w' := Any.strings_IndexAny_laid Tryz.lays153 (by kernel_rfl) s chars w hs hcs has hac
def Tryz.laysSlN45_f30_ren : Go.Shelf.Ren := ⟨fun | 45 => 30 | n => n, fun | 22 => 23 | 23 => 2 | 3 => 3 | 4 => 4 | 0 => 0 | n => n, fun | n => n⟩
theorem Tryz.laysSlN45_f30 : Go.Proofs.SlLaysN.n45 Tryz.prog Tryz.laysSlN45_f30_ren := {
  mixed := by kernel_rfl
  f45 := ⟨Tryz.f30.name, by decide, Tryz.func30.trans (congrArg some (by kernel_rfl))⟩
  t0 := Tryz.underlying0
  a0 := Tryz.isAgg0
  z0 := Tryz.sizeOf0
  v0 := Tryz.zeroValue0
  t3 := Tryz.underlying3
  a3 := Tryz.isAgg3
  z3 := Tryz.sizeOf3
  v3 := Tryz.zeroValue3
  t4 := Tryz.underlying4
  a4 := Tryz.isAgg4
  z4 := Tryz.sizeOf4
  v4 := Tryz.zeroValue4
  t22 := Tryz.underlying23
  a22 := Tryz.isAgg23
  z22 := Tryz.sizeOf23
  v22 := Tryz.zeroValue23
  t23 := Tryz.underlying2
  a23 := Tryz.isAgg2
  z23 := Tryz.sizeOf2
  v23 := Tryz.zeroValue2
  i23 := by kernel_rfl }
open Go.RowKit Go.Lib Go.Sort in
theorem Tryz.slices_Delete_int (blk off cap i j : Nat) (zs : List Int) (w : World) (hH : Holds (Value.int .i64) w blk off zs.toArray) (hcap : zs.length ≤ cap) (hm : cap ≤ 9223372036854775807) (hij : i ≤ j) (hj : j ≤ zs.length) :
    Calls Tryz.prog 30 #[.slice (some ⟨blk, off, none⟩) zs.length cap, .int .i64 i, .int .i64 j] w fun e w' => e = .returned (.slice (some ⟨blk, off, none⟩) (zs.length - (j - i)) cap) ∧ ∃ q, w' = putRow (Value.int .i64) (Sort.ahead w q) blk off (zs.take i ++ zs.drop j ++ List.replicate (j - i) 0).toArray := AnyG.slices_Delete_int Tryz.laysSlN45_f30 blk off cap i j zs w hH hcap hm hij hj
end Go.Proofs
