/- What the walks take from the library's shelf, at this program: written by the kit's own tools, the wanted ones picked by a program of this session (wip/pp/shelf.py). -/
import Derived.Shelf.Strings.Builder1
import Derived.Shelf.Strings.Builder2
import Derived.Shelf.Strings.OnBuilder
import Derived.Shelf.Strings.Trim
import Derived.Shelf.Small.Utf8
import Derived.Shelf.Small.Strs
import Derived.Shelf.Small.Wraps
import Derived.Shelf.Strings.BuilderF
import Derived.Shelf.Utf8.RuneCount
import Derived.Shelf.Strconv.Atoi
import Derived.Shelf.Strconv.Itoa0
import Derived.Shelf.Strconv.Itoa1
import Derived.Shelf.LaysM
import Derived.Shelf.Strconv.Itoa2
import Derived.Shelf.Strconv.Itoa3
import Derived.Shelf.Strconv.AtoiErrFast
import Derived.Shelf.Strconv.ParseIntEmpty
import Derived.Shelf.Strconv.AtoiFail
import Derived.Shelf.Strconv.Clone
import Derived.Shelf.Strconv.SyntaxError
import Derived.Shelf.LaysC
import Derived.Shelf.Strconv.ToError
import Derived.Shelf.Strconv.AtoiErr
import Derived.Shelf.Strconv.ErrVar
import Derived.Shelf.Strconv.Lower
import Derived.Shelf.Strconv.ParseUint10
import Derived.Shelf.Strconv.ParseUint10Empty
import Derived.Shelf.Strconv.ParseUint10Any
import Derived.Shelf.Strconv.ParseInt10
import Derived.Shelf.Strconv.AtoiLong
import Derived.Shelf.Strconv.AtoiInnerAll
import Derived.Shelf.Strconv.RangeError
import Derived.Shelf.Strconv.ToErrorRange
import Derived.Shelf.Strconv.AtoiAll
import Derived.Shelf.Strconv.ErrVarAll
import Derived.Shelf.Strings.Search1
import Derived.Shelf.Strings.Search2
import Derived.Shelf.Strings.Search3
import Derived.Shelf.Strings.Cut
import Derived.Shelf.Strings.Count
import Derived.Shelf.Strings.Shaped
import Derived.Shelf.Strings.Prefix
import Derived.Shelf.Strings.Split
import Derived.Shelf.Strings.SplitShaped
import Derived.Shelf.Unicode.Decode
import Derived.Shelf.Strings.Runes
import Derived.Shelf.Strings.RuneCount
import Derived.Shelf.Strings.AsciiSet
import Derived.Shelf.Strings.Explode
import Derived.Shelf.Unicode.DecodeSlow
import Derived.Shelf.Unicode.DecodeAny
import Derived.Shelf.Unicode.DecodeLast
import Derived.Test.YtpmieapgbdbabaaDoorProg
namespace Go.Proofs
open Go.Shelf
def Tryd.lays156_ren : Go.Shelf.Ren := ⟨fun | 156 => 77 | 165 => 97 | 166 => 66 | 169 => 67 | 240 => 90 | 241 => 112 | 276 => 104 | 277 => 131 | n => n, fun | 31 => 121 | 9 => 9 | 3 => 3 | 4 => 4 | 0 => 0 | 20 => 20 | 72 => 106 | 76 => 110 | 70 => 103 | 37 => 104 | 75 => 109 | 127 => 137 | 164 => 153 | 5 => 5 | 80 => 112 | n => n, fun | n => n⟩
theorem Tryd.lays156 : Go.Proofs.Lays.n156 Tryd.prog Tryd.lays156_ren := {
  mixed := by kernel_rfl
  f156 := Tryd.func77.trans (congrArg some (by kernel_rfl))
  f165 := Tryd.func97.trans (congrArg some (by kernel_rfl))
  f166 := Tryd.func66.trans (congrArg some (by kernel_rfl))
  f169 := Tryd.func67.trans (congrArg some (by kernel_rfl))
  f240 := Tryd.func90.trans (congrArg some (by kernel_rfl))
  f241 := Tryd.func112.trans (congrArg some (by kernel_rfl))
  f276 := Tryd.func104.trans (congrArg some (by kernel_rfl))
  f277 := Tryd.func131.trans (congrArg some (by kernel_rfl))
  t0 := Tryd.underlying0
  a0 := Tryd.isAgg0
  z0 := Tryd.sizeOf0
  v0 := Tryd.zeroValue0
  t3 := Tryd.underlying3
  a3 := Tryd.isAgg3
  z3 := Tryd.sizeOf3
  v3 := Tryd.zeroValue3
  t4 := Tryd.underlying4
  a4 := Tryd.isAgg4
  z4 := Tryd.sizeOf4
  v4 := Tryd.zeroValue4
  t9 := Tryd.underlying9
  a9 := Tryd.isAgg9
  z9 := Tryd.sizeOf9
  v9 := Tryd.zeroValue9
  t20 := Tryd.underlying20
  a20 := Tryd.isAgg20
  z20 := Tryd.sizeOf20
  v20 := Tryd.zeroValue20
  t31 := Tryd.underlying121
  a31 := Tryd.isAgg121
  z31 := Tryd.sizeOf121
  v31 := Tryd.zeroValue121
  t37 := Tryd.underlying104
  a37 := Tryd.isAgg104
  z37 := Tryd.sizeOf104
  v37 := Tryd.zeroValue104
  t70 := Tryd.underlying103
  a70 := Tryd.isAgg103
  z70 := Tryd.sizeOf103
  v70 := Tryd.zeroValue103
  t72 := Tryd.underlying106
  a72 := Tryd.isAgg106
  z72 := Tryd.sizeOf106
  v72 := Tryd.zeroValue106
  t75 := Tryd.underlying109
  a75 := Tryd.isAgg109
  z75 := Tryd.sizeOf109
  v75 := Tryd.zeroValue109
  t76 := Tryd.underlying110
  a76 := Tryd.isAgg110
  z76 := Tryd.sizeOf110
  v76 := Tryd.zeroValue110
  t127 := Tryd.underlying137
  a127 := Tryd.isAgg137
  z127 := Tryd.sizeOf137
  v127 := Tryd.zeroValue137
  t164 := Tryd.underlying153
  a164 := Tryd.isAgg153
  z164 := Tryd.sizeOf153
  v164 := Tryd.zeroValue153 }
theorem Tryd.Builder_Extra_156 : Builder.Extra Tryd.prog Tryd.lays156_ren := {
  sizeBuilder := by kernel_rfl
  liesBuilder := by kernel_rfl
  t5 := Tryd.underlying5
  a5 := Tryd.isAgg5
  z5 := Tryd.sizeOf5
  v5 := Tryd.zeroValue5
  infoByte := by kernel_rfl
  cellsByte := by kernel_rfl
  sizeByte := by kernel_rfl
  neB5 := by decide }
open Go.RowKit in
theorem Tryd.strings_Join (bk o c : Nat) (xs : List ByteArray) (sep : ByteArray) (w : World) (hcells : ∀ (j : Nat) x, xs[j]? = some x → w.cell? ⟨bk, o + j, none⟩ = some (.string x)) (hbk : bk < w.heap.size) (hN : xs.length ≤ 140737488355328) (hcap : xs.length ≤ c) (hlen : (Lib.join (xs.map (·.data.toList)) sep.data.toList).length ≤ 140737488355328) :
    Calls Tryd.prog 77 #[.slice (some ⟨bk, o, none⟩) xs.length c, .string sep] w fun e w' => e = .returned (.string ⟨(Lib.join (xs.map (·.data.toList)) sep.data.toList).toArray⟩) ∧ Below w.heap.size w w' := Any.strings_Join Tryd.lays156 Tryd.Builder_Extra_156 bk o c xs sep w hcells hbk hN hcap hlen
def Tryd.lays162_ren : Go.Shelf.Ren := ⟨fun | 162 => 84 | 232 => 99 | 227 => 100 | 234 => 101 | 236 => 102 | 228 => 116 | 271 => 117 | 151 => 118 | 120 => 135 | 197 => 133 | 152 => 136 | 260 => 147 | 137 => 148 | 119 => 149 | 224 => 126 | 225 => 125 | 217 => 124 | 266 => 143 | n => n, fun | 9 => 9 | 4 => 4 | 3 => 3 | 5 => 5 | 117 => 147 | 116 => 146 | 0 => 0 | 124 => 150 | 21 => 21 | 105 => 165 | 46 => 129 | 119 => 199 | 139 => 202 | 138 => 201 | n => n, fun | 3 => 4 | 4 => 5 | n => n⟩
theorem Tryd.lays162 : Go.Proofs.Lays.n162 Tryd.prog Tryd.lays162_ren := {
  mixed := by kernel_rfl
  f119 := Tryd.func149.trans (congrArg some (by kernel_rfl))
  f120 := Tryd.func135.trans (congrArg some (by kernel_rfl))
  f137 := Tryd.func148.trans (congrArg some (by kernel_rfl))
  f151 := Tryd.func118.trans (congrArg some (by kernel_rfl))
  f152 := Tryd.func136.trans (congrArg some (by kernel_rfl))
  f162 := Tryd.func84.trans (congrArg some (by kernel_rfl))
  f197 := Tryd.func133.trans (congrArg some (by kernel_rfl))
  f217 := Tryd.func124.trans (congrArg some (by kernel_rfl))
  f224 := Tryd.func126.trans (congrArg some (by kernel_rfl))
  f225 := Tryd.func125.trans (congrArg some (by kernel_rfl))
  f227 := Tryd.func100.trans (congrArg some (by kernel_rfl))
  f228 := Tryd.func116.trans (congrArg some (by kernel_rfl))
  f232 := Tryd.func99.trans (congrArg some (by kernel_rfl))
  f234 := Tryd.func101.trans (congrArg some (by kernel_rfl))
  f236 := Tryd.func102.trans (congrArg some (by kernel_rfl))
  f260 := Tryd.func147.trans (congrArg some (by kernel_rfl))
  f266 := Tryd.func143.trans (congrArg some (by kernel_rfl))
  f271 := Tryd.func117.trans (congrArg some (by kernel_rfl))
  t0 := Tryd.underlying0
  a0 := Tryd.isAgg0
  z0 := Tryd.sizeOf0
  v0 := Tryd.zeroValue0
  t3 := Tryd.underlying3
  a3 := Tryd.isAgg3
  z3 := Tryd.sizeOf3
  v3 := Tryd.zeroValue3
  t4 := Tryd.underlying4
  a4 := Tryd.isAgg4
  z4 := Tryd.sizeOf4
  v4 := Tryd.zeroValue4
  t5 := Tryd.underlying5
  a5 := Tryd.isAgg5
  z5 := Tryd.sizeOf5
  v5 := Tryd.zeroValue5
  t9 := Tryd.underlying9
  a9 := Tryd.isAgg9
  z9 := Tryd.sizeOf9
  v9 := Tryd.zeroValue9
  t21 := Tryd.underlying21
  a21 := Tryd.isAgg21
  z21 := Tryd.sizeOf21
  v21 := Tryd.zeroValue21
  t46 := Tryd.underlying129
  a46 := Tryd.isAgg129
  z46 := Tryd.sizeOf129
  v46 := Tryd.zeroValue129
  t105 := Tryd.underlying165
  a105 := Tryd.isAgg165
  z105 := Tryd.sizeOf165
  v105 := Tryd.zeroValue165
  t116 := Tryd.underlying146
  a116 := Tryd.isAgg146
  z116 := Tryd.sizeOf146
  t117 := Tryd.underlying147
  a117 := Tryd.isAgg147
  z117 := Tryd.sizeOf147
  v117 := Tryd.zeroValue147
  t119 := Tryd.underlying199
  a119 := Tryd.isAgg199
  z119 := Tryd.sizeOf199
  t124 := Tryd.underlying150
  a124 := Tryd.isAgg150
  z124 := Tryd.sizeOf150
  v124 := Tryd.zeroValue150
  t138 := Tryd.underlying201
  a138 := Tryd.isAgg201
  z138 := Tryd.sizeOf201
  v138 := Tryd.zeroValue201
  t139 := Tryd.underlying202
  a139 := Tryd.isAgg202
  z139 := Tryd.sizeOf202
  v139 := Tryd.zeroValue202
  g3 := by kernel_rfl
  g4 := by kernel_rfl }
open Go.RowKit in
theorem Tryd.strings_TrimRight_one (s : ByteArray) (c : UInt8) (hc : c.toNat < 128) (w : World) (hs : s.size ≤ 9223372036854775807) :
    Calls Tryd.prog 84 #[.string s, .string ⟨#[c]⟩] w fun e w' => e = .returned (.string ⟨(Lib.trimRightB s.data.toList c).toArray⟩) ∧ w' = w := Any.strings_TrimRight_one Tryd.lays162 s c hc w hs
def Tryd.laysM171_ren : Go.Shelf.Ren := ⟨fun | 171 => 69 | 243 => 91 | 246 => 105 | 283 => 120 | 284 => 121 | 285 => 122 | 286 => 123 | 129 => 139 | 317 => 138 | 318 => 140 | 319 => 141 | 320 => 142 | 337 => 150 | 338 => 151 | n => n, fun | 3 => 3 | 9 => 9 | 2 => 2 | 4 => 4 | 171 => 168 | 0 => 0 | 53 => 169 | 37 => 104 | 5 => 5 | 173 => 172 | 212 => 186 | 51 => 187 | 20 => 20 | 213 => 188 | 46 => 129 | 232 => 203 | 233 => 204 | n => n, fun | 17 => 3 | 18 => 6 | 19 => 7 | n => n⟩
theorem Tryd.laysM171 : Go.Proofs.LaysM.n171 Tryd.prog Tryd.laysM171_ren := {
  mixed := by kernel_rfl
  f129 := Tryd.func139.trans (congrArg some (by kernel_rfl))
  f171 := Tryd.func69.trans (congrArg some (by kernel_rfl))
  f243 := Tryd.func91.trans (congrArg some (by kernel_rfl))
  f246 := Tryd.func105.trans (congrArg some (by kernel_rfl))
  f283 := Tryd.func120.trans (congrArg some (by kernel_rfl))
  f284 := Tryd.func121.trans (congrArg some (by kernel_rfl))
  f285 := Tryd.func122.trans (congrArg some (by kernel_rfl))
  f286 := Tryd.func123.trans (congrArg some (by kernel_rfl))
  f317 := Tryd.func138.trans (congrArg some (by kernel_rfl))
  f318 := Tryd.func140.trans (congrArg some (by kernel_rfl))
  f319 := Tryd.func141.trans (congrArg some (by kernel_rfl))
  f320 := Tryd.func142.trans (congrArg some (by kernel_rfl))
  f337 := Tryd.func150.trans (congrArg some (by kernel_rfl))
  f338 := Tryd.func151.trans (congrArg some (by kernel_rfl))
  t0 := Tryd.underlying0
  a0 := Tryd.isAgg0
  z0 := Tryd.sizeOf0
  v0 := Tryd.zeroValue0
  t2 := Tryd.underlying2
  a2 := Tryd.isAgg2
  z2 := Tryd.sizeOf2
  v2 := Tryd.zeroValue2
  t3 := Tryd.underlying3
  a3 := Tryd.isAgg3
  z3 := Tryd.sizeOf3
  v3 := Tryd.zeroValue3
  t4 := Tryd.underlying4
  a4 := Tryd.isAgg4
  z4 := Tryd.sizeOf4
  v4 := Tryd.zeroValue4
  t5 := Tryd.underlying5
  a5 := Tryd.isAgg5
  z5 := Tryd.sizeOf5
  v5 := Tryd.zeroValue5
  t9 := Tryd.underlying9
  a9 := Tryd.isAgg9
  z9 := Tryd.sizeOf9
  v9 := Tryd.zeroValue9
  t20 := Tryd.underlying20
  a20 := Tryd.isAgg20
  z20 := Tryd.sizeOf20
  v20 := Tryd.zeroValue20
  t37 := Tryd.underlying104
  a37 := Tryd.isAgg104
  z37 := Tryd.sizeOf104
  v37 := Tryd.zeroValue104
  t46 := Tryd.underlying129
  a46 := Tryd.isAgg129
  z46 := Tryd.sizeOf129
  v46 := Tryd.zeroValue129
  t51 := Tryd.underlying187
  a51 := Tryd.isAgg187
  z51 := Tryd.sizeOf187
  v51 := Tryd.zeroValue187
  t53 := Tryd.underlying169
  a53 := Tryd.isAgg169
  z53 := Tryd.sizeOf169
  v53 := Tryd.zeroValue169
  t171 := Tryd.underlying168
  a171 := Tryd.isAgg168
  z171 := Tryd.sizeOf168
  v171 := Tryd.zeroValue168
  t173 := Tryd.underlying172
  a173 := Tryd.isAgg172
  z173 := Tryd.sizeOf172
  v173 := Tryd.zeroValue172
  t212 := Tryd.underlying186
  a212 := Tryd.isAgg186
  z212 := Tryd.sizeOf186
  v212 := Tryd.zeroValue186
  t213 := Tryd.underlying188
  a213 := Tryd.isAgg188
  z213 := Tryd.sizeOf188
  t232 := Tryd.underlying203
  a232 := Tryd.isAgg203
  z232 := Tryd.sizeOf203
  v232 := Tryd.zeroValue203
  t233 := Tryd.underlying204
  a233 := Tryd.isAgg204
  z233 := Tryd.sizeOf204
  v233 := Tryd.zeroValue204
  g17 := by kernel_rfl
  g18 := by kernel_rfl
  g19 := by kernel_rfl
  i0 := by kernel_rfl
  i2 := by kernel_rfl
  i3 := by kernel_rfl
  i4 := by kernel_rfl
  i5 := by kernel_rfl
  i9 := by kernel_rfl
  i20 := by kernel_rfl
  i37 := by kernel_rfl
  i46 := by kernel_rfl
  i51 := by kernel_rfl
  i53 := by kernel_rfl
  i171 := by kernel_rfl
  i173 := by kernel_rfl
  i212 := by kernel_rfl
  i232 := by kernel_rfl
  i233 := by kernel_rfl
  m17 := by kernel_rfl
  m18 := by kernel_rfl
  m19 := by kernel_rfl }
open Go.RowKit Go.Sort Go.Lib in
theorem Tryd.strconv_Itoa (n : Int) (h0 : -9223372036854775808 ≤ n) (h1 : n ≤ 9223372036854775807) (w : World) (htab : Lib.TabIs Tryd.prog w "internal/strconv.uint64pow10" .u64 Lib.pow10Tab) :
    Calls Tryd.prog 69 #[.int .i64 n] w fun e w' => e = .returned (.string ⟨(Lib.itoa n).toArray⟩) ∧ ∃ k os, w' = grow (w.drewN k) os := Any.strconv_Itoa Tryd.laysM171 n h0 h1 w htab
def Tryd.lays171_ren : Go.Shelf.Ren := ⟨fun | 171 => 69 | 243 => 91 | 246 => 105 | 283 => 120 | 284 => 121 | 285 => 122 | 286 => 123 | 129 => 139 | 317 => 138 | 318 => 140 | 319 => 141 | 320 => 142 | 337 => 150 | 338 => 151 | n => n, fun | 3 => 3 | 9 => 9 | 2 => 2 | 4 => 4 | 171 => 168 | 0 => 0 | 53 => 169 | 37 => 104 | 5 => 5 | 173 => 172 | 212 => 186 | 51 => 187 | 20 => 20 | 213 => 188 | 46 => 129 | 232 => 203 | 233 => 204 | n => n, fun | 17 => 3 | 18 => 6 | 19 => 7 | n => n⟩
theorem Tryd.lays171 : Go.Proofs.Lays.n171 Tryd.prog Tryd.lays171_ren := {
  mixed := by kernel_rfl
  f129 := Tryd.func139.trans (congrArg some (by kernel_rfl))
  f171 := Tryd.func69.trans (congrArg some (by kernel_rfl))
  f243 := Tryd.func91.trans (congrArg some (by kernel_rfl))
  f246 := Tryd.func105.trans (congrArg some (by kernel_rfl))
  f283 := Tryd.func120.trans (congrArg some (by kernel_rfl))
  f284 := Tryd.func121.trans (congrArg some (by kernel_rfl))
  f285 := Tryd.func122.trans (congrArg some (by kernel_rfl))
  f286 := Tryd.func123.trans (congrArg some (by kernel_rfl))
  f317 := Tryd.func138.trans (congrArg some (by kernel_rfl))
  f318 := Tryd.func140.trans (congrArg some (by kernel_rfl))
  f319 := Tryd.func141.trans (congrArg some (by kernel_rfl))
  f320 := Tryd.func142.trans (congrArg some (by kernel_rfl))
  f337 := Tryd.func150.trans (congrArg some (by kernel_rfl))
  f338 := Tryd.func151.trans (congrArg some (by kernel_rfl))
  t0 := Tryd.underlying0
  a0 := Tryd.isAgg0
  z0 := Tryd.sizeOf0
  v0 := Tryd.zeroValue0
  t2 := Tryd.underlying2
  a2 := Tryd.isAgg2
  z2 := Tryd.sizeOf2
  v2 := Tryd.zeroValue2
  t3 := Tryd.underlying3
  a3 := Tryd.isAgg3
  z3 := Tryd.sizeOf3
  v3 := Tryd.zeroValue3
  t4 := Tryd.underlying4
  a4 := Tryd.isAgg4
  z4 := Tryd.sizeOf4
  v4 := Tryd.zeroValue4
  t5 := Tryd.underlying5
  a5 := Tryd.isAgg5
  z5 := Tryd.sizeOf5
  v5 := Tryd.zeroValue5
  t9 := Tryd.underlying9
  a9 := Tryd.isAgg9
  z9 := Tryd.sizeOf9
  v9 := Tryd.zeroValue9
  t20 := Tryd.underlying20
  a20 := Tryd.isAgg20
  z20 := Tryd.sizeOf20
  v20 := Tryd.zeroValue20
  t37 := Tryd.underlying104
  a37 := Tryd.isAgg104
  z37 := Tryd.sizeOf104
  v37 := Tryd.zeroValue104
  t46 := Tryd.underlying129
  a46 := Tryd.isAgg129
  z46 := Tryd.sizeOf129
  v46 := Tryd.zeroValue129
  t51 := Tryd.underlying187
  a51 := Tryd.isAgg187
  z51 := Tryd.sizeOf187
  v51 := Tryd.zeroValue187
  t53 := Tryd.underlying169
  a53 := Tryd.isAgg169
  z53 := Tryd.sizeOf169
  v53 := Tryd.zeroValue169
  t171 := Tryd.underlying168
  a171 := Tryd.isAgg168
  z171 := Tryd.sizeOf168
  v171 := Tryd.zeroValue168
  t173 := Tryd.underlying172
  a173 := Tryd.isAgg172
  z173 := Tryd.sizeOf172
  v173 := Tryd.zeroValue172
  t212 := Tryd.underlying186
  a212 := Tryd.isAgg186
  z212 := Tryd.sizeOf186
  v212 := Tryd.zeroValue186
  t213 := Tryd.underlying188
  a213 := Tryd.isAgg188
  z213 := Tryd.sizeOf188
  t232 := Tryd.underlying203
  a232 := Tryd.isAgg203
  z232 := Tryd.sizeOf203
  v232 := Tryd.zeroValue203
  t233 := Tryd.underlying204
  a233 := Tryd.isAgg204
  z233 := Tryd.sizeOf204
  v233 := Tryd.zeroValue204
  g17 := by kernel_rfl
  g18 := by kernel_rfl
  g19 := by kernel_rfl }
open Go.RowKit Go.Sort Go.Lib in
theorem Tryd.strconv_Itoa_small (i : Nat) (hi : i < 100) (w : World) :
    Calls Tryd.prog 69 #[.int .i64 i] w fun e w' => e = .returned (.string ⟨(Lib.decDigits i).toArray⟩) ∧ w' = w := Any.strconv_Itoa_small Tryd.lays171 i hi w
def Tryd.laysC172_ren : Go.Shelf.Ren := ⟨fun | 172 => 72 | 244 => 93 | 245 => 94 | 247 => 107 | 279 => 108 | 280 => 109 | 281 => 110 | 282 => 111 | 287 => 128 | 316 => 129 | 171 => 69 | 205 => 130 | 321 => 145 | 322 => 146 | 243 => 91 | 246 => 105 | 283 => 120 | 284 => 121 | 285 => 122 | 286 => 123 | 129 => 139 | 317 => 138 | 318 => 140 | 319 => 141 | 320 => 142 | 337 => 150 | 338 => 151 | n => n, fun | 9 => 9 | 3 => 3 | 75 => 109 | 76 => 110 | 4 => 4 | 5 => 5 | 167 => 157 | 37 => 104 | 0 => 0 | 85 => 158 | 2 => 2 | 168 => 160 | 53 => 169 | 175 => 176 | 46 => 129 | 210 => 179 | 127 => 137 | 145 => 196 | 143 => 194 | 21 => 21 | 171 => 168 | 173 => 172 | 212 => 186 | 51 => 187 | 20 => 20 | 213 => 188 | 232 => 203 | 233 => 204 | 80 => 112 | n => n, fun | 15 => 1 | 16 => 2 | 17 => 3 | 18 => 6 | 19 => 7 | n => n⟩
theorem Tryd.laysC172 : Go.Proofs.LaysC.n172 Tryd.prog Tryd.laysC172_ren := {
  mixed := by kernel_rfl
  f129 := Tryd.func139.trans (congrArg some (by kernel_rfl))
  f171 := Tryd.func69.trans (congrArg some (by kernel_rfl))
  f172 := Tryd.func72.trans (congrArg some (by kernel_rfl))
  f205 := Tryd.func130.trans (congrArg some (by kernel_rfl))
  f243 := Tryd.func91.trans (congrArg some (by kernel_rfl))
  f244 := Tryd.func93.trans (congrArg some (by kernel_rfl))
  f245 := Tryd.func94.trans (congrArg some (by kernel_rfl))
  f246 := Tryd.func105.trans (congrArg some (by kernel_rfl))
  f247 := Tryd.func107.trans (congrArg some (by kernel_rfl))
  f279 := Tryd.func108.trans (congrArg some (by kernel_rfl))
  f280 := Tryd.func109.trans (congrArg some (by kernel_rfl))
  f281 := Tryd.func110.trans (congrArg some (by kernel_rfl))
  f282 := Tryd.func111.trans (congrArg some (by kernel_rfl))
  f283 := Tryd.func120.trans (congrArg some (by kernel_rfl))
  f284 := Tryd.func121.trans (congrArg some (by kernel_rfl))
  f285 := Tryd.func122.trans (congrArg some (by kernel_rfl))
  f286 := Tryd.func123.trans (congrArg some (by kernel_rfl))
  f287 := Tryd.func128.trans (congrArg some (by kernel_rfl))
  f316 := Tryd.func129.trans (congrArg some (by kernel_rfl))
  f317 := Tryd.func138.trans (congrArg some (by kernel_rfl))
  f318 := Tryd.func140.trans (congrArg some (by kernel_rfl))
  f319 := Tryd.func141.trans (congrArg some (by kernel_rfl))
  f320 := Tryd.func142.trans (congrArg some (by kernel_rfl))
  f321 := Tryd.func145.trans (congrArg some (by kernel_rfl))
  f322 := Tryd.func146.trans (congrArg some (by kernel_rfl))
  f337 := Tryd.func150.trans (congrArg some (by kernel_rfl))
  f338 := Tryd.func151.trans (congrArg some (by kernel_rfl))
  t0 := Tryd.underlying0
  a0 := Tryd.isAgg0
  z0 := Tryd.sizeOf0
  v0 := Tryd.zeroValue0
  t2 := Tryd.underlying2
  a2 := Tryd.isAgg2
  z2 := Tryd.sizeOf2
  v2 := Tryd.zeroValue2
  t3 := Tryd.underlying3
  a3 := Tryd.isAgg3
  z3 := Tryd.sizeOf3
  v3 := Tryd.zeroValue3
  t4 := Tryd.underlying4
  a4 := Tryd.isAgg4
  z4 := Tryd.sizeOf4
  v4 := Tryd.zeroValue4
  t5 := Tryd.underlying5
  a5 := Tryd.isAgg5
  z5 := Tryd.sizeOf5
  v5 := Tryd.zeroValue5
  t9 := Tryd.underlying9
  a9 := Tryd.isAgg9
  z9 := Tryd.sizeOf9
  v9 := Tryd.zeroValue9
  t20 := Tryd.underlying20
  a20 := Tryd.isAgg20
  z20 := Tryd.sizeOf20
  v20 := Tryd.zeroValue20
  t21 := Tryd.underlying21
  a21 := Tryd.isAgg21
  z21 := Tryd.sizeOf21
  v21 := Tryd.zeroValue21
  t37 := Tryd.underlying104
  a37 := Tryd.isAgg104
  z37 := Tryd.sizeOf104
  v37 := Tryd.zeroValue104
  t46 := Tryd.underlying129
  a46 := Tryd.isAgg129
  z46 := Tryd.sizeOf129
  v46 := Tryd.zeroValue129
  t51 := Tryd.underlying187
  a51 := Tryd.isAgg187
  z51 := Tryd.sizeOf187
  v51 := Tryd.zeroValue187
  t53 := Tryd.underlying169
  a53 := Tryd.isAgg169
  z53 := Tryd.sizeOf169
  v53 := Tryd.zeroValue169
  t75 := Tryd.underlying109
  a75 := Tryd.isAgg109
  z75 := Tryd.sizeOf109
  v75 := Tryd.zeroValue109
  t76 := Tryd.underlying110
  a76 := Tryd.isAgg110
  z76 := Tryd.sizeOf110
  v76 := Tryd.zeroValue110
  t85 := Tryd.underlying158
  a85 := Tryd.isAgg158
  z85 := Tryd.sizeOf158
  v85 := Tryd.zeroValue158
  t127 := Tryd.underlying137
  a127 := Tryd.isAgg137
  z127 := Tryd.sizeOf137
  v127 := Tryd.zeroValue137
  t143 := Tryd.underlying194
  a143 := Tryd.isAgg194
  z143 := Tryd.sizeOf194
  v143 := Tryd.zeroValue194
  t145 := Tryd.underlying196
  a145 := Tryd.isAgg196
  z145 := Tryd.sizeOf196
  v145 := Tryd.zeroValue196
  t167 := Tryd.underlying157
  a167 := Tryd.isAgg157
  z167 := Tryd.sizeOf157
  v167 := Tryd.zeroValue157
  t168 := Tryd.underlying160
  a168 := Tryd.isAgg160
  z168 := Tryd.sizeOf160
  v168 := Tryd.zeroValue160
  t171 := Tryd.underlying168
  a171 := Tryd.isAgg168
  z171 := Tryd.sizeOf168
  v171 := Tryd.zeroValue168
  t173 := Tryd.underlying172
  a173 := Tryd.isAgg172
  z173 := Tryd.sizeOf172
  v173 := Tryd.zeroValue172
  t175 := Tryd.underlying176
  a175 := Tryd.isAgg176
  z175 := Tryd.sizeOf176
  v175 := Tryd.zeroValue176
  t210 := Tryd.underlying179
  a210 := Tryd.isAgg179
  z210 := Tryd.sizeOf179
  v210 := Tryd.zeroValue179
  t212 := Tryd.underlying186
  a212 := Tryd.isAgg186
  z212 := Tryd.sizeOf186
  v212 := Tryd.zeroValue186
  t213 := Tryd.underlying188
  a213 := Tryd.isAgg188
  z213 := Tryd.sizeOf188
  t232 := Tryd.underlying203
  a232 := Tryd.isAgg203
  z232 := Tryd.sizeOf203
  v232 := Tryd.zeroValue203
  t233 := Tryd.underlying204
  a233 := Tryd.isAgg204
  z233 := Tryd.sizeOf204
  v233 := Tryd.zeroValue204
  g15 := by kernel_rfl
  g16 := by kernel_rfl
  g17 := by kernel_rfl
  g18 := by kernel_rfl
  g19 := by kernel_rfl
  t80 := Tryd.underlying112
  a80 := Tryd.isAgg112
  z80 := Tryd.sizeOf112
  v80 := Tryd.zeroValue112
  i0 := by kernel_rfl
  i2 := by kernel_rfl
  i3 := by kernel_rfl
  i4 := by kernel_rfl
  i5 := by kernel_rfl
  i9 := by kernel_rfl
  i20 := by kernel_rfl
  i21 := by kernel_rfl
  i37 := by kernel_rfl
  i46 := by kernel_rfl
  i51 := by kernel_rfl
  i53 := by kernel_rfl
  i75 := by kernel_rfl
  i76 := by kernel_rfl
  i80 := by kernel_rfl
  i85 := by kernel_rfl
  i127 := by kernel_rfl
  i143 := by kernel_rfl
  i145 := by kernel_rfl
  i167 := by kernel_rfl
  i168 := by kernel_rfl
  i171 := by kernel_rfl
  i173 := by kernel_rfl
  i175 := by kernel_rfl
  i210 := by kernel_rfl
  i212 := by kernel_rfl
  i232 := by kernel_rfl
  i233 := by kernel_rfl
  m15 := by kernel_rfl
  m16 := by kernel_rfl
  m17 := by kernel_rfl
  m18 := by kernel_rfl
  m19 := by kernel_rfl
  c0 := by kernel_rfl
  c2 := by kernel_rfl
  c3 := by kernel_rfl
  c4 := by kernel_rfl
  c5 := by kernel_rfl
  c9 := by kernel_rfl
  c20 := by kernel_rfl
  c21 := by kernel_rfl
  c37 := by kernel_rfl
  c46 := by kernel_rfl
  c51 := by kernel_rfl
  c53 := by kernel_rfl
  c75 := by kernel_rfl
  c76 := by kernel_rfl
  c80 := by kernel_rfl
  c85 := by kernel_rfl
  c127 := by kernel_rfl
  c143 := by kernel_rfl
  c145 := by kernel_rfl
  c167 := by kernel_rfl
  c168 := by kernel_rfl
  c171 := by kernel_rfl
  c173 := by kernel_rfl
  c175 := by kernel_rfl
  c210 := by kernel_rfl
  c212 := by kernel_rfl
  c213 := by kernel_rfl
  c232 := by kernel_rfl
  c233 := by kernel_rfl }
open Go.RowKit in
theorem Tryd.strconv_Atoi_ok (s : ByteArray) (hmax : s.size ≤ 9223372036854775806) (v : Int) (h : Lib.atoiAll s.data.toList = .ok v) (w : World) :
    Calls Tryd.prog 72 #[.string s] w fun e w' => e = .returned (.tuple #[.int .i64 v, .nilIface]) ∧ (w' = w ∨ ∃ t, w' = Lib.bytesWorld w 5 t) := Any.strconv_Atoi_ok Tryd.laysC172 s hmax v h w
open Go.RowKit in
theorem Tryd.strconv_Atoi_bad (s : ByteArray) (hlim : s.size ≤ 281474976710656) (h1 : ∀ v, Lib.atoiAll s.data.toList ≠ .ok v) (h2 : Lib.atoiAll s.data.toList ≠ .range) (ev : Value) (w : World) (hv : w.cell? ⟨1, 0, none⟩ = some ev) (hev : ev = .nilIface ∨ ∃ te pe, ev = .iface te pe) :
    Calls Tryd.prog 72 #[.string s] w fun e w' => ∃ N, e = .returned (.tuple #[.int .i64 (0), .iface 160 (.pointer (some ⟨N, 0, none⟩))]) ∧ w.heap.size ≤ N ∧ w'.heap[N]? = some (.cells #[.string ⟨#[65, 116, 111, 105]⟩, .string s, ev] 179 (0, 0)) ∧ Below w.heap.size w w' := Any.strconv_Atoi_syntax Tryd.laysC172 s hlim (by cases e : Lib.atoiAll s.data.toList <;> first | rfl | exact absurd e (h1 _) | exact absurd e h2) ev w hv hev
open Go.RowKit in
theorem Tryd.strconv_Atoi_range (s : ByteArray) (hlim : s.size ≤ 281474976710656) (h : Lib.atoiAll s.data.toList = .range) (ev : Value) (w : World) (hv : w.cell? ⟨2, 0, none⟩ = some ev) (hev : ev = .nilIface ∨ ∃ te pe, ev = .iface te pe) :
    Calls Tryd.prog 72 #[.string s] w fun e w' => ∃ N, e = .returned (.tuple #[.int .i64 (Lib.atoiSat s.data.toList), .iface 160 (.pointer (some ⟨N, 0, none⟩))]) ∧ w.heap.size ≤ N ∧ w'.heap[N]? = some (.cells #[.string ⟨#[65, 116, 111, 105]⟩, .string s, ev] 179 (0, 0)) ∧ Below w.heap.size w w' := Any.strconv_Atoi_range Tryd.laysC172 s hlim h ev w hv hev
def Tryd.lays219_ren : Go.Shelf.Ren := ⟨fun | 219 => 106 | 217 => 124 | 225 => 125 | 224 => 126 | 267 => 127 | 266 => 143 | 314 => 144 | n => n, fun | 9 => 9 | 3 => 3 | 4 => 4 | 5 => 5 | 46 => 129 | 146 => 191 | 51 => 187 | n => n, fun | 1 => 0 | n => n⟩
theorem Tryd.lays219 : Go.Proofs.Lays.n219 Tryd.prog Tryd.lays219_ren := {
  mixed := by kernel_rfl
  f217 := Tryd.func124.trans (congrArg some (by kernel_rfl))
  f219 := Tryd.func106.trans (congrArg some (by kernel_rfl))
  f224 := Tryd.func126.trans (congrArg some (by kernel_rfl))
  f225 := Tryd.func125.trans (congrArg some (by kernel_rfl))
  f266 := Tryd.func143.trans (congrArg some (by kernel_rfl))
  f267 := Tryd.func127.trans (congrArg some (by kernel_rfl))
  f314 := Tryd.func144.trans (congrArg some (by kernel_rfl))
  t3 := Tryd.underlying3
  a3 := Tryd.isAgg3
  z3 := Tryd.sizeOf3
  v3 := Tryd.zeroValue3
  t4 := Tryd.underlying4
  a4 := Tryd.isAgg4
  z4 := Tryd.sizeOf4
  v4 := Tryd.zeroValue4
  t5 := Tryd.underlying5
  a5 := Tryd.isAgg5
  z5 := Tryd.sizeOf5
  v5 := Tryd.zeroValue5
  t9 := Tryd.underlying9
  a9 := Tryd.isAgg9
  z9 := Tryd.sizeOf9
  v9 := Tryd.zeroValue9
  t46 := Tryd.underlying129
  a46 := Tryd.isAgg129
  z46 := Tryd.sizeOf129
  v46 := Tryd.zeroValue129
  t51 := Tryd.underlying187
  a51 := Tryd.isAgg187
  z51 := Tryd.sizeOf187
  v51 := Tryd.zeroValue187
  t146 := Tryd.underlying191
  a146 := Tryd.isAgg191
  z146 := Tryd.sizeOf191
  v146 := Tryd.zeroValue191
  g1 := by kernel_rfl }
open Go.RowKit Go.Lib in
theorem Tryd.stringslite_Index_one (s : ByteArray) (c : UInt8) (w : World) :
    Calls Tryd.prog 106 #[.string s, .string ⟨#[c]⟩] w fun e w' => e = .returned (.int .i64 (Lib.indexByte s.data.toList c)) ∧ w' = w := Any.stringslite_Index_one Tryd.lays219 s c w
def Tryd.laysM146_ren : Go.Shelf.Ren := ⟨fun | 146 => 79 | 221 => 98 | 268 => 113 | 138 => 114 | 143 => 115 | 195 => 132 | 197 => 133 | 218 => 134 | 219 => 106 | 260 => 147 | 217 => 124 | 225 => 125 | 224 => 126 | 267 => 127 | 266 => 143 | 314 => 144 | n => n, fun | 9 => 9 | 31 => 121 | 3 => 3 | 4 => 4 | 0 => 0 | 105 => 165 | 21 => 21 | 5 => 5 | 46 => 129 | 119 => 199 | 139 => 202 | 138 => 201 | 146 => 191 | 51 => 187 | n => n, fun | 1 => 0 | 3 => 4 | 4 => 5 | n => n⟩
theorem Tryd.laysM146 : Go.Proofs.LaysM.n146 Tryd.prog Tryd.laysM146_ren := {
  mixed := by kernel_rfl
  f138 := Tryd.func114.trans (congrArg some (by kernel_rfl))
  f143 := Tryd.func115.trans (congrArg some (by kernel_rfl))
  f146 := Tryd.func79.trans (congrArg some (by kernel_rfl))
  f195 := Tryd.func132.trans (congrArg some (by kernel_rfl))
  f197 := Tryd.func133.trans (congrArg some (by kernel_rfl))
  f217 := Tryd.func124.trans (congrArg some (by kernel_rfl))
  f218 := Tryd.func134.trans (congrArg some (by kernel_rfl))
  f219 := Tryd.func106.trans (congrArg some (by kernel_rfl))
  f221 := Tryd.func98.trans (congrArg some (by kernel_rfl))
  f224 := Tryd.func126.trans (congrArg some (by kernel_rfl))
  f225 := Tryd.func125.trans (congrArg some (by kernel_rfl))
  f260 := Tryd.func147.trans (congrArg some (by kernel_rfl))
  f266 := Tryd.func143.trans (congrArg some (by kernel_rfl))
  f267 := Tryd.func127.trans (congrArg some (by kernel_rfl))
  f268 := Tryd.func113.trans (congrArg some (by kernel_rfl))
  f314 := Tryd.func144.trans (congrArg some (by kernel_rfl))
  t0 := Tryd.underlying0
  a0 := Tryd.isAgg0
  z0 := Tryd.sizeOf0
  v0 := Tryd.zeroValue0
  t3 := Tryd.underlying3
  a3 := Tryd.isAgg3
  z3 := Tryd.sizeOf3
  v3 := Tryd.zeroValue3
  t4 := Tryd.underlying4
  a4 := Tryd.isAgg4
  z4 := Tryd.sizeOf4
  v4 := Tryd.zeroValue4
  t5 := Tryd.underlying5
  a5 := Tryd.isAgg5
  z5 := Tryd.sizeOf5
  v5 := Tryd.zeroValue5
  t9 := Tryd.underlying9
  a9 := Tryd.isAgg9
  z9 := Tryd.sizeOf9
  v9 := Tryd.zeroValue9
  t21 := Tryd.underlying21
  a21 := Tryd.isAgg21
  z21 := Tryd.sizeOf21
  v21 := Tryd.zeroValue21
  t31 := Tryd.underlying121
  a31 := Tryd.isAgg121
  z31 := Tryd.sizeOf121
  v31 := Tryd.zeroValue121
  t46 := Tryd.underlying129
  a46 := Tryd.isAgg129
  z46 := Tryd.sizeOf129
  v46 := Tryd.zeroValue129
  t51 := Tryd.underlying187
  a51 := Tryd.isAgg187
  z51 := Tryd.sizeOf187
  v51 := Tryd.zeroValue187
  t105 := Tryd.underlying165
  a105 := Tryd.isAgg165
  z105 := Tryd.sizeOf165
  v105 := Tryd.zeroValue165
  t119 := Tryd.underlying199
  a119 := Tryd.isAgg199
  z119 := Tryd.sizeOf199
  t138 := Tryd.underlying201
  a138 := Tryd.isAgg201
  z138 := Tryd.sizeOf201
  v138 := Tryd.zeroValue201
  t139 := Tryd.underlying202
  a139 := Tryd.isAgg202
  z139 := Tryd.sizeOf202
  v139 := Tryd.zeroValue202
  t146 := Tryd.underlying191
  a146 := Tryd.isAgg191
  z146 := Tryd.sizeOf191
  v146 := Tryd.zeroValue191
  g1 := by kernel_rfl
  g3 := by kernel_rfl
  g4 := by kernel_rfl
  i0 := by kernel_rfl
  i3 := by kernel_rfl
  i4 := by kernel_rfl
  i5 := by kernel_rfl
  i9 := by kernel_rfl
  i21 := by kernel_rfl
  i31 := by kernel_rfl
  i46 := by kernel_rfl
  i51 := by kernel_rfl
  i105 := by kernel_rfl
  i138 := by kernel_rfl
  i139 := by kernel_rfl
  i146 := by kernel_rfl
  m1 := by kernel_rfl
  s1_3 := fun w h => Go.Proofs.cell_of_shapedOpen_int (zero := #[.int .i64 0]) (t := 3) h (of_decide_eq_true (by kernel_rfl)) (by kernel_rfl) rfl (by kernel_rfl) (by kernel_rfl) Tryd.underlying3
  m3 := by kernel_rfl
  m4 := by kernel_rfl }
open Go.RowKit Go.Lib in
theorem Tryd.strings_Split_shaped (s sep : ByteArray) (w : World) (h : w.ShapedOpen Tryd.prog) (hs : s.size < 4294967281) (h1 : 1 ≤ sep.size) :
    Calls Tryd.prog 79 #[.string s, .string sep] w fun e w' =>
      e = .returned (.slice (some ⟨w.heap.size, 0, none⟩) (Lib.countB s sep + 1) (Lib.countB s sep + 1)) ∧ w' = w.alloc (.cells ((Lib.splitB sep 0 (Lib.countB s sep) s).map Value.string).toArray 9) := Any.strings_Split_shaped Tryd.laysM146 s sep w h hs h1
end Go.Proofs
