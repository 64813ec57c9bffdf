/- Texts of the claim, merged: only what the theorem needs. -/
import Derived.Test.YtaieficgifingaaGreatDoorPPm
import Derived.Shelf.Strings.Builder1
import Derived.Shelf.Strings.Trim
import Derived.Shelf.Small.Utf8
import Derived.Shelf.Small.Strs
import Derived.Shelf.Small.Wraps
import Derived.Shelf.Strings.BuilderF
import Derived.Shelf.Strings.BuilderK
import Derived.Shelf.Strconv.Atoi
import Derived.Shelf.Strconv.Itoa0
import Derived.Shelf.Strconv.Itoa1
import Derived.Shelf.LaysM
import Derived.Shelf.Strconv.Itoa2
import Derived.Shelf.Strconv.Itoa3
import Derived.Shelf.Strconv.Itoa4
import Derived.Shelf.Strconv.AtoiErrFast
import Derived.Shelf.Strconv.ParseIntEmpty
import Derived.Shelf.Strconv.AtoiFail
import Derived.Shelf.Strconv.Clone
import Derived.Shelf.Strconv.SyntaxError
import Derived.Shelf.LaysC
import Derived.Shelf.Strconv.ToError
import Derived.Shelf.Strconv.Lower
import Derived.Shelf.Strconv.ParseUint10
import Derived.Shelf.Strconv.ParseUint10Empty
import Derived.Shelf.Strconv.ParseUint10Any
import Derived.Shelf.Strconv.ParseInt10
import Derived.Shelf.Strconv.RangeError
import Derived.Shelf.Strconv.ToErrorRange
import Derived.Shelf.Strconv.ParseUintEmpty
import Derived.Shelf.Strconv.ParseUint10b64
import Derived.Shelf.Strconv.ParseUint10b32
import Derived.Shelf.Strconv.ParseUint10b16
import Derived.Shelf.Strconv.ParseUint10b8
import Derived.Shelf.Strconv.ParseUint10At
import Derived.Shelf.Strconv.ParseInt10At64
import Derived.Shelf.Strconv.ParseInt10At32
import Derived.Shelf.Strconv.ParseInt10At16
import Derived.Shelf.Strconv.ParseInt10At8
import Derived.Shelf.Strconv.ParseInt10All
import Derived.Shelf.Strconv.ParseIntPublic10
import Derived.Shelf.Strings.Search1
import Derived.Shelf.Strings.Search2
import Derived.Shelf.Strings.Cut
import Derived.Shelf.Strings.Shaped
import Derived.Shelf.Strings.Prefix
import Derived.Shelf.Unicode.Decode
import Derived.Shelf.Strings.Runes
import Derived.Shelf.Strings.IndexAny
import Derived.Shelf.Strings.AsciiSet
import Derived.Shelf.Strings.IndexAnyAll
import Derived.Shelf.Unicode.DecodeSlow
import Derived.Shelf.Unicode.DecodeAny
import Derived.Test.YtaieficgifingaaGreatDoorProg
namespace Go.Proofs
open Go.Shelf
def Tryz.lays161_ren : Go.Shelf.Ren := ⟨fun | 161 => 56 | 231 => 94 | 227 => 95 | 233 => 96 | 235 => 97 | 228 => 102 | 197 => 121 | 151 => 122 | 260 => 139 | 152 => 100 | 137 => 98 | 119 => 124 | 224 => 125 | 225 => 126 | 217 => 123 | 266 => 140 | n => n, fun | 9 => 9 | 4 => 4 | 3 => 3 | 5 => 5 | 117 => 142 | 116 => 141 | 0 => 0 | 124 => 145 | 105 => 167 | 21 => 21 | 119 => 191 | 46 => 138 | 139 => 194 | 138 => 193 | n => n, fun | 3 => 4 | 4 => 5 | n => n⟩
theorem Tryz.lays161 : Go.Proofs.Lays.n161 Tryz.prog Tryz.lays161_ren := {
  mixed := by kernel_rfl
  f119 := Tryz.func124.trans (congrArg some (by kernel_rfl))
  f137 := Tryz.func98.trans (congrArg some (by kernel_rfl))
  f151 := Tryz.func122.trans (congrArg some (by kernel_rfl))
  f152 := Tryz.func100.trans (congrArg some (by kernel_rfl))
  f161 := Tryz.func56.trans (congrArg some (by kernel_rfl))
  f197 := Tryz.func121.trans (congrArg some (by kernel_rfl))
  f217 := Tryz.func123.trans (congrArg some (by kernel_rfl))
  f224 := Tryz.func125.trans (congrArg some (by kernel_rfl))
  f225 := Tryz.func126.trans (congrArg some (by kernel_rfl))
  f227 := Tryz.func95.trans (congrArg some (by kernel_rfl))
  f228 := Tryz.func102.trans (congrArg some (by kernel_rfl))
  f231 := Tryz.func94.trans (congrArg some (by kernel_rfl))
  f233 := Tryz.func96.trans (congrArg some (by kernel_rfl))
  f235 := Tryz.func97.trans (congrArg some (by kernel_rfl))
  f260 := Tryz.func139.trans (congrArg some (by kernel_rfl))
  f266 := Tryz.func140.trans (congrArg some (by kernel_rfl))
  t0 := Tryz.underlying0
  a0 := Tryz.isAgg0
  z0 := Tryz.sizeOf0
  v0 := Tryz.zeroValue0
  t3 := Tryz.underlying3
  a3 := Tryz.isAgg3
  z3 := Tryz.sizeOf3
  v3 := Tryz.zeroValue3
  t4 := Tryz.underlying4
  a4 := Tryz.isAgg4
  z4 := Tryz.sizeOf4
  v4 := Tryz.zeroValue4
  t5 := Tryz.underlying5
  a5 := Tryz.isAgg5
  z5 := Tryz.sizeOf5
  v5 := Tryz.zeroValue5
  t9 := Tryz.underlying9
  a9 := Tryz.isAgg9
  z9 := Tryz.sizeOf9
  v9 := Tryz.zeroValue9
  t21 := Tryz.underlying21
  a21 := Tryz.isAgg21
  z21 := Tryz.sizeOf21
  v21 := Tryz.zeroValue21
  t46 := Tryz.underlying138
  a46 := Tryz.isAgg138
  z46 := Tryz.sizeOf138
  v46 := Tryz.zeroValue138
  t105 := Tryz.underlying167
  a105 := Tryz.isAgg167
  z105 := Tryz.sizeOf167
  v105 := Tryz.zeroValue167
  t116 := Tryz.underlying141
  a116 := Tryz.isAgg141
  z116 := Tryz.sizeOf141
  t117 := Tryz.underlying142
  a117 := Tryz.isAgg142
  z117 := Tryz.sizeOf142
  v117 := Tryz.zeroValue142
  t119 := Tryz.underlying191
  a119 := Tryz.isAgg191
  z119 := Tryz.sizeOf191
  t124 := Tryz.underlying145
  a124 := Tryz.isAgg145
  z124 := Tryz.sizeOf145
  v124 := Tryz.zeroValue145
  t138 := Tryz.underlying193
  a138 := Tryz.isAgg193
  z138 := Tryz.sizeOf193
  v138 := Tryz.zeroValue193
  t139 := Tryz.underlying194
  a139 := Tryz.isAgg194
  z139 := Tryz.sizeOf194
  v139 := Tryz.zeroValue194
  g3 := by kernel_rfl
  g4 := by kernel_rfl }
def Tryz.lays119_ren : Go.Shelf.Ren := ⟨fun | 119 => 124 | n => n, fun | 21 => 21 | 4 => 4 | n => n, fun | n => n⟩
theorem Tryz.lays119 : Go.Proofs.Lays.n119 Tryz.prog Tryz.lays119_ren := {
  mixed := by kernel_rfl
  f119 := Tryz.func124.trans (congrArg some (by kernel_rfl))
  t4 := Tryz.underlying4
  a4 := Tryz.isAgg4
  z4 := Tryz.sizeOf4
  v4 := Tryz.zeroValue4
  t21 := Tryz.underlying21
  a21 := Tryz.isAgg21
  z21 := Tryz.sizeOf21
  v21 := Tryz.zeroValue21 }
/-- utf8.ValidRune: "ValidRune reports whether r can be legally encoded as UTF-8. Code points that are out of range or a surrogate half are illegal.": IT RETURNS 'Lib.validRune r'; the world is as it was. (LAID: no walk: one application.) -/
theorem Tryz.utf8_ValidRune (r : Int) (w : World) :
    Calls Tryz.prog 124 #[.int .i32 r] w fun e w' => e = .returned (.bool (Lib.validRune r)) ∧ w' = w := Any.utf8_ValidRune Tryz.lays119 r w
def Tryz.lays137_ren : Go.Shelf.Ren := ⟨fun | 137 => 98 | 217 => 123 | 266 => 140 | n => n, fun | 9 => 9 | 5 => 5 | 3 => 3 | n => n, fun | n => n⟩
theorem Tryz.lays137 : Go.Proofs.Lays.n137 Tryz.prog Tryz.lays137_ren := {
  mixed := by kernel_rfl
  f137 := Tryz.func98.trans (congrArg some (by kernel_rfl))
  f217 := Tryz.func123.trans (congrArg some (by kernel_rfl))
  f266 := Tryz.func140.trans (congrArg some (by kernel_rfl))
  t3 := Tryz.underlying3
  a3 := Tryz.isAgg3
  z3 := Tryz.sizeOf3
  v3 := Tryz.zeroValue3
  t5 := Tryz.underlying5
  a5 := Tryz.isAgg5
  z5 := Tryz.sizeOf5
  v5 := Tryz.zeroValue5
  t9 := Tryz.underlying9
  a9 := Tryz.isAgg9
  z9 := Tryz.sizeOf9
  v9 := Tryz.zeroValue9 }
open Go.RowKit in
/-- strings.IndexByte: "IndexByte returns the index of the first instance of c in s, or -1 if c is not present in s.": IT RETURNS 'Lib.indexByte s c'; the world is as it was. (LAID: no walk: one application.) -/
theorem Tryz.strings_IndexByte (s : ByteArray) (c : Int) (w : World) :
    Calls Tryz.prog 98 #[.string s, .int .u8 c] w fun e w' => e = .returned (.int .i64 (Lib.indexByte s.data.toList c.toNat.toUInt8)) ∧ w' = w := Any.strings_IndexByte Tryz.lays137 s c w
def Tryz.lays103_ren : Go.Shelf.Ren := ⟨fun | 103 => 87 | 210 => 114 | 206 => 131 | n => n, fun | 9 => 9 | 4 => 4 | 24 => 134 | 3 => 3 | n => n, fun | n => n⟩
theorem Tryz.lays103 : Go.Proofs.Lays.n103 Tryz.prog Tryz.lays103_ren := {
  mixed := by kernel_rfl
  f103 := Tryz.func87.trans (congrArg some (by kernel_rfl))
  f206 := Tryz.func131.trans (congrArg some (by kernel_rfl))
  f210 := Tryz.func114.trans (congrArg some (by kernel_rfl))
  t3 := Tryz.underlying3
  a3 := Tryz.isAgg3
  z3 := Tryz.sizeOf3
  v3 := Tryz.zeroValue3
  t4 := Tryz.underlying4
  a4 := Tryz.isAgg4
  z4 := Tryz.sizeOf4
  v4 := Tryz.zeroValue4
  t9 := Tryz.underlying9
  a9 := Tryz.isAgg9
  z9 := Tryz.sizeOf9
  v9 := Tryz.zeroValue9
  t24 := Tryz.underlying134
  a24 := Tryz.isAgg134
  z24 := Tryz.sizeOf134
  v24 := Tryz.zeroValue134 }
open Go.RowKit in
/-- strings.CutPrefix: "CutPrefix returns s without the provided leading prefix string and reports whether it found the prefix. If s doesn't start with prefix, CutPrefix returns s, false. If prefix is the empty string, CutPrefix returns s, true.": IT RETURNS '(Lib.trimPrefix s p, Lib.hasPrefix s p)'; the world is as it was. (LAID: no walk: one application.) -/
theorem Tryz.strings_CutPrefix (s p : ByteArray) (w : World) :
    Calls Tryz.prog 87 #[.string s, .string p] w fun e w' => e = .returned (.tuple #[.string ⟨(Lib.trimPrefix s.data.toList p.data.toList).toArray⟩, .bool (Lib.hasPrefix s.data.toList p.data.toList)]) ∧ w' = w := Any.strings_CutPrefix Tryz.lays103 s p w
def Tryz.lays172_ren : Go.Shelf.Ren := ⟨fun | 172 => 60 | 244 => 103 | 245 => 104 | 247 => 115 | 279 => 127 | 280 => 128 | 281 => 129 | 282 => 130 | 287 => 132 | 316 => 141 | 171 => 31 | 205 => 142 | 321 => 143 | 322 => 144 | 243 => 71 | 246 => 92 | 283 => 116 | 284 => 117 | 285 => 118 | 286 => 119 | 129 => 134 | 317 => 133 | 318 => 135 | 319 => 136 | 320 => 137 | 337 => 145 | 338 => 146 | n => n, fun | 9 => 9 | 3 => 3 | 75 => 84 | 76 => 85 | 4 => 4 | 5 => 5 | 167 => 172 | 37 => 80 | 0 => 0 | 85 => 136 | 2 => 2 | 168 => 173 | 53 => 162 | 175 => 177 | 46 => 138 | 210 => 185 | 127 => 126 | 145 => 197 | 143 => 195 | 21 => 21 | 171 => 161 | 173 => 165 | 212 => 180 | 51 => 181 | 20 => 20 | 213 => 182 | 232 => 198 | 233 => 199 | 80 => 95 | n => n, fun | 15 => 2 | 16 => 3 | 17 => 0 | 18 => 6 | 19 => 7 | n => n⟩
theorem Tryz.lays172 : Go.Proofs.Lays.n172 Tryz.prog Tryz.lays172_ren := {
  mixed := by kernel_rfl
  f129 := Tryz.func134.trans (congrArg some (by kernel_rfl))
  f171 := Tryz.func31.trans (congrArg some (by kernel_rfl))
  f172 := Tryz.func60.trans (congrArg some (by kernel_rfl))
  f205 := Tryz.func142.trans (congrArg some (by kernel_rfl))
  f243 := Tryz.func71.trans (congrArg some (by kernel_rfl))
  f244 := Tryz.func103.trans (congrArg some (by kernel_rfl))
  f245 := Tryz.func104.trans (congrArg some (by kernel_rfl))
  f246 := Tryz.func92.trans (congrArg some (by kernel_rfl))
  f247 := Tryz.func115.trans (congrArg some (by kernel_rfl))
  f279 := Tryz.func127.trans (congrArg some (by kernel_rfl))
  f280 := Tryz.func128.trans (congrArg some (by kernel_rfl))
  f281 := Tryz.func129.trans (congrArg some (by kernel_rfl))
  f282 := Tryz.func130.trans (congrArg some (by kernel_rfl))
  f283 := Tryz.func116.trans (congrArg some (by kernel_rfl))
  f284 := Tryz.func117.trans (congrArg some (by kernel_rfl))
  f285 := Tryz.func118.trans (congrArg some (by kernel_rfl))
  f286 := Tryz.func119.trans (congrArg some (by kernel_rfl))
  f287 := Tryz.func132.trans (congrArg some (by kernel_rfl))
  f316 := Tryz.func141.trans (congrArg some (by kernel_rfl))
  f317 := Tryz.func133.trans (congrArg some (by kernel_rfl))
  f318 := Tryz.func135.trans (congrArg some (by kernel_rfl))
  f319 := Tryz.func136.trans (congrArg some (by kernel_rfl))
  f320 := Tryz.func137.trans (congrArg some (by kernel_rfl))
  f321 := Tryz.func143.trans (congrArg some (by kernel_rfl))
  f322 := Tryz.func144.trans (congrArg some (by kernel_rfl))
  f337 := Tryz.func145.trans (congrArg some (by kernel_rfl))
  f338 := Tryz.func146.trans (congrArg some (by kernel_rfl))
  t0 := Tryz.underlying0
  a0 := Tryz.isAgg0
  z0 := Tryz.sizeOf0
  v0 := Tryz.zeroValue0
  t2 := Tryz.underlying2
  a2 := Tryz.isAgg2
  z2 := Tryz.sizeOf2
  v2 := Tryz.zeroValue2
  t3 := Tryz.underlying3
  a3 := Tryz.isAgg3
  z3 := Tryz.sizeOf3
  v3 := Tryz.zeroValue3
  t4 := Tryz.underlying4
  a4 := Tryz.isAgg4
  z4 := Tryz.sizeOf4
  v4 := Tryz.zeroValue4
  t5 := Tryz.underlying5
  a5 := Tryz.isAgg5
  z5 := Tryz.sizeOf5
  v5 := Tryz.zeroValue5
  t9 := Tryz.underlying9
  a9 := Tryz.isAgg9
  z9 := Tryz.sizeOf9
  v9 := Tryz.zeroValue9
  t20 := Tryz.underlying20
  a20 := Tryz.isAgg20
  z20 := Tryz.sizeOf20
  v20 := Tryz.zeroValue20
  t21 := Tryz.underlying21
  a21 := Tryz.isAgg21
  z21 := Tryz.sizeOf21
  v21 := Tryz.zeroValue21
  t37 := Tryz.underlying80
  a37 := Tryz.isAgg80
  z37 := Tryz.sizeOf80
  v37 := Tryz.zeroValue80
  t46 := Tryz.underlying138
  a46 := Tryz.isAgg138
  z46 := Tryz.sizeOf138
  v46 := Tryz.zeroValue138
  t51 := Tryz.underlying181
  a51 := Tryz.isAgg181
  z51 := Tryz.sizeOf181
  v51 := Tryz.zeroValue181
  t53 := Tryz.underlying162
  a53 := Tryz.isAgg162
  z53 := Tryz.sizeOf162
  v53 := Tryz.zeroValue162
  t75 := Tryz.underlying84
  a75 := Tryz.isAgg84
  z75 := Tryz.sizeOf84
  v75 := Tryz.zeroValue84
  t76 := Tryz.underlying85
  a76 := Tryz.isAgg85
  z76 := Tryz.sizeOf85
  v76 := Tryz.zeroValue85
  t85 := Tryz.underlying136
  a85 := Tryz.isAgg136
  z85 := Tryz.sizeOf136
  v85 := Tryz.zeroValue136
  t127 := Tryz.underlying126
  a127 := Tryz.isAgg126
  z127 := Tryz.sizeOf126
  v127 := Tryz.zeroValue126
  t143 := Tryz.underlying195
  a143 := Tryz.isAgg195
  z143 := Tryz.sizeOf195
  v143 := Tryz.zeroValue195
  t145 := Tryz.underlying197
  a145 := Tryz.isAgg197
  z145 := Tryz.sizeOf197
  v145 := Tryz.zeroValue197
  t167 := Tryz.underlying172
  a167 := Tryz.isAgg172
  z167 := Tryz.sizeOf172
  v167 := Tryz.zeroValue172
  t168 := Tryz.underlying173
  a168 := Tryz.isAgg173
  z168 := Tryz.sizeOf173
  v168 := Tryz.zeroValue173
  t171 := Tryz.underlying161
  a171 := Tryz.isAgg161
  z171 := Tryz.sizeOf161
  v171 := Tryz.zeroValue161
  t173 := Tryz.underlying165
  a173 := Tryz.isAgg165
  z173 := Tryz.sizeOf165
  v173 := Tryz.zeroValue165
  t175 := Tryz.underlying177
  a175 := Tryz.isAgg177
  z175 := Tryz.sizeOf177
  v175 := Tryz.zeroValue177
  t210 := Tryz.underlying185
  a210 := Tryz.isAgg185
  z210 := Tryz.sizeOf185
  v210 := Tryz.zeroValue185
  t212 := Tryz.underlying180
  a212 := Tryz.isAgg180
  z212 := Tryz.sizeOf180
  v212 := Tryz.zeroValue180
  t213 := Tryz.underlying182
  a213 := Tryz.isAgg182
  z213 := Tryz.sizeOf182
  t232 := Tryz.underlying198
  a232 := Tryz.isAgg198
  z232 := Tryz.sizeOf198
  v232 := Tryz.zeroValue198
  t233 := Tryz.underlying199
  a233 := Tryz.isAgg199
  z233 := Tryz.sizeOf199
  v233 := Tryz.zeroValue199
  g15 := by kernel_rfl
  g16 := by kernel_rfl
  g17 := by kernel_rfl
  g18 := by kernel_rfl
  g19 := by kernel_rfl }
open Go.RowKit in
/-- strconv.Atoi: "Atoi is equivalent to ParseInt(s, 10, 0), converted to type int.": AT A DECIMAL NUMERAL OF AT MOST 18 BYTES: its value, and a nil error. The world behind the call: the one new row that the library's '[]byte(s)' lays. (LAID: no walk: one application.) -/
theorem Tryz.strconv_Atoi (s : ByteArray) (n : Int) (hl : s.size ≤ 18) (h : Lib.atoi s.data.toList = some n) (w : World) :
    Calls Tryz.prog 60 #[.string s] w fun e w' => e = .returned (.tuple #[.int .i64 n, .nilIface]) ∧ ∃ t, w' = Lib.bytesWorld w 5 t := Any.strconv_Atoi Tryz.lays172 s n hl h w
def Tryz.laysM171_ren : Go.Shelf.Ren := ⟨fun | 171 => 31 | 243 => 71 | 246 => 92 | 283 => 116 | 284 => 117 | 285 => 118 | 286 => 119 | 129 => 134 | 317 => 133 | 318 => 135 | 319 => 136 | 320 => 137 | 337 => 145 | 338 => 146 | n => n, fun | 3 => 3 | 9 => 9 | 2 => 2 | 4 => 4 | 171 => 161 | 0 => 0 | 53 => 162 | 37 => 80 | 5 => 5 | 173 => 165 | 212 => 180 | 51 => 181 | 20 => 20 | 213 => 182 | 46 => 138 | 232 => 198 | 233 => 199 | n => n, fun | 17 => 0 | 18 => 6 | 19 => 7 | n => n⟩
theorem Tryz.laysM171 : Go.Proofs.LaysM.n171 Tryz.prog Tryz.laysM171_ren := {
  mixed := by kernel_rfl
  f129 := Tryz.func134.trans (congrArg some (by kernel_rfl))
  f171 := Tryz.func31.trans (congrArg some (by kernel_rfl))
  f243 := Tryz.func71.trans (congrArg some (by kernel_rfl))
  f246 := Tryz.func92.trans (congrArg some (by kernel_rfl))
  f283 := Tryz.func116.trans (congrArg some (by kernel_rfl))
  f284 := Tryz.func117.trans (congrArg some (by kernel_rfl))
  f285 := Tryz.func118.trans (congrArg some (by kernel_rfl))
  f286 := Tryz.func119.trans (congrArg some (by kernel_rfl))
  f317 := Tryz.func133.trans (congrArg some (by kernel_rfl))
  f318 := Tryz.func135.trans (congrArg some (by kernel_rfl))
  f319 := Tryz.func136.trans (congrArg some (by kernel_rfl))
  f320 := Tryz.func137.trans (congrArg some (by kernel_rfl))
  f337 := Tryz.func145.trans (congrArg some (by kernel_rfl))
  f338 := Tryz.func146.trans (congrArg some (by kernel_rfl))
  t0 := Tryz.underlying0
  a0 := Tryz.isAgg0
  z0 := Tryz.sizeOf0
  v0 := Tryz.zeroValue0
  t2 := Tryz.underlying2
  a2 := Tryz.isAgg2
  z2 := Tryz.sizeOf2
  v2 := Tryz.zeroValue2
  t3 := Tryz.underlying3
  a3 := Tryz.isAgg3
  z3 := Tryz.sizeOf3
  v3 := Tryz.zeroValue3
  t4 := Tryz.underlying4
  a4 := Tryz.isAgg4
  z4 := Tryz.sizeOf4
  v4 := Tryz.zeroValue4
  t5 := Tryz.underlying5
  a5 := Tryz.isAgg5
  z5 := Tryz.sizeOf5
  v5 := Tryz.zeroValue5
  t9 := Tryz.underlying9
  a9 := Tryz.isAgg9
  z9 := Tryz.sizeOf9
  v9 := Tryz.zeroValue9
  t20 := Tryz.underlying20
  a20 := Tryz.isAgg20
  z20 := Tryz.sizeOf20
  v20 := Tryz.zeroValue20
  t37 := Tryz.underlying80
  a37 := Tryz.isAgg80
  z37 := Tryz.sizeOf80
  v37 := Tryz.zeroValue80
  t46 := Tryz.underlying138
  a46 := Tryz.isAgg138
  z46 := Tryz.sizeOf138
  v46 := Tryz.zeroValue138
  t51 := Tryz.underlying181
  a51 := Tryz.isAgg181
  z51 := Tryz.sizeOf181
  v51 := Tryz.zeroValue181
  t53 := Tryz.underlying162
  a53 := Tryz.isAgg162
  z53 := Tryz.sizeOf162
  v53 := Tryz.zeroValue162
  t171 := Tryz.underlying161
  a171 := Tryz.isAgg161
  z171 := Tryz.sizeOf161
  v171 := Tryz.zeroValue161
  t173 := Tryz.underlying165
  a173 := Tryz.isAgg165
  z173 := Tryz.sizeOf165
  v173 := Tryz.zeroValue165
  t212 := Tryz.underlying180
  a212 := Tryz.isAgg180
  z212 := Tryz.sizeOf180
  v212 := Tryz.zeroValue180
  t213 := Tryz.underlying182
  a213 := Tryz.isAgg182
  z213 := Tryz.sizeOf182
  t232 := Tryz.underlying198
  a232 := Tryz.isAgg198
  z232 := Tryz.sizeOf198
  v232 := Tryz.zeroValue198
  t233 := Tryz.underlying199
  a233 := Tryz.isAgg199
  z233 := Tryz.sizeOf199
  v233 := Tryz.zeroValue199
  g17 := by kernel_rfl
  g18 := by kernel_rfl
  g19 := by kernel_rfl
  i0 := by kernel_rfl
  i2 := by kernel_rfl
  i3 := by kernel_rfl
  i4 := by kernel_rfl
  i5 := by kernel_rfl
  i9 := by kernel_rfl
  i20 := by kernel_rfl
  i37 := by kernel_rfl
  i46 := by kernel_rfl
  i51 := by kernel_rfl
  i53 := by kernel_rfl
  i171 := by kernel_rfl
  i173 := by kernel_rfl
  i212 := by kernel_rfl
  i232 := by kernel_rfl
  i233 := by kernel_rfl
  m17 := by kernel_rfl
  m18 := by kernel_rfl
  m19 := by kernel_rfl }
open Go.RowKit Go.Sort Go.Lib in
/-- strconv.Itoa: "Itoa is equivalent to FormatInt(int64(i), 10).": i's DECIMAL NUMERAL ('Lib.itoa': a '-' where i is negative, then the digits), FOR EVERY int. The world behind the call: the world before it, new blocks behind the heap (the library's 'var a [24]byte'), draws. (LAID: no walk: one application.) -/
theorem Tryz.strconv_Itoa (n : Int) (h0 : -9223372036854775808 ≤ n) (h1 : n ≤ 9223372036854775807) (w : World) (htab : Lib.TabIs Tryz.prog w "internal/strconv.uint64pow10" .u64 Lib.pow10Tab) :
    Calls Tryz.prog 31 #[.int .i64 n] w fun e w' => e = .returned (.string ⟨(Lib.itoa n).toArray⟩) ∧ ∃ k os, w' = grow (w.drewN k) os := Any.strconv_Itoa Tryz.laysM171 n h0 h1 w htab
def Tryz.laysM173_ren : Go.Shelf.Ren := ⟨fun | 173 => 52 | 246 => 92 | 283 => 116 | 284 => 117 | 285 => 118 | 286 => 119 | 129 => 134 | 317 => 133 | 318 => 135 | 319 => 136 | 320 => 137 | 337 => 145 | 338 => 146 | n => n, fun | 2 => 2 | 3 => 3 | 9 => 9 | 4 => 4 | 171 => 161 | 0 => 0 | 53 => 162 | 37 => 80 | 5 => 5 | 173 => 165 | 212 => 180 | 51 => 181 | 20 => 20 | 213 => 182 | 46 => 138 | 232 => 198 | 233 => 199 | n => n, fun | 17 => 0 | 18 => 6 | 19 => 7 | n => n⟩
theorem Tryz.laysM173 : Go.Proofs.LaysM.n173 Tryz.prog Tryz.laysM173_ren := {
  mixed := by kernel_rfl
  f129 := Tryz.func134.trans (congrArg some (by kernel_rfl))
  f173 := Tryz.func52.trans (congrArg some (by kernel_rfl))
  f246 := Tryz.func92.trans (congrArg some (by kernel_rfl))
  f283 := Tryz.func116.trans (congrArg some (by kernel_rfl))
  f284 := Tryz.func117.trans (congrArg some (by kernel_rfl))
  f285 := Tryz.func118.trans (congrArg some (by kernel_rfl))
  f286 := Tryz.func119.trans (congrArg some (by kernel_rfl))
  f317 := Tryz.func133.trans (congrArg some (by kernel_rfl))
  f318 := Tryz.func135.trans (congrArg some (by kernel_rfl))
  f319 := Tryz.func136.trans (congrArg some (by kernel_rfl))
  f320 := Tryz.func137.trans (congrArg some (by kernel_rfl))
  f337 := Tryz.func145.trans (congrArg some (by kernel_rfl))
  f338 := Tryz.func146.trans (congrArg some (by kernel_rfl))
  t0 := Tryz.underlying0
  a0 := Tryz.isAgg0
  z0 := Tryz.sizeOf0
  v0 := Tryz.zeroValue0
  t2 := Tryz.underlying2
  a2 := Tryz.isAgg2
  z2 := Tryz.sizeOf2
  v2 := Tryz.zeroValue2
  t3 := Tryz.underlying3
  a3 := Tryz.isAgg3
  z3 := Tryz.sizeOf3
  v3 := Tryz.zeroValue3
  t4 := Tryz.underlying4
  a4 := Tryz.isAgg4
  z4 := Tryz.sizeOf4
  v4 := Tryz.zeroValue4
  t5 := Tryz.underlying5
  a5 := Tryz.isAgg5
  z5 := Tryz.sizeOf5
  v5 := Tryz.zeroValue5
  t9 := Tryz.underlying9
  a9 := Tryz.isAgg9
  z9 := Tryz.sizeOf9
  v9 := Tryz.zeroValue9
  t20 := Tryz.underlying20
  a20 := Tryz.isAgg20
  z20 := Tryz.sizeOf20
  v20 := Tryz.zeroValue20
  t37 := Tryz.underlying80
  a37 := Tryz.isAgg80
  z37 := Tryz.sizeOf80
  v37 := Tryz.zeroValue80
  t46 := Tryz.underlying138
  a46 := Tryz.isAgg138
  z46 := Tryz.sizeOf138
  v46 := Tryz.zeroValue138
  t51 := Tryz.underlying181
  a51 := Tryz.isAgg181
  z51 := Tryz.sizeOf181
  v51 := Tryz.zeroValue181
  t53 := Tryz.underlying162
  a53 := Tryz.isAgg162
  z53 := Tryz.sizeOf162
  v53 := Tryz.zeroValue162
  t171 := Tryz.underlying161
  a171 := Tryz.isAgg161
  z171 := Tryz.sizeOf161
  v171 := Tryz.zeroValue161
  t173 := Tryz.underlying165
  a173 := Tryz.isAgg165
  z173 := Tryz.sizeOf165
  v173 := Tryz.zeroValue165
  t212 := Tryz.underlying180
  a212 := Tryz.isAgg180
  z212 := Tryz.sizeOf180
  v212 := Tryz.zeroValue180
  t213 := Tryz.underlying182
  a213 := Tryz.isAgg182
  z213 := Tryz.sizeOf182
  t232 := Tryz.underlying198
  a232 := Tryz.isAgg198
  z232 := Tryz.sizeOf198
  v232 := Tryz.zeroValue198
  t233 := Tryz.underlying199
  a233 := Tryz.isAgg199
  z233 := Tryz.sizeOf199
  v233 := Tryz.zeroValue199
  g17 := by kernel_rfl
  g18 := by kernel_rfl
  g19 := by kernel_rfl
  i0 := by kernel_rfl
  i2 := by kernel_rfl
  i3 := by kernel_rfl
  i4 := by kernel_rfl
  i5 := by kernel_rfl
  i9 := by kernel_rfl
  i20 := by kernel_rfl
  i37 := by kernel_rfl
  i46 := by kernel_rfl
  i51 := by kernel_rfl
  i53 := by kernel_rfl
  i171 := by kernel_rfl
  i173 := by kernel_rfl
  i212 := by kernel_rfl
  i232 := by kernel_rfl
  i233 := by kernel_rfl
  m17 := by kernel_rfl
  m18 := by kernel_rfl
  m19 := by kernel_rfl }
open Go.RowKit Go.Sort Go.Lib in
/-- strconv.FormatInt: "FormatInt returns the string representation of i in the given base": AT BASE 10: i's decimal numeral, for every int64. (LAID: no walk: one application.) -/
theorem Tryz.strconv_FormatInt_10 (n : Int) (h0 : -9223372036854775808 ≤ n) (h1 : n ≤ 9223372036854775807) (w : World) (htab : Lib.TabIs Tryz.prog w "internal/strconv.uint64pow10" .u64 Lib.pow10Tab) :
    Calls Tryz.prog 52 #[.int .i64 n, .int .i64 10] w fun e w' => e = .returned (.string ⟨(Lib.itoa n).toArray⟩) ∧ ∃ k os, w' = grow (w.drewN k) os := Any.strconv_FormatInt_10 Tryz.laysM173 n h0 h1 w htab
def Tryz.laysC174_ren : Go.Shelf.Ren := ⟨fun | 174 => 91 | 247 => 115 | 245 => 104 | 287 => 132 | 279 => 127 | 280 => 128 | 281 => 129 | 282 => 130 | 321 => 143 | 322 => 144 | 316 => 141 | 171 => 31 | 205 => 142 | 243 => 71 | 246 => 92 | 283 => 116 | 284 => 117 | 285 => 118 | 286 => 119 | 129 => 134 | 317 => 133 | 318 => 135 | 319 => 136 | 320 => 137 | 337 => 145 | 338 => 146 | n => n, fun | 9 => 9 | 3 => 3 | 2 => 2 | 75 => 84 | 85 => 136 | 4 => 4 | 167 => 172 | 5 => 5 | 53 => 162 | 175 => 177 | 46 => 138 | 168 => 173 | 37 => 80 | 0 => 0 | 210 => 185 | 21 => 21 | 127 => 126 | 145 => 197 | 143 => 195 | 171 => 161 | 173 => 165 | 212 => 180 | 51 => 181 | 20 => 20 | 213 => 182 | 232 => 198 | 233 => 199 | 80 => 95 | n => n, fun | 15 => 2 | 16 => 3 | 17 => 0 | 18 => 6 | 19 => 7 | n => n⟩
theorem Tryz.laysC174 : Go.Proofs.LaysC.n174 Tryz.prog Tryz.laysC174_ren := {
  mixed := by kernel_rfl
  f129 := Tryz.func134.trans (congrArg some (by kernel_rfl))
  f171 := Tryz.func31.trans (congrArg some (by kernel_rfl))
  f174 := Tryz.func91.trans (congrArg some (by kernel_rfl))
  f205 := Tryz.func142.trans (congrArg some (by kernel_rfl))
  f243 := Tryz.func71.trans (congrArg some (by kernel_rfl))
  f245 := Tryz.func104.trans (congrArg some (by kernel_rfl))
  f246 := Tryz.func92.trans (congrArg some (by kernel_rfl))
  f247 := Tryz.func115.trans (congrArg some (by kernel_rfl))
  f279 := Tryz.func127.trans (congrArg some (by kernel_rfl))
  f280 := Tryz.func128.trans (congrArg some (by kernel_rfl))
  f281 := Tryz.func129.trans (congrArg some (by kernel_rfl))
  f282 := Tryz.func130.trans (congrArg some (by kernel_rfl))
  f283 := Tryz.func116.trans (congrArg some (by kernel_rfl))
  f284 := Tryz.func117.trans (congrArg some (by kernel_rfl))
  f285 := Tryz.func118.trans (congrArg some (by kernel_rfl))
  f286 := Tryz.func119.trans (congrArg some (by kernel_rfl))
  f287 := Tryz.func132.trans (congrArg some (by kernel_rfl))
  f316 := Tryz.func141.trans (congrArg some (by kernel_rfl))
  f317 := Tryz.func133.trans (congrArg some (by kernel_rfl))
  f318 := Tryz.func135.trans (congrArg some (by kernel_rfl))
  f319 := Tryz.func136.trans (congrArg some (by kernel_rfl))
  f320 := Tryz.func137.trans (congrArg some (by kernel_rfl))
  f321 := Tryz.func143.trans (congrArg some (by kernel_rfl))
  f322 := Tryz.func144.trans (congrArg some (by kernel_rfl))
  f337 := Tryz.func145.trans (congrArg some (by kernel_rfl))
  f338 := Tryz.func146.trans (congrArg some (by kernel_rfl))
  t0 := Tryz.underlying0
  a0 := Tryz.isAgg0
  z0 := Tryz.sizeOf0
  v0 := Tryz.zeroValue0
  t2 := Tryz.underlying2
  a2 := Tryz.isAgg2
  z2 := Tryz.sizeOf2
  v2 := Tryz.zeroValue2
  t3 := Tryz.underlying3
  a3 := Tryz.isAgg3
  z3 := Tryz.sizeOf3
  v3 := Tryz.zeroValue3
  t4 := Tryz.underlying4
  a4 := Tryz.isAgg4
  z4 := Tryz.sizeOf4
  v4 := Tryz.zeroValue4
  t5 := Tryz.underlying5
  a5 := Tryz.isAgg5
  z5 := Tryz.sizeOf5
  v5 := Tryz.zeroValue5
  t9 := Tryz.underlying9
  a9 := Tryz.isAgg9
  z9 := Tryz.sizeOf9
  v9 := Tryz.zeroValue9
  t20 := Tryz.underlying20
  a20 := Tryz.isAgg20
  z20 := Tryz.sizeOf20
  v20 := Tryz.zeroValue20
  t21 := Tryz.underlying21
  a21 := Tryz.isAgg21
  z21 := Tryz.sizeOf21
  v21 := Tryz.zeroValue21
  t37 := Tryz.underlying80
  a37 := Tryz.isAgg80
  z37 := Tryz.sizeOf80
  v37 := Tryz.zeroValue80
  t46 := Tryz.underlying138
  a46 := Tryz.isAgg138
  z46 := Tryz.sizeOf138
  v46 := Tryz.zeroValue138
  t51 := Tryz.underlying181
  a51 := Tryz.isAgg181
  z51 := Tryz.sizeOf181
  v51 := Tryz.zeroValue181
  t53 := Tryz.underlying162
  a53 := Tryz.isAgg162
  z53 := Tryz.sizeOf162
  v53 := Tryz.zeroValue162
  t75 := Tryz.underlying84
  a75 := Tryz.isAgg84
  z75 := Tryz.sizeOf84
  v75 := Tryz.zeroValue84
  t85 := Tryz.underlying136
  a85 := Tryz.isAgg136
  z85 := Tryz.sizeOf136
  v85 := Tryz.zeroValue136
  t127 := Tryz.underlying126
  a127 := Tryz.isAgg126
  z127 := Tryz.sizeOf126
  v127 := Tryz.zeroValue126
  t143 := Tryz.underlying195
  a143 := Tryz.isAgg195
  z143 := Tryz.sizeOf195
  v143 := Tryz.zeroValue195
  t145 := Tryz.underlying197
  a145 := Tryz.isAgg197
  z145 := Tryz.sizeOf197
  v145 := Tryz.zeroValue197
  t167 := Tryz.underlying172
  a167 := Tryz.isAgg172
  z167 := Tryz.sizeOf172
  v167 := Tryz.zeroValue172
  t168 := Tryz.underlying173
  a168 := Tryz.isAgg173
  z168 := Tryz.sizeOf173
  v168 := Tryz.zeroValue173
  t171 := Tryz.underlying161
  a171 := Tryz.isAgg161
  z171 := Tryz.sizeOf161
  v171 := Tryz.zeroValue161
  t173 := Tryz.underlying165
  a173 := Tryz.isAgg165
  z173 := Tryz.sizeOf165
  v173 := Tryz.zeroValue165
  t175 := Tryz.underlying177
  a175 := Tryz.isAgg177
  z175 := Tryz.sizeOf177
  v175 := Tryz.zeroValue177
  t210 := Tryz.underlying185
  a210 := Tryz.isAgg185
  z210 := Tryz.sizeOf185
  v210 := Tryz.zeroValue185
  t212 := Tryz.underlying180
  a212 := Tryz.isAgg180
  z212 := Tryz.sizeOf180
  v212 := Tryz.zeroValue180
  t213 := Tryz.underlying182
  a213 := Tryz.isAgg182
  z213 := Tryz.sizeOf182
  t232 := Tryz.underlying198
  a232 := Tryz.isAgg198
  z232 := Tryz.sizeOf198
  v232 := Tryz.zeroValue198
  t233 := Tryz.underlying199
  a233 := Tryz.isAgg199
  z233 := Tryz.sizeOf199
  v233 := Tryz.zeroValue199
  g15 := by kernel_rfl
  g16 := by kernel_rfl
  g17 := by kernel_rfl
  g18 := by kernel_rfl
  g19 := by kernel_rfl
  t80 := Tryz.underlying95
  a80 := Tryz.isAgg95
  z80 := Tryz.sizeOf95
  v80 := Tryz.zeroValue95
  i0 := by kernel_rfl
  i2 := by kernel_rfl
  i3 := by kernel_rfl
  i4 := by kernel_rfl
  i5 := by kernel_rfl
  i9 := by kernel_rfl
  i20 := by kernel_rfl
  i21 := by kernel_rfl
  i37 := by kernel_rfl
  i46 := by kernel_rfl
  i51 := by kernel_rfl
  i53 := by kernel_rfl
  i75 := by kernel_rfl
  i80 := by kernel_rfl
  i85 := by kernel_rfl
  i127 := by kernel_rfl
  i143 := by kernel_rfl
  i145 := by kernel_rfl
  i167 := by kernel_rfl
  i168 := by kernel_rfl
  i171 := by kernel_rfl
  i173 := by kernel_rfl
  i175 := by kernel_rfl
  i210 := by kernel_rfl
  i212 := by kernel_rfl
  i232 := by kernel_rfl
  i233 := by kernel_rfl
  m15 := by kernel_rfl
  m16 := by kernel_rfl
  m17 := by kernel_rfl
  m18 := by kernel_rfl
  m19 := by kernel_rfl
  c0 := by kernel_rfl
  c2 := by kernel_rfl
  c3 := by kernel_rfl
  c4 := by kernel_rfl
  c5 := by kernel_rfl
  c9 := by kernel_rfl
  c20 := by kernel_rfl
  c21 := by kernel_rfl
  c37 := by kernel_rfl
  c46 := by kernel_rfl
  c51 := by kernel_rfl
  c53 := by kernel_rfl
  c75 := by kernel_rfl
  c80 := by kernel_rfl
  c85 := by kernel_rfl
  c127 := by kernel_rfl
  c143 := by kernel_rfl
  c145 := by kernel_rfl
  c167 := by kernel_rfl
  c168 := by kernel_rfl
  c171 := by kernel_rfl
  c173 := by kernel_rfl
  c175 := by kernel_rfl
  c210 := by kernel_rfl
  c212 := by kernel_rfl
  c213 := by kernel_rfl
  c232 := by kernel_rfl
  c233 := by kernel_rfl }
open Go.RowKit in
/-- strconv.ParseInt(s, 10, 64), AT EVERY STRING THAT SPELLS AN int64 ('Lib.parseIntB 64 s.data.toList = .ok v'): v, AND NO ERROR. (LAID: no walk: one application.) -/
theorem Tryz.strconv_ParseInt_10_at64_ok (s : ByteArray) (hmax : s.size ≤ 9223372036854775806) (v : Int) (h : Lib.parseIntB 64 s.data.toList = .ok v) (w : World) :
    Calls Tryz.prog 91 #[.string s, .int .i64 10, .int .i64 64] w fun e w' => e = .returned (.tuple #[.int .i64 v, .nilIface]) ∧ (w' = w ∨ ∃ t, w' = Lib.bytesWorld w 5 t) := Any.strconv_ParseInt_10_at64_ok Tryz.laysC174 s hmax v h w
open Go.RowKit in
/-- strconv.ParseInt(s, 10, 64), AT EVERY NUMERAL THAT NO int64 HOLDS: THE GREATEST OR THE LEAST int64, BY THE SIGN ('Lib.intSat 64'), AND AN ERROR THAT IS NOT nil: a *NumError in a new block N: {Func: "ParseInt", Num: s's bytes, Err: what the variable ErrRange holds}. Of what was there nothing has turned. (LAID: no walk: one application.) -/
theorem Tryz.strconv_ParseInt_10_at64_range (s : ByteArray) (hlim : s.size ≤ 281474976710656) (h : Lib.parseIntB 64 s.data.toList = .range) (ev : Value) (w : World) (hv : w.cell? ⟨3, 0, none⟩ = some ev) (hev : ev = .nilIface ∨ ∃ te pe, ev = .iface te pe) :
    Calls Tryz.prog 91 #[.string s, .int .i64 10, .int .i64 64] w fun e w' => ∃ N, e = .returned (.tuple #[.int .i64 (Lib.intSat 64 s.data.toList), .iface 173 (.pointer (some ⟨N, 0, none⟩))]) ∧ w.heap.size ≤ N ∧ w'.heap[N]? = some (.cells #[.string ⟨#[80, 97, 114, 115, 101, 73, 110, 116]⟩, .string s, ev] 185 (0, 0)) ∧ Below w.heap.size w w' := Any.strconv_ParseInt_10_at64_range Tryz.laysC174 s hlim h ev w hv hev
def Tryz.lays219_ren : Go.Shelf.Ren := ⟨fun | 219 => 120 | 217 => 123 | 225 => 126 | 224 => 125 | 267 => 138 | 266 => 140 | 314 => 147 | n => n, fun | 9 => 9 | 3 => 3 | 4 => 4 | 5 => 5 | 46 => 138 | 146 => 189 | 51 => 181 | n => n, fun | 1 => 1 | n => n⟩
theorem Tryz.lays219 : Go.Proofs.Lays.n219 Tryz.prog Tryz.lays219_ren := {
  mixed := by kernel_rfl
  f217 := Tryz.func123.trans (congrArg some (by kernel_rfl))
  f219 := Tryz.func120.trans (congrArg some (by kernel_rfl))
  f224 := Tryz.func125.trans (congrArg some (by kernel_rfl))
  f225 := Tryz.func126.trans (congrArg some (by kernel_rfl))
  f266 := Tryz.func140.trans (congrArg some (by kernel_rfl))
  f267 := Tryz.func138.trans (congrArg some (by kernel_rfl))
  f314 := Tryz.func147.trans (congrArg some (by kernel_rfl))
  t3 := Tryz.underlying3
  a3 := Tryz.isAgg3
  z3 := Tryz.sizeOf3
  v3 := Tryz.zeroValue3
  t4 := Tryz.underlying4
  a4 := Tryz.isAgg4
  z4 := Tryz.sizeOf4
  v4 := Tryz.zeroValue4
  t5 := Tryz.underlying5
  a5 := Tryz.isAgg5
  z5 := Tryz.sizeOf5
  v5 := Tryz.zeroValue5
  t9 := Tryz.underlying9
  a9 := Tryz.isAgg9
  z9 := Tryz.sizeOf9
  v9 := Tryz.zeroValue9
  t46 := Tryz.underlying138
  a46 := Tryz.isAgg138
  z46 := Tryz.sizeOf138
  v46 := Tryz.zeroValue138
  t51 := Tryz.underlying181
  a51 := Tryz.isAgg181
  z51 := Tryz.sizeOf181
  v51 := Tryz.zeroValue181
  t146 := Tryz.underlying189
  a146 := Tryz.isAgg189
  z146 := Tryz.sizeOf189
  v146 := Tryz.zeroValue189
  g1 := by kernel_rfl }
open Go.RowKit Go.Lib in
/-- internal/stringslite.Index (what strings.Index calls) AT A substr OF ONE BYTE c: IT RETURNS 'Lib.indexByte s c'; the world is as it was. (LAID: no walk: one application.) -/
theorem Tryz.stringslite_Index_one (s : ByteArray) (c : UInt8) (w : World) :
    Calls Tryz.prog 120 #[.string s, .string ⟨#[c]⟩] w fun e w' => e = .returned (.int .i64 (Lib.indexByte s.data.toList c)) ∧ w' = w := Any.stringslite_Index_one Tryz.lays219 s c w
def Tryz.lays152_ren : Go.Shelf.Ren := ⟨fun | 152 => 100 | 137 => 98 | 119 => 124 | 224 => 125 | 225 => 126 | 217 => 123 | 266 => 140 | n => n, fun | 9 => 9 | 21 => 21 | 3 => 3 | 4 => 4 | 5 => 5 | 0 => 0 | 46 => 138 | n => n, fun | n => n⟩
theorem Tryz.lays152 : Go.Proofs.Lays.n152 Tryz.prog Tryz.lays152_ren := {
  mixed := by kernel_rfl
  f119 := Tryz.func124.trans (congrArg some (by kernel_rfl))
  f137 := Tryz.func98.trans (congrArg some (by kernel_rfl))
  f152 := Tryz.func100.trans (congrArg some (by kernel_rfl))
  f217 := Tryz.func123.trans (congrArg some (by kernel_rfl))
  f224 := Tryz.func125.trans (congrArg some (by kernel_rfl))
  f225 := Tryz.func126.trans (congrArg some (by kernel_rfl))
  f266 := Tryz.func140.trans (congrArg some (by kernel_rfl))
  t0 := Tryz.underlying0
  a0 := Tryz.isAgg0
  z0 := Tryz.sizeOf0
  v0 := Tryz.zeroValue0
  t3 := Tryz.underlying3
  a3 := Tryz.isAgg3
  z3 := Tryz.sizeOf3
  v3 := Tryz.zeroValue3
  t4 := Tryz.underlying4
  a4 := Tryz.isAgg4
  z4 := Tryz.sizeOf4
  v4 := Tryz.zeroValue4
  t5 := Tryz.underlying5
  a5 := Tryz.isAgg5
  z5 := Tryz.sizeOf5
  v5 := Tryz.zeroValue5
  t9 := Tryz.underlying9
  a9 := Tryz.isAgg9
  z9 := Tryz.sizeOf9
  v9 := Tryz.zeroValue9
  t21 := Tryz.underlying21
  a21 := Tryz.isAgg21
  z21 := Tryz.sizeOf21
  v21 := Tryz.zeroValue21
  t46 := Tryz.underlying138
  a46 := Tryz.isAgg138
  z46 := Tryz.sizeOf138
  v46 := Tryz.zeroValue138 }
open Go.RowKit Go.Lib in
theorem Tryz.strings_IndexRune_ascii (s : ByteArray) (r : Int) (w : World) (h0 : 0 ≤ r) (h1 : r < 128) :
    Calls Tryz.prog 100 #[.string s, .int .i32 r] w fun e w' => e = .returned (.int .i64 (Lib.indexByte s.data.toList r.toNat.toUInt8)) ∧ w' = w := Any.strings_IndexRune_ascii Tryz.lays152 s r w h0 h1
def Tryz.lays226_ren : Go.Shelf.Ren := ⟨fun | 226 => 101 | n => n, fun | 3 => 3 | 4 => 4 | n => n, fun | n => n⟩
theorem Tryz.lays226 : Go.Proofs.Lays.n226 Tryz.prog Tryz.lays226_ren := {
  mixed := by kernel_rfl
  f226 := Tryz.func101.trans (congrArg some (by kernel_rfl))
  t3 := Tryz.underlying3
  a3 := Tryz.isAgg3
  z3 := Tryz.sizeOf3
  v3 := Tryz.zeroValue3
  t4 := Tryz.underlying4
  a4 := Tryz.isAgg4
  z4 := Tryz.sizeOf4
  v4 := Tryz.zeroValue4 }
open Go.RowKit Go.Lib in
theorem Tryz.strings_shouldUseASCIISet (n : Int) (w : World) :
    Calls Tryz.prog 101 #[.int .i64 n] w fun e w' => e = .returned (.bool (decide (8 < n))) ∧ w' = w := Any.strings_shouldUseASCIISet Tryz.lays226 n w
def Tryz.lays153_ren : Go.Shelf.Ren := ⟨fun | 153 => 58 | 152 => 100 | 226 => 101 | 227 => 95 | 228 => 102 | 137 => 98 | 119 => 124 | 224 => 125 | 225 => 126 | 217 => 123 | 266 => 140 | n => n, fun | 9 => 9 | 3 => 3 | 4 => 4 | 5 => 5 | 21 => 21 | 117 => 142 | 116 => 141 | 0 => 0 | 46 => 138 | 124 => 145 | n => n, fun | n => n⟩
theorem Tryz.lays153 : Go.Proofs.Lays.n153 Tryz.prog Tryz.lays153_ren := {
  mixed := by kernel_rfl
  f119 := Tryz.func124.trans (congrArg some (by kernel_rfl))
  f137 := Tryz.func98.trans (congrArg some (by kernel_rfl))
  f152 := Tryz.func100.trans (congrArg some (by kernel_rfl))
  f153 := Tryz.func58.trans (congrArg some (by kernel_rfl))
  f217 := Tryz.func123.trans (congrArg some (by kernel_rfl))
  f224 := Tryz.func125.trans (congrArg some (by kernel_rfl))
  f225 := Tryz.func126.trans (congrArg some (by kernel_rfl))
  f226 := Tryz.func101.trans (congrArg some (by kernel_rfl))
  f227 := Tryz.func95.trans (congrArg some (by kernel_rfl))
  f228 := Tryz.func102.trans (congrArg some (by kernel_rfl))
  f266 := Tryz.func140.trans (congrArg some (by kernel_rfl))
  t0 := Tryz.underlying0
  a0 := Tryz.isAgg0
  z0 := Tryz.sizeOf0
  v0 := Tryz.zeroValue0
  t3 := Tryz.underlying3
  a3 := Tryz.isAgg3
  z3 := Tryz.sizeOf3
  v3 := Tryz.zeroValue3
  t4 := Tryz.underlying4
  a4 := Tryz.isAgg4
  z4 := Tryz.sizeOf4
  v4 := Tryz.zeroValue4
  t5 := Tryz.underlying5
  a5 := Tryz.isAgg5
  z5 := Tryz.sizeOf5
  v5 := Tryz.zeroValue5
  t9 := Tryz.underlying9
  a9 := Tryz.isAgg9
  z9 := Tryz.sizeOf9
  v9 := Tryz.zeroValue9
  t21 := Tryz.underlying21
  a21 := Tryz.isAgg21
  z21 := Tryz.sizeOf21
  v21 := Tryz.zeroValue21
  t46 := Tryz.underlying138
  a46 := Tryz.isAgg138
  z46 := Tryz.sizeOf138
  v46 := Tryz.zeroValue138
  t116 := Tryz.underlying141
  a116 := Tryz.isAgg141
  z116 := Tryz.sizeOf141
  t117 := Tryz.underlying142
  a117 := Tryz.isAgg142
  z117 := Tryz.sizeOf142
  v117 := Tryz.zeroValue142
  t124 := Tryz.underlying145
  a124 := Tryz.isAgg145
  z124 := Tryz.sizeOf145
  v124 := Tryz.zeroValue145 }
open Go.RowKit Go.Lib in
theorem Tryz.strings_IndexAny_long (hv116 : ∀ w, (zeroValue 141).run Tryz.prog w = .ok (.agg (Array.replicate 256 (.bool false))) w) (s chars : ByteArray) (w : World) (h2 : 2 ≤ chars.size) (h8 : 8 < s.size) (hs : s.size < 4294967281) (hcs : chars.size < 4294967281) (hascii : ∀ (j : Nat) b, chars.data.toList[j]? = some b → b.toNat < 128) :
    Calls Tryz.prog 58 #[.string s, .string chars] w fun e w' => e = .returned (.int .i64 (Lib.indexAny s.data.toList chars.data.toList)) ∧ w' = ((w.alloc (.cells (Lib.setCells chars.data.toList) 141)).alloc (.cells (Lib.setCells chars.data.toList) 141)) := Any.strings_IndexAny_long Tryz.lays153 hv116 (by kernel_rfl) s chars w h2 h8 hs hcs hascii
end Go.Proofs
namespace Go.Proofs.YtaieficgifingaaGreatDoor
set_option linter.unusedVariables false
set_option linter.unusedSimpArgs false
open Go.RowKit
set_option maxRecDepth 100000
set_option maxHeartbeats 4000000
/-- the number that digits say -/
def natS (l : List UInt8) : Nat := l.foldl (fun n c => n * 10 + (c.toNat - 48)) 0
def natFrom (a : Nat) (l : List UInt8) : Nat := l.foldl (fun n c => n * 10 + (c.toNat - 48)) a
theorem below_bytes (w : World) (e : TypeId) (s : ByteArray) : Below w.heap.size w (Lib.bytesWorld w e s) := ⟨rfl, rfl, rfl, by rw [Lib.bytesWorld_size]; omega, fun b hb => Lib.bytesWorld_at_old w e s b hb⟩
theorem digitVal_of {c : UInt8} (h : digB c = true) : Lib.digitVal c = some (c.toNat - 48) := by
  unfold digB at h
  simp only [Bool.and_eq_true, decide_eq_true_eq] at h
  unfold Lib.digitVal
  have h1 : (48 : UInt8) ≤ c := by
    rw [UInt8.le_iff_toNat_le]; exact h.1
  have h2 : c ≤ (57 : UInt8) := by
    rw [UInt8.le_iff_toNat_le]; exact h.2
  simp [h.1, h.2]
theorem decFrom_nat {l : List UInt8} (h : l.all digB = true) : ∀ a, Lib.decFrom a l = some (natFrom a l) := by
  induction l with
  | nil => intro a; rfl
  | cons c r ih =>
    intro a
    simp only [List.all_cons, Bool.and_eq_true] at h
    unfold Lib.decFrom
    rw [digitVal_of h.1]
    exact ih h.2 _
theorem digS_all {l : List UInt8} (h : digS l = true) : l.all digB = true ∧ l ≠ [] := by
  unfold digS at h
  simp only [Bool.and_eq_true] at h
  refine ⟨h.1.1, ?_⟩
  rintro rfl
  exact absurd h.1.2 (by simp)
theorem atoi_digits {l : List UInt8} (h : l.all digB = true) (hn : l ≠ []) : Lib.atoi l = some (natS l : Int) := by
  cases l with
  | nil => exact absurd rfl hn
  | cons b r =>
    have hb : digB b = true := by
      simp only [List.all_cons, Bool.and_eq_true] at h; exact h.1
    unfold digB at hb
    simp only [Bool.and_eq_true, decide_eq_true_eq] at hb
    unfold Lib.atoi
    have h1 : (b == 45) = false := by
      rw [beq_eq_false_iff_ne]; rintro rfl; exact absurd hb.1 (by decide)
    have h2 : (b == 43) = false := by
      rw [beq_eq_false_iff_ne]; rintro rfl; exact absurd hb.1 (by decide)
    simp only [h1, h2, if_false, Bool.false_eq_true]
    unfold Lib.decNat
    rw [decFrom_nat h]
    rfl
theorem atoi_spec (s : ByteArray) (hd : digS (strB s) = true) (hl : s.size ≤ 9) : Spec Tryz.prog 60 [.raw (.string s)] [] 0 (σ := Unit) (fun _ => True) (fun _ => .tup [.raw (.int .i64 (natS (strB s) : Nat)), .raw .nilIface]) (fun _ => []) :=
  Spec.lib (vs := [.string s]) (.tup [.raw (.int .i64 (natS (strB s) : Nat)), .raw .nilIface]) rfl rfl fun ρ w => by
    refine (Tryz.strconv_Atoi s (natS (strB s)) (by omega) (atoi_digits (digS_all hd).1 (digS_all hd).2) w).mono fun e w' ⟨h1, t, h2⟩ => ⟨h1, ?_⟩
    rw [h2]; exact below_bytes _ _ _
/-- a word: its text, is it one in quotes? -/
abbrev wdA (t : ByteArray) (q : Bool) : AV := .agg [.raw (.string t), .raw (.bool q)]
def numB (t : ByteArray) (q : Bool) : Bool := !q && digS (strB t) && decide (t.size ≤ 9)
def numV (t : ByteArray) (q : Bool) : Nat := if numB t q = true then natS (strB t) else 0
theorem hS8_ {P : Prop} (h : P := by repeat (first | exact HasIn.nil | refine HasIn.same rfl rfl ?_ | refine HasIn.bro rfl ?_ | refine HasIn.ror rfl ?_ | refine HasIn.cro rfl rfl ?_)) : P := h
theorem number_spec (t : ByteArray) (q : Bool) (ht : t.size ≤ 9223372036854775807) : Spec Tryz.prog 22 [wdA t q] [] 0 (σ := Unit) (fun _ => True) (fun _ => .tup [.raw (.int .i64 (numV t q : Nat)), .raw (.bool (numB t q))]) (fun _ => []) := by
  refine Spec.of Tryz.func22 rfl Tryz.ntmps22 rfl (bdl_nil _) fun ρ w => ?_
  unfold numV
  refine sS_ ?_
  cases q with
  | true =>
    rw [show numB t true = false from rfl]
    refine sS_ ?_
    refine X.fin ttok () [] trivial rfl rfl rfl hS5_ _ (by first | exact .inl rfl | exact .inr rfl)
  | false =>
    refine sS_ ?_
    refine R.cl [] (digits_spec t ht) Tryz.call59 hS8_ rfl rfl rfl (fun _ => rfl) rfl (by kernel_rfl) fun _ _ => ?_
    cases hd : digS (strB t) with
    | false =>
      rw [show numB t false = false by unfold numB; rw [hd]; rfl]
      refine sS_ ?_
      refine X.fin ttok () [] trivial rfl rfl rfl hS5_ _ (by first | exact .inl rfl | exact .inr rfl)
    | true =>
      refine sS_ ?_
      by_cases h9 : t.size ≤ 9
      · rw [show numB t false = true by unfold numB; rw [hd, decide_eq_true h9]; rfl]
        rw [decide_eq_false (show ¬ (t.size : Int) > 9 by omega)]
        refine sS_ ?_
        refine R.cl [] (atoi_spec t hd h9) Tryz.call60 hS8_ rfl rfl rfl (fun _ => rfl) rfl (by kernel_rfl) fun _ _ => ?_
        refine sS_ ?_
        refine C.draw [[], [], [1], [0], [0, 1, 2, 3]] [] (by kernel_rfl) (by kernel_rfl) ?_
        refine sS_ ?_
        refine R.eq0 rfl (Tryz.underlying84) rfl (by kernel_rfl) ?_
        refine sS_ ?_
        refine X.fin ttok () [] trivial rfl rfl rfl hS5_ _ (by first | exact .inl rfl | exact .inr rfl)
      · rw [show numB t false = false by unfold numB; rw [decide_eq_false h9, Bool.and_false]]
        rw [decide_eq_true (show (t.size : Int) > 9 by omega)]
        refine sS_ ?_
        refine X.fin ttok () [] trivial rfl rfl rfl hS5_ _ (by first | exact .inl rfl | exact .inr rfl)
end Go.Proofs.YtaieficgifingaaGreatDoor
namespace Go.Proofs.YtaieficgifingaaGreatDoor
set_option linter.unusedVariables false
set_option linter.unusedSimpArgs false
open Go.RowKit
set_option maxRecDepth 100000
set_option maxHeartbeats 4000000
/-- the tables that are laid for good -/
structure Glob (fs : Fam) : Prop where
  ro : ∀ p ∈ fs, p.rw = false
  er : ∃ ev T f, (⟨false, 3, .cells #[ev] T f⟩ : Fact) ∈ fs ∧ (ev = .nilIface ∨ ∃ te pe, ev = .iface te pe)
  pw : ∀ w, AtF fs w → Lib.TabIs Tryz.prog w "internal/strconv.uint64pow10" .u64 Lib.pow10Tab
theorem cell_er {fs : Fam} {w : World} {ev : Value} {T : TypeId} {f : Nat × Nat} (h : (⟨false, 3, .cells #[ev] T f⟩ : Fact) ∈ fs) (hat : AtF fs w) : w.cell? ⟨3, 0, none⟩ = some ev := by
  have := hat _ h
  unfold World.cell?
  simp only at this
  rw [this]
  rfl
/-- a number, be it too great -/
def numE {α : Type} : Lib.NumEnd α → Bool
  | .ok _ => true
  | .range => true
  | _ => false
theorem parseUM {M : Nat} {l : List UInt8} (h : l.all digB = true) : ∀ a, numE (Lib.parseUintM M a l) = true := by
  induction l with
  | nil => intro a; rfl
  | cons c r ih =>
    intro a
    simp only [List.all_cons, Bool.and_eq_true] at h
    have hc := h.1
    unfold digB at hc
    simp only [Bool.and_eq_true, decide_eq_true_eq] at hc
    unfold Lib.parseUintM
    rw [if_pos hc]
    split
    · rfl
    · split
      · rfl
      · exact ih h.2 _
theorem parseUB {B : Nat} {l : List UInt8} (h : l.all digB = true) (hn : l ≠ []) : numE (Lib.parseUintB B l) = true := by
  unfold Lib.parseUintB
  rw [if_neg hn]
  exact parseUM h 0
/-- what a number's text is, a sign ahead -/
def minB (l : List UInt8) : Bool := decide (l.headD 0 = 45) && !l.isEmpty
def tailM (l : List UInt8) : List UInt8 := if minB l = true then l.drop 1 else l
theorem parseIB {l : List UInt8} (h : digS (tailM l) = true) : numE (Lib.parseIntB 64 l) = true := by
  obtain ⟨h1, h2⟩ := digS_all h
  cases l with
  | nil => exact absurd rfl h2
  | cons c r =>
    unfold Lib.parseIntB
    have key : numE (Lib.parseUintB 64 (if c.toNat = 43 ∨ c.toNat = 45 then r else c :: r)) = true := by
      by_cases hc : c = 45
      · subst hc
        rw [if_pos (.inr rfl)]
        exact parseUB h1 h2
      · have ht : tailM (c :: r) = c :: r := by
          unfold tailM minB
          rw [if_neg]
          simp [hc]
        rw [ht] at h1 h2
        have hb : digB c = true := by
          simp only [List.all_cons, Bool.and_eq_true] at h1; exact h1.1
        unfold digB at hb
        simp only [Bool.and_eq_true, decide_eq_true_eq] at hb
        rw [if_neg (by omega)]
        exact parseUB h1 h2
    dsimp only
    split
    · rename_i he; rw [he] at key; cases key
    · rfl
    · split
      · rfl
      · split <;> rfl
def intP (l : List UInt8) : Int := match Lib.parseIntB 64 l with
  | .ok v => v
  | _ => Lib.intSat 64 l
def okP (l : List UInt8) : Bool := match Lib.parseIntB 64 l with
  | .ok _ => true
  | _ => false
theorem parseInt_spec (s : ByteArray) (hd : digS (tailM (strB s)) = true) (hs : s.size ≤ 281474976710656) (fs : Fam) (hG : Glob fs) : SpecF Tryz.prog 91 [.raw (.string s), .raw (.int .i64 10), .raw (.int .i64 64)] [] 0 fs (σ := Value) (fun ev => okP (strB s) = true ∧ ev = .nilIface ∨ okP (strB s) = false ∧ ∃ t v, ev = .iface t v) (fun ev => .tup [.raw (.int .i64 (intP (strB s))), .raw ev]) (fun _ => []) (fun _ => fs) :=
  SpecF.libX (vs := [.string s, .int .i64 10, .int .i64 64]) _ _ rfl (fun _ => rfl) fun ρ w hat => by
    have hns := parseIB hd
    unfold okP intP
    rcases hp : Lib.parseIntB 64 (strB s) with v | _ | _
    · refine (Tryz.strconv_ParseInt_10_at64_ok s (by omega) v hp w).mono fun e w' ⟨h1, h2⟩ => ⟨.nilIface, .inl ⟨rfl, rfl⟩, h1, ?_⟩
      rcases h2 with rfl | ⟨t, rfl⟩
      · exact Below.refl _ _
      · exact below_bytes _ _ _
    · rw [hp] at hns; cases hns
    · obtain ⟨ev, T, f, h1, h2⟩ := hG.er
      exact (Tryz.strconv_ParseInt_10_at64_range s hs hp ev w (cell_er h1 hat) h2).mono fun e w' ⟨N, h3, h4, h5, h6⟩ => ⟨_, .inr ⟨rfl, _, _, rfl⟩, h3, h6⟩
theorem cutPrefix_spec (s : ByteArray) (c : UInt8) : Spec Tryz.prog 87 [.raw (.string s), .raw (.string ⟨#[c]⟩)] [] 0 (σ := Unit) (fun _ => True) (fun _ => .tup [.raw (.string (strOf (Lib.trimPrefix (strB s) [c]))), .raw (.bool (Lib.hasPrefix (strB s) [c]))]) (fun _ => []) :=
  Spec.lib (vs := [.string s, .string ⟨#[c]⟩]) _ rfl rfl fun ρ w => (Tryz.strings_CutPrefix s ⟨#[c]⟩ w).mono fun e w' ⟨h1, h2⟩ => ⟨h1, by rw [h2]; exact Below.refl _ _⟩
theorem hasPre (l : List UInt8) (c : UInt8) : Lib.hasPrefix l [c] = (decide (l.headD 0 = c) && !l.isEmpty) := by
  unfold Lib.hasPrefix
  cases l with
  | nil => simp
  | cons a r =>
    simp only [List.isPrefixOf, List.headD_cons, List.isEmpty_cons, Bool.not_false, Bool.and_true]
    by_cases h : a = c
    · subst h; simp
    · have : ¬ c = a := fun e => h e.symm
      simp [h, this]
theorem trimPre (l : List UInt8) : Lib.trimPrefix l [45] = tailM l := by
  unfold Lib.trimPrefix tailM minB
  rw [hasPre]
  rfl
/-- a value -/
abbrev vlA (k : Nat) (i : Int) (t : ByteArray) : AV := .agg [.raw (.int .i64 (k : Nat)), .raw (.int .i64 i), .raw (.string t)]
structure VP where
  k : Nat
  i : Int
  t : ByteArray
  ok : Bool
def noT0 : ByteArray := ⟨#[]⟩
def valP (t : ByteArray) (q : Bool) : VP :=
  if q = true then ⟨2, 0, t, true⟩
  else if strB t = [110, 111, 110, 101] then ⟨0, 0, noT0, true⟩
  else if digS (tailM (strB t)) = false ∨ (minB (strB t) = true ∧ tailM (strB t) = [48]) then ⟨0, 0, noT0, false⟩
  else ⟨1, intP (strB t), noT0, okP (strB t)⟩
theorem value_spec (t : ByteArray) (q : Bool) (ht : t.size ≤ 281474976710656) (fs : Fam) (hG : Glob fs) : SpecF Tryz.prog 50 [wdA t q] [] 0 fs (σ := Unit) (fun _ => True) (fun _ => .tup [vlA (valP t q).k (valP t q).i (valP t q).t, .raw (.bool (valP t q).ok)]) (fun _ => []) (fun _ => fs) := by
  refine SpecF.of Tryz.func50 rfl Tryz.ntmps50 rfl (bdl_nil _) fun ρ w => ?_
  refine sS_ ?_
  cases q with
  | true =>
    refine sS_ ?_
    refine X.finF ttok () [] trivial rfl rfl rfl hS5_ _ (by first | exact .inl rfl | exact .inr rfl) ?_ ?_ ?_
    · exact fun w' hf => hf.ap
    · exact fun p hp => hp
    · exact fun p hp e => ⟨p, hp, rfl⟩
  | false =>
    refine sS_ ?_
    rw [eqL]
    by_cases hno : strB t = [110, 111, 110, 101]
    · rw [show valP t false = ⟨0, 0, noT0, true⟩ by unfold valP; rw [if_neg (by decide), if_pos hno]]
      rw [decide_eq_true (show strB t = #[110, 111, 110, 101].toList from hno)]
      refine sS_ ?_
      refine X.finF ttok () [] trivial rfl rfl rfl hS5_ _ (by first | exact .inl rfl | exact .inr rfl) ?_ ?_ ?_
      · exact fun w' hf => hf.ap
      · exact fun p hp => hp
      · exact fun p hp e => ⟨p, hp, rfl⟩
    · rw [decide_eq_false (show ¬ strB t = #[110, 111, 110, 101].toList from hno)]
      refine sS_ ?_
      refine R.cl [] (cutPrefix_spec t 45) Tryz.call87 hS8_ rfl rfl rfl (fun _ => rfl) rfl (by kernel_rfl) fun _ _ => ?_
      rw [hasPre, trimPre]
      rw [show (decide ((strB t).headD 0 = 45) && !(strB t).isEmpty) = minB (strB t) from rfl]
      refine sS_ ?_
      have hsz : (strOf (tailM (strB t))).size ≤ t.size := by
        have : (strOf (tailM (strB t))).size = (tailM (strB t)).length := by simp [strOf]; rfl
        rw [this, ← strB_size]
        unfold tailM
        split
        · rw [List.length_drop]; omega
        · omega
      refine R.cl [] (digits_spec (strOf (tailM (strB t))) (by omega)) Tryz.call59 hS8_ rfl rfl rfl (fun _ => rfl) rfl (by kernel_rfl) fun _ _ => ?_
      rw [show strB (strOf (tailM (strB t))) = tailM (strB t) from rfl]
      have hno2 : ¬ (false = true) := by decide
      cases hd : digS (tailM (strB t)) with
      | false =>
        rw [show valP t false = ⟨0, 0, noT0, false⟩ by unfold valP; rw [if_neg (by decide), if_neg hno, if_pos (.inl hd)]]
        refine sS_ ?_
        refine X.finF ttok () [] trivial rfl rfl rfl hS5_ _ (by first | exact .inl rfl | exact .inr rfl) ?_ ?_ ?_
        · exact fun w' hf => hf.ap
        · exact fun p hp => hp
        · exact fun p hp e => ⟨p, hp, rfl⟩
      | true =>
        cases hm : minB (strB t) with
        | false =>
          refine sS_ ?_
          have hn1 : ¬ (digS (tailM (strB t)) = false ∨ (minB (strB t) = true ∧ tailM (strB t) = [48])) := by
            rintro (h | ⟨h, _⟩)
            · rw [hd] at h; cases h
            · rw [hm] at h; cases h
          have hv : valP t false = ⟨1, intP (strB t), noT0, okP (strB t)⟩ := by unfold valP; rw [if_neg (by decide), if_neg hno, if_neg hn1]
          rw [hv]
          refine sS_ ?_
          refine R.clR [] (parseInt_spec t hd ht fs hG) hG.ro Tryz.call91 hS8_ rfl rfl rfl (fun _ => rfl) rfl (by kernel_rfl) fun ev hev => ?_
          rcases hev with ⟨hok, rfl⟩ | ⟨hok, te, pe, rfl⟩
          · rw [hok]
            refine sS_ ?_
            refine C.draw [[], [0], [], [2], [0, 1], [0, 1, 2, 3, 4]] [4] (by kernel_rfl) (by kernel_rfl) ?_
            refine sS_ ?_
            refine R.eq0 rfl (Tryz.underlying84) rfl (by kernel_rfl) ?_
            refine sS_ ?_
            refine X.finF ttok () [] trivial rfl rfl rfl hS5_ _ (by first | exact .inl rfl | exact .inr rfl) ?_ ?_ ?_
            · exact fun w' hf => hf.ap
            · exact fun p hp => hp
            · exact fun p hp e => ⟨p, hp, rfl⟩
          · rw [hok]
            refine sS_ ?_
            refine C.draw [[], [0], [], [2], [0, 1], [0, 1, 2, 3, 4]] [4] (by kernel_rfl) (by kernel_rfl) ?_
            refine sS_ ?_
            refine R.eq1 rfl (Tryz.underlying84) rfl (by kernel_rfl) ?_
            refine sS_ ?_
            refine X.finF ttok () [] trivial rfl rfl rfl hS5_ _ (by first | exact .inl rfl | exact .inr rfl) ?_ ?_ ?_
            · exact fun w' hf => hf.ap
            · exact fun p hp => hp
            · exact fun p hp e => ⟨p, hp, rfl⟩
        | true =>
          refine sS_ ?_
          rw [eqL, show strB (strOf (tailM (strB t))) = tailM (strB t) from rfl]
          by_cases h0 : tailM (strB t) = [48]
          · rw [show valP t false = ⟨0, 0, noT0, false⟩ by unfold valP; rw [if_neg (by decide), if_neg hno, if_pos (.inr ⟨hm, h0⟩)]]
            rw [decide_eq_true (show tailM (strB t) = #[48].toList from h0)]
            refine sS_ ?_
            refine X.finF ttok () [] trivial rfl rfl rfl hS5_ _ (by first | exact .inl rfl | exact .inr rfl) ?_ ?_ ?_
            · exact fun w' hf => hf.ap
            · exact fun p hp => hp
            · exact fun p hp e => ⟨p, hp, rfl⟩
          · rw [decide_eq_false (show ¬ tailM (strB t) = #[48].toList from h0)]
            refine sS_ ?_
            have hn1 : ¬ (digS (tailM (strB t)) = false ∨ (minB (strB t) = true ∧ tailM (strB t) = [48])) := by
              rintro (h | ⟨_, h⟩)
              · rw [hd] at h; cases h
              · exact h0 h
            have hv : valP t false = ⟨1, intP (strB t), noT0, okP (strB t)⟩ := by unfold valP; rw [if_neg (by decide), if_neg hno, if_neg hn1]
            rw [hv]
            refine sS_ ?_
            refine R.clR [] (parseInt_spec t hd ht fs hG) hG.ro Tryz.call91 hS8_ rfl rfl rfl (fun _ => rfl) rfl (by kernel_rfl) fun ev hev => ?_
            rcases hev with ⟨hok, rfl⟩ | ⟨hok, te, pe, rfl⟩
            · rw [hok]
              refine sS_ ?_
              refine C.draw [[], [0], [], [2], [0, 1], [0, 1, 2, 3, 4]] [4] (by kernel_rfl) (by kernel_rfl) ?_
              refine sS_ ?_
              refine R.eq0 rfl (Tryz.underlying84) rfl (by kernel_rfl) ?_
              refine sS_ ?_
              refine X.finF ttok () [] trivial rfl rfl rfl hS5_ _ (by first | exact .inl rfl | exact .inr rfl) ?_ ?_ ?_
              · exact fun w' hf => hf.ap
              · exact fun p hp => hp
              · exact fun p hp e => ⟨p, hp, rfl⟩
            · rw [hok]
              refine sS_ ?_
              refine C.draw [[], [0], [], [2], [0, 1], [0, 1, 2, 3, 4]] [4] (by kernel_rfl) (by kernel_rfl) ?_
              refine sS_ ?_
              refine R.eq1 rfl (Tryz.underlying84) rfl (by kernel_rfl) ?_
              refine sS_ ?_
              refine X.finF ttok () [] trivial rfl rfl rfl hS5_ _ (by first | exact .inl rfl | exact .inr rfl) ?_ ?_ ?_
              · exact fun w' hf => hf.ap
              · exact fun p hp => hp
              · exact fun p hp e => ⟨p, hp, rfl⟩
end Go.Proofs.YtaieficgifingaaGreatDoor
namespace Go.Proofs.YtaieficgifingaaGreatDoor
set_option linter.unusedVariables false
set_option linter.unusedSimpArgs false
open Go.RowKit
set_option maxRecDepth 100000
set_option maxHeartbeats 4000000
theorem avB_one {x : Int} {b : UInt8} (h : x = (b.toNat : Nat)) : [AV.raw (.int .u8 x)] = avB [b] := by rw [h]; rfl
/-- may this stand behind a text in quotes? -/
def gapB (l : List UInt8) : Bool := l.isEmpty || [32, 9, 35].contains (l.headD 0)
/-- a text in quotes, behind the first: the text, what is behind it -/
def quoteP : List UInt8 → List UInt8 → Option (List UInt8 × List UInt8)
  | _, [] => none
  | acc, c :: r =>
    if c = 34 then (if gapB r = true then some (acc, r) else none)
    else if c.toNat < 32 ∨ 126 < c.toNat then none
    else if c ≠ 92 then quoteP (acc ++ [c]) r
    else match r with
      | [] => none
      | d :: r2 =>
        if d = 34 ∨ d = 92 then quoteP (acc ++ [d]) r2
        else match r2 with
          | h1 :: h2 :: r3 => if d = 120 ∧ hexB h1 = true ∧ hexB h2 = true then quoteP (acc ++ [UInt8.ofNat (hexV h1 * 16 + hexV h2)]) r3 else none
          | _ => none
theorem quoteP_nil (acc : List UInt8) : quoteP acc [] = none := by rw [quoteP.eq_def]
theorem quoteP_end {acc r : List UInt8} : quoteP acc (34 :: r) = if gapB r = true then some (acc, r) else none := by
  rw [quoteP.eq_def]; dsimp only; rw [if_pos rfl]
theorem quoteP_bad {acc r : List UInt8} {c : UInt8} (h1 : c ≠ 34) (h2 : c.toNat < 32 ∨ 126 < c.toNat) : quoteP acc (c :: r) = none := by
  rw [quoteP.eq_def]; dsimp only; rw [if_neg h1, if_pos h2]
theorem quoteP_one {acc r : List UInt8} {c : UInt8} (h1 : c ≠ 34) (h2 : ¬ (c.toNat < 32 ∨ 126 < c.toNat)) (h3 : c ≠ 92) : quoteP acc (c :: r) = quoteP (acc ++ [c]) r := by
  rw [quoteP.eq_def]; dsimp only; rw [if_neg h1, if_neg h2, if_pos h3]
theorem quoteP_esc {acc r : List UInt8} {d : UInt8} (h : d = 34 ∨ d = 92) : quoteP acc (92 :: d :: r) = quoteP (acc ++ [d]) r := by
  rw [quoteP.eq_def]; dsimp only
  rw [if_neg (by decide), if_neg (by decide), if_neg (by decide), if_pos h]
theorem quoteP_esc0 {acc : List UInt8} : quoteP acc [92] = none := by
  rw [quoteP.eq_def]; dsimp only
  rw [if_neg (by decide), if_neg (by decide), if_neg (by decide)]
theorem quoteP_hex {acc r : List UInt8} {h1 h2 : UInt8} : quoteP acc (92 :: 120 :: h1 :: h2 :: r) = if hexB h1 = true ∧ hexB h2 = true then quoteP (acc ++ [UInt8.ofNat (hexV h1 * 16 + hexV h2)]) r else none := by
  rw [quoteP.eq_def]; dsimp only
  rw [if_neg (by decide), if_neg (by decide), if_neg (by decide), if_neg (by decide)]
  by_cases h : hexB h1 = true ∧ hexB h2 = true
  · rw [if_pos ⟨rfl, h⟩, if_pos h]
  · rw [if_neg (fun e => h e.2), if_neg h]
theorem quoteP_no {acc r : List UInt8} {d : UInt8} (h : ¬ (d = 34 ∨ d = 92)) (hx : d ≠ 120 ∨ r.length < 2) : quoteP acc (92 :: d :: r) = none := by
  rw [quoteP.eq_def]; dsimp only
  rw [if_neg (by decide), if_neg (by decide), if_neg (by decide), if_neg h]
  match r with
  | [] => rfl
  | [_] => rfl
  | h1 :: h2 :: r3 =>
    dsimp only
    rw [if_neg]
    rintro ⟨h3, _⟩
    rcases hx with hx | hx
    · exact hx h3
    · simp only [List.length_cons] at hx; omega
theorem drop_get {l : List UInt8} {i : Nat} (h : i < l.length) : l.drop i = l.getD i 0 :: l.drop (i + 1) := by
  rw [List.drop_eq_getElem_cons h, List.getD_eq_getElem?_getD, List.getElem?_eq_getElem h]; rfl
theorem extract_drop (s : ByteArray) (i : Nat) : strB (s.extract i s.size) = (strB s).drop i := by
  unfold strB
  rw [ByteArray.data_extract, Array.toList_extract, List.extract_eq_take_drop]
  refine List.take_of_length_le ?_
  rw [List.length_drop]
  have : s.size = s.data.toList.length := by rw [Array.length_toList]; rfl
  omega
end Go.Proofs.YtaieficgifingaaGreatDoor
namespace Go.Proofs.YtaieficgifingaaGreatDoor
set_option linter.unusedVariables false
set_option linter.unusedSimpArgs false
open Go.RowKit
set_option maxRecDepth 100000
set_option maxHeartbeats 4000000
def quotG (l : List UInt8) (r : ByteArray × ByteArray × Bool) : Prop := match quoteP [] (l.drop 1) with
  | some p => strB r.1 = p.1 ∧ strB r.2.1 = p.2 ∧ r.2.2 = true
  | none => r.2.2 = false
theorem indexByte_spec (s : ByteArray) (c : UInt8) : Spec Tryz.prog 98 [.raw (.string s), .raw (byteV c)] [] 0 (σ := Unit) (fun _ => True) (fun _ => .raw (.int .i64 (Lib.indexByte (strB s) c))) (fun _ => []) :=
  Spec.lib (vs := [.string s, byteV c]) _ rfl rfl fun ρ w => (Tryz.strings_IndexByte s (c.toNat : Nat) w).mono fun e w' ⟨h1, h2⟩ => ⟨by
    rw [h1]
    show Ending.returned (.int .i64 (Lib.indexByte s.data.toList ((c.toNat : Nat) : Int).toNat.toUInt8)) = .returned (.int .i64 (Lib.indexByte (strB s) c))
    rw [show (((c.toNat : Nat) : Int).toNat).toUInt8 = c by rw [Int.toNat_natCast]; exact UInt8.ofNat_toNat]
    rfl, by rw [h2]; exact Below.refl _ _⟩
theorem gap3 (c : UInt8) : decide (Lib.indexByte [32, 9, 35] c ≥ 0) = [32, 9, 35].contains c := by
  unfold Lib.indexByte Lib.indexByte Lib.indexByte Lib.indexByte
  by_cases h1 : c = 32
  · subst h1; rfl
  · by_cases h2 : c = 9
    · subst h2; rfl
    · by_cases h3 : c = 35
      · subst h3; rfl
      · have e1 : ((32 : UInt8) == c) = false := beq_eq_false_iff_ne.2 fun e => h1 e.symm
        have e2 : ((9 : UInt8) == c) = false := beq_eq_false_iff_ne.2 fun e => h2 e.symm
        have e3 : ((35 : UInt8) == c) = false := beq_eq_false_iff_ne.2 fun e => h3 e.symm
        simp [e1, e2, e3, h1, h2, h3]
theorem hexV_le (c : UInt8) : hexV c ≤ 15 := by
  unfold hexV
  split
  · omega
  · split <;> omega
theorem or16 {a b : Nat} (ha : a ≤ 15) (hb : b ≤ 15) : bitV .or .u8 ((a * 16 : Nat) : Int) ((b : Nat) : Int) = ((UInt8.ofNat (a * 16 + b)).toNat : Nat) := by
  have key : ∀ a b : Fin 16, bitV .or .u8 ((a.val * 16 : Nat) : Int) ((b.val : Nat) : Int) = ((a.val * 16 + b.val : Nat) : Int) := by decide
  have := key ⟨a, by omega⟩ ⟨b, by omega⟩
  refine this.trans ?_
  rw [UInt8.toNat_ofNat']
  congr 1
  show a * 16 + b = (a * 16 + b) % 2 ^ 8
  omega
theorem quoted_spec (s : ByteArray) (hs : s.size ≤ 1000000) : Spec Tryz.prog 57 [.raw (.string s)] [] 0 (σ := ByteArray × ByteArray × Bool) (quotG (strB s)) (fun r => .tup [.raw (.string r.1), .raw (.string r.2.1), .raw (.bool r.2.2)]) (fun _ => []) := by
  refine Spec.of Tryz.func57 rfl Tryz.ntmps57 rfl (bdl_nil _) fun ρ w => ?_
  have hlen := strB_size s
  refine C.seq ?_
  refine C.region ?_
  repeat (first | refine R.zb ttok ?_ | refine R.zu ttok ?_ | refine R.zc ttok ?_ | refine R.za ttok ?_ | refine R.zx ?_ | refine R.zl ttok ?_ | refine R.zs ttok ?_ | refine R.z ttok ?_ | refine R.zk ?_ | refine R.zn ?_)
  refine R.done ?_
  refine X.then ?_
  refine C.seq ?_
  refine C.region ?_
  repeat (first | refine R.zb ttok ?_ | refine R.zu ttok ?_ | refine R.zc ttok ?_ | refine R.za ttok ?_ | refine R.zx ?_ | refine R.zl ttok ?_ | refine R.zs ttok ?_ | refine R.z ttok ?_ | refine R.zk ?_ | refine R.zn ?_)
  refine R.done ?_
  refine X.then ?_
  refine C.noneT 5 (.sl 0 1 0 0 0) (.bytes [] 0 5) (none_bytes _ _) rfl rfl rfl (fun ρ h => sl_none h) ?_
  refine sS_ ?_
  refine C.loop (σ := Nat × List UInt8 × Nat) (L2 := 1) (fun x => 1 ≤ x.1 ∧ x.2.1.length ≤ x.1 ∧ x.2.2 ≤ 9223372036854775807 ∧ quoteP [] ((strB s).drop 1) = quoteP x.2.1 ((strB s).drop x.1)) (fun x => [(0, .raw (.string s)), (5, .sl 0 1 0 x.2.1.length x.2.2), (6, .raw (.int .i64 (x.1 : Nat)))]) (fun x => [(0, .bytes x.2.1 x.2.2 5)]) _ (fun x => s.size - x.1) [] (1, [], 0) ⟨Nat.le_refl _, Nat.zero_le _, Nat.zero_le _, rfl⟩ rfl hS9_ hS7_ rfl (fun _ h => h) ?_
  rintro ⟨i, p, c⟩ ⟨h1, hp, hc, hq⟩
  dsimp only at h1 hp hc hq ⊢
  refine sS_ ?_
  by_cases hlt : i < s.size
  · have hlt' : i < (strB s).length := by omega
    rw [decide_eq_true (show ((i : Nat) : Int) < (s.size : Nat) by omega)]
    rw [drop_get hlt'] at hq
    refine sS_ ?_
    refine R.sx ttok i rfl rfl rfl rfl rfl rfl hlt' ?_
    rw [show s.data.toList.getD i 0 = (strB s).getD i 0 from rfl]
    obtain ⟨b, hb⟩ : ∃ b, (strB s).getD i 0 = b := ⟨_, rfl⟩
    rw [hb] at hq ⊢
    refine sS_ ?_
    have hbN : b.toNat < 256 := b.toNat_lt
    by_cases h34 : b = 34
    · subst h34
      rw [quoteP_end] at hq
      rw [show decide ((((34 : UInt8).toNat : Nat) : Int) = 34) = true from rfl]
      refine sS_ ?_
      refine R.sls ttok (i + 1) s.size rfl rfl rfl rfl (by kernel_rfl) ⟨_, _, rfl, by omega⟩ rfl (by omega) (Nat.le_refl _) ?_
      obtain ⟨r, hr⟩ : ∃ r, s.extract (i + 1) s.size = r := ⟨_, rfl⟩
      have hrd : strB r = (strB s).drop (i + 1) := by rw [← hr]; exact extract_drop s (i + 1)
      rw [← hrd] at hq
      rw [hr]
      refine sS_ ?_
      refine C.anyhow (by kernel_rfl) (by kernel_rfl) ?_
      refine CW.either 1 8 (by kernel_rfl) ?_ ?_
      · refine CW.draw [[], [0], [], [], [3], [3, 4], [3, 4, 5], [3, 4, 5, 6], [0, 1, 3, 4, 5, 6, 7], [0, 1, 3, 4, 5, 6, 7, 8], [0, 1, 3, 4, 5, 6, 7, 8, 9], [0, 1, 3, 4, 5, 6, 7, 8], [0, 1, 2, 3, 4, 5, 6, 7, 8, 11], [0, 1, 2, 3, 4, 5, 6, 7, 8, 9, 10, 11, 12]] [1, 8] (by kernel_rfl) ?_
        refine sS_ ?_
        refine R.b2s ttok p rfl (SrcA.bytes0 rfl) rfl rfl rfl rfl rfl rfl rfl rfl rfl (by kernel_rfl) ?_
        refine sS_ ?_
        rw [eqE]
        cases hre : strB r with
        | nil =>
          refine sS_ ?_
          refine X.fin ttok (strOf p, r, true) [] (by unfold quotG; rw [hq, show gapB (strB r) = true by rw [hre]; rfl]; exact ⟨rfl, rfl, rfl⟩) rfl rfl rfl hS5_ _ (by first | exact .inl rfl | exact .inr rfl)
        | cons x r2 =>
          refine sS_ ?_
          refine R.sx ttok 0 rfl rfl rfl rfl rfl rfl (by show 0 < (strB r).length; rw [hre]; simp) ?_
          rw [show r.data.toList.getD 0 0 = x by show (strB r).getD 0 0 = x; rw [hre]; rfl]
          refine sS_ ?_
          refine R.cl [] (indexByte_spec ⟨#[32, 9, 35]⟩ x) Tryz.call98 hS8_ rfl rfl rfl (fun _ => rfl) rfl (by kernel_rfl) fun _ _ => ?_
          refine sS_ ?_
          rw [show decide (Lib.indexByte (strB ⟨#[32, 9, 35]⟩) x ≥ 0) = ([32, 9, 35] : List UInt8).contains x from gap3 x]
          refine sS_ ?_
          cases hg : ([32, 9, 35] : List UInt8).contains x with
          | true => refine X.fin ttok (strOf p, r, true) [] (by unfold quotG; rw [hq, show gapB (strB r) = true by rw [hre]; exact hg]; exact ⟨rfl, rfl, rfl⟩) rfl rfl rfl hS5_ _ (by first | exact .inl rfl | exact .inr rfl)
          | false => refine X.fin ttok (strOf p, r, false) [] (by unfold quotG; rw [hq, show gapB (strB r) = false by rw [hre]; exact hg]; rfl) rfl rfl rfl hS5_ _ (by first | exact .inl rfl | exact .inr rfl)
      · refine CW.order [3, 4, 5, 6, 7, 8, 0, 1, 2, 9, 10, 11, 12, 13] [6, 7, 8, 0, 1, 2, 3, 4, 5, 9, 10, 11, 12, 13] (by kernel_rfl) ?_
        refine CW.draw [[], [0], [0, 1], [0, 1, 2], [0, 1, 2, 3], [0, 1, 2, 3, 4], [], [0, 1, 2, 3, 4, 5, 6], [], [0, 1, 2, 3, 4, 5], [0, 1, 2, 3, 4, 5, 9], [0, 1, 2, 3, 4, 5, 6, 7], [0, 1, 2, 3, 4, 5, 6, 7, 8, 11], [0, 1, 2, 3, 4, 5, 6, 7, 8, 9, 10, 11, 12]] [5, 7] (by kernel_rfl) ?_
        refine sS_ ?_
        rw [eqE]
        cases hre : strB r with
        | nil =>
          refine sS_ ?_
          refine R.b2s ttok p rfl (SrcA.bytes0 rfl) rfl rfl rfl rfl rfl rfl rfl rfl rfl (by kernel_rfl) ?_
          refine sS_ ?_
          refine X.fin ttok (strOf p, r, true) [] (by unfold quotG; rw [hq, show gapB (strB r) = true by rw [hre]; rfl]; exact ⟨rfl, rfl, rfl⟩) rfl rfl rfl hS5_ _ (by first | exact .inl rfl | exact .inr rfl)
        | cons x r2 =>
          refine sS_ ?_
          refine R.sx ttok 0 rfl rfl rfl rfl rfl rfl (by show 0 < (strB r).length; rw [hre]; simp) ?_
          rw [show r.data.toList.getD 0 0 = x by show (strB r).getD 0 0 = x; rw [hre]; rfl]
          refine sS_ ?_
          refine R.cl [] (indexByte_spec ⟨#[32, 9, 35]⟩ x) Tryz.call98 hS8_ rfl rfl rfl (fun _ => rfl) rfl (by kernel_rfl) fun _ _ => ?_
          refine sS_ ?_
          refine R.b2s ttok p rfl (SrcA.bytes0 rfl) rfl rfl rfl rfl rfl rfl rfl rfl rfl (by kernel_rfl) ?_
          refine sS_ ?_
          rw [show decide (Lib.indexByte (strB ⟨#[32, 9, 35]⟩) x ≥ 0) = ([32, 9, 35] : List UInt8).contains x from gap3 x]
          refine sS_ ?_
          cases hg : ([32, 9, 35] : List UInt8).contains x with
          | true => refine X.fin ttok (strOf p, r, true) [] (by unfold quotG; rw [hq, show gapB (strB r) = true by rw [hre]; exact hg]; exact ⟨rfl, rfl, rfl⟩) rfl rfl rfl hS5_ _ (by first | exact .inl rfl | exact .inr rfl)
          | false => refine X.fin ttok (strOf p, r, false) [] (by unfold quotG; rw [hq, show gapB (strB r) = false by rw [hre]; exact hg]; rfl) rfl rfl rfl hS5_ _ (by first | exact .inl rfl | exact .inr rfl)
    · have h34N : ¬ (((b.toNat : Nat) : Int) = 34) := fun e => h34 (UInt8.toNat_inj.1 (show b.toNat = 34 by omega))
      rw [decide_eq_false h34N]
      refine sS_ ?_
      by_cases hlo : b.toNat < 32
      · rw [decide_eq_true (show ((b.toNat : Nat) : Int) < 32 by omega)]
        rw [quoteP_bad h34 (.inl hlo)] at hq
        refine sS_ ?_
        refine X.fin ttok (⟨#[]⟩, ⟨#[]⟩, false) [] (by unfold quotG; rw [hq]) rfl rfl rfl hS5_ _ (by first | exact .inl rfl | exact .inr rfl)
      · rw [decide_eq_false (show ¬ ((b.toNat : Nat) : Int) < 32 by omega)]
        refine sS_ ?_
        by_cases hhi : 126 < b.toNat
        · rw [decide_eq_true (show ((b.toNat : Nat) : Int) > 126 by omega)]
          rw [quoteP_bad h34 (.inr hhi)] at hq
          refine sS_ ?_
          refine X.fin ttok (⟨#[]⟩, ⟨#[]⟩, false) [] (by unfold quotG; rw [hq]) rfl rfl rfl hS5_ _ (by first | exact .inl rfl | exact .inr rfl)
        · rw [decide_eq_false (show ¬ ((b.toNat : Nat) : Int) > 126 by omega)]
          refine sS_ ?_
          by_cases h92 : b = 92
          · subst h92
            rw [show decide ((((92 : UInt8).toNat : Nat) : Int) ≠ 92) = false from rfl]
            refine sS_ ?_
            by_cases h2 : i + 1 < s.size
            · have h2' : i + 1 < (strB s).length := by omega
              rw [decide_eq_true (show (i : Int) + 1 < (s.size : Nat) by omega)]
              rw [drop_get h2'] at hq
              obtain ⟨d, hd⟩ : ∃ d, (strB s).getD (i + 1) 0 = d := ⟨_, rfl⟩
              rw [hd] at hq
              have hdN : d.toNat < 256 := d.toNat_lt
              have hcv : ∀ k : UInt8, ((((d.toNat : Nat) : Int) = (k.toNat : Nat)) ↔ d = k) := fun k => ⟨fun e => UInt8.toNat_inj.1 (by omega), fun e => by rw [e]⟩
              refine sS_ ?_
              refine R.sx ttok (i + 1) rfl rfl rfl rfl rfl (by omega) (by show _ < (strB s).length; omega) ?_
              rw [show s.data.toList.getD (i + 1) 0 = d from hd]
              refine sS_ ?_
              by_cases hd34 : d = 34
              · rw [decide_eq_true (show (((d.toNat : Nat) : Int) = 34) from (hcv 34).2 hd34)]
                rw [quoteP_esc (.inl hd34)] at hq
                refine sS_ ?_
                refine R.sx ttok (i + 1) rfl rfl rfl rfl rfl (by omega) (by show _ < (strB s).length; omega) ?_
                rw [show s.data.toList.getD (i + 1) 0 = d from hd]
                refine sS_ ?_
                refine R.apb ttok (q := [d]) rfl rfl rfl rfl (SrcA.cells rfl rfl) (rfl) rfl rfl rfl rfl rfl rfl rfl rfl hc (by simp; omega) fun c' h5 h6 => ?_
                refine sS_ ?_
                exact X.back [(0, 2)] (i + 1 + 1, p ++ [d], c') ⟨by omega, by simp only [List.length_append, List.length_cons, List.length_nil]; omega, h6, hq⟩ (by dsimp only; omega) rfl hS9_ hS7_ rfl (fun _ h => h)
              · rw [decide_eq_false (show ¬ (((d.toNat : Nat) : Int) = 34) from fun e => hd34 ((hcv 34).1 e))]
                refine sS_ ?_
                refine R.sx ttok (i + 1) rfl rfl rfl rfl rfl (by omega) (by show _ < (strB s).length; omega) ?_
                rw [show s.data.toList.getD (i + 1) 0 = d from hd]
                refine sS_ ?_
                by_cases hd92 : d = 92
                · rw [decide_eq_true (show (((d.toNat : Nat) : Int) = 92) from (hcv 92).2 hd92)]
                  rw [quoteP_esc (.inr hd92)] at hq
                  refine sS_ ?_
                  refine R.sx ttok (i + 1) rfl rfl rfl rfl rfl (by omega) (by show _ < (strB s).length; omega) ?_
                  rw [show s.data.toList.getD (i + 1) 0 = d from hd]
                  refine sS_ ?_
                  refine R.apb ttok (q := [d]) rfl rfl rfl rfl (SrcA.cells rfl rfl) (rfl) rfl rfl rfl rfl rfl rfl rfl rfl hc (by simp; omega) fun c' h5 h6 => ?_
                  refine sS_ ?_
                  exact X.back [(0, 2)] (i + 1 + 1, p ++ [d], c') ⟨by omega, by simp only [List.length_append, List.length_cons, List.length_nil]; omega, h6, hq⟩ (by dsimp only; omega) rfl hS9_ hS7_ rfl (fun _ h => h)
                · rw [decide_eq_false (show ¬ (((d.toNat : Nat) : Int) = 92) from fun e => hd92 ((hcv 92).1 e))]
                  have hdn : ¬ (d = 34 ∨ d = 92) := by
                    rintro (h | h)
                    · exact hd34 h
                    · exact hd92 h
                  refine sS_ ?_
                  by_cases h3 : i + 3 < s.size
                  · rw [decide_eq_true (show (i : Int) + 3 < (s.size : Nat) by omega)]
                    refine sS_ ?_
                    refine R.sx ttok (i + 1) rfl rfl rfl rfl rfl (by omega) (by show _ < (strB s).length; omega) ?_
                    rw [show s.data.toList.getD (i + 1) 0 = d from hd]
                    refine sS_ ?_
                    by_cases hdx : d = 120
                    · rw [decide_eq_true (show (((d.toNat : Nat) : Int) = 120) from (hcv 120).2 hdx)]
                      refine sS_ ?_
                      have g2 : i + 1 + 1 < (strB s).length := by omega
                      have g3 : i + 1 + 1 + 1 < (strB s).length := by omega
                      rw [drop_get g2, drop_get g3] at hq
                      obtain ⟨x1, hx1⟩ : ∃ x, (strB s).getD (i + 1 + 1) 0 = x := ⟨_, rfl⟩
                      obtain ⟨x2, hx2⟩ : ∃ x, (strB s).getD (i + 1 + 1 + 1) 0 = x := ⟨_, rfl⟩
                      rw [hx1, hx2, hdx, quoteP_hex] at hq
                      refine R.sx ttok (i + 1 + 1) rfl rfl rfl rfl rfl (by omega) (by show _ < (strB s).length; omega) ?_
                      rw [show s.data.toList.getD (i + 1 + 1) 0 = x1 from hx1]
                      refine R.cl [] (hex_spec x1) Tryz.call99 hS8_ rfl rfl rfl (fun _ => rfl) rfl (by kernel_rfl) fun _ _ => ?_
                      refine sS_ ?_
                      refine R.sx ttok (i + 1 + 1 + 1) rfl rfl rfl rfl rfl (by omega) (by show _ < (strB s).length; omega) ?_
                      rw [show s.data.toList.getD (i + 1 + 1 + 1) 0 = x2 from hx2]
                      refine R.cl [] (hex_spec x2) Tryz.call99 hS8_ rfl rfl rfl (fun _ => rfl) rfl (by kernel_rfl) fun _ _ => ?_
                      have l1 := hexV_le x1
                      have l2 := hexV_le x2
                      cases e1 : hexB x1 with
                      | false =>
                        rw [if_neg (by rw [e1]; rintro ⟨h, _⟩; cases h)] at hq
                        refine sS_ ?_
                        refine X.fin ttok (⟨#[]⟩, ⟨#[]⟩, false) [] (by unfold quotG; rw [hq]) rfl rfl rfl hS5_ _ (by first | exact .inl rfl | exact .inr rfl)
                      | true =>
                        refine sS_ ?_
                        cases e2 : hexB x2 with
                        | false =>
                          rw [if_neg (by rw [e2]; rintro ⟨_, h⟩; cases h)] at hq
                          refine sS_ ?_
                          refine X.fin ttok (⟨#[]⟩, ⟨#[]⟩, false) [] (by unfold quotG; rw [hq]) rfl rfl rfl hS5_ _ (by first | exact .inl rfl | exact .inr rfl)
                        | true =>
                          rw [if_pos ⟨e1, e2⟩] at hq
                          refine sS_ ?_
                          refine R.shl ((hexV x1 * 16 : Nat) : Int) rfl rfl rfl rfl (by decide) (by
                            rw [show min (4 : Int).toNat IntKind.u8.bits = 4 from rfl, show ((hexV x1 : Nat) : Int) * 2 ^ 4 = ((hexV x1 * 16 : Nat) : Int) by push_cast; omega]
                            exact wrap_u8 (by omega) (by omega)) ?_
                          refine sS_ ?_
                          refine R.apb ttok (q := [UInt8.ofNat (hexV x1 * 16 + hexV x2)]) rfl rfl rfl rfl (SrcA.cells rfl rfl) (avB_one (or16 l1 l2)) rfl rfl rfl rfl rfl rfl rfl rfl hc (by simp; omega) fun c' h5 h6 => ?_
                          refine sS_ ?_
                          exact X.back [(0, 2)] (i + 1 + 1 + 1 + 1, p ++ [UInt8.ofNat (hexV x1 * 16 + hexV x2)], c') ⟨by omega, by simp only [List.length_append, List.length_cons, List.length_nil]; omega, h6, hq⟩ (by dsimp only; omega) rfl hS9_ hS7_ rfl (fun _ h => h)
                    · rw [decide_eq_false (show ¬ (((d.toNat : Nat) : Int) = 120) from fun e => hdx ((hcv 120).1 e))]
                      rw [quoteP_no hdn (.inl hdx)] at hq
                      refine sS_ ?_
                      refine X.fin ttok (⟨#[]⟩, ⟨#[]⟩, false) [] (by unfold quotG; rw [hq]) rfl rfl rfl hS5_ _ (by first | exact .inl rfl | exact .inr rfl)
                  · rw [decide_eq_false (show ¬ ((i : Int) + 3 < (s.size : Nat)) by omega)]
                    rw [quoteP_no hdn (.inr (by rw [List.length_drop]; omega))] at hq
                    refine sS_ ?_
                    refine X.fin ttok (⟨#[]⟩, ⟨#[]⟩, false) [] (by unfold quotG; rw [hq]) rfl rfl rfl hS5_ _ (by first | exact .inl rfl | exact .inr rfl)
            · rw [decide_eq_false (show ¬ ((i : Int) + 1 < (s.size : Nat)) by omega)]
              rw [List.drop_eq_nil_of_le (by omega : (strB s).length ≤ i + 1), quoteP_esc0] at hq
              refine sS_ ?_
              rw [decide_eq_false (show ¬ ((i : Int) + 3 < (s.size : Nat)) by omega)]
              refine sS_ ?_
              refine X.fin ttok (⟨#[]⟩, ⟨#[]⟩, false) [] (by unfold quotG; rw [hq]) rfl rfl rfl hS5_ _ (by first | exact .inl rfl | exact .inr rfl)
          · have h92N : (((b.toNat : Nat) : Int) ≠ 92) := fun e => h92 (UInt8.toNat_inj.1 (show b.toNat = 92 by omega))
            rw [decide_eq_true h92N]
            rw [quoteP_one h34 (by omega) h92] at hq
            refine sS_ ?_
            refine R.apb ttok (q := [b]) rfl rfl rfl rfl (SrcA.cells rfl rfl) (rfl) rfl rfl rfl rfl rfl rfl rfl rfl hc (by simp; omega) fun c' h5 h6 => ?_
            refine sS_ ?_
            exact X.back [(0, 2)] (i + 1, p ++ [b], c') ⟨by omega, by simp only [List.length_append, List.length_cons, List.length_nil]; omega, h6, hq⟩ (by dsimp only; omega) rfl hS9_ hS7_ rfl (fun _ h => h)
  · rw [decide_eq_false (show ¬ ((i : Nat) : Int) < (s.size : Nat) by omega)]
    rw [List.drop_eq_nil_of_le (by omega : (strB s).length ≤ i), quoteP_nil] at hq
    refine sS_ ?_
    refine X.fin ttok (⟨#[]⟩, ⟨#[]⟩, false) [] (by unfold quotG; rw [hq]) rfl rfl rfl hS5_ _ (by first | exact .inl rfl | exact .inr rfl)
end Go.Proofs.YtaieficgifingaaGreatDoor
