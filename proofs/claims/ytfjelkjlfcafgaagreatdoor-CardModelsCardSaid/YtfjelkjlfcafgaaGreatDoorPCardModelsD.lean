/- A part of the proof. -/
import Derived.Test.YtfjelkjlfcafgaaGreatDoorPCardModelsC
import Derived.Shelf.Strings.Trim
import Derived.Shelf.Small.Utf8
import Derived.Shelf.Small.Strs
import Derived.Shelf.Small.Wraps
import Derived.Shelf.Strconv.Atoi
import Derived.Shelf.Strconv.Itoa0
import Derived.Shelf.Strconv.Itoa1
import Derived.Shelf.LaysM
import Derived.Shelf.Strconv.Itoa2
import Derived.Shelf.Strconv.Itoa3
import Derived.Shelf.Strconv.Itoa4
import Derived.Shelf.Strconv.AtoiErrFast
import Derived.Shelf.Strconv.ParseIntEmpty
import Derived.Shelf.Strconv.AtoiFail
import Derived.Shelf.Strconv.Clone
import Derived.Shelf.Strconv.SyntaxError
import Derived.Shelf.LaysC
import Derived.Shelf.Strconv.ToError
import Derived.Shelf.Strconv.Lower
import Derived.Shelf.Strconv.ParseUint10
import Derived.Shelf.Strconv.ParseUint10Empty
import Derived.Shelf.Strconv.ParseUint10Any
import Derived.Shelf.Strconv.ParseInt10
import Derived.Shelf.Strconv.AtoiLong
import Derived.Shelf.Strconv.AtoiInnerAll
import Derived.Shelf.Strconv.RangeError
import Derived.Shelf.Strconv.ToErrorRange
import Derived.Shelf.Strconv.AtoiAll
import Derived.Shelf.Strconv.ParseUintEmpty
import Derived.Shelf.Strconv.ParseUint10b64
import Derived.Shelf.Strconv.ParseUint10b32
import Derived.Shelf.Strconv.ParseUint10b16
import Derived.Shelf.Strconv.ParseUint10b8
import Derived.Shelf.Strconv.ParseUint10At
import Derived.Shelf.Strconv.ParseInt10At64
import Derived.Shelf.Strconv.ParseInt10At32
import Derived.Shelf.Strconv.ParseInt10At16
import Derived.Shelf.Strconv.ParseInt10At8
import Derived.Shelf.Strconv.ParseInt10All
import Derived.Shelf.Strconv.ParseIntPublic10
import Derived.Shelf.Strconv.ErrVarParseInt
import Derived.Shelf.Strings.Search1
import Derived.Shelf.Strings.Prefix
import Derived.Shelf.Strings.Runes
import Derived.Shelf.Strings.AsciiSet
import Derived.Shelf.Unicode.DecodeSlow
import Derived.Shelf.Slices.Equal
import Derived.Shelf.Slices.Empties2
import Derived.Test.YtfjelkjlfcafgaaGreatDoorProg
import Derived.Test.YtfjelkjlfcafgaaGreatDoorCards
import Derived.Test.YtfjelkjlfcafgaaGreatDoorTie
import Derived.Lib.LaidTab
import Derived.Lib.ItoaNum
import Derived.Lay
import Derived.Carry
section
/- The contracts of the library that the walks of this claim lean on, laid for this translation by the kit. -/
namespace Go.Proofs
open Go.Shelf
def Tryz.lays161_ren : Go.Shelf.Ren := ⟨fun | 161 => 52 | 231 => 103 | 227 => 104 | 233 => 105 | 235 => 106 | 228 => 146 | 197 => 147 | 151 => 148 | 260 => 179 | 152 => 180 | 137 => 89 | 119 => 194 | 224 => 195 | 225 => 196 | 217 => 141 | 266 => 178 | n => n, fun | 9 => 9 | 4 => 4 | 3 => 3 | 5 => 5 | 117 => 156 | 116 => 155 | 0 => 0 | 124 => 159 | 105 => 192 | 21 => 21 | 119 => 235 | 46 => 198 | 139 => 238 | 138 => 237 | n => n, fun | 3 => 4 | 4 => 5 | n => n⟩
theorem Tryz.lays161 : Go.Proofs.Lays.n161 Tryz.prog Tryz.lays161_ren := {
  mixed := by kernel_rfl
  f119 := Tryz.func194.trans (congrArg some (by kernel_rfl))
  f137 := Tryz.func89.trans (congrArg some (by kernel_rfl))
  f151 := Tryz.func148.trans (congrArg some (by kernel_rfl))
  f152 := Tryz.func180.trans (congrArg some (by kernel_rfl))
  f161 := Tryz.func52.trans (congrArg some (by kernel_rfl))
  f197 := Tryz.func147.trans (congrArg some (by kernel_rfl))
  f217 := Tryz.func141.trans (congrArg some (by kernel_rfl))
  f224 := Tryz.func195.trans (congrArg some (by kernel_rfl))
  f225 := Tryz.func196.trans (congrArg some (by kernel_rfl))
  f227 := Tryz.func104.trans (congrArg some (by kernel_rfl))
  f228 := Tryz.func146.trans (congrArg some (by kernel_rfl))
  f231 := Tryz.func103.trans (congrArg some (by kernel_rfl))
  f233 := Tryz.func105.trans (congrArg some (by kernel_rfl))
  f235 := Tryz.func106.trans (congrArg some (by kernel_rfl))
  f260 := Tryz.func179.trans (congrArg some (by kernel_rfl))
  f266 := Tryz.func178.trans (congrArg some (by kernel_rfl))
  t0 := Tryz.underlying0
  a0 := Tryz.isAgg0
  z0 := Tryz.sizeOf0
  v0 := Tryz.zeroValue0
  t3 := Tryz.underlying3
  a3 := Tryz.isAgg3
  z3 := Tryz.sizeOf3
  v3 := Tryz.zeroValue3
  t4 := Tryz.underlying4
  a4 := Tryz.isAgg4
  z4 := Tryz.sizeOf4
  v4 := Tryz.zeroValue4
  t5 := Tryz.underlying5
  a5 := Tryz.isAgg5
  z5 := Tryz.sizeOf5
  v5 := Tryz.zeroValue5
  t9 := Tryz.underlying9
  a9 := Tryz.isAgg9
  z9 := Tryz.sizeOf9
  v9 := Tryz.zeroValue9
  t21 := Tryz.underlying21
  a21 := Tryz.isAgg21
  z21 := Tryz.sizeOf21
  v21 := Tryz.zeroValue21
  t46 := Tryz.underlying198
  a46 := Tryz.isAgg198
  z46 := Tryz.sizeOf198
  v46 := Tryz.zeroValue198
  t105 := Tryz.underlying192
  a105 := Tryz.isAgg192
  z105 := Tryz.sizeOf192
  v105 := Tryz.zeroValue192
  t116 := Tryz.underlying155
  a116 := Tryz.isAgg155
  z116 := Tryz.sizeOf155
  t117 := Tryz.underlying156
  a117 := Tryz.isAgg156
  z117 := Tryz.sizeOf156
  v117 := Tryz.zeroValue156
  t119 := Tryz.underlying235
  a119 := Tryz.isAgg235
  z119 := Tryz.sizeOf235
  t124 := Tryz.underlying159
  a124 := Tryz.isAgg159
  z124 := Tryz.sizeOf159
  v124 := Tryz.zeroValue159
  t138 := Tryz.underlying237
  a138 := Tryz.isAgg237
  z138 := Tryz.sizeOf237
  v138 := Tryz.zeroValue237
  t139 := Tryz.underlying238
  a139 := Tryz.isAgg238
  z139 := Tryz.sizeOf238
  v139 := Tryz.zeroValue238
  g3 := by kernel_rfl
  g4 := by kernel_rfl }
open Go.RowKit in
theorem Tryz.strings_TrimLeft_one (s : ByteArray) (c : UInt8) (hc : c.toNat < 128) (w : World) :
    Calls Tryz.prog 52 #[.string s, .string ⟨#[c]⟩] w fun e w' => e = .returned (.string ⟨(Lib.trimLeftB s.data.toList c).toArray⟩) ∧ w' = w := Any.strings_TrimLeft_one Tryz.lays161 s c hc w
def Tryz.lays162_ren : Go.Shelf.Ren := ⟨fun | 162 => 53 | 232 => 107 | 227 => 104 | 234 => 108 | 236 => 109 | 228 => 146 | 271 => 149 | 151 => 148 | 120 => 181 | 197 => 147 | 152 => 180 | 260 => 179 | 137 => 89 | 119 => 194 | 224 => 195 | 225 => 196 | 217 => 141 | 266 => 178 | n => n, fun | 9 => 9 | 4 => 4 | 3 => 3 | 5 => 5 | 117 => 156 | 116 => 155 | 0 => 0 | 124 => 159 | 21 => 21 | 105 => 192 | 46 => 198 | 119 => 235 | 139 => 238 | 138 => 237 | n => n, fun | 3 => 4 | 4 => 5 | n => n⟩
theorem Tryz.lays162 : Go.Proofs.Lays.n162 Tryz.prog Tryz.lays162_ren := {
  mixed := by kernel_rfl
  f119 := Tryz.func194.trans (congrArg some (by kernel_rfl))
  f120 := Tryz.func181.trans (congrArg some (by kernel_rfl))
  f137 := Tryz.func89.trans (congrArg some (by kernel_rfl))
  f151 := Tryz.func148.trans (congrArg some (by kernel_rfl))
  f152 := Tryz.func180.trans (congrArg some (by kernel_rfl))
  f162 := Tryz.func53.trans (congrArg some (by kernel_rfl))
  f197 := Tryz.func147.trans (congrArg some (by kernel_rfl))
  f217 := Tryz.func141.trans (congrArg some (by kernel_rfl))
  f224 := Tryz.func195.trans (congrArg some (by kernel_rfl))
  f225 := Tryz.func196.trans (congrArg some (by kernel_rfl))
  f227 := Tryz.func104.trans (congrArg some (by kernel_rfl))
  f228 := Tryz.func146.trans (congrArg some (by kernel_rfl))
  f232 := Tryz.func107.trans (congrArg some (by kernel_rfl))
  f234 := Tryz.func108.trans (congrArg some (by kernel_rfl))
  f236 := Tryz.func109.trans (congrArg some (by kernel_rfl))
  f260 := Tryz.func179.trans (congrArg some (by kernel_rfl))
  f266 := Tryz.func178.trans (congrArg some (by kernel_rfl))
  f271 := Tryz.func149.trans (congrArg some (by kernel_rfl))
  t0 := Tryz.underlying0
  a0 := Tryz.isAgg0
  z0 := Tryz.sizeOf0
  v0 := Tryz.zeroValue0
  t3 := Tryz.underlying3
  a3 := Tryz.isAgg3
  z3 := Tryz.sizeOf3
  v3 := Tryz.zeroValue3
  t4 := Tryz.underlying4
  a4 := Tryz.isAgg4
  z4 := Tryz.sizeOf4
  v4 := Tryz.zeroValue4
  t5 := Tryz.underlying5
  a5 := Tryz.isAgg5
  z5 := Tryz.sizeOf5
  v5 := Tryz.zeroValue5
  t9 := Tryz.underlying9
  a9 := Tryz.isAgg9
  z9 := Tryz.sizeOf9
  v9 := Tryz.zeroValue9
  t21 := Tryz.underlying21
  a21 := Tryz.isAgg21
  z21 := Tryz.sizeOf21
  v21 := Tryz.zeroValue21
  t46 := Tryz.underlying198
  a46 := Tryz.isAgg198
  z46 := Tryz.sizeOf198
  v46 := Tryz.zeroValue198
  t105 := Tryz.underlying192
  a105 := Tryz.isAgg192
  z105 := Tryz.sizeOf192
  v105 := Tryz.zeroValue192
  t116 := Tryz.underlying155
  a116 := Tryz.isAgg155
  z116 := Tryz.sizeOf155
  t117 := Tryz.underlying156
  a117 := Tryz.isAgg156
  z117 := Tryz.sizeOf156
  v117 := Tryz.zeroValue156
  t119 := Tryz.underlying235
  a119 := Tryz.isAgg235
  z119 := Tryz.sizeOf235
  t124 := Tryz.underlying159
  a124 := Tryz.isAgg159
  z124 := Tryz.sizeOf159
  v124 := Tryz.zeroValue159
  t138 := Tryz.underlying237
  a138 := Tryz.isAgg237
  z138 := Tryz.sizeOf237
  v138 := Tryz.zeroValue237
  t139 := Tryz.underlying238
  a139 := Tryz.isAgg238
  z139 := Tryz.sizeOf238
  v139 := Tryz.zeroValue238
  g3 := by kernel_rfl
  g4 := by kernel_rfl }
open Go.RowKit in
theorem Tryz.strings_TrimRight_one (s : ByteArray) (c : UInt8) (hc : c.toNat < 128) (w : World) (hs : s.size ≤ 9223372036854775807) :
    Calls Tryz.prog 53 #[.string s, .string ⟨#[c]⟩] w fun e w' => e = .returned (.string ⟨(Lib.trimRightB s.data.toList c).toArray⟩) ∧ w' = w := Any.strings_TrimRight_one Tryz.lays162 s c hc w hs
def Tryz.lays137_ren : Go.Shelf.Ren := ⟨fun | 137 => 89 | 217 => 141 | 266 => 178 | n => n, fun | 9 => 9 | 5 => 5 | 3 => 3 | n => n, fun | n => n⟩
theorem Tryz.lays137 : Go.Proofs.Lays.n137 Tryz.prog Tryz.lays137_ren := {
  mixed := by kernel_rfl
  f137 := Tryz.func89.trans (congrArg some (by kernel_rfl))
  f217 := Tryz.func141.trans (congrArg some (by kernel_rfl))
  f266 := Tryz.func178.trans (congrArg some (by kernel_rfl))
  t3 := Tryz.underlying3
  a3 := Tryz.isAgg3
  z3 := Tryz.sizeOf3
  v3 := Tryz.zeroValue3
  t5 := Tryz.underlying5
  a5 := Tryz.isAgg5
  z5 := Tryz.sizeOf5
  v5 := Tryz.zeroValue5
  t9 := Tryz.underlying9
  a9 := Tryz.isAgg9
  z9 := Tryz.sizeOf9
  v9 := Tryz.zeroValue9 }
open Go.RowKit in
theorem Tryz.strings_IndexByte (s : ByteArray) (c : Int) (w : World) :
    Calls Tryz.prog 89 #[.string s, .int .u8 c] w fun e w' => e = .returned (.int .i64 (Lib.indexByte s.data.toList c.toNat.toUInt8)) ∧ w' = w := Any.strings_IndexByte Tryz.lays137 s c w
def Tryz.lays103_ren : Go.Shelf.Ren := ⟨fun | 103 => 48 | 210 => 100 | 206 => 101 | n => n, fun | 9 => 9 | 4 => 4 | 24 => 93 | 3 => 3 | n => n, fun | n => n⟩
theorem Tryz.lays103 : Go.Proofs.Lays.n103 Tryz.prog Tryz.lays103_ren := {
  mixed := by kernel_rfl
  f103 := Tryz.func48.trans (congrArg some (by kernel_rfl))
  f206 := Tryz.func101.trans (congrArg some (by kernel_rfl))
  f210 := Tryz.func100.trans (congrArg some (by kernel_rfl))
  t3 := Tryz.underlying3
  a3 := Tryz.isAgg3
  z3 := Tryz.sizeOf3
  v3 := Tryz.zeroValue3
  t4 := Tryz.underlying4
  a4 := Tryz.isAgg4
  z4 := Tryz.sizeOf4
  v4 := Tryz.zeroValue4
  t9 := Tryz.underlying9
  a9 := Tryz.isAgg9
  z9 := Tryz.sizeOf9
  v9 := Tryz.zeroValue9
  t24 := Tryz.underlying93
  a24 := Tryz.isAgg93
  z24 := Tryz.sizeOf93
  v24 := Tryz.zeroValue93 }
open Go.RowKit in
theorem Tryz.strings_CutPrefix (s p : ByteArray) (w : World) :
    Calls Tryz.prog 48 #[.string s, .string p] w fun e w' => e = .returned (.tuple #[.string ⟨(Lib.trimPrefix s.data.toList p.data.toList).toArray⟩, .bool (Lib.hasPrefix s.data.toList p.data.toList)]) ∧ w' = w := Any.strings_CutPrefix Tryz.lays103 s p w
def Tryz.lays172_ren : Go.Shelf.Ren := ⟨fun | 172 => 102 | 244 => 145 | 245 => 111 | 247 => 110 | 279 => 151 | 280 => 152 | 281 => 153 | 282 => 154 | 287 => 150 | 316 => 184 | 171 => 64 | 205 => 185 | 321 => 182 | 322 => 183 | 243 => 119 | 246 => 118 | 283 => 156 | 284 => 157 | 285 => 158 | 286 => 159 | 129 => 187 | 317 => 186 | 318 => 188 | 319 => 189 | 320 => 190 | 337 => 197 | 338 => 198 | n => n, fun | 9 => 9 | 3 => 3 | 75 => 101 | 76 => 151 | 4 => 4 | 5 => 5 | 167 => 195 | 37 => 116 | 0 => 0 | 85 => 102 | 2 => 2 | 168 => 199 | 53 => 165 | 175 => 196 | 46 => 198 | 210 => 223 | 127 => 241 | 145 => 244 | 143 => 242 | 21 => 21 | 171 => 202 | 173 => 205 | 212 => 227 | 51 => 35 | 20 => 20 | 213 => 228 | 232 => 249 | 233 => 250 | 80 => 147 | n => n, fun | 15 => 0 | 16 => 1 | 17 => 2 | 18 => 6 | 19 => 7 | n => n⟩
theorem Tryz.lays172 : Go.Proofs.Lays.n172 Tryz.prog Tryz.lays172_ren := {
  mixed := by kernel_rfl
  f129 := Tryz.func187.trans (congrArg some (by kernel_rfl))
  f171 := Tryz.func64.trans (congrArg some (by kernel_rfl))
  f172 := Tryz.func102.trans (congrArg some (by kernel_rfl))
  f205 := Tryz.func185.trans (congrArg some (by kernel_rfl))
  f243 := Tryz.func119.trans (congrArg some (by kernel_rfl))
  f244 := Tryz.func145.trans (congrArg some (by kernel_rfl))
  f245 := Tryz.func111.trans (congrArg some (by kernel_rfl))
  f246 := Tryz.func118.trans (congrArg some (by kernel_rfl))
  f247 := Tryz.func110.trans (congrArg some (by kernel_rfl))
  f279 := Tryz.func151.trans (congrArg some (by kernel_rfl))
  f280 := Tryz.func152.trans (congrArg some (by kernel_rfl))
  f281 := Tryz.func153.trans (congrArg some (by kernel_rfl))
  f282 := Tryz.func154.trans (congrArg some (by kernel_rfl))
  f283 := Tryz.func156.trans (congrArg some (by kernel_rfl))
  f284 := Tryz.func157.trans (congrArg some (by kernel_rfl))
  f285 := Tryz.func158.trans (congrArg some (by kernel_rfl))
  f286 := Tryz.func159.trans (congrArg some (by kernel_rfl))
  f287 := Tryz.func150.trans (congrArg some (by kernel_rfl))
  f316 := Tryz.func184.trans (congrArg some (by kernel_rfl))
  f317 := Tryz.func186.trans (congrArg some (by kernel_rfl))
  f318 := Tryz.func188.trans (congrArg some (by kernel_rfl))
  f319 := Tryz.func189.trans (congrArg some (by kernel_rfl))
  f320 := Tryz.func190.trans (congrArg some (by kernel_rfl))
  f321 := Tryz.func182.trans (congrArg some (by kernel_rfl))
  f322 := Tryz.func183.trans (congrArg some (by kernel_rfl))
  f337 := Tryz.func197.trans (congrArg some (by kernel_rfl))
  f338 := Tryz.func198.trans (congrArg some (by kernel_rfl))
  t0 := Tryz.underlying0
  a0 := Tryz.isAgg0
  z0 := Tryz.sizeOf0
  v0 := Tryz.zeroValue0
  t2 := Tryz.underlying2
  a2 := Tryz.isAgg2
  z2 := Tryz.sizeOf2
  v2 := Tryz.zeroValue2
  t3 := Tryz.underlying3
  a3 := Tryz.isAgg3
  z3 := Tryz.sizeOf3
  v3 := Tryz.zeroValue3
  t4 := Tryz.underlying4
  a4 := Tryz.isAgg4
  z4 := Tryz.sizeOf4
  v4 := Tryz.zeroValue4
  t5 := Tryz.underlying5
  a5 := Tryz.isAgg5
  z5 := Tryz.sizeOf5
  v5 := Tryz.zeroValue5
  t9 := Tryz.underlying9
  a9 := Tryz.isAgg9
  z9 := Tryz.sizeOf9
  v9 := Tryz.zeroValue9
  t20 := Tryz.underlying20
  a20 := Tryz.isAgg20
  z20 := Tryz.sizeOf20
  v20 := Tryz.zeroValue20
  t21 := Tryz.underlying21
  a21 := Tryz.isAgg21
  z21 := Tryz.sizeOf21
  v21 := Tryz.zeroValue21
  t37 := Tryz.underlying116
  a37 := Tryz.isAgg116
  z37 := Tryz.sizeOf116
  v37 := Tryz.zeroValue116
  t46 := Tryz.underlying198
  a46 := Tryz.isAgg198
  z46 := Tryz.sizeOf198
  v46 := Tryz.zeroValue198
  t51 := Tryz.underlying35
  a51 := Tryz.isAgg35
  z51 := Tryz.sizeOf35
  v51 := Tryz.zeroValue35
  t53 := Tryz.underlying165
  a53 := Tryz.isAgg165
  z53 := Tryz.sizeOf165
  v53 := Tryz.zeroValue165
  t75 := Tryz.underlying101
  a75 := Tryz.isAgg101
  z75 := Tryz.sizeOf101
  v75 := Tryz.zeroValue101
  t76 := Tryz.underlying151
  a76 := Tryz.isAgg151
  z76 := Tryz.sizeOf151
  v76 := Tryz.zeroValue151
  t85 := Tryz.underlying102
  a85 := Tryz.isAgg102
  z85 := Tryz.sizeOf102
  v85 := Tryz.zeroValue102
  t127 := Tryz.underlying241
  a127 := Tryz.isAgg241
  z127 := Tryz.sizeOf241
  v127 := Tryz.zeroValue241
  t143 := Tryz.underlying242
  a143 := Tryz.isAgg242
  z143 := Tryz.sizeOf242
  v143 := Tryz.zeroValue242
  t145 := Tryz.underlying244
  a145 := Tryz.isAgg244
  z145 := Tryz.sizeOf244
  v145 := Tryz.zeroValue244
  t167 := Tryz.underlying195
  a167 := Tryz.isAgg195
  z167 := Tryz.sizeOf195
  v167 := Tryz.zeroValue195
  t168 := Tryz.underlying199
  a168 := Tryz.isAgg199
  z168 := Tryz.sizeOf199
  v168 := Tryz.zeroValue199
  t171 := Tryz.underlying202
  a171 := Tryz.isAgg202
  z171 := Tryz.sizeOf202
  v171 := Tryz.zeroValue202
  t173 := Tryz.underlying205
  a173 := Tryz.isAgg205
  z173 := Tryz.sizeOf205
  v173 := Tryz.zeroValue205
  t175 := Tryz.underlying196
  a175 := Tryz.isAgg196
  z175 := Tryz.sizeOf196
  v175 := Tryz.zeroValue196
  t210 := Tryz.underlying223
  a210 := Tryz.isAgg223
  z210 := Tryz.sizeOf223
  v210 := Tryz.zeroValue223
  t212 := Tryz.underlying227
  a212 := Tryz.isAgg227
  z212 := Tryz.sizeOf227
  v212 := Tryz.zeroValue227
  t213 := Tryz.underlying228
  a213 := Tryz.isAgg228
  z213 := Tryz.sizeOf228
  t232 := Tryz.underlying249
  a232 := Tryz.isAgg249
  z232 := Tryz.sizeOf249
  v232 := Tryz.zeroValue249
  t233 := Tryz.underlying250
  a233 := Tryz.isAgg250
  z233 := Tryz.sizeOf250
  v233 := Tryz.zeroValue250
  g15 := by kernel_rfl
  g16 := by kernel_rfl
  g17 := by kernel_rfl
  g18 := by kernel_rfl
  g19 := by kernel_rfl }
open Go.RowKit in
theorem Tryz.strconv_Atoi (s : ByteArray) (n : Int) (hl : s.size ≤ 18) (h : Lib.atoi s.data.toList = some n) (w : World) :
    Calls Tryz.prog 102 #[.string s] w fun e w' => e = .returned (.tuple #[.int .i64 n, .nilIface]) ∧ ∃ t, w' = Lib.bytesWorld w 5 t := Any.strconv_Atoi Tryz.lays172 s n hl h w
def Tryz.laysM171_ren : Go.Shelf.Ren := ⟨fun | 171 => 64 | 243 => 119 | 246 => 118 | 283 => 156 | 284 => 157 | 285 => 158 | 286 => 159 | 129 => 187 | 317 => 186 | 318 => 188 | 319 => 189 | 320 => 190 | 337 => 197 | 338 => 198 | n => n, fun | 3 => 3 | 9 => 9 | 2 => 2 | 4 => 4 | 171 => 202 | 0 => 0 | 53 => 165 | 37 => 116 | 5 => 5 | 173 => 205 | 212 => 227 | 51 => 35 | 20 => 20 | 213 => 228 | 46 => 198 | 232 => 249 | 233 => 250 | n => n, fun | 17 => 2 | 18 => 6 | 19 => 7 | n => n⟩
theorem Tryz.laysM171 : Go.Proofs.LaysM.n171 Tryz.prog Tryz.laysM171_ren := {
  mixed := by kernel_rfl
  f129 := Tryz.func187.trans (congrArg some (by kernel_rfl))
  f171 := Tryz.func64.trans (congrArg some (by kernel_rfl))
  f243 := Tryz.func119.trans (congrArg some (by kernel_rfl))
  f246 := Tryz.func118.trans (congrArg some (by kernel_rfl))
  f283 := Tryz.func156.trans (congrArg some (by kernel_rfl))
  f284 := Tryz.func157.trans (congrArg some (by kernel_rfl))
  f285 := Tryz.func158.trans (congrArg some (by kernel_rfl))
  f286 := Tryz.func159.trans (congrArg some (by kernel_rfl))
  f317 := Tryz.func186.trans (congrArg some (by kernel_rfl))
  f318 := Tryz.func188.trans (congrArg some (by kernel_rfl))
  f319 := Tryz.func189.trans (congrArg some (by kernel_rfl))
  f320 := Tryz.func190.trans (congrArg some (by kernel_rfl))
  f337 := Tryz.func197.trans (congrArg some (by kernel_rfl))
  f338 := Tryz.func198.trans (congrArg some (by kernel_rfl))
  t0 := Tryz.underlying0
  a0 := Tryz.isAgg0
  z0 := Tryz.sizeOf0
  v0 := Tryz.zeroValue0
  t2 := Tryz.underlying2
  a2 := Tryz.isAgg2
  z2 := Tryz.sizeOf2
  v2 := Tryz.zeroValue2
  t3 := Tryz.underlying3
  a3 := Tryz.isAgg3
  z3 := Tryz.sizeOf3
  v3 := Tryz.zeroValue3
  t4 := Tryz.underlying4
  a4 := Tryz.isAgg4
  z4 := Tryz.sizeOf4
  v4 := Tryz.zeroValue4
  t5 := Tryz.underlying5
  a5 := Tryz.isAgg5
  z5 := Tryz.sizeOf5
  v5 := Tryz.zeroValue5
  t9 := Tryz.underlying9
  a9 := Tryz.isAgg9
  z9 := Tryz.sizeOf9
  v9 := Tryz.zeroValue9
  t20 := Tryz.underlying20
  a20 := Tryz.isAgg20
  z20 := Tryz.sizeOf20
  v20 := Tryz.zeroValue20
  t37 := Tryz.underlying116
  a37 := Tryz.isAgg116
  z37 := Tryz.sizeOf116
  v37 := Tryz.zeroValue116
  t46 := Tryz.underlying198
  a46 := Tryz.isAgg198
  z46 := Tryz.sizeOf198
  v46 := Tryz.zeroValue198
  t51 := Tryz.underlying35
  a51 := Tryz.isAgg35
  z51 := Tryz.sizeOf35
  v51 := Tryz.zeroValue35
  t53 := Tryz.underlying165
  a53 := Tryz.isAgg165
  z53 := Tryz.sizeOf165
  v53 := Tryz.zeroValue165
  t171 := Tryz.underlying202
  a171 := Tryz.isAgg202
  z171 := Tryz.sizeOf202
  v171 := Tryz.zeroValue202
  t173 := Tryz.underlying205
  a173 := Tryz.isAgg205
  z173 := Tryz.sizeOf205
  v173 := Tryz.zeroValue205
  t212 := Tryz.underlying227
  a212 := Tryz.isAgg227
  z212 := Tryz.sizeOf227
  v212 := Tryz.zeroValue227
  t213 := Tryz.underlying228
  a213 := Tryz.isAgg228
  z213 := Tryz.sizeOf228
  t232 := Tryz.underlying249
  a232 := Tryz.isAgg249
  z232 := Tryz.sizeOf249
  v232 := Tryz.zeroValue249
  t233 := Tryz.underlying250
  a233 := Tryz.isAgg250
  z233 := Tryz.sizeOf250
  v233 := Tryz.zeroValue250
  g17 := by kernel_rfl
  g18 := by kernel_rfl
  g19 := by kernel_rfl
  i0 := by kernel_rfl
  i2 := by kernel_rfl
  i3 := by kernel_rfl
  i4 := by kernel_rfl
  i5 := by kernel_rfl
  i9 := by kernel_rfl
  i20 := by kernel_rfl
  i37 := by kernel_rfl
  i46 := by kernel_rfl
  i51 := by kernel_rfl
  i53 := by kernel_rfl
  i171 := by kernel_rfl
  i173 := by kernel_rfl
  i212 := by kernel_rfl
  i232 := by kernel_rfl
  i233 := by kernel_rfl
  m17 := by kernel_rfl
  m18 := by kernel_rfl
  m19 := by kernel_rfl }
open Go.RowKit Go.Sort Go.Lib in
theorem Tryz.strconv_Itoa (n : Int) (h0 : -9223372036854775808 ≤ n) (h1 : n ≤ 9223372036854775807) (w : World) (htab : Lib.TabIs Tryz.prog w "internal/strconv.uint64pow10" .u64 Lib.pow10Tab) :
    Calls Tryz.prog 64 #[.int .i64 n] w fun e w' => e = .returned (.string ⟨(Lib.itoa n).toArray⟩) ∧ ∃ k os, w' = grow (w.drewN k) os := Any.strconv_Itoa Tryz.laysM171 n h0 h1 w htab
def Tryz.lays171_ren : Go.Shelf.Ren := ⟨fun | 171 => 64 | 243 => 119 | 246 => 118 | 283 => 156 | 284 => 157 | 285 => 158 | 286 => 159 | 129 => 187 | 317 => 186 | 318 => 188 | 319 => 189 | 320 => 190 | 337 => 197 | 338 => 198 | n => n, fun | 3 => 3 | 9 => 9 | 2 => 2 | 4 => 4 | 171 => 202 | 0 => 0 | 53 => 165 | 37 => 116 | 5 => 5 | 173 => 205 | 212 => 227 | 51 => 35 | 20 => 20 | 213 => 228 | 46 => 198 | 232 => 249 | 233 => 250 | n => n, fun | 17 => 2 | 18 => 6 | 19 => 7 | n => n⟩
theorem Tryz.lays171 : Go.Proofs.Lays.n171 Tryz.prog Tryz.lays171_ren := {
  mixed := by kernel_rfl
  f129 := Tryz.func187.trans (congrArg some (by kernel_rfl))
  f171 := Tryz.func64.trans (congrArg some (by kernel_rfl))
  f243 := Tryz.func119.trans (congrArg some (by kernel_rfl))
  f246 := Tryz.func118.trans (congrArg some (by kernel_rfl))
  f283 := Tryz.func156.trans (congrArg some (by kernel_rfl))
  f284 := Tryz.func157.trans (congrArg some (by kernel_rfl))
  f285 := Tryz.func158.trans (congrArg some (by kernel_rfl))
  f286 := Tryz.func159.trans (congrArg some (by kernel_rfl))
  f317 := Tryz.func186.trans (congrArg some (by kernel_rfl))
  f318 := Tryz.func188.trans (congrArg some (by kernel_rfl))
  f319 := Tryz.func189.trans (congrArg some (by kernel_rfl))
  f320 := Tryz.func190.trans (congrArg some (by kernel_rfl))
  f337 := Tryz.func197.trans (congrArg some (by kernel_rfl))
  f338 := Tryz.func198.trans (congrArg some (by kernel_rfl))
  t0 := Tryz.underlying0
  a0 := Tryz.isAgg0
  z0 := Tryz.sizeOf0
  v0 := Tryz.zeroValue0
  t2 := Tryz.underlying2
  a2 := Tryz.isAgg2
  z2 := Tryz.sizeOf2
  v2 := Tryz.zeroValue2
  t3 := Tryz.underlying3
  a3 := Tryz.isAgg3
  z3 := Tryz.sizeOf3
  v3 := Tryz.zeroValue3
  t4 := Tryz.underlying4
  a4 := Tryz.isAgg4
  z4 := Tryz.sizeOf4
  v4 := Tryz.zeroValue4
  t5 := Tryz.underlying5
  a5 := Tryz.isAgg5
  z5 := Tryz.sizeOf5
  v5 := Tryz.zeroValue5
  t9 := Tryz.underlying9
  a9 := Tryz.isAgg9
  z9 := Tryz.sizeOf9
  v9 := Tryz.zeroValue9
  t20 := Tryz.underlying20
  a20 := Tryz.isAgg20
  z20 := Tryz.sizeOf20
  v20 := Tryz.zeroValue20
  t37 := Tryz.underlying116
  a37 := Tryz.isAgg116
  z37 := Tryz.sizeOf116
  v37 := Tryz.zeroValue116
  t46 := Tryz.underlying198
  a46 := Tryz.isAgg198
  z46 := Tryz.sizeOf198
  v46 := Tryz.zeroValue198
  t51 := Tryz.underlying35
  a51 := Tryz.isAgg35
  z51 := Tryz.sizeOf35
  v51 := Tryz.zeroValue35
  t53 := Tryz.underlying165
  a53 := Tryz.isAgg165
  z53 := Tryz.sizeOf165
  v53 := Tryz.zeroValue165
  t171 := Tryz.underlying202
  a171 := Tryz.isAgg202
  z171 := Tryz.sizeOf202
  v171 := Tryz.zeroValue202
  t173 := Tryz.underlying205
  a173 := Tryz.isAgg205
  z173 := Tryz.sizeOf205
  v173 := Tryz.zeroValue205
  t212 := Tryz.underlying227
  a212 := Tryz.isAgg227
  z212 := Tryz.sizeOf227
  v212 := Tryz.zeroValue227
  t213 := Tryz.underlying228
  a213 := Tryz.isAgg228
  z213 := Tryz.sizeOf228
  t232 := Tryz.underlying249
  a232 := Tryz.isAgg249
  z232 := Tryz.sizeOf249
  v232 := Tryz.zeroValue249
  t233 := Tryz.underlying250
  a233 := Tryz.isAgg250
  z233 := Tryz.sizeOf250
  v233 := Tryz.zeroValue250
  g17 := by kernel_rfl
  g18 := by kernel_rfl
  g19 := by kernel_rfl }
open Go.RowKit Go.Sort Go.Lib in
theorem Tryz.strconv_Itoa_small (i : Nat) (hi : i < 100) (w : World) :
    Calls Tryz.prog 64 #[.int .i64 i] w fun e w' => e = .returned (.string ⟨(Lib.decDigits i).toArray⟩) ∧ w' = w := Any.strconv_Itoa_small Tryz.lays171 i hi w
def Tryz.laysM173_ren : Go.Shelf.Ren := ⟨fun | 173 => 63 | 246 => 118 | 283 => 156 | 284 => 157 | 285 => 158 | 286 => 159 | 129 => 187 | 317 => 186 | 318 => 188 | 319 => 189 | 320 => 190 | 337 => 197 | 338 => 198 | n => n, fun | 2 => 2 | 3 => 3 | 9 => 9 | 4 => 4 | 171 => 202 | 0 => 0 | 53 => 165 | 37 => 116 | 5 => 5 | 173 => 205 | 212 => 227 | 51 => 35 | 20 => 20 | 213 => 228 | 46 => 198 | 232 => 249 | 233 => 250 | n => n, fun | 17 => 2 | 18 => 6 | 19 => 7 | n => n⟩
theorem Tryz.laysM173 : Go.Proofs.LaysM.n173 Tryz.prog Tryz.laysM173_ren := {
  mixed := by kernel_rfl
  f129 := Tryz.func187.trans (congrArg some (by kernel_rfl))
  f173 := Tryz.func63.trans (congrArg some (by kernel_rfl))
  f246 := Tryz.func118.trans (congrArg some (by kernel_rfl))
  f283 := Tryz.func156.trans (congrArg some (by kernel_rfl))
  f284 := Tryz.func157.trans (congrArg some (by kernel_rfl))
  f285 := Tryz.func158.trans (congrArg some (by kernel_rfl))
  f286 := Tryz.func159.trans (congrArg some (by kernel_rfl))
  f317 := Tryz.func186.trans (congrArg some (by kernel_rfl))
  f318 := Tryz.func188.trans (congrArg some (by kernel_rfl))
  f319 := Tryz.func189.trans (congrArg some (by kernel_rfl))
  f320 := Tryz.func190.trans (congrArg some (by kernel_rfl))
  f337 := Tryz.func197.trans (congrArg some (by kernel_rfl))
  f338 := Tryz.func198.trans (congrArg some (by kernel_rfl))
  t0 := Tryz.underlying0
  a0 := Tryz.isAgg0
  z0 := Tryz.sizeOf0
  v0 := Tryz.zeroValue0
  t2 := Tryz.underlying2
  a2 := Tryz.isAgg2
  z2 := Tryz.sizeOf2
  v2 := Tryz.zeroValue2
  t3 := Tryz.underlying3
  a3 := Tryz.isAgg3
  z3 := Tryz.sizeOf3
  v3 := Tryz.zeroValue3
  t4 := Tryz.underlying4
  a4 := Tryz.isAgg4
  z4 := Tryz.sizeOf4
  v4 := Tryz.zeroValue4
  t5 := Tryz.underlying5
  a5 := Tryz.isAgg5
  z5 := Tryz.sizeOf5
  v5 := Tryz.zeroValue5
  t9 := Tryz.underlying9
  a9 := Tryz.isAgg9
  z9 := Tryz.sizeOf9
  v9 := Tryz.zeroValue9
  t20 := Tryz.underlying20
  a20 := Tryz.isAgg20
  z20 := Tryz.sizeOf20
  v20 := Tryz.zeroValue20
  t37 := Tryz.underlying116
  a37 := Tryz.isAgg116
  z37 := Tryz.sizeOf116
  v37 := Tryz.zeroValue116
  t46 := Tryz.underlying198
  a46 := Tryz.isAgg198
  z46 := Tryz.sizeOf198
  v46 := Tryz.zeroValue198
  t51 := Tryz.underlying35
  a51 := Tryz.isAgg35
  z51 := Tryz.sizeOf35
  v51 := Tryz.zeroValue35
  t53 := Tryz.underlying165
  a53 := Tryz.isAgg165
  z53 := Tryz.sizeOf165
  v53 := Tryz.zeroValue165
  t171 := Tryz.underlying202
  a171 := Tryz.isAgg202
  z171 := Tryz.sizeOf202
  v171 := Tryz.zeroValue202
  t173 := Tryz.underlying205
  a173 := Tryz.isAgg205
  z173 := Tryz.sizeOf205
  v173 := Tryz.zeroValue205
  t212 := Tryz.underlying227
  a212 := Tryz.isAgg227
  z212 := Tryz.sizeOf227
  v212 := Tryz.zeroValue227
  t213 := Tryz.underlying228
  a213 := Tryz.isAgg228
  z213 := Tryz.sizeOf228
  t232 := Tryz.underlying249
  a232 := Tryz.isAgg249
  z232 := Tryz.sizeOf249
  v232 := Tryz.zeroValue249
  t233 := Tryz.underlying250
  a233 := Tryz.isAgg250
  z233 := Tryz.sizeOf250
  v233 := Tryz.zeroValue250
  g17 := by kernel_rfl
  g18 := by kernel_rfl
  g19 := by kernel_rfl
  i0 := by kernel_rfl
  i2 := by kernel_rfl
  i3 := by kernel_rfl
  i4 := by kernel_rfl
  i5 := by kernel_rfl
  i9 := by kernel_rfl
  i20 := by kernel_rfl
  i37 := by kernel_rfl
  i46 := by kernel_rfl
  i51 := by kernel_rfl
  i53 := by kernel_rfl
  i171 := by kernel_rfl
  i173 := by kernel_rfl
  i212 := by kernel_rfl
  i232 := by kernel_rfl
  i233 := by kernel_rfl
  m17 := by kernel_rfl
  m18 := by kernel_rfl
  m19 := by kernel_rfl }
open Go.RowKit Go.Sort Go.Lib in
theorem Tryz.strconv_FormatInt_10 (n : Int) (h0 : -9223372036854775808 ≤ n) (h1 : n ≤ 9223372036854775807) (w : World) (htab : Lib.TabIs Tryz.prog w "internal/strconv.uint64pow10" .u64 Lib.pow10Tab) :
    Calls Tryz.prog 63 #[.int .i64 n, .int .i64 10] w fun e w' => e = .returned (.string ⟨(Lib.itoa n).toArray⟩) ∧ ∃ k os, w' = grow (w.drewN k) os := Any.strconv_FormatInt_10 Tryz.laysM173 n h0 h1 w htab
def Tryz.laysC172_ren : Go.Shelf.Ren := ⟨fun | 172 => 102 | 244 => 145 | 245 => 111 | 247 => 110 | 279 => 151 | 280 => 152 | 281 => 153 | 282 => 154 | 287 => 150 | 316 => 184 | 171 => 64 | 205 => 185 | 321 => 182 | 322 => 183 | 243 => 119 | 246 => 118 | 283 => 156 | 284 => 157 | 285 => 158 | 286 => 159 | 129 => 187 | 317 => 186 | 318 => 188 | 319 => 189 | 320 => 190 | 337 => 197 | 338 => 198 | n => n, fun | 9 => 9 | 3 => 3 | 75 => 101 | 76 => 151 | 4 => 4 | 5 => 5 | 167 => 195 | 37 => 116 | 0 => 0 | 85 => 102 | 2 => 2 | 168 => 199 | 53 => 165 | 175 => 196 | 46 => 198 | 210 => 223 | 127 => 241 | 145 => 244 | 143 => 242 | 21 => 21 | 171 => 202 | 173 => 205 | 212 => 227 | 51 => 35 | 20 => 20 | 213 => 228 | 232 => 249 | 233 => 250 | 80 => 147 | n => n, fun | 15 => 0 | 16 => 1 | 17 => 2 | 18 => 6 | 19 => 7 | n => n⟩
theorem Tryz.laysC172 : Go.Proofs.LaysC.n172 Tryz.prog Tryz.laysC172_ren := {
  mixed := by kernel_rfl
  f129 := Tryz.func187.trans (congrArg some (by kernel_rfl))
  f171 := Tryz.func64.trans (congrArg some (by kernel_rfl))
  f172 := Tryz.func102.trans (congrArg some (by kernel_rfl))
  f205 := Tryz.func185.trans (congrArg some (by kernel_rfl))
  f243 := Tryz.func119.trans (congrArg some (by kernel_rfl))
  f244 := Tryz.func145.trans (congrArg some (by kernel_rfl))
  f245 := Tryz.func111.trans (congrArg some (by kernel_rfl))
  f246 := Tryz.func118.trans (congrArg some (by kernel_rfl))
  f247 := Tryz.func110.trans (congrArg some (by kernel_rfl))
  f279 := Tryz.func151.trans (congrArg some (by kernel_rfl))
  f280 := Tryz.func152.trans (congrArg some (by kernel_rfl))
  f281 := Tryz.func153.trans (congrArg some (by kernel_rfl))
  f282 := Tryz.func154.trans (congrArg some (by kernel_rfl))
  f283 := Tryz.func156.trans (congrArg some (by kernel_rfl))
  f284 := Tryz.func157.trans (congrArg some (by kernel_rfl))
  f285 := Tryz.func158.trans (congrArg some (by kernel_rfl))
  f286 := Tryz.func159.trans (congrArg some (by kernel_rfl))
  f287 := Tryz.func150.trans (congrArg some (by kernel_rfl))
  f316 := Tryz.func184.trans (congrArg some (by kernel_rfl))
  f317 := Tryz.func186.trans (congrArg some (by kernel_rfl))
  f318 := Tryz.func188.trans (congrArg some (by kernel_rfl))
  f319 := Tryz.func189.trans (congrArg some (by kernel_rfl))
  f320 := Tryz.func190.trans (congrArg some (by kernel_rfl))
  f321 := Tryz.func182.trans (congrArg some (by kernel_rfl))
  f322 := Tryz.func183.trans (congrArg some (by kernel_rfl))
  f337 := Tryz.func197.trans (congrArg some (by kernel_rfl))
  f338 := Tryz.func198.trans (congrArg some (by kernel_rfl))
  t0 := Tryz.underlying0
  a0 := Tryz.isAgg0
  z0 := Tryz.sizeOf0
  v0 := Tryz.zeroValue0
  t2 := Tryz.underlying2
  a2 := Tryz.isAgg2
  z2 := Tryz.sizeOf2
  v2 := Tryz.zeroValue2
  t3 := Tryz.underlying3
  a3 := Tryz.isAgg3
  z3 := Tryz.sizeOf3
  v3 := Tryz.zeroValue3
  t4 := Tryz.underlying4
  a4 := Tryz.isAgg4
  z4 := Tryz.sizeOf4
  v4 := Tryz.zeroValue4
  t5 := Tryz.underlying5
  a5 := Tryz.isAgg5
  z5 := Tryz.sizeOf5
  v5 := Tryz.zeroValue5
  t9 := Tryz.underlying9
  a9 := Tryz.isAgg9
  z9 := Tryz.sizeOf9
  v9 := Tryz.zeroValue9
  t20 := Tryz.underlying20
  a20 := Tryz.isAgg20
  z20 := Tryz.sizeOf20
  v20 := Tryz.zeroValue20
  t21 := Tryz.underlying21
  a21 := Tryz.isAgg21
  z21 := Tryz.sizeOf21
  v21 := Tryz.zeroValue21
  t37 := Tryz.underlying116
  a37 := Tryz.isAgg116
  z37 := Tryz.sizeOf116
  v37 := Tryz.zeroValue116
  t46 := Tryz.underlying198
  a46 := Tryz.isAgg198
  z46 := Tryz.sizeOf198
  v46 := Tryz.zeroValue198
  t51 := Tryz.underlying35
  a51 := Tryz.isAgg35
  z51 := Tryz.sizeOf35
  v51 := Tryz.zeroValue35
  t53 := Tryz.underlying165
  a53 := Tryz.isAgg165
  z53 := Tryz.sizeOf165
  v53 := Tryz.zeroValue165
  t75 := Tryz.underlying101
  a75 := Tryz.isAgg101
  z75 := Tryz.sizeOf101
  v75 := Tryz.zeroValue101
  t76 := Tryz.underlying151
  a76 := Tryz.isAgg151
  z76 := Tryz.sizeOf151
  v76 := Tryz.zeroValue151
  t85 := Tryz.underlying102
  a85 := Tryz.isAgg102
  z85 := Tryz.sizeOf102
  v85 := Tryz.zeroValue102
  t127 := Tryz.underlying241
  a127 := Tryz.isAgg241
  z127 := Tryz.sizeOf241
  v127 := Tryz.zeroValue241
  t143 := Tryz.underlying242
  a143 := Tryz.isAgg242
  z143 := Tryz.sizeOf242
  v143 := Tryz.zeroValue242
  t145 := Tryz.underlying244
  a145 := Tryz.isAgg244
  z145 := Tryz.sizeOf244
  v145 := Tryz.zeroValue244
  t167 := Tryz.underlying195
  a167 := Tryz.isAgg195
  z167 := Tryz.sizeOf195
  v167 := Tryz.zeroValue195
  t168 := Tryz.underlying199
  a168 := Tryz.isAgg199
  z168 := Tryz.sizeOf199
  v168 := Tryz.zeroValue199
  t171 := Tryz.underlying202
  a171 := Tryz.isAgg202
  z171 := Tryz.sizeOf202
  v171 := Tryz.zeroValue202
  t173 := Tryz.underlying205
  a173 := Tryz.isAgg205
  z173 := Tryz.sizeOf205
  v173 := Tryz.zeroValue205
  t175 := Tryz.underlying196
  a175 := Tryz.isAgg196
  z175 := Tryz.sizeOf196
  v175 := Tryz.zeroValue196
  t210 := Tryz.underlying223
  a210 := Tryz.isAgg223
  z210 := Tryz.sizeOf223
  v210 := Tryz.zeroValue223
  t212 := Tryz.underlying227
  a212 := Tryz.isAgg227
  z212 := Tryz.sizeOf227
  v212 := Tryz.zeroValue227
  t213 := Tryz.underlying228
  a213 := Tryz.isAgg228
  z213 := Tryz.sizeOf228
  t232 := Tryz.underlying249
  a232 := Tryz.isAgg249
  z232 := Tryz.sizeOf249
  v232 := Tryz.zeroValue249
  t233 := Tryz.underlying250
  a233 := Tryz.isAgg250
  z233 := Tryz.sizeOf250
  v233 := Tryz.zeroValue250
  g15 := by kernel_rfl
  g16 := by kernel_rfl
  g17 := by kernel_rfl
  g18 := by kernel_rfl
  g19 := by kernel_rfl
  t80 := Tryz.underlying147
  a80 := Tryz.isAgg147
  z80 := Tryz.sizeOf147
  v80 := Tryz.zeroValue147
  i0 := by kernel_rfl
  i2 := by kernel_rfl
  i3 := by kernel_rfl
  i4 := by kernel_rfl
  i5 := by kernel_rfl
  i9 := by kernel_rfl
  i20 := by kernel_rfl
  i21 := by kernel_rfl
  i37 := by kernel_rfl
  i46 := by kernel_rfl
  i51 := by kernel_rfl
  i53 := by kernel_rfl
  i75 := by kernel_rfl
  i76 := by kernel_rfl
  i80 := by kernel_rfl
  i85 := by kernel_rfl
  i127 := by kernel_rfl
  i143 := by kernel_rfl
  i145 := by kernel_rfl
  i167 := by kernel_rfl
  i168 := by kernel_rfl
  i171 := by kernel_rfl
  i173 := by kernel_rfl
  i175 := by kernel_rfl
  i210 := by kernel_rfl
  i212 := by kernel_rfl
  i232 := by kernel_rfl
  i233 := by kernel_rfl
  m15 := by kernel_rfl
  m16 := by kernel_rfl
  m17 := by kernel_rfl
  m18 := by kernel_rfl
  m19 := by kernel_rfl
  c0 := by kernel_rfl
  c2 := by kernel_rfl
  c3 := by kernel_rfl
  c4 := by kernel_rfl
  c5 := by kernel_rfl
  c9 := by kernel_rfl
  c20 := by kernel_rfl
  c21 := by kernel_rfl
  c37 := by kernel_rfl
  c46 := by kernel_rfl
  c51 := by kernel_rfl
  c53 := by kernel_rfl
  c75 := by kernel_rfl
  c76 := by kernel_rfl
  c80 := by kernel_rfl
  c85 := by kernel_rfl
  c127 := by kernel_rfl
  c143 := by kernel_rfl
  c145 := by kernel_rfl
  c167 := by kernel_rfl
  c168 := by kernel_rfl
  c171 := by kernel_rfl
  c173 := by kernel_rfl
  c175 := by kernel_rfl
  c210 := by kernel_rfl
  c212 := by kernel_rfl
  c213 := by kernel_rfl
  c232 := by kernel_rfl
  c233 := by kernel_rfl }
open Go.RowKit in
theorem Tryz.strconv_Atoi_ok (s : ByteArray) (hmax : s.size ≤ 9223372036854775806) (v : Int) (h : Lib.atoiAll s.data.toList = .ok v) (w : World) :
    Calls Tryz.prog 102 #[.string s] w fun e w' => e = .returned (.tuple #[.int .i64 v, .nilIface]) ∧ (w' = w ∨ ∃ t, w' = Lib.bytesWorld w 5 t) := Any.strconv_Atoi_ok Tryz.laysC172 s hmax v h w
open Go.RowKit in
theorem Tryz.strconv_Atoi_syntax (s : ByteArray) (hlim : s.size ≤ 281474976710656) (h : Lib.atoiAll s.data.toList ≠ .range ∧ ∀ v, Lib.atoiAll s.data.toList ≠ .ok v) (ev : Value) (w : World) (hv : w.cell? ⟨0, 0, none⟩ = some ev) (hev : ev = .nilIface ∨ ∃ te pe, ev = .iface te pe) :
    Calls Tryz.prog 102 #[.string s] w fun e w' => ∃ N, e = .returned (.tuple #[.int .i64 (0), .iface 199 (.pointer (some ⟨N, 0, none⟩))]) ∧ w.heap.size ≤ N ∧ w'.heap[N]? = some (.cells #[.string ⟨#[65, 116, 111, 105]⟩, .string s, ev] 223 (0, 0)) ∧ Below w.heap.size w w' := Any.strconv_Atoi_syntax Tryz.laysC172 s hlim (by rcases hx : Lib.atoiAll s.data.toList with v | _ | _ <;> first | rfl | exact absurd hx (h.2 _) | exact absurd hx h.1) ev w hv hev
open Go.RowKit in
theorem Tryz.strconv_Atoi_range (s : ByteArray) (hlim : s.size ≤ 281474976710656) (h : Lib.atoiAll s.data.toList = .range) (ev : Value) (w : World) (hv : w.cell? ⟨1, 0, none⟩ = some ev) (hev : ev = .nilIface ∨ ∃ te pe, ev = .iface te pe) :
    Calls Tryz.prog 102 #[.string s] w fun e w' => ∃ N, e = .returned (.tuple #[.int .i64 (Lib.atoiSat s.data.toList), .iface 199 (.pointer (some ⟨N, 0, none⟩))]) ∧ w.heap.size ≤ N ∧ w'.heap[N]? = some (.cells #[.string ⟨#[65, 116, 111, 105]⟩, .string s, ev] 223 (0, 0)) ∧ Below w.heap.size w w' := Any.strconv_Atoi_range Tryz.laysC172 s hlim h ev w hv hev
def Tryz.laysC174_ren : Go.Shelf.Ren := ⟨fun | 174 => 54 | 247 => 110 | 245 => 111 | 287 => 150 | 279 => 151 | 280 => 152 | 281 => 153 | 282 => 154 | 321 => 182 | 322 => 183 | 316 => 184 | 171 => 64 | 205 => 185 | 243 => 119 | 246 => 118 | 283 => 156 | 284 => 157 | 285 => 158 | 286 => 159 | 129 => 187 | 317 => 186 | 318 => 188 | 319 => 189 | 320 => 190 | 337 => 197 | 338 => 198 | n => n, fun | 9 => 9 | 3 => 3 | 2 => 2 | 75 => 101 | 85 => 102 | 4 => 4 | 167 => 195 | 5 => 5 | 53 => 165 | 175 => 196 | 46 => 198 | 168 => 199 | 37 => 116 | 0 => 0 | 210 => 223 | 21 => 21 | 127 => 241 | 145 => 244 | 143 => 242 | 171 => 202 | 173 => 205 | 212 => 227 | 51 => 35 | 20 => 20 | 213 => 228 | 232 => 249 | 233 => 250 | 80 => 147 | n => n, fun | 15 => 0 | 16 => 1 | 17 => 2 | 18 => 6 | 19 => 7 | n => n⟩
theorem Tryz.laysC174 : Go.Proofs.LaysC.n174 Tryz.prog Tryz.laysC174_ren := {
  mixed := by kernel_rfl
  f129 := Tryz.func187.trans (congrArg some (by kernel_rfl))
  f171 := Tryz.func64.trans (congrArg some (by kernel_rfl))
  f174 := Tryz.func54.trans (congrArg some (by kernel_rfl))
  f205 := Tryz.func185.trans (congrArg some (by kernel_rfl))
  f243 := Tryz.func119.trans (congrArg some (by kernel_rfl))
  f245 := Tryz.func111.trans (congrArg some (by kernel_rfl))
  f246 := Tryz.func118.trans (congrArg some (by kernel_rfl))
  f247 := Tryz.func110.trans (congrArg some (by kernel_rfl))
  f279 := Tryz.func151.trans (congrArg some (by kernel_rfl))
  f280 := Tryz.func152.trans (congrArg some (by kernel_rfl))
  f281 := Tryz.func153.trans (congrArg some (by kernel_rfl))
  f282 := Tryz.func154.trans (congrArg some (by kernel_rfl))
  f283 := Tryz.func156.trans (congrArg some (by kernel_rfl))
  f284 := Tryz.func157.trans (congrArg some (by kernel_rfl))
  f285 := Tryz.func158.trans (congrArg some (by kernel_rfl))
  f286 := Tryz.func159.trans (congrArg some (by kernel_rfl))
  f287 := Tryz.func150.trans (congrArg some (by kernel_rfl))
  f316 := Tryz.func184.trans (congrArg some (by kernel_rfl))
  f317 := Tryz.func186.trans (congrArg some (by kernel_rfl))
  f318 := Tryz.func188.trans (congrArg some (by kernel_rfl))
  f319 := Tryz.func189.trans (congrArg some (by kernel_rfl))
  f320 := Tryz.func190.trans (congrArg some (by kernel_rfl))
  f321 := Tryz.func182.trans (congrArg some (by kernel_rfl))
  f322 := Tryz.func183.trans (congrArg some (by kernel_rfl))
  f337 := Tryz.func197.trans (congrArg some (by kernel_rfl))
  f338 := Tryz.func198.trans (congrArg some (by kernel_rfl))
  t0 := Tryz.underlying0
  a0 := Tryz.isAgg0
  z0 := Tryz.sizeOf0
  v0 := Tryz.zeroValue0
  t2 := Tryz.underlying2
  a2 := Tryz.isAgg2
  z2 := Tryz.sizeOf2
  v2 := Tryz.zeroValue2
  t3 := Tryz.underlying3
  a3 := Tryz.isAgg3
  z3 := Tryz.sizeOf3
  v3 := Tryz.zeroValue3
  t4 := Tryz.underlying4
  a4 := Tryz.isAgg4
  z4 := Tryz.sizeOf4
  v4 := Tryz.zeroValue4
  t5 := Tryz.underlying5
  a5 := Tryz.isAgg5
  z5 := Tryz.sizeOf5
  v5 := Tryz.zeroValue5
  t9 := Tryz.underlying9
  a9 := Tryz.isAgg9
  z9 := Tryz.sizeOf9
  v9 := Tryz.zeroValue9
  t20 := Tryz.underlying20
  a20 := Tryz.isAgg20
  z20 := Tryz.sizeOf20
  v20 := Tryz.zeroValue20
  t21 := Tryz.underlying21
  a21 := Tryz.isAgg21
  z21 := Tryz.sizeOf21
  v21 := Tryz.zeroValue21
  t37 := Tryz.underlying116
  a37 := Tryz.isAgg116
  z37 := Tryz.sizeOf116
  v37 := Tryz.zeroValue116
  t46 := Tryz.underlying198
  a46 := Tryz.isAgg198
  z46 := Tryz.sizeOf198
  v46 := Tryz.zeroValue198
  t51 := Tryz.underlying35
  a51 := Tryz.isAgg35
  z51 := Tryz.sizeOf35
  v51 := Tryz.zeroValue35
  t53 := Tryz.underlying165
  a53 := Tryz.isAgg165
  z53 := Tryz.sizeOf165
  v53 := Tryz.zeroValue165
  t75 := Tryz.underlying101
  a75 := Tryz.isAgg101
  z75 := Tryz.sizeOf101
  v75 := Tryz.zeroValue101
  t85 := Tryz.underlying102
  a85 := Tryz.isAgg102
  z85 := Tryz.sizeOf102
  v85 := Tryz.zeroValue102
  t127 := Tryz.underlying241
  a127 := Tryz.isAgg241
  z127 := Tryz.sizeOf241
  v127 := Tryz.zeroValue241
  t143 := Tryz.underlying242
  a143 := Tryz.isAgg242
  z143 := Tryz.sizeOf242
  v143 := Tryz.zeroValue242
  t145 := Tryz.underlying244
  a145 := Tryz.isAgg244
  z145 := Tryz.sizeOf244
  v145 := Tryz.zeroValue244
  t167 := Tryz.underlying195
  a167 := Tryz.isAgg195
  z167 := Tryz.sizeOf195
  v167 := Tryz.zeroValue195
  t168 := Tryz.underlying199
  a168 := Tryz.isAgg199
  z168 := Tryz.sizeOf199
  v168 := Tryz.zeroValue199
  t171 := Tryz.underlying202
  a171 := Tryz.isAgg202
  z171 := Tryz.sizeOf202
  v171 := Tryz.zeroValue202
  t173 := Tryz.underlying205
  a173 := Tryz.isAgg205
  z173 := Tryz.sizeOf205
  v173 := Tryz.zeroValue205
  t175 := Tryz.underlying196
  a175 := Tryz.isAgg196
  z175 := Tryz.sizeOf196
  v175 := Tryz.zeroValue196
  t210 := Tryz.underlying223
  a210 := Tryz.isAgg223
  z210 := Tryz.sizeOf223
  v210 := Tryz.zeroValue223
  t212 := Tryz.underlying227
  a212 := Tryz.isAgg227
  z212 := Tryz.sizeOf227
  v212 := Tryz.zeroValue227
  t213 := Tryz.underlying228
  a213 := Tryz.isAgg228
  z213 := Tryz.sizeOf228
  t232 := Tryz.underlying249
  a232 := Tryz.isAgg249
  z232 := Tryz.sizeOf249
  v232 := Tryz.zeroValue249
  t233 := Tryz.underlying250
  a233 := Tryz.isAgg250
  z233 := Tryz.sizeOf250
  v233 := Tryz.zeroValue250
  g15 := by kernel_rfl
  g16 := by kernel_rfl
  g17 := by kernel_rfl
  g18 := by kernel_rfl
  g19 := by kernel_rfl
  t80 := Tryz.underlying147
  a80 := Tryz.isAgg147
  z80 := Tryz.sizeOf147
  v80 := Tryz.zeroValue147
  i0 := by kernel_rfl
  i2 := by kernel_rfl
  i3 := by kernel_rfl
  i4 := by kernel_rfl
  i5 := by kernel_rfl
  i9 := by kernel_rfl
  i20 := by kernel_rfl
  i21 := by kernel_rfl
  i37 := by kernel_rfl
  i46 := by kernel_rfl
  i51 := by kernel_rfl
  i53 := by kernel_rfl
  i75 := by kernel_rfl
  i80 := by kernel_rfl
  i85 := by kernel_rfl
  i127 := by kernel_rfl
  i143 := by kernel_rfl
  i145 := by kernel_rfl
  i167 := by kernel_rfl
  i168 := by kernel_rfl
  i171 := by kernel_rfl
  i173 := by kernel_rfl
  i175 := by kernel_rfl
  i210 := by kernel_rfl
  i212 := by kernel_rfl
  i232 := by kernel_rfl
  i233 := by kernel_rfl
  m15 := by kernel_rfl
  m16 := by kernel_rfl
  m17 := by kernel_rfl
  m18 := by kernel_rfl
  m19 := by kernel_rfl
  c0 := by kernel_rfl
  c2 := by kernel_rfl
  c3 := by kernel_rfl
  c4 := by kernel_rfl
  c5 := by kernel_rfl
  c9 := by kernel_rfl
  c20 := by kernel_rfl
  c21 := by kernel_rfl
  c37 := by kernel_rfl
  c46 := by kernel_rfl
  c51 := by kernel_rfl
  c53 := by kernel_rfl
  c75 := by kernel_rfl
  c80 := by kernel_rfl
  c85 := by kernel_rfl
  c127 := by kernel_rfl
  c143 := by kernel_rfl
  c145 := by kernel_rfl
  c167 := by kernel_rfl
  c168 := by kernel_rfl
  c171 := by kernel_rfl
  c173 := by kernel_rfl
  c175 := by kernel_rfl
  c210 := by kernel_rfl
  c212 := by kernel_rfl
  c213 := by kernel_rfl
  c232 := by kernel_rfl
  c233 := by kernel_rfl }
open Go.RowKit in
theorem Tryz.strconv_ParseInt_10_at64_ok (s : ByteArray) (hmax : s.size ≤ 9223372036854775806) (v : Int) (h : Lib.parseIntB 64 s.data.toList = .ok v) (w : World) :
    Calls Tryz.prog 54 #[.string s, .int .i64 10, .int .i64 64] w fun e w' => e = .returned (.tuple #[.int .i64 v, .nilIface]) ∧ (w' = w ∨ ∃ t, w' = Lib.bytesWorld w 5 t) := Any.strconv_ParseInt_10_at64_ok Tryz.laysC174 s hmax v h w
def Tryz.lays99_ren : Go.Shelf.Ren := ⟨fun | 99 => 50 | 206 => 101 | n => n, fun | 9 => 9 | 4 => 4 | 3 => 3 | n => n, fun | n => n⟩
theorem Tryz.lays99 : Go.Proofs.Lays.n99 Tryz.prog Tryz.lays99_ren := {
  mixed := by kernel_rfl
  f99 := Tryz.func50.trans (congrArg some (by kernel_rfl))
  f206 := Tryz.func101.trans (congrArg some (by kernel_rfl))
  t3 := Tryz.underlying3
  a3 := Tryz.isAgg3
  z3 := Tryz.sizeOf3
  v3 := Tryz.zeroValue3
  t4 := Tryz.underlying4
  a4 := Tryz.isAgg4
  z4 := Tryz.sizeOf4
  v4 := Tryz.zeroValue4
  t9 := Tryz.underlying9
  a9 := Tryz.isAgg9
  z9 := Tryz.sizeOf9
  v9 := Tryz.zeroValue9 }
open Go.RowKit Go.Lib in
theorem Tryz.strings_HasPrefix (s p : ByteArray) (w : World) :
    Calls Tryz.prog 50 #[.string s, .string p] w fun e w' => e = .returned (.bool (Lib.hasPrefix s.data.toList p.data.toList)) ∧ w' = w := Any.strings_HasPrefix Tryz.lays99 s p w
end Go.Proofs
end
section
/- The library's contracts that the texts of numbers lean on, taken over. -/
namespace Go.Proofs.YtfjelkjlfcafgaaGreatDoor.NumL
open Go Go.RowKit Go.Proofs.YtfjelkjlfcafgaaGreatDoor.Ax Go.Proofs.YtfjelkjlfcafgaaGreatDoor.BigM Go.Proofs.YtfjelkjlfcafgaaGreatDoor.NumS Go.Proofs.YtfjelkjlfcafgaaGreatDoor.NumT
set_option linter.unusedSimpArgs false
set_option linter.unusedVariables false
set_option maxRecDepth 4000

theorem data_bs (l : List Nat) : (bs l).data.toList = l.map UInt8.ofNat := by
  show ((l.map UInt8.ofNat).toArray).toList = _
  rw [List.toList_toArray]
theorem ofNat_inj {a b : Nat} (ha : a < 256) (hb : b < 256) (h : UInt8.ofNat a = UInt8.ofNat b) : a = b := by
  have := congrArg UInt8.toNat h
  simpa [Nat.mod_eq_of_lt ha, Nat.mod_eq_of_lt hb] using this
theorem pre_one (l : List Nat) (h : By l) (c : Nat) (hc : c < 256) : Lib.hasPrefix (l.map UInt8.ofNat) [UInt8.ofNat c] = decide (l.head? = some c) := by
  cases l with
  | nil => rfl
  | cons a r =>
    have ha := h a (by simp)
    show (UInt8.ofNat c == UInt8.ofNat a && true) = _
    by_cases e : a = c
    · subst e; simp
    · have : UInt8.ofNat c ≠ UInt8.ofNat a := fun q => e (ofNat_inj ha hc q.symm)
      simp [this, e]
theorem below_self (w : World) : Below w.heap.size w w := Below.refl _ w
theorem hasPrefix_ax (l : List Nat) (h : By l) (c : Nat) (hc : c < 256) : PCall Tryz.prog 50 [.v (.string (bs l)), .v (.string (bs [c]))] (.v (.bool (decide (l.head? = some c)))) := by
  have e := pre_one l h c hc
  refine pcall_lift (us := [.string (bs l), .string (bs [c])]) (enters_of Tryz.func50 rfl rfl) (fun k => .v _) fun w => ?_
  refine (Tryz.strings_HasPrefix (bs l) (bs [c]) w).mono ?_
  rintro en w' ⟨rfl, rfl⟩
  rw [data_bs, data_bs, List.map_cons, List.map_nil, e]
  exact ⟨rfl, below_self _⟩
def cut1 (l : List Nat) (c : Nat) : List Nat := if l.head? = some c then l.tail else l
theorem cutPrefix_ax (l : List Nat) (h : By l) (c : Nat) (hc : c < 256) : PCall Tryz.prog 48 [.v (.string (bs l)), .v (.string (bs [c]))] (.tp [.v (.string (bs (cut1 l c))), .v (.bool (decide (l.head? = some c)))]) := by
  have e := pre_one l h c hc
  refine pcall_lift (us := [.string (bs l), .string (bs [c])]) (v := .tuple #[.string (bs (cut1 l c)), .bool (decide (l.head? = some c))]) (enters_of Tryz.func48 rfl rfl) (fun k => .tp _ [_, _] rfl fun j z u hz hu => ?_) fun w => ?_
  · match j with
    | 0 => simp at hz hu; subst hz hu; exact .v _
    | 1 => simp at hz hu; subst hz hu; exact .v _
    | j + 2 => simp at hz
  refine (Tryz.strings_CutPrefix (bs l) (bs [c]) w).mono ?_
  rintro en w' ⟨rfl, rfl⟩
  rw [data_bs, data_bs, List.map_cons, List.map_nil]
  unfold Lib.trimPrefix
  rw [e]
  refine ⟨?_, below_self _⟩
  unfold cut1
  by_cases q : l.head? = some c
  · rw [if_pos q, decide_eq_true q, if_pos rfl]
    cases l with
    | nil => cases q
    | cons a r => rfl
  · rw [if_neg q, decide_eq_false q, if_neg (by simp)]
    rfl
def lead (l : List Nat) : List Nat := l.dropWhile (· == 48)
def trail (l : List Nat) : List Nat := (l.reverse.dropWhile (· == 48)).reverse
theorem drop_map (l : List Nat) (h : By l) : (l.map UInt8.ofNat).dropWhile (· == UInt8.ofNat 48) = (l.dropWhile (· == 48)).map UInt8.ofNat := by
  induction l with
  | nil => rfl
  | cons a r ih =>
    have ha := h a (by simp)
    have ih := ih fun c hc => h c (by simp [hc])
    rw [List.map_cons, List.dropWhile_cons, List.dropWhile_cons]
    by_cases e : a = 48
    · subst e; simp only [beq_self_eq_true, if_true]; exact ih
    · have : UInt8.ofNat a ≠ UInt8.ofNat 48 := fun q => e (ofNat_inj ha (by decide) q)
      rw [if_neg (by simpa using this), if_neg (by simpa using e)]
      rfl
theorem trimLeft_ax (l : List Nat) (h : By l) : PCall Tryz.prog 52 [.v (.string (bs l)), .v (.string (bs [48]))] (.v (.string (bs (lead l)))) := by
  refine pcall_lift (us := [.string (bs l), .string (bs [48])]) (enters_of Tryz.func52 rfl rfl) (fun k => .v _) fun w => ?_
  refine (Tryz.strings_TrimLeft_one (bs l) (UInt8.ofNat 48) (by decide) w).mono ?_
  rintro en w' ⟨rfl, rfl⟩
  refine ⟨?_, below_self _⟩
  rw [data_bs]
  unfold Lib.trimLeftB
  rw [drop_map l h]
  rfl
theorem trimRight_ax (l : List Nat) (h : By l) (hl : l.length ≤ 1000000000) : PCall Tryz.prog 53 [.v (.string (bs l)), .v (.string (bs [48]))] (.v (.string (bs (trail l)))) := by
  refine pcall_lift (us := [.string (bs l), .string (bs [48])]) (enters_of Tryz.func53 rfl rfl) (fun k => .v _) fun w => ?_
  refine (Tryz.strings_TrimRight_one (bs l) (UInt8.ofNat 48) (by decide) w (by rw [bs_size]; omega)).mono ?_
  rintro en w' ⟨rfl, rfl⟩
  refine ⟨?_, below_self _⟩
  rw [data_bs]
  unfold Lib.trimRightB
  rw [← List.map_reverse, drop_map _ (fun c hc => h c (List.mem_reverse.1 hc)), ← List.map_reverse]
  rfl
theorem dec_from (l : List Nat) (h : ∀ c ∈ l, isD c = true) : ∀ acc, Lib.decFrom acc (l.map UInt8.ofNat) = some (l.foldl (fun a c => 10 * a + (c - 48)) acc) := by
  induction l with
  | nil => intro acc; rfl
  | cons a r ih =>
    intro acc
    have ha := (isD_iff a).1 (h a (by simp))
    have hd : Lib.digitVal (UInt8.ofNat a) = some (a - 48) := by
      unfold Lib.digitVal
      have : (UInt8.ofNat a).toNat = a := by simp; omega
      rw [this, if_pos ha]
    rw [List.map_cons, List.foldl_cons, Lib.decFrom, hd]
    simp only
    rw [ih (fun c hc => h c (by simp [hc]))]
    congr 2
    omega
theorem atoi_ax (l : List Nat) (h : ∀ c ∈ l, isD c = true) (h0 : l ≠ []) (hl : l.length ≤ 18) : PCall Tryz.prog 102 [.v (.string (bs l))] (.tp [.v (.int .i64 (digV l : Nat)), .v .nilIface]) := by
  refine pcall_lift (us := [.string (bs l)]) (v := .tuple #[.int .i64 (digV l : Nat), .nilIface]) (enters_of Tryz.func102 rfl rfl) (fun k => .tp _ [_, _] rfl fun j z u hz hu => ?_) fun w => ?_
  · match j with
    | 0 => simp at hz hu; subst hz hu; exact .v _
    | 1 => simp at hz hu; subst hz hu; exact .v _
    | j + 2 => simp at hz
  refine (Tryz.strconv_Atoi (bs l) (digV l : Nat) (by rw [bs_size]; exact hl) ?_ w).mono ?_
  · rw [data_bs]
    cases l with
    | nil => exact absurd rfl h0
    | cons a r =>
      have ha := (isD_iff a).1 (h a (by simp))
      have h45 : (UInt8.ofNat a == 45) = false := by
        rw [beq_eq_false_iff_ne]
        intro q
        have := ofNat_inj (b := 45) (by omega) (by decide) q
        omega
      have h43 : (UInt8.ofNat a == 43) = false := by
        rw [beq_eq_false_iff_ne]
        intro q
        have := ofNat_inj (b := 43) (by omega) (by decide) q
        omega
      have hf := dec_from (a :: r) h 0
      rw [List.map_cons] at hf ⊢
      show (if (UInt8.ofNat a == 45) = true then Option.map (fun (m : Nat) => -(m : Int)) (Lib.decNat (List.map UInt8.ofNat r)) else if (UInt8.ofNat a == 43) = true then Option.map (fun (m : Nat) => (m : Int)) (Lib.decNat (List.map UInt8.ofNat r)) else Option.map (fun (m : Nat) => (m : Int)) (Lib.decNat (UInt8.ofNat a :: List.map UInt8.ofNat r))) = _
      rw [h45, h43]
      simp only [Bool.false_eq_true, if_false]
      unfold Lib.decNat
      rw [List.isEmpty_cons, if_neg (by simp), hf]
      rfl
  · rintro en w' ⟨rfl, t, rfl⟩
    exact ⟨rfl, Lib.bytesWorld_below _ _ _⟩
theorem uint_from (l : List Nat) (h : ∀ c ∈ l, isD c = true) : ∀ acc, (acc + 1) * 10 ^ l.length ≤ 1000000000 → Lib.parseUintM (2 ^ 64 - 1) acc (l.map UInt8.ofNat) = .ok (l.foldl (fun a c => 10 * a + (c - 48)) acc) := by
  induction l with
  | nil => intro acc hb; rfl
  | cons a r ih =>
    intro acc hb
    have ha := (isD_iff a).1 (h a (by simp))
    have e : (UInt8.ofNat a).toNat = a := by simp; omega
    rw [List.length_cons, Nat.pow_succ] at hb
    have hpos : 1 ≤ 10 ^ r.length := Nat.pow_pos (by decide)
    have h1 : (acc + 1) * (1 * 10) ≤ (acc + 1) * (10 ^ r.length * 10) := Nat.mul_le_mul_left _ (Nat.mul_le_mul_right _ hpos)
    have h2 : (acc * 10 + (a - 48) + 1) * 10 ^ r.length ≤ (acc + 1) * (10 ^ r.length * 10) := by
      rw [Nat.mul_comm (10 ^ r.length), ← Nat.mul_assoc]
      exact Nat.mul_le_mul_right _ (by omega)
    rw [List.map_cons, List.foldl_cons, Lib.parseUintM, e, if_pos ha, if_neg (by omega), if_neg (by omega), ih (fun c hc => h c (by simp [hc])) _ (by omega), Nat.mul_comm acc]
theorem parseInt_ax (l : List Nat) (h : ∀ c ∈ l, isD c = true) (h0 : l ≠ []) (hl : l.length ≤ 9) : PCall Tryz.prog 54 [.v (.string (bs l)), .v (.int .i64 10), .v (.int .i64 64)] (.tp [.v (.int .i64 (digV l : Nat)), .v .nilIface]) := by
  refine pcall_lift (us := [.string (bs l), .int .i64 10, .int .i64 64]) (v := .tuple #[.int .i64 (digV l : Nat), .nilIface]) (enters_of Tryz.func54 rfl rfl) (fun k => .tp _ [_, _] rfl fun j z u hz hu => ?_) fun w => ?_
  · match j with
    | 0 => simp at hz hu; subst hz hu; exact .v _
    | 1 => simp at hz hu; subst hz hu; exact .v _
    | j + 2 => simp at hz
  refine (Tryz.strconv_ParseInt_10_at64_ok (bs l) (by rw [bs_size]; omega) (digV l : Nat) ?_ w).mono ?_
  · rw [data_bs]
    have hb : (0 + 1) * 10 ^ l.length ≤ 1000000000 := by
      rw [Nat.zero_add, Nat.one_mul]
      exact Nat.le_trans (Nat.pow_le_pow_right (by decide) hl) (by decide)
    have hf := uint_from l h 0 hb
    cases l with
    | nil => exact absurd rfl h0
    | cons a r =>
      have ha := (isD_iff a).1 (h a (by simp))
      have e : (UInt8.ofNat a).toNat = a := by simp; omega
      rw [List.map_cons] at hf ⊢
      have hlt : digV (a :: r) < 2 ^ 63 := by
        have : ∀ (l : List Nat) (acc : Nat), (∀ c ∈ l, isD c = true) → l.foldl (fun a c => 10 * a + (c - 48)) acc + 1 ≤ (acc + 1) * 10 ^ l.length := by
          intro l
          induction l with
          | nil => intro acc _; simp
          | cons b l ih =>
            intro acc hd
            have hb := (isD_iff b).1 (hd b (by simp))
            have h3 := ih (10 * acc + (b - 48)) fun c hc => hd c (by simp [hc])
            rw [List.foldl_cons, List.length_cons, Nat.pow_succ, Nat.mul_comm (10 ^ l.length), ← Nat.mul_assoc]
            exact Nat.le_trans h3 (Nat.mul_le_mul_right _ (by omega))
        have h4 := this (a :: r) 0 h
        have h5 : digV (a :: r) + 1 ≤ (0 + 1) * 10 ^ (a :: r).length := h4
        omega
      unfold Lib.parseIntB Lib.parseUintB
      have n1 : ¬ (a = 43 ∨ a = 45) := by omega
      have n2 : ¬ a = 45 := by omega
      have hh : List.foldl (fun a c => 10 * a + (c - 48)) 0 (a :: r) = digV (a :: r) := rfl
      rw [hh] at hf
      simp only [e, if_neg n1, if_neg (List.cons_ne_nil _ _), hf]
      rw [if_neg (by omega), if_neg (by omega), if_neg n2]
  · rintro en w' ⟨rfl, q⟩
    refine ⟨rfl, ?_⟩
    rcases q with rfl | ⟨t, rfl⟩
    · exact below_self _
    · exact Lib.bytesWorld_below _ _ _
end Go.Proofs.YtfjelkjlfcafgaaGreatDoor.NumL
end
section
/- Plain lists: what num.Parse makes of digits. -/
namespace Go.Proofs.YtfjelkjlfcafgaaGreatDoor.NumP
open Go.Proofs.YtfjelkjlfcafgaaGreatDoor.BigM Go.Proofs.YtfjelkjlfcafgaaGreatDoor.NumS Go.Proofs.YtfjelkjlfcafgaaGreatDoor.NumT Go.Proofs.YtfjelkjlfcafgaaGreatDoor.NumL
set_option linter.unusedVariables false

theorem dw (m : List Nat) : ∃ n, m = List.replicate n 48 ++ m.dropWhile (· == 48) ∧ ∀ c, (m.dropWhile (· == 48)).head? = some c → c ≠ 48 := by
  induction m with
  | nil => exact ⟨0, rfl, fun c h => by cases h⟩
  | cons a m ih =>
    rw [List.dropWhile_cons]
    by_cases e : a = 48
    · obtain ⟨n, h1, h2⟩ := ih
      subst e
      simp only [beq_self_eq_true, if_true]
      refine ⟨n + 1, ?_, h2⟩
      rw [List.replicate_succ, List.cons_append, ← h1]
    · rw [if_neg (by simpa using e)]
      exact ⟨0, rfl, fun c h => by obtain rfl : a = c := by simpa using h
                                   exact e⟩
theorem fold_acc (l : List Nat) : ∀ acc, l.foldl (fun a c => 10 * a + (c - 48)) acc = acc * 10 ^ l.length + digV l := by
  induction l with
  | nil => intro acc; simp [digV]
  | cons c l ih =>
    intro acc
    have h0 : digV (c :: l) = l.foldl (fun a c => 10 * a + (c - 48)) (10 * 0 + (c - 48)) := rfl
    rw [List.foldl_cons, ih, h0, ih, List.length_cons, Nat.pow_succ, Nat.mul_zero, Nat.zero_add]
    have e1 : (10 * acc + (c - 48)) * 10 ^ l.length = acc * (10 ^ l.length * 10) + (c - 48) * 10 ^ l.length := by
      rw [Nat.add_mul, Nat.mul_comm 10 acc, Nat.mul_assoc, Nat.mul_comm 10]
    omega
theorem digV_append (a b : List Nat) : digV (a ++ b) = digV a * 10 ^ b.length + digV b := by
  unfold digV
  rw [List.foldl_append, fold_acc]
  rfl
theorem digV_rep (n : Nat) : digV (List.replicate n 48) = 0 := by
  have := digV_zeros [] n
  rw [List.nil_append] at this
  rw [this]
  simp [digV]
theorem lead_val (l : List Nat) : digV (lead l) = digV l := by
  obtain ⟨n, h1, h2⟩ := dw l
  have : digV l = digV (List.replicate n 48 ++ lead l) := congrArg digV h1
  rw [this, digV_append, digV_rep]
  simp
theorem lead_sub (l : List Nat) : ∀ c ∈ lead l, c ∈ l := fun c h => (List.dropWhile_sublist _).subset h
theorem lead_len (l : List Nat) : (lead l).length ≤ l.length := (List.dropWhile_sublist _).length_le
theorem trail_eq (l : List Nat) : ∃ n, l = trail l ++ List.replicate n 48 ∧ (∀ c, (trail l).reverse.head? = some c → c ≠ 48) := by
  obtain ⟨n, h1, h2⟩ := dw l.reverse
  refine ⟨n, ?_, fun c h => h2 c (by unfold trail at h; rw [List.reverse_reverse] at h; exact h)⟩
  have h3 := congrArg List.reverse h1
  rw [List.reverse_reverse, List.reverse_append, List.reverse_replicate] at h3
  exact h3
theorem dig_lt (l : List Nat) (h : ∀ c ∈ l, isD c = true) : digV l < 10 ^ l.length := by
  induction l with
  | nil => simp [digV]
  | cons c l ih =>
    have hc := (isD_iff c).1 (h c (by simp))
    have := ih fun x hx => h x (by simp [hx])
    have e := digV_append [c] l
    rw [List.singleton_append] at e
    rw [e, List.length_cons, Nat.pow_succ]
    have e1 : digV [c] = c - 48 := by simp [digV]
    rw [e1]
    have h2 : (c - 48) * 10 ^ l.length ≤ 9 * 10 ^ l.length := Nat.mul_le_mul_right _ (by omega)
    omega
theorem dig_ge (c : Nat) (l : List Nat) (h : 49 ≤ c) : 10 ^ l.length ≤ digV (c :: l) := by
  have e := digV_append [c] l
  rw [List.singleton_append] at e
  have e1 : digV [c] = c - 48 := by simp [digV]
  rw [e, e1]
  have h2 : 1 * 10 ^ l.length ≤ (c - 48) * 10 ^ l.length := Nat.mul_le_mul_right _ (by omega)
  omega
theorem fin_parse (neg : Bool) (ds : List Nat) (X : Int) (h : ∀ c ∈ ds, isD c = true) :
    (lead ds = [] → finS neg (digV ds) X = (0, 0, 0)) ∧
    (lead ds ≠ [] → trail (lead ds) ≠ [] ∧ (∀ c ∈ trail (lead ds), isD c = true) ∧ (trail (lead ds)).length ≤ (lead ds).length ∧
      (if (trail (lead ds)).length > 9 ∨ X + ((lead ds).length - (trail (lead ds)).length : Nat) < -18 ∨ X + ((lead ds).length - (trail (lead ds)).length : Nat) > 9 then finS neg (digV ds) X = (0, 0, 30)
       else finS neg (digV ds) X = (if neg then -(digV (trail (lead ds)) : Int) else digV (trail (lead ds)), X + ((lead ds).length - (trail (lead ds)).length : Nat), 0))) := by
  have hv := lead_val ds
  have hl : ∀ c ∈ lead ds, isD c = true := fun c hc => h c (lead_sub ds c hc)
  obtain ⟨_, _, hhead⟩ := dw ds
  constructor
  · intro e
    rw [e] at hv
    unfold finS
    rw [← hv]
    rfl
  · intro hne
    obtain ⟨n, t1, t2⟩ := trail_eq (lead ds)
    have hlen := congrArg List.length t1
    rw [List.length_append, List.length_replicate] at hlen
    have hval := congrArg digV t1
    rw [digV_zeros, hv] at hval
    have hds : ∀ c ∈ trail (lead ds), isD c = true := fun c hc => hl c (by rw [t1]; exact List.mem_append_left _ hc)
    have hh : ∀ c, (lead ds).head? = some c → 49 ≤ c := fun c hc => by
      have a := hhead c hc
      have b := (isD_iff c).1 (hl c (List.mem_of_head? hc))
      omega
    have htne : trail (lead ds) ≠ [] := fun e => by
      rw [e, List.nil_append] at t1
      cases n with
      | zero => exact hne t1
      | succ n =>
        have := hh 48 (by rw [t1]; rfl)
        omega
    generalize hT : trail (lead ds) = T at *
    obtain ⟨c, r, rfl⟩ : ∃ c r, T = c :: r := by
      cases T with
      | nil => exact absurd rfl htne
      | cons c r => exact ⟨c, r, rfl⟩
    have hc49 : 49 ≤ c := hh c (by rw [t1]; rfl)
    have hge := dig_ge c r hc49
    have hlt := dig_lt (c :: r) hds
    have hpos : 0 < digV (c :: r) := Nat.lt_of_lt_of_le (Nat.pow_pos (by decide)) hge
    have hmod : digV (c :: r) % 10 ≠ 0 := by
      obtain ⟨x, y, hxy⟩ : ∃ x y, c :: r = x ++ [y] := ⟨(c :: r).dropLast, (c :: r).getLast (by simp), (List.dropLast_concat_getLast (by simp)).symm⟩
      have hy := t2 y (by rw [hxy]; simp)
      have hyd := (isD_iff y).1 (hds y (by rw [hxy]; simp))
      rw [hxy, digV_snoc]
      omega
    have hst : strip (digV ds) X = (digV (c :: r), X + n) := by rw [hval, strip_pow _ hpos, strip_stop _ _ (fun q => hmod q.2)]
    have hd0 : digV ds ≠ 0 := by
      rw [hval]
      have := Nat.mul_pos hpos (Nat.pow_pos (n := n) (show 0 < 10 by decide))
      omega
    have hn : (lead ds).length - (c :: r).length = n := by omega
    refine ⟨htne, hds, by omega, ?_⟩
    rw [hn]
    have h9 : (c :: r).length > 9 ↔ ¬ digV (c :: r) ≤ 999999999 := by
      constructor
      · intro q
        have : 10 ^ 9 ≤ 10 ^ r.length := Nat.pow_le_pow_right (by decide) (by rw [List.length_cons] at q; omega)
        omega
      · intro q
        refine Nat.lt_of_not_le fun q2 => q ?_
        have : 10 ^ (c :: r).length ≤ 10 ^ 9 := Nat.pow_le_pow_right (by decide) q2
        omega
    unfold finS
    rw [if_neg hd0, hst]
    simp only
    by_cases q : (c :: r).length > 9 ∨ X + (n : Int) < -18 ∨ X + (n : Int) > 9
    · rw [if_pos q, if_neg]
      rintro ⟨a, b, d⟩
      rcases q with q | q | q
      · exact (h9.1 q) a
      · omega
      · omega
    · rw [if_neg q, if_pos]
      refine ⟨?_, by omega, by omega⟩
      have q1 : ¬ (c :: r).length > 9 := fun e => q (.inl e)
      rw [h9] at q1
      omega
theorem parse_cut (l : List Nat) (h : l.length ≤ 32) : parseS l = bodyS (decide (l.head? = some 45)) (cut1 l 45) := by
  unfold parseS cut1
  rw [if_neg (by omega)]
  split
  · rfl
  · rename_i hne
    cases l with
    | nil => rfl
    | cons a r =>
      have : a ≠ 45 := fun e => hne r (by rw [e])
      simp [this]
theorem fr_take (r : List Nat) : r.take (fr r).length = fr r := by
  have h2 : (fr r ++ bk r).take (fr r).length = fr r := List.take_left
  rw [fr_bk] at h2
  exact h2
theorem bk_drop (r : List Nat) : r.drop (fr r).length = bk r := by
  have h2 : (fr r ++ bk r).drop (fr r).length = bk r := List.drop_left
  rw [fr_bk] at h2
  exact h2
end Go.Proofs.YtfjelkjlfcafgaaGreatDoor.NumP
end
section
/- Texts of numbers: num.letters. -/
namespace Go.Proofs.YtfjelkjlfcafgaaGreatDoor.NumV
open Go Go.RowKit Go.Proofs.YtfjelkjlfcafgaaGreatDoor.Ax Go.Proofs.YtfjelkjlfcafgaaGreatDoor.Ti Go.Proofs.YtfjelkjlfcafgaaGreatDoor.BigM Go.Proofs.YtfjelkjlfcafgaaGreatDoor.NumS Go.Proofs.YtfjelkjlfcafgaaGreatDoor.NumA Go.Proofs.YtfjelkjlfcafgaaGreatDoor.NumT Go.Proofs.YtfjelkjlfcafgaaGreatDoor.NumU Go.Proofs.YtfjelkjlfcafgaaGreatDoor.NumL
set_option linter.unusedSimpArgs false
set_option linter.unusedVariables false
set_option maxRecDepth 4000
set_option maxHeartbeats 2000000
theorem rTI : type_of% (cj @ti3 (cj @ti2 (cj @ti4 (cj @ti9 (cj @ti5 (cj @ti36 (cj @ti24 @ti25))))))) := cj @ti3 (cj @ti2 (cj @ti4 (cj @ti9 (cj @ti5 (cj @ti36 (cj @ti24 @ti25))))))

theorem fr_full (d : List Nat) : (fr d).length = d.length ↔ ∀ c ∈ d, isD c = true := by
  constructor
  · intro h
    have h1 := fr_bk d
    have h2 := congrArg List.length h1
    rw [List.length_append] at h2
    have h3 : bk d = [] := List.length_eq_zero_iff.1 (by omega)
    rw [h3, List.append_nil] at h1
    rw [← h1]
    exact fr_all d
  · intro h
    have := (fr_app d [] h (fun c hc => by cases hc)).1
    rw [List.append_nil] at this
    rw [this]
theorem slice_one (c : Nat) (r : List Nat) (n : Nat) (hn : n = r.length + 1) : (bs (c :: r)).extract 1 n = bs r := by
  subst hn
  rw [bs_slice, List.drop_one, List.tail_cons, Nat.add_sub_cancel, List.take_length]
theorem beq_c (l : List Nat) (h : By l) (m : List Nat) (hm : By m) (b : Bool) (hb : decide (l = m) = b) : ((bs l).toList == (bs m).toList) = b := by rw [bs_beq l m h hm, hb]
theorem letters_ax (l : List Nat) (h : By l) (hl : l.length ≤ 1000000000) : PCall Tryz.prog 51 [.v (.string (bs l))] (tailV (lettersS l)) := by
  have hid : idf (tailV (lettersS l)) = true := by cases lettersS l <;> rfl
  refine pcall_of fun s => ?_
  rw [hid]
  by_cases w5 : l = []
  · subst w5
    have e5 : ((bs []).toList == (ByteArray.mk #[]).toList) = true := beq_c [] h [] (letter_by 5) true (by decide)
    have e0 : ((bs []).toList == (ByteArray.mk #[102]).toList) = false := beq_c [] h [102] (letter_by 0) false (by decide)
    have e1 : ((bs []).toList == (ByteArray.mk #[112]).toList) = false := beq_c [] h [112] (letter_by 1) false (by decide)
    have e2 : ((bs []).toList == (ByteArray.mk #[110]).toList) = false := beq_c [] h [110] (letter_by 2) false (by decide)
    have e3 : ((bs []).toList == (ByteArray.mk #[117]).toList) = false := beq_c [] h [117] (letter_by 3) false (by decide)
    have e4 : ((bs []).toList == (ByteArray.mk #[109]).toList) = false := beq_c [] h [109] (letter_by 4) false (by decide)
    have e6 : ((bs []).toList == (ByteArray.mk #[107]).toList) = false := beq_c [] h [107] (letter_by 6) false (by decide)
    have e7 : ((bs []).toList == (ByteArray.mk #[109, 101, 103]).toList) = false := beq_c [] h [109, 101, 103] (letter_by 7) false (by decide)
    have e8 : ((bs []).toList == (ByteArray.mk #[103]).toList) = false := beq_c [] h [103] (letter_by 8) false (by decide)
    have e9 : ((bs []).toList == (ByteArray.mk #[116]).toList) = false := beq_c [] h [116] (letter_by 9) false (by decide)
    rw [show lettersS [] = some (0) from rfl]
    refine acall_of Tryz.func51 rfl rfl (by simp [Tryz.ntmps51]) ?_; rw [Tryz.ntmps51, Tryz.results51]
    refine go (cj rTI (cj @e5 (cj @e0 (cj @e1 (cj @e2 (cj @e3 (cj @e4 (cj @e6 (cj @e7 (cj @e8 @e9)))))))))) ?_
    all_goals (try (refine ifs ?_ ?_ <;> first | exact nope | intro hb; refine go (cj rTI (cj @e5 (cj @e0 (cj @e1 (cj @e2 (cj @e3 (cj @e4 (cj @e6 (cj @e7 (cj @e8 @e9)))))))))) ?_))
    all_goals rfl
  by_cases w0 : l = [102]
  · subst w0
    have e5 : ((bs [102]).toList == (ByteArray.mk #[]).toList) = false := beq_c [102] h [] (letter_by 5) false (by decide)
    have e0 : ((bs [102]).toList == (ByteArray.mk #[102]).toList) = true := beq_c [102] h [102] (letter_by 0) true (by decide)
    have e1 : ((bs [102]).toList == (ByteArray.mk #[112]).toList) = false := beq_c [102] h [112] (letter_by 1) false (by decide)
    have e2 : ((bs [102]).toList == (ByteArray.mk #[110]).toList) = false := beq_c [102] h [110] (letter_by 2) false (by decide)
    have e3 : ((bs [102]).toList == (ByteArray.mk #[117]).toList) = false := beq_c [102] h [117] (letter_by 3) false (by decide)
    have e4 : ((bs [102]).toList == (ByteArray.mk #[109]).toList) = false := beq_c [102] h [109] (letter_by 4) false (by decide)
    have e6 : ((bs [102]).toList == (ByteArray.mk #[107]).toList) = false := beq_c [102] h [107] (letter_by 6) false (by decide)
    have e7 : ((bs [102]).toList == (ByteArray.mk #[109, 101, 103]).toList) = false := beq_c [102] h [109, 101, 103] (letter_by 7) false (by decide)
    have e8 : ((bs [102]).toList == (ByteArray.mk #[103]).toList) = false := beq_c [102] h [103] (letter_by 8) false (by decide)
    have e9 : ((bs [102]).toList == (ByteArray.mk #[116]).toList) = false := beq_c [102] h [116] (letter_by 9) false (by decide)
    rw [show lettersS [102] = some (-15) from rfl]
    refine acall_of Tryz.func51 rfl rfl (by simp [Tryz.ntmps51]) ?_; rw [Tryz.ntmps51, Tryz.results51]
    refine go (cj rTI (cj @e5 (cj @e0 (cj @e1 (cj @e2 (cj @e3 (cj @e4 (cj @e6 (cj @e7 (cj @e8 @e9)))))))))) ?_
    all_goals (try (refine ifs ?_ ?_ <;> first | exact nope | intro hb; refine go (cj rTI (cj @e5 (cj @e0 (cj @e1 (cj @e2 (cj @e3 (cj @e4 (cj @e6 (cj @e7 (cj @e8 @e9)))))))))) ?_))
    all_goals (try (refine ifs ?_ ?_ <;> first | exact nope | intro hb; refine go (cj rTI (cj @e5 (cj @e0 (cj @e1 (cj @e2 (cj @e3 (cj @e4 (cj @e6 (cj @e7 (cj @e8 @e9)))))))))) ?_))
    all_goals rfl
  by_cases w1 : l = [112]
  · subst w1
    have e5 : ((bs [112]).toList == (ByteArray.mk #[]).toList) = false := beq_c [112] h [] (letter_by 5) false (by decide)
    have e0 : ((bs [112]).toList == (ByteArray.mk #[102]).toList) = false := beq_c [112] h [102] (letter_by 0) false (by decide)
    have e1 : ((bs [112]).toList == (ByteArray.mk #[112]).toList) = true := beq_c [112] h [112] (letter_by 1) true (by decide)
    have e2 : ((bs [112]).toList == (ByteArray.mk #[110]).toList) = false := beq_c [112] h [110] (letter_by 2) false (by decide)
    have e3 : ((bs [112]).toList == (ByteArray.mk #[117]).toList) = false := beq_c [112] h [117] (letter_by 3) false (by decide)
    have e4 : ((bs [112]).toList == (ByteArray.mk #[109]).toList) = false := beq_c [112] h [109] (letter_by 4) false (by decide)
    have e6 : ((bs [112]).toList == (ByteArray.mk #[107]).toList) = false := beq_c [112] h [107] (letter_by 6) false (by decide)
    have e7 : ((bs [112]).toList == (ByteArray.mk #[109, 101, 103]).toList) = false := beq_c [112] h [109, 101, 103] (letter_by 7) false (by decide)
    have e8 : ((bs [112]).toList == (ByteArray.mk #[103]).toList) = false := beq_c [112] h [103] (letter_by 8) false (by decide)
    have e9 : ((bs [112]).toList == (ByteArray.mk #[116]).toList) = false := beq_c [112] h [116] (letter_by 9) false (by decide)
    rw [show lettersS [112] = some (-12) from rfl]
    refine acall_of Tryz.func51 rfl rfl (by simp [Tryz.ntmps51]) ?_; rw [Tryz.ntmps51, Tryz.results51]
    refine go (cj rTI (cj @e5 (cj @e0 (cj @e1 (cj @e2 (cj @e3 (cj @e4 (cj @e6 (cj @e7 (cj @e8 @e9)))))))))) ?_
    all_goals (try (refine ifs ?_ ?_ <;> first | exact nope | intro hb; refine go (cj rTI (cj @e5 (cj @e0 (cj @e1 (cj @e2 (cj @e3 (cj @e4 (cj @e6 (cj @e7 (cj @e8 @e9)))))))))) ?_))
    all_goals (try (refine ifs ?_ ?_ <;> first | exact nope | intro hb; refine go (cj rTI (cj @e5 (cj @e0 (cj @e1 (cj @e2 (cj @e3 (cj @e4 (cj @e6 (cj @e7 (cj @e8 @e9)))))))))) ?_))
    all_goals (try (refine ifs ?_ ?_ <;> first | exact nope | intro hb; refine go (cj rTI (cj @e5 (cj @e0 (cj @e1 (cj @e2 (cj @e3 (cj @e4 (cj @e6 (cj @e7 (cj @e8 @e9)))))))))) ?_))
    all_goals rfl
  by_cases w2 : l = [110]
  · subst w2
    have e5 : ((bs [110]).toList == (ByteArray.mk #[]).toList) = false := beq_c [110] h [] (letter_by 5) false (by decide)
    have e0 : ((bs [110]).toList == (ByteArray.mk #[102]).toList) = false := beq_c [110] h [102] (letter_by 0) false (by decide)
    have e1 : ((bs [110]).toList == (ByteArray.mk #[112]).toList) = false := beq_c [110] h [112] (letter_by 1) false (by decide)
    have e2 : ((bs [110]).toList == (ByteArray.mk #[110]).toList) = true := beq_c [110] h [110] (letter_by 2) true (by decide)
    have e3 : ((bs [110]).toList == (ByteArray.mk #[117]).toList) = false := beq_c [110] h [117] (letter_by 3) false (by decide)
    have e4 : ((bs [110]).toList == (ByteArray.mk #[109]).toList) = false := beq_c [110] h [109] (letter_by 4) false (by decide)
    have e6 : ((bs [110]).toList == (ByteArray.mk #[107]).toList) = false := beq_c [110] h [107] (letter_by 6) false (by decide)
    have e7 : ((bs [110]).toList == (ByteArray.mk #[109, 101, 103]).toList) = false := beq_c [110] h [109, 101, 103] (letter_by 7) false (by decide)
    have e8 : ((bs [110]).toList == (ByteArray.mk #[103]).toList) = false := beq_c [110] h [103] (letter_by 8) false (by decide)
    have e9 : ((bs [110]).toList == (ByteArray.mk #[116]).toList) = false := beq_c [110] h [116] (letter_by 9) false (by decide)
    rw [show lettersS [110] = some (-9) from rfl]
    refine acall_of Tryz.func51 rfl rfl (by simp [Tryz.ntmps51]) ?_; rw [Tryz.ntmps51, Tryz.results51]
    refine go (cj rTI (cj @e5 (cj @e0 (cj @e1 (cj @e2 (cj @e3 (cj @e4 (cj @e6 (cj @e7 (cj @e8 @e9)))))))))) ?_
    all_goals (try (refine ifs ?_ ?_ <;> first | exact nope | intro hb; refine go (cj rTI (cj @e5 (cj @e0 (cj @e1 (cj @e2 (cj @e3 (cj @e4 (cj @e6 (cj @e7 (cj @e8 @e9)))))))))) ?_))
    all_goals (try (refine ifs ?_ ?_ <;> first | exact nope | intro hb; refine go (cj rTI (cj @e5 (cj @e0 (cj @e1 (cj @e2 (cj @e3 (cj @e4 (cj @e6 (cj @e7 (cj @e8 @e9)))))))))) ?_))
    all_goals (try (refine ifs ?_ ?_ <;> first | exact nope | intro hb; refine go (cj rTI (cj @e5 (cj @e0 (cj @e1 (cj @e2 (cj @e3 (cj @e4 (cj @e6 (cj @e7 (cj @e8 @e9)))))))))) ?_))
    all_goals (try (refine ifs ?_ ?_ <;> first | exact nope | intro hb; refine go (cj rTI (cj @e5 (cj @e0 (cj @e1 (cj @e2 (cj @e3 (cj @e4 (cj @e6 (cj @e7 (cj @e8 @e9)))))))))) ?_))
    all_goals rfl
  by_cases w3 : l = [117]
  · subst w3
    have e5 : ((bs [117]).toList == (ByteArray.mk #[]).toList) = false := beq_c [117] h [] (letter_by 5) false (by decide)
    have e0 : ((bs [117]).toList == (ByteArray.mk #[102]).toList) = false := beq_c [117] h [102] (letter_by 0) false (by decide)
    have e1 : ((bs [117]).toList == (ByteArray.mk #[112]).toList) = false := beq_c [117] h [112] (letter_by 1) false (by decide)
    have e2 : ((bs [117]).toList == (ByteArray.mk #[110]).toList) = false := beq_c [117] h [110] (letter_by 2) false (by decide)
    have e3 : ((bs [117]).toList == (ByteArray.mk #[117]).toList) = true := beq_c [117] h [117] (letter_by 3) true (by decide)
    have e4 : ((bs [117]).toList == (ByteArray.mk #[109]).toList) = false := beq_c [117] h [109] (letter_by 4) false (by decide)
    have e6 : ((bs [117]).toList == (ByteArray.mk #[107]).toList) = false := beq_c [117] h [107] (letter_by 6) false (by decide)
    have e7 : ((bs [117]).toList == (ByteArray.mk #[109, 101, 103]).toList) = false := beq_c [117] h [109, 101, 103] (letter_by 7) false (by decide)
    have e8 : ((bs [117]).toList == (ByteArray.mk #[103]).toList) = false := beq_c [117] h [103] (letter_by 8) false (by decide)
    have e9 : ((bs [117]).toList == (ByteArray.mk #[116]).toList) = false := beq_c [117] h [116] (letter_by 9) false (by decide)
    rw [show lettersS [117] = some (-6) from rfl]
    refine acall_of Tryz.func51 rfl rfl (by simp [Tryz.ntmps51]) ?_; rw [Tryz.ntmps51, Tryz.results51]
    refine go (cj rTI (cj @e5 (cj @e0 (cj @e1 (cj @e2 (cj @e3 (cj @e4 (cj @e6 (cj @e7 (cj @e8 @e9)))))))))) ?_
    all_goals (try (refine ifs ?_ ?_ <;> first | exact nope | intro hb; refine go (cj rTI (cj @e5 (cj @e0 (cj @e1 (cj @e2 (cj @e3 (cj @e4 (cj @e6 (cj @e7 (cj @e8 @e9)))))))))) ?_))
    all_goals (try (refine ifs ?_ ?_ <;> first | exact nope | intro hb; refine go (cj rTI (cj @e5 (cj @e0 (cj @e1 (cj @e2 (cj @e3 (cj @e4 (cj @e6 (cj @e7 (cj @e8 @e9)))))))))) ?_))
    all_goals (try (refine ifs ?_ ?_ <;> first | exact nope | intro hb; refine go (cj rTI (cj @e5 (cj @e0 (cj @e1 (cj @e2 (cj @e3 (cj @e4 (cj @e6 (cj @e7 (cj @e8 @e9)))))))))) ?_))
    all_goals (try (refine ifs ?_ ?_ <;> first | exact nope | intro hb; refine go (cj rTI (cj @e5 (cj @e0 (cj @e1 (cj @e2 (cj @e3 (cj @e4 (cj @e6 (cj @e7 (cj @e8 @e9)))))))))) ?_))
    all_goals (try (refine ifs ?_ ?_ <;> first | exact nope | intro hb; refine go (cj rTI (cj @e5 (cj @e0 (cj @e1 (cj @e2 (cj @e3 (cj @e4 (cj @e6 (cj @e7 (cj @e8 @e9)))))))))) ?_))
    all_goals rfl
  by_cases w4 : l = [109]
  · subst w4
    have e5 : ((bs [109]).toList == (ByteArray.mk #[]).toList) = false := beq_c [109] h [] (letter_by 5) false (by decide)
    have e0 : ((bs [109]).toList == (ByteArray.mk #[102]).toList) = false := beq_c [109] h [102] (letter_by 0) false (by decide)
    have e1 : ((bs [109]).toList == (ByteArray.mk #[112]).toList) = false := beq_c [109] h [112] (letter_by 1) false (by decide)
    have e2 : ((bs [109]).toList == (ByteArray.mk #[110]).toList) = false := beq_c [109] h [110] (letter_by 2) false (by decide)
    have e3 : ((bs [109]).toList == (ByteArray.mk #[117]).toList) = false := beq_c [109] h [117] (letter_by 3) false (by decide)
    have e4 : ((bs [109]).toList == (ByteArray.mk #[109]).toList) = true := beq_c [109] h [109] (letter_by 4) true (by decide)
    have e6 : ((bs [109]).toList == (ByteArray.mk #[107]).toList) = false := beq_c [109] h [107] (letter_by 6) false (by decide)
    have e7 : ((bs [109]).toList == (ByteArray.mk #[109, 101, 103]).toList) = false := beq_c [109] h [109, 101, 103] (letter_by 7) false (by decide)
    have e8 : ((bs [109]).toList == (ByteArray.mk #[103]).toList) = false := beq_c [109] h [103] (letter_by 8) false (by decide)
    have e9 : ((bs [109]).toList == (ByteArray.mk #[116]).toList) = false := beq_c [109] h [116] (letter_by 9) false (by decide)
    rw [show lettersS [109] = some (-3) from rfl]
    refine acall_of Tryz.func51 rfl rfl (by simp [Tryz.ntmps51]) ?_; rw [Tryz.ntmps51, Tryz.results51]
    refine go (cj rTI (cj @e5 (cj @e0 (cj @e1 (cj @e2 (cj @e3 (cj @e4 (cj @e6 (cj @e7 (cj @e8 @e9)))))))))) ?_
    all_goals (try (refine ifs ?_ ?_ <;> first | exact nope | intro hb; refine go (cj rTI (cj @e5 (cj @e0 (cj @e1 (cj @e2 (cj @e3 (cj @e4 (cj @e6 (cj @e7 (cj @e8 @e9)))))))))) ?_))
    all_goals (try (refine ifs ?_ ?_ <;> first | exact nope | intro hb; refine go (cj rTI (cj @e5 (cj @e0 (cj @e1 (cj @e2 (cj @e3 (cj @e4 (cj @e6 (cj @e7 (cj @e8 @e9)))))))))) ?_))
    all_goals (try (refine ifs ?_ ?_ <;> first | exact nope | intro hb; refine go (cj rTI (cj @e5 (cj @e0 (cj @e1 (cj @e2 (cj @e3 (cj @e4 (cj @e6 (cj @e7 (cj @e8 @e9)))))))))) ?_))
    all_goals (try (refine ifs ?_ ?_ <;> first | exact nope | intro hb; refine go (cj rTI (cj @e5 (cj @e0 (cj @e1 (cj @e2 (cj @e3 (cj @e4 (cj @e6 (cj @e7 (cj @e8 @e9)))))))))) ?_))
    all_goals (try (refine ifs ?_ ?_ <;> first | exact nope | intro hb; refine go (cj rTI (cj @e5 (cj @e0 (cj @e1 (cj @e2 (cj @e3 (cj @e4 (cj @e6 (cj @e7 (cj @e8 @e9)))))))))) ?_))
    all_goals (try (refine ifs ?_ ?_ <;> first | exact nope | intro hb; refine go (cj rTI (cj @e5 (cj @e0 (cj @e1 (cj @e2 (cj @e3 (cj @e4 (cj @e6 (cj @e7 (cj @e8 @e9)))))))))) ?_))
    all_goals rfl
  by_cases w6 : l = [107]
  · subst w6
    have e5 : ((bs [107]).toList == (ByteArray.mk #[]).toList) = false := beq_c [107] h [] (letter_by 5) false (by decide)
    have e0 : ((bs [107]).toList == (ByteArray.mk #[102]).toList) = false := beq_c [107] h [102] (letter_by 0) false (by decide)
    have e1 : ((bs [107]).toList == (ByteArray.mk #[112]).toList) = false := beq_c [107] h [112] (letter_by 1) false (by decide)
    have e2 : ((bs [107]).toList == (ByteArray.mk #[110]).toList) = false := beq_c [107] h [110] (letter_by 2) false (by decide)
    have e3 : ((bs [107]).toList == (ByteArray.mk #[117]).toList) = false := beq_c [107] h [117] (letter_by 3) false (by decide)
    have e4 : ((bs [107]).toList == (ByteArray.mk #[109]).toList) = false := beq_c [107] h [109] (letter_by 4) false (by decide)
    have e6 : ((bs [107]).toList == (ByteArray.mk #[107]).toList) = true := beq_c [107] h [107] (letter_by 6) true (by decide)
    have e7 : ((bs [107]).toList == (ByteArray.mk #[109, 101, 103]).toList) = false := beq_c [107] h [109, 101, 103] (letter_by 7) false (by decide)
    have e8 : ((bs [107]).toList == (ByteArray.mk #[103]).toList) = false := beq_c [107] h [103] (letter_by 8) false (by decide)
    have e9 : ((bs [107]).toList == (ByteArray.mk #[116]).toList) = false := beq_c [107] h [116] (letter_by 9) false (by decide)
    rw [show lettersS [107] = some (3) from rfl]
    refine acall_of Tryz.func51 rfl rfl (by simp [Tryz.ntmps51]) ?_; rw [Tryz.ntmps51, Tryz.results51]
    refine go (cj rTI (cj @e5 (cj @e0 (cj @e1 (cj @e2 (cj @e3 (cj @e4 (cj @e6 (cj @e7 (cj @e8 @e9)))))))))) ?_
    all_goals (try (refine ifs ?_ ?_ <;> first | exact nope | intro hb; refine go (cj rTI (cj @e5 (cj @e0 (cj @e1 (cj @e2 (cj @e3 (cj @e4 (cj @e6 (cj @e7 (cj @e8 @e9)))))))))) ?_))
    all_goals (try (refine ifs ?_ ?_ <;> first | exact nope | intro hb; refine go (cj rTI (cj @e5 (cj @e0 (cj @e1 (cj @e2 (cj @e3 (cj @e4 (cj @e6 (cj @e7 (cj @e8 @e9)))))))))) ?_))
    all_goals (try (refine ifs ?_ ?_ <;> first | exact nope | intro hb; refine go (cj rTI (cj @e5 (cj @e0 (cj @e1 (cj @e2 (cj @e3 (cj @e4 (cj @e6 (cj @e7 (cj @e8 @e9)))))))))) ?_))
    all_goals (try (refine ifs ?_ ?_ <;> first | exact nope | intro hb; refine go (cj rTI (cj @e5 (cj @e0 (cj @e1 (cj @e2 (cj @e3 (cj @e4 (cj @e6 (cj @e7 (cj @e8 @e9)))))))))) ?_))
    all_goals (try (refine ifs ?_ ?_ <;> first | exact nope | intro hb; refine go (cj rTI (cj @e5 (cj @e0 (cj @e1 (cj @e2 (cj @e3 (cj @e4 (cj @e6 (cj @e7 (cj @e8 @e9)))))))))) ?_))
    all_goals (try (refine ifs ?_ ?_ <;> first | exact nope | intro hb; refine go (cj rTI (cj @e5 (cj @e0 (cj @e1 (cj @e2 (cj @e3 (cj @e4 (cj @e6 (cj @e7 (cj @e8 @e9)))))))))) ?_))
    all_goals (try (refine ifs ?_ ?_ <;> first | exact nope | intro hb; refine go (cj rTI (cj @e5 (cj @e0 (cj @e1 (cj @e2 (cj @e3 (cj @e4 (cj @e6 (cj @e7 (cj @e8 @e9)))))))))) ?_))
    all_goals rfl
  by_cases w7 : l = [109, 101, 103]
  · subst w7
    have e5 : ((bs [109, 101, 103]).toList == (ByteArray.mk #[]).toList) = false := beq_c [109, 101, 103] h [] (letter_by 5) false (by decide)
    have e0 : ((bs [109, 101, 103]).toList == (ByteArray.mk #[102]).toList) = false := beq_c [109, 101, 103] h [102] (letter_by 0) false (by decide)
    have e1 : ((bs [109, 101, 103]).toList == (ByteArray.mk #[112]).toList) = false := beq_c [109, 101, 103] h [112] (letter_by 1) false (by decide)
    have e2 : ((bs [109, 101, 103]).toList == (ByteArray.mk #[110]).toList) = false := beq_c [109, 101, 103] h [110] (letter_by 2) false (by decide)
    have e3 : ((bs [109, 101, 103]).toList == (ByteArray.mk #[117]).toList) = false := beq_c [109, 101, 103] h [117] (letter_by 3) false (by decide)
    have e4 : ((bs [109, 101, 103]).toList == (ByteArray.mk #[109]).toList) = false := beq_c [109, 101, 103] h [109] (letter_by 4) false (by decide)
    have e6 : ((bs [109, 101, 103]).toList == (ByteArray.mk #[107]).toList) = false := beq_c [109, 101, 103] h [107] (letter_by 6) false (by decide)
    have e7 : ((bs [109, 101, 103]).toList == (ByteArray.mk #[109, 101, 103]).toList) = true := beq_c [109, 101, 103] h [109, 101, 103] (letter_by 7) true (by decide)
    have e8 : ((bs [109, 101, 103]).toList == (ByteArray.mk #[103]).toList) = false := beq_c [109, 101, 103] h [103] (letter_by 8) false (by decide)
    have e9 : ((bs [109, 101, 103]).toList == (ByteArray.mk #[116]).toList) = false := beq_c [109, 101, 103] h [116] (letter_by 9) false (by decide)
    rw [show lettersS [109, 101, 103] = some (6) from rfl]
    refine acall_of Tryz.func51 rfl rfl (by simp [Tryz.ntmps51]) ?_; rw [Tryz.ntmps51, Tryz.results51]
    refine go (cj rTI (cj @e5 (cj @e0 (cj @e1 (cj @e2 (cj @e3 (cj @e4 (cj @e6 (cj @e7 (cj @e8 @e9)))))))))) ?_
    all_goals (try (refine ifs ?_ ?_ <;> first | exact nope | intro hb; refine go (cj rTI (cj @e5 (cj @e0 (cj @e1 (cj @e2 (cj @e3 (cj @e4 (cj @e6 (cj @e7 (cj @e8 @e9)))))))))) ?_))
    all_goals (try (refine ifs ?_ ?_ <;> first | exact nope | intro hb; refine go (cj rTI (cj @e5 (cj @e0 (cj @e1 (cj @e2 (cj @e3 (cj @e4 (cj @e6 (cj @e7 (cj @e8 @e9)))))))))) ?_))
    all_goals (try (refine ifs ?_ ?_ <;> first | exact nope | intro hb; refine go (cj rTI (cj @e5 (cj @e0 (cj @e1 (cj @e2 (cj @e3 (cj @e4 (cj @e6 (cj @e7 (cj @e8 @e9)))))))))) ?_))
    all_goals (try (refine ifs ?_ ?_ <;> first | exact nope | intro hb; refine go (cj rTI (cj @e5 (cj @e0 (cj @e1 (cj @e2 (cj @e3 (cj @e4 (cj @e6 (cj @e7 (cj @e8 @e9)))))))))) ?_))
    all_goals (try (refine ifs ?_ ?_ <;> first | exact nope | intro hb; refine go (cj rTI (cj @e5 (cj @e0 (cj @e1 (cj @e2 (cj @e3 (cj @e4 (cj @e6 (cj @e7 (cj @e8 @e9)))))))))) ?_))
    all_goals (try (refine ifs ?_ ?_ <;> first | exact nope | intro hb; refine go (cj rTI (cj @e5 (cj @e0 (cj @e1 (cj @e2 (cj @e3 (cj @e4 (cj @e6 (cj @e7 (cj @e8 @e9)))))))))) ?_))
    all_goals (try (refine ifs ?_ ?_ <;> first | exact nope | intro hb; refine go (cj rTI (cj @e5 (cj @e0 (cj @e1 (cj @e2 (cj @e3 (cj @e4 (cj @e6 (cj @e7 (cj @e8 @e9)))))))))) ?_))
    all_goals (try (refine ifs ?_ ?_ <;> first | exact nope | intro hb; refine go (cj rTI (cj @e5 (cj @e0 (cj @e1 (cj @e2 (cj @e3 (cj @e4 (cj @e6 (cj @e7 (cj @e8 @e9)))))))))) ?_))
    all_goals rfl
  by_cases w8 : l = [103]
  · subst w8
    have e5 : ((bs [103]).toList == (ByteArray.mk #[]).toList) = false := beq_c [103] h [] (letter_by 5) false (by decide)
    have e0 : ((bs [103]).toList == (ByteArray.mk #[102]).toList) = false := beq_c [103] h [102] (letter_by 0) false (by decide)
    have e1 : ((bs [103]).toList == (ByteArray.mk #[112]).toList) = false := beq_c [103] h [112] (letter_by 1) false (by decide)
    have e2 : ((bs [103]).toList == (ByteArray.mk #[110]).toList) = false := beq_c [103] h [110] (letter_by 2) false (by decide)
    have e3 : ((bs [103]).toList == (ByteArray.mk #[117]).toList) = false := beq_c [103] h [117] (letter_by 3) false (by decide)
    have e4 : ((bs [103]).toList == (ByteArray.mk #[109]).toList) = false := beq_c [103] h [109] (letter_by 4) false (by decide)
    have e6 : ((bs [103]).toList == (ByteArray.mk #[107]).toList) = false := beq_c [103] h [107] (letter_by 6) false (by decide)
    have e7 : ((bs [103]).toList == (ByteArray.mk #[109, 101, 103]).toList) = false := beq_c [103] h [109, 101, 103] (letter_by 7) false (by decide)
    have e8 : ((bs [103]).toList == (ByteArray.mk #[103]).toList) = true := beq_c [103] h [103] (letter_by 8) true (by decide)
    have e9 : ((bs [103]).toList == (ByteArray.mk #[116]).toList) = false := beq_c [103] h [116] (letter_by 9) false (by decide)
    rw [show lettersS [103] = some (9) from rfl]
    refine acall_of Tryz.func51 rfl rfl (by simp [Tryz.ntmps51]) ?_; rw [Tryz.ntmps51, Tryz.results51]
    refine go (cj rTI (cj @e5 (cj @e0 (cj @e1 (cj @e2 (cj @e3 (cj @e4 (cj @e6 (cj @e7 (cj @e8 @e9)))))))))) ?_
    all_goals (try (refine ifs ?_ ?_ <;> first | exact nope | intro hb; refine go (cj rTI (cj @e5 (cj @e0 (cj @e1 (cj @e2 (cj @e3 (cj @e4 (cj @e6 (cj @e7 (cj @e8 @e9)))))))))) ?_))
    all_goals (try (refine ifs ?_ ?_ <;> first | exact nope | intro hb; refine go (cj rTI (cj @e5 (cj @e0 (cj @e1 (cj @e2 (cj @e3 (cj @e4 (cj @e6 (cj @e7 (cj @e8 @e9)))))))))) ?_))
    all_goals (try (refine ifs ?_ ?_ <;> first | exact nope | intro hb; refine go (cj rTI (cj @e5 (cj @e0 (cj @e1 (cj @e2 (cj @e3 (cj @e4 (cj @e6 (cj @e7 (cj @e8 @e9)))))))))) ?_))
    all_goals (try (refine ifs ?_ ?_ <;> first | exact nope | intro hb; refine go (cj rTI (cj @e5 (cj @e0 (cj @e1 (cj @e2 (cj @e3 (cj @e4 (cj @e6 (cj @e7 (cj @e8 @e9)))))))))) ?_))
    all_goals (try (refine ifs ?_ ?_ <;> first | exact nope | intro hb; refine go (cj rTI (cj @e5 (cj @e0 (cj @e1 (cj @e2 (cj @e3 (cj @e4 (cj @e6 (cj @e7 (cj @e8 @e9)))))))))) ?_))
    all_goals (try (refine ifs ?_ ?_ <;> first | exact nope | intro hb; refine go (cj rTI (cj @e5 (cj @e0 (cj @e1 (cj @e2 (cj @e3 (cj @e4 (cj @e6 (cj @e7 (cj @e8 @e9)))))))))) ?_))
    all_goals (try (refine ifs ?_ ?_ <;> first | exact nope | intro hb; refine go (cj rTI (cj @e5 (cj @e0 (cj @e1 (cj @e2 (cj @e3 (cj @e4 (cj @e6 (cj @e7 (cj @e8 @e9)))))))))) ?_))
    all_goals (try (refine ifs ?_ ?_ <;> first | exact nope | intro hb; refine go (cj rTI (cj @e5 (cj @e0 (cj @e1 (cj @e2 (cj @e3 (cj @e4 (cj @e6 (cj @e7 (cj @e8 @e9)))))))))) ?_))
    all_goals (try (refine ifs ?_ ?_ <;> first | exact nope | intro hb; refine go (cj rTI (cj @e5 (cj @e0 (cj @e1 (cj @e2 (cj @e3 (cj @e4 (cj @e6 (cj @e7 (cj @e8 @e9)))))))))) ?_))
    all_goals rfl
  by_cases w9 : l = [116]
  · subst w9
    have e5 : ((bs [116]).toList == (ByteArray.mk #[]).toList) = false := beq_c [116] h [] (letter_by 5) false (by decide)
    have e0 : ((bs [116]).toList == (ByteArray.mk #[102]).toList) = false := beq_c [116] h [102] (letter_by 0) false (by decide)
    have e1 : ((bs [116]).toList == (ByteArray.mk #[112]).toList) = false := beq_c [116] h [112] (letter_by 1) false (by decide)
    have e2 : ((bs [116]).toList == (ByteArray.mk #[110]).toList) = false := beq_c [116] h [110] (letter_by 2) false (by decide)
    have e3 : ((bs [116]).toList == (ByteArray.mk #[117]).toList) = false := beq_c [116] h [117] (letter_by 3) false (by decide)
    have e4 : ((bs [116]).toList == (ByteArray.mk #[109]).toList) = false := beq_c [116] h [109] (letter_by 4) false (by decide)
    have e6 : ((bs [116]).toList == (ByteArray.mk #[107]).toList) = false := beq_c [116] h [107] (letter_by 6) false (by decide)
    have e7 : ((bs [116]).toList == (ByteArray.mk #[109, 101, 103]).toList) = false := beq_c [116] h [109, 101, 103] (letter_by 7) false (by decide)
    have e8 : ((bs [116]).toList == (ByteArray.mk #[103]).toList) = false := beq_c [116] h [103] (letter_by 8) false (by decide)
    have e9 : ((bs [116]).toList == (ByteArray.mk #[116]).toList) = true := beq_c [116] h [116] (letter_by 9) true (by decide)
    rw [show lettersS [116] = some (12) from rfl]
    refine acall_of Tryz.func51 rfl rfl (by simp [Tryz.ntmps51]) ?_; rw [Tryz.ntmps51, Tryz.results51]
    refine go (cj rTI (cj @e5 (cj @e0 (cj @e1 (cj @e2 (cj @e3 (cj @e4 (cj @e6 (cj @e7 (cj @e8 @e9)))))))))) ?_
    all_goals (try (refine ifs ?_ ?_ <;> first | exact nope | intro hb; refine go (cj rTI (cj @e5 (cj @e0 (cj @e1 (cj @e2 (cj @e3 (cj @e4 (cj @e6 (cj @e7 (cj @e8 @e9)))))))))) ?_))
    all_goals (try (refine ifs ?_ ?_ <;> first | exact nope | intro hb; refine go (cj rTI (cj @e5 (cj @e0 (cj @e1 (cj @e2 (cj @e3 (cj @e4 (cj @e6 (cj @e7 (cj @e8 @e9)))))))))) ?_))
    all_goals (try (refine ifs ?_ ?_ <;> first | exact nope | intro hb; refine go (cj rTI (cj @e5 (cj @e0 (cj @e1 (cj @e2 (cj @e3 (cj @e4 (cj @e6 (cj @e7 (cj @e8 @e9)))))))))) ?_))
    all_goals (try (refine ifs ?_ ?_ <;> first | exact nope | intro hb; refine go (cj rTI (cj @e5 (cj @e0 (cj @e1 (cj @e2 (cj @e3 (cj @e4 (cj @e6 (cj @e7 (cj @e8 @e9)))))))))) ?_))
    all_goals (try (refine ifs ?_ ?_ <;> first | exact nope | intro hb; refine go (cj rTI (cj @e5 (cj @e0 (cj @e1 (cj @e2 (cj @e3 (cj @e4 (cj @e6 (cj @e7 (cj @e8 @e9)))))))))) ?_))
    all_goals (try (refine ifs ?_ ?_ <;> first | exact nope | intro hb; refine go (cj rTI (cj @e5 (cj @e0 (cj @e1 (cj @e2 (cj @e3 (cj @e4 (cj @e6 (cj @e7 (cj @e8 @e9)))))))))) ?_))
    all_goals (try (refine ifs ?_ ?_ <;> first | exact nope | intro hb; refine go (cj rTI (cj @e5 (cj @e0 (cj @e1 (cj @e2 (cj @e3 (cj @e4 (cj @e6 (cj @e7 (cj @e8 @e9)))))))))) ?_))
    all_goals (try (refine ifs ?_ ?_ <;> first | exact nope | intro hb; refine go (cj rTI (cj @e5 (cj @e0 (cj @e1 (cj @e2 (cj @e3 (cj @e4 (cj @e6 (cj @e7 (cj @e8 @e9)))))))))) ?_))
    all_goals (try (refine ifs ?_ ?_ <;> first | exact nope | intro hb; refine go (cj rTI (cj @e5 (cj @e0 (cj @e1 (cj @e2 (cj @e3 (cj @e4 (cj @e6 (cj @e7 (cj @e8 @e9)))))))))) ?_))
    all_goals (try (refine ifs ?_ ?_ <;> first | exact nope | intro hb; refine go (cj rTI (cj @e5 (cj @e0 (cj @e1 (cj @e2 (cj @e3 (cj @e4 (cj @e6 (cj @e7 (cj @e8 @e9)))))))))) ?_))
    all_goals rfl
  have hne : ∀ k, k < 10 → l ≠ letterS k := fun k hk => by
    have : k = 0 ∨ k = 1 ∨ k = 2 ∨ k = 3 ∨ k = 4 ∨ k = 5 ∨ k = 6 ∨ k = 7 ∨ k = 8 ∨ k = 9 := by omega
    rcases this with rfl | rfl | rfl | rfl | rfl | rfl | rfl | rfl | rfl | rfl <;> assumption
  rw [letters_exp l hne]
  clear hne
  have e5 : ((bs l).toList == (ByteArray.mk #[]).toList) = false := beq_c l h [] (letter_by 5) false (decide_eq_false w5)
  have e0 : ((bs l).toList == (ByteArray.mk #[102]).toList) = false := beq_c l h [102] (letter_by 0) false (decide_eq_false w0)
  have e1 : ((bs l).toList == (ByteArray.mk #[112]).toList) = false := beq_c l h [112] (letter_by 1) false (decide_eq_false w1)
  have e2 : ((bs l).toList == (ByteArray.mk #[110]).toList) = false := beq_c l h [110] (letter_by 2) false (decide_eq_false w2)
  have e3 : ((bs l).toList == (ByteArray.mk #[117]).toList) = false := beq_c l h [117] (letter_by 3) false (decide_eq_false w3)
  have e4 : ((bs l).toList == (ByteArray.mk #[109]).toList) = false := beq_c l h [109] (letter_by 4) false (decide_eq_false w4)
  have e6 : ((bs l).toList == (ByteArray.mk #[107]).toList) = false := beq_c l h [107] (letter_by 6) false (decide_eq_false w6)
  have e7 : ((bs l).toList == (ByteArray.mk #[109, 101, 103]).toList) = false := beq_c l h [109, 101, 103] (letter_by 7) false (decide_eq_false w7)
  have e8 : ((bs l).toList == (ByteArray.mk #[103]).toList) = false := beq_c l h [103] (letter_by 8) false (decide_eq_false w8)
  have e9 : ((bs l).toList == (ByteArray.mk #[116]).toList) = false := beq_c l h [116] (letter_by 9) false (decide_eq_false w9)

  obtain ⟨c, r, rfl⟩ : ∃ c r, l = c :: r := by
    cases l with
    | nil => exact absurd rfl w5
    | cons c r => exact ⟨c, r, rfl⟩
  clear w5 w0 w1 w2 w3 w4 w6 w7 w8 w9
  have l1 := bs_size (c :: r)
  have g0 := bs_get (c :: r) h 0
  rw [List.getD_cons_zero] at g0
  rw [List.length_cons] at l1 hl
  have tz : Int.toNat 0 = 0 := rfl
  have t1 : Int.toNat 1 = 1 := rfl
  have hc : c < 256 := h c (by simp)
  have hr : By r := fun x hx => h x (by simp [hx])
  by_cases qe : c = 101
  · subst qe
    rw [show expL (101 :: r) = expS r from rfl]
    have sl := slice_one 101 r (r.length + 1) rfl
    have hp1 := hasPrefix_ax r hr 45 (by decide)
    have hp2 := hasPrefix_ax r hr 43 (by decide)
    have lr := bs_size r
    rcases exp_ways r with ⟨d, hrd, hexp⟩ | ⟨d, hrd, hexp⟩ | ⟨d, hrd, hexp, hn1, hn2⟩
    · obtain rfl : r = 45 :: d := by injection hrd
      have hbd : By d := fun x hx => hr x (by simp [hx])
      have s2 := slice_one 45 d (d.length + 1) rfl
      rw [List.length_cons] at l1 hl lr sl
      rw [show decide ((45 :: d).head? = some 45) = true from rfl] at hp1
      refine acall_of Tryz.func51 rfl rfl (by simp [Tryz.ntmps51]) ?_; rw [Tryz.ntmps51, Tryz.results51]
      refine go (cj rTI (cj @e5 (cj @e0 (cj @e1 (cj @e2 (cj @e3 (cj @e4 (cj @e6 (cj @e7 (cj @e8 @e9)))))))))) ?_
      refine ifs ?_ ?_ <;> first | exact nope | intro hb
      refine go (cj rTI (cj @e5 (cj @e0 (cj @e1 (cj @e2 (cj @e3 (cj @e4 (cj @e6 (cj @e7 (cj @e8 (cj @e9 (cj @l1 (cj @g0 @tz))))))))))))) ?_
      refine ifs ?_ ?_ <;> first | exact nope | intro hb
      refine go (cj rTI (cj @e5 (cj @e0 (cj @e1 (cj @e2 (cj @e3 (cj @e4 (cj @e6 (cj @e7 (cj @e8 (cj @e9 (cj @l1 (cj @g0 @tz))))))))))))) ?_
      refine ifs ?_ ?_ <;> first | exact nope | intro hb
      refine go (cj rTI (cj @e5 (cj @e0 (cj @e1 (cj @e2 (cj @e3 (cj @e4 (cj @e6 (cj @e7 (cj @e8 (cj @e9 (cj @l1 (cj @g0 @tz))))))))))))) ?_
      refine ifs ?_ ?_ <;> first | exact nope | intro hb
      refine go (cj rTI (cj @e5 (cj @e0 (cj @e1 (cj @e2 (cj @e3 (cj @e4 (cj @e6 (cj @e7 (cj @e8 (cj @e9 (cj @l1 (cj @g0 @tz))))))))))))) ?_
      refine ifs ?_ ?_ <;> first | exact nope | intro hb
      refine go (cj rTI (cj @e5 (cj @e0 (cj @e1 (cj @e2 (cj @e3 (cj @e4 (cj @e6 (cj @e7 (cj @e8 (cj @e9 (cj @l1 (cj @g0 @tz))))))))))))) ?_
      refine ifs ?_ ?_ <;> first | exact nope | intro hb
      refine go (cj rTI (cj @e5 (cj @e0 (cj @e1 (cj @e2 (cj @e3 (cj @e4 (cj @e6 (cj @e7 (cj @e8 (cj @e9 (cj @l1 (cj @g0 @tz))))))))))))) ?_
      refine ifs ?_ ?_ <;> first | exact nope | intro hb
      refine go (cj rTI (cj @e5 (cj @e0 (cj @e1 (cj @e2 (cj @e3 (cj @e4 (cj @e6 (cj @e7 (cj @e8 (cj @e9 (cj @l1 (cj @g0 @tz))))))))))))) ?_
      refine ifs ?_ ?_ <;> first | exact nope | intro hb
      refine go (cj rTI (cj @e5 (cj @e0 (cj @e1 (cj @e2 (cj @e3 (cj @e4 (cj @e6 (cj @e7 (cj @e8 (cj @e9 (cj @l1 (cj @g0 @tz))))))))))))) ?_
      refine ifs ?_ ?_ <;> first | exact nope | intro hb
      refine go (cj rTI (cj @e5 (cj @e0 (cj @e1 (cj @e2 (cj @e3 (cj @e4 (cj @e6 (cj @e7 (cj @e8 (cj @e9 (cj @l1 (cj @g0 @tz))))))))))))) ?_
      refine ifs ?_ ?_ <;> first | exact nope | intro hb
      refine go (cj rTI (cj @e5 (cj @e0 (cj @e1 (cj @e2 (cj @e3 (cj @e4 (cj @e6 (cj @e7 (cj @e8 (cj @e9 (cj @l1 (cj @g0 @tz))))))))))))) ?_
      rw [then_normal]
      refine ifs ?_ ?_ <;> first | exact nope | intro hb
      refine go (cj rTI (cj @l1 (cj @t1 @sl))) ?_
      refine aw_reg fun K hK => ?_; refine rn rTI ?_; refine cont_pure hp1 ?_; refine rn rTI ?_; refine hK _ _ ?_; clear hK K
      rw [then_normal]
      refine go trivial ?_
      refine ifs ?_ ?_ <;> first | exact nope | intro hb
      refine go (cj rTI (cj @lr (cj @t1 @s2))) ?_

      rw [hexp]
      have ld := bs_size d
      have hld : d.length ≤ 1000000000 := by omega
      have hrun := run_ax d hbd hld
      have hfl := fr_le d
      by_cases q1 : d.length < 1
      · rw [two_bad d (fun h => by omega)]
        refine go (cj rTI @ld) ?_
        refine ifs ?_ ?_ <;> first | exact nope | intro hb
        refine go trivial ?_
        all_goals rfl
      · by_cases q2 : 2 < d.length
        · rw [two_bad d (fun h => by omega)]
          refine go (cj rTI @ld) ?_
          refine ifs ?_ ?_ <;> first | exact nope | intro hb
          refine go trivial ?_
          all_goals rfl
        · have htwo := two_good d (by omega) (by omega)
          have hff := fr_full d
          by_cases q3 : (fr d).length = d.length
          · have hall := hff.1 q3
            have hat := atoi_ax d hall (fun e => by rw [e] at q1; simp at q1) (by omega)
            have hvb : digV d ≤ 99 := digV_two d (by omega) hall
            rw [htwo, if_pos hall]
            clear hff htwo hall
            refine aw_reg fun K hK => ?_; refine rn (cj rTI @ld) ?_; refine cont_pure hrun ?_; refine rn (cj rTI @ld) ?_; refine hK _ _ ?_; clear hK K
            rw [then_normal]
            refine ifs ?_ ?_ <;> first | exact nope | intro hb
            refine go trivial ?_
            generalize digV d = v at *
            refine aw_reg fun K hK => ?_; refine rn rTI ?_; refine cont_pure hat ?_; refine rn rTI ?_; refine hK _ _ ?_; clear hK K
            rw [then_normal]
            refine go trivial ?_
            refine ifs ?_ ?_ <;> first | exact nope | intro hb
            refine go trivial ?_
            show _ = AV.tp [.v (.int .i64 (-(v : Int))), _]; simp
          · rw [htwo, if_neg (fun h => q3 (hff.2 h))]
            clear hff htwo
            refine aw_reg fun K hK => ?_; refine rn (cj rTI @ld) ?_; refine cont_pure hrun ?_; refine rn (cj rTI @ld) ?_; refine hK _ _ ?_; clear hK K
            rw [then_normal]
            refine ifs ?_ ?_ <;> first | exact nope | intro hb
            refine go trivial ?_
            all_goals rfl
    · obtain rfl : r = 43 :: d := by injection hrd
      have hbd : By d := fun x hx => hr x (by simp [hx])
      have s2 := slice_one 43 d (d.length + 1) rfl
      rw [List.length_cons] at l1 hl lr sl
      rw [show decide ((43 :: d).head? = some 45) = false from rfl] at hp1
      rw [show decide ((43 :: d).head? = some 43) = true from rfl] at hp2
      refine acall_of Tryz.func51 rfl rfl (by simp [Tryz.ntmps51]) ?_; rw [Tryz.ntmps51, Tryz.results51]
      refine go (cj rTI (cj @e5 (cj @e0 (cj @e1 (cj @e2 (cj @e3 (cj @e4 (cj @e6 (cj @e7 (cj @e8 @e9)))))))))) ?_
      refine ifs ?_ ?_ <;> first | exact nope | intro hb
      refine go (cj rTI (cj @e5 (cj @e0 (cj @e1 (cj @e2 (cj @e3 (cj @e4 (cj @e6 (cj @e7 (cj @e8 (cj @e9 (cj @l1 (cj @g0 @tz))))))))))))) ?_
      refine ifs ?_ ?_ <;> first | exact nope | intro hb
      refine go (cj rTI (cj @e5 (cj @e0 (cj @e1 (cj @e2 (cj @e3 (cj @e4 (cj @e6 (cj @e7 (cj @e8 (cj @e9 (cj @l1 (cj @g0 @tz))))))))))))) ?_
      refine ifs ?_ ?_ <;> first | exact nope | intro hb
      refine go (cj rTI (cj @e5 (cj @e0 (cj @e1 (cj @e2 (cj @e3 (cj @e4 (cj @e6 (cj @e7 (cj @e8 (cj @e9 (cj @l1 (cj @g0 @tz))))))))))))) ?_
      refine ifs ?_ ?_ <;> first | exact nope | intro hb
      refine go (cj rTI (cj @e5 (cj @e0 (cj @e1 (cj @e2 (cj @e3 (cj @e4 (cj @e6 (cj @e7 (cj @e8 (cj @e9 (cj @l1 (cj @g0 @tz))))))))))))) ?_
      refine ifs ?_ ?_ <;> first | exact nope | intro hb
      refine go (cj rTI (cj @e5 (cj @e0 (cj @e1 (cj @e2 (cj @e3 (cj @e4 (cj @e6 (cj @e7 (cj @e8 (cj @e9 (cj @l1 (cj @g0 @tz))))))))))))) ?_
      refine ifs ?_ ?_ <;> first | exact nope | intro hb
      refine go (cj rTI (cj @e5 (cj @e0 (cj @e1 (cj @e2 (cj @e3 (cj @e4 (cj @e6 (cj @e7 (cj @e8 (cj @e9 (cj @l1 (cj @g0 @tz))))))))))))) ?_
      refine ifs ?_ ?_ <;> first | exact nope | intro hb
      refine go (cj rTI (cj @e5 (cj @e0 (cj @e1 (cj @e2 (cj @e3 (cj @e4 (cj @e6 (cj @e7 (cj @e8 (cj @e9 (cj @l1 (cj @g0 @tz))))))))))))) ?_
      refine ifs ?_ ?_ <;> first | exact nope | intro hb
      refine go (cj rTI (cj @e5 (cj @e0 (cj @e1 (cj @e2 (cj @e3 (cj @e4 (cj @e6 (cj @e7 (cj @e8 (cj @e9 (cj @l1 (cj @g0 @tz))))))))))))) ?_
      refine ifs ?_ ?_ <;> first | exact nope | intro hb
      refine go (cj rTI (cj @e5 (cj @e0 (cj @e1 (cj @e2 (cj @e3 (cj @e4 (cj @e6 (cj @e7 (cj @e8 (cj @e9 (cj @l1 (cj @g0 @tz))))))))))))) ?_
      refine ifs ?_ ?_ <;> first | exact nope | intro hb
      refine go (cj rTI (cj @e5 (cj @e0 (cj @e1 (cj @e2 (cj @e3 (cj @e4 (cj @e6 (cj @e7 (cj @e8 (cj @e9 (cj @l1 (cj @g0 @tz))))))))))))) ?_
      rw [then_normal]
      refine ifs ?_ ?_ <;> first | exact nope | intro hb
      refine go (cj rTI (cj @l1 (cj @t1 @sl))) ?_
      refine aw_reg fun K hK => ?_; refine rn rTI ?_; refine cont_pure hp1 ?_; refine rn rTI ?_; refine hK _ _ ?_; clear hK K
      rw [then_normal]
      refine go trivial ?_
      refine aw_reg fun K hK => ?_; refine rn rTI ?_; refine cont_pure hp2 ?_; refine rn rTI ?_; refine hK _ _ ?_; clear hK K
      rw [then_normal]
      refine ifs ?_ ?_ <;> first | exact nope | intro hb
      refine go (cj rTI (cj @lr (cj @t1 @s2))) ?_

      rw [hexp]
      have ld := bs_size d
      have hld : d.length ≤ 1000000000 := by omega
      have hrun := run_ax d hbd hld
      have hfl := fr_le d
      by_cases q1 : d.length < 1
      · rw [two_bad d (fun h => by omega)]
        refine go (cj rTI @ld) ?_
        refine ifs ?_ ?_ <;> first | exact nope | intro hb
        refine go trivial ?_
        all_goals rfl
      · by_cases q2 : 2 < d.length
        · rw [two_bad d (fun h => by omega)]
          refine go (cj rTI @ld) ?_
          refine ifs ?_ ?_ <;> first | exact nope | intro hb
          refine go trivial ?_
          all_goals rfl
        · have htwo := two_good d (by omega) (by omega)
          have hff := fr_full d
          by_cases q3 : (fr d).length = d.length
          · have hall := hff.1 q3
            have hat := atoi_ax d hall (fun e => by rw [e] at q1; simp at q1) (by omega)
            have hvb : digV d ≤ 99 := digV_two d (by omega) hall
            rw [htwo, if_pos hall]
            clear hff htwo hall
            refine aw_reg fun K hK => ?_; refine rn (cj rTI @ld) ?_; refine cont_pure hrun ?_; refine rn (cj rTI @ld) ?_; refine hK _ _ ?_; clear hK K
            rw [then_normal]
            refine ifs ?_ ?_ <;> first | exact nope | intro hb
            refine go trivial ?_
            generalize digV d = v at *
            refine aw_reg fun K hK => ?_; refine rn rTI ?_; refine cont_pure hat ?_; refine rn rTI ?_; refine hK _ _ ?_; clear hK K
            rw [then_normal]
            refine go trivial ?_
            refine ifs ?_ ?_ <;> first | exact nope | intro hb
            refine go trivial ?_
            show _ = AV.tp [.v (.int .i64 (v : Int)), _]; simp
          · rw [htwo, if_neg (fun h => q3 (hff.2 h))]
            clear hff htwo
            refine aw_reg fun K hK => ?_; refine rn (cj rTI @ld) ?_; refine cont_pure hrun ?_; refine rn (cj rTI @ld) ?_; refine hK _ _ ?_; clear hK K
            rw [then_normal]
            refine ifs ?_ ?_ <;> first | exact nope | intro hb
            refine go trivial ?_
            all_goals rfl
    · obtain rfl : r = d := by injection hrd
      have hbd := hr
      have hh1 : decide (r.head? = some 45) = false := by cases r with | nil => rfl | cons a r => simpa using hn1
      have hh2 : decide (r.head? = some 43) = false := by cases r with | nil => rfl | cons a r => simpa using hn2
      rw [hh1] at hp1
      rw [hh2] at hp2
      refine acall_of Tryz.func51 rfl rfl (by simp [Tryz.ntmps51]) ?_; rw [Tryz.ntmps51, Tryz.results51]
      refine go (cj rTI (cj @e5 (cj @e0 (cj @e1 (cj @e2 (cj @e3 (cj @e4 (cj @e6 (cj @e7 (cj @e8 @e9)))))))))) ?_
      refine ifs ?_ ?_ <;> first | exact nope | intro hb
      refine go (cj rTI (cj @e5 (cj @e0 (cj @e1 (cj @e2 (cj @e3 (cj @e4 (cj @e6 (cj @e7 (cj @e8 (cj @e9 (cj @l1 (cj @g0 @tz))))))))))))) ?_
      refine ifs ?_ ?_ <;> first | exact nope | intro hb
      refine go (cj rTI (cj @e5 (cj @e0 (cj @e1 (cj @e2 (cj @e3 (cj @e4 (cj @e6 (cj @e7 (cj @e8 (cj @e9 (cj @l1 (cj @g0 @tz))))))))))))) ?_
      refine ifs ?_ ?_ <;> first | exact nope | intro hb
      refine go (cj rTI (cj @e5 (cj @e0 (cj @e1 (cj @e2 (cj @e3 (cj @e4 (cj @e6 (cj @e7 (cj @e8 (cj @e9 (cj @l1 (cj @g0 @tz))))))))))))) ?_
      refine ifs ?_ ?_ <;> first | exact nope | intro hb
      refine go (cj rTI (cj @e5 (cj @e0 (cj @e1 (cj @e2 (cj @e3 (cj @e4 (cj @e6 (cj @e7 (cj @e8 (cj @e9 (cj @l1 (cj @g0 @tz))))))))))))) ?_
      refine ifs ?_ ?_ <;> first | exact nope | intro hb
      refine go (cj rTI (cj @e5 (cj @e0 (cj @e1 (cj @e2 (cj @e3 (cj @e4 (cj @e6 (cj @e7 (cj @e8 (cj @e9 (cj @l1 (cj @g0 @tz))))))))))))) ?_
      refine ifs ?_ ?_ <;> first | exact nope | intro hb
      refine go (cj rTI (cj @e5 (cj @e0 (cj @e1 (cj @e2 (cj @e3 (cj @e4 (cj @e6 (cj @e7 (cj @e8 (cj @e9 (cj @l1 (cj @g0 @tz))))))))))))) ?_
      refine ifs ?_ ?_ <;> first | exact nope | intro hb
      refine go (cj rTI (cj @e5 (cj @e0 (cj @e1 (cj @e2 (cj @e3 (cj @e4 (cj @e6 (cj @e7 (cj @e8 (cj @e9 (cj @l1 (cj @g0 @tz))))))))))))) ?_
      refine ifs ?_ ?_ <;> first | exact nope | intro hb
      refine go (cj rTI (cj @e5 (cj @e0 (cj @e1 (cj @e2 (cj @e3 (cj @e4 (cj @e6 (cj @e7 (cj @e8 (cj @e9 (cj @l1 (cj @g0 @tz))))))))))))) ?_
      refine ifs ?_ ?_ <;> first | exact nope | intro hb
      refine go (cj rTI (cj @e5 (cj @e0 (cj @e1 (cj @e2 (cj @e3 (cj @e4 (cj @e6 (cj @e7 (cj @e8 (cj @e9 (cj @l1 (cj @g0 @tz))))))))))))) ?_
      refine ifs ?_ ?_ <;> first | exact nope | intro hb
      refine go (cj rTI (cj @e5 (cj @e0 (cj @e1 (cj @e2 (cj @e3 (cj @e4 (cj @e6 (cj @e7 (cj @e8 (cj @e9 (cj @l1 (cj @g0 @tz))))))))))))) ?_
      rw [then_normal]
      refine ifs ?_ ?_ <;> first | exact nope | intro hb
      refine go (cj rTI (cj @l1 (cj @t1 @sl))) ?_
      refine aw_reg fun K hK => ?_; refine rn rTI ?_; refine cont_pure hp1 ?_; refine rn rTI ?_; refine hK _ _ ?_; clear hK K
      rw [then_normal]
      refine go trivial ?_
      refine aw_reg fun K hK => ?_; refine rn rTI ?_; refine cont_pure hp2 ?_; refine rn rTI ?_; refine hK _ _ ?_; clear hK K
      rw [then_normal]
      refine ifs ?_ ?_ <;> first | exact nope | intro hb
      refine go trivial ?_

      rw [hexp]
      have ld := bs_size r
      have hld : r.length ≤ 1000000000 := by omega
      have hrun := run_ax r hbd hld
      have hfl := fr_le r
      by_cases q1 : r.length < 1
      · rw [two_bad r (fun h => by omega)]
        refine go (cj rTI @ld) ?_
        refine ifs ?_ ?_ <;> first | exact nope | intro hb
        refine go trivial ?_
        all_goals rfl
      · by_cases q2 : 2 < r.length
        · rw [two_bad r (fun h => by omega)]
          refine go (cj rTI @ld) ?_
          refine ifs ?_ ?_ <;> first | exact nope | intro hb
          refine go trivial ?_
          all_goals rfl
        · have htwo := two_good r (by omega) (by omega)
          have hff := fr_full r
          by_cases q3 : (fr r).length = r.length
          · have hall := hff.1 q3
            have hat := atoi_ax r hall (fun e => by rw [e] at q1; simp at q1) (by omega)
            have hvb : digV r ≤ 99 := digV_two r (by omega) hall
            rw [htwo, if_pos hall]
            clear hff htwo hall
            refine aw_reg fun K hK => ?_; refine rn (cj rTI @ld) ?_; refine cont_pure hrun ?_; refine rn (cj rTI @ld) ?_; refine hK _ _ ?_; clear hK K
            rw [then_normal]
            refine ifs ?_ ?_ <;> first | exact nope | intro hb
            refine go trivial ?_
            generalize digV r = v at *
            refine aw_reg fun K hK => ?_; refine rn rTI ?_; refine cont_pure hat ?_; refine rn rTI ?_; refine hK _ _ ?_; clear hK K
            rw [then_normal]
            refine go trivial ?_
            refine ifs ?_ ?_ <;> first | exact nope | intro hb
            refine go trivial ?_
            show _ = AV.tp [.v (.int .i64 (v : Int)), _]; simp
          · rw [htwo, if_neg (fun h => q3 (hff.2 h))]
            clear hff htwo
            refine aw_reg fun K hK => ?_; refine rn (cj rTI @ld) ?_; refine cont_pure hrun ?_; refine rn (cj rTI @ld) ?_; refine hK _ _ ?_; clear hK K
            rw [then_normal]
            refine ifs ?_ ?_ <;> first | exact nope | intro hb
            refine go trivial ?_
            all_goals rfl
  · rw [show expL (c :: r) = none by unfold expL; split <;> simp_all]
    refine acall_of Tryz.func51 rfl rfl (by simp [Tryz.ntmps51]) ?_; rw [Tryz.ntmps51, Tryz.results51]
    refine go (cj rTI (cj @e5 (cj @e0 (cj @e1 (cj @e2 (cj @e3 (cj @e4 (cj @e6 (cj @e7 (cj @e8 @e9)))))))))) ?_
    refine ifs ?_ ?_ <;> first | exact nope | intro hb
    refine go (cj rTI (cj @e5 (cj @e0 (cj @e1 (cj @e2 (cj @e3 (cj @e4 (cj @e6 (cj @e7 (cj @e8 (cj @e9 (cj @l1 (cj @g0 @tz))))))))))))) ?_
    refine ifs ?_ ?_ <;> first | exact nope | intro hb
    refine go (cj rTI (cj @e5 (cj @e0 (cj @e1 (cj @e2 (cj @e3 (cj @e4 (cj @e6 (cj @e7 (cj @e8 (cj @e9 (cj @l1 (cj @g0 @tz))))))))))))) ?_
    refine ifs ?_ ?_ <;> first | exact nope | intro hb
    refine go (cj rTI (cj @e5 (cj @e0 (cj @e1 (cj @e2 (cj @e3 (cj @e4 (cj @e6 (cj @e7 (cj @e8 (cj @e9 (cj @l1 (cj @g0 @tz))))))))))))) ?_
    refine ifs ?_ ?_ <;> first | exact nope | intro hb
    refine go (cj rTI (cj @e5 (cj @e0 (cj @e1 (cj @e2 (cj @e3 (cj @e4 (cj @e6 (cj @e7 (cj @e8 (cj @e9 (cj @l1 (cj @g0 @tz))))))))))))) ?_
    refine ifs ?_ ?_ <;> first | exact nope | intro hb
    refine go (cj rTI (cj @e5 (cj @e0 (cj @e1 (cj @e2 (cj @e3 (cj @e4 (cj @e6 (cj @e7 (cj @e8 (cj @e9 (cj @l1 (cj @g0 @tz))))))))))))) ?_
    refine ifs ?_ ?_ <;> first | exact nope | intro hb
    refine go (cj rTI (cj @e5 (cj @e0 (cj @e1 (cj @e2 (cj @e3 (cj @e4 (cj @e6 (cj @e7 (cj @e8 (cj @e9 (cj @l1 (cj @g0 @tz))))))))))))) ?_
    refine ifs ?_ ?_ <;> first | exact nope | intro hb
    refine go (cj rTI (cj @e5 (cj @e0 (cj @e1 (cj @e2 (cj @e3 (cj @e4 (cj @e6 (cj @e7 (cj @e8 (cj @e9 (cj @l1 (cj @g0 @tz))))))))))))) ?_
    refine ifs ?_ ?_ <;> first | exact nope | intro hb
    refine go (cj rTI (cj @e5 (cj @e0 (cj @e1 (cj @e2 (cj @e3 (cj @e4 (cj @e6 (cj @e7 (cj @e8 (cj @e9 (cj @l1 (cj @g0 @tz))))))))))))) ?_
    refine ifs ?_ ?_ <;> first | exact nope | intro hb
    refine go (cj rTI (cj @e5 (cj @e0 (cj @e1 (cj @e2 (cj @e3 (cj @e4 (cj @e6 (cj @e7 (cj @e8 (cj @e9 (cj @l1 (cj @g0 @tz))))))))))))) ?_
    refine ifs ?_ ?_ <;> first | exact nope | intro hb
    refine go (cj rTI (cj @e5 (cj @e0 (cj @e1 (cj @e2 (cj @e3 (cj @e4 (cj @e6 (cj @e7 (cj @e8 (cj @e9 (cj @l1 (cj @g0 @tz))))))))))))) ?_
    rw [then_normal]
    refine ifs ?_ ?_ <;> first | exact nope | intro hb
    refine go trivial ?_
    all_goals rfl
end Go.Proofs.YtfjelkjlfcafgaaGreatDoor.NumV
end
section
/- Texts of numbers: num.Parse. -/
namespace Go.Proofs.YtfjelkjlfcafgaaGreatDoor.NumW
open Go Go.RowKit Go.Proofs.YtfjelkjlfcafgaaGreatDoor.Ax Go.Proofs.YtfjelkjlfcafgaaGreatDoor.Ti Go.Proofs.YtfjelkjlfcafgaaGreatDoor.BigM Go.Proofs.YtfjelkjlfcafgaaGreatDoor.NumS Go.Proofs.YtfjelkjlfcafgaaGreatDoor.NumA Go.Proofs.YtfjelkjlfcafgaaGreatDoor.NumT Go.Proofs.YtfjelkjlfcafgaaGreatDoor.NumU Go.Proofs.YtfjelkjlfcafgaaGreatDoor.NumL Go.Proofs.YtfjelkjlfcafgaaGreatDoor.NumV Go.Proofs.YtfjelkjlfcafgaaGreatDoor.NumP
set_option linter.unusedSimpArgs false
set_option linter.unusedVariables false
set_option maxRecDepth 4000
set_option maxHeartbeats 2000000
theorem rTI : type_of% (cj @ti3 (cj @ti2 (cj @ti4 (cj @ti9 (cj @ti5 (cj @ti36 (cj @ti24 @ti25))))))) := cj @ti3 (cj @ti2 (cj @ti4 (cj @ti9 (cj @ti5 (cj @ti36 (cj @ti24 @ti25))))))

theorem aw_way {P : Program} {x : Code} {m0 : Nat} {e : Env} {s : St} {Q : Exit → Env → St → Prop} (I : Env → St → Prop) (h1 : AW P x m0 e s fun ex e' s' => (ex = .normal ∧ I e' s') ∨ (ex = .ret ∧ Q .ret e' s')) (h2 : ∀ e' s', I e' s' → Q .normal e' s') : AW P x m0 e s Q :=
  aw_mono h1 fun ex e' s' h => by
    rcases h with ⟨hn, hI⟩ | ⟨hn, hQ⟩
    · subst hn; exact h2 e' s' hI
    · subst hn; exact hQ
def parseV (p : Int × Int × Int) : AV := .tp [NM p.1 p.2.1, .v (.int .i64 p.2.2)]
theorem slice_to (l : List Nat) (k : Nat) : (bs l).extract 0 k = bs (l.take k) := by
  rw [bs_slice, List.drop_zero, Nat.sub_zero]
theorem slice_from (l : List Nat) (k n : Nat) (hn : n = l.length) : (bs l).extract k n = bs (l.drop k) := by
  rw [bs_slice]
  congr 1
  rw [List.take_of_length_le (by rw [List.length_drop]; omega)]
theorem by_sub {l : List Nat} (h : By l) {m : List Nat} (hm : ∀ c ∈ m, c ∈ l) : By m := fun c hc => h c (hm c hc)
theorem bk_mem (r : List Nat) : ∀ c ∈ bk r, c ∈ r := fun c hc => by rw [← fr_bk r]; exact List.mem_append_right _ hc
theorem cut_mem (l : List Nat) : ∀ c ∈ cut1 l 45, c ∈ l := fun c hc => by
  unfold cut1 at hc
  split at hc
  · exact List.mem_of_mem_tail hc
  · exact hc
theorem cut_len (l : List Nat) : (cut1 l 45).length ≤ l.length := by
  unfold cut1
  split
  · rw [List.length_tail]; omega
  · exact Nat.le_refl _
theorem two_bound (d : List Nat) (v : Int) (h : two d = some v) : 0 ≤ v ∧ v ≤ 99 := by
  unfold two at h
  split at h
  · split at h
    · rename_i hd
      have := (isD_iff _).1 hd
      injection h with h
      omega
    · cases h
  · split at h
    · rename_i hd
      rw [Bool.and_eq_true] at hd
      have h1 := (isD_iff _).1 hd.1
      have h2 := (isD_iff _).1 hd.2
      injection h with h
      omega
    · cases h
  · cases h
theorem exp_bound (d : List Nat) (v : Int) (h : expS d = some v) : -99 ≤ v ∧ v ≤ 99 := by
  unfold expS at h
  split at h
  · rename_i r
    cases hr : two r with
    | none => rw [hr] at h; cases h
    | some w =>
      rw [hr] at h
      have := two_bound r w hr
      have h' : -w = v := by simpa using h
      omega
  · have := two_bound _ v h
    omega
  · have := two_bound _ v h
    omega
theorem letters_bound (l : List Nat) (v : Int) (h : lettersS l = some v) : -99 ≤ v ∧ v ≤ 99 := by
  unfold lettersS at h
  split at h
  all_goals first
    | (injection h with h; omega)
    | exact exp_bound _ _ h
    | cases h
def fin3 (neg : Bool) (ds : List Nat) (x : Int) : Option Int → Int × Int × Int
  | none => (0, 0, 3)
  | some e => finS neg (digV ds) (x + e)
theorem body_no (neg : Bool) (r : List Nat) (h0 : fr r ≠ []) (h1 : ¬ (bk r).head? = some 46) : bodyS neg r = fin3 neg (fr r) 0 (lettersS (bk r)) := by
  unfold bodyS
  rw [if_neg h0]
  split
  · rename_i q hq
    rw [hq] at h1
    exact absurd rfl h1
  · unfold fin3
    split <;> simp_all
theorem body_pt (neg : Bool) (r q : List Nat) (h0 : fr r ≠ []) (h1 : bk r = 46 :: q) : bodyS neg r = if fr q = [] then (0, 0, 3) else fin3 neg (fr r ++ fr q) (-((fr q).length : Int)) (lettersS (bk q)) := by
  unfold bodyS
  rw [if_neg h0, h1]
  simp only
  by_cases h2 : fr q = []
  · rw [if_pos h2, if_pos h2]
  · rw [if_neg h2, if_neg h2]
    unfold fin3
    split
    · rename_i hh; first | rfl | rw [hh]
    · rename_i e hh
      first
        | (rw [hh]; simp only; congr 1; omega)
        | (congr 1; omega)
theorem parse_ax (l : List Nat) (h : By l) (hl : l.length ≤ 1000000000) : PCall Tryz.prog 14 [.v (.string (bs l))] (parseV (parseS l)) := by
  refine pcall_of fun s => ?_
  rw [show idf (parseV (parseS l)) = true from rfl]
  have l1 := bs_size l
  have p0 : (s.push [.v (.int .i64 0), .v (.int .i64 0)]).get s.nx = some [.v (.int .i64 0), .v (.int .i64 0)] := St.push_same _ _
  by_cases q32 : 32 < l.length
  · rw [show parseS l = (0, 0, 3) by unfold parseS; rw [if_pos q32]]
    show ACall _ _ _ _ fun r' s' => r' = .tp [.ag [.v (.int .i64 0), .v (.int .i64 0)], .v (.int .i64 3)] ∧ _
    refine acall_of Tryz.func14 rfl rfl (by simp [Tryz.ntmps14]) ?_; rw [Tryz.ntmps14, Tryz.results14]
    refine go (cj rTI @l1) ?_
    refine ifs ?_ ?_ <;> first | exact nope | intro hb
    refine go rTI ?_
    exact fun i hi => by rw [if_neg (by omega)]
  · have hcut := cutPrefix_ax l h 45 (by decide)
    have hb1 := by_sub h (cut_mem l)
    have hlc := cut_len l
    rw [parse_cut l (by omega)]
    generalize cut1 l 45 = r at *
    generalize decide (l.head? = some 45) = neg at *
    have hrun := run_ax r hb1 (by omega)
    have lr := bs_size r
    have hfl := fr_le r
    refine acall_of Tryz.func14 rfl rfl (by simp [Tryz.ntmps14]) ?_; rw [Tryz.ntmps14, Tryz.results14]
    refine go (cj rTI @l1) ?_
    refine ifs ?_ ?_ <;> first | exact nope | intro hb
    refine go rTI ?_
    refine aw_reg fun K hK => ?_; refine rn rTI ?_; refine cont_pure hcut ?_; refine rn rTI ?_; refine hK _ _ ?_; clear hK K
    rw [then_normal]
    refine go trivial ?_
    refine aw_reg fun K hK => ?_; refine rn rTI ?_; refine cont_pure hrun ?_; refine rn rTI ?_; refine hK _ _ ?_; clear hK K
    rw [then_normal]
    by_cases q0 : (fr r).length = 0
    · have hf0 : fr r = [] := List.length_eq_zero_iff.1 q0
      have hbs : bodyS neg r = (0, 0, 3) := by unfold bodyS; rw [if_pos hf0]
      rw [hbs]
      show AW _ _ _ _ _ (fpost _ _ fun r' s' => r' = .tp [.ag [.v (.int .i64 0), .v (.int .i64 0)], .v (.int .i64 3)] ∧ _)
      refine go rTI ?_
      refine ifs ?_ ?_ <;> first | exact nope | intro hb
      refine go rTI ?_
      exact fun i hi => by rw [if_neg (by omega)]
    · have sl1 := slice_to r (fr r).length
      have sl2 := slice_from r (fr r).length r.length rfl
      rw [fr_take] at sl1
      rw [bk_drop] at sl2
      have tz : Int.toNat 0 = 0 := rfl
      refine go rTI ?_
      refine ifs ?_ ?_ <;> first | exact nope | intro hb
      refine go (cj rTI (cj @lr (cj @sl1 (cj @sl2 @tz)))) ?_
      have hfn : fr r ≠ [] := fun e => q0 (by rw [e]; rfl)
      have hb2 : By (bk r) := by_sub hb1 (bk_mem r)
      have hpre := hasPrefix_ax (bk r) hb2 46 (by decide)
      have hlk : (bk r).length ≤ r.length := by have := congrArg List.length (fr_bk r); rw [List.length_append] at this; omega
      have hfd := fr_all r
      have lk := bs_size (bk r)
      have ppush : ∀ i, i < s.nx → (s.push [.v (.int .i64 0), .v (.int .i64 0)]).get i = s.get i := fun i hi => St.push_ne _ _ _ (by omega)
      refine aw_reg fun K hK => ?_; refine rn rTI ?_; refine cont_pure hpre ?_; refine rn rTI ?_; refine hK _ _ ?_; clear hK K
      rw [then_normal]
      refine aw_way (fun e s' => ∃ (ds r3 : List Nat) (x : Int), e.n = 102 ∧ e.m 2 = .ptr s.nx 0 ∧ e.m 4 = .v (.string (bs r3)) ∧ e.m 5 = .v (.bool neg) ∧ e.m 7 = .v (.string (bs ds)) ∧ e.m 8 = .v (.int .i64 x) ∧ By r3 ∧ r3.length ≤ 32 ∧ (∀ c ∈ ds, isD c = true) ∧ ds.length ≤ 64 ∧ -32 ≤ x ∧ x ≤ 0 ∧ bodyS neg r = fin3 neg ds x (lettersS r3) ∧ s'.get s.nx = some [.v (.int .i64 0), .v (.int .i64 0)] ∧ ∀ i, i < s.nx → s'.get i = s.get i) ?_ ?_
      · by_cases qp : (bk r).head? = some 46
        · rw [decide_eq_true qp]
          obtain ⟨q, hq⟩ : ∃ q, bk r = 46 :: q := by
            cases hk : bk r with
            | nil => rw [hk] at qp; cases qp
            | cons a q =>
              rw [hk] at qp
              exact ⟨q, by rw [show a = 46 by simpa using qp]⟩
          have hbody := body_pt neg r q hfn hq
          have hbq : By q := by_sub hb2 (fun c hc => by rw [hq]; exact List.mem_cons_of_mem _ hc)
          rw [hq] at lk hlk
          rw [List.length_cons] at lk hlk
          have hrq := run_ax q hbq (by omega)
          have hfq := fr_le q
          have s3 := slice_from (46 :: q) 1 (q.length + 1) rfl
          rw [List.drop_one, List.tail_cons] at s3
          have t1 : Int.toNat 1 = 1 := rfl
          rw [hq]
          refine ifs ?_ ?_ <;> first | exact nope | intro hb
          refine go (cj rTI (cj @lk (cj @t1 @s3))) ?_
          refine aw_reg fun K hK => ?_; refine rn (cj rTI (cj @lk (cj @t1 @s3))) ?_; refine cont_pure hrq ?_; refine rn (cj rTI (cj @lk (cj @t1 @s3))) ?_; refine hK _ _ ?_; clear hK K
          rw [then_normal]
          by_cases qf : fr q = []
          · have qf0 : (fr q).length = 0 := by rw [qf]; rfl
            rw [if_pos qf] at hbody
            rw [hbody]
            refine go rTI ?_
            refine ifs ?_ ?_ <;> first | exact nope | intro hb
            refine go rTI ?_
            exact .inr ⟨rfl, fun i hi => by rw [if_neg (by omega)]⟩
          · have qf0 : (fr q).length ≠ 0 := fun e => qf (List.length_eq_zero_iff.1 e)
            rw [if_neg qf] at hbody
            have s4 : (bs (46 :: q)).extract 1 (1 + (fr q).length) = bs (fr q) := by
              rw [bs_slice, List.drop_one, List.tail_cons, Nat.add_sub_cancel_left, fr_take]
            have s5 : (bs (46 :: q)).extract (1 + (fr q).length) (q.length + 1) = bs (bk q) := by
              rw [slice_from (46 :: q) (1 + (fr q).length) (q.length + 1) rfl, Nat.add_comm 1, List.drop_succ_cons, bk_drop]
            have k1 : ((1 : Int) + ((fr q).length : Int)).toNat = 1 + (fr q).length := by omega
            have lf1 := bs_size (fr r)
            have lf2 := bs_size (fr q)
            have ap := bs_append (fr r) (fr q)
            have hlq : (bk q).length ≤ q.length := by have := congrArg List.length (fr_bk q); rw [List.length_append] at this; omega
            refine go rTI ?_
            refine ifs ?_ ?_ <;> first | exact nope | intro hb
            refine go (cj rTI (cj @lk (cj @t1 (cj @s3 (cj @s4 (cj @s5 (cj @k1 (cj @lf1 (cj @lf2 @ap))))))))) ?_
            refine .inl ⟨rfl, fr r ++ fr q, bk q, -((fr q).length : Int), ?_⟩
            refine rn @Int.zero_sub ?_
            refine ⟨by_sub hbq (bk_mem q), by omega, fun c hc => ?_, by rw [List.length_append]; omega, by omega, by omega, hbody, fun i hi => by rw [if_neg (by omega)]⟩
            rcases List.mem_append.1 hc with hc | hc
            · exact hfd c hc
            · exact fr_all q c hc
        · rw [decide_eq_false qp]
          have hbody := body_no neg r hfn qp
          refine ifs ?_ ?_ <;> first | exact nope | intro hb
          refine go trivial ?_
          exact .inl ⟨fr r, bk r, 0, rfl, rfl, rfl, hb2, by omega, hfd, by omega, by omega, by omega, hbody, fun i hi => by rw [if_neg (by omega)]⟩
      · clear hcut hrun sl1 sl2 hpre lk lr l1
        rintro e s' ⟨ds, r3, x, h1, k2, k4, k5, k7, k8, hb3, hl3, hds, hld, hx1, hx2, hbody, g, fr2⟩
        rw [hbody, then_normal]
        have hlet := letters_ax r3 hb3 (by omega)
        have hbd := letters_bound r3
        generalize lettersS r3 = o at *
        cases o with
        | none =>
          show AW _ _ _ _ _ (fpost _ _ fun r' s' => r' = .tp [.ag [.v (.int .i64 0), .v (.int .i64 0)], .v (.int .i64 3)] ∧ _)
          refine go trivial ?_
          refine aw_reg fun K hK => ?_; refine rn (cj rTI (cj @k4 (cj @tailV.eq_1 @tailV.eq_2))) ?_; refine cont_pure hlet ?_; refine rn (cj rTI (cj @k4 (cj @tailV.eq_1 @tailV.eq_2))) ?_; refine hK _ _ ?_; clear hK K
          rw [then_normal]
          refine go trivial ?_
          refine ifs ?_ ?_ <;> first | exact nope | intro hb
          refine go (cj rTI (cj @h1 (cj @k2 @g))) ?_
          intro i hi
          rw [if_neg (by omega)]
          exact fr2 i hi
        | some ee =>
          obtain ⟨b1, b2⟩ := hbd ee rfl
          obtain ⟨P1, P2⟩ := fin_parse neg ds (x + ee) hds
          have hbds : By ds := fun c hc => by have := (isD_iff c).1 (hds c hc); omega
          have hbl : By (lead ds) := by_sub hbds (lead_sub ds)
          have hll := lead_len ds
          have htl := trimLeft_ax ds hbds
          have htr := trimRight_ax (lead ds) hbl (by omega)
          have e0 : ((bs (lead ds)).toList == (ByteArray.mk #[]).toList) = decide (lead ds = []) := bs_beq (lead ds) [] hbl (fun c hc => by cases hc)
          show AW _ _ _ _ _ (fpost _ _ fun r' s' => r' = parseV (finS neg (digV ds) (x + ee)) ∧ _)
          by_cases ql : lead ds = []
          · rw [P1 ql, decide_eq_true ql] at *
            show AW _ _ _ _ _ (fpost _ _ fun r' s' => r' = .tp [.ag [.v (.int .i64 0), .v (.int .i64 0)], .v (.int .i64 0)] ∧ _)
            clear P1 P2
            refine go trivial ?_
            refine aw_reg fun K hK => ?_; refine rn (cj rTI (cj @k4 (cj @tailV.eq_1 @tailV.eq_2))) ?_; refine cont_pure hlet ?_; refine rn (cj rTI (cj @k4 (cj @tailV.eq_1 @tailV.eq_2))) ?_; refine hK _ _ ?_; clear hK K
            rw [then_normal]
            refine go trivial ?_
            refine ifs ?_ ?_ <;> first | exact nope | intro hb
            refine go (cj rTI (cj @h1 (cj @k2 (cj @k7 (cj @k8 @g))))) ?_
            refine aw_reg fun K hK => ?_; refine rn (cj rTI @k7) ?_; refine cont_pure htl ?_; refine rn (cj rTI @k7) ?_; refine hK _ _ ?_; clear hK K
            rw [then_normal]
            refine go (cj rTI @e0) ?_
            refine ifs ?_ ?_ <;> first | exact nope | intro hb
            refine go (cj rTI (cj @h1 (cj @k2 @g))) ?_
            intro i hi
            rw [if_neg (by omega)]
            exact fr2 i hi
          · rw [decide_eq_false ql] at e0
            obtain ⟨T1, T2, T3, T4⟩ := P2 ql
            have lT := bs_size (trail (lead ds))
            have lL := bs_size (lead ds)
            have hpi := fun h9 => parseInt_ax (trail (lead ds)) T2 T1 h9
            clear P1 P2
            generalize trail (lead ds) = T at *
            obtain ⟨n, hn⟩ : ∃ n, n = (lead ds).length - T.length := ⟨_, rfl⟩
            rw [← hn] at T4
            by_cases q9 : T.length > 9
            · rw [if_pos (.inl q9)] at T4
              rw [T4]
              show AW _ _ _ _ _ (fpost _ _ fun r' s' => r' = .tp [.ag [.v (.int .i64 0), .v (.int .i64 0)], .v (.int .i64 30)] ∧ _)
              refine go trivial ?_
              refine aw_reg fun K hK => ?_; refine rn (cj rTI (cj @k4 (cj @tailV.eq_1 @tailV.eq_2))) ?_; refine cont_pure hlet ?_; refine rn (cj rTI (cj @k4 (cj @tailV.eq_1 @tailV.eq_2))) ?_; refine hK _ _ ?_; clear hK K
              rw [then_normal]
              refine go trivial ?_
              refine ifs ?_ ?_ <;> first | exact nope | intro hb
              refine go (cj rTI (cj @h1 (cj @k2 (cj @k7 (cj @k8 @g))))) ?_
              refine aw_reg fun K hK => ?_; refine rn (cj rTI @k7) ?_; refine cont_pure htl ?_; refine rn (cj rTI @k7) ?_; refine hK _ _ ?_; clear hK K
              rw [then_normal]
              refine go (cj rTI @e0) ?_
              refine ifs ?_ ?_ <;> first | exact nope | intro hb
              refine go trivial ?_
              refine aw_reg fun K hK => ?_; refine rn rTI ?_; refine cont_pure htr ?_; refine rn rTI ?_; refine hK _ _ ?_; clear hK K
              rw [then_normal]
              refine go (cj rTI (cj @lT @lL)) ?_
              refine ifs ?_ ?_ <;> first | exact nope | intro hb
              refine go (cj rTI (cj @h1 (cj @k2 @g))) ?_
              intro i hi
              rw [if_neg (by omega)]
              exact fr2 i hi
            · have hpi := hpi (by omega)
              have e3 : ((lead ds).length : Int) - (T.length : Int) = (n : Int) := by omega
              have hv9 : digV T < 1000000000 := by
                have h1' := dig_lt T T2
                have h2' : 10 ^ T.length ≤ 10 ^ 9 := Nat.pow_le_pow_right (by decide) (by omega)
                omega
              obtain ⟨X, hX⟩ : ∃ X, X = x + ee + (n : Int) := ⟨_, rfl⟩
              rw [← hX] at T4
              by_cases q18 : X < -18
              · rw [if_pos (.inr (.inl q18))] at T4
                rw [T4]
                show AW _ _ _ _ _ (fpost _ _ fun r' s' => r' = .tp [.ag [.v (.int .i64 0), .v (.int .i64 0)], .v (.int .i64 30)] ∧ _)
                refine go trivial ?_
                refine aw_reg fun K hK => ?_; refine rn (cj rTI (cj @k4 (cj @tailV.eq_1 @tailV.eq_2))) ?_; refine cont_pure hlet ?_; refine rn (cj rTI (cj @k4 (cj @tailV.eq_1 @tailV.eq_2))) ?_; refine hK _ _ ?_; clear hK K
                rw [then_normal]
                refine go trivial ?_
                refine ifs ?_ ?_ <;> first | exact nope | intro hb
                refine go (cj rTI (cj @h1 (cj @k2 (cj @k7 (cj @k8 @g))))) ?_
                refine aw_reg fun K hK => ?_; refine rn (cj rTI @k7) ?_; refine cont_pure htl ?_; refine rn (cj rTI @k7) ?_; refine hK _ _ ?_; clear hK K
                rw [then_normal]
                refine go (cj rTI @e0) ?_
                refine ifs ?_ ?_ <;> first | exact nope | intro hb
                refine go trivial ?_
                refine aw_reg fun K hK => ?_; refine rn rTI ?_; refine cont_pure htr ?_; refine rn rTI ?_; refine hK _ _ ?_; clear hK K
                rw [then_normal]
                refine go (cj rTI (cj @lT (cj @lL (cj @k8 @e3)))) ?_
                refine ifs ?_ ?_ <;> first | exact nope | intro hb
                refine go (cj rTI (cj @h1 (cj @k2 @g))) ?_
                intro i hi
                rw [if_neg (by omega)]
                exact fr2 i hi
              · by_cases q19 : X > 9
                · rw [if_pos (.inr (.inr q19))] at T4
                  rw [T4]
                  show AW _ _ _ _ _ (fpost _ _ fun r' s' => r' = .tp [.ag [.v (.int .i64 0), .v (.int .i64 0)], .v (.int .i64 30)] ∧ _)
                  refine go trivial ?_
                  refine aw_reg fun K hK => ?_; refine rn (cj rTI (cj @k4 (cj @tailV.eq_1 @tailV.eq_2))) ?_; refine cont_pure hlet ?_; refine rn (cj rTI (cj @k4 (cj @tailV.eq_1 @tailV.eq_2))) ?_; refine hK _ _ ?_; clear hK K
                  rw [then_normal]
                  refine go trivial ?_
                  refine ifs ?_ ?_ <;> first | exact nope | intro hb
                  refine go (cj rTI (cj @h1 (cj @k2 (cj @k7 (cj @k8 @g))))) ?_
                  refine aw_reg fun K hK => ?_; refine rn (cj rTI @k7) ?_; refine cont_pure htl ?_; refine rn (cj rTI @k7) ?_; refine hK _ _ ?_; clear hK K
                  rw [then_normal]
                  refine go (cj rTI @e0) ?_
                  refine ifs ?_ ?_ <;> first | exact nope | intro hb
                  refine go trivial ?_
                  refine aw_reg fun K hK => ?_; refine rn rTI ?_; refine cont_pure htr ?_; refine rn rTI ?_; refine hK _ _ ?_; clear hK K
                  rw [then_normal]
                  refine go (cj rTI (cj @lT (cj @lL (cj @k8 @e3)))) ?_
                  refine ifs ?_ ?_ <;> first | exact nope | intro hb
                  refine go (cj rTI (cj @h1 (cj @k2 @g))) ?_
                  intro i hi
                  rw [if_neg (by omega)]
                  exact fr2 i hi
                · rw [if_neg (fun h => h.elim q9 fun h => h.elim q18 q19)] at T4
                  rw [T4]
                  clear T4
                  generalize digV T = v at *
                  cases neg
                  · show AW _ _ _ _ _ (fpost _ _ fun r' s' => r' = .tp [.ag [.v (.int .i64 v), .v (.int .i64 X)], .v (.int .i64 0)] ∧ _)
                    refine go trivial ?_
                    refine aw_reg fun K hK => ?_; refine rn (cj rTI (cj @k4 (cj @tailV.eq_1 @tailV.eq_2))) ?_; refine cont_pure hlet ?_; refine rn (cj rTI (cj @k4 (cj @tailV.eq_1 @tailV.eq_2))) ?_; refine hK _ _ ?_; clear hK K
                    rw [then_normal]
                    refine go trivial ?_
                    refine ifs ?_ ?_ <;> first | exact nope | intro hb
                    refine go (cj rTI (cj @h1 (cj @k2 (cj @k7 (cj @k8 @g))))) ?_
                    refine aw_reg fun K hK => ?_; refine rn (cj rTI @k7) ?_; refine cont_pure htl ?_; refine rn (cj rTI @k7) ?_; refine hK _ _ ?_; clear hK K
                    rw [then_normal]
                    refine go (cj rTI @e0) ?_
                    refine ifs ?_ ?_ <;> first | exact nope | intro hb
                    refine go trivial ?_
                    refine aw_reg fun K hK => ?_; refine rn rTI ?_; refine cont_pure htr ?_; refine rn rTI ?_; refine hK _ _ ?_; clear hK K
                    rw [then_normal]
                    refine go (cj rTI (cj @lT (cj @lL (cj @k8 @e3)))) ?_
                    refine ifs ?_ ?_ <;> first | exact nope | intro hb
                    refine go rTI ?_
                    refine aw_reg fun K hK => ?_; refine rn rTI ?_; refine cont_pure hpi ?_; refine rn rTI ?_; refine hK _ _ ?_; clear hK K
                    rw [then_normal]
                    refine go (cj rTI @k5) ?_
                    refine ifs ?_ ?_ <;> first | exact nope | intro hb
                    refine go (cj rTI (cj @h1 (cj @k2 (cj @k5 (cj @g @e3))))) ?_
                    rw [hX]
                    exact ⟨rfl, fun i hi => by rw [if_neg (by omega)]; exact fr2 i hi⟩
                  · show AW _ _ _ _ _ (fpost _ _ fun r' s' => r' = .tp [.ag [.v (.int .i64 (-(v : Int))), .v (.int .i64 X)], .v (.int .i64 0)] ∧ _)
                    refine go trivial ?_
                    refine aw_reg fun K hK => ?_; refine rn (cj rTI (cj @k4 (cj @tailV.eq_1 @tailV.eq_2))) ?_; refine cont_pure hlet ?_; refine rn (cj rTI (cj @k4 (cj @tailV.eq_1 @tailV.eq_2))) ?_; refine hK _ _ ?_; clear hK K
                    rw [then_normal]
                    refine go trivial ?_
                    refine ifs ?_ ?_ <;> first | exact nope | intro hb
                    refine go (cj rTI (cj @h1 (cj @k2 (cj @k7 (cj @k8 @g))))) ?_
                    refine aw_reg fun K hK => ?_; refine rn (cj rTI @k7) ?_; refine cont_pure htl ?_; refine rn (cj rTI @k7) ?_; refine hK _ _ ?_; clear hK K
                    rw [then_normal]
                    refine go (cj rTI @e0) ?_
                    refine ifs ?_ ?_ <;> first | exact nope | intro hb
                    refine go trivial ?_
                    refine aw_reg fun K hK => ?_; refine rn rTI ?_; refine cont_pure htr ?_; refine rn rTI ?_; refine hK _ _ ?_; clear hK K
                    rw [then_normal]
                    refine go (cj rTI (cj @lT (cj @lL (cj @k8 @e3)))) ?_
                    refine ifs ?_ ?_ <;> first | exact nope | intro hb
                    refine go rTI ?_
                    refine aw_reg fun K hK => ?_; refine rn rTI ?_; refine cont_pure hpi ?_; refine rn rTI ?_; refine hK _ _ ?_; clear hK K
                    rw [then_normal]
                    refine go (cj rTI @k5) ?_
                    refine ifs ?_ ?_ <;> first | exact nope | intro hb
                    refine go (cj rTI (cj @h1 (cj @k2 (cj @k5 (cj @g (cj @e3 @Int.zero_sub)))))) ?_
                    rw [hX]
                    exact ⟨rfl, fun i hi => by rw [if_neg (by omega)]; exact fr2 i hi⟩
end Go.Proofs.YtfjelkjlfcafgaaGreatDoor.NumW
end
section
/- Texts of numbers: num.Text, where FormatInt writes what it should. -/
namespace Go.Proofs.YtfjelkjlfcafgaaGreatDoor.NumX
open Go Go.RowKit Go.Proofs.YtfjelkjlfcafgaaGreatDoor.Ax Go.Proofs.YtfjelkjlfcafgaaGreatDoor.Ti Go.Proofs.YtfjelkjlfcafgaaGreatDoor.BigM Go.Proofs.YtfjelkjlfcafgaaGreatDoor.NumS Go.Proofs.YtfjelkjlfcafgaaGreatDoor.NumA Go.Proofs.YtfjelkjlfcafgaaGreatDoor.NumT Go.Proofs.YtfjelkjlfcafgaaGreatDoor.NumU Go.Proofs.YtfjelkjlfcafgaaGreatDoor.NumL Go.Proofs.YtfjelkjlfcafgaaGreatDoor.NumW
set_option linter.unusedSimpArgs false
set_option linter.unusedVariables false
set_option maxRecDepth 4000
set_option maxHeartbeats 2000000
theorem rTI : type_of% (cj @ti3 (cj @ti2 (cj @ti4 (cj @ti9 (cj @ti5 (cj @ti36 (cj @ti24 @ti25))))))) := cj @ti3 (cj @ti2 (cj @ti4 (cj @ti9 (cj @ti5 (cj @ti36 (cj @ti24 @ti25))))))

theorem itoa_ax (i : Nat) (h : i = 16 ∨ i = 17 ∨ i = 18) : PCall Tryz.prog 64 [.v (.int .i64 i)] (.v (.string (bs (decN i)))) := by
  refine pcall_lift (us := [.int .i64 i]) (enters_of Tryz.func64 rfl rfl) (fun k => .v _) fun w => ?_
  refine (Tryz.strconv_Itoa_small i (by omega) w).mono ?_
  rintro en w' ⟨rfl, rfl⟩
  refine ⟨?_, Below.refl _ _⟩
  have e : Lib.decDigits i = (decN i).map UInt8.ofNat := by
    rcases h with rfl | rfl | rfl <;> simp [Lib.decDigits, decN, digs_pos, digs_zero]
  rw [e]
  rfl
def textV (m x : Int) : AV := if validN m x = true then .tp [.v (.string (bs (textS m x))), .v (.int .i64 0)] else .tp [.v (.string (bs [])), .v (.int .i64 30)]
theorem decS_len (m : Int) (h1 : -999999999 ≤ m) (h2 : m ≤ 999999999) : (decS m).length ≤ 10 := by
  unfold decS
  split
  · simp
  · rw [List.length_append]
    have := decN_len m.natAbs 9 (by omega)
    split <;> simp <;> omega
theorem text_ax (m x : Int) (hF : validN m x = true → PCall Tryz.prog 63 [.v (.int .i64 m), .v (.int .i64 10)] (.v (.string (bs (decS m))))) : PCall Tryz.prog 17 [NM m x] (textV m x) := by
  refine pcall_of fun s => ?_
  have hv := valid_ax m x
  unfold NM at hv ⊢
  unfold textV
  by_cases q : validN m x = true
  · have hF := hF q
    rw [if_pos q]
    rw [q] at hv
    obtain ⟨m1, m2, k1, k2⟩ := RefM.validN_m m x q
    have hld := decS_len m m1 m2
    have lD := bs_size (decS m)
    by_cases qx : x < -15
    · have hi := itoa_ax x.natAbs (by omega)
      have e1 : textS m x = decS m ++ [101, 45] ++ decN x.natAbs := by unfold textS; rw [if_pos qx]
      rw [e1]
      have e2 : -x = (x.natAbs : Int) := by omega
      have c1 : bs (decS m) ++ (ByteArray.mk #[101, 45]) = bs (decS m ++ [101, 45]) := by
        show bs (decS m) ++ bs [101, 45] = _
        exact bs_append _ _
      have c2 := bs_append (decS m ++ [101, 45]) (decN x.natAbs)
      have lE := bs_size (decS m ++ [101, 45])
      have lN := bs_size (decN x.natAbs)
      have lN2 := decN_len x.natAbs 2 (by omega)
      have l2 : (ByteArray.mk #[101, 45]).size = 2 := rfl
      rw [List.length_append] at lE
      rw [show ([101, 45] : List Nat).length = 2 from rfl] at lE
      clear e1
      refine acall_of Tryz.func17 rfl rfl (by simp [Tryz.ntmps17]) ?_; rw [Tryz.ntmps17, Tryz.results17]
      refine go rTI ?_
      refine aw_reg fun K hK => ?_; refine rn rTI ?_; refine cont_pure hv ?_; refine rn rTI ?_; refine hK _ _ ?_; clear hK K
      rw [then_normal]
      refine ifs ?_ ?_ <;> first | exact nope | intro hb
      refine go trivial ?_
      refine aw_reg fun K hK => ?_; refine rn rTI ?_; refine cont_pure hF ?_; refine rn rTI ?_; refine hK _ _ ?_; clear hK K
      rw [then_normal]
      refine go rTI ?_
      refine ifs ?_ ?_ <;> first | exact nope | intro hb
      generalize x.natAbs = i at *
      refine aw_seq ?_
      refine aw_reg fun K hK => ?_; refine rn (cj rTI (cj @c1 (cj @c2 (cj @lD (cj @lE (cj @lN (cj @l2 (cj @Int.zero_sub @e2)))))))) ?_; refine cont_pure hi ?_; refine rn (cj rTI (cj @c1 (cj @c2 (cj @lD (cj @lE (cj @lN (cj @l2 (cj @Int.zero_sub @e2)))))))) ?_; refine hK _ _ ?_; clear hK K
      refine go rTI ?_
      exact fun i hi => if_neg (by omega)
    · obtain ⟨kk, hkk⟩ : ∃ kk : Nat, kk = ((x + 15) / 3).toNat := ⟨_, rfl⟩
      obtain ⟨z, hz⟩ : ∃ z : Nat, z = ((x + 15) % 3).toNat := ⟨_, rfl⟩
      have e1 : textS m x = decS m ++ List.replicate z 48 ++ letterS kk := by unfold textS; rw [if_neg qx, hkk, hz]
      rw [e1]
      have e2 : (x + 15) / 3 = (kk : Int) := by omega
      have e3 : x + 15 - 3 * (kk : Int) = (z : Int) := by omega
      have hz3 : z < 3 := by omega
      have hk9 : kk < 9 := by omega
      have s1 : (ByteArray.mk #[48, 48]).extract 0 z = bs (List.replicate z 48) := by
        have : z = 0 ∨ z = 1 ∨ z = 2 := by omega
        rcases this with rfl | rfl | rfl <;> rfl
      have tz : Int.toNat 0 = 0 := rfl
      have l00 : (ByteArray.mk #[48, 48]).size = 2 := rfl
      have c1 := bs_append (decS m) (List.replicate z 48)
      have c2 := bs_append (decS m ++ List.replicate z 48) (letterS kk)
      have lZ := bs_size (List.replicate z 48)
      have lE := bs_size (decS m ++ List.replicate z 48)
      have lK := bs_size (letterS kk)
      have lK3 := (letter_reads kk (by omega)).2.2
      rw [List.length_replicate] at lZ
      rw [List.length_append, List.length_replicate] at lE
      have hd : (([AV.v (.string (ByteArray.mk #[102])), .v (.string (ByteArray.mk #[112])), .v (.string (ByteArray.mk #[110])), .v (.string (ByteArray.mk #[117])), .v (.string (ByteArray.mk #[109])), .v (.string (ByteArray.mk #[])), .v (.string (ByteArray.mk #[107])), .v (.string (ByteArray.mk #[109, 101, 103])), .v (.string (ByteArray.mk #[103]))]).drop kk).head? = some (.v (.string (bs (letterS kk)))) := by
        have : kk = 0 ∨ kk = 1 ∨ kk = 2 ∨ kk = 3 ∨ kk = 4 ∨ kk = 5 ∨ kk = 6 ∨ kk = 7 ∨ kk = 8 := by omega
        rcases this with rfl | rfl | rfl | rfl | rfl | rfl | rfl | rfl | rfl <;> rfl
      clear e1
      refine acall_of Tryz.func17 rfl rfl (by simp [Tryz.ntmps17]) ?_; rw [Tryz.ntmps17, Tryz.results17]
      refine go rTI ?_
      refine aw_reg fun K hK => ?_; refine rn rTI ?_; refine cont_pure hv ?_; refine rn rTI ?_; refine hK _ _ ?_; clear hK K
      rw [then_normal]
      refine ifs ?_ ?_ <;> first | exact nope | intro hb
      refine go trivial ?_
      refine aw_reg fun K hK => ?_; refine rn rTI ?_; refine cont_pure hF ?_; refine rn rTI ?_; refine hK _ _ ?_; clear hK K
      rw [then_normal]
      refine go rTI ?_
      refine ifs ?_ ?_ <;> first | exact nope | intro hb
      refine go (cj rTI @e2) ?_
      generalize letterS kk = lk at *
      refine aw_drw (.take 0 (.take 1 (.take 2 (.take 3 (.take 4 (.take 5 (.take 6 (.take 7 (.take 8 (.take 10 (.one 9 (.one 11 (.one 12 (.one 13 (.one 14 (.one 15 (.done))))))))))))))))) [s.nx] (by kernel_rfl) (by kernel_rfl) fun K hK => ?_; refine dr (cj rTI (cj @e3 (cj @s1 (cj @tz (cj @l00 (cj @c1 (cj @c2 (cj @lD (cj @lZ (cj @lE (cj @lK (cj @hd @Nat.zero_add)))))))))))) ?_; refine hK _ _ ?_; clear hK K
      refine go rTI ?_
      exact fun i hi => by rw [if_neg (by omega), if_neg (by omega)]
  · have q' : validN m x = false := by simpa using q
    rw [if_neg q]
    rw [q'] at hv
    refine acall_of Tryz.func17 rfl rfl (by simp [Tryz.ntmps17]) ?_; rw [Tryz.ntmps17, Tryz.results17]
    refine go rTI ?_
    refine aw_reg fun K hK => ?_; refine rn rTI ?_; refine cont_pure hv ?_; refine rn rTI ?_; refine hK _ _ ?_; clear hK K
    rw [then_normal]
    refine ifs ?_ ?_ <;> first | exact nope | intro hb
    refine go trivial ?_
    exact ⟨rfl, fun i hi => if_neg (by omega)⟩
end Go.Proofs.YtfjelkjlfcafgaaGreatDoor.NumX
end
section
/- The laws of layer 3: awake, decimal. -/
namespace Go.Proofs.YtfjelkjlfcafgaaGreatDoor.NumY
open Go Go.RowKit Go.Proofs.YtfjelkjlfcafgaaGreatDoor.Ax Go.Proofs.YtfjelkjlfcafgaaGreatDoor.Ti Go.Proofs.YtfjelkjlfcafgaaGreatDoor.BigM Go.Proofs.YtfjelkjlfcafgaaGreatDoor.NumS Go.Proofs.YtfjelkjlfcafgaaGreatDoor.NumA Go.Proofs.YtfjelkjlfcafgaaGreatDoor.NumB Go.Proofs.YtfjelkjlfcafgaaGreatDoor.NumT Go.Proofs.YtfjelkjlfcafgaaGreatDoor.NumU Go.Proofs.YtfjelkjlfcafgaaGreatDoor.NumL Go.Proofs.YtfjelkjlfcafgaaGreatDoor.NumW Go.Proofs.YtfjelkjlfcafgaaGreatDoor.NumX
set_option linter.unusedSimpArgs false
set_option linter.unusedVariables false
set_option maxRecDepth 4000
set_option maxHeartbeats 2000000
theorem rTI : type_of% (cj @ti3 (cj @ti2 (cj @ti4 (cj @ti9 (cj @ti5 (cj @ti35 (cj @ti36 (cj @ti116 (cj @ti24 @ti25))))))))) := cj @ti3 (cj @ti2 (cj @ti4 (cj @ti9 (cj @ti5 (cj @ti35 (cj @ti36 (cj @ti116 (cj @ti24 @ti25))))))))

end Go.Proofs.YtfjelkjlfcafgaaGreatDoor.NumY
end
section
/- The document's reading of a number, place by place: plain. -/
namespace Go.Proofs.YtfjelkjlfcafgaaGreatDoor.NumQ
open Go.Proofs.YtfjelkjlfcafgaaGreatDoor.BigM Go.Proofs.YtfjelkjlfcafgaaGreatDoor.NumS Go.Proofs.YtfjelkjlfcafgaaGreatDoor.NumP Go.Proofs.YtfjelkjlfcafgaaGreatDoor.NumT Go.Proofs.YtfjelkjlfcafgaaGreatDoor.NumU Go.Proofs.YtfjelkjlfcafgaaGreatDoor.NumW
def At (r : List Nat) (p : Nat) (pt : Bool) (a : Nat) (x : Int) : Prop :=
  (pt = false ∧ p ≤ (fr r).length ∧ a = digV (r.take p) ∧ x = 0) ∨
  (pt = true ∧ ∃ q j, bk r = 46 :: q ∧ fr r ≠ [] ∧ fr q ≠ [] ∧ j ≤ (fr q).length ∧ p = (fr r).length + 1 + j ∧ a = digV (fr r ++ q.take j) ∧ x = -(j : Int))
theorem at_zero (r : List Nat) : At r 0 false 0 0 := .inl ⟨rfl, Nat.zero_le _, rfl, rfl⟩
theorem pt_get (r q : List Nat) (h : bk r = 46 :: q) (j : Nat) : r.getD ((fr r).length + 1 + j) 0 = q.getD j 0 := by
  have e := fr_bk r
  rw [h] at e
  generalize fr r = f at *
  subst e
  rw [List.getD_eq_getElem?_getD, List.getElem?_append_right (by omega), show f.length + 1 + j - f.length = j + 1 by omega, List.getElem?_cons_succ, List.getD_eq_getElem?_getD]
theorem pt_drop (r q : List Nat) (h : bk r = 46 :: q) (j : Nat) : r.drop ((fr r).length + 1 + j) = q.drop j := by
  have e := fr_bk r
  rw [h] at e
  generalize fr r = f at *
  subst e
  rw [List.drop_append, List.drop_of_length_le (by omega), List.nil_append, show f.length + 1 + j - f.length = j + 1 by omega]
  rfl
theorem pt_len (r q : List Nat) (h : bk r = 46 :: q) : r.length = (fr r).length + 1 + q.length := by
  have e := congrArg List.length (fr_bk r)
  rw [h, List.length_append, List.length_cons] at e
  omega
theorem at_le {r : List Nat} {p : Nat} {pt : Bool} {a : Nat} {x : Int} (h : At r p pt a x) : p ≤ r.length ∧ -(r.length : Int) ≤ x ∧ x ≤ 0 := by
  rcases h with ⟨_, h1, _, h2⟩ | ⟨_, q, j, h1, _, _, h2, h3, _, h4⟩
  · have := fr_le r; omega
  · have := fr_le q; have := pt_len r q h1; omega
theorem at_lt {r : List Nat} {p : Nat} {pt : Bool} {a : Nat} {x : Int} (h : At r p pt a x) : a < 10 ^ r.length := by
  have mono : ∀ i : Nat, i ≤ r.length → (10 : Nat) ^ i ≤ 10 ^ r.length := fun i hi => Nat.pow_le_pow_right (by decide) hi
  rcases h with ⟨_, h1, h2, _⟩ | ⟨_, q, j, h1, _, _, h2, h3, h4, _⟩
  · rw [h2]
    have hf := fr_le r
    have e : r.take p = (fr r).take p := by
      conv => lhs; rw [← fr_bk r]
      rw [List.take_append_of_le_length h1]
    refine Nat.lt_of_lt_of_le (dig_lt _ fun c hc => ?_) (mono _ ?_)
    · rw [e] at hc; exact fr_all r c (List.mem_of_mem_take hc)
    · rw [List.length_take]; omega
  · rw [h4]
    have hf := fr_le q
    have hl := pt_len r q h1
    have e : q.take j = (fr q).take j := by
      conv => lhs; rw [← fr_bk q]
      rw [List.take_append_of_le_length h2]
    refine Nat.lt_of_lt_of_le (dig_lt _ fun c hc => ?_) (mono _ ?_)
    · rcases List.mem_append.1 hc with hc | hc
      · exact fr_all r c hc
      · rw [e] at hc; exact fr_all q c (List.mem_of_mem_take hc)
    · rw [List.length_append, List.length_take]; omega
theorem at_dig {r : List Nat} {p : Nat} {pt : Bool} {a : Nat} {x : Int} (h : At r p pt a x) (hp : p < r.length) (hd : isD (r.getD p 0) = true) : At r (p + 1) pt (10 * a + (r.getD p 0 - 48)) (if pt then x - 1 else x) := by
  rcases h with ⟨rfl, h1, h2, h3⟩ | ⟨rfl, q, j, h1, h5, h6, h2, h3, h4, h7⟩
  · have hlt : p < (fr r).length := by
      rcases Nat.lt_or_ge p (fr r).length with q | q
      · exact q
      · have e : p = (fr r).length := by omega
        rw [e, run_stop r (by omega)] at hd
        cases hd
    refine .inl ⟨rfl, by omega, ?_, h3⟩
    rw [h2, take_snoc r p hp, digV_snoc]
  · rw [h3, pt_get r q h1] at hd ⊢
    have hl := pt_len r q h1
    have hq : j < q.length := by omega
    have hlt : j < (fr q).length := by
      rcases Nat.lt_or_ge j (fr q).length with q' | q'
      · exact q'
      · have e : j = (fr q).length := by omega
        rw [e, run_stop q (by omega)] at hd
        cases hd
    refine .inr ⟨rfl, q, j + 1, h1, h5, h6, by omega, by omega, ?_, ?_⟩
    · rw [h4, take_snoc q j hq, ← List.append_assoc, digV_snoc]
    · simp only [if_true]; omega
theorem at_pt {r : List Nat} {p : Nat} {a : Nat} {x : Int} (h : At r p false a x) (hp : p < r.length) (hc : r.getD p 0 = 46) : p = (fr r).length ∧ bk r = 46 :: r.drop (p + 1) ∧ a = digV (fr r) ∧ x = 0 := by
  rcases h with ⟨_, h1, h2, h3⟩ | ⟨h, _⟩
  · have e : p = (fr r).length := by
      rcases Nat.lt_or_ge p (fr r).length with q | q
      · have := (run_step r p q).2
        rw [hc] at this
        cases this
      · omega
    refine ⟨e, ?_, ?_, h3⟩
    · rw [← bk_drop, ← e, List.drop_eq_getElem_cons hp]
      rw [List.getD_eq_getElem?_getD, List.getElem?_eq_getElem hp] at hc
      rw [show r[p] = 46 from hc]
    · rw [h2, e, fr_take]
  · cases h
theorem fr_head (q : List Nat) : fr q ≠ [] ↔ 0 < q.length ∧ isD (q.getD 0 0) = true := by
  cases q with
  | nil => simp [fr]
  | cons c q =>
    rw [fr]
    by_cases h : isD c = true
    · simp [h]
    · simp [h]
theorem drop_get (r : List Nat) (p i : Nat) : (r.drop p).getD i 0 = r.getD (p + i) 0 := by
  rw [List.getD_eq_getElem?_getD, List.getElem?_drop, List.getD_eq_getElem?_getD]
theorem at_bad {r : List Nat} {p : Nat} {a : Nat} {x : Int} (neg : Bool) (h : At r p false a x) (hp : p < r.length) (hc : r.getD p 0 = 46) (h0 : 0 < p) (hb : p + 1 < r.length → isD (r.getD (p + 1) 0) = false) : bodyS neg r = (0, 0, 3) := by
  obtain ⟨h1, h2, h3, h4⟩ := at_pt h hp hc
  have hne : fr r ≠ [] := fun e => by rw [e] at h1; simp at h1; omega
  rw [body_pt neg r _ hne h2, if_pos]
  rcases Decidable.em (fr (r.drop (p + 1)) = []) with q | q
  · exact q
  · obtain ⟨g1, g2⟩ := (fr_head _).1 q
    rw [List.length_drop] at g1
    rw [drop_get, Nat.add_zero, hb (by omega)] at g2
    cases g2
theorem at_dot {r : List Nat} {p : Nat} {a : Nat} {x : Int} (h : At r p false a x) (hp : p < r.length) (hc : r.getD p 0 = 46) (h0 : 0 < p) (hb : p + 1 < r.length) (hd : isD (r.getD (p + 1) 0) = true) : At r (p + 1) true a x := by
  obtain ⟨h1, h2, h3, h4⟩ := at_pt h hp hc
  refine .inr ⟨rfl, r.drop (p + 1), 0, h2, fun e => by rw [e] at h1; simp at h1; omega, (fr_head _).2 ⟨by rw [List.length_drop]; omega, by rw [drop_get]; exact hd⟩, Nat.zero_le _, by omega, by rw [h3, List.take_zero, List.append_nil], by rw [h4]; rfl⟩
theorem at_none {r : List Nat} {a : Nat} {x : Int} {pt : Bool} (neg : Bool) (_h : At r 0 pt a x) (he : 0 < r.length → isD (r.getD 0 0) = false) : bodyS neg r = (0, 0, 3) := by
  unfold bodyS
  rw [if_pos]
  rcases Decidable.em (fr r = []) with q | q
  · exact q
  · obtain ⟨g1, g2⟩ := (fr_head _).1 q
    rw [he g1] at g2
    cases g2
theorem at_end {r : List Nat} {p : Nat} {a : Nat} {x : Int} {pt : Bool} (neg : Bool) (h : At r p pt a x) (h0 : 0 < p) (he : p < r.length → isD (r.getD p 0) = false ∧ ¬ (r.getD p 0 = 46 ∧ pt = false)) :
    bodyS neg r = match lettersS (r.drop p) with
      | none => (0, 0, 3)
      | some e => finS neg a (x + e) := by
  rcases h with ⟨rfl, h1, h2, h3⟩ | ⟨rfl, q, j, h1, h5, h6, h2, h3, h4, h7⟩
  · have e : p = (fr r).length := by
      rcases Nat.lt_or_ge p (fr r).length with q | q
      · have := run_step r p q
        rw [(he this.1).1] at this
        cases this.2
      · omega
    have hne : fr r ≠ [] := fun e' => by rw [e'] at e; simp at e; omega
    have hpt : ¬ (bk r).head? = some 46 := by
      intro hh
      rw [← bk_drop, ← e] at hh
      have hl : p < r.length := by
        rcases Nat.lt_or_ge p r.length with q | q
        · exact q
        · rw [List.drop_of_length_le q] at hh; cases hh
      rw [List.drop_eq_getElem_cons hl, List.head?_cons] at hh
      injection hh with hh
      refine (he hl).2 ⟨?_, rfl⟩
      rw [List.getD_eq_getElem?_getD, List.getElem?_eq_getElem hl]
      exact hh
    rw [body_no neg r hne hpt, ← bk_drop, ← e, h2, h3, e, fr_take]
    unfold fin3
    rfl
  · have hl := pt_len r q h1
    rw [h3, pt_get r q h1] at he
    have e : j = (fr q).length := by
      rcases Nat.lt_or_ge j (fr q).length with q' | q'
      · have := run_step q j q'
        rw [(he (by omega)).1] at this
        cases this.2
      · omega
    rw [body_pt neg r q h5 h1, if_neg h6, h3, pt_drop r q h1, e, bk_drop, h4, h7, e, fr_take]
    unfold fin3
    rfl
end Go.Proofs.YtfjelkjlfcafgaaGreatDoor.NumQ
end
section
/- The document's Parse reads what parseS says. -/
namespace Go.Proofs.YtfjelkjlfcafgaaGreatDoor.NumR
open Go Go.RowKit Go.Proofs.YtfjelkjlfcafgaaGreatDoor.Ax Go.Proofs.YtfjelkjlfcafgaaGreatDoor.Ti Go.Proofs.YtfjelkjlfcafgaaGreatDoor.BigM Go.Proofs.YtfjelkjlfcafgaaGreatDoor.RefA Go.Proofs.YtfjelkjlfcafgaaGreatDoor.RefC Go.Proofs.YtfjelkjlfcafgaaGreatDoor.RefD Go.Proofs.YtfjelkjlfcafgaaGreatDoor.RefF Go.Proofs.YtfjelkjlfcafgaaGreatDoor.RefG Go.Proofs.YtfjelkjlfcafgaaGreatDoor.RefI Go.Proofs.YtfjelkjlfcafgaaGreatDoor.RefK Go.Proofs.YtfjelkjlfcafgaaGreatDoor.NumS Go.Proofs.YtfjelkjlfcafgaaGreatDoor.NumP Go.Proofs.YtfjelkjlfcafgaaGreatDoor.NumT Go.Proofs.YtfjelkjlfcafgaaGreatDoor.NumU Go.Proofs.YtfjelkjlfcafgaaGreatDoor.NumL Go.Proofs.YtfjelkjlfcafgaaGreatDoor.NumW Go.Proofs.YtfjelkjlfcafgaaGreatDoor.NumQ
set_option linter.unusedSimpArgs false
set_option linter.unusedVariables false
set_option maxRecDepth 4000
set_option maxHeartbeats 2000000
theorem rTI : type_of% (cj @ti3 (cj @ti2 (cj @ti4 (cj @ti9 (cj @ti5 (cj @ti24 @ti105)))))) := cj @ti3 (cj @ti2 (cj @ti4 (cj @ti9 (cj @ti5 (cj @ti24 @ti105)))))

theorem aw_boxle {P : Program} {code : Code} {m0 : Nat} {e : Env} {s : St} {Q : Exit → Env → St → Prop} (i j : Nat) (c : List AV) (z z' : AV) (hi : s.get i = some c) (hj : c[j]? = some z) (hl : Le z z') (h : AW P code m0 e (s.set i (c.set j z')) Q) : AW P code m0 e s Q := by
  intro w0 kb k w a hk hs he
  obtain ⟨hc, hb⟩ := hs.box i c hi
  have alive : ∀ i' c', (s.set i (c.set j z')).get i' = some c' → ∃ c'', s.get i' = some c'' := fun i' c' h' => by
    by_cases q : i' = i
    · exact ⟨c, by rw [q]; exact hi⟩
    · rw [St.set_ne _ _ _ _ q] at h'; exact ⟨c', h'⟩
  refine h w0 kb k w a hk ⟨hs.m, hs.fz, fun i' c' h' => ?_, fun i' c' h' => ?_, fun i' j' c' d' h1 h2 => ?_, hs.shp, hs.tz⟩ he
  · obtain ⟨c'', h''⟩ := alive i' c' h'
    exact hs.lt i' c'' h''
  · by_cases q : i' = i
    · subst q
      rw [St.set_same] at h'
      injection h' with h'
      subst h'
      refine ⟨by simpa using hc, fun j' hj2 => ?_⟩
      obtain ⟨x, f1, f2, f3, f4⟩ := hb j' hj2
      refine ⟨x, f1, f2, f3, fun y hy => ?_⟩
      by_cases ej : j = j'
      · subst ej
        have hlt : j < c.length := (List.getElem?_eq_some_iff.1 hj).1
        rw [List.getElem?_set_self hlt] at hy
        injection hy with hy
        subst hy
        exact hl _ _ (f4 _ hj)
      · rw [List.getElem?_set_ne ej] at hy
        exact f4 y hy
    · rw [St.set_ne _ _ _ _ q] at h'
      exact hs.box i' c' h'
  · obtain ⟨c'', h1'⟩ := alive i' c' h1
    obtain ⟨d'', h2'⟩ := alive j' d' h2
    exact hs.sep i' j' c'' d'' h1' h2'
theorem ten_le (m k a : Nat) (hm : 0 < m) (h : m * 10 ^ k = a) (ha : a < 10 ^ 34) : k ≤ 34 := by
  rcases Nat.lt_or_ge 34 k with q | q
  · have h1 : 10 ^ 34 ≤ 10 ^ k := Nat.pow_le_pow_right (by decide) (by omega)
    have h2 : 10 ^ k ≤ m * 10 ^ k := Nat.le_mul_of_pos_left _ hm
    omega
  · exact q
theorem fin_strip (neg : Bool) (a m : Nat) (x y : Int) (ha : 0 < a) (hm : m % 10 ≠ 0) (h : strip a x = strip m y) : finS neg a x = if m ≤ 999999999 ∧ -18 ≤ y ∧ y ≤ 9 then (if neg then -(m : Int) else m, y, 0) else (0, 0, 30) := by
  unfold finS
  rw [if_neg (by omega), h, strip_stop m y (by omega)]
theorem valid_strip (neg : Bool) (m : Nat) (y : Int) (hm : m % 10 ≠ 0) : RefM.validN (if neg then -(m : Int) else m) y = decide (m ≤ 999999999 ∧ -18 ≤ y ∧ y ≤ 9) := by
  unfold RefM.validN
  rw [if_neg (by
    rw [tmod10]
    cases neg
    · simpa using hm
    · simpa using hm)]
  cases neg
  · simp only [Bool.false_eq_true, if_false]
    rw [Bool.eq_iff_iff]
    simp only [Bool.and_eq_true, decide_eq_true_eq]
    omega
  · simp only [if_true]
    rw [Bool.eq_iff_iff]
    simp only [Bool.and_eq_true, decide_eq_true_eq]
    omega
structure StI (s : St) (neg : Bool) (a m : Nat) (y x v : Int) (e : Env) (s' : St) : Prop where
  en : e.n = 144
  hm : 0 < m
  hk : ∃ k : Nat, m * 10 ^ k = a ∧ y = x + v + k
  e2 : e.m 2 = .ptr s.nx 0
  e5 : e.m 5 = .v (.bool neg)
  e7 : e.m 7 = .ptr (s.nx + 1) 0
  e8 : e.m 8 = .ptr (s.nx + 2) 0
  e9 : e.m 9 = .v (.int .i64 y)
  g0 : s'.get s.nx = some [.v (.int .i64 0), .v (.int .i64 0)]
  g1 : s'.get (s.nx + 1) = some [.v (.bool (ng m)), .sl (lz m) (DL (digs B (m : Int).natAbs))]
  g2 : s'.get (s.nx + 2) = some [.v (.bool (ng 10)), .sl (lz 10) (DL (digs B (10 : Int).natAbs))]
  nx : s.nx + 3 ≤ s'.nx
  fr : ∀ i, i < s.nx → s'.get i = s.get i
structure PI (s : St) (l : List Nat) (neg : Bool) (b : Nat) (p : Nat) (pt : Bool) (a : Nat) (x : Int) (e : Env) (s' : St) : Prop where
  en : e.n = 144
  at' : At (l.drop b) p pt a x
  e0 : e.m 0 = .v (.string (bs l))
  e2 : e.m 2 = .ptr s.nx 0
  e4 : e.m 4 = .v (.int .i64 ((b + p : Nat) : Int))
  e5 : e.m 5 = .v (.bool neg)
  e6 : e.m 6 = .v (.int .i64 (b : Int))
  e7 : e.m 7 = .ptr (s.nx + 1) 0
  e8 : e.m 8 = .ptr (s.nx + 2) 0
  e9 : e.m 9 = .v (.int .i64 x)
  e10 : e.m 10 = .v (.bool pt)
  g0 : s'.get s.nx = some [.v (.int .i64 0), .v (.int .i64 0)]
  g1 : s'.get (s.nx + 1) = some [.v (.bool (ng a)), .sl (lz a) (DL (digs B (a : Int).natAbs))]
  g2 : s'.get (s.nx + 2) = some [.v (.bool (ng 10)), .sl (lz 10) (DL (digs B (10 : Int).natAbs))]
  nx : s'.nx = s.nx + 3
  fr : ∀ i, i < s.nx → s'.get i = s.get i
theorem lz_dec (a : Nat) (h : a < 10 ^ 34) : lz (a : Int) ≤ 10 := (ln_lt _ 10).1 (by
  rw [Int.natAbs_natCast]
  exact Nat.lt_of_lt_of_le h (by decide))
theorem getD_drop (l : List Nat) (b p : Nat) : (l.drop b).getD p 0 = l.getD (b + p) 0 := by
  rw [List.getD_eq_getElem?_getD, List.getElem?_drop, List.getD_eq_getElem?_getD]
def PE (s : St) (l : List Nat) (neg : Bool) (b : Nat) (e : Env) (s' : St) : Prop :=
  ∃ (p : Nat) (pt : Bool) (a : Nat) (x : Int), PI s l neg b p pt a x e s' ∧ (p = 0 → bodyS neg (l.drop b) = (0, 0, 3)) ∧ (0 < p → bodyS neg (l.drop b) = match lettersS ((l.drop b).drop p) with
      | none => (0, 0, 3)
      | some v => finS neg a (x + v))
theorem parseD_ax (l : List Nat) (h : By l) (hl : l.length ≤ 1000000000) : PCall Tryz.prog 15 [.v (.string (bs l))] (parseV (parseS l)) := by
  refine pcall_of fun s => ?_
  rw [show idf (parseV (parseS l)) = true from rfl]
  have l1 := bs_size l
  by_cases q32 : 32 < l.length
  · rw [show parseS l = (0, 0, 3) by unfold parseS; rw [if_pos q32]]
    show ACall _ _ _ _ fun r' s' => r' = .tp [.ag [.v (.int .i64 0), .v (.int .i64 0)], .v (.int .i64 3)] ∧ _
    refine acall_of Tryz.func15 rfl rfl (by simp [Tryz.ntmps15]) ?_; rw [Tryz.ntmps15, Tryz.results15]
    refine go (cj rTI (cj @dl_idf (cj @dl_ln (cj @dl_one @l1)))) ?_
    refine ifs ?_ ?_ <;> first | exact nope | intro hb
    refine go (cj rTI (cj @dl_idf (cj @dl_ln @dl_one))) ?_
    exact fun i hi => by rw [if_neg (by omega)]
  · obtain ⟨neg, hneg⟩ : ∃ neg, neg = decide (l.head? = some 45) := ⟨_, rfl⟩
    obtain ⟨b, hb0⟩ : ∃ b : Nat, b = if neg then 1 else 0 := ⟨_, rfl⟩
    have hcut : cut1 l 45 = l.drop b := by
      unfold cut1
      by_cases q : l.head? = some 45
      · rw [if_pos q, hb0, hneg, decide_eq_true q]; cases l <;> rfl
      · rw [if_neg q, hb0, hneg, decide_eq_false q]; rfl
    rw [parse_cut l (by omega), hcut, ← hneg]
    have p10 := small_ax 10 (by omega) (by omega)
    have hbl : b ≤ 1 := by rw [hb0]; split <;> omega
    have hbn : neg = true → 0 < l.length := fun q => by
      rw [hneg] at q
      cases l with
      | nil => simp at q
      | cons c t => simp
    refine acall_of Tryz.func15 rfl rfl (by simp [Tryz.ntmps15]) ?_; rw [Tryz.ntmps15, Tryz.results15]
    refine go (cj rTI (cj @dl_idf (cj @dl_ln (cj @dl_one @l1)))) ?_
    refine ifs ?_ ?_ <;> first | exact nope | intro hb
    refine aw_skip ?_
    refine aw_seq ?_
    refine aw_reg fun K hK => ?_; refine rn (cj rTI (cj @dl_idf (cj @dl_ln @dl_one))) ?_; refine hK _ _ ?_; clear hK K
    refine aw_mid (fun e s' => e.n = 144 ∧ e.m 0 = .v (.string (bs l)) ∧ e.m 2 = .ptr s.nx 0 ∧ e.m 4 = .v (.int .i64 0) ∧ e.m 5 = .v (.bool neg) ∧ s' = s.push [.v (.int .i64 0), .v (.int .i64 0)]) ?_ ?_
    · have hg := bs_get l h 0
      have z0 : Int.toNat 0 = 0 := rfl
      cases l with
      | nil =>
        subst hneg
        have l1' : (bs []).size = 0 := l1
        refine aw_reg fun K hK => ?_; refine rn (cj rTI (cj @dl_idf (cj @dl_ln (cj @dl_one @l1')))) ?_; refine hK _ _ ?_; clear hK K
        (repeat' refine And.intro ?_ ?_) <;> first | exact rfl | exact fnz trivial | skip
      | cons c t =>
        have hc : c < 256 := h c (List.mem_cons_self ..)
        rw [List.getD_cons_zero] at hg
        rw [List.length_cons] at l1
        have e2 : decide ((c :: t).head? = some 45) = decide (c = 45) := by simp
        rw [e2] at hneg
        generalize bs (c :: t) = W at *
        clear e2
        by_cases q : c = 45
        · subst q
          subst hneg
          refine aw_reg fun K hK => ?_; refine rn (cj rTI (cj @dl_idf (cj @dl_ln (cj @dl_one (cj @l1 (cj @z0 @hg)))))) ?_; refine hK _ _ ?_; clear hK K
          (repeat' refine And.intro ?_ ?_) <;> first | exact rfl | exact fnz trivial | skip
        · rw [decide_eq_false q] at hneg
          subst hneg
          refine aw_reg fun K hK => ?_; refine rn (cj rTI (cj @dl_idf (cj @dl_ln (cj @dl_one (cj @l1 (cj @z0 @hg)))))) ?_; refine hK _ _ ?_; clear hK K
          (repeat' refine And.intro ?_ ?_) <;> first | exact rfl | exact fnz trivial | skip
    · rintro e s' ⟨h1, k0, k2, k4, k5, rfl⟩
      refine aw_mid (fun e s' => e.n = 144 ∧ e.m 0 = .v (.string (bs l)) ∧ e.m 2 = .ptr s.nx 0 ∧ e.m 4 = .v (.int .i64 (b : Int)) ∧ e.m 5 = .v (.bool neg) ∧ s' = s.push [.v (.int .i64 0), .v (.int .i64 0)]) ?_ ?_
      · cases neg
        · subst hb0
          refine go (cj rTI (cj @dl_idf (cj @dl_ln (cj @dl_one (cj @h1 (cj @k0 (cj @k2 (cj @k4 @k5)))))))) ?_
          refine ifs ?_ ?_ <;> first | exact nope | intro hb
          refine go (cj rTI (cj @dl_idf (cj @dl_ln (cj @dl_one (cj @h1 (cj @k0 (cj @k2 (cj @k4 @k5)))))))) ?_
          (repeat' refine And.intro ?_ ?_) <;> first | exact rfl | exact fnz (cj rTI (cj @dl_idf (cj @dl_ln (cj @dl_one (cj @h1 (cj @k0 (cj @k2 (cj @k4 @k5)))))))) | skip
        · subst hb0
          refine go (cj rTI (cj @dl_idf (cj @dl_ln (cj @dl_one (cj @h1 (cj @k0 (cj @k2 (cj @k4 @k5)))))))) ?_
          refine ifs ?_ ?_ <;> first | exact nope | intro hb
          refine go (cj rTI (cj @dl_idf (cj @dl_ln (cj @dl_one (cj @h1 (cj @k0 (cj @k2 (cj @k4 @k5)))))))) ?_
          (repeat' refine And.intro ?_ ?_) <;> first | exact rfl | exact fnz (cj rTI (cj @dl_idf (cj @dl_ln (cj @dl_one (cj @h1 (cj @k0 (cj @k2 (cj @k4 @k5)))))))) | skip
      · clear h1 k0 k2 k4 k5 e
        rintro e s' ⟨h1, k0, k2, k4, k5, rfl⟩
        have e10 := NI_eq 10
        rw [e10] at p10
        refine aw_seq ?_
        refine aw_reg fun K hK => ?_; refine rn (cj rTI (cj @dl_idf (cj @dl_ln (cj @dl_one (cj @h1 (cj @k0 (cj @k2 (cj @k4 @k5)))))))) ?_; refine hK _ _ ?_; clear hK K
        refine aw_seq ?_
        refine aw_reg fun K hK => ?_; refine rn (cj rTI (cj @dl_idf (cj @dl_ln (cj @dl_one (cj @h1 (cj @k0 (cj @k2 (cj @k4 @k5)))))))) ?_; refine hK _ _ ?_; clear hK K
        refine aw_seq ?_
        refine aw_reg fun K hK => ?_; refine rn (cj rTI (cj @dl_idf (cj @dl_ln (cj @dl_one (cj @h1 (cj @k0 (cj @k2 (cj @k4 @k5)))))))) ?_; refine cont_pure p10 ?_; refine rn (cj rTI (cj @dl_idf (cj @dl_ln (cj @dl_one (cj @h1 (cj @k0 (cj @k2 (cj @k4 @k5)))))))) ?_; refine hK _ _ ?_; clear hK K
        refine aw_seq ?_
        refine aw_reg fun K hK => ?_; refine rn (cj rTI (cj @dl_idf (cj @dl_ln (cj @dl_one (cj @h1 (cj @k0 (cj @k2 (cj @k4 @k5)))))))) ?_; refine hK _ _ ?_; clear hK K
        refine aw_seq ?_
        refine aw_reg fun K hK => ?_; refine rn (cj rTI (cj @dl_idf (cj @dl_ln (cj @dl_one (cj @h1 (cj @k0 (cj @k2 (cj @k4 @k5)))))))) ?_; refine hK _ _ ?_; clear hK K
        refine aw_seq ?_
        refine aw_boxle (s.nx + 1) 1 _ _ (.sl 0 []) (by refine rn (cj rTI (cj @dl_idf (cj @dl_ln @dl_one))) ?_; rfl) rfl (Le.nil 0 0 rfl) ?_
        refine Ax.aw_way (PE s l neg b) ?_ ?_
        · refine aw_block ?_
          refine aw_loop (fun n e s' => ∃ p pt a x, n = l.length - p ∧ PI s l neg b p pt a x e s') l.length ?_ ?_
          · refine ⟨0, false, 0, 0, by omega, ?_⟩
            constructor
            all_goals (first | exact at_zero _ | skip)
            all_goals ((repeat' refine And.intro ?_ ?_) <;> first | exact rfl | exact fnz (cj rTI (cj @dl_idf (cj @dl_ln (cj @dl_one (cj @h1 (cj @k0 (cj @k2 (cj @k4 (cj @k5 @Nat.add_zero))))))))) | skip)
            all_goals (rw [St.set_same]; simp [ng, lz, ln, DL, digs_zero])
          · clear h1 k0 k2 k4 k5 e
            rintro n e s' ⟨p, pt, a, x, hn, hI⟩
            have h1 := hI.en
            have k0 := hI.e0
            have k2 := hI.e2
            have k4 := hI.e4
            have k5 := hI.e5
            have k6 := hI.e6
            have k7 := hI.e7
            have k8 := hI.e8
            have k9 := hI.e9
            have k10 := hI.e10
            have g0 := hI.g0
            have g1 := hI.g1
            have g2 := hI.g2
            have hnx := hI.nx
            have hA := hI.at'
            obtain ⟨a1, a2, a3⟩ := at_le hA
            have a4 := at_lt hA
            have hld : (l.drop b).length = l.length - b := List.length_drop
            have hg := bs_get l h (b + p)
            have z3 : ((b + p : Nat) : Int) + 1 = ((b + (p + 1) : Nat) : Int) := by omega
            by_cases q : b + p < l.length
            · have hc : l.getD (b + p) 0 < 256 := by
                rw [List.getD_eq_getElem?_getD, List.getElem?_eq_getElem q]
                exact h _ (List.getElem_mem q)
              have hdg := isDigit_ax _ hc
              have hA2 := @at_dig (l.drop b) p pt a x hA (by omega)
              rw [getD_drop] at hA2
              by_cases q2 : isD (l.getD (b + p) 0) = true
              · obtain ⟨d1, d2⟩ := (isD_iff _).1 q2
                have hA3 := hA2 q2
                rw [q2] at hdg
                have a5 : a < 10 ^ 34 := Nat.lt_of_lt_of_le a4 (Nat.pow_le_pow_right (by decide) (by omega))
                clear a4 hA2 q2
                generalize l.getD (b + p) 0 = c at *
                have pt1 := timesN_ax a 10 (by have := lz_dec a a5; have : lz 10 ≤ 4 := lz_small 10 (by omega) (by omega); omega)
                have ps := small_ax ((c - 48 : Nat) : Int) (by omega) (by omega)
                have pp := plusN_ax ((a : Int) * 10) ((c - 48 : Nat) : Int) (by
                  have : lz ((a * 10 : Nat) : Int) ≤ 11 := (ln_lt _ 11).1 (by
                    rw [Int.natAbs_natCast]
                    exact Nat.lt_of_lt_of_le (show a * 10 < 10 ^ 35 by rw [Nat.pow_succ]; omega) (by decide))
                  have e : ((a * 10 : Nat) : Int) = (a : Int) * 10 := by omega
                  rw [e] at this
                  omega) (by have : lz ((c - 48 : Nat) : Int) ≤ 4 := lz_small _ (by omega) (by omega); omega)
                rw [show (a : Int) * 10 + ((c - 48 : Nat) : Int) = ((10 * a + (c - 48) : Nat) : Int) by omega] at pp
                simp only [NI_eq] at pt1 ps pp
                clear a5
                have z4 : (c : Int) - 48 = ((c - 48 : Nat) : Int) := by omega
                refine go (cj rTI (cj @dl_idf (cj @dl_ln (cj @dl_one (cj @h1 (cj @k0 (cj @k4 @l1))))))) ?_
                refine aw_reg fun K hK => ?_; refine rn (cj rTI (cj @dl_idf (cj @dl_ln (cj @dl_one (cj @h1 (cj @k0 (cj @k4 (cj @k6 (cj @k10 (cj @l1 @hg)))))))))) ?_; refine cont_pure hdg ?_; refine rn (cj rTI (cj @dl_idf (cj @dl_ln (cj @dl_one (cj @h1 (cj @k0 (cj @k4 (cj @k6 (cj @k10 (cj @l1 @hg)))))))))) ?_; refine hK _ _ ?_; clear hK K
                rw [then_normal]
                refine ifs ?_ ?_ <;> first | exact nope | intro hb
                refine go (cj rTI (cj @dl_idf (cj @dl_ln (cj @dl_one (cj @h1 (cj @k0 (cj @k4 (cj @l1 @hg)))))))) ?_
                refine ifs ?_ ?_ <;> first | exact nope | intro hb
                refine go trivial ?_
                refine aw_drwR (.take 0 (.take 1 (.take 3 (.take 4 (.take 5 (.take 6 (.take 7 (.one 2 (.one 8 (.one 9 (.done))))))))))) 10 [] [s.nx + 1, s.nx + 2] (by kernel_rfl) (by kernel_rfl) fun K hK => ?_; refine dt (cj rTI (cj @dl_idf (cj @dl_ln (cj @dl_one (cj @h1 (cj @k0 (cj @k4 (cj @k7 (cj @k8 (cj @l1 (cj @hg (cj @g1 (cj @g2 @z4))))))))))))) ?_; refine cont_pure pt1 ?_; refine dt (cj rTI (cj @dl_idf (cj @dl_ln (cj @dl_one (cj @h1 (cj @k0 (cj @k4 (cj @k7 (cj @k8 (cj @l1 (cj @hg (cj @g1 (cj @g2 @z4))))))))))))) ?_; refine cont_pure ps ?_; refine dt (cj rTI (cj @dl_idf (cj @dl_ln (cj @dl_one (cj @h1 (cj @k0 (cj @k4 (cj @k7 (cj @k8 (cj @l1 (cj @hg (cj @g1 (cj @g2 @z4))))))))))))) ?_; refine cont_pure pp ?_; refine dt (cj rTI (cj @dl_idf (cj @dl_ln (cj @dl_one (cj @h1 (cj @k0 (cj @k4 (cj @k7 (cj @k8 (cj @l1 (cj @hg (cj @g1 (cj @g2 @z4))))))))))))) ?_; refine hK _ _ ?_; clear hK K
                cases pt
                · simp only [Bool.false_eq_true, if_false] at hA3
                  refine go (cj rTI (cj @dl_idf (cj @dl_ln (cj @dl_one (cj @k9 @k10))))) ?_
                  refine ifs ?_ ?_ <;> first | exact nope | intro hb
                  refine go (cj rTI (cj @dl_idf (cj @dl_ln (cj @dl_one (cj @h1 (cj @k4 (cj @k9 (cj @k10 @z3)))))))) ?_
                  simp only [block_normal, loop_normal]
                  refine ⟨l.length - (p + 1), by omega, p + 1, false, 10 * a + (c - 48), x, rfl, ?_⟩
                  constructor
                  all_goals (first | exact hA3 | skip)
                  all_goals ((repeat' refine And.intro ?_ ?_) <;> first | exact rfl | exact fnz (cj rTI (cj @dl_idf (cj @dl_ln (cj @dl_one (cj @h1 (cj @k0 (cj @k2 (cj @k4 (cj @k5 (cj @k6 (cj @k7 (cj @k8 (cj @k9 (cj @k10 (cj @g0 (cj @g1 (cj @g2 (cj @hnx @z3)))))))))))))))))) | skip)
                  all_goals ((repeat' refine And.intro ?_ ?_) <;> first | exact rfl | (intro i hi; exact rn0 (cj rTI (cj @dl_idf (cj @dl_ln (cj @dl_one (hI.fr i hi)))))) | skip)
                · simp only [if_true] at hA3
                  refine go (cj rTI (cj @dl_idf (cj @dl_ln (cj @dl_one (cj @k9 @k10))))) ?_
                  refine ifs ?_ ?_ <;> first | exact nope | intro hb
                  refine go (cj rTI (cj @dl_idf (cj @dl_ln (cj @dl_one (cj @h1 (cj @k4 (cj @k9 (cj @k10 @z3)))))))) ?_
                  simp only [block_normal, loop_normal]
                  refine ⟨l.length - (p + 1), by omega, p + 1, true, 10 * a + (c - 48), x - 1, rfl, ?_⟩
                  constructor
                  all_goals (first | exact hA3 | skip)
                  all_goals ((repeat' refine And.intro ?_ ?_) <;> first | exact rfl | exact fnz (cj rTI (cj @dl_idf (cj @dl_ln (cj @dl_one (cj @h1 (cj @k0 (cj @k2 (cj @k4 (cj @k5 (cj @k6 (cj @k7 (cj @k8 (cj @k9 (cj @k10 (cj @g0 (cj @g1 (cj @g2 (cj @hnx @z3)))))))))))))))))) | skip)
                  all_goals ((repeat' refine And.intro ?_ ?_) <;> first | exact rfl | (intro i hi; exact rn0 (cj rTI (cj @dl_idf (cj @dl_ln (cj @dl_one (hI.fr i hi)))))) | skip)
              · have q3 : isD (l.getD (b + p) 0) = false := by simpa using q2
                rw [q3] at hdg
                clear hA2 q2 a4
                have hB := @at_bad (l.drop b) p a x neg
                have hD := @at_dot (l.drop b) p a x
                have hE := @at_end (l.drop b) p a x pt neg hA
                have hN := @at_none (l.drop b) a x pt neg
                simp only [getD_drop] at hB hD hE hN
                have hq : l.getD (b + p) 0 = 46 ∧ pt = false ∧ 0 < p ∨ ¬ (l.getD (b + p) 0 = 46 ∧ pt = false ∧ 0 < p) := Decidable.em _
                rcases hq with ⟨c46, rfl, hp⟩ | hq
                · rw [c46] at hg hdg
                  have hb46 := fun hh => hB hA (by omega) c46 hp hh
                  have hd46 := fun h1 h2 => hD hA (by omega) c46 hp h1 h2
                  have hg2 := bs_get l h (b + (p + 1))
                  by_cases q5 : b + (p + 1) < l.length
                  · have hc2 : l.getD (b + (p + 1)) 0 < 256 := by
                      rw [List.getD_eq_getElem?_getD, List.getElem?_eq_getElem q5]
                      exact h _ (List.getElem_mem q5)
                    have hdg2 := isDigit_ax _ hc2
                    by_cases q6 : isD (l.getD (b + (p + 1)) 0) = true
                    · rw [q6] at hdg2
                      have hA4 := hd46 (by omega) q6
                      clear hb46 hd46 hB hD hE hN
                      generalize l.getD (b + (p + 1)) 0 = c2 at *
                      refine go (cj rTI (cj @dl_idf (cj @dl_ln (cj @dl_one (cj @h1 (cj @k0 (cj @k4 @l1))))))) ?_
                      refine aw_reg fun K hK => ?_; refine rn (cj rTI (cj @dl_idf (cj @dl_ln (cj @dl_one (cj @h1 (cj @k0 (cj @k4 (cj @k6 (cj @k10 (cj @l1 @hg)))))))))) ?_; refine cont_pure hdg ?_; refine rn (cj rTI (cj @dl_idf (cj @dl_ln (cj @dl_one (cj @h1 (cj @k0 (cj @k4 (cj @k6 (cj @k10 (cj @l1 @hg)))))))))) ?_; refine hK _ _ ?_; clear hK K
                      rw [then_normal]
                      refine ifs ?_ ?_ <;> first | exact nope | intro hb
                      refine go (cj rTI (cj @dl_idf (cj @dl_ln (cj @dl_one (cj @h1 (cj @k0 (cj @k4 @l1))))))) ?_
                      refine ifs ?_ ?_ <;> first | exact nope | intro hb
                      refine go trivial ?_
                      refine aw_reg fun K hK => ?_; refine rn (cj rTI (cj @dl_idf (cj @dl_ln (cj @dl_one (cj @h1 (cj @k0 (cj @k4 (cj @l1 (cj @z3 @hg2))))))))) ?_; refine cont_pure hdg2 ?_; refine rn (cj rTI (cj @dl_idf (cj @dl_ln (cj @dl_one (cj @h1 (cj @k0 (cj @k4 (cj @l1 (cj @z3 @hg2))))))))) ?_; refine hK _ _ ?_; clear hK K
                      rw [then_normal]
                      refine ifs ?_ ?_ <;> first | exact nope | intro hb
                      refine go (cj rTI (cj @dl_idf (cj @dl_ln (cj @dl_one (cj @h1 (cj @k4 @z3)))))) ?_
                      simp only [block_normal, loop_normal]
                      refine ⟨l.length - (p + 1), by omega, p + 1, true, a, x, rfl, ?_⟩
                      constructor
                      all_goals (first | exact hA4 | exact g0 | exact g1 | exact g2 | exact hnx | exact hI.fr | skip)
                      all_goals ((repeat' refine And.intro ?_ ?_) <;> first | exact rfl | exact fnz (cj rTI (cj @dl_idf (cj @dl_ln (cj @dl_one (cj @h1 (cj @k0 (cj @k2 (cj @k4 (cj @k5 (cj @k6 (cj @k7 (cj @k8 (cj @k9 (cj @k10 @z3)))))))))))))) | skip)
                    · have q7 : isD (l.getD (b + (p + 1)) 0) = false := by simpa using q6
                      rw [q7] at hdg2
                      rw [hb46 fun _ => q7, show parseV (0, 0, 3) = .tp [.ag [.v (.int .i64 0), .v (.int .i64 0)], .v (.int .i64 3)] from rfl]
                      clear hb46 hd46 hB hD hE hN
                      generalize l.getD (b + (p + 1)) 0 = c2 at *
                      refine go (cj rTI (cj @dl_idf (cj @dl_ln (cj @dl_one (cj @h1 (cj @k0 (cj @k4 @l1))))))) ?_
                      refine aw_reg fun K hK => ?_; refine rn (cj rTI (cj @dl_idf (cj @dl_ln (cj @dl_one (cj @h1 (cj @k0 (cj @k4 (cj @k6 (cj @k10 (cj @l1 @hg)))))))))) ?_; refine cont_pure hdg ?_; refine rn (cj rTI (cj @dl_idf (cj @dl_ln (cj @dl_one (cj @h1 (cj @k0 (cj @k4 (cj @k6 (cj @k10 (cj @l1 @hg)))))))))) ?_; refine hK _ _ ?_; clear hK K
                      rw [then_normal]
                      refine ifs ?_ ?_ <;> first | exact nope | intro hb
                      refine go (cj rTI (cj @dl_idf (cj @dl_ln (cj @dl_one (cj @h1 (cj @k0 (cj @k4 @l1))))))) ?_
                      refine ifs ?_ ?_ <;> first | exact nope | intro hb
                      refine go trivial ?_
                      refine aw_reg fun K hK => ?_; refine rn (cj rTI (cj @dl_idf (cj @dl_ln (cj @dl_one (cj @h1 (cj @k0 (cj @k4 (cj @l1 (cj @z3 @hg2))))))))) ?_; refine cont_pure hdg2 ?_; refine rn (cj rTI (cj @dl_idf (cj @dl_ln (cj @dl_one (cj @h1 (cj @k0 (cj @k4 (cj @l1 (cj @z3 @hg2))))))))) ?_; refine hK _ _ ?_; clear hK K
                      rw [then_normal]
                      refine ifs ?_ ?_ <;> first | exact nope | intro hb
                      refine go (cj rTI (cj @dl_idf (cj @dl_ln (cj @dl_one (cj @h1 (cj @k2 @g0)))))) ?_
                      exact .inr fun i hi => by rw [if_neg (by omega)]; exact hI.fr i hi
                  · rw [hb46 fun hh => absurd hh (by omega), show parseV (0, 0, 3) = .tp [.ag [.v (.int .i64 0), .v (.int .i64 0)], .v (.int .i64 3)] from rfl]
                    clear hb46 hd46 hB hD hE hN
                    refine go (cj rTI (cj @dl_idf (cj @dl_ln (cj @dl_one (cj @h1 (cj @k0 (cj @k4 @l1))))))) ?_
                    refine aw_reg fun K hK => ?_; refine rn (cj rTI (cj @dl_idf (cj @dl_ln (cj @dl_one (cj @h1 (cj @k0 (cj @k4 (cj @k6 (cj @k10 (cj @l1 @hg)))))))))) ?_; refine cont_pure hdg ?_; refine rn (cj rTI (cj @dl_idf (cj @dl_ln (cj @dl_one (cj @h1 (cj @k0 (cj @k4 (cj @k6 (cj @k10 (cj @l1 @hg)))))))))) ?_; refine hK _ _ ?_; clear hK K
                    rw [then_normal]
                    refine ifs ?_ ?_ <;> first | exact nope | intro hb
                    refine go (cj rTI (cj @dl_idf (cj @dl_ln (cj @dl_one (cj @h1 (cj @k0 (cj @k4 @l1))))))) ?_
                    refine ifs ?_ ?_ <;> first | exact nope | intro hb
                    refine go (cj rTI (cj @dl_idf (cj @dl_ln (cj @dl_one (cj @h1 (cj @k0 (cj @k4 (cj @l1 @z3)))))))) ?_
                    refine ifs ?_ ?_ <;> first | exact nope | intro hb
                    refine go (cj rTI (cj @dl_idf (cj @dl_ln (cj @dl_one (cj @h1 (cj @k2 @g0)))))) ?_
                    exact .inr fun i hi => by rw [if_neg (by omega)]; exact hI.fr i hi
                · by_cases c46 : l.getD (b + p) 0 = 46
                  · rw [c46] at hg hdg
                    cases pt
                    · obtain rfl : p = 0 := by
                        rcases Nat.eq_zero_or_pos p with q | q
                        · exact q
                        · exact absurd ⟨c46, rfl, q⟩ hq
                      refine go (cj rTI (cj @dl_idf (cj @dl_ln (cj @dl_one (cj @h1 (cj @k0 (cj @k4 @l1))))))) ?_
                      refine aw_reg fun K hK => ?_; refine rn (cj rTI (cj @dl_idf (cj @dl_ln (cj @dl_one (cj @h1 (cj @k0 (cj @k4 (cj @k6 (cj @k10 (cj @l1 @hg)))))))))) ?_; refine cont_pure hdg ?_; refine rn (cj rTI (cj @dl_idf (cj @dl_ln (cj @dl_one (cj @h1 (cj @k0 (cj @k4 (cj @k6 (cj @k10 (cj @l1 @hg)))))))))) ?_; refine hK _ _ ?_; clear hK K
                      rw [then_normal]
                      refine ifs ?_ ?_ <;> first | exact nope | intro hb
                      refine go (cj rTI (cj @dl_idf (cj @dl_ln (cj @dl_one (cj @h1 (cj @k0 (cj @k4 @l1))))))) ?_
                      refine .inl ⟨0, false, a, x, ?_, fun hp => ?_, fun hp => ?_⟩
                      · constructor
                        all_goals (first | exact hA | exact g0 | exact g1 | exact g2 | exact hnx | exact hI.fr | skip)
                        all_goals ((repeat' refine And.intro ?_ ?_) <;> first | exact rfl | exact fnz (cj rTI (cj @dl_idf (cj @dl_ln (cj @dl_one (cj @h1 (cj @k0 (cj @k2 (cj @k4 (cj @k5 (cj @k6 (cj @k7 (cj @k8 (cj @k9 @k10))))))))))))) | skip)
                      · skip
                        exact hN hA (fun _ => q3)
                      · exact hE hp fun _ => ⟨q3, fun hh => hq ⟨hh.1, hh.2, hp⟩⟩
                    · skip
                      refine go (cj rTI (cj @dl_idf (cj @dl_ln (cj @dl_one (cj @h1 (cj @k0 (cj @k4 @l1))))))) ?_
                      refine aw_reg fun K hK => ?_; refine rn (cj rTI (cj @dl_idf (cj @dl_ln (cj @dl_one (cj @h1 (cj @k0 (cj @k4 (cj @k6 (cj @k10 (cj @l1 @hg)))))))))) ?_; refine cont_pure hdg ?_; refine rn (cj rTI (cj @dl_idf (cj @dl_ln (cj @dl_one (cj @h1 (cj @k0 (cj @k4 (cj @k6 (cj @k10 (cj @l1 @hg)))))))))) ?_; refine hK _ _ ?_; clear hK K
                      rw [then_normal]
                      refine ifs ?_ ?_ <;> first | exact nope | intro hb
                      refine go (cj rTI (cj @dl_idf (cj @dl_ln (cj @dl_one (cj @h1 (cj @k0 (cj @k4 @l1))))))) ?_
                      refine .inl ⟨p, true, a, x, ?_, fun hp => ?_, fun hp => ?_⟩
                      · constructor
                        all_goals (first | exact hA | exact g0 | exact g1 | exact g2 | exact hnx | exact hI.fr | skip)
                        all_goals ((repeat' refine And.intro ?_ ?_) <;> first | exact rfl | exact fnz (cj rTI (cj @dl_idf (cj @dl_ln (cj @dl_one (cj @h1 (cj @k0 (cj @k2 (cj @k4 (cj @k5 (cj @k6 (cj @k7 (cj @k8 (cj @k9 @k10))))))))))))) | skip)
                      · subst hp
                        exact hN hA (fun _ => q3)
                      · exact hE hp fun _ => ⟨q3, fun hh => hq ⟨hh.1, hh.2, hp⟩⟩
                  · have hne := c46
                    clear c46
                    have hcc : l.getD (b + p) 0 < 256 := hc
                    generalize hcd : l.getD (b + p) 0 = c at *
                    refine go (cj rTI (cj @dl_idf (cj @dl_ln (cj @dl_one (cj @h1 (cj @k0 (cj @k4 @l1))))))) ?_
                    refine aw_reg fun K hK => ?_; refine rn (cj rTI (cj @dl_idf (cj @dl_ln (cj @dl_one (cj @h1 (cj @k0 (cj @k4 (cj @k6 (cj @k10 (cj @l1 @hg)))))))))) ?_; refine cont_pure hdg ?_; refine rn (cj rTI (cj @dl_idf (cj @dl_ln (cj @dl_one (cj @h1 (cj @k0 (cj @k4 (cj @k6 (cj @k10 (cj @l1 @hg)))))))))) ?_; refine hK _ _ ?_; clear hK K
                    rw [then_normal]
                    refine ifs ?_ ?_ <;> first | exact nope | intro hb
                    refine go (cj rTI (cj @dl_idf (cj @dl_ln (cj @dl_one (cj @h1 (cj @k0 (cj @k4 @l1))))))) ?_
                    refine .inl ⟨p, pt, a, x, ?_, fun hp => ?_, fun hp => ?_⟩
                    · constructor
                      all_goals (first | exact hA | exact g0 | exact g1 | exact g2 | exact hnx | exact hI.fr | skip)
                      all_goals ((repeat' refine And.intro ?_ ?_) <;> first | exact rfl | exact fnz (cj rTI (cj @dl_idf (cj @dl_ln (cj @dl_one (cj @h1 (cj @k0 (cj @k2 (cj @k4 (cj @k5 (cj @k6 (cj @k7 (cj @k8 (cj @k9 @k10))))))))))))) | skip)
                    · subst hp
                      exact hN hA (fun _ => by rw [hcd]; exact q3)
                    · exact hE hp fun _ => ⟨q3, fun hh => hq ⟨hh.1, hh.2, hp⟩⟩
            · refine go (cj rTI (cj @dl_idf (cj @dl_ln (cj @dl_one (cj @h1 (cj @k0 (cj @k4 @l1))))))) ?_
              refine ifs ?_ ?_ <;> first | exact nope | intro hb
              refine go (cj rTI (cj @dl_idf (cj @dl_ln (cj @dl_one (cj @h1 (cj @k0 (cj @k4 @l1))))))) ?_
              refine .inl ⟨p, pt, a, x, ?_, fun hp => ?_, fun hp => ?_⟩
              · constructor
                all_goals (first | exact hA | exact g0 | exact g1 | exact g2 | exact hnx | exact hI.fr | skip)
                all_goals ((repeat' refine And.intro ?_ ?_) <;> first | exact rfl | exact fnz (cj rTI (cj @dl_idf (cj @dl_ln (cj @dl_one (cj @h1 (cj @k0 (cj @k2 (cj @k4 (cj @k5 (cj @k6 (cj @k7 (cj @k8 (cj @k9 @k10))))))))))))) | skip)
              · subst hp
                exact at_none neg hA (fun hh => by omega)
              · exact at_end neg hA hp (fun hh => by omega)
        · clear h1 k0 k2 k4 k5 e
          rintro e s' ⟨p, pt, a, x, hI, f0, f1⟩
          have h1 := hI.en
          have k0 := hI.e0
          have k2 := hI.e2
          have k4 := hI.e4
          have k5 := hI.e5
          have k6 := hI.e6
          have k7 := hI.e7
          have k8 := hI.e8
          have k9 := hI.e9
          have g0 := hI.g0
          have g1 := hI.g1
          have g2 := hI.g2
          have hnx := hI.nx
          obtain ⟨a1, a2, a3⟩ := at_le hI.at'
          have a4 := at_lt hI.at'
          have hld : (l.drop b).length = l.length - b := List.length_drop
          have hxb : -32 ≤ x ∧ x ≤ 0 := by omega
          rw [List.drop_drop] at f1
          by_cases hp : p = 0
          · rw [f0 hp, show parseV (0, 0, 3) = .tp [.ag [.v (.int .i64 0), .v (.int .i64 0)], .v (.int .i64 3)] from rfl]
            refine go (cj rTI (cj @dl_idf (cj @dl_ln (cj @dl_one (cj @h1 (cj @k4 @k6)))))) ?_
            refine ifs ?_ ?_ <;> first | exact nope | intro hb
            refine go (cj rTI (cj @dl_idf (cj @dl_ln (cj @dl_one (cj @h1 (cj @k2 @g0)))))) ?_
            exact fun i hi => by rw [if_neg (by omega)]; exact hI.fr i hi
          · rw [f1 (by omega)]
            clear f0 f1
            have hb2 : By (l.drop (b + p)) := by_sub h fun c hc => List.mem_of_mem_drop hc
            have ht := tail_ax (l.drop (b + p)) hb2 (by rw [List.length_drop]; omega)
            have hsl := slice_from l (b + p) l.length rfl
            have tz : (((b + p : Nat) : Int)).toNat = b + p := rfl
            cases hv : lettersS (l.drop (b + p)) with
            | none =>
              rw [hv, show tailV none = .tp [.v (.int .i64 0), .v (.bool false)] from rfl] at ht
              show AW _ _ _ _ _ _
              rw [show parseV (0, 0, 3) = .tp [.ag [.v (.int .i64 0), .v (.int .i64 0)], .v (.int .i64 3)] from rfl]
              refine go (cj rTI (cj @dl_idf (cj @dl_ln (cj @dl_one (cj @h1 (cj @k4 @k6)))))) ?_
              refine ifs ?_ ?_ <;> first | exact nope | intro hb
              refine go trivial ?_
              refine aw_reg fun K hK => ?_; refine rn (cj rTI (cj @dl_idf (cj @dl_ln (cj @dl_one (cj @h1 (cj @k0 (cj @k4 (cj @l1 (cj @hsl @tz))))))))) ?_; refine cont_pure ht ?_; refine rn (cj rTI (cj @dl_idf (cj @dl_ln (cj @dl_one (cj @h1 (cj @k0 (cj @k4 (cj @l1 (cj @hsl @tz))))))))) ?_; refine hK _ _ ?_; clear hK K
              rw [then_normal]
              refine go trivial ?_
              refine ifs ?_ ?_ <;> first | exact nope | intro hb
              refine go (cj rTI (cj @dl_idf (cj @dl_ln (cj @dl_one (cj @h1 (cj @k2 @g0)))))) ?_
              exact fun i hi => by rw [if_neg (by omega)]; exact hI.fr i hi
            | some v =>
              obtain ⟨v1, v2⟩ := letters_bound _ _ hv
              rw [hv, show tailV (some v) = .tp [.v (.int .i64 v), .v (.bool true)] from rfl] at ht
              have hsg := sign_ax (a : Int)
              rw [NI_eq] at hsg
              simp only
              by_cases ha : a = 0
              · subst ha
                rw [show sgn ((0 : Nat) : Int) = 0 from rfl] at hsg
                rw [show finS neg 0 (x + v) = (0, 0, 0) by unfold finS; rw [if_pos rfl], show parseV (0, 0, 0) = .tp [.ag [.v (.int .i64 0), .v (.int .i64 0)], .v (.int .i64 0)] from rfl]
                refine go (cj rTI (cj @dl_idf (cj @dl_ln (cj @dl_one (cj @h1 (cj @k4 @k6)))))) ?_
                refine ifs ?_ ?_ <;> first | exact nope | intro hb
                refine go trivial ?_
                refine aw_reg fun K hK => ?_; refine rn (cj rTI (cj @dl_idf (cj @dl_ln (cj @dl_one (cj @h1 (cj @k0 (cj @k4 (cj @l1 (cj @hsl @tz))))))))) ?_; refine cont_pure ht ?_; refine rn (cj rTI (cj @dl_idf (cj @dl_ln (cj @dl_one (cj @h1 (cj @k0 (cj @k4 (cj @l1 (cj @hsl @tz))))))))) ?_; refine hK _ _ ?_; clear hK K
                rw [then_normal]
                refine go trivial ?_
                refine ifs ?_ ?_ <;> first | exact nope | intro hb
                refine go trivial ?_
                refine aw_reg fun K hK => ?_; refine rn (cj rTI (cj @dl_idf (cj @dl_ln (cj @dl_one (cj @h1 (cj @k7 @g1)))))) ?_; refine cont_pure hsg ?_; refine rn (cj rTI (cj @dl_idf (cj @dl_ln (cj @dl_one (cj @h1 (cj @k7 @g1)))))) ?_; refine hK _ _ ?_; clear hK K
                rw [then_normal]
                refine ifs ?_ ?_ <;> first | exact nope | intro hb
                refine go (cj rTI (cj @dl_idf (cj @dl_ln (cj @dl_one (cj @h1 (cj @k2 @g0)))))) ?_
                exact fun i hi => by rw [if_neg (by omega)]; exact hI.fr i hi
              · rw [show sgn (a : Int) = 1 by unfold sgn; rw [if_neg (by omega), if_neg (by omega)]] at hsg
                have a5 : a < 10 ^ 34 := Nat.lt_of_lt_of_le a4 (Nat.pow_le_pow_right (by decide) (by omega))
                refine go (cj rTI (cj @dl_idf (cj @dl_ln (cj @dl_one (cj @h1 (cj @k4 @k6)))))) ?_
                refine ifs ?_ ?_ <;> first | exact nope | intro hb
                refine go trivial ?_
                refine aw_reg fun K hK => ?_; refine rn (cj rTI (cj @dl_idf (cj @dl_ln (cj @dl_one (cj @h1 (cj @k0 (cj @k4 (cj @l1 (cj @hsl @tz))))))))) ?_; refine cont_pure ht ?_; refine rn (cj rTI (cj @dl_idf (cj @dl_ln (cj @dl_one (cj @h1 (cj @k0 (cj @k4 (cj @l1 (cj @hsl @tz))))))))) ?_; refine hK _ _ ?_; clear hK K
                rw [then_normal]
                refine go trivial ?_
                refine ifs ?_ ?_ <;> first | exact nope | intro hb
                refine go trivial ?_
                refine aw_reg fun K hK => ?_; refine rn (cj rTI (cj @dl_idf (cj @dl_ln (cj @dl_one (cj @h1 (cj @k7 @g1)))))) ?_; refine cont_pure hsg ?_; refine rn (cj rTI (cj @dl_idf (cj @dl_ln (cj @dl_one (cj @h1 (cj @k7 @g1)))))) ?_; refine hK _ _ ?_; clear hK K
                rw [then_normal]
                refine ifs ?_ ?_ <;> first | exact nope | intro hb
                refine aw_skip ?_
                refine aw_seq ?_
                refine aw_reg fun K hK => ?_; refine rn (cj rTI (cj @dl_idf (cj @dl_ln (cj @dl_one (cj @h1 @k9))))) ?_; refine hK _ _ ?_; clear hK K
                refine aw_seq ?_
                refine aw_only (fun e s' => ∃ (m : Nat) (y : Int), StI s neg a m y x v e s' ∧ m % 10 ≠ 0) ?_ ?_
                · refine aw_block ?_
                  refine aw_loop (fun n e s' => ∃ (m : Nat) (y : Int), n = m ∧ StI s neg a m y x v e s') a ?_ ?_
                  · refine ⟨a, x + v, rfl, ?_⟩
                    constructor
                    all_goals (first | exact g0 | exact g1 | exact g2 | exact hI.fr | exact ⟨0, by omega, by omega⟩ | omega | skip)
                    all_goals ((repeat' refine And.intro ?_ ?_) <;> first | exact rfl | exact fnz (cj rTI (cj @dl_idf (cj @dl_ln (cj @dl_one (cj @h1 (cj @k0 (cj @k2 (cj @k4 (cj @k5 (cj @k6 (cj @k7 (cj @k8 @k9)))))))))))) | skip)
                  · clear h1 k0 k2 k4 k5 k6 k7 k8 k9 g0 g1 g2 hI hnx hsg ht hsl tz a1 a2 a3 a4 e s'
                    rintro n e s' ⟨m, y, hnm, hI⟩
                    have h1 := hI.en
                    have k2 := hI.e2
                    have k5 := hI.e5
                    have k7 := hI.e7
                    have k8 := hI.e8
                    have k9 := hI.e9
                    have g0 := hI.g0
                    have g1 := hI.g1
                    have g2 := hI.g2
                    have hnx := hI.nx
                    have hm := hI.hm
                    obtain ⟨k, hk1, hk2⟩ := hI.hk
                    have hk3 := ten_le m k a hm hk1 a5
                    have hma : m < 10 ^ 34 := Nat.lt_of_le_of_lt (by rw [← hk1]; exact Nat.le_mul_of_pos_right _ (Nat.pow_pos (by decide))) a5
                    have hdv := divideN_ax m 10 (by omega) (by have := lz_dec m hma; omega) (by have : lz 10 ≤ 4 := lz_small 10 (by omega) (by omega); omega)
                    have hsg := sign_ax ((m : Int).tmod 10)
                    rw [show (m : Int).tdiv 10 = ((m / 10 : Nat) : Int) from rfl, show (m : Int).tmod 10 = ((m % 10 : Nat) : Int) from rfl] at hdv
                    rw [show (m : Int).tmod 10 = ((m % 10 : Nat) : Int) from rfl] at hsg
                    simp only [NI_eq] at hdv hsg
                    have hnext : m % 10 = 0 → ∃ k' : Nat, m / 10 * 10 ^ k' = a ∧ y + 1 = x + v + k' := fun q => ⟨k + 1, by
                      rw [← hk1, Nat.pow_succ, Nat.mul_comm (10 ^ k) 10, ← Nat.mul_assoc, Nat.div_mul_cancel (Nat.dvd_of_mod_eq_zero q)], by omega⟩
                    clear hma a5 hk1
                    by_cases q : m % 10 = 0
                    · rw [q] at hdv hsg
                      rw [show sgn ((0 : Nat) : Int) = 0 from rfl] at hsg
                      have hn2 := hnext q
                      clear hnext
                      refine go trivial ?_
                      refine aw_reg fun K hK => ?_; refine rn (cj rTI (cj @dl_idf (cj @dl_ln (cj @dl_one (cj @h1 (cj @k7 (cj @k8 (cj @g1 (cj @g2 @hnx))))))))) ?_; refine cont_pure hdv ?_; refine rn (cj rTI (cj @dl_idf (cj @dl_ln (cj @dl_one (cj @h1 (cj @k7 (cj @k8 (cj @g1 (cj @g2 @hnx))))))))) ?_; refine hK _ _ ?_; clear hK K
                      rw [then_normal]
                      refine go trivial ?_
                      refine aw_reg fun K hK => ?_; refine rn (cj rTI (cj @dl_idf (cj @dl_ln (cj @dl_one (cj @h1 @hnx))))) ?_; refine cont_pure hsg ?_; refine rn (cj rTI (cj @dl_idf (cj @dl_ln (cj @dl_one (cj @h1 @hnx))))) ?_; refine hK _ _ ?_; clear hK K
                      rw [then_normal]
                      refine ifs ?_ ?_ <;> first | exact nope | intro hb
                      refine go (cj rTI (cj @dl_idf (cj @dl_ln (cj @dl_one (cj @h1 (cj @k7 (cj @k9 (cj @g1 @hnx)))))))) ?_
                      simp only [block_normal, loop_normal]
                      refine ⟨m / 10, by omega, m / 10, y + 1, rfl, ?_⟩
                      constructor
                      all_goals (first | exact hn2 | (show s.nx + 3 ≤ s'.nx + 2; omega) | omega | skip)
                      all_goals ((repeat' refine And.intro ?_ ?_) <;> first | exact rfl | exact fnz (cj rTI (cj @dl_idf (cj @dl_ln (cj @dl_one (cj @h1 (cj @k2 (cj @k5 (cj @k7 (cj @k8 (cj @k9 (cj @g0 (cj @g1 (cj @g2 @hnx))))))))))))) | skip)
                      all_goals ((repeat' refine And.intro ?_ ?_) <;> first | exact rfl | (intro i hi; exact rn0 (cj rTI (cj @dl_idf (cj @dl_ln (cj @dl_one (hI.fr i hi)))))) | skip)
                    · rw [show sgn ((m % 10 : Nat) : Int) = 1 by unfold sgn; rw [if_neg (by omega), if_neg (by omega)]] at hsg
                      clear hnext
                      refine go trivial ?_
                      refine aw_reg fun K hK => ?_; refine rn (cj rTI (cj @dl_idf (cj @dl_ln (cj @dl_one (cj @h1 (cj @k7 (cj @k8 (cj @g1 (cj @g2 @hnx))))))))) ?_; refine cont_pure hdv ?_; refine rn (cj rTI (cj @dl_idf (cj @dl_ln (cj @dl_one (cj @h1 (cj @k7 (cj @k8 (cj @g1 (cj @g2 @hnx))))))))) ?_; refine hK _ _ ?_; clear hK K
                      rw [then_normal]
                      refine go trivial ?_
                      refine aw_reg fun K hK => ?_; refine rn (cj rTI (cj @dl_idf (cj @dl_ln (cj @dl_one (cj @h1 @hnx))))) ?_; refine cont_pure hsg ?_; refine rn (cj rTI (cj @dl_idf (cj @dl_ln (cj @dl_one (cj @h1 @hnx))))) ?_; refine hK _ _ ?_; clear hK K
                      rw [then_normal]
                      refine ifs ?_ ?_ <;> first | exact nope | intro hb
                      refine go (cj rTI (cj @dl_idf (cj @dl_ln (cj @dl_one (cj @h1 (cj @k7 (cj @k9 (cj @g1 @hnx)))))))) ?_
                      refine ⟨m, y, ?_, q⟩
                      constructor
                      all_goals (first | exact hI.hk | (show s.nx + 3 ≤ s'.nx + 2; omega) | omega | skip)
                      all_goals ((repeat' refine And.intro ?_ ?_) <;> first | exact rfl | exact fnz (cj rTI (cj @dl_idf (cj @dl_ln (cj @dl_one (cj @h1 (cj @k2 (cj @k5 (cj @k7 (cj @k8 (cj @k9 (cj @g0 (cj @g1 (cj @g2 @hnx))))))))))))) | skip)
                      all_goals ((repeat' refine And.intro ?_ ?_) <;> first | exact rfl | (intro i hi; exact rn0 (cj rTI (cj @dl_idf (cj @dl_ln (cj @dl_one (hI.fr i hi)))))) | skip)
                · clear h1 k0 k2 k4 k5 k6 k7 k8 k9 g0 g1 g2 hI hnx hsg ht hsl tz a1 a2 a3 a4 e s'
                  rintro e s' ⟨m, y, hI, hm10⟩
                  have h1 := hI.en
                  have k2 := hI.e2
                  have k5 := hI.e5
                  have k7 := hI.e7
                  have k9 := hI.e9
                  have g0 := hI.g0
                  have g1 := hI.g1
                  have hnx := hI.nx
                  have hm := hI.hm
                  obtain ⟨k, hk1, hk2⟩ := hI.hk
                  have hk3 := ten_le m k a hm hk1 a5
                  have hma : m < 10 ^ 34 := Nat.lt_of_le_of_lt (by rw [← hk1]; exact Nat.le_mul_of_pos_right _ (Nat.pow_pos (by decide))) a5
                  have hst : strip a (x + v) = strip m y := by rw [← hk1, strip_pow m hm, hk2]
                  have hfin := fin_strip neg a m (x + v) y (by omega) hm10 hst
                  have hvl := RefM.valid_ax (if neg then -(m : Int) else m) y
                  rw [valid_strip neg m y hm10] at hvl
                  have hwh := whole_ax m (by have := lz_dec m hma; omega)
                  rw [hfin]
                  rw [NI_eq] at hwh
                  clear hma a5 hk1 hst hfin
                  by_cases hf : fits (m : Int)
                  · rw [if_pos hf] at hwh
                    have hf2 : (m : Int) ≤ 9223372036854775807 := hf.2
                    clear hf
                    cases neg
                    · simp only [Bool.false_eq_true, if_false] at hvl ⊢
                      by_cases hz : m ≤ 999999999 ∧ -18 ≤ y ∧ y ≤ 9
                      · rw [decide_eq_true hz] at hvl
                        rw [if_pos hz, show parseV ((m : Int), y, 0) = .tp [.ag [.v (.int .i64 ((m : Int))), .v (.int .i64 y)], .v (.int .i64 0)] from rfl]
                        unfold RefM.NM at hvl
                        clear hz
                        refine go trivial ?_
                        refine aw_reg fun K hK => ?_; refine rn (cj rTI (cj @dl_idf (cj @dl_ln (cj @dl_one (cj @h1 (cj @k7 @g1)))))) ?_; refine cont_pure hwh ?_; refine rn (cj rTI (cj @dl_idf (cj @dl_ln (cj @dl_one (cj @h1 (cj @k7 @g1)))))) ?_; refine hK _ _ ?_; clear hK K
                        rw [then_normal]
                        refine go (cj rTI (cj @dl_idf (cj @dl_ln (cj @dl_one (cj @h1 @k5))))) ?_
                        refine ifs ?_ ?_ <;> first | exact nope | intro hb
                        refine go (cj rTI (cj @dl_idf (cj @dl_ln (cj @dl_one (cj @h1 @k9))))) ?_
                        refine aw_reg fun K hK => ?_; refine rn (cj rTI (cj @dl_idf (cj @dl_ln (cj @dl_one @h1)))) ?_; refine cont_pure hvl ?_; refine rn (cj rTI (cj @dl_idf (cj @dl_ln (cj @dl_one @h1)))) ?_; refine hK _ _ ?_; clear hK K
                        rw [then_normal]
                        refine ifs ?_ ?_ <;> first | exact nope | intro hb
                        refine go (cj rTI (cj @dl_idf (cj @dl_ln (cj @dl_one (cj @h1 (cj @k2 @g0)))))) ?_
                        exact fun i hi => by (repeat rw [if_neg (by omega)]); exact hI.fr i hi
                      · rw [decide_eq_false hz] at hvl
                        rw [if_neg hz, show parseV (0, 0, 30) = .tp [.ag [.v (.int .i64 0), .v (.int .i64 0)], .v (.int .i64 30)] from rfl]
                        unfold RefM.NM at hvl
                        clear hz
                        refine go trivial ?_
                        refine aw_reg fun K hK => ?_; refine rn (cj rTI (cj @dl_idf (cj @dl_ln (cj @dl_one (cj @h1 (cj @k7 @g1)))))) ?_; refine cont_pure hwh ?_; refine rn (cj rTI (cj @dl_idf (cj @dl_ln (cj @dl_one (cj @h1 (cj @k7 @g1)))))) ?_; refine hK _ _ ?_; clear hK K
                        rw [then_normal]
                        refine go (cj rTI (cj @dl_idf (cj @dl_ln (cj @dl_one (cj @h1 @k5))))) ?_
                        refine ifs ?_ ?_ <;> first | exact nope | intro hb
                        refine go (cj rTI (cj @dl_idf (cj @dl_ln (cj @dl_one (cj @h1 @k9))))) ?_
                        refine aw_reg fun K hK => ?_; refine rn (cj rTI (cj @dl_idf (cj @dl_ln (cj @dl_one @h1)))) ?_; refine cont_pure hvl ?_; refine rn (cj rTI (cj @dl_idf (cj @dl_ln (cj @dl_one @h1)))) ?_; refine hK _ _ ?_; clear hK K
                        rw [then_normal]
                        refine ifs ?_ ?_ <;> first | exact nope | intro hb
                        refine go (cj rTI (cj @dl_idf (cj @dl_ln (cj @dl_one (cj @h1 (cj @k2 @g0)))))) ?_
                        exact fun i hi => by (repeat rw [if_neg (by omega)]); exact hI.fr i hi
                    · simp only [if_true] at hvl ⊢
                      by_cases hz : m ≤ 999999999 ∧ -18 ≤ y ∧ y ≤ 9
                      · rw [decide_eq_true hz] at hvl
                        rw [if_pos hz, show parseV (-(m : Int), y, 0) = .tp [.ag [.v (.int .i64 (-(m : Int))), .v (.int .i64 y)], .v (.int .i64 0)] from rfl]
                        unfold RefM.NM at hvl
                        clear hz
                        refine go trivial ?_
                        refine aw_reg fun K hK => ?_; refine rn (cj rTI (cj @dl_idf (cj @dl_ln (cj @dl_one (cj @h1 (cj @k7 @g1)))))) ?_; refine cont_pure hwh ?_; refine rn (cj rTI (cj @dl_idf (cj @dl_ln (cj @dl_one (cj @h1 (cj @k7 @g1)))))) ?_; refine hK _ _ ?_; clear hK K
                        rw [then_normal]
                        refine go (cj rTI (cj @dl_idf (cj @dl_ln (cj @dl_one (cj @h1 @k5))))) ?_
                        refine ifs ?_ ?_ <;> first | exact nope | intro hb
                        refine go (cj rTI (cj @dl_idf (cj @dl_ln (cj @dl_one (cj @h1 (cj @k9 @Int.zero_sub)))))) ?_
                        refine aw_reg fun K hK => ?_; refine rn (cj rTI (cj @dl_idf (cj @dl_ln (cj @dl_one (cj @h1 @Int.zero_sub))))) ?_; refine cont_pure hvl ?_; refine rn (cj rTI (cj @dl_idf (cj @dl_ln (cj @dl_one (cj @h1 @Int.zero_sub))))) ?_; refine hK _ _ ?_; clear hK K
                        rw [then_normal]
                        refine ifs ?_ ?_ <;> first | exact nope | intro hb
                        refine go (cj rTI (cj @dl_idf (cj @dl_ln (cj @dl_one (cj @h1 (cj @k2 @g0)))))) ?_
                        exact fun i hi => by (repeat rw [if_neg (by omega)]); exact hI.fr i hi
                      · rw [decide_eq_false hz] at hvl
                        rw [if_neg hz, show parseV (0, 0, 30) = .tp [.ag [.v (.int .i64 0), .v (.int .i64 0)], .v (.int .i64 30)] from rfl]
                        unfold RefM.NM at hvl
                        clear hz
                        refine go trivial ?_
                        refine aw_reg fun K hK => ?_; refine rn (cj rTI (cj @dl_idf (cj @dl_ln (cj @dl_one (cj @h1 (cj @k7 @g1)))))) ?_; refine cont_pure hwh ?_; refine rn (cj rTI (cj @dl_idf (cj @dl_ln (cj @dl_one (cj @h1 (cj @k7 @g1)))))) ?_; refine hK _ _ ?_; clear hK K
                        rw [then_normal]
                        refine go (cj rTI (cj @dl_idf (cj @dl_ln (cj @dl_one (cj @h1 @k5))))) ?_
                        refine ifs ?_ ?_ <;> first | exact nope | intro hb
                        refine go (cj rTI (cj @dl_idf (cj @dl_ln (cj @dl_one (cj @h1 (cj @k9 @Int.zero_sub)))))) ?_
                        refine aw_reg fun K hK => ?_; refine rn (cj rTI (cj @dl_idf (cj @dl_ln (cj @dl_one (cj @h1 @Int.zero_sub))))) ?_; refine cont_pure hvl ?_; refine rn (cj rTI (cj @dl_idf (cj @dl_ln (cj @dl_one (cj @h1 @Int.zero_sub))))) ?_; refine hK _ _ ?_; clear hK K
                        rw [then_normal]
                        refine ifs ?_ ?_ <;> first | exact nope | intro hb
                        refine go (cj rTI (cj @dl_idf (cj @dl_ln (cj @dl_one (cj @h1 (cj @k2 @g0)))))) ?_
                        exact fun i hi => by (repeat rw [if_neg (by omega)]); exact hI.fr i hi
                  · rw [if_neg hf] at hwh
                    have hf2 : ¬ m ≤ 999999999 := fun q => hf ⟨by omega, by omega⟩
                    rw [if_neg (fun q => hf2 q.1), show parseV (0, 0, 30) = .tp [.ag [.v (.int .i64 0), .v (.int .i64 0)], .v (.int .i64 30)] from rfl]
                    clear hf hvl
                    cases neg
                    · refine go trivial ?_
                      refine aw_reg fun K hK => ?_; refine rn (cj rTI (cj @dl_idf (cj @dl_ln (cj @dl_one (cj @h1 (cj @k7 @g1)))))) ?_; refine cont_pure hwh ?_; refine rn (cj rTI (cj @dl_idf (cj @dl_ln (cj @dl_one (cj @h1 (cj @k7 @g1)))))) ?_; refine hK _ _ ?_; clear hK K
                      rw [then_normal]
                      refine go (cj rTI (cj @dl_idf (cj @dl_ln (cj @dl_one (cj @h1 @k5))))) ?_
                      refine ifs ?_ ?_ <;> first | exact nope | intro hb
                      refine go (cj rTI (cj @dl_idf (cj @dl_ln (cj @dl_one (cj @h1 @k9))))) ?_
                      refine ifs ?_ ?_ <;> first | exact nope | intro hb
                      refine go (cj rTI (cj @dl_idf (cj @dl_ln (cj @dl_one (cj @h1 (cj @k2 @g0)))))) ?_
                      exact fun i hi => by (repeat rw [if_neg (by omega)]); exact hI.fr i hi
                    · refine go trivial ?_
                      refine aw_reg fun K hK => ?_; refine rn (cj rTI (cj @dl_idf (cj @dl_ln (cj @dl_one (cj @h1 (cj @k7 @g1)))))) ?_; refine cont_pure hwh ?_; refine rn (cj rTI (cj @dl_idf (cj @dl_ln (cj @dl_one (cj @h1 (cj @k7 @g1)))))) ?_; refine hK _ _ ?_; clear hK K
                      rw [then_normal]
                      refine go (cj rTI (cj @dl_idf (cj @dl_ln (cj @dl_one (cj @h1 @k5))))) ?_
                      refine ifs ?_ ?_ <;> first | exact nope | intro hb
                      refine go (cj rTI (cj @dl_idf (cj @dl_ln (cj @dl_one (cj @h1 @k9))))) ?_
                      refine ifs ?_ ?_ <;> first | exact nope | intro hb
                      refine go (cj rTI (cj @dl_idf (cj @dl_ln (cj @dl_one (cj @h1 (cj @k2 @g0)))))) ?_
                      exact fun i hi => by (repeat rw [if_neg (by omega)]); exact hI.fr i hi
end Go.Proofs.YtfjelkjlfcafgaaGreatDoor.NumR
end
section
/- The law NumReads, walked. -/
namespace Go.Proofs.YtfjelkjlfcafgaaGreatDoor.NumE
open Go Go.RowKit Go.Proofs.YtfjelkjlfcafgaaGreatDoor.Ax Go.Proofs.YtfjelkjlfcafgaaGreatDoor.Ti Go.Proofs.YtfjelkjlfcafgaaGreatDoor.BigM Go.Proofs.YtfjelkjlfcafgaaGreatDoor.NumS Go.Proofs.YtfjelkjlfcafgaaGreatDoor.NumA Go.Proofs.YtfjelkjlfcafgaaGreatDoor.NumB Go.Proofs.YtfjelkjlfcafgaaGreatDoor.NumT Go.Proofs.YtfjelkjlfcafgaaGreatDoor.NumU Go.Proofs.YtfjelkjlfcafgaaGreatDoor.NumL Go.Proofs.YtfjelkjlfcafgaaGreatDoor.NumW Go.Proofs.YtfjelkjlfcafgaaGreatDoor.NumX Go.Proofs.YtfjelkjlfcafgaaGreatDoor.NumY Go.Proofs.YtfjelkjlfcafgaaGreatDoor.NumR
set_option linter.unusedSimpArgs false
set_option linter.unusedVariables false
set_option maxRecDepth 4000
set_option maxHeartbeats 2000000
theorem rTI : type_of% (cj @ti3 (cj @ti2 (cj @ti4 (cj @ti9 (cj @ti5 (cj @ti24 @ti25)))))) := cj @ti3 (cj @ti2 (cj @ti4 (cj @ti9 (cj @ti5 (cj @ti24 @ti25)))))

theorem parse_long (l : List Nat) (h : 32 < l.length) : PCall Tryz.prog 14 [.v (.string (bs l))] (parseV (parseS l)) := by
  have l1 := bs_size l
  rw [show parseS l = (0, 0, 3) by unfold parseS; rw [if_pos h], show parseV (0, 0, 3) = .tp [.ag [.v (.int .i64 0), .v (.int .i64 0)], .v (.int .i64 3)] from rfl]
  refine pcall_of fun s => ?_
  refine acall_of Tryz.func14 rfl rfl (by simp [Tryz.ntmps14]) ?_; rw [Tryz.ntmps14, Tryz.results14]
  refine go (cj rTI @l1) ?_
  refine ifs ?_ ?_ <;> first | exact nope | intro hb
  refine go rTI ?_
  exact fun i hi => by rw [if_neg (by omega)]
theorem parseD_long (l : List Nat) (h : 32 < l.length) : PCall Tryz.prog 15 [.v (.string (bs l))] (parseV (parseS l)) := by
  have l1 := bs_size l
  rw [show parseS l = (0, 0, 3) by unfold parseS; rw [if_pos h], show parseV (0, 0, 3) = .tp [.ag [.v (.int .i64 0), .v (.int .i64 0)], .v (.int .i64 3)] from rfl]
  refine pcall_of fun s => ?_
  refine acall_of Tryz.func15 rfl rfl (by simp [Tryz.ntmps15]) ?_; rw [Tryz.ntmps15, Tryz.results15]
  refine go (cj rTI @l1) ?_
  refine ifs ?_ ?_ <;> first | exact nope | intro hb
  refine go rTI ?_
  exact fun i hi => by rw [if_neg (by omega)]
theorem parse_any (l : List Nat) (h : By l) : PCall Tryz.prog 14 [.v (.string (bs l))] (parseV (parseS l)) := by
  by_cases q : 32 < l.length
  · exact parse_long l q
  · exact parse_ax l h (by omega)
theorem parseD_any (l : List Nat) (h : By l) : PCall Tryz.prog 15 [.v (.string (bs l))] (parseV (parseS l)) := by
  by_cases q : 32 < l.length
  · exact parseD_long l q
  · exact parseD_ax l h (by omega)
end Go.Proofs.YtfjelkjlfcafgaaGreatDoor.NumE
end
section
/- A world in which the listed tables lie as the program's text lays them; and what the list says of the table of tens. -/
namespace Go.Proofs.YtfjelkjlfcafgaaGreatDoor.NumLaid
open Go.Proofs.YtfjelkjlfcafgaaGreatDoor.Ax
set_option linter.unusedVariables false
set_option maxRecDepth 100000

theorem own : ownKnob Tryz.prog.godebug = none := by kernel_rfl
theorem laidOut : laidOutB Tryz.prog = true := by kernel_rfl

noncomputable def laidWorld (os : Os) : World := World.laidAll Tryz.prog os Rows.numShiftRow.laid
theorem laidWorld_os (os : Os) : (laidWorld os).os = os := World.laidAll_os _ _ _
theorem laid_met (os : Os) (args : Array Value) : laidMet Tryz.prog Rows.numShiftRow.laid ((laidWorld os).forCall (fun _ _ => 0) ⟨#[], args, []⟩).memory := laidMet_laidAll args (by kernel_rfl) (by kernel_rfl)

theorem laidMet_tail {P : Program} {w : World} {x : String × DataW Unit} {l : List (String × DataW Unit)} (h : laidMet P (x :: l) w) : laidMet P l w := by
  obtain ⟨ps, ⟨g1, t1, c1, f1, p1, q1, a1, a2, a3, a4, a5, rfl⟩, hn, hc⟩ := h
  exact ⟨q1, a5, (List.nodup_append.1 hn).2.1, fun b off hb => hc b off (List.mem_append_right _ hb)⟩

theorem iface_of {H : Type} {enc : TypeId × Value → H} {P : Program} {w : World} {base : Nat} {sp : Nat → Bool} {held : Bool} {fuel : Nat} {t : TypeId} {ms : _} {cs : List Value} {name : String} {d : DataW H} {p : List MemPlace}
    (ht : P.underlying t = some (.interface ms)) (h : DataW.trod enc P w base sp held fuel t cs = some (.iface name d, p)) : ∃ u v, cs = [.iface u v] := by
  cases fuel with
  | zero => simp [DataW.trod] at h
  | succ fuel =>
    match cs with
    | [] => simp [DataW.trod, ht] at h
    | _ :: _ :: _ => simp [DataW.trod, ht] at h
    | [x] =>
      cases x
      case iface u v => exact ⟨u, v, rfl⟩
      all_goals simp [DataW.trod, ht] at h
theorem syntax_cell {w : World} (h : laidMet Tryz.prog Rows.numShiftRow.laid w) : ∃ t p, w.cell? ⟨0, 0, none⟩ = some (.iface t p) := by
  have h := laidMet_tail (laidMet_tail (laidMet_tail (laidMet_tail (laidMet_tail h))))
  obtain ⟨ps, ⟨g', t', cs, fuel, p, q, hg', ht', hvar, hd, _, _⟩, _⟩ := h
  obtain rfl := Option.some.inj ((show Tryz.prog.globalNamed "strconv.ErrSyntax" = some 0 by kernel_rfl).symm.trans hg')
  obtain rfl := Option.some.inj ((show (Tryz.prog.globals[0]?).map (·.type) = some 101 by kernel_rfl).symm.trans ht')
  obtain ⟨u, v, hcs⟩ := iface_of Tryz.underlying101 hd
  obtain rfl : cs = #[.iface u v] := by rw [← Array.toList_inj, hcs]
  exact ⟨u, v, by have := World.var?_cell hg' hvar 0; simpa using this⟩
theorem range_cell {w : World} (h : laidMet Tryz.prog Rows.numShiftRow.laid w) : ∃ t p, w.cell? ⟨1, 0, none⟩ = some (.iface t p) := by
  have h := laidMet_tail (laidMet_tail (laidMet_tail (laidMet_tail h)))
  obtain ⟨ps, ⟨g', t', cs, fuel, p, q, hg', ht', hvar, hd, _, _⟩, _⟩ := h
  obtain rfl := Option.some.inj ((show Tryz.prog.globalNamed "strconv.ErrRange" = some 1 by kernel_rfl).symm.trans hg')
  obtain rfl := Option.some.inj ((show (Tryz.prog.globals[1]?).map (·.type) = some 101 by kernel_rfl).symm.trans ht')
  obtain ⟨u, v, hcs⟩ := iface_of Tryz.underlying101 hd
  obtain rfl : cs = #[.iface u v] := by rw [← Array.toList_inj, hcs]
  exact ⟨u, v, by have := World.var?_cell hg' hvar 0; simpa using this⟩
theorem pow_eq : (Rows.laid_internal_strconv_uint64pow10 : DataW Unit) = Lib.tabData .u64 Lib.pow10Tab := by kernel_rfl
theorem tabs {w : World} (h : laidMet Tryz.prog Rows.numShiftRow.laid w) : Tabs w.cell? := by
  have h1 := laidMet_tail (laidMet_tail h)
  rw [pow_eq] at h1
  obtain ⟨ps, ⟨g', t', cs, fuel, p, q, hg', ht', hvar, hd, _, _⟩, _⟩ := h1
  obtain rfl := Option.some.inj ((show Tryz.prog.globalNamed "internal/strconv.uint64pow10" = some 2 by kernel_rfl).symm.trans hg')
  obtain rfl := Option.some.inj ((show (Tryz.prog.globals[2]?).map (·.type) = some 227 by kernel_rfl).symm.trans ht')
  have hc := Lib.cells_of_tab (e := 165) (n := 20) Tryz.underlying227 Tryz.underlying165 (by kernel_rfl) (by kernel_rfl) hd
  refine ⟨fun i hi => ?_, syntax_cell h, range_cell h, trivial⟩
  have hT : Lib.TabIs Tryz.prog w "internal/strconv.uint64pow10" .u64 Lib.pow10Tab := by
    unfold Lib.TabIs
    rw [hvar, ← hc]
  have := hT.cell (g := 2) (by kernel_rfl) i (by rw [Lib.pow10Tab_length]; exact hi)
  rw [Lib.pow10Tab_at i hi] at this
  exact this
theorem tabSize {w : World} (h : laidMet Tryz.prog Rows.numShiftRow.laid w) : TabSize w := by
  have h1 := laidMet_tail (laidMet_tail h)
  rw [pow_eq] at h1
  obtain ⟨ps, ⟨g', t', cs, fuel, p, q, hg', ht', hvar, hd, _, _⟩, _⟩ := h1
  obtain rfl := Option.some.inj ((show Tryz.prog.globalNamed "internal/strconv.uint64pow10" = some 2 by kernel_rfl).symm.trans hg')
  obtain rfl := Option.some.inj ((show (Tryz.prog.globals[2]?).map (·.type) = some 227 by kernel_rfl).symm.trans ht')
  have hc := Lib.cells_of_tab (e := 165) (n := 20) Tryz.underlying227 Tryz.underlying165 (by kernel_rfl) (by kernel_rfl) hd
  refine ⟨?_, trivial⟩
  simp only [World.var?, hg', Option.bind_some] at hvar
  split at hvar
  · rename_i c t fr hb
    injection hvar with hvar
    subst hvar
    refine ⟨_, _, _, hb, ?_⟩
    rw [← Array.length_toList, hc]
    simp [Lib.pow10Tab]
  · cases hvar
theorem tabIs {w : World} (h : Tabs w.cell?) (hz : TabSize w) : Lib.TabIs Tryz.prog w "internal/strconv.uint64pow10" .u64 Lib.pow10Tab := by
  obtain ⟨c, e, f, h1, h2⟩ := hz.1
  have hg : Tryz.prog.globalNamed "internal/strconv.uint64pow10" = some 2 := by kernel_rfl
  unfold Lib.TabIs
  have hv : w.var? Tryz.prog "internal/strconv.uint64pow10" = some c := by
    simp only [World.var?, hg, Option.bind_some, h1]
  rw [hv]
  congr 1
  apply Array.ext
  · rw [h2]; simp [Lib.pow10Tab]
  intro i h3 h4
  have h5 := World.var?_cell hg hv i
  rw [h.1 i (by omega), Array.getElem?_eq_getElem h3] at h5
  injection h5 with h5
  rw [← h5]
  simp [Lib.pow10Tab]
theorem rel_two {k : KW} {z0 z1 : AV} {u0 u1 : Value} (h0 : Rel k z0 u0) (h1 : Rel k z1 u1) : ∀ (j : Nat) (z : AV) (u : Value), [z0, z1][j]? = some z → [u0, u1][j]? = some u → Rel k z u := by
  intro j z u hz hu
  match j with
  | 0 => cases hz; cases hu; exact h0
  | 1 => cases hz; cases hu; exact h1
  | j + 2 => simp at hz
theorem relL_mk2 {k : KW} {z0 z1 : AV} {u0 u1 : Value} (h0 : Rel k z0 u0) (h1 : Rel k z1 u1) : RelL k [z0, z1] [u0, u1] := ⟨rfl, rel_two h0 h1⟩
end Go.Proofs.YtfjelkjlfcafgaaGreatDoor.NumLaid
end
section
/- Texts of numbers: FormatInt in general; the document's Text. -/
namespace Go.Proofs.YtfjelkjlfcafgaaGreatDoor.NumG
open Go Go.RowKit Go.Proofs.YtfjelkjlfcafgaaGreatDoor.Ax Go.Proofs.YtfjelkjlfcafgaaGreatDoor.Ti Go.Proofs.YtfjelkjlfcafgaaGreatDoor.BigM Go.Proofs.YtfjelkjlfcafgaaGreatDoor.RefA Go.Proofs.YtfjelkjlfcafgaaGreatDoor.RefC Go.Proofs.YtfjelkjlfcafgaaGreatDoor.RefD Go.Proofs.YtfjelkjlfcafgaaGreatDoor.RefH Go.Proofs.YtfjelkjlfcafgaaGreatDoor.RefK Go.Proofs.YtfjelkjlfcafgaaGreatDoor.NumS Go.Proofs.YtfjelkjlfcafgaaGreatDoor.NumA Go.Proofs.YtfjelkjlfcafgaaGreatDoor.NumT Go.Proofs.YtfjelkjlfcafgaaGreatDoor.NumU Go.Proofs.YtfjelkjlfcafgaaGreatDoor.NumX
set_option linter.unusedSimpArgs false
set_option linter.unusedVariables false
set_option maxRecDepth 4000
set_option maxHeartbeats 2000000
theorem rTI : type_of% (cj @ti3 (cj @ti2 (cj @ti4 (cj @ti9 (cj @ti5 (cj @ti36 @ti24)))))) := cj @ti3 (cj @ti2 (cj @ti4 (cj @ti9 (cj @ti5 (cj @ti36 @ti24)))))

theorem dec_eq (n : Nat) : Lib.decDigits n = (decP n).map UInt8.ofNat := by
  induction n using Nat.strongRecOn with
  | ind n ih =>
    rw [Lib.decDigits]
    split
    · rename_i h
      unfold decP
      split
      · rename_i e; subst e; rfl
      · rw [decN, digs_pos 10 n (by decide) (by omega), Nat.div_eq_of_lt h, digs_zero, Nat.mod_eq_of_lt h]
        rfl
    · rename_i h
      rw [ih (n / 10) (by omega)]
      have e1 : decP n = decN n := by unfold decP; rw [if_neg (by omega)]
      have e2 : decP (n / 10) = decN (n / 10) := by unfold decP; rw [if_neg (by omega)]
      rw [e1, e2]
      have e3 : decN n = decN (n / 10) ++ [48 + n % 10] := by
        unfold decN
        rw [digs_pos 10 n (by decide) (by omega), List.reverse_cons, List.map_append]
        rfl
      rw [e3, List.map_append]
      rfl
theorem itoa_eq (z : Int) : Lib.itoa z = (decS z).map UInt8.ofNat := by
  unfold Lib.itoa decS
  split
  · rename_i h
    rw [if_neg (by omega), dec_eq, decP, if_neg (by omega)]
    rfl
  · rename_i h
    by_cases e : z = 0
    · subst e; rw [if_pos rfl, dec_eq]; rfl
    · rw [if_neg e, dec_eq, decP, if_neg (by omega), show z.toNat = z.natAbs by omega]
      rfl
theorem format_ax (z : Int) (h0 : -9223372036854775808 ≤ z) (h1 : z ≤ 9223372036854775807) : PCall Tryz.prog 63 [.v (.int .i64 z), .v (.int .i64 10)] (.v (.string (bs (decS z)))) := by
  refine pcall_lift_tab (us := [.int .i64 z, .int .i64 10]) (enters_of Tryz.func63 rfl rfl) (fun k => .v _) fun w ht hz => ?_
  refine (Tryz.strconv_FormatInt_10 z h0 h1 w (NumLaid.tabIs ht hz)).mono ?_
  rintro en w' ⟨rfl, k, os, rfl⟩
  rw [itoa_eq]
  exact ⟨rfl, ⟨rfl, rfl, rfl, by simp [Sort.grow, World.drewN], fun i hi => by simp [Sort.grow, World.drewN, Array.getElem?_append, hi]⟩⟩
theorem text_all (m x : Int) : PCall Tryz.prog 17 [NM m x] (textV m x) :=
  text_ax m x fun h => by
    obtain ⟨h1, h2, _⟩ := RefM.validN_m m x h
    exact format_ax m (by omega) (by omega)
theorem digits_dec (x : Int) (l : lz x ≤ 1099511627776) : PCall Tryz.prog 65 [NI x] (.v (.string (bs (decS x)))) := RefJ.digits_ax x l
theorem app0 (l : List Nat) : l ++ [] = l := List.append_nil l
theorem zeros (n : Nat) : List.replicate n 48 ++ [48] = List.replicate (n + 1) 48 := by rw [List.replicate_succ']
theorem hd_names (kk : Nat) (h : kk < 9) : (([AV.v (.string (ByteArray.mk #[102])), .v (.string (ByteArray.mk #[112])), .v (.string (ByteArray.mk #[110])), .v (.string (ByteArray.mk #[117])), .v (.string (ByteArray.mk #[109])), .v (.string (ByteArray.mk #[])), .v (.string (ByteArray.mk #[107])), .v (.string (ByteArray.mk #[109, 101, 103])), .v (.string (ByteArray.mk #[103]))]).drop kk).head? = some (.v (.string (bs (letterS kk)))) := by
  have : kk = 0 ∨ kk = 1 ∨ kk = 2 ∨ kk = 3 ∨ kk = 4 ∨ kk = 5 ∨ kk = 6 ∨ kk = 7 ∨ kk = 8 := by omega
  rcases this with rfl | rfl | rfl | rfl | rfl | rfl | rfl | rfl | rfl <;> rfl
theorem textD_ax (m x : Int) : PCall Tryz.prog 20 [NM m x] (textV m x) := by
  refine pcall_of fun s => ?_
  have hv := RefM.valid_ax m x
  unfold RefM.NM at hv
  unfold NM textV
  by_cases q : validN m x = true
  · rw [if_pos q]
    rw [show RefM.validN m x = true from q] at hv
    obtain ⟨m1, m2, k1, k2⟩ := RefM.validN_m m x q
    by_cases hm : m = 0
    · have hx : x = 0 := by
        have : RefM.validN m x = decide (x = 0) := by
          unfold RefM.validN
          rw [if_pos (by rw [hm]; rfl), hm]
          simp
        have q2 : RefM.validN m x = true := q
        rw [this] at q2
        simpa using q2
      subst hm hx
      have e1 : textS 0 0 = [48] := rfl
      rw [e1]
      refine acall_of Tryz.func20 rfl rfl (by simp [Tryz.ntmps20]) ?_; rw [Tryz.ntmps20, Tryz.results20]
      refine go rTI ?_
      refine aw_reg fun K hK => ?_; refine rn rTI ?_; refine cont_pure hv ?_; refine rn rTI ?_; refine hK _ _ ?_; clear hK K
      rw [then_normal]
      refine ifs ?_ ?_ <;> first | exact nope | intro hb
      refine go rTI ?_
      refine ifs ?_ ?_ <;> first | exact nope | intro hb
      refine go rTI ?_
      exact ⟨rfl, fun i hi => if_neg (by omega)⟩
    · have hw := wide_ax m (by omega) (by omega)
      have hl : lz m ≤ 4 := lz_small m (by omega) (by omega)
      have hd := digits_dec m (by omega)
      have hm0 : (m == 0) = false := by simp [hm]
      have hld := decS_len m m1 m2
      have lD := bs_size (decS m)
      by_cases qx : x < -15
      · have hs := small_ax (-x) (by omega) (by omega)
        have hl2 : lz (-x) ≤ 4 := lz_small _ (by omega) (by omega)
        have hd2 := digits_dec (-x) (by omega)
        have e3 : decS (-x) = decN x.natAbs := by
          unfold decS
          rw [if_neg (by omega), if_neg (by omega), Int.natAbs_neg]
          rfl
        rw [e3] at hd2
        have e1 : textS m x = decS m ++ [101, 45] ++ decN x.natAbs := by unfold textS; rw [if_pos qx]
        rw [e1]
        have c1 : bs (decS m) ++ (ByteArray.mk #[101, 45]) = bs (decS m ++ [101, 45]) := by
          show bs (decS m) ++ bs [101, 45] = _
          exact bs_append _ _
        have c2 := bs_append (decS m ++ [101, 45]) (decN x.natAbs)
        have lE := bs_size (decS m ++ [101, 45])
        have lN := bs_size (decN x.natAbs)
        have lN2 := decN_len x.natAbs 2 (by omega)
        have l2 : (ByteArray.mk #[101, 45]).size = 2 := rfl
        rw [List.length_append] at lE
        rw [show ([101, 45] : List Nat).length = 2 from rfl] at lE
        clear e1 e3
        refine acall_of Tryz.func20 rfl rfl (by simp [Tryz.ntmps20]) ?_; rw [Tryz.ntmps20, Tryz.results20]
        refine go rTI ?_
        refine aw_reg fun K hK => ?_; refine rn rTI ?_; refine cont_pure hv ?_; refine rn rTI ?_; refine hK _ _ ?_; clear hK K
        rw [then_normal]
        refine ifs ?_ ?_ <;> first | exact nope | intro hb
        refine go (cj rTI @hm0) ?_
        refine ifs ?_ ?_ <;> first | exact nope | intro hb
        refine go trivial ?_
        refine aw_reg fun K hK => ?_; refine rn rTI ?_; refine cont_pure hw ?_; refine rn rTI ?_; refine cont_pure hd ?_; refine rn rTI ?_; refine hK _ _ ?_; clear hK K
        rw [then_normal]
        refine go rTI ?_
        refine ifs ?_ ?_ <;> first | exact nope | intro hb
        generalize x.natAbs = i at *
        refine aw_seq ?_
        refine aw_reg fun K hK => ?_; refine rn (cj rTI (cj @c1 (cj @c2 (cj @lD (cj @lE (cj @lN (cj @l2 @Int.zero_sub))))))) ?_; refine cont_pure hs ?_; refine rn rTI ?_; refine cont_pure hd2 ?_; refine rn (cj rTI (cj @c1 (cj @c2 (cj @lD (cj @lE (cj @lN (cj @l2 @Int.zero_sub))))))) ?_; refine hK _ _ ?_; clear hK K
        refine go rTI ?_
        exact fun i hi => if_neg (by omega)
      · obtain ⟨kk, hkk⟩ : ∃ kk : Nat, kk = ((x + 15) / 3).toNat := ⟨_, rfl⟩
        obtain ⟨z, hz⟩ : ∃ z : Nat, z = ((x + 15) % 3).toNat := ⟨_, rfl⟩
        have e1 : textS m x = decS m ++ List.replicate z 48 ++ letterS kk := by unfold textS; rw [if_neg qx, hkk, hz]
        rw [e1]
        have hx : x = 3 * (kk : Int) - 15 + z := by omega
        have hz3 : z < 3 := by omega
        have hk9 : kk < 9 := by omega
        have hdn := hd_names kk hk9
        have lK := bs_size (letterS kk)
        have lK3 := (letter_reads kk (by omega)).2.2
        clear e1 hkk hz
        refine acall_of Tryz.func20 rfl rfl (by simp [Tryz.ntmps20]) ?_; rw [Tryz.ntmps20, Tryz.results20]
        refine go rTI ?_
        refine aw_reg fun K hK => ?_; refine rn rTI ?_; refine cont_pure hv ?_; refine rn rTI ?_; refine hK _ _ ?_; clear hK K
        rw [then_normal]
        refine ifs ?_ ?_ <;> first | exact nope | intro hb
        refine go (cj rTI @hm0) ?_
        refine ifs ?_ ?_ <;> first | exact nope | intro hb
        refine go trivial ?_
        refine aw_reg fun K hK => ?_; refine rn rTI ?_; refine cont_pure hw ?_; refine rn rTI ?_; refine cont_pure hd ?_; refine rn rTI ?_; refine hK _ _ ?_; clear hK K
        rw [then_normal]
        refine go rTI ?_
        refine ifs ?_ ?_ <;> first | exact nope | intro hb
        refine go rTI ?_
        refine aw_loop (fun n e s' => ∃ i : Nat, n = i ∧ kk ≤ i ∧ i < 9 ∧ e.n = 61 ∧ e.m 1 = .ptr s.nx 0 ∧ e.m 4 = .v (.string (bs (decS m))) ∧ e.m 5 = .own (s.nx + 1) 0 9 1 ∧ e.m 6 = .v (.int .i64 (i : Nat)) ∧ s'.get s.nx = some [.v (.int .i64 m), .v (.int .i64 x)] ∧
          s'.get (s.nx + 1) = some [AV.v (.string (ByteArray.mk #[102])), AV.v (.string (ByteArray.mk #[112])), AV.v (.string (ByteArray.mk #[110])), AV.v (.string (ByteArray.mk #[117])), AV.v (.string (ByteArray.mk #[109])), AV.v (.string (ByteArray.mk #[])), AV.v (.string (ByteArray.mk #[107])), AV.v (.string (ByteArray.mk #[109, 101, 103])), AV.v (.string (ByteArray.mk #[103]))] ∧ ∀ i, i < s.nx → s'.get i = s.get i) 8 ?_ ?_
        · refine ⟨8, rfl, by omega, by omega, ?_⟩
          (repeat' refine And.intro ?_ ?_) <;> first | exact rfl | exact fnz rTI | skip
        · rintro i e s' ⟨_, rfl, hi1, hi2, h1, k1, k4, k5, k6, g0, g1, fr⟩
          by_cases hi : kk < i
          · refine go (cj rTI (cj @h1 @k6)) ?_
            refine ifs ?_ ?_ <;> first | exact nope | intro hb
            refine go (cj rTI (cj @h1 (cj @k1 (cj @k6 @g0)))) ?_
            refine ifs ?_ ?_ <;> first | exact nope | intro hb
            refine go (cj rTI (cj @h1 @k6)) ?_
            simp only [block_normal, loop_normal]
            refine ⟨i - 1, by omega, i - 1, rfl, by omega, by omega, ?_, ?_, ?_, ?_, ?_, g0, g1, fr⟩
            all_goals ((first | refine rn (cj @h1 (cj @k1 (cj @k4 (cj @k5 @k6)))) ?_ | exact rn0 (cj @h1 (cj @k1 (cj @k4 (cj @k5 @k6))))))
            refine congrArg (fun z : Int => AV.v (.int .i64 z)) ?_
            omega
          · obtain rfl : i = kk := by omega
            refine go (cj rTI (cj @h1 @k6)) ?_
            refine ifs ?_ ?_ <;> first | exact nope | intro hb
            refine go (cj rTI (cj @h1 (cj @k1 (cj @k6 @g0)))) ?_
            refine ifs ?_ ?_ <;> first | exact nope | intro hb
            refine go (cj rTI (cj @h1 @k6)) ?_
            refine aw_at (.exit 2) (fun e s'' => s'' = s' ∧ e.n = 61 ∧ e.m 4 = .v (.string (bs (decS m ++ List.replicate z 48))) ∧ e.m 5 = .own (s.nx + 1) 0 9 1 ∧ e.m 6 = .v (.int .i64 (i : Nat))) ?_ ?_
            · refine aw_loop (fun n e s'' => ∃ p : Nat, n = z - p ∧ p ≤ z ∧ s'' = s' ∧ e.n = 61 ∧ e.m 1 = .ptr s.nx 0 ∧ e.m 4 = .v (.string (bs (decS m ++ List.replicate p 48))) ∧ e.m 5 = .own (s.nx + 1) 0 9 1 ∧ e.m 6 = .v (.int .i64 (i : Nat)) ∧ e.m 7 = .v (.int .i64 (3 * (i : Int) - 15 + (p : Nat)))) z ?_ ?_
              · refine ⟨0, by omega, by omega, rfl, ?_⟩
                (repeat' refine And.intro ?_ ?_) <;> first | exact rfl | exact fnz (cj rTI (cj @h1 (cj @k1 (cj @k4 (cj @k5 (cj @k6 @app0)))))) | skip
                refine rn trivial ?_
                refine congrArg (fun z : Int => AV.v (.int .i64 z)) ?_
                omega
              · clear h1 k1 k4 k5 k6 e
                rintro n e s'' ⟨p, rfl, hp, rfl, h1, k1, k4, k5, k6, k7⟩
                by_cases hp2 : p < z
                · have c1 := bs_append (decS m ++ List.replicate p 48) [48]
                  have lE := bs_size (decS m ++ List.replicate p 48)
                  rw [List.length_append, List.length_replicate] at lE
                  rw [show bs [48] = ByteArray.mk #[48] from rfl, List.append_assoc, zeros] at c1
                  refine go (cj rTI (cj @h1 (cj @k1 (cj @k7 @g0)))) ?_
                  refine ifs ?_ ?_ <;> first | exact nope | intro hb
                  have l2 : (ByteArray.mk #[48]).size = 1 := rfl
                  refine go (cj rTI (cj @h1 (cj @k4 (cj @k7 (cj @c1 (cj @lE @l2)))))) ?_
                  simp only [block_normal, loop_normal]
                  refine ⟨z - (p + 1), by omega, p + 1, rfl, by omega, by first | rfl | trivial, ?_, ?_, ?_, ?_, ?_, ?_⟩
                  all_goals ((first | refine rn (cj @h1 (cj @k1 (cj @k4 (cj @k5 (cj @k6 @k7))))) ?_ | exact rn0 (cj @h1 (cj @k1 (cj @k4 (cj @k5 (cj @k6 @k7)))))))
                  refine congrArg (fun z : Int => AV.v (.int .i64 z)) ?_
                  omega
                · obtain rfl : p = z := by omega
                  refine go (cj rTI (cj @h1 (cj @k1 (cj @k7 @g0)))) ?_
                  refine ifs ?_ ?_ <;> first | exact nope | intro hb
                  refine go trivial ?_
                  refine ⟨?_, ?_, ?_, ?_⟩
                  all_goals (exact rn0 (cj @h1 (cj @k4 (cj @k5 @k6))))
            · clear h1 k1 k4 k5 k6 e
              rintro e s'' ⟨rfl, h1, k4, k5, k6⟩
              have c2 := bs_append (decS m ++ List.replicate z 48) (letterS i)
              have lE := bs_size (decS m ++ List.replicate z 48)
              rw [List.length_append, List.length_replicate] at lE
              simp only [block_exit, if_true, then_normal]
              generalize letterS i = lk at *
              refine go (cj rTI (cj @h1 (cj @k4 (cj @k5 (cj @k6 (cj @g1 (cj @hdn (cj @c2 (cj @lE (cj @lK (cj @Nat.zero_add (cj @Nat.mul_one @Int.toNat_natCast)))))))))))) ?_
              exact fr
  · have q' : validN m x = false := by simpa using q
    rw [if_neg q]
    rw [show RefM.validN m x = false from q'] at hv
    refine acall_of Tryz.func20 rfl rfl (by simp [Tryz.ntmps20]) ?_; rw [Tryz.ntmps20, Tryz.results20]
    refine go rTI ?_
    refine aw_reg fun K hK => ?_; refine rn rTI ?_; refine cont_pure hv ?_; refine rn rTI ?_; refine hK _ _ ?_; clear hK K
    rw [then_normal]
    refine ifs ?_ ?_ <;> first | exact nope | intro hb
    refine go trivial ?_
    exact ⟨rfl, fun i hi => if_neg (by omega)⟩
end Go.Proofs.YtfjelkjlfcafgaaGreatDoor.NumG
end
section
/- Cards and models, plain: what the words of a line say. -/
namespace Go.Proofs.YtfjelkjlfcafgaaGreatDoor.CardS
open Go.Proofs.YtfjelkjlfcafgaaGreatDoor.NumS Go.Proofs.YtfjelkjlfcafgaaGreatDoor.RefM
abbrev Str := List Nat
abbrev Num := Int × Int
def nameC (c : Nat) : Bool := decide (97 ≤ c ∧ c ≤ 122) || decide (48 ≤ c ∧ c ≤ 57) || decide (c = 95)
def isName (s : Str) : Bool := decide (1 ≤ s.length ∧ s.length ≤ 16) && s.all nameC
def kinds : Str := [114, 99, 108, 118, 105, 101, 103, 102, 104, 116, 100, 115, 120]
def isDev (s : Str) : Bool := isName s && kinds.contains (s.getD 0 0)
structure Wv where
  kind : Int
  vals : List Num
  steps : List Int
structure Crd where
  name : Str
  nodes : List Str
  ref : Str
  value : Num
  wave : Wv
structure Mdl where
  name : Str
  kind : Int
  g : List Num
  v : List Num
def wv0 : Wv := ⟨0, [], []⟩
def crd0 : Crd := ⟨[], [], [], (0, 0), wv0⟩
def mdl0 : Mdl := ⟨[], 0, [], []⟩
def valid (n : Num) : Bool := validN n.1 n.2
def shapeK (k : Nat) : Nat × Bool × Bool :=
  if k = 114 ∨ k = 99 ∨ k = 108 then (2, false, true) else if k = 118 ∨ k = 105 then (2, false, false) else if k = 102 ∨ k = 104 then (2, true, true)
  else if k = 100 then (2, true, false) else if k = 115 then (4, true, false) else (4, false, true)
def sDc : Str := [100, 99]
def sPulse : Str := [112, 117, 108, 115, 101]
def sPwl : Str := [112, 119, 108]
def sTable : Str := [116, 97, 98, 108, 101]
def sModel : Str := [46, 109, 111, 100, 101, 108]
def waveWords (w : List Str) : Bool :=
  match w with
  | [] => false
  | k :: r => if k = sDc then decide (r.length = 1) else if k = sPulse then decide (r.length = 7) else if k = sPwl then decide (2 ≤ r.length ∧ r.length % 2 = 0 ∧ r.length ≤ 32)
    else if k = sTable then decide (1 ≤ r.length ∧ r.length ≤ 16) else decide (r.length = 0)
def want (k : Nat) : Nat := 1 + (shapeK k).1 + (if (shapeK k).2.1 then 1 else 0) + (if (shapeK k).2.2 then 1 else 0)
def counted (k : Nat) (words : List Str) : Bool :=
  if k = 120 then decide (3 ≤ words.length ∧ words.length ≤ 10) else if k = 118 ∨ k = 105 then decide (4 ≤ words.length) && waveWords (words.drop 3) else decide (words.length = want k)
def stepS (w : Str) : Option Int := if decP (digV w) = w ∧ digV w ≤ 1000000000 then some (digV w : Nat) else none
def numE (w : Str) (e : Int) : Int := if e = 0 then (parseS w).2.2 else e
def stepE (w : Str) (e : Int) : Int := if e = 0 then (if (stepS w).isSome then 0 else 3) else e
def numV (w : Str) : Num := ((parseS w).1, (parseS w).2.1)
def stepV (w : Str) : Int := (stepS w).getD 0
def numsE : List Str → Int → Int
  | [], e => e
  | w :: r, e => numsE r (numE w e)
def stepsE : List Str → Int → Int
  | [], e => e
  | w :: r, e => stepsE r (stepE w e)
def pairsE : List Str → Int → Int
  | a :: b :: r, e => pairsE r (numE b (stepE a e))
  | _, e => e
def evens : List Str → List Str
  | a :: _ :: r => a :: evens r
  | l => l
def odds : List Str → List Str
  | _ :: b :: r => b :: odds r
  | _ => []
def waveR (w : List Str) (e : Int) : Wv × Int :=
  match w with
  | [] => (wv0, e)
  | k :: r =>
    if k = sPulse then (⟨2, (r.take 2).map numV, (r.drop 2).map stepV⟩, stepsE (r.drop 2) (numsE (r.take 2) e))
    else if k = sPwl then (⟨3, (odds r).map numV, (evens r).map stepV⟩, pairsE r e)
    else if k = sTable then (⟨4, r.map numV, []⟩, numsE r e)
    else if k = sDc then (⟨1, r.map numV, []⟩, numsE r e)
    else (⟨1, [numV k], []⟩, numE k e)
def rising : List Int → Bool
  | a :: b :: r => decide (a < b) && rising (b :: r)
  | _ => true
def waveOk (w : Wv) : Bool :=
  w.vals.all valid && w.steps.all (fun s => decide (0 ≤ s ∧ s ≤ 1000000000)) &&
  (if w.kind = 1 then decide (w.vals.length = 1 ∧ w.steps.length = 0)
   else if w.kind = 2 then decide (w.vals.length = 2 ∧ w.steps.length = 5 ∧ 1 ≤ w.steps.getD 4 0 ∧ w.steps.getD 1 0 + w.steps.getD 2 0 + w.steps.getD 3 0 ≤ w.steps.getD 4 0)
   else if w.kind = 3 then rising w.steps && decide (w.vals.length = w.steps.length ∧ 1 ≤ w.vals.length ∧ w.vals.length ≤ 16)
   else if w.kind = 4 then decide (1 ≤ w.vals.length ∧ w.vals.length ≤ 16 ∧ w.steps.length = 0)
   else false)
def formOf (k n : Nat) : Nat × Bool × Bool := if k = 120 then (n - 2, true, false) else shapeK k
def refC (f : Nat × Bool × Bool) (ws : List Str) : Str := if f.2.1 then (ws.drop f.1).headD [] else []
def restC (f : Nat × Bool × Bool) (ws : List Str) : List Str := if f.2.1 then (ws.drop f.1).drop 1 else ws.drop f.1
def valC (f : Nat × Bool × Bool) (ws : List Str) : Num := if f.2.2 then numV ((restC f ws).headD []) else (0, 0)
def errV (f : Nat × Bool × Bool) (ws : List Str) : Int := if f.2.2 then numE ((restC f ws).headD []) 0 else 0
def srcC (k : Nat) : Bool := decide (k = 118 ∨ k = 105)
def wvC (k : Nat) (f : Nat × Bool × Bool) (ws : List Str) : Wv := if srcC k then (waveR (restC f ws) (errV f ws)).1 else wv0
def errC (k : Nat) (f : Nat × Bool × Bool) (ws : List Str) : Int := if srcC k then (waveR (restC f ws) (errV f ws)).2 else errV f ws
def badRef (k : Nat) (f : Nat × Bool × Bool) (ws : List Str) : Bool := f.2.1 && (!isName (refC f ws) || (decide (k = 102 ∨ k = 104) && decide ((refC f ws).getD 0 0 ≠ 118)))
def zeroK (k : Nat) : Bool := decide (k = 114 ∨ k = 99 ∨ k = 108)
def readB (w0 : Str) (ws : List Str) (k : Nat) (f : Nat × Bool × Bool) : Crd × Int :=
  if (isDev w0 && counted k (w0 :: ws)) = true then
    if (ws.take f.1).all isName = true then
      if badRef k f ws = true then (crd0, 71) else if errC k f ws ≠ 0 then (crd0, errC k f ws) else if (valC f ws).1 = 0 ∧ zeroK k = true then (crd0, 11)
      else if srcC k = true ∧ waveOk (wvC k f ws) = false then (crd0, 40) else (⟨w0, ws.take f.1, refC f ws, valC f ws, wvC k f ws⟩, 0)
    else (crd0, 71)
  else (crd0, 70)
def readC : List Str → Crd × Int
  | [] => (crd0, 70)
  | w0 :: ws => readB w0 ws (w0.getD 0 0) (formOf (w0.getD 0 0) (ws.length + 1))
def textN (n : Num) : Str := if valid n then textS n.1 n.2 else [63]
def zipW : List Int → List Num → List Str
  | s :: ss, v :: vs => decS s :: textN v :: zipW ss vs
  | _, _ => []
def waveT (w : Wv) : List Str :=
  if w.kind = 3 then sPwl :: zipW w.steps w.vals
  else (if w.kind = 1 then [sDc] else if w.kind = 2 then [sPulse] else if w.kind = 4 then [sTable] else []) ++ w.vals.map textN ++ w.steps.map decS
def wordsC (c : Crd) : List Str :=
  let k := c.name.getD 0 0
  c.name :: c.nodes ++ (if (shapeK k).2.1 = true ∨ k = 120 then [c.ref] else []) ++ (if (shapeK k).2.2 = true ∧ k ≠ 120 then [textN c.value] else []) ++ (if k = 118 ∨ k = 105 then waveT c.wave else [])
def sameW (a b : Wv) : Bool := decide (a.kind = b.kind ∧ a.vals = b.vals ∧ a.steps = b.steps)
def writeC (c : Crd) : List Str × Int :=
  if isDev c.name = true ∧ c.nodes.length ≤ 8 ∧ c.wave.vals.length ≤ 16 ∧ c.wave.steps.length ≤ 16 then
    let d := readC (wordsC c)
    if d.2 = 0 ∧ d.1.ref = c.ref ∧ d.1.value = c.value ∧ d.1.nodes = c.nodes ∧ sameW d.1.wave c.wave = true then (wordsC c, 0) else ([], 70)
  else ([], 70)
def sLess (a b : Num) : Bool := decide (RefC.sgn ((ofN a.1 a.2).1 * (ofN b.1 b.2).2 - (ofN b.1 b.2).1 * (ofN a.1 a.2).2) < 0)
def risingN : List Num → Bool
  | a :: b :: r => sLess a b && risingN (b :: r)
  | _ => true
def modelOk (m : Mdl) : Bool :=
  isName m.name && m.g.all valid && m.v.all valid &&
  (if m.kind = 115 then decide (m.g.length = 2 ∧ m.v.length = 1) else if m.kind = 100 then decide (1 ≤ m.g.length ∧ m.g.length ≤ 4 ∧ m.v.length + 1 = m.g.length) && risingN m.v else false)
def readM (words : List Str) : Mdl × Int :=
  let n := words.length
  let k := words.getD 2 []
  if 4 ≤ n ∧ words.getD 0 [] = sModel ∧ (k = [100] ∨ k = [115]) ∧ n % 2 = 0 ∧ n ≤ 10 ∧ (k = [115] → n = 6) then
    if isName (words.getD 1 []) then
      let r := words.drop 3
      let m : Mdl := ⟨words.getD 1 [], (k.getD 0 0 : Nat), (evens r).map numV, (odds r).map numV⟩
      if numsE r 0 ≠ 0 then (mdl0, numsE r 0) else if modelOk m then (m, 0) else (mdl0, 50)
    else (mdl0, 71)
  else (mdl0, 70)
def zipM : List Num → List Num → List Str
  | v :: vs, g :: gs => textN v :: textN g :: zipM vs gs
  | _, _ => []
def modelT (m : Mdl) : List Str := sModel :: m.name :: [m.kind.toNat] :: textN (m.g.headD (0, 0)) :: zipM m.v (m.g.drop 1)
def writeM (m : Mdl) : List Str × Int := if modelOk m then (modelT m, 0) else ([], 50)
end Go.Proofs.YtfjelkjlfcafgaaGreatDoor.CardS
end
section
/- The law NumBack, walked. -/
namespace Go.Proofs.YtfjelkjlfcafgaaGreatDoor.NumH
open Go Go.RowKit Go.Proofs.YtfjelkjlfcafgaaGreatDoor.Ax Go.Proofs.YtfjelkjlfcafgaaGreatDoor.Ti Go.Proofs.YtfjelkjlfcafgaaGreatDoor.BigM Go.Proofs.YtfjelkjlfcafgaaGreatDoor.NumS Go.Proofs.YtfjelkjlfcafgaaGreatDoor.NumA Go.Proofs.YtfjelkjlfcafgaaGreatDoor.NumB Go.Proofs.YtfjelkjlfcafgaaGreatDoor.NumT Go.Proofs.YtfjelkjlfcafgaaGreatDoor.NumU Go.Proofs.YtfjelkjlfcafgaaGreatDoor.NumL Go.Proofs.YtfjelkjlfcafgaaGreatDoor.NumW Go.Proofs.YtfjelkjlfcafgaaGreatDoor.NumX Go.Proofs.YtfjelkjlfcafgaaGreatDoor.NumY Go.Proofs.YtfjelkjlfcafgaaGreatDoor.NumE Go.Proofs.YtfjelkjlfcafgaaGreatDoor.NumG
set_option linter.unusedSimpArgs false
set_option linter.unusedVariables false
set_option maxRecDepth 4000
set_option maxHeartbeats 2000000
theorem ok_valid (m x : Int) : RefM.validN m x = true ↔ okN m x := by
  unfold RefM.validN okN
  split
  · simp
  · simp
    omega
theorem by_app3 {a b : List Nat} (ha : By a) (hb : By b) : By (a ++ b) := fun c hc => by
  rcases List.mem_append.1 hc with hc | hc
  · exact ha c hc
  · exact hb c hc
theorem textS_by (m x : Int) : By (textS m x) := by
  have hD : By (decS m) := by
    intro c hc
    unfold decS at hc
    split at hc
    · simp at hc; omega
    · rcases List.mem_append.1 hc with hc | hc
      · split at hc
        · simp at hc; omega
        · cases hc
      · have := (isD_iff c).1 (decN_isD _ c hc)
        omega
  unfold textS
  split
  · refine by_app3 (by_app3 hD ?_) ?_
    · intro c hc; simp at hc; omega
    · intro c hc
      have := (isD_iff c).1 (decN_isD _ c hc)
      omega
  · refine by_app3 (by_app3 hD ?_) ?_
    · intro c hc
      have := List.eq_of_mem_replicate hc
      omega
    · exact letter_by _
end Go.Proofs.YtfjelkjlfcafgaaGreatDoor.NumH
end
section
/- Cards: names, devices, shapes: what the program's small functions answer. -/
namespace Go.Proofs.YtfjelkjlfcafgaaGreatDoor.CardA
open Go Go.RowKit Go.Proofs.YtfjelkjlfcafgaaGreatDoor.Ax Go.Proofs.YtfjelkjlfcafgaaGreatDoor.Ti Go.Proofs.YtfjelkjlfcafgaaGreatDoor.NumS Go.Proofs.YtfjelkjlfcafgaaGreatDoor.NumT Go.Proofs.YtfjelkjlfcafgaaGreatDoor.CardS
set_option linter.unusedSimpArgs false
set_option linter.unusedVariables false
set_option maxRecDepth 4000
set_option maxHeartbeats 2000000
theorem rTI : type_of% (cj @ti3 (cj @ti4 (cj @ti9 (cj @ti5 (cj @ti36 (cj @ti116 (cj @Nat.zero_add (cj @Nat.mul_one @Int.toNat_natCast)))))))) := cj @ti3 (cj @ti4 (cj @ti9 (cj @ti5 (cj @ti36 (cj @ti116 (cj @Nat.zero_add (cj @Nat.mul_one @Int.toNat_natCast)))))))

theorem tz0 : Int.toNat 0 = 0 := rfl
theorem tz1 : Int.toNat 1 = 1 := rfl
theorem tz3 : Int.toNat 3 = 3 := rfl
def SV (s : Str) : AV := .v (.string (bs s))
def SL (l : List Str) : List AV := l.map SV
def TV (l : List Str) : AV := .sl l.length (SL l)
theorem hd_byte (l : Str) (h : By l) (k : Nat) (hk : k < l.length) : ((byteAV (bs l)).drop k).head? = some (.v (.int .u8 ((l.getD k 0 : Nat) : Int))) := by
  have hg := bs_get l h k
  have hs := bs_size l
  rw [List.head?_drop]
  unfold byteAV
  rw [List.getElem?_map]
  have hlt : k < (bs l).data.toList.length := by rw [← hs] at hk; simpa using hk
  rw [List.getElem?_eq_getElem hlt]
  rw [List.getD_eq_getElem?_getD, List.getElem?_eq_getElem hlt] at hg
  simp only [Option.getD_some] at hg
  simp only [Option.map_some, hg]
theorem take_all {α : Type} (p : α → Bool) (l : List α) (d : α) (k : Nat) (hk : k < l.length) (h : (l.take k).all p = true) : (l.take (k + 1)).all p = p (l.getD k d) := by
  rw [List.take_succ_eq_append_getElem hk, List.all_append, h, List.getD_eq_getElem?_getD, List.getElem?_eq_getElem hk]
  simp
theorem all_not {α : Type} (p : α → Bool) (l : List α) (d : α) (k : Nat) (hk : k < l.length) (h : p (l.getD k d) = false) : l.all p = false := by
  rw [List.getD_eq_getElem?_getD, List.getElem?_eq_getElem hk] at h
  rw [List.all_eq_false]
  exact ⟨l[k], List.getElem_mem hk, by simpa using h⟩
theorem nameC_int (c : Nat) : nameC c = ((decide ((97 : Int) ≤ (c : Int)) && decide ((c : Int) ≤ 122)) || (decide ((48 : Int) ≤ (c : Int)) && decide ((c : Int) ≤ 57)) || ((c : Int) == 95)) := by
  rw [Bool.eq_iff_iff]
  unfold nameC
  simp
  omega
theorem name_ax (l : Str) (h : By l) (hl : l.length ≤ 9223372036854775807) : PCall Tryz.prog 88 [SV l] (.v (.bool (isName l))) := by
  refine pcall_of fun s => ?_
  have lS := bs_size l
  unfold SV
  by_cases h0 : 1 ≤ l.length ∧ l.length ≤ 16
  · have e0 : isName l = l.all nameC := by unfold isName; rw [decide_eq_true h0]; rfl
    have d1 : decide ((l.length : Int) < 1) = false := by simp; omega
    have d2 : decide ((16 : Int) < (l.length : Int)) = false := by simp; omega
    refine acall_of Tryz.func88 rfl rfl (by simp [Tryz.ntmps88]) ?_; rw [Tryz.ntmps88, Tryz.results88]
    refine go (cj rTI (cj @tz0 (cj @lS (cj @d1 @d2)))) ?_
    refine ifs ?_ ?_ <;> first | exact nope | intro hb
    refine go (cj rTI (cj @tz0 @lS)) ?_
    refine aw_loop (fun m e s' => ∃ k, m = l.length - k ∧ k ≤ l.length ∧ e.n = 40 ∧ e.m 14 = .sl l.length (byteAV (bs l)) ∧ e.m 15 = .v (.int .i64 l.length) ∧ e.m 16 = .v (.int .i64 (k : Nat)) ∧ (l.take k).all nameC = true ∧ s' = s) l.length ?_ ?_
    · refine ⟨0, by omega, by omega, ?_⟩
      (repeat' refine And.intro ?_ ?_) <;> first | exact rfl | exact fnz (cj rTI (cj @tz0 @lS)) | skip
    · rintro m e s' ⟨k, rfl, hk, h1, k14, k15, k16, ha, rfl⟩
      by_cases hk2 : k < l.length
      · have hd := hd_byte l h k hk2
        have hn := nameC_int (l.getD k 0)
        have ht := take_all nameC l 0 k hk2 ha
        have hf := all_not nameC l 0 k hk2
        generalize l.getD k 0 = c at *
        generalize e1 : decide ((97 : Int) ≤ (c : Int)) = b1 at *
        generalize e2 : decide ((c : Int) ≤ 122) = b2 at *
        generalize e3 : decide ((48 : Int) ≤ (c : Int)) = b3 at *
        generalize e4 : decide ((c : Int) ≤ 57) = b4 at *
        generalize e5 : ((c : Int) == 95) = b5 at *
        refine go (cj rTI (cj @tz0 (cj @h1 (cj @k15 @k16)))) ?_
        refine ifs ?_ ?_ <;> first | exact nope | intro hb
        refine aw_skip ?_
        refine aw_seq ?_
        refine aw_block ?_
        refine aw_seq ?_
        refine aw_reg fun K hK => ?_; refine rn (cj rTI (cj @tz0 (cj @h1 (cj @k14 (cj @k16 @hd))))) ?_; refine hK _ _ ?_; clear hK K
        refine aw_seq ?_
        refine aw_only (fun e' s'' => s'' = s' ∧ e'.n = 40 ∧ e'.m 14 = .sl l.length (byteAV (bs l)) ∧ e'.m 15 = .v (.int .i64 l.length) ∧ e'.m 16 = .v (.int .i64 (k : Nat)) ∧ e'.m 38 = .v (.bool !nameC c)) ?_ ?_
        · rw [hn]
          cases b1 <;> cases b2 <;> cases b3 <;> cases b4 <;> cases b5
          all_goals (refine aw_reg fun K hK => ?_; refine rn (cj rTI (cj @tz0 (cj @h1 (cj @e1 (cj @e2 (cj @e3 (cj @e4 @e5))))))) ?_; refine hK _ _ ?_; clear hK K)
          all_goals ((repeat' refine And.intro ?_ ?_) <;> first | exact rfl | exact fnz (cj @h1 (cj @k14 (cj @k15 @k16))) | skip)
        · clear h1 k14 k15 k16 e1 e2 e3 e4 e5 hd hn e
          rintro e s'' ⟨rfl, h1, k14, k15, k16, k38⟩
          cases hc : nameC c with
          | false =>
            rw [e0, hf hc]
            rw [hc] at k38
            refine aw_cond k38 (fun _ => ?_) (fun h => by cases h)
            exact go0 @h1
          | true =>
            rw [hc] at ht k38
            refine aw_cond k38 (fun h => by cases h) (fun _ => ?_)
            refine go (cj rTI (cj @tz0 (cj @h1 @k16))) ?_
            simp only [block_normal, loop_normal]
            refine ⟨l.length - (k + 1), by omega, k + 1, rfl, by omega, ?_, ?_, ?_, ?_, ht, trivial⟩
            all_goals ((first | refine rn (cj @h1 (cj @k14 (cj @k15 @k16))) ?_ | exact rn0 (cj @h1 (cj @k14 (cj @k15 @k16)))))
            all_goals rfl
      · obtain rfl : k = l.length := by omega
        rw [List.take_length] at ha
        rw [e0, ha]
        refine go (cj rTI (cj @tz0 (cj @h1 (cj @k15 @k16)))) ?_
        refine ifs ?_ ?_ <;> first | exact nope | intro hb
        exact go0 (cj rTI (cj @tz0 @h1))
  · have e0 : isName l = false := by unfold isName; rw [decide_eq_false h0]; rfl
    rw [e0]
    refine acall_of Tryz.func88 rfl rfl (by simp [Tryz.ntmps88]) ?_; rw [Tryz.ntmps88, Tryz.results88]
    by_cases h1 : 1 ≤ l.length
    · have d1 : decide ((l.length : Int) < 1) = false := by simp; omega
      have d2 : decide ((16 : Int) < (l.length : Int)) = true := by simp; omega
      refine go (cj rTI (cj @tz0 (cj @lS (cj @d1 @d2)))) ?_
      refine ifs ?_ ?_ <;> first | exact nope | intro hb
      exact go0 (cj rTI @tz0)
    · have d1 : decide ((l.length : Int) < 1) = true := by simp; omega
      refine go (cj rTI (cj @tz0 (cj @lS @d1))) ?_
      refine ifs ?_ ?_ <;> first | exact nope | intro hb
      exact go0 (cj rTI @tz0)
theorem cname_ax (l : Str) (h : By l) (hl : l.length ≤ 9223372036854775807) : PCall Tryz.prog 35 [SV l] (.v (.bool (isName l))) := by
  refine pcall_of fun s => ?_
  have p := name_ax l h hl
  unfold SV at p ⊢
  refine acall_of Tryz.func35 rfl rfl (by simp [Tryz.ntmps35]) ?_; rw [Tryz.ntmps35, Tryz.results35]
  refine go (cj rTI @tz0) ?_
  refine aw_reg fun K hK => ?_; refine rn (cj rTI @tz0) ?_; refine cont_pure p ?_; refine rn (cj rTI @tz0) ?_; refine hK _ _ ?_; clear hK K
  exact go0 (cj rTI @tz0)
theorem rname_ax (l : Str) (h : By l) (hl : l.length ≤ 9223372036854775807) : PCall Tryz.prog 36 [SV l] (.v (.bool (isName l))) := by
  refine pcall_of fun s => ?_
  have lS := bs_size l
  unfold SV
  refine acall_of Tryz.func36 rfl rfl (by simp [Tryz.ntmps36]) ?_; rw [Tryz.ntmps36, Tryz.results36]
  refine go (cj rTI @tz0) ?_
  refine aw_loop (fun m e s' => ∃ k, m = l.length - k ∧ k ≤ l.length ∧ e.n = 40 ∧ e.m 0 = .v (.string (bs l)) ∧ e.m 3 = .v (.int .i64 (k : Nat)) ∧ (l.take k).all nameC = true ∧ s' = s) l.length ?_ ?_
  · refine ⟨0, by omega, by omega, ?_⟩
    (repeat' refine And.intro ?_ ?_) <;> first | exact rfl | exact fnz (cj rTI (cj @tz0 @lS)) | skip
  · rintro m e s' ⟨k, rfl, hk, h1, k0, k3, ha, rfl⟩
    by_cases hk2 : k < l.length
    · have hd := bs_get l h k
      have hn := nameC_int (l.getD k 0)
      have ht := take_all nameC l 0 k hk2 ha
      have hf := all_not nameC l 0 k hk2
      generalize l.getD k 0 = c at *
      have e1 : decide ((c : Int) < 97) = !decide ((97 : Int) ≤ (c : Int)) := by rw [Bool.eq_iff_iff]; simp
      have e2 : decide ((122 : Int) < (c : Int)) = !decide ((c : Int) ≤ 122) := by rw [Bool.eq_iff_iff]; simp
      have e3 : decide ((c : Int) < 48) = !decide ((48 : Int) ≤ (c : Int)) := by rw [Bool.eq_iff_iff]; simp
      have e4 : decide ((57 : Int) < (c : Int)) = !decide ((c : Int) ≤ 57) := by rw [Bool.eq_iff_iff]; simp
      have e5 : ((c : Int) != 95) = !((c : Int) == 95) := rfl
      generalize decide ((97 : Int) ≤ (c : Int)) = b1 at *
      generalize decide ((c : Int) ≤ 122) = b2 at *
      generalize decide ((48 : Int) ≤ (c : Int)) = b3 at *
      generalize decide ((c : Int) ≤ 57) = b4 at *
      generalize ((c : Int) == 95) = b5 at *
      refine go (cj rTI (cj @tz0 (cj @h1 (cj @k0 (cj @k3 @lS))))) ?_
      refine ifs ?_ ?_ <;> first | exact nope | intro hb
      refine aw_skip ?_
      refine aw_seq ?_
      refine aw_block ?_
      refine aw_seq ?_
      refine aw_reg fun K hK => ?_; refine rn (cj rTI (cj @tz0 (cj @h1 (cj @k0 (cj @k3 (cj @hd @lS)))))) ?_; refine hK _ _ ?_; clear hK K
      refine aw_seq ?_
      refine aw_only (fun e' s'' => s'' = s' ∧ e'.n = 40 ∧ e'.m 0 = .v (.string (bs l)) ∧ e'.m 3 = .v (.int .i64 (k : Nat)) ∧ e'.m 31 = .v (.bool !nameC c)) ?_ ?_
      · rw [hn]
        cases b1 <;> cases b2 <;> cases b3 <;> cases b4 <;> cases b5
        all_goals (refine aw_reg fun K hK => ?_; refine rn (cj rTI (cj @tz0 (cj @h1 (cj @e1 (cj @e2 (cj @e3 (cj @e4 @e5))))))) ?_; refine hK _ _ ?_; clear hK K)
        all_goals ((repeat' refine And.intro ?_ ?_) <;> first | exact rfl | exact fnz (cj @h1 (cj @k0 @k3)) | skip)
      · clear h1 k0 k3 e1 e2 e3 e4 e5 hd hn e
        rintro e s'' ⟨rfl, h1, k0, k3, k31⟩
        cases hc : nameC c with
        | false =>
          have e0 : isName l = false := by unfold isName; rw [hf hc, Bool.and_false]
          rw [e0]
          rw [hc] at k31
          refine aw_cond k31 (fun _ => ?_) (fun h => by cases h)
          exact go0 @h1
        | true =>
          rw [hc] at ht k31
          refine aw_cond k31 (fun h => by cases h) (fun _ => ?_)
          refine go (cj rTI (cj @tz0 (cj @h1 @k3))) ?_
          simp only [block_normal, loop_normal]
          refine ⟨l.length - (k + 1), by omega, k + 1, rfl, by omega, ?_, ?_, ?_, ht, trivial⟩
          all_goals ((first | refine rn (cj @h1 (cj @k0 @k3)) ?_ | exact rn0 (cj @h1 (cj @k0 @k3))))
          all_goals rfl
    · obtain rfl : k = l.length := by omega
      rw [List.take_length] at ha
      have e0 : isName l = (decide ((1 : Int) ≤ (l.length : Int)) && decide ((l.length : Int) ≤ 16)) := by
        unfold isName
        rw [ha, Bool.and_true, Bool.eq_iff_iff]
        simp
        omega
      rw [e0]
      refine go (cj rTI (cj @tz0 (cj @h1 (cj @k0 (cj @k3 @lS))))) ?_
      refine ifs ?_ ?_ <;> first | exact nope | intro hb
      generalize e1 : decide ((1 : Int) ≤ (l.length : Int)) = b1 at *
      generalize e2 : decide ((l.length : Int) ≤ 16) = b2 at *
      cases b1
      · rw [Bool.false_and]
        exact go0 (cj rTI (cj @tz0 (cj @h1 (cj @k0 (cj @lS @e1)))))
      · rw [Bool.true_and]
        exact go0 (cj rTI (cj @tz0 (cj @h1 (cj @k0 (cj @lS (cj @e1 @e2))))))
end Go.Proofs.YtfjelkjlfcafgaaGreatDoor.CardA
end
section
/- Cards: devices, shapes, counts of words. -/
namespace Go.Proofs.YtfjelkjlfcafgaaGreatDoor.CardB
open Go Go.RowKit Go.Proofs.YtfjelkjlfcafgaaGreatDoor.Ax Go.Proofs.YtfjelkjlfcafgaaGreatDoor.Ti Go.Proofs.YtfjelkjlfcafgaaGreatDoor.NumS Go.Proofs.YtfjelkjlfcafgaaGreatDoor.NumT Go.Proofs.YtfjelkjlfcafgaaGreatDoor.CardS Go.Proofs.YtfjelkjlfcafgaaGreatDoor.CardA
set_option linter.unusedSimpArgs false
set_option linter.unusedVariables false
set_option maxRecDepth 4000
set_option maxHeartbeats 2000000
theorem rTI : type_of% (cj @ti3 (cj @ti4 (cj @ti9 (cj @ti5 (cj @ti36 (cj @Nat.zero_add (cj @tz0 (cj @tz1 (cj @tz3 (cj @Nat.mul_one @Int.toNat_natCast)))))))))) := cj @ti3 (cj @ti4 (cj @ti9 (cj @ti5 (cj @ti36 (cj @Nat.zero_add (cj @tz0 (cj @tz1 (cj @tz3 (cj @Nat.mul_one @Int.toNat_natCast)))))))))

theorem dev_index (c : Nat) (hc : c < 256) : decide (0 ≤ Lib.indexByte (bs kinds).data.toList (c : Int).toNat.toUInt8) = kinds.contains c := by
  have : ∀ c : Fin 256, decide (0 ≤ Lib.indexByte (bs kinds).data.toList (Nat.toUInt8 c.val)) = kinds.contains c.val := by decide +kernel
  exact this ⟨c, hc⟩
theorem indexK_ax (c : Nat) (hc : c < 256) : PCall Tryz.prog 89 [.v (.string (ByteArray.mk #[114, 99, 108, 118, 105, 101, 103, 102, 104, 116, 100, 115, 120])), .v (.int .u8 (c : Nat))] (.v (.int .i64 (Lib.indexByte (bs kinds).data.toList (c : Int).toNat.toUInt8))) :=
  pcall_lift (us := [.string (bs kinds), .int .u8 (c : Nat)]) (enters_of Tryz.func89 rfl rfl) (fun k => .v _) fun w => (Tryz.strings_IndexByte (bs kinds) (c : Nat) w).mono fun en w' ⟨h1, h2⟩ => ⟨h1, by rw [h2]; exact Below.refl _ _⟩
theorem name_pos (l : Str) (h : isName l = true) : 0 < l.length := by
  unfold isName at h
  rw [Bool.and_eq_true, decide_eq_true_iff] at h
  omega
theorem by_at (l : Str) (h : By l) (k : Nat) (hk : k < l.length) : l.getD k 0 < 256 := by
  rw [List.getD_eq_getElem?_getD, List.getElem?_eq_getElem hk]
  exact h _ (List.getElem_mem hk)
theorem dev_ax (l : Str) (h : By l) (hl : l.length ≤ 9223372036854775807) : PCall Tryz.prog 37 [SV l] (.v (.bool (isDev l))) := by
  refine pcall_of fun s => ?_
  have p := cname_ax l h hl
  have lS := bs_size l
  unfold SV at p ⊢
  unfold isDev
  refine acall_of Tryz.func37 rfl rfl (by simp [Tryz.ntmps37]) ?_; rw [Tryz.ntmps37, Tryz.results37]
  refine go rTI ?_
  cases hn : isName l with
  | false =>
    rw [hn] at p
    rw [Bool.false_and]
    refine aw_reg fun K hK => ?_; refine rn rTI ?_; refine cont_pure p ?_; refine rn rTI ?_; refine hK _ _ ?_; clear hK K
    exact go0 rTI
  | true =>
    rw [hn] at p
    have hp := name_pos l hn
    have hg := bs_get l h 0
    have hc := by_at l h 0 hp
    have hi := indexK_ax (l.getD 0 0) hc
    have hd := dev_index (l.getD 0 0) hc
    rw [Bool.true_and, ← hd]
    generalize l.getD 0 0 = c at *
    generalize Lib.indexByte (bs kinds).data.toList (c : Int).toNat.toUInt8 = z at *
    refine aw_reg fun K hK => ?_; refine rn (cj rTI (cj @lS @hg)) ?_; refine cont_pure p ?_; refine rn (cj rTI (cj @lS @hg)) ?_; refine cont_pure hi ?_; refine rn (cj rTI (cj @lS @hg)) ?_; refine hK _ _ ?_; clear hK K
    exact go0 rTI
def shapeV (k : Nat) : AV := .tp [.v (.int .i64 (shapeK k).1), .v (.bool (shapeK k).2.1), .v (.bool (shapeK k).2.2)]
theorem shape_ax (k : Nat) : PCall Tryz.prog 81 [.v (.int .u8 (k : Nat))] (shapeV k) := by
  refine pcall_of fun s => ?_
  rw [show idf (shapeV k) = true from rfl]
  obtain ⟨sh, hsh⟩ : ∃ sh, sh = shapeV k := ⟨_, rfl⟩
  rw [← hsh]
  refine acall_of Tryz.func81 rfl rfl (by simp [Tryz.ntmps81]) ?_; rw [Tryz.ntmps81, Tryz.results81]
  refine go rTI ?_
  all_goals (try (refine ifs ?_ ?_ <;> first | exact nope | intro hb))
  all_goals (try (refine go rTI ?_))
  all_goals (try (refine ifs ?_ ?_ <;> first | exact nope | intro hb))
  all_goals (try (refine go rTI ?_))
  all_goals (try (refine ifs ?_ ?_ <;> first | exact nope | intro hb))
  all_goals (try (refine go rTI ?_))
  all_goals (try (refine ifs ?_ ?_ <;> first | exact nope | intro hb))
  all_goals (try (refine go rTI ?_))
  all_goals (try (refine ifs ?_ ?_ <;> first | exact nope | intro hb))
  all_goals (try (refine go rTI ?_))
  all_goals (try (refine ifs ?_ ?_ <;> first | exact nope | intro hb))
  all_goals (try (refine go rTI ?_))
  all_goals (try (refine ifs ?_ ?_ <;> first | exact nope | intro hb))
  all_goals (try (refine go rTI ?_))
  all_goals (try (refine ifs ?_ ?_ <;> first | exact nope | intro hb))
  all_goals (try (refine go rTI ?_))
  all_goals (try (refine ifs ?_ ?_ <;> first | exact nope | intro hb))
  all_goals (try (refine go rTI ?_))
  all_goals (try (refine ifs ?_ ?_ <;> first | exact nope | intro hb))
  all_goals (try (refine go rTI ?_))
  all_goals (try (refine ifs ?_ ?_ <;> first | exact nope | intro hb))
  all_goals (try (refine go rTI ?_))
  all_goals (try (refine ifs ?_ ?_ <;> first | exact nope | intro hb))
  all_goals (try (refine go rTI ?_))
  all_goals (rw [hsh]; unfold shapeV shapeK; (repeat' split) <;> first | (refine ⟨rfl, ?_⟩; exact fun _ _ => rfl) | rfl | (exfalso; omega) | trivial)
theorem bs_inj {a b : Str} (ha : By a) (hb : By b) (h : bs a = bs b) : a = b := by
  have hl : a.length = b.length := by rw [← bs_size a, ← bs_size b, h]
  apply List.ext_getElem hl
  intro i h1 h2
  have e1 := bs_get a ha i
  have e2 := bs_get b hb i
  rw [h, e2] at e1
  rw [List.getD_eq_getElem?_getD, List.getElem?_eq_getElem h2, List.getD_eq_getElem?_getD, List.getElem?_eq_getElem h1] at e1
  exact e1.symm
theorem str_eq (a b : Str) (ha : By a) (hb : By b) : ((bs a).toList == (bs b).toList) = decide (a = b) := by
  rw [Bool.eq_iff_iff, beq_iff_eq, decide_eq_true_iff]
  constructor
  · intro h
    rw [ByteArray.toList_eq, ByteArray.toList_eq] at h
    exact bs_inj ha hb (ByteArray.ext (Array.toList_inj.1 h))
  · intro h; rw [h]
theorem str_ne (a b : Str) (ha : By a) (hb : By b) : (!((bs a).toList == (bs b).toList)) = !decide (a = b) := by rw [str_eq a b ha hb]
theorem by_lit (l : Str) (h : l.all (fun c => decide (c < 256)) = true) : By l := fun c hc => of_decide_eq_true (List.all_eq_true.1 h c hc)
def BL (l : List Str) : Prop := ∀ s ∈ l, By s
theorem hd_SL (l : List Str) (k : Nat) (h : k < l.length) : ((SL l).drop k).head? = some (SV (l.getD k [])) := by
  rw [List.head?_drop]
  simp [SL, List.getElem?_eq_getElem h, List.getD]
end Go.Proofs.YtfjelkjlfcafgaaGreatDoor.CardB
end
section
/- Cards: wave words, counts. -/
namespace Go.Proofs.YtfjelkjlfcafgaaGreatDoor.CardC
open Go Go.RowKit Go.Proofs.YtfjelkjlfcafgaaGreatDoor.Ax Go.Proofs.YtfjelkjlfcafgaaGreatDoor.Ti Go.Proofs.YtfjelkjlfcafgaaGreatDoor.NumS Go.Proofs.YtfjelkjlfcafgaaGreatDoor.NumT Go.Proofs.YtfjelkjlfcafgaaGreatDoor.CardS Go.Proofs.YtfjelkjlfcafgaaGreatDoor.CardA Go.Proofs.YtfjelkjlfcafgaaGreatDoor.CardB
set_option linter.unusedSimpArgs false
set_option linter.unusedVariables false
set_option maxRecDepth 4000
set_option maxHeartbeats 2000000
theorem rTI : type_of% (cj @ti3 (cj @ti4 (cj @ti9 (cj @ti5 (cj @ti36 (cj @Nat.zero_add (cj @tz0 (cj @tz1 (cj @tz3 (cj @Nat.mul_one @Int.toNat_natCast)))))))))) := cj @ti3 (cj @ti4 (cj @ti9 (cj @ti5 (cj @ti36 (cj @Nat.zero_add (cj @tz0 (cj @tz1 (cj @tz3 (cj @Nat.mul_one @Int.toNat_natCast)))))))))

theorem if_dec {α : Type} (p : Prop) [Decidable p] (a b : α) : (if p then a else b) = if decide p = true then a else b := by
  by_cases h : p <;> simp [h]
theorem waveW_ax (w : List Str) (h : BL w) (hl : w.length ≤ 9223372036854775807) : PCall Tryz.prog 143 [TV w] (.v (.bool (waveWords w))) := by
  refine pcall_of fun s => ?_
  unfold TV
  cases w with
  | nil =>
    rw [show waveWords [] = false from rfl]
    refine acall_of Tryz.func143 rfl rfl (by simp [Tryz.ntmps143]) ?_; rw [Tryz.ntmps143, Tryz.results143]
    refine go rTI ?_
    refine ifs ?_ ?_ <;> first | exact nope | intro hb
    exact go0 rTI
  | cons kw r =>
    have hk : By kw := h kw (List.mem_cons_self ..)
    have e1 := str_eq kw sDc hk (by_lit _ rfl)
    have e2 := str_eq kw sPulse hk (by_lit _ rfl)
    have e3 := str_eq kw sPwl hk (by_lit _ rfl)
    have e4 := str_eq kw sTable hk (by_lit _ rfl)
    rw [show bs sDc = ByteArray.mk #[100, 99] from rfl] at e1
    rw [show bs sPulse = ByteArray.mk #[112, 117, 108, 115, 101] from rfl] at e2
    rw [show bs sPwl = ByteArray.mk #[112, 119, 108] from rfl] at e3
    rw [show bs sTable = ByteArray.mk #[116, 97, 98, 108, 101] from rfl] at e4
    rw [List.length_cons] at hl ⊢
    have hn : ((r.length + 1 : Nat) : Int) - 1 = (r.length : Int) := by omega
    have hz : (((r.length + 1 : Nat) : Int) == 0) = false := by simp; omega
    have hd : (SL (kw :: r)).head? = some (.v (.string (bs kw))) := rfl
    generalize hn2 : (r.length : Int) = n at *
    have goal : waveWords (kw :: r) = if kw = sDc then (n == 1) else if kw = sPulse then (n == 7) else if kw = sPwl then (decide (2 ≤ n) && (n % 2 == 0) && decide (n ≤ 32)) else if kw = sTable then (decide (1 ≤ n) && decide (n ≤ 16)) else (n == 0) := by
      show (if kw = sDc then decide (r.length = 1) else if kw = sPulse then decide (r.length = 7) else if kw = sPwl then decide (2 ≤ r.length ∧ r.length % 2 = 0 ∧ r.length ≤ 32) else if kw = sTable then decide (1 ≤ r.length ∧ r.length ≤ 16) else decide (r.length = 0)) = _
      have hm : (n % 2 == 0) = decide (r.length % 2 = 0) := by
        rw [← hn2, Bool.eq_iff_iff]
        simp only [beq_iff_eq, decide_eq_true_eq]
        omega
      rw [hm]
      have c1 : (n == 1) = decide (r.length = 1) := by rw [Bool.eq_iff_iff]; simp only [beq_iff_eq, decide_eq_true_eq]; omega
      have c2 : (n == 7) = decide (r.length = 7) := by rw [Bool.eq_iff_iff]; simp only [beq_iff_eq, decide_eq_true_eq]; omega
      have c3 : (n == 0) = decide (r.length = 0) := by rw [Bool.eq_iff_iff]; simp only [beq_iff_eq, decide_eq_true_eq]; omega
      have c4 : decide (2 ≤ n) = decide (2 ≤ r.length) := by rw [Bool.eq_iff_iff]; simp only [decide_eq_true_eq]; omega
      have c5 : decide (n ≤ 32) = decide (r.length ≤ 32) := by rw [Bool.eq_iff_iff]; simp only [decide_eq_true_eq]; omega
      have c6 : decide (1 ≤ n) = decide (1 ≤ r.length) := by rw [Bool.eq_iff_iff]; simp only [decide_eq_true_eq]; omega
      have c7 : decide (n ≤ 16) = decide (r.length ≤ 16) := by rw [Bool.eq_iff_iff]; simp only [decide_eq_true_eq]; omega
      rw [c1, c2, c3, c4, c5, c6, c7]
      simp only [Bool.decide_and, Bool.and_assoc]
    rw [goal]
    have hnb : 0 ≤ n ∧ n ≤ 9223372036854775806 := by omega
    clear goal hl h
    rw [if_dec (kw = sDc), if_dec (kw = sPulse), if_dec (kw = sPwl), if_dec (kw = sTable)]
    generalize g1 : decide (kw = sDc) = b1 at *
    generalize g2 : decide (kw = sPulse) = b2 at *
    generalize g3 : decide (kw = sPwl) = b3 at *
    generalize g4 : decide (kw = sTable) = b4 at *
    clear g1 g2 g3 g4
    generalize f1 : decide (2 ≤ n) = c1
    generalize f2 : (n % 2 == 0) = c2
    generalize f3 : decide (n ≤ 32) = c3
    generalize f4 : decide (1 ≤ n) = c4
    generalize f5 : decide (n ≤ 16) = c5
    generalize f6 : (n == 1) = c6
    generalize f7 : (n == 7) = c7
    generalize f8 : (n == 0) = c8
    refine acall_of Tryz.func143 rfl rfl (by simp [Tryz.ntmps143]) ?_; rw [Tryz.ntmps143, Tryz.results143]
    refine go (cj rTI @hz) ?_
    refine ifs ?_ ?_ <;> first | exact nope | intro hb
    refine go (cj rTI (cj @hn (cj @hd @e1))) ?_
    cases b1
    rotate_left
    · rw [if_pos rfl]
      refine ifs ?_ ?_ <;> first | exact nope | intro hb
      cases c6 <;> (simp only [decide_eq_true_eq, decide_eq_false_iff_not, beq_iff_eq, beq_eq_false_iff_ne, ne_eq] at f6; first | (exfalso; omega) | ((try simp only [Bool.false_and, Bool.and_false, Bool.true_and, Bool.and_true]); exact go0 rTI))
    rw [if_neg (by decide)]
    refine ifs ?_ ?_ <;> first | exact nope | intro hb
    refine go (cj rTI @e2) ?_
    cases b2
    rotate_left
    · rw [if_pos rfl]
      refine ifs ?_ ?_ <;> first | exact nope | intro hb
      cases c7 <;> (simp only [decide_eq_true_eq, decide_eq_false_iff_not, beq_iff_eq, beq_eq_false_iff_ne, ne_eq] at f7; first | (exfalso; omega) | ((try simp only [Bool.false_and, Bool.and_false, Bool.true_and, Bool.and_true]); exact go0 rTI))
    rw [if_neg (by decide)]
    refine ifs ?_ ?_ <;> first | exact nope | intro hb
    refine go (cj rTI @e3) ?_
    cases b3
    rotate_left
    · rw [if_pos rfl]
      refine ifs ?_ ?_ <;> first | exact nope | intro hb
      cases c1 <;> cases c2 <;> cases c3 <;> (simp only [decide_eq_true_eq, decide_eq_false_iff_not, beq_iff_eq, beq_eq_false_iff_ne, ne_eq] at f1 f2 f3; first | (exfalso; omega) | ((try simp only [Bool.false_and, Bool.and_false, Bool.true_and, Bool.and_true]); exact go0 rTI))
    rw [if_neg (by decide)]
    refine ifs ?_ ?_ <;> first | exact nope | intro hb
    refine go (cj rTI @e4) ?_
    cases b4
    rotate_left
    · rw [if_pos rfl]
      refine ifs ?_ ?_ <;> first | exact nope | intro hb
      cases c4 <;> cases c5 <;> (simp only [decide_eq_true_eq, decide_eq_false_iff_not, beq_iff_eq, beq_eq_false_iff_ne, ne_eq] at f4 f5; first | (exfalso; omega) | ((try simp only [Bool.false_and, Bool.and_false, Bool.true_and, Bool.and_true]); exact go0 rTI))
    rw [if_neg (by decide)]
    refine ifs ?_ ?_ <;> first | exact nope | intro hb
    cases c8 <;> (simp only [decide_eq_true_eq, decide_eq_false_iff_not, beq_iff_eq, beq_eq_false_iff_ne, ne_eq] at f8; first | (exfalso; omega) | ((try simp only [Bool.false_and, Bool.and_false, Bool.true_and, Bool.and_true]); exact go0 rTI))
theorem TV_drop (w : List Str) (k : Nat) : AV.sl (w.length - k) (((SL w).drop k).take (w.length - k)) = TV (w.drop k) := by
  unfold TV SL
  rw [List.map_drop, List.length_drop, List.take_of_length_le (by simp)]
theorem counted_ax (k : Nat) (w : List Str) (h : BL w) (hl : w.length ≤ 9223372036854775807) : PCall Tryz.prog 91 [.v (.int .u8 (k : Nat)), TV w] (.v (.bool (counted k w))) := by
  refine pcall_of fun s => ?_
  have hS := shape_ax k
  have hD := TV_drop w 3
  have hW := waveW_ax (w.drop 3) (fun x hx => h x (List.mem_of_mem_drop hx)) (by rw [List.length_drop]; omega)
  rw [← hD] at hW
  clear hD
  unfold counted want
  have hw1 : (shapeK k).1 ≤ 100 := by unfold shapeK; (repeat' split) <;> decide
  unfold shapeV at hS
  generalize shapeK k = sh at *
  obtain ⟨a, b, c⟩ := sh
  unfold TV
  generalize waveWords (w.drop 3) = ww at *
  generalize SL w = c0 at *
  clear h
  generalize w.length = n at *
  clear w
  simp only at hw1 hS ⊢
  have hn : (0 : Int) ≤ (n : Int) ∧ (n : Int) ≤ 9223372036854775807 := by omega
  have q2 : ((k : Int) == 118) = decide (k = 118) := by rw [Bool.eq_iff_iff]; simp only [beq_iff_eq, decide_eq_true_eq]; omega
  have q3 : ((k : Int) == 105) = decide (k = 105) := by rw [Bool.eq_iff_iff]; simp only [beq_iff_eq, decide_eq_true_eq]; omega
  by_cases q1 : k = 120
  · subst q1
    rw [if_pos rfl]
    rcases (by omega : (3 ≤ n ∧ n ≤ 10) ∨ n < 3 ∨ (3 ≤ n ∧ 10 < n)) with f1 | f1 | f1
    all_goals
      first
        | (have g : 3 ≤ n ∧ n ≤ 10 := by omega
           rw [decide_eq_true g])
        | (have g : ¬ (3 ≤ n ∧ n ≤ 10) := by omega
           rw [decide_eq_false g])
      refine acall_of Tryz.func91 rfl rfl (by simp [Tryz.ntmps91]) ?_; rw [Tryz.ntmps91, Tryz.results91]
      refine go rTI ?_
      refine ifs ?_ ?_ <;> first | exact nope | intro hb
      exact go0 rTI
  · rw [if_neg q1]
    have q1' : ¬ (k : Int) = 120 := by omega
    by_cases q4 : k = 118 ∨ k = 105
    · rw [if_pos q4]
      have e4 : decide (k = 118) = true ∨ decide (k = 118) = false ∧ decide (k = 105) = true := by
        rcases q4 with q | q
        · exact .inl (decide_eq_true q)
        · by_cases q5 : k = 118
          · exact .inl (decide_eq_true q5)
          · exact .inr ⟨decide_eq_false q5, decide_eq_true q⟩
      generalize decide (k = 118) = b2 at *
      generalize decide (k = 105) = b3 at *
      refine acall_of Tryz.func91 rfl rfl (by simp [Tryz.ntmps91]) ?_; rw [Tryz.ntmps91, Tryz.results91]
      refine go rTI ?_
      refine ifs ?_ ?_ <;> first | exact nope | intro hb
      refine go (cj rTI @q2) ?_
      rcases e4 with e4 | ⟨e4, e5⟩
      · subst e4
        refine ifs ?_ ?_ <;> first | exact nope | intro hb
        refine go rTI ?_
        refine ifs ?_ ?_ <;> first | exact nope | intro hb
        by_cases f1 : 4 ≤ n
        · rw [decide_eq_true f1, Bool.true_and]
          refine aw_seq ?_
          refine aw_reg fun K hK => ?_; refine rn rTI ?_; refine cont_pure hW ?_; refine rn rTI ?_; refine hK _ _ ?_; clear hK K
          exact go0 rTI
        · rw [decide_eq_false f1, Bool.false_and]
          exact go0 rTI
      · subst e4 e5
        refine ifs ?_ ?_ <;> first | exact nope | intro hb
        refine go (cj rTI @q3) ?_
        refine ifs ?_ ?_ <;> first | exact nope | intro hb
        by_cases f1 : 4 ≤ n
        · rw [decide_eq_true f1, Bool.true_and]
          refine aw_seq ?_
          refine aw_reg fun K hK => ?_; refine rn rTI ?_; refine cont_pure hW ?_; refine rn rTI ?_; refine hK _ _ ?_; clear hK K
          exact go0 rTI
        · rw [decide_eq_false f1, Bool.false_and]
          exact go0 rTI
    · rw [if_neg q4]
      rw [decide_eq_false (fun x => q4 (.inl x))] at q2
      rw [decide_eq_false (fun x => q4 (.inr x))] at q3
      have hc : decide (n = 1 + a + (if b then 1 else 0) + if c then 1 else 0) = ((n : Int) == 1 + (a : Int) + (if b then 1 else 0) + if c then 1 else 0) := by
        rw [Bool.eq_iff_iff]
        simp only [beq_iff_eq, decide_eq_true_eq]
        cases b <;> cases c <;> simp <;> omega
      rw [hc]
      clear hc q4
      have hw2 : (0 : Int) ≤ (a : Int) ∧ (a : Int) ≤ 100 := by omega
      generalize (a : Int) = a at *
      refine acall_of Tryz.func91 rfl rfl (by simp [Tryz.ntmps91]) ?_; rw [Tryz.ntmps91, Tryz.results91]
      refine go rTI ?_
      refine ifs ?_ ?_ <;> first | exact nope | intro hb
      refine go (cj rTI @q2) ?_
      refine ifs ?_ ?_ <;> first | exact nope | intro hb
      refine go (cj rTI @q3) ?_
      refine ifs ?_ ?_ <;> first | exact nope | intro hb
      refine go rTI ?_
      refine aw_reg fun K hK => ?_; refine rn rTI ?_; refine cont_pure hS ?_; refine rn rTI ?_; refine hK _ _ ?_; clear hK K
      cases b <;> cases c
      all_goals
        refine go rTI ?_
        refine ifs ?_ ?_ <;> first | exact nope | intro hb
        refine go rTI ?_
        refine ifs ?_ ?_ <;> first | exact nope | intro hb
        (first | refine go rTI ?_ | exact go0 rTI)
        try simp only [Bool.false_eq_true, if_false, if_true, Int.add_zero]
end Go.Proofs.YtfjelkjlfcafgaaGreatDoor.CardC
end
section
/- Cards and models, plain: what is written is read; what is read is right. -/
namespace Go.Proofs.YtfjelkjlfcafgaaGreatDoor.CardP
open Go.Proofs.YtfjelkjlfcafgaaGreatDoor.NumS Go.Proofs.YtfjelkjlfcafgaaGreatDoor.RefM Go.Proofs.YtfjelkjlfcafgaaGreatDoor.CardS Go.Proofs.YtfjelkjlfcafgaaGreatDoor.NumH
theorem numE_le (w : Str) (e : Int) (h : numE w e = 0) : e = 0 := by
  unfold numE at h
  split at h
  · assumption
  · exact h
theorem stepE_le (w : Str) (e : Int) (h : stepE w e = 0) : e = 0 := by
  unfold stepE at h
  split at h
  · assumption
  · exact h
theorem dec_step (s : Int) (h0 : 0 ≤ s) (h1 : s ≤ 1000000000) : stepS (decS s) = some s := by
  obtain ⟨n, rfl⟩ := Int.eq_ofNat_of_zero_le h0
  have e : decS (n : Int) = decP n := by
    unfold decS decP
    by_cases hn : n = 0
    · subst hn; rfl
    · rw [if_neg (by omega), if_neg (by omega), if_neg hn]
      rfl
  obtain ⟨_, _, h2, _⟩ := decP_spec n (by omega)
  unfold stepS
  rw [e, h2, if_pos ⟨rfl, by omega⟩]
theorem step_le (w : Str) (s : Int) (h : stepS w = some s) : 0 ≤ s ∧ s ≤ 1000000000 ∧ decS s = w := by
  unfold stepS at h
  split at h
  · rename_i hh
    injection h with h
    subst h
    refine ⟨by omega, by omega, ?_⟩
    have e : decS (digV w : Int) = decP (digV w) := by
      unfold decS decP
      by_cases hn : digV w = 0
      · rw [hn]; rfl
      · rw [if_neg (by omega), if_neg (by omega), if_neg hn]
        rfl
    rw [e, hh.1]
  · cases h
theorem read_eq (w0 : Str) (ws : List Str) : readC (w0 :: ws) = readB w0 ws (w0.getD 0 0) (formOf (w0.getD 0 0) (ws.length + 1)) := rfl
end Go.Proofs.YtfjelkjlfcafgaaGreatDoor.CardP
end
