/- A part of the proof. -/
import Derived.Test.YtdaeancgockacaaGreatDoorPNetBB
import Derived.Shelf.Strings.Builder1
import Derived.Shelf.Strings.Builder2
import Derived.Shelf.Strings.OnBuilder
import Derived.Shelf.Strings.Trim
import Derived.Shelf.Small.Utf8
import Derived.Shelf.Small.Strs
import Derived.Shelf.Small.Wraps
import Derived.Shelf.Strconv.Atoi
import Derived.Shelf.Strconv.Itoa0
import Derived.Shelf.Strconv.Itoa1
import Derived.Shelf.LaysM
import Derived.Shelf.Strconv.Itoa2
import Derived.Shelf.Strconv.Itoa3
import Derived.Shelf.Strconv.Itoa4
import Derived.Shelf.Strconv.AtoiErrFast
import Derived.Shelf.Strconv.ParseIntEmpty
import Derived.Shelf.Strconv.AtoiFail
import Derived.Shelf.Strconv.Clone
import Derived.Shelf.Strconv.SyntaxError
import Derived.Shelf.LaysC
import Derived.Shelf.Strconv.ToError
import Derived.Shelf.Strconv.Lower
import Derived.Shelf.Strconv.ParseUint10
import Derived.Shelf.Strconv.ParseUint10Empty
import Derived.Shelf.Strconv.ParseUint10Any
import Derived.Shelf.Strconv.ParseInt10
import Derived.Shelf.Strconv.AtoiLong
import Derived.Shelf.Strconv.AtoiInnerAll
import Derived.Shelf.Strconv.RangeError
import Derived.Shelf.Strconv.ToErrorRange
import Derived.Shelf.Strconv.AtoiAll
import Derived.Shelf.Strconv.ParseUintEmpty
import Derived.Shelf.Strconv.ParseUint10b64
import Derived.Shelf.Strconv.ParseUint10b32
import Derived.Shelf.Strconv.ParseUint10b16
import Derived.Shelf.Strconv.ParseUint10b8
import Derived.Shelf.Strconv.ParseUint10At
import Derived.Shelf.Strconv.ParseInt10At64
import Derived.Shelf.Strconv.ParseInt10At32
import Derived.Shelf.Strconv.ParseInt10At16
import Derived.Shelf.Strconv.ParseInt10At8
import Derived.Shelf.Strconv.ParseInt10All
import Derived.Shelf.Strconv.ParseIntPublic10
import Derived.Shelf.Strconv.ErrVarParseInt
import Derived.Shelf.Strings.Search1
import Derived.Shelf.Strings.Search2
import Derived.Shelf.Strings.Cut
import Derived.Shelf.Strings.Shaped
import Derived.Shelf.Strings.Prefix
import Derived.Shelf.Unicode.Latin
import Derived.Shelf.Strings.Runes
import Derived.Shelf.Strings.AsciiSet
import Derived.Shelf.Unicode.DecodeSlow
import Derived.Shelf.Strings.FieldsFuncAny
import Derived.Shelf.Unicode.CaseLookup
import Derived.Shelf.Unicode.CaseConvert
import Derived.Shelf.Unicode.CaseTo
import Derived.Shelf.Unicode.CaseLaid
import Derived.Shelf.Slices.Equal
import Derived.Shelf.Slices.Empties2
import Derived.Test.YtdaeancgockacaaGreatDoorProg
import Derived.Test.YtdaeancgockacaaGreatDoorCards
import Derived.Test.YtdaeancgockacaaGreatDoorTie
import Derived.Lib.LaidTab
import Derived.Lib.ItoaNum
import Derived.Lay
import Derived.Carry
set_option linter.unusedVariables false
set_option linter.unusedSimpArgs false
set_option maxHeartbeats 2000000
set_option maxRecDepth 100000
namespace Go.Proofs.YtdaeancgockacaaGreatDoor
namespace NumU
open Go Go.RowKit Ax Ti BigM NumS NumA NumT
theorem rTI:type_of% (J8 @ti3 @ti2 @ti4 @ti9 @ti5 @ti43 @ti23 @ti31):=cj @ti3 (J7 @ti2 @ti4 @ti9 @ti5 @ti43 @ti23 @ti31)
theorem bs_inj {l m:List Nat} (hl:By l) (hm:By m) (h:(bs l).data.toList=(bs m).data.toList):l=m:=by
 apply List.ext_getElem
 ·have:=congrArg List.length h
  rw[show (bs l).data.toList.length=(bs l).size from rfl,show (bs m).data.toList.length=(bs m).size from rfl,bs_size,bs_size] at this
  exact this
 ·intro k h1 h2
  have a:=bs_get l hl k
  have b:=bs_get m hm k
  rw[h,b] at a
  rw[List.getD_eq_getElem?_getD,List.getElem?_eq_getElem h2,List.getD_eq_getElem?_getD,List.getElem?_eq_getElem h1] at a
  exact a.symm
theorem bs_beq (l m:List Nat) (hl:By l) (hm:By m):((bs l).toList==(bs m).toList)=decide (l=m):=by
 rw[ByteArray.toList_eq,ByteArray.toList_eq]
 by_cases e:l=m
 ·rw[e,decide_eq_true rfl]
  exact beq_self_eq_true _
 ·rw[decide_eq_false e]
  exact beq_eq_false_iff_ne.2 fun h=>e (bs_inj hl hm h)
theorem letter_by (k:Nat):By (letterS k):=by
 by_cases h:k<10
 ·have:k=0∨k=1∨k=2∨k=3∨k=4∨k=5∨k=6∨k=7∨k=8∨k=9:=by omega
  rcases this with rfl | rfl | rfl | rfl | rfl | rfl | rfl | rfl | rfl | rfl <;> (intro c hc;simp [letterS] at hc;try omega)
 ·intro c hc
  unfold letterS at hc
  rw[List.getD_eq_getElem?_getD,List.getElem?_eq_none (by simp;omega)] at hc
  cases hc
def tailV:Option Int→AV
 | some e=>.tp [.v (.int .i64 e),.v (.bool true)]
 | none=>.tp [.v (.int .i64 0),.v (.bool false)]
def expL:List Nat→Option Int
 | 101::r=>expS r
 | _=>none
theorem letters_exp (l:List Nat) (h:∀ k,k<10→l≠letterS k):lettersS l=expL l:=by
 have h0:=h 0 (by decide)
 have h1:=h 1 (by decide)
 have h2:=h 2 (by decide)
 have h3:=h 3 (by decide)
 have h4:=h 4 (by decide)
 have h5:=h 5 (by decide)
 have h6:=h 6 (by decide)
 have h7:=h 7 (by decide)
 have h8:=h 8 (by decide)
 have h9:=h 9 (by decide)
 simp only[letterS,List.getD_cons_zero,List.getD_cons_succ] at h0 h1 h2 h3 h4 h5 h6 h7 h8 h9
 unfold lettersS expL
 split <;> simp_all
theorem two_bad (d:List Nat) (h:¬(d.length=1∨d.length=2)):two d=none:=by
 unfold two
 split
 ·simp at h
 ·simp at h
 ·rfl
theorem two_good (d:List Nat) (h1:1≤d.length) (h2:d.length≤2):two d=if ∀ c∈d,isD c=true then some (digV d:Int) else none:=by
 match d with
 | []=>simp at h1
 | [a]=>
  show (if isD a then some ((a:Int)-48) else none)=_
  by_cases q:isD a=true
  ·have:=(isD_iff a).1 q
   rw[if_pos q,if_pos (by simpa using q)]
   congr 1
   simp [digV]
   omega
  ·rw[if_neg q,if_neg (by simpa using q)]
 | [a,b]=>
  show (if isD a&&isD b then some (10*((a:Int)-48)+((b:Int)-48)) else none)=_
  by_cases q:isD a=true∧isD b=true
  ·have h3:=(isD_iff a).1 q.1
   have h4:=(isD_iff b).1 q.2
   rw[if_pos (by simp [q.1,q.2]),if_pos (by simpa using q)]
   congr 1
   simp [digV]
   omega
  ·rw[if_neg (by simpa using q),if_neg (by simpa using q)]
 | _::_::_::_=>simp at h2
theorem digV_two (d:List Nat) (hl:d.length≤2) (h:∀ c∈d,isD c=true):digV d≤99:=by
 match d with
 | []=>simp [digV]
 | [a]=>
  have:=(isD_iff a).1 (h a (by simp))
  simp [digV]
  omega
 | [a,b]=>
  have h3:=(isD_iff a).1 (h a (by simp))
  have h4:=(isD_iff b).1 (h b (by simp))
  simp [digV]
  omega
 | _::_::_::_=>simp at hl
theorem exp_ways (r:List Nat):(∃ d,101::r=101::45::d∧expS r=(two d).map fun v=>-v)∨(∃ d,101::r=101::43::d∧expS r=two d)∨(∃ d,101::r=101::d∧expS r=two d∧r.getD 0 0≠45∧r.getD 0 0≠43):=by
 unfold expS
 split
 ·exact .inl ⟨_,rfl,rfl⟩
 ·exact .inr (.inl ⟨_,rfl,rfl⟩)
 ·rename_i h1 h2
  refine .inr (.inr ⟨r,rfl,rfl,?_,?_⟩)
  ·cases r with
   | nil=>simp
   | cons a r=>
    intro e
    exact h1 r (by simpa using e)
  ·cases r with
   | nil=>simp
   | cons a r=>
    intro e
    exact h2 r (by simpa using e)
end NumU
end Go.Proofs.YtdaeancgockacaaGreatDoor
section
namespace Go.Proofs
open Go.Shelf
def Tryz.lays159_ren:Go.Shelf.Ren:=⟨fun | 159=>117 | 165=>53 | 166=>18 | 167=>140 | 169=>25 | 230=>141 | 204=>142 | 240=>52 | 241=>92 | 197=>169 | 118=>170 | 168=>171 | 270=>172 | 262=>173 | 276=>91 | 277=>121 | 260=>193 | 242=>194 | 313=>195 | 278=>206 | 274=>207 | 275=>208 | n=>n,fun | 9=>9 | 4=>4 | 3=>3 | 5=>5 | 72=>55 | 0=>0 | 76=>58 | 75=>57 | 107=>194 | 70=>52 | 20=>20 | 37=>53 | 127=>111 | 21=>21 | 105=>217 | 164=>137 | 162=>236 | 203=>234 | 119=>251 | 46=>210 | 139=>254 | 138=>253 | 51=>207 | 160=>255 | 208=>268 | 206=>266 | 80=>71 | n=>n,fun | 13=>2 | 3=>5 | 4=>6 | n=>n⟩
theorem Tryz.lays159:Go.Proofs.Lays.n159 Tryz.prog Tryz.lays159_ren:={
 mixed:=by kernel_rfl
 f118:=Tryz.func170.trans (congrArg some (by kernel_rfl))
 f159:=Tryz.func117.trans (congrArg some (by kernel_rfl))
 f165:=Tryz.func53.trans (congrArg some (by kernel_rfl))
 f166:=Tryz.func18.trans (congrArg some (by kernel_rfl))
 f167:=Tryz.func140.trans (congrArg some (by kernel_rfl))
 f168:=Tryz.func171.trans (congrArg some (by kernel_rfl))
 f169:=Tryz.func25.trans (congrArg some (by kernel_rfl))
 f197:=Tryz.func169.trans (congrArg some (by kernel_rfl))
 f204:=Tryz.func142.trans (congrArg some (by kernel_rfl))
 f230:=Tryz.func141.trans (congrArg some (by kernel_rfl))
 f240:=Tryz.func52.trans (congrArg some (by kernel_rfl))
 f241:=Tryz.func92.trans (congrArg some (by kernel_rfl))
 f242:=Tryz.func194.trans (congrArg some (by kernel_rfl))
 f260:=Tryz.func193.trans (congrArg some (by kernel_rfl))
 f262:=Tryz.func173.trans (congrArg some (by kernel_rfl))
 f270:=Tryz.func172.trans (congrArg some (by kernel_rfl))
 f274:=Tryz.func207.trans (congrArg some (by kernel_rfl))
 f275:=Tryz.func208.trans (congrArg some (by kernel_rfl))
 f276:=Tryz.func91.trans (congrArg some (by kernel_rfl))
 f277:=Tryz.func121.trans (congrArg some (by kernel_rfl))
 f278:=Tryz.func206.trans (congrArg some (by kernel_rfl))
 f313:=Tryz.func195.trans (congrArg some (by kernel_rfl))
 t0:=Tryz.underlying0
 a0:=Tryz.isAgg0
 z0:=Tryz.sizeOf0
 v0:=Tryz.zeroValue0
 t3:=Tryz.underlying3
 a3:=Tryz.isAgg3
 z3:=Tryz.sizeOf3
 v3:=Tryz.zeroValue3
 t4:=Tryz.underlying4
 a4:=Tryz.isAgg4
 z4:=Tryz.sizeOf4
 v4:=Tryz.zeroValue4
 t5:=Tryz.underlying5
 a5:=Tryz.isAgg5
 z5:=Tryz.sizeOf5
 v5:=Tryz.zeroValue5
 t9:=Tryz.underlying9
 a9:=Tryz.isAgg9
 z9:=Tryz.sizeOf9
 v9:=Tryz.zeroValue9
 t20:=Tryz.underlying20
 a20:=Tryz.isAgg20
 z20:=Tryz.sizeOf20
 v20:=Tryz.zeroValue20
 t21:=Tryz.underlying21
 a21:=Tryz.isAgg21
 z21:=Tryz.sizeOf21
 v21:=Tryz.zeroValue21
 t37:=Tryz.underlying53
 a37:=Tryz.isAgg53
 z37:=Tryz.sizeOf53
 v37:=Tryz.zeroValue53
 t46:=Tryz.underlying210
 a46:=Tryz.isAgg210
 z46:=Tryz.sizeOf210
 v46:=Tryz.zeroValue210
 t51:=Tryz.underlying207
 a51:=Tryz.isAgg207
 z51:=Tryz.sizeOf207
 v51:=Tryz.zeroValue207
 t70:=Tryz.underlying52
 a70:=Tryz.isAgg52
 z70:=Tryz.sizeOf52
 v70:=Tryz.zeroValue52
 t72:=Tryz.underlying55
 a72:=Tryz.isAgg55
 z72:=Tryz.sizeOf55
 v72:=Tryz.zeroValue55
 t75:=Tryz.underlying57
 a75:=Tryz.isAgg57
 z75:=Tryz.sizeOf57
 v75:=Tryz.zeroValue57
 t76:=Tryz.underlying58
 a76:=Tryz.isAgg58
 z76:=Tryz.sizeOf58
 v76:=Tryz.zeroValue58
 t105:=Tryz.underlying217
 a105:=Tryz.isAgg217
 z105:=Tryz.sizeOf217
 v105:=Tryz.zeroValue217
 t107:=Tryz.underlying194
 a107:=Tryz.isAgg194
 z107:=Tryz.sizeOf194
 v107:=Tryz.zeroValue194
 t119:=Tryz.underlying251
 a119:=Tryz.isAgg251
 z119:=Tryz.sizeOf251
 t127:=Tryz.underlying111
 a127:=Tryz.isAgg111
 z127:=Tryz.sizeOf111
 v127:=Tryz.zeroValue111
 t138:=Tryz.underlying253
 a138:=Tryz.isAgg253
 z138:=Tryz.sizeOf253
 v138:=Tryz.zeroValue253
 t139:=Tryz.underlying254
 a139:=Tryz.isAgg254
 z139:=Tryz.sizeOf254
 v139:=Tryz.zeroValue254
 t160:=Tryz.underlying255
 a160:=Tryz.isAgg255
 z160:=Tryz.sizeOf255
 v160:=Tryz.zeroValue255
 t162:=Tryz.underlying236
 a162:=Tryz.isAgg236
 z162:=Tryz.sizeOf236
 v162:=Tryz.zeroValue236
 t164:=Tryz.underlying137
 a164:=Tryz.isAgg137
 z164:=Tryz.sizeOf137
 v164:=Tryz.zeroValue137
 t203:=Tryz.underlying234
 a203:=Tryz.isAgg234
 z203:=Tryz.sizeOf234
 v203:=Tryz.zeroValue234
 t206:=Tryz.underlying266
 a206:=Tryz.isAgg266
 z206:=Tryz.sizeOf266
 v206:=Tryz.zeroValue266
 t208:=Tryz.underlying268
 a208:=Tryz.isAgg268
 z208:=Tryz.sizeOf268
 v208:=Tryz.zeroValue268
 g3:=by kernel_rfl
 g4:=by kernel_rfl
 g13:=by kernel_rfl }
theorem Tryz.Builder_Extra_159:Builder.Extra Tryz.prog Tryz.lays159_ren:={
 sizeBuilder:=by kernel_rfl
 liesBuilder:=by kernel_rfl
 t5:=Tryz.underlying5
 a5:=Tryz.isAgg5
 z5:=Tryz.sizeOf5
 v5:=Tryz.zeroValue5
 infoByte:=by kernel_rfl
 cellsByte:=by kernel_rfl
 sizeByte:=by kernel_rfl
 neB5:=by decide }
open Go.RowKit in
theorem Tryz.strings_ToLower_ascii (s:ByteArray) (w:World) (hs:s.size≤140737488355328) (hascii:∀ (j:Nat) (b:UInt8),s.data.toList[j]?=some b→b.toNat<128) :
  Calls Tryz.prog 117 #[.string s] w fun e w'=>e=.returned (.string ⟨(Lib.toLowerA s.data.toList).toArray⟩)∧Below w.heap.size w w':=Any.strings_ToLower_ascii Tryz.lays159 Tryz.Builder_Extra_159 s w hs hascii
def Tryz.lays156_ren:Go.Shelf.Ren:=⟨fun | 156=>19 | 165=>53 | 166=>18 | 169=>25 | 240=>52 | 241=>92 | 276=>91 | 277=>121 | n=>n,fun | 31=>43 | 9=>9 | 3=>3 | 4=>4 | 0=>0 | 20=>20 | 72=>55 | 76=>58 | 70=>52 | 37=>53 | 75=>57 | 127=>111 | 164=>137 | 5=>5 | 80=>71 | n=>n,fun | n=>n⟩
theorem Tryz.lays156:Go.Proofs.Lays.n156 Tryz.prog Tryz.lays156_ren:={
 mixed:=by kernel_rfl
 f156:=Tryz.func19.trans (congrArg some (by kernel_rfl))
 f165:=Tryz.func53.trans (congrArg some (by kernel_rfl))
 f166:=Tryz.func18.trans (congrArg some (by kernel_rfl))
 f169:=Tryz.func25.trans (congrArg some (by kernel_rfl))
 f240:=Tryz.func52.trans (congrArg some (by kernel_rfl))
 f241:=Tryz.func92.trans (congrArg some (by kernel_rfl))
 f276:=Tryz.func91.trans (congrArg some (by kernel_rfl))
 f277:=Tryz.func121.trans (congrArg some (by kernel_rfl))
 t0:=Tryz.underlying0
 a0:=Tryz.isAgg0
 z0:=Tryz.sizeOf0
 v0:=Tryz.zeroValue0
 t3:=Tryz.underlying3
 a3:=Tryz.isAgg3
 z3:=Tryz.sizeOf3
 v3:=Tryz.zeroValue3
 t4:=Tryz.underlying4
 a4:=Tryz.isAgg4
 z4:=Tryz.sizeOf4
 v4:=Tryz.zeroValue4
 t9:=Tryz.underlying9
 a9:=Tryz.isAgg9
 z9:=Tryz.sizeOf9
 v9:=Tryz.zeroValue9
 t20:=Tryz.underlying20
 a20:=Tryz.isAgg20
 z20:=Tryz.sizeOf20
 v20:=Tryz.zeroValue20
 t31:=Tryz.underlying43
 a31:=Tryz.isAgg43
 z31:=Tryz.sizeOf43
 v31:=Tryz.zeroValue43
 t37:=Tryz.underlying53
 a37:=Tryz.isAgg53
 z37:=Tryz.sizeOf53
 v37:=Tryz.zeroValue53
 t70:=Tryz.underlying52
 a70:=Tryz.isAgg52
 z70:=Tryz.sizeOf52
 v70:=Tryz.zeroValue52
 t72:=Tryz.underlying55
 a72:=Tryz.isAgg55
 z72:=Tryz.sizeOf55
 v72:=Tryz.zeroValue55
 t75:=Tryz.underlying57
 a75:=Tryz.isAgg57
 z75:=Tryz.sizeOf57
 v75:=Tryz.zeroValue57
 t76:=Tryz.underlying58
 a76:=Tryz.isAgg58
 z76:=Tryz.sizeOf58
 v76:=Tryz.zeroValue58
 t127:=Tryz.underlying111
 a127:=Tryz.isAgg111
 z127:=Tryz.sizeOf111
 v127:=Tryz.zeroValue111
 t164:=Tryz.underlying137
 a164:=Tryz.isAgg137
 z164:=Tryz.sizeOf137
 v164:=Tryz.zeroValue137 }
theorem Tryz.Builder_Extra_156:Builder.Extra Tryz.prog Tryz.lays156_ren:={
 sizeBuilder:=by kernel_rfl
 liesBuilder:=by kernel_rfl
 t5:=Tryz.underlying5
 a5:=Tryz.isAgg5
 z5:=Tryz.sizeOf5
 v5:=Tryz.zeroValue5
 infoByte:=by kernel_rfl
 cellsByte:=by kernel_rfl
 sizeByte:=by kernel_rfl
 neB5:=by decide }
open Go.RowKit in
theorem Tryz.strings_Join_none (a:Option Addr) (c:Nat) (sep:ByteArray) (w:World) :
  Calls Tryz.prog 19 #[.slice a 0 c,.string sep] w fun e w'=>e=.returned (.string ⟨#[]⟩)∧w'=w:=Any.strings_Join_none Tryz.lays156 Tryz.Builder_Extra_156 a c sep w
open Go.RowKit in
theorem Tryz.strings_Join (bk o c:Nat) (xs:List ByteArray) (sep:ByteArray) (w:World) (hcells:∀ (j:Nat) x,xs[j]?=some x→w.cell? ⟨bk,o+j,none⟩=some (.string x)) (hbk:bk<w.heap.size) (hN:xs.length≤140737488355328) (hcap:xs.length≤c) (hlen:(Lib.join (xs.map (·.data.toList)) sep.data.toList).length≤140737488355328) :
  Calls Tryz.prog 19 #[.slice (some ⟨bk,o,none⟩) xs.length c,.string sep] w fun e w'=>e=.returned (.string ⟨(Lib.join (xs.map (·.data.toList)) sep.data.toList).toArray⟩)∧Below w.heap.size w w':=Any.strings_Join Tryz.lays156 Tryz.Builder_Extra_156 bk o c xs sep w hcells hbk hN hcap hlen
def Tryz.lays161_ren:Go.Shelf.Ren:=⟨fun | 161=>147 | 231=>176 | 227=>177 | 233=>178 | 235=>179 | 228=>196 | 197=>169 | 151=>197 | 260=>193 | 152=>209 | 137=>94 | 119=>217 | 224=>167 | 225=>166 | 217=>122 | 266=>150 | n=>n,fun | 9=>9 | 4=>4 | 3=>3 | 5=>5 | 117=>225 | 116=>224 | 0=>0 | 124=>228 | 105=>217 | 21=>21 | 119=>251 | 46=>210 | 139=>254 | 138=>253 | n=>n,fun | 3=>5 | 4=>6 | n=>n⟩
theorem Tryz.lays161:Go.Proofs.Lays.n161 Tryz.prog Tryz.lays161_ren:={
 mixed:=by kernel_rfl
 f119:=Tryz.func217.trans (congrArg some (by kernel_rfl))
 f137:=Tryz.func94.trans (congrArg some (by kernel_rfl))
 f151:=Tryz.func197.trans (congrArg some (by kernel_rfl))
 f152:=Tryz.func209.trans (congrArg some (by kernel_rfl))
 f161:=Tryz.func147.trans (congrArg some (by kernel_rfl))
 f197:=Tryz.func169.trans (congrArg some (by kernel_rfl))
 f217:=Tryz.func122.trans (congrArg some (by kernel_rfl))
 f224:=Tryz.func167.trans (congrArg some (by kernel_rfl))
 f225:=Tryz.func166.trans (congrArg some (by kernel_rfl))
 f227:=Tryz.func177.trans (congrArg some (by kernel_rfl))
 f228:=Tryz.func196.trans (congrArg some (by kernel_rfl))
 f231:=Tryz.func176.trans (congrArg some (by kernel_rfl))
 f233:=Tryz.func178.trans (congrArg some (by kernel_rfl))
 f235:=Tryz.func179.trans (congrArg some (by kernel_rfl))
 f260:=Tryz.func193.trans (congrArg some (by kernel_rfl))
 f266:=Tryz.func150.trans (congrArg some (by kernel_rfl))
 t0:=Tryz.underlying0
 a0:=Tryz.isAgg0
 z0:=Tryz.sizeOf0
 v0:=Tryz.zeroValue0
 t3:=Tryz.underlying3
 a3:=Tryz.isAgg3
 z3:=Tryz.sizeOf3
 v3:=Tryz.zeroValue3
 t4:=Tryz.underlying4
 a4:=Tryz.isAgg4
 z4:=Tryz.sizeOf4
 v4:=Tryz.zeroValue4
 t5:=Tryz.underlying5
 a5:=Tryz.isAgg5
 z5:=Tryz.sizeOf5
 v5:=Tryz.zeroValue5
 t9:=Tryz.underlying9
 a9:=Tryz.isAgg9
 z9:=Tryz.sizeOf9
 v9:=Tryz.zeroValue9
 t21:=Tryz.underlying21
 a21:=Tryz.isAgg21
 z21:=Tryz.sizeOf21
 v21:=Tryz.zeroValue21
 t46:=Tryz.underlying210
 a46:=Tryz.isAgg210
 z46:=Tryz.sizeOf210
 v46:=Tryz.zeroValue210
 t105:=Tryz.underlying217
 a105:=Tryz.isAgg217
 z105:=Tryz.sizeOf217
 v105:=Tryz.zeroValue217
 t116:=Tryz.underlying224
 a116:=Tryz.isAgg224
 z116:=Tryz.sizeOf224
 t117:=Tryz.underlying225
 a117:=Tryz.isAgg225
 z117:=Tryz.sizeOf225
 v117:=Tryz.zeroValue225
 t119:=Tryz.underlying251
 a119:=Tryz.isAgg251
 z119:=Tryz.sizeOf251
 t124:=Tryz.underlying228
 a124:=Tryz.isAgg228
 z124:=Tryz.sizeOf228
 v124:=Tryz.zeroValue228
 t138:=Tryz.underlying253
 a138:=Tryz.isAgg253
 z138:=Tryz.sizeOf253
 v138:=Tryz.zeroValue253
 t139:=Tryz.underlying254
 a139:=Tryz.isAgg254
 z139:=Tryz.sizeOf254
 v139:=Tryz.zeroValue254
 g3:=by kernel_rfl
 g4:=by kernel_rfl }
open Go.RowKit in
theorem Tryz.strings_TrimLeft_one (s:ByteArray) (c:UInt8) (hc:c.toNat<128) (w:World) :
  Calls Tryz.prog 147 #[.string s,.string ⟨#[c]⟩] w fun e w'=>e=.returned (.string ⟨(Lib.trimLeftB s.data.toList c).toArray⟩)∧w'=w:=Any.strings_TrimLeft_one Tryz.lays161 s c hc w
def Tryz.lays162_ren:Go.Shelf.Ren:=⟨fun | 162=>148 | 232=>180 | 227=>177 | 234=>181 | 236=>182 | 228=>196 | 271=>198 | 151=>197 | 120=>210 | 197=>169 | 152=>209 | 260=>193 | 137=>94 | 119=>217 | 224=>167 | 225=>166 | 217=>122 | 266=>150 | n=>n,fun | 9=>9 | 4=>4 | 3=>3 | 5=>5 | 117=>225 | 116=>224 | 0=>0 | 124=>228 | 21=>21 | 105=>217 | 46=>210 | 119=>251 | 139=>254 | 138=>253 | n=>n,fun | 3=>5 | 4=>6 | n=>n⟩
theorem Tryz.lays162:Go.Proofs.Lays.n162 Tryz.prog Tryz.lays162_ren:={
 mixed:=by kernel_rfl
 f119:=Tryz.func217.trans (congrArg some (by kernel_rfl))
 f120:=Tryz.func210.trans (congrArg some (by kernel_rfl))
 f137:=Tryz.func94.trans (congrArg some (by kernel_rfl))
 f151:=Tryz.func197.trans (congrArg some (by kernel_rfl))
 f152:=Tryz.func209.trans (congrArg some (by kernel_rfl))
 f162:=Tryz.func148.trans (congrArg some (by kernel_rfl))
 f197:=Tryz.func169.trans (congrArg some (by kernel_rfl))
 f217:=Tryz.func122.trans (congrArg some (by kernel_rfl))
 f224:=Tryz.func167.trans (congrArg some (by kernel_rfl))
 f225:=Tryz.func166.trans (congrArg some (by kernel_rfl))
 f227:=Tryz.func177.trans (congrArg some (by kernel_rfl))
 f228:=Tryz.func196.trans (congrArg some (by kernel_rfl))
 f232:=Tryz.func180.trans (congrArg some (by kernel_rfl))
 f234:=Tryz.func181.trans (congrArg some (by kernel_rfl))
 f236:=Tryz.func182.trans (congrArg some (by kernel_rfl))
 f260:=Tryz.func193.trans (congrArg some (by kernel_rfl))
 f266:=Tryz.func150.trans (congrArg some (by kernel_rfl))
 f271:=Tryz.func198.trans (congrArg some (by kernel_rfl))
 t0:=Tryz.underlying0
 a0:=Tryz.isAgg0
 z0:=Tryz.sizeOf0
 v0:=Tryz.zeroValue0
 t3:=Tryz.underlying3
 a3:=Tryz.isAgg3
 z3:=Tryz.sizeOf3
 v3:=Tryz.zeroValue3
 t4:=Tryz.underlying4
 a4:=Tryz.isAgg4
 z4:=Tryz.sizeOf4
 v4:=Tryz.zeroValue4
 t5:=Tryz.underlying5
 a5:=Tryz.isAgg5
 z5:=Tryz.sizeOf5
 v5:=Tryz.zeroValue5
 t9:=Tryz.underlying9
 a9:=Tryz.isAgg9
 z9:=Tryz.sizeOf9
 v9:=Tryz.zeroValue9
 t21:=Tryz.underlying21
 a21:=Tryz.isAgg21
 z21:=Tryz.sizeOf21
 v21:=Tryz.zeroValue21
 t46:=Tryz.underlying210
 a46:=Tryz.isAgg210
 z46:=Tryz.sizeOf210
 v46:=Tryz.zeroValue210
 t105:=Tryz.underlying217
 a105:=Tryz.isAgg217
 z105:=Tryz.sizeOf217
 v105:=Tryz.zeroValue217
 t116:=Tryz.underlying224
 a116:=Tryz.isAgg224
 z116:=Tryz.sizeOf224
 t117:=Tryz.underlying225
 a117:=Tryz.isAgg225
 z117:=Tryz.sizeOf225
 v117:=Tryz.zeroValue225
 t119:=Tryz.underlying251
 a119:=Tryz.isAgg251
 z119:=Tryz.sizeOf251
 t124:=Tryz.underlying228
 a124:=Tryz.isAgg228
 z124:=Tryz.sizeOf228
 v124:=Tryz.zeroValue228
 t138:=Tryz.underlying253
 a138:=Tryz.isAgg253
 z138:=Tryz.sizeOf253
 v138:=Tryz.zeroValue253
 t139:=Tryz.underlying254
 a139:=Tryz.isAgg254
 z139:=Tryz.sizeOf254
 v139:=Tryz.zeroValue254
 g3:=by kernel_rfl
 g4:=by kernel_rfl }
open Go.RowKit in
theorem Tryz.strings_TrimRight_one (s:ByteArray) (c:UInt8) (hc:c.toNat<128) (w:World) (hs:s.size≤9223372036854775807) :
  Calls Tryz.prog 148 #[.string s,.string ⟨#[c]⟩] w fun e w'=>e=.returned (.string ⟨(Lib.trimRightB s.data.toList c).toArray⟩)∧w'=w:=Any.strings_TrimRight_one Tryz.lays162 s c hc w hs
def Tryz.lays137_ren:Go.Shelf.Ren:=⟨fun | 137=>94 | 217=>122 | 266=>150 | n=>n,fun | 9=>9 | 5=>5 | 3=>3 | n=>n,fun | n=>n⟩
theorem Tryz.lays137:Go.Proofs.Lays.n137 Tryz.prog Tryz.lays137_ren:={
 mixed:=by kernel_rfl
 f137:=Tryz.func94.trans (congrArg some (by kernel_rfl))
 f217:=Tryz.func122.trans (congrArg some (by kernel_rfl))
 f266:=Tryz.func150.trans (congrArg some (by kernel_rfl))
 t3:=Tryz.underlying3
 a3:=Tryz.isAgg3
 z3:=Tryz.sizeOf3
 v3:=Tryz.zeroValue3
 t5:=Tryz.underlying5
 a5:=Tryz.isAgg5
 z5:=Tryz.sizeOf5
 v5:=Tryz.zeroValue5
 t9:=Tryz.underlying9
 a9:=Tryz.isAgg9
 z9:=Tryz.sizeOf9
 v9:=Tryz.zeroValue9 }
open Go.RowKit in
theorem Tryz.strings_IndexByte (s:ByteArray) (c:Int) (w:World) :
  Calls Tryz.prog 94 #[.string s,.int .u8 c] w fun e w'=>e=.returned (.int .i64 (Lib.indexByte s.data.toList c.toNat.toUInt8))∧w'=w:=Any.strings_IndexByte Tryz.lays137 s c w
def Tryz.lays103_ren:Go.Shelf.Ren:=⟨fun | 103=>143 | 210=>174 | 206=>175 | n=>n,fun | 9=>9 | 4=>4 | 24=>195 | 3=>3 | n=>n,fun | n=>n⟩
theorem Tryz.lays103:Go.Proofs.Lays.n103 Tryz.prog Tryz.lays103_ren:={
 mixed:=by kernel_rfl
 f103:=Tryz.func143.trans (congrArg some (by kernel_rfl))
 f206:=Tryz.func175.trans (congrArg some (by kernel_rfl))
 f210:=Tryz.func174.trans (congrArg some (by kernel_rfl))
 t3:=Tryz.underlying3
 a3:=Tryz.isAgg3
 z3:=Tryz.sizeOf3
 v3:=Tryz.zeroValue3
 t4:=Tryz.underlying4
 a4:=Tryz.isAgg4
 z4:=Tryz.sizeOf4
 v4:=Tryz.zeroValue4
 t9:=Tryz.underlying9
 a9:=Tryz.isAgg9
 z9:=Tryz.sizeOf9
 v9:=Tryz.zeroValue9
 t24:=Tryz.underlying195
 a24:=Tryz.isAgg195
 z24:=Tryz.sizeOf195
 v24:=Tryz.zeroValue195 }
open Go.RowKit in
theorem Tryz.strings_CutPrefix (s p:ByteArray) (w:World) :
  Calls Tryz.prog 143 #[.string s,.string p] w fun e w'=>e=.returned (.tuple #[.string ⟨(Lib.trimPrefix s.data.toList p.data.toList).toArray⟩,.bool (Lib.hasPrefix s.data.toList p.data.toList)])∧w'=w:=Any.strings_CutPrefix Tryz.lays103 s p w
def Tryz.lays172_ren:Go.Shelf.Ren:=⟨fun | 172=>151 | 244=>185 | 245=>184 | 247=>183 | 279=>200 | 280=>201 | 281=>202 | 282=>203 | 287=>199 | 316=>213 | 171=>62 | 205=>214 | 321=>211 | 322=>212 | 243=>104 | 246=>103 | 283=>125 | 284=>126 | 285=>127 | 286=>128 | 129=>153 | 317=>152 | 318=>154 | 319=>155 | 320=>156 | 337=>186 | 338=>187 | n=>n,fun | 9=>9 | 3=>3 | 75=>57 | 76=>58 | 4=>4 | 5=>5 | 167=>239 | 37=>53 | 0=>0 | 85=>202 | 2=>2 | 168=>242 | 53=>150 | 175=>240 | 46=>210 | 210=>261 | 127=>111 | 145=>271 | 143=>269 | 21=>21 | 171=>168 | 173=>171 | 212=>206 | 51=>207 | 20=>20 | 213=>208 | 232=>245 | 233=>246 | 80=>71 | n=>n,fun | 15=>7 | 16=>8 | 17=>1 | 18=>3 | 19=>4 | n=>n⟩
theorem Tryz.lays172:Go.Proofs.Lays.n172 Tryz.prog Tryz.lays172_ren:={
 mixed:=by kernel_rfl
 f129:=Tryz.func153.trans (congrArg some (by kernel_rfl))
 f171:=Tryz.func62.trans (congrArg some (by kernel_rfl))
 f172:=Tryz.func151.trans (congrArg some (by kernel_rfl))
 f205:=Tryz.func214.trans (congrArg some (by kernel_rfl))
 f243:=Tryz.func104.trans (congrArg some (by kernel_rfl))
 f244:=Tryz.func185.trans (congrArg some (by kernel_rfl))
 f245:=Tryz.func184.trans (congrArg some (by kernel_rfl))
 f246:=Tryz.func103.trans (congrArg some (by kernel_rfl))
 f247:=Tryz.func183.trans (congrArg some (by kernel_rfl))
 f279:=Tryz.func200.trans (congrArg some (by kernel_rfl))
 f280:=Tryz.func201.trans (congrArg some (by kernel_rfl))
 f281:=Tryz.func202.trans (congrArg some (by kernel_rfl))
 f282:=Tryz.func203.trans (congrArg some (by kernel_rfl))
 f283:=Tryz.func125.trans (congrArg some (by kernel_rfl))
 f284:=Tryz.func126.trans (congrArg some (by kernel_rfl))
 f285:=Tryz.func127.trans (congrArg some (by kernel_rfl))
 f286:=Tryz.func128.trans (congrArg some (by kernel_rfl))
 f287:=Tryz.func199.trans (congrArg some (by kernel_rfl))
 f316:=Tryz.func213.trans (congrArg some (by kernel_rfl))
 f317:=Tryz.func152.trans (congrArg some (by kernel_rfl))
 f318:=Tryz.func154.trans (congrArg some (by kernel_rfl))
 f319:=Tryz.func155.trans (congrArg some (by kernel_rfl))
 f320:=Tryz.func156.trans (congrArg some (by kernel_rfl))
 f321:=Tryz.func211.trans (congrArg some (by kernel_rfl))
 f322:=Tryz.func212.trans (congrArg some (by kernel_rfl))
 f337:=Tryz.func186.trans (congrArg some (by kernel_rfl))
 f338:=Tryz.func187.trans (congrArg some (by kernel_rfl))
 t0:=Tryz.underlying0
 a0:=Tryz.isAgg0
 z0:=Tryz.sizeOf0
 v0:=Tryz.zeroValue0
 t2:=Tryz.underlying2
 a2:=Tryz.isAgg2
 z2:=Tryz.sizeOf2
 v2:=Tryz.zeroValue2
 t3:=Tryz.underlying3
 a3:=Tryz.isAgg3
 z3:=Tryz.sizeOf3
 v3:=Tryz.zeroValue3
 t4:=Tryz.underlying4
 a4:=Tryz.isAgg4
 z4:=Tryz.sizeOf4
 v4:=Tryz.zeroValue4
 t5:=Tryz.underlying5
 a5:=Tryz.isAgg5
 z5:=Tryz.sizeOf5
 v5:=Tryz.zeroValue5
 t9:=Tryz.underlying9
 a9:=Tryz.isAgg9
 z9:=Tryz.sizeOf9
 v9:=Tryz.zeroValue9
 t20:=Tryz.underlying20
 a20:=Tryz.isAgg20
 z20:=Tryz.sizeOf20
 v20:=Tryz.zeroValue20
 t21:=Tryz.underlying21
 a21:=Tryz.isAgg21
 z21:=Tryz.sizeOf21
 v21:=Tryz.zeroValue21
 t37:=Tryz.underlying53
 a37:=Tryz.isAgg53
 z37:=Tryz.sizeOf53
 v37:=Tryz.zeroValue53
 t46:=Tryz.underlying210
 a46:=Tryz.isAgg210
 z46:=Tryz.sizeOf210
 v46:=Tryz.zeroValue210
 t51:=Tryz.underlying207
 a51:=Tryz.isAgg207
 z51:=Tryz.sizeOf207
 v51:=Tryz.zeroValue207
 t53:=Tryz.underlying150
 a53:=Tryz.isAgg150
 z53:=Tryz.sizeOf150
 v53:=Tryz.zeroValue150
 t75:=Tryz.underlying57
 a75:=Tryz.isAgg57
 z75:=Tryz.sizeOf57
 v75:=Tryz.zeroValue57
 t76:=Tryz.underlying58
 a76:=Tryz.isAgg58
 z76:=Tryz.sizeOf58
 v76:=Tryz.zeroValue58
 t85:=Tryz.underlying202
 a85:=Tryz.isAgg202
 z85:=Tryz.sizeOf202
 v85:=Tryz.zeroValue202
 t127:=Tryz.underlying111
 a127:=Tryz.isAgg111
 z127:=Tryz.sizeOf111
 v127:=Tryz.zeroValue111
 t143:=Tryz.underlying269
 a143:=Tryz.isAgg269
 z143:=Tryz.sizeOf269
 v143:=Tryz.zeroValue269
 t145:=Tryz.underlying271
 a145:=Tryz.isAgg271
 z145:=Tryz.sizeOf271
 v145:=Tryz.zeroValue271
 t167:=Tryz.underlying239
 a167:=Tryz.isAgg239
 z167:=Tryz.sizeOf239
 v167:=Tryz.zeroValue239
 t168:=Tryz.underlying242
 a168:=Tryz.isAgg242
 z168:=Tryz.sizeOf242
 v168:=Tryz.zeroValue242
 t171:=Tryz.underlying168
 a171:=Tryz.isAgg168
 z171:=Tryz.sizeOf168
 v171:=Tryz.zeroValue168
 t173:=Tryz.underlying171
 a173:=Tryz.isAgg171
 z173:=Tryz.sizeOf171
 v173:=Tryz.zeroValue171
 t175:=Tryz.underlying240
 a175:=Tryz.isAgg240
 z175:=Tryz.sizeOf240
 v175:=Tryz.zeroValue240
 t210:=Tryz.underlying261
 a210:=Tryz.isAgg261
 z210:=Tryz.sizeOf261
 v210:=Tryz.zeroValue261
 t212:=Tryz.underlying206
 a212:=Tryz.isAgg206
 z212:=Tryz.sizeOf206
 v212:=Tryz.zeroValue206
 t213:=Tryz.underlying208
 a213:=Tryz.isAgg208
 z213:=Tryz.sizeOf208
 t232:=Tryz.underlying245
 a232:=Tryz.isAgg245
 z232:=Tryz.sizeOf245
 v232:=Tryz.zeroValue245
 t233:=Tryz.underlying246
 a233:=Tryz.isAgg246
 z233:=Tryz.sizeOf246
 v233:=Tryz.zeroValue246
 g15:=by kernel_rfl
 g16:=by kernel_rfl
 g17:=by kernel_rfl
 g18:=by kernel_rfl
 g19:=by kernel_rfl }
open Go.RowKit in
theorem Tryz.strconv_Atoi (s:ByteArray) (n:Int) (hl:s.size≤18) (h:Lib.atoi s.data.toList=some n) (w:World) :
  Calls Tryz.prog 151 #[.string s] w fun e w'=>e=.returned (.tuple #[.int .i64 n,.nilIface])∧∃ t,w'=Lib.bytesWorld w 5 t:=Any.strconv_Atoi Tryz.lays172 s n hl h w
def Tryz.laysM171_ren:Go.Shelf.Ren:=⟨fun | 171=>62 | 243=>104 | 246=>103 | 283=>125 | 284=>126 | 285=>127 | 286=>128 | 129=>153 | 317=>152 | 318=>154 | 319=>155 | 320=>156 | 337=>186 | 338=>187 | n=>n,fun | 3=>3 | 9=>9 | 2=>2 | 4=>4 | 171=>168 | 0=>0 | 53=>150 | 37=>53 | 5=>5 | 173=>171 | 212=>206 | 51=>207 | 20=>20 | 213=>208 | 46=>210 | 232=>245 | 233=>246 | n=>n,fun | 17=>1 | 18=>3 | 19=>4 | n=>n⟩
theorem Tryz.laysM171:Go.Proofs.LaysM.n171 Tryz.prog Tryz.laysM171_ren:={
 mixed:=by kernel_rfl
 f129:=Tryz.func153.trans (congrArg some (by kernel_rfl))
 f171:=Tryz.func62.trans (congrArg some (by kernel_rfl))
 f243:=Tryz.func104.trans (congrArg some (by kernel_rfl))
 f246:=Tryz.func103.trans (congrArg some (by kernel_rfl))
 f283:=Tryz.func125.trans (congrArg some (by kernel_rfl))
 f284:=Tryz.func126.trans (congrArg some (by kernel_rfl))
 f285:=Tryz.func127.trans (congrArg some (by kernel_rfl))
 f286:=Tryz.func128.trans (congrArg some (by kernel_rfl))
 f317:=Tryz.func152.trans (congrArg some (by kernel_rfl))
 f318:=Tryz.func154.trans (congrArg some (by kernel_rfl))
 f319:=Tryz.func155.trans (congrArg some (by kernel_rfl))
 f320:=Tryz.func156.trans (congrArg some (by kernel_rfl))
 f337:=Tryz.func186.trans (congrArg some (by kernel_rfl))
 f338:=Tryz.func187.trans (congrArg some (by kernel_rfl))
 t0:=Tryz.underlying0
 a0:=Tryz.isAgg0
 z0:=Tryz.sizeOf0
 v0:=Tryz.zeroValue0
 t2:=Tryz.underlying2
 a2:=Tryz.isAgg2
 z2:=Tryz.sizeOf2
 v2:=Tryz.zeroValue2
 t3:=Tryz.underlying3
 a3:=Tryz.isAgg3
 z3:=Tryz.sizeOf3
 v3:=Tryz.zeroValue3
 t4:=Tryz.underlying4
 a4:=Tryz.isAgg4
 z4:=Tryz.sizeOf4
 v4:=Tryz.zeroValue4
 t5:=Tryz.underlying5
 a5:=Tryz.isAgg5
 z5:=Tryz.sizeOf5
 v5:=Tryz.zeroValue5
 t9:=Tryz.underlying9
 a9:=Tryz.isAgg9
 z9:=Tryz.sizeOf9
 v9:=Tryz.zeroValue9
 t20:=Tryz.underlying20
 a20:=Tryz.isAgg20
 z20:=Tryz.sizeOf20
 v20:=Tryz.zeroValue20
 t37:=Tryz.underlying53
 a37:=Tryz.isAgg53
 z37:=Tryz.sizeOf53
 v37:=Tryz.zeroValue53
 t46:=Tryz.underlying210
 a46:=Tryz.isAgg210
 z46:=Tryz.sizeOf210
 v46:=Tryz.zeroValue210
 t51:=Tryz.underlying207
 a51:=Tryz.isAgg207
 z51:=Tryz.sizeOf207
 v51:=Tryz.zeroValue207
 t53:=Tryz.underlying150
 a53:=Tryz.isAgg150
 z53:=Tryz.sizeOf150
 v53:=Tryz.zeroValue150
 t171:=Tryz.underlying168
 a171:=Tryz.isAgg168
 z171:=Tryz.sizeOf168
 v171:=Tryz.zeroValue168
 t173:=Tryz.underlying171
 a173:=Tryz.isAgg171
 z173:=Tryz.sizeOf171
 v173:=Tryz.zeroValue171
 t212:=Tryz.underlying206
 a212:=Tryz.isAgg206
 z212:=Tryz.sizeOf206
 v212:=Tryz.zeroValue206
 t213:=Tryz.underlying208
 a213:=Tryz.isAgg208
 z213:=Tryz.sizeOf208
 t232:=Tryz.underlying245
 a232:=Tryz.isAgg245
 z232:=Tryz.sizeOf245
 v232:=Tryz.zeroValue245
 t233:=Tryz.underlying246
 a233:=Tryz.isAgg246
 z233:=Tryz.sizeOf246
 v233:=Tryz.zeroValue246
 g17:=by kernel_rfl
 g18:=by kernel_rfl
 g19:=by kernel_rfl
 i0:=by kernel_rfl
 i2:=by kernel_rfl
 i3:=by kernel_rfl
 i4:=by kernel_rfl
 i5:=by kernel_rfl
 i9:=by kernel_rfl
 i20:=by kernel_rfl
 i37:=by kernel_rfl
 i46:=by kernel_rfl
 i51:=by kernel_rfl
 i53:=by kernel_rfl
 i171:=by kernel_rfl
 i173:=by kernel_rfl
 i212:=by kernel_rfl
 i232:=by kernel_rfl
 i233:=by kernel_rfl
 m17:=by kernel_rfl
 m18:=by kernel_rfl
 m19:=by kernel_rfl }
open Go.RowKit Go.Sort Go.Lib in
theorem Tryz.strconv_Itoa (n:Int) (h0 : -9223372036854775808≤n) (h1:n≤9223372036854775807) (w:World) (htab:Lib.TabIs Tryz.prog w "internal/strconv.uint64pow10" .u64 Lib.pow10Tab) :
  Calls Tryz.prog 62 #[.int .i64 n] w fun e w'=>e=.returned (.string ⟨(Lib.itoa n).toArray⟩)∧∃ k os,w'=grow (w.drewN k) os:=Any.strconv_Itoa Tryz.laysM171 n h0 h1 w htab
def Tryz.lays171_ren:Go.Shelf.Ren:=⟨fun | 171=>62 | 243=>104 | 246=>103 | 283=>125 | 284=>126 | 285=>127 | 286=>128 | 129=>153 | 317=>152 | 318=>154 | 319=>155 | 320=>156 | 337=>186 | 338=>187 | n=>n,fun | 3=>3 | 9=>9 | 2=>2 | 4=>4 | 171=>168 | 0=>0 | 53=>150 | 37=>53 | 5=>5 | 173=>171 | 212=>206 | 51=>207 | 20=>20 | 213=>208 | 46=>210 | 232=>245 | 233=>246 | n=>n,fun | 17=>1 | 18=>3 | 19=>4 | n=>n⟩
theorem Tryz.lays171:Go.Proofs.Lays.n171 Tryz.prog Tryz.lays171_ren:={
 mixed:=by kernel_rfl
 f129:=Tryz.func153.trans (congrArg some (by kernel_rfl))
 f171:=Tryz.func62.trans (congrArg some (by kernel_rfl))
 f243:=Tryz.func104.trans (congrArg some (by kernel_rfl))
 f246:=Tryz.func103.trans (congrArg some (by kernel_rfl))
 f283:=Tryz.func125.trans (congrArg some (by kernel_rfl))
 f284:=Tryz.func126.trans (congrArg some (by kernel_rfl))
 f285:=Tryz.func127.trans (congrArg some (by kernel_rfl))
 f286:=Tryz.func128.trans (congrArg some (by kernel_rfl))
 f317:=Tryz.func152.trans (congrArg some (by kernel_rfl))
 f318:=Tryz.func154.trans (congrArg some (by kernel_rfl))
 f319:=Tryz.func155.trans (congrArg some (by kernel_rfl))
 f320:=Tryz.func156.trans (congrArg some (by kernel_rfl))
 f337:=Tryz.func186.trans (congrArg some (by kernel_rfl))
 f338:=Tryz.func187.trans (congrArg some (by kernel_rfl))
 t0:=Tryz.underlying0
 a0:=Tryz.isAgg0
 z0:=Tryz.sizeOf0
 v0:=Tryz.zeroValue0
 t2:=Tryz.underlying2
 a2:=Tryz.isAgg2
 z2:=Tryz.sizeOf2
 v2:=Tryz.zeroValue2
 t3:=Tryz.underlying3
 a3:=Tryz.isAgg3
 z3:=Tryz.sizeOf3
 v3:=Tryz.zeroValue3
 t4:=Tryz.underlying4
 a4:=Tryz.isAgg4
 z4:=Tryz.sizeOf4
 v4:=Tryz.zeroValue4
 t5:=Tryz.underlying5
 a5:=Tryz.isAgg5
 z5:=Tryz.sizeOf5
 v5:=Tryz.zeroValue5
 t9:=Tryz.underlying9
 a9:=Tryz.isAgg9
 z9:=Tryz.sizeOf9
 v9:=Tryz.zeroValue9
 t20:=Tryz.underlying20
 a20:=Tryz.isAgg20
 z20:=Tryz.sizeOf20
 v20:=Tryz.zeroValue20
 t37:=Tryz.underlying53
 a37:=Tryz.isAgg53
 z37:=Tryz.sizeOf53
 v37:=Tryz.zeroValue53
 t46:=Tryz.underlying210
 a46:=Tryz.isAgg210
 z46:=Tryz.sizeOf210
 v46:=Tryz.zeroValue210
 t51:=Tryz.underlying207
 a51:=Tryz.isAgg207
 z51:=Tryz.sizeOf207
 v51:=Tryz.zeroValue207
 t53:=Tryz.underlying150
 a53:=Tryz.isAgg150
 z53:=Tryz.sizeOf150
 v53:=Tryz.zeroValue150
 t171:=Tryz.underlying168
 a171:=Tryz.isAgg168
 z171:=Tryz.sizeOf168
 v171:=Tryz.zeroValue168
 t173:=Tryz.underlying171
 a173:=Tryz.isAgg171
 z173:=Tryz.sizeOf171
 v173:=Tryz.zeroValue171
 t212:=Tryz.underlying206
 a212:=Tryz.isAgg206
 z212:=Tryz.sizeOf206
 v212:=Tryz.zeroValue206
 t213:=Tryz.underlying208
 a213:=Tryz.isAgg208
 z213:=Tryz.sizeOf208
 t232:=Tryz.underlying245
 a232:=Tryz.isAgg245
 z232:=Tryz.sizeOf245
 v232:=Tryz.zeroValue245
 t233:=Tryz.underlying246
 a233:=Tryz.isAgg246
 z233:=Tryz.sizeOf246
 v233:=Tryz.zeroValue246
 g17:=by kernel_rfl
 g18:=by kernel_rfl
 g19:=by kernel_rfl }
open Go.RowKit Go.Sort Go.Lib in
theorem Tryz.strconv_Itoa_small (i:Nat) (hi:i<100) (w:World) :
  Calls Tryz.prog 62 #[.int .i64 i] w fun e w'=>e=.returned (.string ⟨(Lib.decDigits i).toArray⟩)∧w'=w:=Any.strconv_Itoa_small Tryz.lays171 i hi w
def Tryz.laysM173_ren:Go.Shelf.Ren:=⟨fun | 173=>61 | 246=>103 | 283=>125 | 284=>126 | 285=>127 | 286=>128 | 129=>153 | 317=>152 | 318=>154 | 319=>155 | 320=>156 | 337=>186 | 338=>187 | n=>n,fun | 2=>2 | 3=>3 | 9=>9 | 4=>4 | 171=>168 | 0=>0 | 53=>150 | 37=>53 | 5=>5 | 173=>171 | 212=>206 | 51=>207 | 20=>20 | 213=>208 | 46=>210 | 232=>245 | 233=>246 | n=>n,fun | 17=>1 | 18=>3 | 19=>4 | n=>n⟩
theorem Tryz.laysM173:Go.Proofs.LaysM.n173 Tryz.prog Tryz.laysM173_ren:={
 mixed:=by kernel_rfl
 f129:=Tryz.func153.trans (congrArg some (by kernel_rfl))
 f173:=Tryz.func61.trans (congrArg some (by kernel_rfl))
 f246:=Tryz.func103.trans (congrArg some (by kernel_rfl))
 f283:=Tryz.func125.trans (congrArg some (by kernel_rfl))
 f284:=Tryz.func126.trans (congrArg some (by kernel_rfl))
 f285:=Tryz.func127.trans (congrArg some (by kernel_rfl))
 f286:=Tryz.func128.trans (congrArg some (by kernel_rfl))
 f317:=Tryz.func152.trans (congrArg some (by kernel_rfl))
 f318:=Tryz.func154.trans (congrArg some (by kernel_rfl))
 f319:=Tryz.func155.trans (congrArg some (by kernel_rfl))
 f320:=Tryz.func156.trans (congrArg some (by kernel_rfl))
 f337:=Tryz.func186.trans (congrArg some (by kernel_rfl))
 f338:=Tryz.func187.trans (congrArg some (by kernel_rfl))
 t0:=Tryz.underlying0
 a0:=Tryz.isAgg0
 z0:=Tryz.sizeOf0
 v0:=Tryz.zeroValue0
 t2:=Tryz.underlying2
 a2:=Tryz.isAgg2
 z2:=Tryz.sizeOf2
 v2:=Tryz.zeroValue2
 t3:=Tryz.underlying3
 a3:=Tryz.isAgg3
 z3:=Tryz.sizeOf3
 v3:=Tryz.zeroValue3
 t4:=Tryz.underlying4
 a4:=Tryz.isAgg4
 z4:=Tryz.sizeOf4
 v4:=Tryz.zeroValue4
 t5:=Tryz.underlying5
 a5:=Tryz.isAgg5
 z5:=Tryz.sizeOf5
 v5:=Tryz.zeroValue5
 t9:=Tryz.underlying9
 a9:=Tryz.isAgg9
 z9:=Tryz.sizeOf9
 v9:=Tryz.zeroValue9
 t20:=Tryz.underlying20
 a20:=Tryz.isAgg20
 z20:=Tryz.sizeOf20
 v20:=Tryz.zeroValue20
 t37:=Tryz.underlying53
 a37:=Tryz.isAgg53
 z37:=Tryz.sizeOf53
 v37:=Tryz.zeroValue53
 t46:=Tryz.underlying210
 a46:=Tryz.isAgg210
 z46:=Tryz.sizeOf210
 v46:=Tryz.zeroValue210
 t51:=Tryz.underlying207
 a51:=Tryz.isAgg207
 z51:=Tryz.sizeOf207
 v51:=Tryz.zeroValue207
 t53:=Tryz.underlying150
 a53:=Tryz.isAgg150
 z53:=Tryz.sizeOf150
 v53:=Tryz.zeroValue150
 t171:=Tryz.underlying168
 a171:=Tryz.isAgg168
 z171:=Tryz.sizeOf168
 v171:=Tryz.zeroValue168
 t173:=Tryz.underlying171
 a173:=Tryz.isAgg171
 z173:=Tryz.sizeOf171
 v173:=Tryz.zeroValue171
 t212:=Tryz.underlying206
 a212:=Tryz.isAgg206
 z212:=Tryz.sizeOf206
 v212:=Tryz.zeroValue206
 t213:=Tryz.underlying208
 a213:=Tryz.isAgg208
 z213:=Tryz.sizeOf208
 t232:=Tryz.underlying245
 a232:=Tryz.isAgg245
 z232:=Tryz.sizeOf245
 v232:=Tryz.zeroValue245
 t233:=Tryz.underlying246
 a233:=Tryz.isAgg246
 z233:=Tryz.sizeOf246
 v233:=Tryz.zeroValue246
 g17:=by kernel_rfl
 g18:=by kernel_rfl
 g19:=by kernel_rfl
 i0:=by kernel_rfl
 i2:=by kernel_rfl
 i3:=by kernel_rfl
 i4:=by kernel_rfl
 i5:=by kernel_rfl
 i9:=by kernel_rfl
 i20:=by kernel_rfl
 i37:=by kernel_rfl
 i46:=by kernel_rfl
 i51:=by kernel_rfl
 i53:=by kernel_rfl
 i171:=by kernel_rfl
 i173:=by kernel_rfl
 i212:=by kernel_rfl
 i232:=by kernel_rfl
 i233:=by kernel_rfl
 m17:=by kernel_rfl
 m18:=by kernel_rfl
 m19:=by kernel_rfl }
open Go.RowKit Go.Sort Go.Lib in
theorem Tryz.strconv_FormatInt_10 (n:Int) (h0 : -9223372036854775808≤n) (h1:n≤9223372036854775807) (w:World) (htab:Lib.TabIs Tryz.prog w "internal/strconv.uint64pow10" .u64 Lib.pow10Tab) :
  Calls Tryz.prog 61 #[.int .i64 n,.int .i64 10] w fun e w'=>e=.returned (.string ⟨(Lib.itoa n).toArray⟩)∧∃ k os,w'=grow (w.drewN k) os:=Any.strconv_FormatInt_10 Tryz.laysM173 n h0 h1 w htab
def Tryz.laysC172_ren:Go.Shelf.Ren:=⟨fun | 172=>151 | 244=>185 | 245=>184 | 247=>183 | 279=>200 | 280=>201 | 281=>202 | 282=>203 | 287=>199 | 316=>213 | 171=>62 | 205=>214 | 321=>211 | 322=>212 | 243=>104 | 246=>103 | 283=>125 | 284=>126 | 285=>127 | 286=>128 | 129=>153 | 317=>152 | 318=>154 | 319=>155 | 320=>156 | 337=>186 | 338=>187 | n=>n,fun | 9=>9 | 3=>3 | 75=>57 | 76=>58 | 4=>4 | 5=>5 | 167=>239 | 37=>53 | 0=>0 | 85=>202 | 2=>2 | 168=>242 | 53=>150 | 175=>240 | 46=>210 | 210=>261 | 127=>111 | 145=>271 | 143=>269 | 21=>21 | 171=>168 | 173=>171 | 212=>206 | 51=>207 | 20=>20 | 213=>208 | 232=>245 | 233=>246 | 80=>71 | n=>n,fun | 15=>7 | 16=>8 | 17=>1 | 18=>3 | 19=>4 | n=>n⟩
theorem Tryz.laysC172:Go.Proofs.LaysC.n172 Tryz.prog Tryz.laysC172_ren:={
 mixed:=by kernel_rfl
 f129:=Tryz.func153.trans (congrArg some (by kernel_rfl))
 f171:=Tryz.func62.trans (congrArg some (by kernel_rfl))
 f172:=Tryz.func151.trans (congrArg some (by kernel_rfl))
 f205:=Tryz.func214.trans (congrArg some (by kernel_rfl))
 f243:=Tryz.func104.trans (congrArg some (by kernel_rfl))
 f244:=Tryz.func185.trans (congrArg some (by kernel_rfl))
 f245:=Tryz.func184.trans (congrArg some (by kernel_rfl))
 f246:=Tryz.func103.trans (congrArg some (by kernel_rfl))
 f247:=Tryz.func183.trans (congrArg some (by kernel_rfl))
 f279:=Tryz.func200.trans (congrArg some (by kernel_rfl))
 f280:=Tryz.func201.trans (congrArg some (by kernel_rfl))
 f281:=Tryz.func202.trans (congrArg some (by kernel_rfl))
 f282:=Tryz.func203.trans (congrArg some (by kernel_rfl))
 f283:=Tryz.func125.trans (congrArg some (by kernel_rfl))
 f284:=Tryz.func126.trans (congrArg some (by kernel_rfl))
 f285:=Tryz.func127.trans (congrArg some (by kernel_rfl))
 f286:=Tryz.func128.trans (congrArg some (by kernel_rfl))
 f287:=Tryz.func199.trans (congrArg some (by kernel_rfl))
 f316:=Tryz.func213.trans (congrArg some (by kernel_rfl))
 f317:=Tryz.func152.trans (congrArg some (by kernel_rfl))
 f318:=Tryz.func154.trans (congrArg some (by kernel_rfl))
 f319:=Tryz.func155.trans (congrArg some (by kernel_rfl))
 f320:=Tryz.func156.trans (congrArg some (by kernel_rfl))
 f321:=Tryz.func211.trans (congrArg some (by kernel_rfl))
 f322:=Tryz.func212.trans (congrArg some (by kernel_rfl))
 f337:=Tryz.func186.trans (congrArg some (by kernel_rfl))
 f338:=Tryz.func187.trans (congrArg some (by kernel_rfl))
 t0:=Tryz.underlying0
 a0:=Tryz.isAgg0
 z0:=Tryz.sizeOf0
 v0:=Tryz.zeroValue0
 t2:=Tryz.underlying2
 a2:=Tryz.isAgg2
 z2:=Tryz.sizeOf2
 v2:=Tryz.zeroValue2
 t3:=Tryz.underlying3
 a3:=Tryz.isAgg3
 z3:=Tryz.sizeOf3
 v3:=Tryz.zeroValue3
 t4:=Tryz.underlying4
 a4:=Tryz.isAgg4
 z4:=Tryz.sizeOf4
 v4:=Tryz.zeroValue4
 t5:=Tryz.underlying5
 a5:=Tryz.isAgg5
 z5:=Tryz.sizeOf5
 v5:=Tryz.zeroValue5
 t9:=Tryz.underlying9
 a9:=Tryz.isAgg9
 z9:=Tryz.sizeOf9
 v9:=Tryz.zeroValue9
 t20:=Tryz.underlying20
 a20:=Tryz.isAgg20
 z20:=Tryz.sizeOf20
 v20:=Tryz.zeroValue20
 t21:=Tryz.underlying21
 a21:=Tryz.isAgg21
 z21:=Tryz.sizeOf21
 v21:=Tryz.zeroValue21
 t37:=Tryz.underlying53
 a37:=Tryz.isAgg53
 z37:=Tryz.sizeOf53
 v37:=Tryz.zeroValue53
 t46:=Tryz.underlying210
 a46:=Tryz.isAgg210
 z46:=Tryz.sizeOf210
 v46:=Tryz.zeroValue210
 t51:=Tryz.underlying207
 a51:=Tryz.isAgg207
 z51:=Tryz.sizeOf207
 v51:=Tryz.zeroValue207
 t53:=Tryz.underlying150
 a53:=Tryz.isAgg150
 z53:=Tryz.sizeOf150
 v53:=Tryz.zeroValue150
 t75:=Tryz.underlying57
 a75:=Tryz.isAgg57
 z75:=Tryz.sizeOf57
 v75:=Tryz.zeroValue57
 t76:=Tryz.underlying58
 a76:=Tryz.isAgg58
 z76:=Tryz.sizeOf58
 v76:=Tryz.zeroValue58
 t85:=Tryz.underlying202
 a85:=Tryz.isAgg202
 z85:=Tryz.sizeOf202
 v85:=Tryz.zeroValue202
 t127:=Tryz.underlying111
 a127:=Tryz.isAgg111
 z127:=Tryz.sizeOf111
 v127:=Tryz.zeroValue111
 t143:=Tryz.underlying269
 a143:=Tryz.isAgg269
 z143:=Tryz.sizeOf269
 v143:=Tryz.zeroValue269
 t145:=Tryz.underlying271
 a145:=Tryz.isAgg271
 z145:=Tryz.sizeOf271
 v145:=Tryz.zeroValue271
 t167:=Tryz.underlying239
 a167:=Tryz.isAgg239
 z167:=Tryz.sizeOf239
 v167:=Tryz.zeroValue239
 t168:=Tryz.underlying242
 a168:=Tryz.isAgg242
 z168:=Tryz.sizeOf242
 v168:=Tryz.zeroValue242
 t171:=Tryz.underlying168
 a171:=Tryz.isAgg168
 z171:=Tryz.sizeOf168
 v171:=Tryz.zeroValue168
 t173:=Tryz.underlying171
 a173:=Tryz.isAgg171
 z173:=Tryz.sizeOf171
 v173:=Tryz.zeroValue171
 t175:=Tryz.underlying240
 a175:=Tryz.isAgg240
 z175:=Tryz.sizeOf240
 v175:=Tryz.zeroValue240
 t210:=Tryz.underlying261
 a210:=Tryz.isAgg261
 z210:=Tryz.sizeOf261
 v210:=Tryz.zeroValue261
 t212:=Tryz.underlying206
 a212:=Tryz.isAgg206
 z212:=Tryz.sizeOf206
 v212:=Tryz.zeroValue206
 t213:=Tryz.underlying208
 a213:=Tryz.isAgg208
 z213:=Tryz.sizeOf208
 t232:=Tryz.underlying245
 a232:=Tryz.isAgg245
 z232:=Tryz.sizeOf245
 v232:=Tryz.zeroValue245
 t233:=Tryz.underlying246
 a233:=Tryz.isAgg246
 z233:=Tryz.sizeOf246
 v233:=Tryz.zeroValue246
 g15:=by kernel_rfl
 g16:=by kernel_rfl
 g17:=by kernel_rfl
 g18:=by kernel_rfl
 g19:=by kernel_rfl
 t80:=Tryz.underlying71
 a80:=Tryz.isAgg71
 z80:=Tryz.sizeOf71
 v80:=Tryz.zeroValue71
 i0:=by kernel_rfl
 i2:=by kernel_rfl
 i3:=by kernel_rfl
 i4:=by kernel_rfl
 i5:=by kernel_rfl
 i9:=by kernel_rfl
 i20:=by kernel_rfl
 i21:=by kernel_rfl
 i37:=by kernel_rfl
 i46:=by kernel_rfl
 i51:=by kernel_rfl
 i53:=by kernel_rfl
 i75:=by kernel_rfl
 i76:=by kernel_rfl
 i80:=by kernel_rfl
 i85:=by kernel_rfl
 i127:=by kernel_rfl
 i143:=by kernel_rfl
 i145:=by kernel_rfl
 i167:=by kernel_rfl
 i168:=by kernel_rfl
 i171:=by kernel_rfl
 i173:=by kernel_rfl
 i175:=by kernel_rfl
 i210:=by kernel_rfl
 i212:=by kernel_rfl
 i232:=by kernel_rfl
 i233:=by kernel_rfl
 m15:=by kernel_rfl
 m16:=by kernel_rfl
 m17:=by kernel_rfl
 m18:=by kernel_rfl
 m19:=by kernel_rfl
 c0:=by kernel_rfl
 c2:=by kernel_rfl
 c3:=by kernel_rfl
 c4:=by kernel_rfl
 c5:=by kernel_rfl
 c9:=by kernel_rfl
 c20:=by kernel_rfl
 c21:=by kernel_rfl
 c37:=by kernel_rfl
 c46:=by kernel_rfl
 c51:=by kernel_rfl
 c53:=by kernel_rfl
 c75:=by kernel_rfl
 c76:=by kernel_rfl
 c80:=by kernel_rfl
 c85:=by kernel_rfl
 c127:=by kernel_rfl
 c143:=by kernel_rfl
 c145:=by kernel_rfl
 c167:=by kernel_rfl
 c168:=by kernel_rfl
 c171:=by kernel_rfl
 c173:=by kernel_rfl
 c175:=by kernel_rfl
 c210:=by kernel_rfl
 c212:=by kernel_rfl
 c213:=by kernel_rfl
 c232:=by kernel_rfl
 c233:=by kernel_rfl }
open Go.RowKit in
theorem Tryz.strconv_Atoi_ok (s:ByteArray) (hmax:s.size≤9223372036854775806) (v:Int) (h:Lib.atoiAll s.data.toList=.ok v) (w:World) :
  Calls Tryz.prog 151 #[.string s] w fun e w'=>e=.returned (.tuple #[.int .i64 v,.nilIface])∧(w'=w∨∃ t,w'=Lib.bytesWorld w 5 t):=Any.strconv_Atoi_ok Tryz.laysC172 s hmax v h w
open Go.RowKit in
theorem Tryz.strconv_Atoi_syntax (s:ByteArray) (hlim:s.size≤281474976710656) (h:Lib.atoiAll s.data.toList≠.range∧∀ v,Lib.atoiAll s.data.toList≠.ok v) (ev:Value) (w:World) (hv:w.cell? ⟨7,0,none⟩=some ev) (hev:ev=.nilIface∨∃ te pe,ev=.iface te pe) :
  Calls Tryz.prog 151 #[.string s] w fun e w'=>∃ N,e=.returned (.tuple #[.int .i64 (0),.iface 242 (.pointer (some ⟨N,0,none⟩))])∧w.heap.size≤N∧w'.heap[N]?=some (.cells #[.string ⟨#[65,116,111,105]⟩,.string s,ev] 261 (0,0))∧Below w.heap.size w w':=Any.strconv_Atoi_syntax Tryz.laysC172 s hlim (by rcases hx:Lib.atoiAll s.data.toList with v | _ | _ <;> first | rfl | exact absurd hx (h.2 _) | exact absurd hx h.1) ev w hv hev
open Go.RowKit in
theorem Tryz.strconv_Atoi_range (s:ByteArray) (hlim:s.size≤281474976710656) (h:Lib.atoiAll s.data.toList=.range) (ev:Value) (w:World) (hv:w.cell? ⟨8,0,none⟩=some ev) (hev:ev=.nilIface∨∃ te pe,ev=.iface te pe) :
  Calls Tryz.prog 151 #[.string s] w fun e w'=>∃ N,e=.returned (.tuple #[.int .i64 (Lib.atoiSat s.data.toList),.iface 242 (.pointer (some ⟨N,0,none⟩))])∧w.heap.size≤N∧w'.heap[N]?=some (.cells #[.string ⟨#[65,116,111,105]⟩,.string s,ev] 261 (0,0))∧Below w.heap.size w w':=Any.strconv_Atoi_range Tryz.laysC172 s hlim h ev w hv hev
def Tryz.laysC174_ren:Go.Shelf.Ren:=⟨fun | 174=>149 | 247=>183 | 245=>184 | 287=>199 | 279=>200 | 280=>201 | 281=>202 | 282=>203 | 321=>211 | 322=>212 | 316=>213 | 171=>62 | 205=>214 | 243=>104 | 246=>103 | 283=>125 | 284=>126 | 285=>127 | 286=>128 | 129=>153 | 317=>152 | 318=>154 | 319=>155 | 320=>156 | 337=>186 | 338=>187 | n=>n,fun | 9=>9 | 3=>3 | 2=>2 | 75=>57 | 85=>202 | 4=>4 | 167=>239 | 5=>5 | 53=>150 | 175=>240 | 46=>210 | 168=>242 | 37=>53 | 0=>0 | 210=>261 | 21=>21 | 127=>111 | 145=>271 | 143=>269 | 171=>168 | 173=>171 | 212=>206 | 51=>207 | 20=>20 | 213=>208 | 232=>245 | 233=>246 | 80=>71 | n=>n,fun | 15=>7 | 16=>8 | 17=>1 | 18=>3 | 19=>4 | n=>n⟩
theorem Tryz.laysC174:Go.Proofs.LaysC.n174 Tryz.prog Tryz.laysC174_ren:={
 mixed:=by kernel_rfl
 f129:=Tryz.func153.trans (congrArg some (by kernel_rfl))
 f171:=Tryz.func62.trans (congrArg some (by kernel_rfl))
 f174:=Tryz.func149.trans (congrArg some (by kernel_rfl))
 f205:=Tryz.func214.trans (congrArg some (by kernel_rfl))
 f243:=Tryz.func104.trans (congrArg some (by kernel_rfl))
 f245:=Tryz.func184.trans (congrArg some (by kernel_rfl))
 f246:=Tryz.func103.trans (congrArg some (by kernel_rfl))
 f247:=Tryz.func183.trans (congrArg some (by kernel_rfl))
 f279:=Tryz.func200.trans (congrArg some (by kernel_rfl))
 f280:=Tryz.func201.trans (congrArg some (by kernel_rfl))
 f281:=Tryz.func202.trans (congrArg some (by kernel_rfl))
 f282:=Tryz.func203.trans (congrArg some (by kernel_rfl))
 f283:=Tryz.func125.trans (congrArg some (by kernel_rfl))
 f284:=Tryz.func126.trans (congrArg some (by kernel_rfl))
 f285:=Tryz.func127.trans (congrArg some (by kernel_rfl))
 f286:=Tryz.func128.trans (congrArg some (by kernel_rfl))
 f287:=Tryz.func199.trans (congrArg some (by kernel_rfl))
 f316:=Tryz.func213.trans (congrArg some (by kernel_rfl))
 f317:=Tryz.func152.trans (congrArg some (by kernel_rfl))
 f318:=Tryz.func154.trans (congrArg some (by kernel_rfl))
 f319:=Tryz.func155.trans (congrArg some (by kernel_rfl))
 f320:=Tryz.func156.trans (congrArg some (by kernel_rfl))
 f321:=Tryz.func211.trans (congrArg some (by kernel_rfl))
 f322:=Tryz.func212.trans (congrArg some (by kernel_rfl))
 f337:=Tryz.func186.trans (congrArg some (by kernel_rfl))
 f338:=Tryz.func187.trans (congrArg some (by kernel_rfl))
 t0:=Tryz.underlying0
 a0:=Tryz.isAgg0
 z0:=Tryz.sizeOf0
 v0:=Tryz.zeroValue0
 t2:=Tryz.underlying2
 a2:=Tryz.isAgg2
 z2:=Tryz.sizeOf2
 v2:=Tryz.zeroValue2
 t3:=Tryz.underlying3
 a3:=Tryz.isAgg3
 z3:=Tryz.sizeOf3
 v3:=Tryz.zeroValue3
 t4:=Tryz.underlying4
 a4:=Tryz.isAgg4
 z4:=Tryz.sizeOf4
 v4:=Tryz.zeroValue4
 t5:=Tryz.underlying5
 a5:=Tryz.isAgg5
 z5:=Tryz.sizeOf5
 v5:=Tryz.zeroValue5
 t9:=Tryz.underlying9
 a9:=Tryz.isAgg9
 z9:=Tryz.sizeOf9
 v9:=Tryz.zeroValue9
 t20:=Tryz.underlying20
 a20:=Tryz.isAgg20
 z20:=Tryz.sizeOf20
 v20:=Tryz.zeroValue20
 t21:=Tryz.underlying21
 a21:=Tryz.isAgg21
 z21:=Tryz.sizeOf21
 v21:=Tryz.zeroValue21
 t37:=Tryz.underlying53
 a37:=Tryz.isAgg53
 z37:=Tryz.sizeOf53
 v37:=Tryz.zeroValue53
 t46:=Tryz.underlying210
 a46:=Tryz.isAgg210
 z46:=Tryz.sizeOf210
 v46:=Tryz.zeroValue210
 t51:=Tryz.underlying207
 a51:=Tryz.isAgg207
 z51:=Tryz.sizeOf207
 v51:=Tryz.zeroValue207
 t53:=Tryz.underlying150
 a53:=Tryz.isAgg150
 z53:=Tryz.sizeOf150
 v53:=Tryz.zeroValue150
 t75:=Tryz.underlying57
 a75:=Tryz.isAgg57
 z75:=Tryz.sizeOf57
 v75:=Tryz.zeroValue57
 t85:=Tryz.underlying202
 a85:=Tryz.isAgg202
 z85:=Tryz.sizeOf202
 v85:=Tryz.zeroValue202
 t127:=Tryz.underlying111
 a127:=Tryz.isAgg111
 z127:=Tryz.sizeOf111
 v127:=Tryz.zeroValue111
 t143:=Tryz.underlying269
 a143:=Tryz.isAgg269
 z143:=Tryz.sizeOf269
 v143:=Tryz.zeroValue269
 t145:=Tryz.underlying271
 a145:=Tryz.isAgg271
 z145:=Tryz.sizeOf271
 v145:=Tryz.zeroValue271
 t167:=Tryz.underlying239
 a167:=Tryz.isAgg239
 z167:=Tryz.sizeOf239
 v167:=Tryz.zeroValue239
 t168:=Tryz.underlying242
 a168:=Tryz.isAgg242
 z168:=Tryz.sizeOf242
 v168:=Tryz.zeroValue242
 t171:=Tryz.underlying168
 a171:=Tryz.isAgg168
 z171:=Tryz.sizeOf168
 v171:=Tryz.zeroValue168
 t173:=Tryz.underlying171
 a173:=Tryz.isAgg171
 z173:=Tryz.sizeOf171
 v173:=Tryz.zeroValue171
 t175:=Tryz.underlying240
 a175:=Tryz.isAgg240
 z175:=Tryz.sizeOf240
 v175:=Tryz.zeroValue240
 t210:=Tryz.underlying261
 a210:=Tryz.isAgg261
 z210:=Tryz.sizeOf261
 v210:=Tryz.zeroValue261
 t212:=Tryz.underlying206
 a212:=Tryz.isAgg206
 z212:=Tryz.sizeOf206
 v212:=Tryz.zeroValue206
 t213:=Tryz.underlying208
 a213:=Tryz.isAgg208
 z213:=Tryz.sizeOf208
 t232:=Tryz.underlying245
 a232:=Tryz.isAgg245
 z232:=Tryz.sizeOf245
 v232:=Tryz.zeroValue245
 t233:=Tryz.underlying246
 a233:=Tryz.isAgg246
 z233:=Tryz.sizeOf246
 v233:=Tryz.zeroValue246
 g15:=by kernel_rfl
 g16:=by kernel_rfl
 g17:=by kernel_rfl
 g18:=by kernel_rfl
 g19:=by kernel_rfl
 t80:=Tryz.underlying71
 a80:=Tryz.isAgg71
 z80:=Tryz.sizeOf71
 v80:=Tryz.zeroValue71
 i0:=by kernel_rfl
 i2:=by kernel_rfl
 i3:=by kernel_rfl
 i4:=by kernel_rfl
 i5:=by kernel_rfl
 i9:=by kernel_rfl
 i20:=by kernel_rfl
 i21:=by kernel_rfl
 i37:=by kernel_rfl
 i46:=by kernel_rfl
 i51:=by kernel_rfl
 i53:=by kernel_rfl
 i75:=by kernel_rfl
 i80:=by kernel_rfl
 i85:=by kernel_rfl
 i127:=by kernel_rfl
 i143:=by kernel_rfl
 i145:=by kernel_rfl
 i167:=by kernel_rfl
 i168:=by kernel_rfl
 i171:=by kernel_rfl
 i173:=by kernel_rfl
 i175:=by kernel_rfl
 i210:=by kernel_rfl
 i212:=by kernel_rfl
 i232:=by kernel_rfl
 i233:=by kernel_rfl
 m15:=by kernel_rfl
 m16:=by kernel_rfl
 m17:=by kernel_rfl
 m18:=by kernel_rfl
 m19:=by kernel_rfl
 c0:=by kernel_rfl
 c2:=by kernel_rfl
 c3:=by kernel_rfl
 c4:=by kernel_rfl
 c5:=by kernel_rfl
 c9:=by kernel_rfl
 c20:=by kernel_rfl
 c21:=by kernel_rfl
 c37:=by kernel_rfl
 c46:=by kernel_rfl
 c51:=by kernel_rfl
 c53:=by kernel_rfl
 c75:=by kernel_rfl
 c80:=by kernel_rfl
 c85:=by kernel_rfl
 c127:=by kernel_rfl
 c143:=by kernel_rfl
 c145:=by kernel_rfl
 c167:=by kernel_rfl
 c168:=by kernel_rfl
 c171:=by kernel_rfl
 c173:=by kernel_rfl
 c175:=by kernel_rfl
 c210:=by kernel_rfl
 c212:=by kernel_rfl
 c213:=by kernel_rfl
 c232:=by kernel_rfl
 c233:=by kernel_rfl }
open Go.RowKit in
theorem Tryz.strconv_ParseInt_10_at64_ok (s:ByteArray) (hmax:s.size≤9223372036854775806) (v:Int) (h:Lib.parseIntB 64 s.data.toList=.ok v) (w:World) :
  Calls Tryz.prog 149 #[.string s,.int .i64 10,.int .i64 64] w fun e w'=>e=.returned (.tuple #[.int .i64 v,.nilIface])∧(w'=w∨∃ t,w'=Lib.bytesWorld w 5 t):=Any.strconv_ParseInt_10_at64_ok Tryz.laysC174 s hmax v h w
def Tryz.lays219_ren:Go.Shelf.Ren:=⟨fun | 219=>139 | 217=>122 | 225=>166 | 224=>167 | 267=>168 | 266=>150 | 314=>192 | n=>n,fun | 9=>9 | 3=>3 | 4=>4 | 5=>5 | 46=>210 | 146=>231 | 51=>207 | n=>n,fun | 1=>0 | n=>n⟩
theorem Tryz.lays219:Go.Proofs.Lays.n219 Tryz.prog Tryz.lays219_ren:={
 mixed:=by kernel_rfl
 f217:=Tryz.func122.trans (congrArg some (by kernel_rfl))
 f219:=Tryz.func139.trans (congrArg some (by kernel_rfl))
 f224:=Tryz.func167.trans (congrArg some (by kernel_rfl))
 f225:=Tryz.func166.trans (congrArg some (by kernel_rfl))
 f266:=Tryz.func150.trans (congrArg some (by kernel_rfl))
 f267:=Tryz.func168.trans (congrArg some (by kernel_rfl))
 f314:=Tryz.func192.trans (congrArg some (by kernel_rfl))
 t3:=Tryz.underlying3
 a3:=Tryz.isAgg3
 z3:=Tryz.sizeOf3
 v3:=Tryz.zeroValue3
 t4:=Tryz.underlying4
 a4:=Tryz.isAgg4
 z4:=Tryz.sizeOf4
 v4:=Tryz.zeroValue4
 t5:=Tryz.underlying5
 a5:=Tryz.isAgg5
 z5:=Tryz.sizeOf5
 v5:=Tryz.zeroValue5
 t9:=Tryz.underlying9
 a9:=Tryz.isAgg9
 z9:=Tryz.sizeOf9
 v9:=Tryz.zeroValue9
 t46:=Tryz.underlying210
 a46:=Tryz.isAgg210
 z46:=Tryz.sizeOf210
 v46:=Tryz.zeroValue210
 t51:=Tryz.underlying207
 a51:=Tryz.isAgg207
 z51:=Tryz.sizeOf207
 v51:=Tryz.zeroValue207
 t146:=Tryz.underlying231
 a146:=Tryz.isAgg231
 z146:=Tryz.sizeOf231
 v146:=Tryz.zeroValue231
 g1:=by kernel_rfl }
open Go.RowKit Go.Lib in
theorem Tryz.stringslite_Index_one (s:ByteArray) (c:UInt8) (w:World) :
  Calls Tryz.prog 139 #[.string s,.string ⟨#[c]⟩] w fun e w'=>e=.returned (.int .i64 (Lib.indexByte s.data.toList c))∧w'=w:=Any.stringslite_Index_one Tryz.lays219 s c w
def Tryz.lays99_ren:Go.Shelf.Ren:=⟨fun | 99=>145 | 206=>175 | n=>n,fun | 9=>9 | 4=>4 | 3=>3 | n=>n,fun | n=>n⟩
theorem Tryz.lays99:Go.Proofs.Lays.n99 Tryz.prog Tryz.lays99_ren:={
 mixed:=by kernel_rfl
 f99:=Tryz.func145.trans (congrArg some (by kernel_rfl))
 f206:=Tryz.func175.trans (congrArg some (by kernel_rfl))
 t3:=Tryz.underlying3
 a3:=Tryz.isAgg3
 z3:=Tryz.sizeOf3
 v3:=Tryz.zeroValue3
 t4:=Tryz.underlying4
 a4:=Tryz.isAgg4
 z4:=Tryz.sizeOf4
 v4:=Tryz.zeroValue4
 t9:=Tryz.underlying9
 a9:=Tryz.isAgg9
 z9:=Tryz.sizeOf9
 v9:=Tryz.zeroValue9 }
open Go.RowKit Go.Lib in
theorem Tryz.strings_HasPrefix (s p:ByteArray) (w:World) :
  Calls Tryz.prog 145 #[.string s,.string p] w fun e w'=>e=.returned (.bool (Lib.hasPrefix s.data.toList p.data.toList))∧w'=w:=Any.strings_HasPrefix Tryz.lays99 s p w
def Tryz.lays229_ren:Go.Shelf.Ren:=⟨fun | 229=>116 | n=>n,fun | 9=>9 | 40=>160 | 31=>43 | 152=>189 | 3=>3 | 0=>0 | 4=>4 | 21=>21 | 154=>191 | n=>n,fun | n=>n⟩
theorem Tryz.lays229:Go.Proofs.Lays.n229 Tryz.prog Tryz.lays229_ren:={
 mixed:=by kernel_rfl
 f229:=Tryz.func116.trans (congrArg some (by kernel_rfl))
 t0:=Tryz.underlying0
 a0:=Tryz.isAgg0
 z0:=Tryz.sizeOf0
 v0:=Tryz.zeroValue0
 t3:=Tryz.underlying3
 a3:=Tryz.isAgg3
 z3:=Tryz.sizeOf3
 v3:=Tryz.zeroValue3
 t4:=Tryz.underlying4
 a4:=Tryz.isAgg4
 z4:=Tryz.sizeOf4
 v4:=Tryz.zeroValue4
 t9:=Tryz.underlying9
 a9:=Tryz.isAgg9
 z9:=Tryz.sizeOf9
 v9:=Tryz.zeroValue9
 t21:=Tryz.underlying21
 a21:=Tryz.isAgg21
 z21:=Tryz.sizeOf21
 v21:=Tryz.zeroValue21
 t31:=Tryz.underlying43
 a31:=Tryz.isAgg43
 z31:=Tryz.sizeOf43
 v31:=Tryz.zeroValue43
 t40:=Tryz.underlying160
 a40:=Tryz.isAgg160
 z40:=Tryz.sizeOf160
 v40:=Tryz.zeroValue160
 t152:=Tryz.underlying189
 a152:=Tryz.isAgg189
 z152:=Tryz.sizeOf189
 v152:=Tryz.zeroValue189
 t154:=Tryz.underlying191
 a154:=Tryz.isAgg191
 z154:=Tryz.sizeOf191
 v154:=Tryz.zeroValue191 }
open Go.RowKit Go.Lib in
theorem Tryz.strings_FieldsFunc_runes (g:Nat) (lb:Array Value) (eg:∀ args w,(callFunc g args).run Tryz.prog w=.ok (.enter g args) w) (p:Nat→Bool) (s:ByteArray) (w:World) (hs:s.size≤4294967296) (hp:PredAtRunes Tryz.prog g lb p w) :
  Calls Tryz.prog 116 #[.string s,.func (.func g) #[] lb] w fun e w'=>∃ A,e=.returned (.slice (some ⟨A,0,none⟩) (Lib.goFieldsP p s).length (Lib.goFieldsP p s).length)∧w.heap.size≤A ∧
   w'.ownsRow w.heap.size 9 1 (.slice (some ⟨A,0,none⟩) (Lib.goFieldsP p s).length (Lib.goFieldsP p s).length) (Lib.goFieldsP p s).length ((Lib.goFieldsP p s).map Value.string)∧Below w.heap.size w w':=Any.strings_FieldsFunc_runes Tryz.lays229 g lb eg p s w hs hp (by kernel_rfl) (by kernel_rfl)
end Go.Proofs
end
namespace Go.Proofs.YtdaeancgockacaaGreatDoor
namespace NumL
open Go Go.RowKit Ax BigM NumS NumT
theorem data_bs (l:List Nat):(bs l).data.toList=l.map UInt8.ofNat:=by
 show ((l.map UInt8.ofNat).toArray).toList=_
 rw[List.toList_toArray]
theorem ofNat_inj {a b:Nat} (ha:a<256) (hb:b<256) (h:UInt8.ofNat a=UInt8.ofNat b):a=b:=by
 have:=congrArg UInt8.toNat h
 simpa [Nat.mod_eq_of_lt ha,Nat.mod_eq_of_lt hb] using this
theorem pre_one (l:List Nat) (h:By l) (c:Nat) (hc:c<256):Lib.hasPrefix (l.map UInt8.ofNat) [UInt8.ofNat c]=decide (l.head?=some c):=by
 cases l with
 | nil=>rfl
 | cons a r=>
  have ha:=h a (by simp)
  show (UInt8.ofNat c==UInt8.ofNat a&&true)=_
  by_cases e:a=c
  ·subst e;simp
  ·have:UInt8.ofNat c≠UInt8.ofNat a:=fun q=>e (ofNat_inj ha hc q.symm)
   simp [this,e]
theorem below_self (w:World):Below w.heap.size w w:=Below.refl _ w
theorem hasPrefix_ax (l:List Nat) (h:By l) (c:Nat) (hc:c<256):PCall Tryz.prog 145 [.v (.string (bs l)),.v (.string (bs [c]))] (.v (.bool (decide (l.head?=some c)))):=by
 have e:=pre_one l h c hc
 refine pcall_lift (us:=[.string (bs l),.string (bs [c])]) (enters_of Tryz.func145 rfl rfl) (fun k=>.v _) fun w=>?_
 refine (Tryz.strings_HasPrefix (bs l) (bs [c]) w).mono ?_
 rintro en w' ⟨rfl,rfl⟩
 rw[data_bs,data_bs,List.map_cons,List.map_nil,e]
 exact⟨rfl,below_self _⟩
def cut1 (l:List Nat) (c:Nat):List Nat:=if l.head?=some c then l.tail else l
theorem cutPrefix_ax (l:List Nat) (h:By l) (c:Nat) (hc:c<256):PCall Tryz.prog 143 [.v (.string (bs l)),.v (.string (bs [c]))] (.tp [.v (.string (bs (cut1 l c))),.v (.bool (decide (l.head?=some c)))]):=by
 have e:=pre_one l h c hc
 refine pcall_lift (us:=[.string (bs l),.string (bs [c])]) (v:=.tuple #[.string (bs (cut1 l c)),.bool (decide (l.head?=some c))]) (enters_of Tryz.func143 rfl rfl) (fun k=>.tp _ [_,_] rfl fun j z u hz hu=>?_) fun w=>?_
 ·match j with
  | 0=>simp at hz hu;subst hz hu;exact .v _
  | 1=>simp at hz hu;subst hz hu;exact .v _
  | j+2=>simp at hz
 refine (Tryz.strings_CutPrefix (bs l) (bs [c]) w).mono ?_
 rintro en w' ⟨rfl,rfl⟩
 rw[data_bs,data_bs,List.map_cons,List.map_nil]
 unfold Lib.trimPrefix
 rw[e]
 refine⟨?_,below_self _⟩
 unfold cut1
 by_cases q:l.head?=some c
 ·rw[if_pos q,decide_eq_true q,if_pos rfl]
  cases l with
  | nil=>cases q
  | cons a r=>rfl
 ·rw[if_neg q,decide_eq_false q,if_neg (by simp)]
  rfl
def lead (l:List Nat):List Nat:=l.dropWhile (· == 48)
def trail (l:List Nat):List Nat:=(l.reverse.dropWhile (· == 48)).reverse
theorem drop_map (l:List Nat) (h:By l):(l.map UInt8.ofNat).dropWhile (· == UInt8.ofNat 48)=(l.dropWhile (· == 48)).map UInt8.ofNat:=by
 induction l with
 | nil=>rfl
 | cons a r ih=>
  have ha:=h a (by simp)
  have ih:=ih fun c hc=>h c (by simp [hc])
  rw[List.map_cons,List.dropWhile_cons,List.dropWhile_cons]
  by_cases e:a=48
  ·subst e;simp only[beq_self_eq_true,if_true];exact ih
  ·have:UInt8.ofNat a≠UInt8.ofNat 48:=fun q=>e (ofNat_inj ha (by decide) q)
   rw[if_neg (by simpa using this),if_neg (by simpa using e)]
   rfl
theorem trimLeft_ax (l:List Nat) (h:By l):PCall Tryz.prog 147 [.v (.string (bs l)),.v (.string (bs [48]))] (.v (.string (bs (lead l)))):=by
 refine pcall_lift (us:=[.string (bs l),.string (bs [48])]) (enters_of Tryz.func147 rfl rfl) (fun k=>.v _) fun w=>?_
 refine (Tryz.strings_TrimLeft_one (bs l) (UInt8.ofNat 48) (by decide) w).mono ?_
 rintro en w' ⟨rfl,rfl⟩
 refine⟨?_,below_self _⟩
 rw[data_bs]
 unfold Lib.trimLeftB
 rw[drop_map l h]
 rfl
theorem trimRight_ax (l:List Nat) (h:By l) (hl:l.length≤1000000000):PCall Tryz.prog 148 [.v (.string (bs l)),.v (.string (bs [48]))] (.v (.string (bs (trail l)))):=by
 refine pcall_lift (us:=[.string (bs l),.string (bs [48])]) (enters_of Tryz.func148 rfl rfl) (fun k=>.v _) fun w=>?_
 refine (Tryz.strings_TrimRight_one (bs l) (UInt8.ofNat 48) (by decide) w (by rw[bs_size];omega)).mono ?_
 rintro en w' ⟨rfl,rfl⟩
 refine⟨?_,below_self _⟩
 rw[data_bs]
 unfold Lib.trimRightB
 rw[←List.map_reverse,drop_map _ (fun c hc=>h c (List.mem_reverse.1 hc)),←List.map_reverse]
 rfl
theorem dec_from (l:List Nat) (h:∀ c∈l,isD c=true):∀ acc,Lib.decFrom acc (l.map UInt8.ofNat)=some (l.foldl (fun a c=>10*a+(c-48)) acc):=by
 induction l with
 | nil=>intro acc;rfl
 | cons a r ih=>
  intro acc
  have ha:=(isD_iff a).1 (h a (by simp))
  have hd:Lib.digitVal (UInt8.ofNat a)=some (a-48):=by
   unfold Lib.digitVal
   have:(UInt8.ofNat a).toNat=a:=by simp;omega
   rw[this,if_pos ha]
  rw[List.map_cons,List.foldl_cons,Lib.decFrom,hd]
  simp only
  rw[ih (fun c hc=>h c (by simp [hc]))]
  congr 2
  omega
theorem atoi_ax (l:List Nat) (h:∀ c∈l,isD c=true) (h0:l≠[]) (hl:l.length≤18):PCall Tryz.prog 151 [.v (.string (bs l))] (.tp [.v (.int .i64 (digV l:Nat)),.v .nilIface]):=by
 refine pcall_lift (us:=[.string (bs l)]) (v:=.tuple #[.int .i64 (digV l:Nat),.nilIface]) (enters_of Tryz.func151 rfl rfl) (fun k=>.tp _ [_,_] rfl fun j z u hz hu=>?_) fun w=>?_
 ·match j with
  | 0=>simp at hz hu;subst hz hu;exact .v _
  | 1=>simp at hz hu;subst hz hu;exact .v _
  | j+2=>simp at hz
 refine (Tryz.strconv_Atoi (bs l) (digV l:Nat) (by rw[bs_size];exact hl) ?_ w).mono ?_
 ·rw[data_bs]
  cases l with
  | nil=>exact absurd rfl h0
  | cons a r=>
   have ha:=(isD_iff a).1 (h a (by simp))
   have h45:(UInt8.ofNat a==45)=false:=by
    rw[beq_eq_false_iff_ne]
    intro q
    have:=ofNat_inj (b:=45) (by omega) (by decide) q
    omega
   have h43:(UInt8.ofNat a==43)=false:=by
    rw[beq_eq_false_iff_ne]
    intro q
    have:=ofNat_inj (b:=43) (by omega) (by decide) q
    omega
   have hf:=dec_from (a::r) h 0
   rw[List.map_cons] at hf ⊢
   show (if (UInt8.ofNat a==45)=true then Option.map (fun (m:Nat)=>-(m:Int)) (Lib.decNat (List.map UInt8.ofNat r)) else if (UInt8.ofNat a==43)=true then Option.map (fun (m:Nat)=>(m:Int)) (Lib.decNat (List.map UInt8.ofNat r)) else Option.map (fun (m:Nat)=>(m:Int)) (Lib.decNat (UInt8.ofNat a::List.map UInt8.ofNat r)))=_
   rw[h45,h43]
   simp only[Bool.false_eq_true,if_false]
   unfold Lib.decNat
   rw[List.isEmpty_cons,if_neg (by simp),hf]
   rfl
 ·rintro en w' ⟨rfl,t,rfl⟩
  exact⟨rfl,Lib.bytesWorld_below _ _ _⟩
theorem uint_from (l:List Nat) (h:∀ c∈l,isD c=true):∀ acc,(acc+1)*10 ^ l.length≤1000000000→Lib.parseUintM (2 ^ 64-1) acc (l.map UInt8.ofNat)=.ok (l.foldl (fun a c=>10*a+(c-48)) acc):=by
 induction l with
 | nil=>intro acc hb;rfl
 | cons a r ih=>
  intro acc hb
  have ha:=(isD_iff a).1 (h a (by simp))
  have e:(UInt8.ofNat a).toNat=a:=by simp;omega
  rw[List.length_cons,Nat.pow_succ] at hb
  have hpos:1≤10 ^ r.length:=Nat.pow_pos (by decide)
  have h1:(acc+1)*(1*10)≤(acc+1)*(10 ^ r.length*10):=Nat.mul_le_mul_left _ (Nat.mul_le_mul_right _ hpos)
  have h2:(acc*10+(a-48)+1)*10 ^ r.length≤(acc+1)*(10 ^ r.length*10):=by
   rw[Nat.mul_comm (10 ^ r.length),←Nat.mul_assoc]
   exact Nat.mul_le_mul_right _ (by omega)
  rw[List.map_cons,List.foldl_cons,Lib.parseUintM,e,if_pos ha,if_neg (by omega),if_neg (by omega),ih (fun c hc=>h c (by simp [hc])) _ (by omega),Nat.mul_comm acc]
theorem parseInt_ax (l:List Nat) (h:∀ c∈l,isD c=true) (h0:l≠[]) (hl:l.length≤9):PCall Tryz.prog 149 [.v (.string (bs l)),.v (.int .i64 10),.v (.int .i64 64)] (.tp [.v (.int .i64 (digV l:Nat)),.v .nilIface]):=by
 refine pcall_lift (us:=[.string (bs l),.int .i64 10,.int .i64 64]) (v:=.tuple #[.int .i64 (digV l:Nat),.nilIface]) (enters_of Tryz.func149 rfl rfl) (fun k=>.tp _ [_,_] rfl fun j z u hz hu=>?_) fun w=>?_
 ·match j with
  | 0=>simp at hz hu;subst hz hu;exact .v _
  | 1=>simp at hz hu;subst hz hu;exact .v _
  | j+2=>simp at hz
 refine (Tryz.strconv_ParseInt_10_at64_ok (bs l) (by rw[bs_size];omega) (digV l:Nat) ?_ w).mono ?_
 ·rw[data_bs]
  have hb:(0+1)*10 ^ l.length≤1000000000:=by
   rw[Nat.zero_add,Nat.one_mul]
   exact Nat.le_trans (Nat.pow_le_pow_right (by decide) hl) (by decide)
  have hf:=uint_from l h 0 hb
  cases l with
  | nil=>exact absurd rfl h0
  | cons a r=>
   have ha:=(isD_iff a).1 (h a (by simp))
   have e:(UInt8.ofNat a).toNat=a:=by simp;omega
   rw[List.map_cons] at hf ⊢
   have hlt:digV (a::r)<2 ^ 63:=by
    have:∀ (l:List Nat) (acc:Nat),(∀ c∈l,isD c=true)→l.foldl (fun a c=>10*a+(c-48)) acc+1≤(acc+1)*10 ^ l.length:=by
     intro l
     induction l with
     | nil=>intro acc _;simp
     | cons b l ih=>
      intro acc hd
      have hb:=(isD_iff b).1 (hd b (by simp))
      have h3:=ih (10*acc+(b-48)) fun c hc=>hd c (by simp [hc])
      rw[List.foldl_cons,List.length_cons,Nat.pow_succ,Nat.mul_comm (10 ^ l.length),←Nat.mul_assoc]
      exact Nat.le_trans h3 (Nat.mul_le_mul_right _ (by omega))
    have h4:=this (a::r) 0 h
    have h5:digV (a::r)+1≤(0+1)*10 ^ (a::r).length:=h4
    omega
   unfold Lib.parseIntB Lib.parseUintB
   have n1:¬(a=43∨a=45):=by omega
   have n2:¬a=45:=by omega
   have hh:List.foldl (fun a c=>10*a+(c-48)) 0 (a::r)=digV (a::r):=rfl
   rw[hh] at hf
   simp only[e,if_neg n1,if_neg (List.cons_ne_nil _ _),hf]
   rw[if_neg (by omega),if_neg (by omega),if_neg n2]
 ·rintro en w' ⟨rfl,q⟩
  refine⟨rfl,?_⟩
  rcases q with rfl | ⟨t,rfl⟩
  ·exact below_self _
  ·exact Lib.bytesWorld_below _ _ _
end NumL
namespace NumP
open BigM NumS NumT NumL
theorem dw (m : List Nat) : ∃ n, m = List.replicate n 48 ++ m.dropWhile (· == 48) ∧ ∀ c, (m.dropWhile (· == 48)).head? = some c → c ≠ 48 := by
  induction m with
  | nil => exact ⟨0, rfl, fun c h => by cases h⟩
  | cons a m ih =>
    rw [List.dropWhile_cons]
    by_cases e : a = 48
    · obtain ⟨n, h1, h2⟩ := ih
      subst e
      simp only [beq_self_eq_true, if_true]
      refine ⟨n + 1, ?_, h2⟩
      rw [List.replicate_succ, List.cons_append, ← h1]
    · rw [if_neg (by simpa using e)]
      exact ⟨0, rfl, fun c h => by obtain rfl : a = c := by simpa using h
                                   exact e⟩
theorem fold_acc (l:List Nat):∀ acc,l.foldl (fun a c=>10*a+(c-48)) acc=acc*10 ^ l.length+digV l:=by
 induction l with
 | nil=>intro acc;simp [digV]
 | cons c l ih=>
  intro acc
  have h0:digV (c::l)=l.foldl (fun a c=>10*a+(c-48)) (10*0+(c-48)):=rfl
  rw[List.foldl_cons,ih,h0,ih,List.length_cons,Nat.pow_succ,Nat.mul_zero,Nat.zero_add]
  have e1:(10*acc+(c-48))*10 ^ l.length=acc*(10 ^ l.length*10)+(c-48)*10 ^ l.length:=by
   rw[Nat.add_mul,Nat.mul_comm 10 acc,Nat.mul_assoc,Nat.mul_comm 10]
  omega
theorem digV_append (a b:List Nat):digV (a++b)=digV a*10 ^ b.length+digV b:=by
 unfold digV
 rw[List.foldl_append,fold_acc]
 rfl
theorem digV_rep (n:Nat):digV (List.replicate n 48)=0:=by
 have:=digV_zeros [] n
 rw[List.nil_append] at this
 rw[this]
 simp [digV]
theorem lead_val (l:List Nat):digV (lead l)=digV l:=by
 obtain⟨n,h1,h2⟩:=dw l
 have:digV l=digV (List.replicate n 48++lead l):=congrArg digV h1
 rw[this,digV_append,digV_rep]
 simp
theorem lead_sub (l:List Nat):∀ c∈lead l,c∈l:=fun c h=>(List.dropWhile_sublist _).subset h
theorem lead_len (l:List Nat):(lead l).length≤l.length:=(List.dropWhile_sublist _).length_le
theorem trail_eq (l:List Nat):∃ n,l=trail l++List.replicate n 48∧(∀ c,(trail l).reverse.head?=some c→c≠48):=by
 obtain⟨n,h1,h2⟩:=dw l.reverse
 refine⟨n,?_,fun c h=>h2 c (by unfold trail at h;rw[List.reverse_reverse] at h;exact h)⟩
 have h3:=congrArg List.reverse h1
 rw[List.reverse_reverse,List.reverse_append,List.reverse_replicate] at h3
 exact h3
theorem dig_lt (l:List Nat) (h:∀ c∈l,isD c=true):digV l<10 ^ l.length:=by
 induction l with
 | nil=>simp [digV]
 | cons c l ih=>
  have hc:=(isD_iff c).1 (h c (by simp))
  have:=ih fun x hx=>h x (by simp [hx])
  have e:=digV_append [c] l
  rw[List.singleton_append] at e
  rw[e,List.length_cons,Nat.pow_succ]
  have e1:digV [c]=c-48:=by simp [digV]
  rw[e1]
  have h2:(c-48)*10 ^ l.length≤9*10 ^ l.length:=Nat.mul_le_mul_right _ (by omega)
  omega
theorem dig_ge (c:Nat) (l:List Nat) (h:49≤c):10 ^ l.length≤digV (c::l):=by
 have e:=digV_append [c] l
 rw[List.singleton_append] at e
 have e1:digV [c]=c-48:=by simp [digV]
 rw[e,e1]
 have h2:1*10 ^ l.length≤(c-48)*10 ^ l.length:=Nat.mul_le_mul_right _ (by omega)
 omega
theorem fin_parse (neg:Bool) (ds:List Nat) (X:Int) (h:∀ c∈ds,isD c=true) :
  (lead ds=[]→finS neg (digV ds) X=(0,0,0)) ∧
  (lead ds≠[]→trail (lead ds)≠[]∧(∀ c∈trail (lead ds),isD c=true)∧(trail (lead ds)).length≤(lead ds).length ∧
   (if (trail (lead ds)).length > 9∨X+((lead ds).length-(trail (lead ds)).length:Nat) < -18∨X+((lead ds).length-(trail (lead ds)).length:Nat) > 9 then finS neg (digV ds) X=(0,0,30)
    else finS neg (digV ds) X=(if neg then -(digV (trail (lead ds)):Int) else digV (trail (lead ds)),X+((lead ds).length-(trail (lead ds)).length:Nat),0))):=by
 have hv:=lead_val ds
 have hl:∀ c∈lead ds,isD c=true:=fun c hc=>h c (lead_sub ds c hc)
 obtain⟨_,_,hhead⟩:=dw ds
 constructor
 ·intro e
  rw[e] at hv
  unfold finS
  rw[←hv]
  rfl
 ·intro hne
  obtain⟨n,t1,t2⟩:=trail_eq (lead ds)
  have hlen:=congrArg List.length t1
  rw[List.length_append,List.length_replicate] at hlen
  have hval:=congrArg digV t1
  rw[digV_zeros,hv] at hval
  have hds:∀ c∈trail (lead ds),isD c=true:=fun c hc=>hl c (by rw[t1];exact List.mem_append_left _ hc)
  have hh:∀ c,(lead ds).head?=some c→49≤c:=fun c hc=>by
   have a:=hhead c hc
   have b:=(isD_iff c).1 (hl c (List.mem_of_head? hc))
   omega
  have htne:trail (lead ds)≠[]:=fun e=>by
   rw[e,List.nil_append] at t1
   cases n with
   | zero=>exact hne t1
   | succ n=>
    have:=hh 48 (by rw[t1];rfl)
    omega
  generalize hT:trail (lead ds)=T at *
  obtain⟨c,r,rfl⟩:∃ c r,T=c::r:=by
   cases T with
   | nil=>exact absurd rfl htne
   | cons c r=>exact⟨c,r,rfl⟩
  have hc49:49≤c:=hh c (by rw[t1];rfl)
  have hge:=dig_ge c r hc49
  have hlt:=dig_lt (c::r) hds
  have hpos:0<digV (c::r):=Nat.lt_of_lt_of_le (Nat.pow_pos (by decide)) hge
  have hmod:digV (c::r) % 10≠0:=by
   obtain⟨x,y,hxy⟩:∃ x y,c::r=x++[y]:=⟨(c::r).dropLast,(c::r).getLast (by simp),(List.dropLast_concat_getLast (by simp)).symm⟩
   have hy:=t2 y (by rw[hxy];simp)
   have hyd:=(isD_iff y).1 (hds y (by rw[hxy];simp))
   rw[hxy,digV_snoc]
   omega
  have hst:strip (digV ds) X=(digV (c::r),X+n):=by rw[hval,strip_pow _ hpos,strip_stop _ _ (fun q=>hmod q.2)]
  have hd0:digV ds≠0:=by
   rw[hval]
   have:=Nat.mul_pos hpos (Nat.pow_pos (n:=n) (show 0<10 by decide))
   omega
  have hn:(lead ds).length-(c::r).length=n:=by omega
  refine⟨htne,hds,by omega,?_⟩
  rw[hn]
  have h9:(c::r).length > 9↔¬digV (c::r)≤999999999:=by
   constructor
   ·intro q
    have:10 ^ 9≤10 ^ r.length:=Nat.pow_le_pow_right (by decide) (by rw[List.length_cons] at q;omega)
    omega
   ·intro q
    refine Nat.lt_of_not_le fun q2=>q ?_
    have:10 ^ (c::r).length≤10 ^ 9:=Nat.pow_le_pow_right (by decide) q2
    omega
  unfold finS
  rw[if_neg hd0,hst]
  simp only
  by_cases q:(c::r).length > 9∨X+(n:Int) < -18∨X+(n:Int) > 9
  ·rw[if_pos q,if_neg]
   rintro ⟨a,b,d⟩
   rcases q with q | q | q
   ·exact(h9.1 q) a
   ·omega
   ·omega
  ·rw[if_neg q,if_pos]
   refine⟨?_,by omega,by omega⟩
   have q1:¬(c::r).length > 9:=fun e=>q (.inl e)
   rw[h9] at q1
   omega
theorem parse_cut (l:List Nat) (h:l.length≤32):parseS l=bodyS (decide (l.head?=some 45)) (cut1 l 45):=by
 unfold parseS cut1
 rw[if_neg (by omega)]
 split
 ·rfl
 ·rename_i hne
  cases l with
  | nil=>rfl
  | cons a r=>
   have:a≠45:=fun e=>hne r (by rw[e])
   simp [this]
theorem fr_take (r:List Nat):r.take (fr r).length=fr r:=by
 have h2:(fr r++bk r).take (fr r).length=fr r:=List.take_left
 rw[fr_bk] at h2
 exact h2
theorem bk_drop (r:List Nat):r.drop (fr r).length=bk r:=by
 have h2:(fr r++bk r).drop (fr r).length=bk r:=List.drop_left
 rw[fr_bk] at h2
 exact h2
end NumP
namespace NumV
open Go Go.RowKit Ax Ti BigM NumS NumA NumT NumU NumL
theorem rTI:type_of% (J8 @ti3 @ti2 @ti4 @ti9 @ti5 @ti43 @ti23 @ti31):=cj @ti3 (J7 @ti2 @ti4 @ti9 @ti5 @ti43 @ti23 @ti31)
theorem fr_full (d:List Nat):(fr d).length=d.length↔∀ c∈d,isD c=true:=by
 constructor
 ·intro h
  have h1:=fr_bk d
  have h2:=congrArg List.length h1
  rw[List.length_append] at h2
  have h3:bk d=[]:=List.length_eq_zero_iff.1 (by omega)
  rw[h3,List.append_nil] at h1
  rw[←h1]
  exact fr_all d
 ·intro h
  have:=(fr_app d [] h (fun c hc=>by cases hc)).1
  rw[List.append_nil] at this
  rw[this]
theorem slice_one (c:Nat) (r:List Nat) (n:Nat) (hn:n=r.length+1):(bs (c::r)).extract 1 n=bs r:=by
 subst hn
 rw[bs_slice,List.drop_one,List.tail_cons,Nat.add_sub_cancel,List.take_length]
theorem beq_c (l:List Nat) (h:By l) (m:List Nat) (hm:By m) (b:Bool) (hb:decide (l=m)=b):((bs l).toList==(bs m).toList)=b:=by rw[bs_beq l m h hm,hb]
theorem letters_ax (l:List Nat) (h:By l) (hl:l.length≤1000000000):PCall Tryz.prog 146 [.v (.string (bs l))] (tailV (lettersS l)):=by
 have hid:idf (tailV (lettersS l))=true:=by cases lettersS l <;> rfl
 refine pcall_of fun s=>?_
 rw[hid]
 by_cases w5:l=[]
 ·subst w5
  have e5:((bs []).toList==(ByteArray.mk #[]).toList)=true:=beq_c [] h [] (letter_by 5) true (by decide)
  have e0:((bs []).toList==(ByteArray.mk #[102]).toList)=false:=beq_c [] h [102] (letter_by 0) false (by decide)
  have e1:((bs []).toList==(ByteArray.mk #[112]).toList)=false:=beq_c [] h [112] (letter_by 1) false (by decide)
  have e2:((bs []).toList==(ByteArray.mk #[110]).toList)=false:=beq_c [] h [110] (letter_by 2) false (by decide)
  have e3:((bs []).toList==(ByteArray.mk #[117]).toList)=false:=beq_c [] h [117] (letter_by 3) false (by decide)
  have e4:((bs []).toList==(ByteArray.mk #[109]).toList)=false:=beq_c [] h [109] (letter_by 4) false (by decide)
  have e6:((bs []).toList==(ByteArray.mk #[107]).toList)=false:=beq_c [] h [107] (letter_by 6) false (by decide)
  have e7:((bs []).toList==(ByteArray.mk #[109,101,103]).toList)=false:=beq_c [] h [109,101,103] (letter_by 7) false (by decide)
  have e8:((bs []).toList==(ByteArray.mk #[103]).toList)=false:=beq_c [] h [103] (letter_by 8) false (by decide)
  have e9:((bs []).toList==(ByteArray.mk #[116]).toList)=false:=beq_c [] h [116] (letter_by 9) false (by decide)
  rw[show lettersS []=some (0) from rfl]
  refine acall_of Tryz.func146 rfl rfl (by simp [Tryz.ntmps146]) ?_;rw[Tryz.ntmps146,Tryz.results146]
  refine go (J11 rTI @e5 @e0 @e1 @e2 @e3 @e4 @e6 @e7 @e8 @e9) ?_
  all_goals (try (refine ifs ?_ ?_ <;> first | exact nope | intro hb;refine go (J11 rTI @e5 @e0 @e1 @e2 @e3 @e4 @e6 @e7 @e8 @e9) ?_))
  all_goals rfl
 by_cases w0:l=[102]
 ·subst w0
  have e5:((bs [102]).toList==(ByteArray.mk #[]).toList)=false:=beq_c [102] h [] (letter_by 5) false (by decide)
  have e0:((bs [102]).toList==(ByteArray.mk #[102]).toList)=true:=beq_c [102] h [102] (letter_by 0) true (by decide)
  have e1:((bs [102]).toList==(ByteArray.mk #[112]).toList)=false:=beq_c [102] h [112] (letter_by 1) false (by decide)
  have e2:((bs [102]).toList==(ByteArray.mk #[110]).toList)=false:=beq_c [102] h [110] (letter_by 2) false (by decide)
  have e3:((bs [102]).toList==(ByteArray.mk #[117]).toList)=false:=beq_c [102] h [117] (letter_by 3) false (by decide)
  have e4:((bs [102]).toList==(ByteArray.mk #[109]).toList)=false:=beq_c [102] h [109] (letter_by 4) false (by decide)
  have e6:((bs [102]).toList==(ByteArray.mk #[107]).toList)=false:=beq_c [102] h [107] (letter_by 6) false (by decide)
  have e7:((bs [102]).toList==(ByteArray.mk #[109,101,103]).toList)=false:=beq_c [102] h [109,101,103] (letter_by 7) false (by decide)
  have e8:((bs [102]).toList==(ByteArray.mk #[103]).toList)=false:=beq_c [102] h [103] (letter_by 8) false (by decide)
  have e9:((bs [102]).toList==(ByteArray.mk #[116]).toList)=false:=beq_c [102] h [116] (letter_by 9) false (by decide)
  rw[show lettersS [102]=some (-15) from rfl]
  refine acall_of Tryz.func146 rfl rfl (by simp [Tryz.ntmps146]) ?_;rw[Tryz.ntmps146,Tryz.results146]
  refine go (J11 rTI @e5 @e0 @e1 @e2 @e3 @e4 @e6 @e7 @e8 @e9) ?_
  all_goals (try (refine ifs ?_ ?_ <;> first | exact nope | intro hb;refine go (J11 rTI @e5 @e0 @e1 @e2 @e3 @e4 @e6 @e7 @e8 @e9) ?_))
  all_goals (try (refine ifs ?_ ?_ <;> first | exact nope | intro hb;refine go (J11 rTI @e5 @e0 @e1 @e2 @e3 @e4 @e6 @e7 @e8 @e9) ?_))
  all_goals rfl
 by_cases w1:l=[112]
 ·subst w1
  have e5:((bs [112]).toList==(ByteArray.mk #[]).toList)=false:=beq_c [112] h [] (letter_by 5) false (by decide)
  have e0:((bs [112]).toList==(ByteArray.mk #[102]).toList)=false:=beq_c [112] h [102] (letter_by 0) false (by decide)
  have e1:((bs [112]).toList==(ByteArray.mk #[112]).toList)=true:=beq_c [112] h [112] (letter_by 1) true (by decide)
  have e2:((bs [112]).toList==(ByteArray.mk #[110]).toList)=false:=beq_c [112] h [110] (letter_by 2) false (by decide)
  have e3:((bs [112]).toList==(ByteArray.mk #[117]).toList)=false:=beq_c [112] h [117] (letter_by 3) false (by decide)
  have e4:((bs [112]).toList==(ByteArray.mk #[109]).toList)=false:=beq_c [112] h [109] (letter_by 4) false (by decide)
  have e6:((bs [112]).toList==(ByteArray.mk #[107]).toList)=false:=beq_c [112] h [107] (letter_by 6) false (by decide)
  have e7:((bs [112]).toList==(ByteArray.mk #[109,101,103]).toList)=false:=beq_c [112] h [109,101,103] (letter_by 7) false (by decide)
  have e8:((bs [112]).toList==(ByteArray.mk #[103]).toList)=false:=beq_c [112] h [103] (letter_by 8) false (by decide)
  have e9:((bs [112]).toList==(ByteArray.mk #[116]).toList)=false:=beq_c [112] h [116] (letter_by 9) false (by decide)
  rw[show lettersS [112]=some (-12) from rfl]
  refine acall_of Tryz.func146 rfl rfl (by simp [Tryz.ntmps146]) ?_;rw[Tryz.ntmps146,Tryz.results146]
  refine go (J11 rTI @e5 @e0 @e1 @e2 @e3 @e4 @e6 @e7 @e8 @e9) ?_
  all_goals (try (refine ifs ?_ ?_ <;> first | exact nope | intro hb;refine go (J11 rTI @e5 @e0 @e1 @e2 @e3 @e4 @e6 @e7 @e8 @e9) ?_))
  all_goals (try (refine ifs ?_ ?_ <;> first | exact nope | intro hb;refine go (J11 rTI @e5 @e0 @e1 @e2 @e3 @e4 @e6 @e7 @e8 @e9) ?_))
  all_goals (try (refine ifs ?_ ?_ <;> first | exact nope | intro hb;refine go (J11 rTI @e5 @e0 @e1 @e2 @e3 @e4 @e6 @e7 @e8 @e9) ?_))
  all_goals rfl
 by_cases w2:l=[110]
 ·subst w2
  have e5:((bs [110]).toList==(ByteArray.mk #[]).toList)=false:=beq_c [110] h [] (letter_by 5) false (by decide)
  have e0:((bs [110]).toList==(ByteArray.mk #[102]).toList)=false:=beq_c [110] h [102] (letter_by 0) false (by decide)
  have e1:((bs [110]).toList==(ByteArray.mk #[112]).toList)=false:=beq_c [110] h [112] (letter_by 1) false (by decide)
  have e2:((bs [110]).toList==(ByteArray.mk #[110]).toList)=true:=beq_c [110] h [110] (letter_by 2) true (by decide)
  have e3:((bs [110]).toList==(ByteArray.mk #[117]).toList)=false:=beq_c [110] h [117] (letter_by 3) false (by decide)
  have e4:((bs [110]).toList==(ByteArray.mk #[109]).toList)=false:=beq_c [110] h [109] (letter_by 4) false (by decide)
  have e6:((bs [110]).toList==(ByteArray.mk #[107]).toList)=false:=beq_c [110] h [107] (letter_by 6) false (by decide)
  have e7:((bs [110]).toList==(ByteArray.mk #[109,101,103]).toList)=false:=beq_c [110] h [109,101,103] (letter_by 7) false (by decide)
  have e8:((bs [110]).toList==(ByteArray.mk #[103]).toList)=false:=beq_c [110] h [103] (letter_by 8) false (by decide)
  have e9:((bs [110]).toList==(ByteArray.mk #[116]).toList)=false:=beq_c [110] h [116] (letter_by 9) false (by decide)
  rw[show lettersS [110]=some (-9) from rfl]
  refine acall_of Tryz.func146 rfl rfl (by simp [Tryz.ntmps146]) ?_;rw[Tryz.ntmps146,Tryz.results146]
  refine go (J11 rTI @e5 @e0 @e1 @e2 @e3 @e4 @e6 @e7 @e8 @e9) ?_
  all_goals (try (refine ifs ?_ ?_ <;> first | exact nope | intro hb;refine go (J11 rTI @e5 @e0 @e1 @e2 @e3 @e4 @e6 @e7 @e8 @e9) ?_))
  all_goals (try (refine ifs ?_ ?_ <;> first | exact nope | intro hb;refine go (J11 rTI @e5 @e0 @e1 @e2 @e3 @e4 @e6 @e7 @e8 @e9) ?_))
  all_goals (try (refine ifs ?_ ?_ <;> first | exact nope | intro hb;refine go (J11 rTI @e5 @e0 @e1 @e2 @e3 @e4 @e6 @e7 @e8 @e9) ?_))
  all_goals (try (refine ifs ?_ ?_ <;> first | exact nope | intro hb;refine go (J11 rTI @e5 @e0 @e1 @e2 @e3 @e4 @e6 @e7 @e8 @e9) ?_))
  all_goals rfl
 by_cases w3:l=[117]
 ·subst w3
  have e5:((bs [117]).toList==(ByteArray.mk #[]).toList)=false:=beq_c [117] h [] (letter_by 5) false (by decide)
  have e0:((bs [117]).toList==(ByteArray.mk #[102]).toList)=false:=beq_c [117] h [102] (letter_by 0) false (by decide)
  have e1:((bs [117]).toList==(ByteArray.mk #[112]).toList)=false:=beq_c [117] h [112] (letter_by 1) false (by decide)
  have e2:((bs [117]).toList==(ByteArray.mk #[110]).toList)=false:=beq_c [117] h [110] (letter_by 2) false (by decide)
  have e3:((bs [117]).toList==(ByteArray.mk #[117]).toList)=true:=beq_c [117] h [117] (letter_by 3) true (by decide)
  have e4:((bs [117]).toList==(ByteArray.mk #[109]).toList)=false:=beq_c [117] h [109] (letter_by 4) false (by decide)
  have e6:((bs [117]).toList==(ByteArray.mk #[107]).toList)=false:=beq_c [117] h [107] (letter_by 6) false (by decide)
  have e7:((bs [117]).toList==(ByteArray.mk #[109,101,103]).toList)=false:=beq_c [117] h [109,101,103] (letter_by 7) false (by decide)
  have e8:((bs [117]).toList==(ByteArray.mk #[103]).toList)=false:=beq_c [117] h [103] (letter_by 8) false (by decide)
  have e9:((bs [117]).toList==(ByteArray.mk #[116]).toList)=false:=beq_c [117] h [116] (letter_by 9) false (by decide)
  rw[show lettersS [117]=some (-6) from rfl]
  refine acall_of Tryz.func146 rfl rfl (by simp [Tryz.ntmps146]) ?_;rw[Tryz.ntmps146,Tryz.results146]
  refine go (J11 rTI @e5 @e0 @e1 @e2 @e3 @e4 @e6 @e7 @e8 @e9) ?_
  all_goals (try (refine ifs ?_ ?_ <;> first | exact nope | intro hb;refine go (J11 rTI @e5 @e0 @e1 @e2 @e3 @e4 @e6 @e7 @e8 @e9) ?_))
  all_goals (try (refine ifs ?_ ?_ <;> first | exact nope | intro hb;refine go (J11 rTI @e5 @e0 @e1 @e2 @e3 @e4 @e6 @e7 @e8 @e9) ?_))
  all_goals (try (refine ifs ?_ ?_ <;> first | exact nope | intro hb;refine go (J11 rTI @e5 @e0 @e1 @e2 @e3 @e4 @e6 @e7 @e8 @e9) ?_))
  all_goals (try (refine ifs ?_ ?_ <;> first | exact nope | intro hb;refine go (J11 rTI @e5 @e0 @e1 @e2 @e3 @e4 @e6 @e7 @e8 @e9) ?_))
  all_goals (try (refine ifs ?_ ?_ <;> first | exact nope | intro hb;refine go (J11 rTI @e5 @e0 @e1 @e2 @e3 @e4 @e6 @e7 @e8 @e9) ?_))
  all_goals rfl
 by_cases w4:l=[109]
 ·subst w4
  have e5:((bs [109]).toList==(ByteArray.mk #[]).toList)=false:=beq_c [109] h [] (letter_by 5) false (by decide)
  have e0:((bs [109]).toList==(ByteArray.mk #[102]).toList)=false:=beq_c [109] h [102] (letter_by 0) false (by decide)
  have e1:((bs [109]).toList==(ByteArray.mk #[112]).toList)=false:=beq_c [109] h [112] (letter_by 1) false (by decide)
  have e2:((bs [109]).toList==(ByteArray.mk #[110]).toList)=false:=beq_c [109] h [110] (letter_by 2) false (by decide)
  have e3:((bs [109]).toList==(ByteArray.mk #[117]).toList)=false:=beq_c [109] h [117] (letter_by 3) false (by decide)
  have e4:((bs [109]).toList==(ByteArray.mk #[109]).toList)=true:=beq_c [109] h [109] (letter_by 4) true (by decide)
  have e6:((bs [109]).toList==(ByteArray.mk #[107]).toList)=false:=beq_c [109] h [107] (letter_by 6) false (by decide)
  have e7:((bs [109]).toList==(ByteArray.mk #[109,101,103]).toList)=false:=beq_c [109] h [109,101,103] (letter_by 7) false (by decide)
  have e8:((bs [109]).toList==(ByteArray.mk #[103]).toList)=false:=beq_c [109] h [103] (letter_by 8) false (by decide)
  have e9:((bs [109]).toList==(ByteArray.mk #[116]).toList)=false:=beq_c [109] h [116] (letter_by 9) false (by decide)
  rw[show lettersS [109]=some (-3) from rfl]
  refine acall_of Tryz.func146 rfl rfl (by simp [Tryz.ntmps146]) ?_;rw[Tryz.ntmps146,Tryz.results146]
  refine go (J11 rTI @e5 @e0 @e1 @e2 @e3 @e4 @e6 @e7 @e8 @e9) ?_
  all_goals (try (refine ifs ?_ ?_ <;> first | exact nope | intro hb;refine go (J11 rTI @e5 @e0 @e1 @e2 @e3 @e4 @e6 @e7 @e8 @e9) ?_))
  all_goals (try (refine ifs ?_ ?_ <;> first | exact nope | intro hb;refine go (J11 rTI @e5 @e0 @e1 @e2 @e3 @e4 @e6 @e7 @e8 @e9) ?_))
  all_goals (try (refine ifs ?_ ?_ <;> first | exact nope | intro hb;refine go (J11 rTI @e5 @e0 @e1 @e2 @e3 @e4 @e6 @e7 @e8 @e9) ?_))
  all_goals (try (refine ifs ?_ ?_ <;> first | exact nope | intro hb;refine go (J11 rTI @e5 @e0 @e1 @e2 @e3 @e4 @e6 @e7 @e8 @e9) ?_))
  all_goals (try (refine ifs ?_ ?_ <;> first | exact nope | intro hb;refine go (J11 rTI @e5 @e0 @e1 @e2 @e3 @e4 @e6 @e7 @e8 @e9) ?_))
  all_goals (try (refine ifs ?_ ?_ <;> first | exact nope | intro hb;refine go (J11 rTI @e5 @e0 @e1 @e2 @e3 @e4 @e6 @e7 @e8 @e9) ?_))
  all_goals rfl
 by_cases w6:l=[107]
 ·subst w6
  have e5:((bs [107]).toList==(ByteArray.mk #[]).toList)=false:=beq_c [107] h [] (letter_by 5) false (by decide)
  have e0:((bs [107]).toList==(ByteArray.mk #[102]).toList)=false:=beq_c [107] h [102] (letter_by 0) false (by decide)
  have e1:((bs [107]).toList==(ByteArray.mk #[112]).toList)=false:=beq_c [107] h [112] (letter_by 1) false (by decide)
  have e2:((bs [107]).toList==(ByteArray.mk #[110]).toList)=false:=beq_c [107] h [110] (letter_by 2) false (by decide)
  have e3:((bs [107]).toList==(ByteArray.mk #[117]).toList)=false:=beq_c [107] h [117] (letter_by 3) false (by decide)
  have e4:((bs [107]).toList==(ByteArray.mk #[109]).toList)=false:=beq_c [107] h [109] (letter_by 4) false (by decide)
  have e6:((bs [107]).toList==(ByteArray.mk #[107]).toList)=true:=beq_c [107] h [107] (letter_by 6) true (by decide)
  have e7:((bs [107]).toList==(ByteArray.mk #[109,101,103]).toList)=false:=beq_c [107] h [109,101,103] (letter_by 7) false (by decide)
  have e8:((bs [107]).toList==(ByteArray.mk #[103]).toList)=false:=beq_c [107] h [103] (letter_by 8) false (by decide)
  have e9:((bs [107]).toList==(ByteArray.mk #[116]).toList)=false:=beq_c [107] h [116] (letter_by 9) false (by decide)
  rw[show lettersS [107]=some (3) from rfl]
  refine acall_of Tryz.func146 rfl rfl (by simp [Tryz.ntmps146]) ?_;rw[Tryz.ntmps146,Tryz.results146]
  refine go (J11 rTI @e5 @e0 @e1 @e2 @e3 @e4 @e6 @e7 @e8 @e9) ?_
  all_goals (try (refine ifs ?_ ?_ <;> first | exact nope | intro hb;refine go (J11 rTI @e5 @e0 @e1 @e2 @e3 @e4 @e6 @e7 @e8 @e9) ?_))
  all_goals (try (refine ifs ?_ ?_ <;> first | exact nope | intro hb;refine go (J11 rTI @e5 @e0 @e1 @e2 @e3 @e4 @e6 @e7 @e8 @e9) ?_))
  all_goals (try (refine ifs ?_ ?_ <;> first | exact nope | intro hb;refine go (J11 rTI @e5 @e0 @e1 @e2 @e3 @e4 @e6 @e7 @e8 @e9) ?_))
  all_goals (try (refine ifs ?_ ?_ <;> first | exact nope | intro hb;refine go (J11 rTI @e5 @e0 @e1 @e2 @e3 @e4 @e6 @e7 @e8 @e9) ?_))
  all_goals (try (refine ifs ?_ ?_ <;> first | exact nope | intro hb;refine go (J11 rTI @e5 @e0 @e1 @e2 @e3 @e4 @e6 @e7 @e8 @e9) ?_))
  all_goals (try (refine ifs ?_ ?_ <;> first | exact nope | intro hb;refine go (J11 rTI @e5 @e0 @e1 @e2 @e3 @e4 @e6 @e7 @e8 @e9) ?_))
  all_goals (try (refine ifs ?_ ?_ <;> first | exact nope | intro hb;refine go (J11 rTI @e5 @e0 @e1 @e2 @e3 @e4 @e6 @e7 @e8 @e9) ?_))
  all_goals rfl
 by_cases w7:l=[109,101,103]
 ·subst w7
  have e5:((bs [109,101,103]).toList==(ByteArray.mk #[]).toList)=false:=beq_c [109,101,103] h [] (letter_by 5) false (by decide)
  have e0:((bs [109,101,103]).toList==(ByteArray.mk #[102]).toList)=false:=beq_c [109,101,103] h [102] (letter_by 0) false (by decide)
  have e1:((bs [109,101,103]).toList==(ByteArray.mk #[112]).toList)=false:=beq_c [109,101,103] h [112] (letter_by 1) false (by decide)
  have e2:((bs [109,101,103]).toList==(ByteArray.mk #[110]).toList)=false:=beq_c [109,101,103] h [110] (letter_by 2) false (by decide)
  have e3:((bs [109,101,103]).toList==(ByteArray.mk #[117]).toList)=false:=beq_c [109,101,103] h [117] (letter_by 3) false (by decide)
  have e4:((bs [109,101,103]).toList==(ByteArray.mk #[109]).toList)=false:=beq_c [109,101,103] h [109] (letter_by 4) false (by decide)
  have e6:((bs [109,101,103]).toList==(ByteArray.mk #[107]).toList)=false:=beq_c [109,101,103] h [107] (letter_by 6) false (by decide)
  have e7:((bs [109,101,103]).toList==(ByteArray.mk #[109,101,103]).toList)=true:=beq_c [109,101,103] h [109,101,103] (letter_by 7) true (by decide)
  have e8:((bs [109,101,103]).toList==(ByteArray.mk #[103]).toList)=false:=beq_c [109,101,103] h [103] (letter_by 8) false (by decide)
  have e9:((bs [109,101,103]).toList==(ByteArray.mk #[116]).toList)=false:=beq_c [109,101,103] h [116] (letter_by 9) false (by decide)
  rw[show lettersS [109,101,103]=some (6) from rfl]
  refine acall_of Tryz.func146 rfl rfl (by simp [Tryz.ntmps146]) ?_;rw[Tryz.ntmps146,Tryz.results146]
  refine go (J11 rTI @e5 @e0 @e1 @e2 @e3 @e4 @e6 @e7 @e8 @e9) ?_
  all_goals (try (refine ifs ?_ ?_ <;> first | exact nope | intro hb;refine go (J11 rTI @e5 @e0 @e1 @e2 @e3 @e4 @e6 @e7 @e8 @e9) ?_))
  all_goals (try (refine ifs ?_ ?_ <;> first | exact nope | intro hb;refine go (J11 rTI @e5 @e0 @e1 @e2 @e3 @e4 @e6 @e7 @e8 @e9) ?_))
  all_goals (try (refine ifs ?_ ?_ <;> first | exact nope | intro hb;refine go (J11 rTI @e5 @e0 @e1 @e2 @e3 @e4 @e6 @e7 @e8 @e9) ?_))
  all_goals (try (refine ifs ?_ ?_ <;> first | exact nope | intro hb;refine go (J11 rTI @e5 @e0 @e1 @e2 @e3 @e4 @e6 @e7 @e8 @e9) ?_))
  all_goals (try (refine ifs ?_ ?_ <;> first | exact nope | intro hb;refine go (J11 rTI @e5 @e0 @e1 @e2 @e3 @e4 @e6 @e7 @e8 @e9) ?_))
  all_goals (try (refine ifs ?_ ?_ <;> first | exact nope | intro hb;refine go (J11 rTI @e5 @e0 @e1 @e2 @e3 @e4 @e6 @e7 @e8 @e9) ?_))
  all_goals (try (refine ifs ?_ ?_ <;> first | exact nope | intro hb;refine go (J11 rTI @e5 @e0 @e1 @e2 @e3 @e4 @e6 @e7 @e8 @e9) ?_))
  all_goals (try (refine ifs ?_ ?_ <;> first | exact nope | intro hb;refine go (J11 rTI @e5 @e0 @e1 @e2 @e3 @e4 @e6 @e7 @e8 @e9) ?_))
  all_goals rfl
 by_cases w8:l=[103]
 ·subst w8
  have e5:((bs [103]).toList==(ByteArray.mk #[]).toList)=false:=beq_c [103] h [] (letter_by 5) false (by decide)
  have e0:((bs [103]).toList==(ByteArray.mk #[102]).toList)=false:=beq_c [103] h [102] (letter_by 0) false (by decide)
  have e1:((bs [103]).toList==(ByteArray.mk #[112]).toList)=false:=beq_c [103] h [112] (letter_by 1) false (by decide)
  have e2:((bs [103]).toList==(ByteArray.mk #[110]).toList)=false:=beq_c [103] h [110] (letter_by 2) false (by decide)
  have e3:((bs [103]).toList==(ByteArray.mk #[117]).toList)=false:=beq_c [103] h [117] (letter_by 3) false (by decide)
  have e4:((bs [103]).toList==(ByteArray.mk #[109]).toList)=false:=beq_c [103] h [109] (letter_by 4) false (by decide)
  have e6:((bs [103]).toList==(ByteArray.mk #[107]).toList)=false:=beq_c [103] h [107] (letter_by 6) false (by decide)
  have e7:((bs [103]).toList==(ByteArray.mk #[109,101,103]).toList)=false:=beq_c [103] h [109,101,103] (letter_by 7) false (by decide)
  have e8:((bs [103]).toList==(ByteArray.mk #[103]).toList)=true:=beq_c [103] h [103] (letter_by 8) true (by decide)
  have e9:((bs [103]).toList==(ByteArray.mk #[116]).toList)=false:=beq_c [103] h [116] (letter_by 9) false (by decide)
  rw[show lettersS [103]=some (9) from rfl]
  refine acall_of Tryz.func146 rfl rfl (by simp [Tryz.ntmps146]) ?_;rw[Tryz.ntmps146,Tryz.results146]
  refine go (J11 rTI @e5 @e0 @e1 @e2 @e3 @e4 @e6 @e7 @e8 @e9) ?_
  all_goals (try (refine ifs ?_ ?_ <;> first | exact nope | intro hb;refine go (J11 rTI @e5 @e0 @e1 @e2 @e3 @e4 @e6 @e7 @e8 @e9) ?_))
  all_goals (try (refine ifs ?_ ?_ <;> first | exact nope | intro hb;refine go (J11 rTI @e5 @e0 @e1 @e2 @e3 @e4 @e6 @e7 @e8 @e9) ?_))
  all_goals (try (refine ifs ?_ ?_ <;> first | exact nope | intro hb;refine go (J11 rTI @e5 @e0 @e1 @e2 @e3 @e4 @e6 @e7 @e8 @e9) ?_))
  all_goals (try (refine ifs ?_ ?_ <;> first | exact nope | intro hb;refine go (J11 rTI @e5 @e0 @e1 @e2 @e3 @e4 @e6 @e7 @e8 @e9) ?_))
  all_goals (try (refine ifs ?_ ?_ <;> first | exact nope | intro hb;refine go (J11 rTI @e5 @e0 @e1 @e2 @e3 @e4 @e6 @e7 @e8 @e9) ?_))
  all_goals (try (refine ifs ?_ ?_ <;> first | exact nope | intro hb;refine go (J11 rTI @e5 @e0 @e1 @e2 @e3 @e4 @e6 @e7 @e8 @e9) ?_))
  all_goals (try (refine ifs ?_ ?_ <;> first | exact nope | intro hb;refine go (J11 rTI @e5 @e0 @e1 @e2 @e3 @e4 @e6 @e7 @e8 @e9) ?_))
  all_goals (try (refine ifs ?_ ?_ <;> first | exact nope | intro hb;refine go (J11 rTI @e5 @e0 @e1 @e2 @e3 @e4 @e6 @e7 @e8 @e9) ?_))
  all_goals (try (refine ifs ?_ ?_ <;> first | exact nope | intro hb;refine go (J11 rTI @e5 @e0 @e1 @e2 @e3 @e4 @e6 @e7 @e8 @e9) ?_))
  all_goals rfl
 by_cases w9:l=[116]
 ·subst w9
  have e5:((bs [116]).toList==(ByteArray.mk #[]).toList)=false:=beq_c [116] h [] (letter_by 5) false (by decide)
  have e0:((bs [116]).toList==(ByteArray.mk #[102]).toList)=false:=beq_c [116] h [102] (letter_by 0) false (by decide)
  have e1:((bs [116]).toList==(ByteArray.mk #[112]).toList)=false:=beq_c [116] h [112] (letter_by 1) false (by decide)
  have e2:((bs [116]).toList==(ByteArray.mk #[110]).toList)=false:=beq_c [116] h [110] (letter_by 2) false (by decide)
  have e3:((bs [116]).toList==(ByteArray.mk #[117]).toList)=false:=beq_c [116] h [117] (letter_by 3) false (by decide)
  have e4:((bs [116]).toList==(ByteArray.mk #[109]).toList)=false:=beq_c [116] h [109] (letter_by 4) false (by decide)
  have e6:((bs [116]).toList==(ByteArray.mk #[107]).toList)=false:=beq_c [116] h [107] (letter_by 6) false (by decide)
  have e7:((bs [116]).toList==(ByteArray.mk #[109,101,103]).toList)=false:=beq_c [116] h [109,101,103] (letter_by 7) false (by decide)
  have e8:((bs [116]).toList==(ByteArray.mk #[103]).toList)=false:=beq_c [116] h [103] (letter_by 8) false (by decide)
  have e9:((bs [116]).toList==(ByteArray.mk #[116]).toList)=true:=beq_c [116] h [116] (letter_by 9) true (by decide)
  rw[show lettersS [116]=some (12) from rfl]
  refine acall_of Tryz.func146 rfl rfl (by simp [Tryz.ntmps146]) ?_;rw[Tryz.ntmps146,Tryz.results146]
  refine go (J11 rTI @e5 @e0 @e1 @e2 @e3 @e4 @e6 @e7 @e8 @e9) ?_
  all_goals (try (refine ifs ?_ ?_ <;> first | exact nope | intro hb;refine go (J11 rTI @e5 @e0 @e1 @e2 @e3 @e4 @e6 @e7 @e8 @e9) ?_))
  all_goals (try (refine ifs ?_ ?_ <;> first | exact nope | intro hb;refine go (J11 rTI @e5 @e0 @e1 @e2 @e3 @e4 @e6 @e7 @e8 @e9) ?_))
  all_goals (try (refine ifs ?_ ?_ <;> first | exact nope | intro hb;refine go (J11 rTI @e5 @e0 @e1 @e2 @e3 @e4 @e6 @e7 @e8 @e9) ?_))
  all_goals (try (refine ifs ?_ ?_ <;> first | exact nope | intro hb;refine go (J11 rTI @e5 @e0 @e1 @e2 @e3 @e4 @e6 @e7 @e8 @e9) ?_))
  all_goals (try (refine ifs ?_ ?_ <;> first | exact nope | intro hb;refine go (J11 rTI @e5 @e0 @e1 @e2 @e3 @e4 @e6 @e7 @e8 @e9) ?_))
  all_goals (try (refine ifs ?_ ?_ <;> first | exact nope | intro hb;refine go (J11 rTI @e5 @e0 @e1 @e2 @e3 @e4 @e6 @e7 @e8 @e9) ?_))
  all_goals (try (refine ifs ?_ ?_ <;> first | exact nope | intro hb;refine go (J11 rTI @e5 @e0 @e1 @e2 @e3 @e4 @e6 @e7 @e8 @e9) ?_))
  all_goals (try (refine ifs ?_ ?_ <;> first | exact nope | intro hb;refine go (J11 rTI @e5 @e0 @e1 @e2 @e3 @e4 @e6 @e7 @e8 @e9) ?_))
  all_goals (try (refine ifs ?_ ?_ <;> first | exact nope | intro hb;refine go (J11 rTI @e5 @e0 @e1 @e2 @e3 @e4 @e6 @e7 @e8 @e9) ?_))
  all_goals (try (refine ifs ?_ ?_ <;> first | exact nope | intro hb;refine go (J11 rTI @e5 @e0 @e1 @e2 @e3 @e4 @e6 @e7 @e8 @e9) ?_))
  all_goals rfl
 have hne:∀ k,k<10→l≠letterS k:=fun k hk=>by
  have:k=0∨k=1∨k=2∨k=3∨k=4∨k=5∨k=6∨k=7∨k=8∨k=9:=by omega
  rcases this with rfl | rfl | rfl | rfl | rfl | rfl | rfl | rfl | rfl | rfl <;> assumption
 rw[letters_exp l hne]
 clear hne
 have e5:((bs l).toList==(ByteArray.mk #[]).toList)=false:=beq_c l h [] (letter_by 5) false (decide_eq_false w5)
 have e0:((bs l).toList==(ByteArray.mk #[102]).toList)=false:=beq_c l h [102] (letter_by 0) false (decide_eq_false w0)
 have e1:((bs l).toList==(ByteArray.mk #[112]).toList)=false:=beq_c l h [112] (letter_by 1) false (decide_eq_false w1)
 have e2:((bs l).toList==(ByteArray.mk #[110]).toList)=false:=beq_c l h [110] (letter_by 2) false (decide_eq_false w2)
 have e3:((bs l).toList==(ByteArray.mk #[117]).toList)=false:=beq_c l h [117] (letter_by 3) false (decide_eq_false w3)
 have e4:((bs l).toList==(ByteArray.mk #[109]).toList)=false:=beq_c l h [109] (letter_by 4) false (decide_eq_false w4)
 have e6:((bs l).toList==(ByteArray.mk #[107]).toList)=false:=beq_c l h [107] (letter_by 6) false (decide_eq_false w6)
 have e7:((bs l).toList==(ByteArray.mk #[109,101,103]).toList)=false:=beq_c l h [109,101,103] (letter_by 7) false (decide_eq_false w7)
 have e8:((bs l).toList==(ByteArray.mk #[103]).toList)=false:=beq_c l h [103] (letter_by 8) false (decide_eq_false w8)
 have e9:((bs l).toList==(ByteArray.mk #[116]).toList)=false:=beq_c l h [116] (letter_by 9) false (decide_eq_false w9)
 obtain⟨c,r,rfl⟩:∃ c r,l=c::r:=by
  cases l with
  | nil=>exact absurd rfl w5
  | cons c r=>exact⟨c,r,rfl⟩
 clear w5 w0 w1 w2 w3 w4 w6 w7 w8 w9
 have l1:=bs_size (c::r)
 have g0:=bs_get (c::r) h 0
 rw[List.getD_cons_zero] at g0
 rw[List.length_cons] at l1 hl
 have tz:Int.toNat 0=0:=rfl
 have t1:Int.toNat 1=1:=rfl
 have hc:c<256:=h c (by simp)
 have hr:By r:=fun x hx=>h x (by simp [hx])
 by_cases qe:c=101
 ·subst qe
  rw[show expL (101::r)=expS r from rfl]
  have sl:=slice_one 101 r (r.length+1) rfl
  have hp1:=hasPrefix_ax r hr 45 (by decide)
  have hp2:=hasPrefix_ax r hr 43 (by decide)
  have lr:=bs_size r
  rcases exp_ways r with ⟨d,hrd,hexp⟩ | ⟨d,hrd,hexp⟩ | ⟨d,hrd,hexp,hn1,hn2⟩
  ·obtain rfl:r=45::d:=by injection hrd
   have hbd:By d:=fun x hx=>hr x (by simp [hx])
   have s2:=slice_one 45 d (d.length+1) rfl
   rw[List.length_cons] at l1 hl lr sl
   rw[show decide ((45::d).head?=some 45)=true from rfl] at hp1
   refine acall_of Tryz.func146 rfl rfl (by simp [Tryz.ntmps146]) ?_;rw[Tryz.ntmps146,Tryz.results146]
   refine go (J11 rTI @e5 @e0 @e1 @e2 @e3 @e4 @e6 @e7 @e8 @e9) ?_
   refine ifs ?_ ?_ <;> first | exact nope | intro hb
   refine go (J14 rTI @e5 @e0 @e1 @e2 @e3 @e4 @e6 @e7 @e8 @e9 @l1 @g0 @tz) ?_
   refine ifs ?_ ?_ <;> first | exact nope | intro hb
   refine go (J14 rTI @e5 @e0 @e1 @e2 @e3 @e4 @e6 @e7 @e8 @e9 @l1 @g0 @tz) ?_
   refine ifs ?_ ?_ <;> first | exact nope | intro hb
   refine go (J14 rTI @e5 @e0 @e1 @e2 @e3 @e4 @e6 @e7 @e8 @e9 @l1 @g0 @tz) ?_
   refine ifs ?_ ?_ <;> first | exact nope | intro hb
   refine go (J14 rTI @e5 @e0 @e1 @e2 @e3 @e4 @e6 @e7 @e8 @e9 @l1 @g0 @tz) ?_
   refine ifs ?_ ?_ <;> first | exact nope | intro hb
   refine go (J14 rTI @e5 @e0 @e1 @e2 @e3 @e4 @e6 @e7 @e8 @e9 @l1 @g0 @tz) ?_
   refine ifs ?_ ?_ <;> first | exact nope | intro hb
   refine go (J14 rTI @e5 @e0 @e1 @e2 @e3 @e4 @e6 @e7 @e8 @e9 @l1 @g0 @tz) ?_
   refine ifs ?_ ?_ <;> first | exact nope | intro hb
   refine go (J14 rTI @e5 @e0 @e1 @e2 @e3 @e4 @e6 @e7 @e8 @e9 @l1 @g0 @tz) ?_
   refine ifs ?_ ?_ <;> first | exact nope | intro hb
   refine go (J14 rTI @e5 @e0 @e1 @e2 @e3 @e4 @e6 @e7 @e8 @e9 @l1 @g0 @tz) ?_
   refine ifs ?_ ?_ <;> first | exact nope | intro hb
   refine go (J14 rTI @e5 @e0 @e1 @e2 @e3 @e4 @e6 @e7 @e8 @e9 @l1 @g0 @tz) ?_
   refine ifs ?_ ?_ <;> first | exact nope | intro hb
   refine go (J14 rTI @e5 @e0 @e1 @e2 @e3 @e4 @e6 @e7 @e8 @e9 @l1 @g0 @tz) ?_
   rw[then_normal]
   refine ifs ?_ ?_ <;> first | exact nope | intro hb
   refine go (J4 rTI @l1 @t1 @sl) ?_
   refine aw_reg fun K hK=>?_;refine rn rTI ?_;refine cont_pure hp1 ?_;refine rn rTI ?_;refine hK _ _ ?_;clear hK K
   rw[then_normal]
   refine go trivial ?_
   refine ifs ?_ ?_ <;> first | exact nope | intro hb
   refine go (J4 rTI @lr @t1 @s2) ?_
   rw[hexp]
   have ld:=bs_size d
   have hld:d.length≤1000000000:=by omega
   have hrun:=run_ax d hbd hld
   have hfl:=fr_le d
   by_cases q1:d.length<1
   ·rw[two_bad d (fun h=>by omega)]
    refine go (cj rTI @ld) ?_
    refine ifs ?_ ?_ <;> first | exact nope | intro hb
    refine go trivial ?_
    all_goals rfl
   ·by_cases q2:2<d.length
    ·rw[two_bad d (fun h=>by omega)]
     refine go (cj rTI @ld) ?_
     refine ifs ?_ ?_ <;> first | exact nope | intro hb
     refine go trivial ?_
     all_goals rfl
    ·have htwo:=two_good d (by omega) (by omega)
     have hff:=fr_full d
     by_cases q3:(fr d).length=d.length
     ·have hall:=hff.1 q3
      have hat:=atoi_ax d hall (fun e=>by rw[e] at q1;simp at q1) (by omega)
      have hvb:digV d≤99:=digV_two d (by omega) hall
      rw[htwo,if_pos hall]
      clear hff htwo hall
      refine aw_reg fun K hK=>?_;refine rn (cj rTI @ld) ?_;refine cont_pure hrun ?_;refine rn (cj rTI @ld) ?_;refine hK _ _ ?_;clear hK K
      rw[then_normal]
      refine ifs ?_ ?_ <;> first | exact nope | intro hb
      refine go trivial ?_
      generalize digV d=v at *
      refine aw_reg fun K hK=>?_;refine rn rTI ?_;refine cont_pure hat ?_;refine rn rTI ?_;refine hK _ _ ?_;clear hK K
      rw[then_normal]
      refine go trivial ?_
      refine ifs ?_ ?_ <;> first | exact nope | intro hb
      refine go trivial ?_
      show _=AV.tp [.v (.int .i64 (-(v:Int))),_];simp
     ·rw[htwo,if_neg (fun h=>q3 (hff.2 h))]
      clear hff htwo
      refine aw_reg fun K hK=>?_;refine rn (cj rTI @ld) ?_;refine cont_pure hrun ?_;refine rn (cj rTI @ld) ?_;refine hK _ _ ?_;clear hK K
      rw[then_normal]
      refine ifs ?_ ?_ <;> first | exact nope | intro hb
      refine go trivial ?_
      all_goals rfl
  ·obtain rfl:r=43::d:=by injection hrd
   have hbd:By d:=fun x hx=>hr x (by simp [hx])
   have s2:=slice_one 43 d (d.length+1) rfl
   rw[List.length_cons] at l1 hl lr sl
   rw[show decide ((43::d).head?=some 45)=false from rfl] at hp1
   rw[show decide ((43::d).head?=some 43)=true from rfl] at hp2
   refine acall_of Tryz.func146 rfl rfl (by simp [Tryz.ntmps146]) ?_;rw[Tryz.ntmps146,Tryz.results146]
   refine go (J11 rTI @e5 @e0 @e1 @e2 @e3 @e4 @e6 @e7 @e8 @e9) ?_
   refine ifs ?_ ?_ <;> first | exact nope | intro hb
   refine go (J14 rTI @e5 @e0 @e1 @e2 @e3 @e4 @e6 @e7 @e8 @e9 @l1 @g0 @tz) ?_
   refine ifs ?_ ?_ <;> first | exact nope | intro hb
   refine go (J14 rTI @e5 @e0 @e1 @e2 @e3 @e4 @e6 @e7 @e8 @e9 @l1 @g0 @tz) ?_
   refine ifs ?_ ?_ <;> first | exact nope | intro hb
   refine go (J14 rTI @e5 @e0 @e1 @e2 @e3 @e4 @e6 @e7 @e8 @e9 @l1 @g0 @tz) ?_
   refine ifs ?_ ?_ <;> first | exact nope | intro hb
   refine go (J14 rTI @e5 @e0 @e1 @e2 @e3 @e4 @e6 @e7 @e8 @e9 @l1 @g0 @tz) ?_
   refine ifs ?_ ?_ <;> first | exact nope | intro hb
   refine go (J14 rTI @e5 @e0 @e1 @e2 @e3 @e4 @e6 @e7 @e8 @e9 @l1 @g0 @tz) ?_
   refine ifs ?_ ?_ <;> first | exact nope | intro hb
   refine go (J14 rTI @e5 @e0 @e1 @e2 @e3 @e4 @e6 @e7 @e8 @e9 @l1 @g0 @tz) ?_
   refine ifs ?_ ?_ <;> first | exact nope | intro hb
   refine go (J14 rTI @e5 @e0 @e1 @e2 @e3 @e4 @e6 @e7 @e8 @e9 @l1 @g0 @tz) ?_
   refine ifs ?_ ?_ <;> first | exact nope | intro hb
   refine go (J14 rTI @e5 @e0 @e1 @e2 @e3 @e4 @e6 @e7 @e8 @e9 @l1 @g0 @tz) ?_
   refine ifs ?_ ?_ <;> first | exact nope | intro hb
   refine go (J14 rTI @e5 @e0 @e1 @e2 @e3 @e4 @e6 @e7 @e8 @e9 @l1 @g0 @tz) ?_
   refine ifs ?_ ?_ <;> first | exact nope | intro hb
   refine go (J14 rTI @e5 @e0 @e1 @e2 @e3 @e4 @e6 @e7 @e8 @e9 @l1 @g0 @tz) ?_
   rw[then_normal]
   refine ifs ?_ ?_ <;> first | exact nope | intro hb
   refine go (J4 rTI @l1 @t1 @sl) ?_
   refine aw_reg fun K hK=>?_;refine rn rTI ?_;refine cont_pure hp1 ?_;refine rn rTI ?_;refine hK _ _ ?_;clear hK K
   rw[then_normal]
   refine go trivial ?_
   refine aw_reg fun K hK=>?_;refine rn rTI ?_;refine cont_pure hp2 ?_;refine rn rTI ?_;refine hK _ _ ?_;clear hK K
   rw[then_normal]
   refine ifs ?_ ?_ <;> first | exact nope | intro hb
   refine go (J4 rTI @lr @t1 @s2) ?_
   rw[hexp]
   have ld:=bs_size d
   have hld:d.length≤1000000000:=by omega
   have hrun:=run_ax d hbd hld
   have hfl:=fr_le d
   by_cases q1:d.length<1
   ·rw[two_bad d (fun h=>by omega)]
    refine go (cj rTI @ld) ?_
    refine ifs ?_ ?_ <;> first | exact nope | intro hb
    refine go trivial ?_
    all_goals rfl
   ·by_cases q2:2<d.length
    ·rw[two_bad d (fun h=>by omega)]
     refine go (cj rTI @ld) ?_
     refine ifs ?_ ?_ <;> first | exact nope | intro hb
     refine go trivial ?_
     all_goals rfl
    ·have htwo:=two_good d (by omega) (by omega)
     have hff:=fr_full d
     by_cases q3:(fr d).length=d.length
     ·have hall:=hff.1 q3
      have hat:=atoi_ax d hall (fun e=>by rw[e] at q1;simp at q1) (by omega)
      have hvb:digV d≤99:=digV_two d (by omega) hall
      rw[htwo,if_pos hall]
      clear hff htwo hall
      refine aw_reg fun K hK=>?_;refine rn (cj rTI @ld) ?_;refine cont_pure hrun ?_;refine rn (cj rTI @ld) ?_;refine hK _ _ ?_;clear hK K
      rw[then_normal]
      refine ifs ?_ ?_ <;> first | exact nope | intro hb
      refine go trivial ?_
      generalize digV d=v at *
      refine aw_reg fun K hK=>?_;refine rn rTI ?_;refine cont_pure hat ?_;refine rn rTI ?_;refine hK _ _ ?_;clear hK K
      rw[then_normal]
      refine go trivial ?_
      refine ifs ?_ ?_ <;> first | exact nope | intro hb
      refine go trivial ?_
      show _=AV.tp [.v (.int .i64 (v:Int)),_];simp
     ·rw[htwo,if_neg (fun h=>q3 (hff.2 h))]
      clear hff htwo
      refine aw_reg fun K hK=>?_;refine rn (cj rTI @ld) ?_;refine cont_pure hrun ?_;refine rn (cj rTI @ld) ?_;refine hK _ _ ?_;clear hK K
      rw[then_normal]
      refine ifs ?_ ?_ <;> first | exact nope | intro hb
      refine go trivial ?_
      all_goals rfl
  ·obtain rfl:r=d:=by injection hrd
   have hbd:=hr
   have hh1:decide (r.head?=some 45)=false:=by cases r with | nil=>rfl | cons a r=>simpa using hn1
   have hh2:decide (r.head?=some 43)=false:=by cases r with | nil=>rfl | cons a r=>simpa using hn2
   rw[hh1] at hp1
   rw[hh2] at hp2
   refine acall_of Tryz.func146 rfl rfl (by simp [Tryz.ntmps146]) ?_;rw[Tryz.ntmps146,Tryz.results146]
   refine go (J11 rTI @e5 @e0 @e1 @e2 @e3 @e4 @e6 @e7 @e8 @e9) ?_
   refine ifs ?_ ?_ <;> first | exact nope | intro hb
   refine go (J14 rTI @e5 @e0 @e1 @e2 @e3 @e4 @e6 @e7 @e8 @e9 @l1 @g0 @tz) ?_
   refine ifs ?_ ?_ <;> first | exact nope | intro hb
   refine go (J14 rTI @e5 @e0 @e1 @e2 @e3 @e4 @e6 @e7 @e8 @e9 @l1 @g0 @tz) ?_
   refine ifs ?_ ?_ <;> first | exact nope | intro hb
   refine go (J14 rTI @e5 @e0 @e1 @e2 @e3 @e4 @e6 @e7 @e8 @e9 @l1 @g0 @tz) ?_
   refine ifs ?_ ?_ <;> first | exact nope | intro hb
   refine go (J14 rTI @e5 @e0 @e1 @e2 @e3 @e4 @e6 @e7 @e8 @e9 @l1 @g0 @tz) ?_
   refine ifs ?_ ?_ <;> first | exact nope | intro hb
   refine go (J14 rTI @e5 @e0 @e1 @e2 @e3 @e4 @e6 @e7 @e8 @e9 @l1 @g0 @tz) ?_
   refine ifs ?_ ?_ <;> first | exact nope | intro hb
   refine go (J14 rTI @e5 @e0 @e1 @e2 @e3 @e4 @e6 @e7 @e8 @e9 @l1 @g0 @tz) ?_
   refine ifs ?_ ?_ <;> first | exact nope | intro hb
   refine go (J14 rTI @e5 @e0 @e1 @e2 @e3 @e4 @e6 @e7 @e8 @e9 @l1 @g0 @tz) ?_
   refine ifs ?_ ?_ <;> first | exact nope | intro hb
   refine go (J14 rTI @e5 @e0 @e1 @e2 @e3 @e4 @e6 @e7 @e8 @e9 @l1 @g0 @tz) ?_
   refine ifs ?_ ?_ <;> first | exact nope | intro hb
   refine go (J14 rTI @e5 @e0 @e1 @e2 @e3 @e4 @e6 @e7 @e8 @e9 @l1 @g0 @tz) ?_
   refine ifs ?_ ?_ <;> first | exact nope | intro hb
   refine go (J14 rTI @e5 @e0 @e1 @e2 @e3 @e4 @e6 @e7 @e8 @e9 @l1 @g0 @tz) ?_
   rw[then_normal]
   refine ifs ?_ ?_ <;> first | exact nope | intro hb
   refine go (J4 rTI @l1 @t1 @sl) ?_
   refine aw_reg fun K hK=>?_;refine rn rTI ?_;refine cont_pure hp1 ?_;refine rn rTI ?_;refine hK _ _ ?_;clear hK K
   rw[then_normal]
   refine go trivial ?_
   refine aw_reg fun K hK=>?_;refine rn rTI ?_;refine cont_pure hp2 ?_;refine rn rTI ?_;refine hK _ _ ?_;clear hK K
   rw[then_normal]
   refine ifs ?_ ?_ <;> first | exact nope | intro hb
   refine go trivial ?_
   rw[hexp]
   have ld:=bs_size r
   have hld:r.length≤1000000000:=by omega
   have hrun:=run_ax r hbd hld
   have hfl:=fr_le r
   by_cases q1:r.length<1
   ·rw[two_bad r (fun h=>by omega)]
    refine go (cj rTI @ld) ?_
    refine ifs ?_ ?_ <;> first | exact nope | intro hb
    refine go trivial ?_
    all_goals rfl
   ·by_cases q2:2<r.length
    ·rw[two_bad r (fun h=>by omega)]
     refine go (cj rTI @ld) ?_
     refine ifs ?_ ?_ <;> first | exact nope | intro hb
     refine go trivial ?_
     all_goals rfl
    ·have htwo:=two_good r (by omega) (by omega)
     have hff:=fr_full r
     by_cases q3:(fr r).length=r.length
     ·have hall:=hff.1 q3
      have hat:=atoi_ax r hall (fun e=>by rw[e] at q1;simp at q1) (by omega)
      have hvb:digV r≤99:=digV_two r (by omega) hall
      rw[htwo,if_pos hall]
      clear hff htwo hall
      refine aw_reg fun K hK=>?_;refine rn (cj rTI @ld) ?_;refine cont_pure hrun ?_;refine rn (cj rTI @ld) ?_;refine hK _ _ ?_;clear hK K
      rw[then_normal]
      refine ifs ?_ ?_ <;> first | exact nope | intro hb
      refine go trivial ?_
      generalize digV r=v at *
      refine aw_reg fun K hK=>?_;refine rn rTI ?_;refine cont_pure hat ?_;refine rn rTI ?_;refine hK _ _ ?_;clear hK K
      rw[then_normal]
      refine go trivial ?_
      refine ifs ?_ ?_ <;> first | exact nope | intro hb
      refine go trivial ?_
      show _=AV.tp [.v (.int .i64 (v:Int)),_];simp
     ·rw[htwo,if_neg (fun h=>q3 (hff.2 h))]
      clear hff htwo
      refine aw_reg fun K hK=>?_;refine rn (cj rTI @ld) ?_;refine cont_pure hrun ?_;refine rn (cj rTI @ld) ?_;refine hK _ _ ?_;clear hK K
      rw[then_normal]
      refine ifs ?_ ?_ <;> first | exact nope | intro hb
      refine go trivial ?_
      all_goals rfl
 ·rw[show expL (c::r)=none by unfold expL;split <;> simp_all]
  refine acall_of Tryz.func146 rfl rfl (by simp [Tryz.ntmps146]) ?_;rw[Tryz.ntmps146,Tryz.results146]
  refine go (J11 rTI @e5 @e0 @e1 @e2 @e3 @e4 @e6 @e7 @e8 @e9) ?_
  refine ifs ?_ ?_ <;> first | exact nope | intro hb
  refine go (J14 rTI @e5 @e0 @e1 @e2 @e3 @e4 @e6 @e7 @e8 @e9 @l1 @g0 @tz) ?_
  refine ifs ?_ ?_ <;> first | exact nope | intro hb
  refine go (J14 rTI @e5 @e0 @e1 @e2 @e3 @e4 @e6 @e7 @e8 @e9 @l1 @g0 @tz) ?_
  refine ifs ?_ ?_ <;> first | exact nope | intro hb
  refine go (J14 rTI @e5 @e0 @e1 @e2 @e3 @e4 @e6 @e7 @e8 @e9 @l1 @g0 @tz) ?_
  refine ifs ?_ ?_ <;> first | exact nope | intro hb
  refine go (J14 rTI @e5 @e0 @e1 @e2 @e3 @e4 @e6 @e7 @e8 @e9 @l1 @g0 @tz) ?_
  refine ifs ?_ ?_ <;> first | exact nope | intro hb
  refine go (J14 rTI @e5 @e0 @e1 @e2 @e3 @e4 @e6 @e7 @e8 @e9 @l1 @g0 @tz) ?_
  refine ifs ?_ ?_ <;> first | exact nope | intro hb
  refine go (J14 rTI @e5 @e0 @e1 @e2 @e3 @e4 @e6 @e7 @e8 @e9 @l1 @g0 @tz) ?_
  refine ifs ?_ ?_ <;> first | exact nope | intro hb
  refine go (J14 rTI @e5 @e0 @e1 @e2 @e3 @e4 @e6 @e7 @e8 @e9 @l1 @g0 @tz) ?_
  refine ifs ?_ ?_ <;> first | exact nope | intro hb
  refine go (J14 rTI @e5 @e0 @e1 @e2 @e3 @e4 @e6 @e7 @e8 @e9 @l1 @g0 @tz) ?_
  refine ifs ?_ ?_ <;> first | exact nope | intro hb
  refine go (J14 rTI @e5 @e0 @e1 @e2 @e3 @e4 @e6 @e7 @e8 @e9 @l1 @g0 @tz) ?_
  refine ifs ?_ ?_ <;> first | exact nope | intro hb
  refine go (J14 rTI @e5 @e0 @e1 @e2 @e3 @e4 @e6 @e7 @e8 @e9 @l1 @g0 @tz) ?_
  rw[then_normal]
  refine ifs ?_ ?_ <;> first | exact nope | intro hb
  refine go trivial ?_
  all_goals rfl
end NumV
namespace NumW
open Go Go.RowKit Ax Ti BigM NumS NumA NumT NumU NumL NumV NumP
theorem rTI:type_of% (J8 @ti3 @ti2 @ti4 @ti9 @ti5 @ti43 @ti23 @ti31):=cj @ti3 (J7 @ti2 @ti4 @ti9 @ti5 @ti43 @ti23 @ti31)
theorem aw_way {P:Program} {x:Code} {m0:Nat} {e:Env} {s:St} {Q:Exit→Env→St→Prop} (I:Env→St→Prop) (h1:AW P x m0 e s fun ex e' s'=>(ex=.normal∧I e' s')∨(ex=.ret∧Q .ret e' s')) (h2:∀ e' s',I e' s'→Q .normal e' s'):AW P x m0 e s Q:=
 aw_mono h1 fun ex e' s' h=>by
  rcases h with ⟨hn,hI⟩ | ⟨hn,hQ⟩
  ·subst hn;exact h2 e' s' hI
  ·subst hn;exact hQ
def parseV (p:Int × Int × Int):AV:=.tp [NM p.1 p.2.1,.v (.int .i64 p.2.2)]
theorem slice_to (l:List Nat) (k:Nat):(bs l).extract 0 k=bs (l.take k):=by
 rw[bs_slice,List.drop_zero,Nat.sub_zero]
theorem slice_from (l:List Nat) (k n:Nat) (hn:n=l.length):(bs l).extract k n=bs (l.drop k):=by
 rw[bs_slice]
 congr 1
 rw[List.take_of_length_le (by rw[List.length_drop];omega)]
theorem by_sub {l:List Nat} (h:By l) {m:List Nat} (hm:∀ c∈m,c∈l):By m:=fun c hc=>h c (hm c hc)
theorem bk_mem (r:List Nat):∀ c∈bk r,c∈r:=fun c hc=>by rw[←fr_bk r];exact List.mem_append_right _ hc
theorem cut_mem (l:List Nat):∀ c∈cut1 l 45,c∈l:=fun c hc=>by
 unfold cut1 at hc
 split at hc
 ·exact List.mem_of_mem_tail hc
 ·exact hc
theorem cut_len (l:List Nat):(cut1 l 45).length≤l.length:=by
 unfold cut1
 split
 ·rw[List.length_tail];omega
 ·exact Nat.le_refl _
theorem two_bound (d:List Nat) (v:Int) (h:two d=some v):0≤v∧v≤99:=by
 unfold two at h
 split at h
 ·split at h
  ·rename_i hd
   have:=(isD_iff _).1 hd
   injection h with h
   omega
  ·cases h
 ·split at h
  ·rename_i hd
   rw[Bool.and_eq_true] at hd
   have h1:=(isD_iff _).1 hd.1
   have h2:=(isD_iff _).1 hd.2
   injection h with h
   omega
  ·cases h
 ·cases h
theorem exp_bound (d:List Nat) (v:Int) (h:expS d=some v) : -99≤v∧v≤99:=by
 unfold expS at h
 split at h
 ·rename_i r
  cases hr:two r with
  | none=>rw[hr] at h;cases h
  | some w=>
   rw[hr] at h
   have:=two_bound r w hr
   have h' : -w=v:=by simpa using h
   omega
 ·have:=two_bound _ v h
  omega
 ·have:=two_bound _ v h
  omega
theorem letters_bound (l:List Nat) (v:Int) (h:lettersS l=some v) : -99≤v∧v≤99:=by
 unfold lettersS at h
 split at h
 all_goals first
  | (injection h with h;omega)
  | exact exp_bound _ _ h
  | cases h
def fin3 (neg:Bool) (ds:List Nat) (x:Int):Option Int→Int × Int × Int
 | none=>(0,0,3)
 | some e=>finS neg (digV ds) (x+e)
theorem body_no (neg:Bool) (r:List Nat) (h0:fr r≠[]) (h1:¬(bk r).head?=some 46):bodyS neg r=fin3 neg (fr r) 0 (lettersS (bk r)):=by
 unfold bodyS
 rw[if_neg h0]
 split
 ·rename_i q hq
  rw[hq] at h1
  exact absurd rfl h1
 ·unfold fin3
  split <;> simp_all
theorem body_pt (neg:Bool) (r q:List Nat) (h0:fr r≠[]) (h1:bk r=46::q):bodyS neg r=if fr q=[] then (0,0,3) else fin3 neg (fr r++fr q) (-((fr q).length:Int)) (lettersS (bk q)):=by
 unfold bodyS
 rw[if_neg h0,h1]
 simp only
 by_cases h2:fr q=[]
 ·rw[if_pos h2,if_pos h2]
 ·rw[if_neg h2,if_neg h2]
  unfold fin3
  split
  ·rename_i hh;first | rfl | rw[hh]
  ·rename_i e hh
   first
    | (rw[hh];simp only;congr 1;omega)
    | (congr 1;omega)
theorem parse_ax (l:List Nat) (h:By l) (hl:l.length≤1000000000):PCall Tryz.prog 119 [.v (.string (bs l))] (parseV (parseS l)):=by
 refine pcall_of fun s=>?_
 rw[show idf (parseV (parseS l))=true from rfl]
 have l1:=bs_size l
 have p0:(s.push [.v (.int .i64 0),.v (.int .i64 0)]).get s.nx=some [.v (.int .i64 0),.v (.int .i64 0)]:=St.push_same _ _
 by_cases q32:32<l.length
 ·rw[show parseS l=(0,0,3) by unfold parseS;rw[if_pos q32]]
  show ACall _ _ _ _ fun r' s'=>r'=.tp [.ag [.v (.int .i64 0),.v (.int .i64 0)],.v (.int .i64 3)]∧_
  refine acall_of Tryz.func119 rfl rfl (by simp [Tryz.ntmps119]) ?_;rw[Tryz.ntmps119,Tryz.results119]
  refine go (cj rTI @l1) ?_
  refine ifs ?_ ?_ <;> first | exact nope | intro hb
  refine go rTI ?_
  exact fun i hi=>by rw[if_neg (by omega)]
 ·have hcut:=cutPrefix_ax l h 45 (by decide)
  have hb1:=by_sub h (cut_mem l)
  have hlc:=cut_len l
  rw[parse_cut l (by omega)]
  generalize cut1 l 45=r at *
  generalize decide (l.head?=some 45)=neg at *
  have hrun:=run_ax r hb1 (by omega)
  have lr:=bs_size r
  have hfl:=fr_le r
  refine acall_of Tryz.func119 rfl rfl (by simp [Tryz.ntmps119]) ?_;rw[Tryz.ntmps119,Tryz.results119]
  refine go (cj rTI @l1) ?_
  refine ifs ?_ ?_ <;> first | exact nope | intro hb
  refine go rTI ?_
  refine aw_reg fun K hK=>?_;refine rn rTI ?_;refine cont_pure hcut ?_;refine rn rTI ?_;refine hK _ _ ?_;clear hK K
  rw[then_normal]
  refine go trivial ?_
  refine aw_reg fun K hK=>?_;refine rn rTI ?_;refine cont_pure hrun ?_;refine rn rTI ?_;refine hK _ _ ?_;clear hK K
  rw[then_normal]
  by_cases q0:(fr r).length=0
  ·have hf0:fr r=[]:=List.length_eq_zero_iff.1 q0
   have hbs:bodyS neg r=(0,0,3):=by unfold bodyS;rw[if_pos hf0]
   rw[hbs]
   show AW _ _ _ _ _ (fpost _ _ fun r' s'=>r'=.tp [.ag [.v (.int .i64 0),.v (.int .i64 0)],.v (.int .i64 3)]∧_)
   refine go rTI ?_
   refine ifs ?_ ?_ <;> first | exact nope | intro hb
   refine go rTI ?_
   exact fun i hi=>by rw[if_neg (by omega)]
  ·have sl1:=slice_to r (fr r).length
   have sl2:=slice_from r (fr r).length r.length rfl
   rw[fr_take] at sl1
   rw[bk_drop] at sl2
   have tz:Int.toNat 0=0:=rfl
   refine go rTI ?_
   refine ifs ?_ ?_ <;> first | exact nope | intro hb
   refine go (J5 rTI @lr @sl1 @sl2 @tz) ?_
   have hfn:fr r≠[]:=fun e=>q0 (by rw[e];rfl)
   have hb2:By (bk r):=by_sub hb1 (bk_mem r)
   have hpre:=hasPrefix_ax (bk r) hb2 46 (by decide)
   have hlk:(bk r).length≤r.length:=by have:=congrArg List.length (fr_bk r);rw[List.length_append] at this;omega
   have hfd:=fr_all r
   have lk:=bs_size (bk r)
   have ppush:∀ i,i<s.nx→(s.push [.v (.int .i64 0),.v (.int .i64 0)]).get i=s.get i:=fun i hi=>St.push_ne _ _ _ (by omega)
   refine aw_reg fun K hK=>?_;refine rn rTI ?_;refine cont_pure hpre ?_;refine rn rTI ?_;refine hK _ _ ?_;clear hK K
   rw[then_normal]
   refine aw_way (fun e s'=>∃ (ds r3:List Nat) (x:Int),e.n=102∧e.m 2=.ptr s.nx 0∧e.m 4=.v (.string (bs r3))∧e.m 5=.v (.bool neg)∧e.m 7=.v (.string (bs ds))∧e.m 8=.v (.int .i64 x)∧By r3∧r3.length≤32∧(∀ c∈ds,isD c=true)∧ds.length≤64 ∧ -32≤x∧x≤0∧bodyS neg r=fin3 neg ds x (lettersS r3)∧s'.get s.nx=some [.v (.int .i64 0),.v (.int .i64 0)]∧∀ i,i<s.nx→s'.get i=s.get i) ?_ ?_
   ·by_cases qp:(bk r).head?=some 46
    ·rw[decide_eq_true qp]
     obtain⟨q,hq⟩:∃ q,bk r=46::q:=by
      cases hk:bk r with
      | nil=>rw[hk] at qp;cases qp
      | cons a q=>
       rw[hk] at qp
       exact⟨q,by rw[show a=46 by simpa using qp]⟩
     have hbody:=body_pt neg r q hfn hq
     have hbq:By q:=by_sub hb2 (fun c hc=>by rw[hq];exact List.mem_cons_of_mem _ hc)
     rw[hq] at lk hlk
     rw[List.length_cons] at lk hlk
     have hrq:=run_ax q hbq (by omega)
     have hfq:=fr_le q
     have s3:=slice_from (46::q) 1 (q.length+1) rfl
     rw[List.drop_one,List.tail_cons] at s3
     have t1:Int.toNat 1=1:=rfl
     rw[hq]
     refine ifs ?_ ?_ <;> first | exact nope | intro hb
     refine go (J4 rTI @lk @t1 @s3) ?_
     refine aw_reg fun K hK=>?_;refine rn (J4 rTI @lk @t1 @s3) ?_;refine cont_pure hrq ?_;refine rn (J4 rTI @lk @t1 @s3) ?_;refine hK _ _ ?_;clear hK K
     rw[then_normal]
     by_cases qf:fr q=[]
     ·have qf0:(fr q).length=0:=by rw[qf];rfl
      rw[if_pos qf] at hbody
      rw[hbody]
      refine go rTI ?_
      refine ifs ?_ ?_ <;> first | exact nope | intro hb
      refine go rTI ?_
      exact .inr ⟨rfl,fun i hi=>by rw[if_neg (by omega)]⟩
     ·have qf0:(fr q).length≠0:=fun e=>qf (List.length_eq_zero_iff.1 e)
      rw[if_neg qf] at hbody
      have s4:(bs (46::q)).extract 1 (1+(fr q).length)=bs (fr q):=by
       rw[bs_slice,List.drop_one,List.tail_cons,Nat.add_sub_cancel_left,fr_take]
      have s5:(bs (46::q)).extract (1+(fr q).length) (q.length+1)=bs (bk q):=by
       rw[slice_from (46::q) (1+(fr q).length) (q.length+1) rfl,Nat.add_comm 1,List.drop_succ_cons,bk_drop]
      have k1:((1:Int)+((fr q).length:Int)).toNat=1+(fr q).length:=by omega
      have lf1:=bs_size (fr r)
      have lf2:=bs_size (fr q)
      have ap:=bs_append (fr r) (fr q)
      have hlq:(bk q).length≤q.length:=by have:=congrArg List.length (fr_bk q);rw[List.length_append] at this;omega
      refine go rTI ?_
      refine ifs ?_ ?_ <;> first | exact nope | intro hb
      refine go (J10 rTI @lk @t1 @s3 @s4 @s5 @k1 @lf1 @lf2 @ap) ?_
      refine .inl ⟨rfl,fr r++fr q,bk q,-((fr q).length:Int),?_⟩
      refine rn @Int.zero_sub ?_
      refine⟨by_sub hbq (bk_mem q),by omega,fun c hc=>?_,by rw[List.length_append];omega,by omega,by omega,hbody,fun i hi=>by rw[if_neg (by omega)]⟩
      rcases List.mem_append.1 hc with hc | hc
      ·exact hfd c hc
      ·exact fr_all q c hc
    ·rw[decide_eq_false qp]
     have hbody:=body_no neg r hfn qp
     refine ifs ?_ ?_ <;> first | exact nope | intro hb
     refine go trivial ?_
     exact .inl ⟨fr r,bk r,0,rfl,rfl,rfl,hb2,by omega,hfd,by omega,by omega,by omega,hbody,fun i hi=>by rw[if_neg (by omega)]⟩
   ·clear hcut hrun sl1 sl2 hpre lk lr l1
    rintro e s' ⟨ds,r3,x,h1,k2,k4,k5,k7,k8,hb3,hl3,hds,hld,hx1,hx2,hbody,g,fr2⟩
    rw[hbody,then_normal]
    have hlet:=letters_ax r3 hb3 (by omega)
    have hbd:=letters_bound r3
    generalize lettersS r3=o at *
    cases o with
    | none=>
     show AW _ _ _ _ _ (fpost _ _ fun r' s'=>r'=.tp [.ag [.v (.int .i64 0),.v (.int .i64 0)],.v (.int .i64 3)]∧_)
     refine go trivial ?_
     refine aw_reg fun K hK=>?_;refine rn (J4 rTI @k4 @tailV.eq_1 @tailV.eq_2) ?_;refine cont_pure hlet ?_;refine rn (J4 rTI @k4 @tailV.eq_1 @tailV.eq_2) ?_;refine hK _ _ ?_;clear hK K
     rw[then_normal]
     refine go trivial ?_
     refine ifs ?_ ?_ <;> first | exact nope | intro hb
     refine go (J4 rTI @h1 @k2 @g) ?_
     intro i hi
     rw[if_neg (by omega)]
     exact fr2 i hi
    | some ee=>
     obtain⟨b1,b2⟩:=hbd ee rfl
     obtain⟨P1,P2⟩:=fin_parse neg ds (x+ee) hds
     have hbds:By ds:=fun c hc=>by have:=(isD_iff c).1 (hds c hc);omega
     have hbl:By (lead ds):=by_sub hbds (lead_sub ds)
     have hll:=lead_len ds
     have htl:=trimLeft_ax ds hbds
     have htr:=trimRight_ax (lead ds) hbl (by omega)
     have e0:((bs (lead ds)).toList==(ByteArray.mk #[]).toList)=decide (lead ds=[]):=bs_beq (lead ds) [] hbl (fun c hc=>by cases hc)
     show AW _ _ _ _ _ (fpost _ _ fun r' s'=>r'=parseV (finS neg (digV ds) (x+ee))∧_)
     by_cases ql:lead ds=[]
     ·rw[P1 ql,decide_eq_true ql] at *
      show AW _ _ _ _ _ (fpost _ _ fun r' s'=>r'=.tp [.ag [.v (.int .i64 0),.v (.int .i64 0)],.v (.int .i64 0)]∧_)
      clear P1 P2
      refine go trivial ?_
      refine aw_reg fun K hK=>?_;refine rn (J4 rTI @k4 @tailV.eq_1 @tailV.eq_2) ?_;refine cont_pure hlet ?_;refine rn (J4 rTI @k4 @tailV.eq_1 @tailV.eq_2) ?_;refine hK _ _ ?_;clear hK K
      rw[then_normal]
      refine go trivial ?_
      refine ifs ?_ ?_ <;> first | exact nope | intro hb
      refine go (J6 rTI @h1 @k2 @k7 @k8 @g) ?_
      refine aw_reg fun K hK=>?_;refine rn (cj rTI @k7) ?_;refine cont_pure htl ?_;refine rn (cj rTI @k7) ?_;refine hK _ _ ?_;clear hK K
      rw[then_normal]
      refine go (cj rTI @e0) ?_
      refine ifs ?_ ?_ <;> first | exact nope | intro hb
      refine go (J4 rTI @h1 @k2 @g) ?_
      intro i hi
      rw[if_neg (by omega)]
      exact fr2 i hi
     ·rw[decide_eq_false ql] at e0
      obtain⟨T1,T2,T3,T4⟩:=P2 ql
      have lT:=bs_size (trail (lead ds))
      have lL:=bs_size (lead ds)
      have hpi:=fun h9=>parseInt_ax (trail (lead ds)) T2 T1 h9
      clear P1 P2
      generalize trail (lead ds)=T at *
      obtain⟨n,hn⟩:∃ n,n=(lead ds).length-T.length:=⟨_,rfl⟩
      rw[←hn] at T4
      by_cases q9:T.length > 9
      ·rw[if_pos (.inl q9)] at T4
       rw[T4]
       show AW _ _ _ _ _ (fpost _ _ fun r' s'=>r'=.tp [.ag [.v (.int .i64 0),.v (.int .i64 0)],.v (.int .i64 30)]∧_)
       refine go trivial ?_
       refine aw_reg fun K hK=>?_;refine rn (J4 rTI @k4 @tailV.eq_1 @tailV.eq_2) ?_;refine cont_pure hlet ?_;refine rn (J4 rTI @k4 @tailV.eq_1 @tailV.eq_2) ?_;refine hK _ _ ?_;clear hK K
       rw[then_normal]
       refine go trivial ?_
       refine ifs ?_ ?_ <;> first | exact nope | intro hb
       refine go (J6 rTI @h1 @k2 @k7 @k8 @g) ?_
       refine aw_reg fun K hK=>?_;refine rn (cj rTI @k7) ?_;refine cont_pure htl ?_;refine rn (cj rTI @k7) ?_;refine hK _ _ ?_;clear hK K
       rw[then_normal]
       refine go (cj rTI @e0) ?_
       refine ifs ?_ ?_ <;> first | exact nope | intro hb
       refine go trivial ?_
       refine aw_reg fun K hK=>?_;refine rn rTI ?_;refine cont_pure htr ?_;refine rn rTI ?_;refine hK _ _ ?_;clear hK K
       rw[then_normal]
       refine go (J3 rTI @lT @lL) ?_
       refine ifs ?_ ?_ <;> first | exact nope | intro hb
       refine go (J4 rTI @h1 @k2 @g) ?_
       intro i hi
       rw[if_neg (by omega)]
       exact fr2 i hi
      ·have hpi:=hpi (by omega)
       have e3:((lead ds).length:Int)-(T.length:Int)=(n:Int):=by omega
       have hv9:digV T<1000000000:=by
        have h1':=dig_lt T T2
        have h2':10 ^ T.length≤10 ^ 9:=Nat.pow_le_pow_right (by decide) (by omega)
        omega
       obtain⟨X,hX⟩:∃ X,X=x+ee+(n:Int):=⟨_,rfl⟩
       rw[←hX] at T4
       by_cases q18:X < -18
       ·rw[if_pos (.inr (.inl q18))] at T4
        rw[T4]
        show AW _ _ _ _ _ (fpost _ _ fun r' s'=>r'=.tp [.ag [.v (.int .i64 0),.v (.int .i64 0)],.v (.int .i64 30)]∧_)
        refine go trivial ?_
        refine aw_reg fun K hK=>?_;refine rn (J4 rTI @k4 @tailV.eq_1 @tailV.eq_2) ?_;refine cont_pure hlet ?_;refine rn (J4 rTI @k4 @tailV.eq_1 @tailV.eq_2) ?_;refine hK _ _ ?_;clear hK K
        rw[then_normal]
        refine go trivial ?_
        refine ifs ?_ ?_ <;> first | exact nope | intro hb
        refine go (J6 rTI @h1 @k2 @k7 @k8 @g) ?_
        refine aw_reg fun K hK=>?_;refine rn (cj rTI @k7) ?_;refine cont_pure htl ?_;refine rn (cj rTI @k7) ?_;refine hK _ _ ?_;clear hK K
        rw[then_normal]
        refine go (cj rTI @e0) ?_
        refine ifs ?_ ?_ <;> first | exact nope | intro hb
        refine go trivial ?_
        refine aw_reg fun K hK=>?_;refine rn rTI ?_;refine cont_pure htr ?_;refine rn rTI ?_;refine hK _ _ ?_;clear hK K
        rw[then_normal]
        refine go (J5 rTI @lT @lL @k8 @e3) ?_
        refine ifs ?_ ?_ <;> first | exact nope | intro hb
        refine go (J4 rTI @h1 @k2 @g) ?_
        intro i hi
        rw[if_neg (by omega)]
        exact fr2 i hi
       ·by_cases q19:X > 9
        ·rw[if_pos (.inr (.inr q19))] at T4
         rw[T4]
         show AW _ _ _ _ _ (fpost _ _ fun r' s'=>r'=.tp [.ag [.v (.int .i64 0),.v (.int .i64 0)],.v (.int .i64 30)]∧_)
         refine go trivial ?_
         refine aw_reg fun K hK=>?_;refine rn (J4 rTI @k4 @tailV.eq_1 @tailV.eq_2) ?_;refine cont_pure hlet ?_;refine rn (J4 rTI @k4 @tailV.eq_1 @tailV.eq_2) ?_;refine hK _ _ ?_;clear hK K
         rw[then_normal]
         refine go trivial ?_
         refine ifs ?_ ?_ <;> first | exact nope | intro hb
         refine go (J6 rTI @h1 @k2 @k7 @k8 @g) ?_
         refine aw_reg fun K hK=>?_;refine rn (cj rTI @k7) ?_;refine cont_pure htl ?_;refine rn (cj rTI @k7) ?_;refine hK _ _ ?_;clear hK K
         rw[then_normal]
         refine go (cj rTI @e0) ?_
         refine ifs ?_ ?_ <;> first | exact nope | intro hb
         refine go trivial ?_
         refine aw_reg fun K hK=>?_;refine rn rTI ?_;refine cont_pure htr ?_;refine rn rTI ?_;refine hK _ _ ?_;clear hK K
         rw[then_normal]
         refine go (J5 rTI @lT @lL @k8 @e3) ?_
         refine ifs ?_ ?_ <;> first | exact nope | intro hb
         refine go (J4 rTI @h1 @k2 @g) ?_
         intro i hi
         rw[if_neg (by omega)]
         exact fr2 i hi
        ·rw[if_neg (fun h=>h.elim q9 fun h=>h.elim q18 q19)] at T4
         rw[T4]
         clear T4
         generalize digV T=v at *
         cases neg
         ·show AW _ _ _ _ _ (fpost _ _ fun r' s'=>r'=.tp [.ag [.v (.int .i64 v),.v (.int .i64 X)],.v (.int .i64 0)]∧_)
          refine go trivial ?_
          refine aw_reg fun K hK=>?_;refine rn (J4 rTI @k4 @tailV.eq_1 @tailV.eq_2) ?_;refine cont_pure hlet ?_;refine rn (J4 rTI @k4 @tailV.eq_1 @tailV.eq_2) ?_;refine hK _ _ ?_;clear hK K
          rw[then_normal]
          refine go trivial ?_
          refine ifs ?_ ?_ <;> first | exact nope | intro hb
          refine go (J6 rTI @h1 @k2 @k7 @k8 @g) ?_
          refine aw_reg fun K hK=>?_;refine rn (cj rTI @k7) ?_;refine cont_pure htl ?_;refine rn (cj rTI @k7) ?_;refine hK _ _ ?_;clear hK K
          rw[then_normal]
          refine go (cj rTI @e0) ?_
          refine ifs ?_ ?_ <;> first | exact nope | intro hb
          refine go trivial ?_
          refine aw_reg fun K hK=>?_;refine rn rTI ?_;refine cont_pure htr ?_;refine rn rTI ?_;refine hK _ _ ?_;clear hK K
          rw[then_normal]
          refine go (J5 rTI @lT @lL @k8 @e3) ?_
          refine ifs ?_ ?_ <;> first | exact nope | intro hb
          refine go rTI ?_
          refine aw_reg fun K hK=>?_;refine rn rTI ?_;refine cont_pure hpi ?_;refine rn rTI ?_;refine hK _ _ ?_;clear hK K
          rw[then_normal]
          refine go (cj rTI @k5) ?_
          refine ifs ?_ ?_ <;> first | exact nope | intro hb
          refine go (J6 rTI @h1 @k2 @k5 @g @e3) ?_
          rw[hX]
          exact⟨rfl,fun i hi=>by rw[if_neg (by omega)];exact fr2 i hi⟩
         ·show AW _ _ _ _ _ (fpost _ _ fun r' s'=>r'=.tp [.ag [.v (.int .i64 (-(v:Int))),.v (.int .i64 X)],.v (.int .i64 0)]∧_)
          refine go trivial ?_
          refine aw_reg fun K hK=>?_;refine rn (J4 rTI @k4 @tailV.eq_1 @tailV.eq_2) ?_;refine cont_pure hlet ?_;refine rn (J4 rTI @k4 @tailV.eq_1 @tailV.eq_2) ?_;refine hK _ _ ?_;clear hK K
          rw[then_normal]
          refine go trivial ?_
          refine ifs ?_ ?_ <;> first | exact nope | intro hb
          refine go (J6 rTI @h1 @k2 @k7 @k8 @g) ?_
          refine aw_reg fun K hK=>?_;refine rn (cj rTI @k7) ?_;refine cont_pure htl ?_;refine rn (cj rTI @k7) ?_;refine hK _ _ ?_;clear hK K
          rw[then_normal]
          refine go (cj rTI @e0) ?_
          refine ifs ?_ ?_ <;> first | exact nope | intro hb
          refine go trivial ?_
          refine aw_reg fun K hK=>?_;refine rn rTI ?_;refine cont_pure htr ?_;refine rn rTI ?_;refine hK _ _ ?_;clear hK K
          rw[then_normal]
          refine go (J5 rTI @lT @lL @k8 @e3) ?_
          refine ifs ?_ ?_ <;> first | exact nope | intro hb
          refine go rTI ?_
          refine aw_reg fun K hK=>?_;refine rn rTI ?_;refine cont_pure hpi ?_;refine rn rTI ?_;refine hK _ _ ?_;clear hK K
          rw[then_normal]
          refine go (cj rTI @k5) ?_
          refine ifs ?_ ?_ <;> first | exact nope | intro hb
          refine go (J7 rTI @h1 @k2 @k5 @g @e3 @Int.zero_sub) ?_
          rw[hX]
          exact⟨rfl,fun i hi=>by rw[if_neg (by omega)];exact fr2 i hi⟩
end NumW
namespace NumX
open Go Go.RowKit Ax Ti BigM NumS NumA NumT NumU NumL NumW
theorem rTI:type_of% (J8 @ti3 @ti2 @ti4 @ti9 @ti5 @ti43 @ti23 @ti31):=cj @ti3 (J7 @ti2 @ti4 @ti9 @ti5 @ti43 @ti23 @ti31)
theorem itoa_ax (i:Nat) (h:i=16∨i=17∨i=18):PCall Tryz.prog 62 [.v (.int .i64 i)] (.v (.string (bs (decN i)))):=by
 refine pcall_lift (us:=[.int .i64 i]) (enters_of Tryz.func62 rfl rfl) (fun k=>.v _) fun w=>?_
 refine (Tryz.strconv_Itoa_small i (by omega) w).mono ?_
 rintro en w' ⟨rfl,rfl⟩
 refine⟨?_,Below.refl _ _⟩
 have e:Lib.decDigits i=(decN i).map UInt8.ofNat:=by
  rcases h with rfl | rfl | rfl <;> simp [Lib.decDigits,decN,digs_pos,digs_zero]
 rw[e]
 rfl
def textV (m x:Int):AV:=if validN m x=true then .tp [.v (.string (bs (textS m x))),.v (.int .i64 0)] else .tp [.v (.string (bs [])),.v (.int .i64 30)]
theorem decS_len (m:Int) (h1 : -999999999≤m) (h2:m≤999999999):(decS m).length≤10:=by
 unfold decS
 split
 ·simp
 ·rw[List.length_append]
  have:=decN_len m.natAbs 9 (by omega)
  split <;> simp <;> omega
theorem text_ax (m x:Int) (hF:validN m x=true→PCall Tryz.prog 61 [.v (.int .i64 m),.v (.int .i64 10)] (.v (.string (bs (decS m))))):PCall Tryz.prog 22 [NM m x] (textV m x):=by
 refine pcall_of fun s=>?_
 have hv:=valid_ax m x
 unfold NM at hv ⊢
 unfold textV
 by_cases q:validN m x=true
 ·have hF:=hF q
  rw[if_pos q]
  rw[q] at hv
  obtain⟨m1,m2,k1,k2⟩:=RefM.validN_m m x q
  have hld:=decS_len m m1 m2
  have lD:=bs_size (decS m)
  by_cases qx:x < -15
  ·have hi:=itoa_ax x.natAbs (by omega)
   have e1:textS m x=decS m++[101,45]++decN x.natAbs:=by unfold textS;rw[if_pos qx]
   rw[e1]
   have e2 : -x=(x.natAbs:Int):=by omega
   have c1:bs (decS m)++(ByteArray.mk #[101,45])=bs (decS m++[101,45]):=by
    show bs (decS m)++bs [101,45]=_
    exact bs_append _ _
   have c2:=bs_append (decS m++[101,45]) (decN x.natAbs)
   have lE:=bs_size (decS m++[101,45])
   have lN:=bs_size (decN x.natAbs)
   have lN2:=decN_len x.natAbs 2 (by omega)
   have l2:(ByteArray.mk #[101,45]).size=2:=rfl
   rw[List.length_append] at lE
   rw[show ([101,45]:List Nat).length=2 from rfl] at lE
   clear e1
   refine acall_of Tryz.func22 rfl rfl (by simp [Tryz.ntmps22]) ?_;rw[Tryz.ntmps22,Tryz.results22]
   refine go rTI ?_
   refine aw_reg fun K hK=>?_;refine rn rTI ?_;refine cont_pure hv ?_;refine rn rTI ?_;refine hK _ _ ?_;clear hK K
   rw[then_normal]
   refine ifs ?_ ?_ <;> first | exact nope | intro hb
   refine go trivial ?_
   refine aw_reg fun K hK=>?_;refine rn rTI ?_;refine cont_pure hF ?_;refine rn rTI ?_;refine hK _ _ ?_;clear hK K
   rw[then_normal]
   refine go rTI ?_
   refine ifs ?_ ?_ <;> first | exact nope | intro hb
   generalize x.natAbs=i at *
   refine aw_seq ?_
   refine aw_reg fun K hK=>?_;refine rn (J9 rTI @c1 @c2 @lD @lE @lN @l2 @Int.zero_sub @e2) ?_;refine cont_pure hi ?_;refine rn (J9 rTI @c1 @c2 @lD @lE @lN @l2 @Int.zero_sub @e2) ?_;refine hK _ _ ?_;clear hK K
   refine go rTI ?_
   exact fun i hi=>if_neg (by omega)
  ·obtain⟨kk,hkk⟩:∃ kk:Nat,kk=((x+15) / 3).toNat:=⟨_,rfl⟩
   obtain⟨z,hz⟩:∃ z:Nat,z=((x+15) % 3).toNat:=⟨_,rfl⟩
   have e1:textS m x=decS m++List.replicate z 48++letterS kk:=by unfold textS;rw[if_neg qx,hkk,hz]
   rw[e1]
   have e2:(x+15) / 3=(kk:Int):=by omega
   have e3:x+15-3*(kk:Int)=(z:Int):=by omega
   have hz3:z<3:=by omega
   have hk9:kk<9:=by omega
   have s1:(ByteArray.mk #[48,48]).extract 0 z=bs (List.replicate z 48):=by
    have:z=0∨z=1∨z=2:=by omega
    rcases this with rfl | rfl | rfl <;> rfl
   have tz:Int.toNat 0=0:=rfl
   have l00:(ByteArray.mk #[48,48]).size=2:=rfl
   have c1:=bs_append (decS m) (List.replicate z 48)
   have c2:=bs_append (decS m++List.replicate z 48) (letterS kk)
   have lZ:=bs_size (List.replicate z 48)
   have lE:=bs_size (decS m++List.replicate z 48)
   have lK:=bs_size (letterS kk)
   have lK3:=(letter_reads kk (by omega)).2.2
   rw[List.length_replicate] at lZ
   rw[List.length_append,List.length_replicate] at lE
   have hd:(([AV.v (.string (ByteArray.mk #[102])),.v (.string (ByteArray.mk #[112])),.v (.string (ByteArray.mk #[110])),.v (.string (ByteArray.mk #[117])),.v (.string (ByteArray.mk #[109])),.v (.string (ByteArray.mk #[])),.v (.string (ByteArray.mk #[107])),.v (.string (ByteArray.mk #[109,101,103])),.v (.string (ByteArray.mk #[103]))]).drop kk).head?=some (.v (.string (bs (letterS kk)))):=by
    have:kk=0∨kk=1∨kk=2∨kk=3∨kk=4∨kk=5∨kk=6∨kk=7∨kk=8:=by omega
    rcases this with rfl | rfl | rfl | rfl | rfl | rfl | rfl | rfl | rfl <;> rfl
   clear e1
   refine acall_of Tryz.func22 rfl rfl (by simp [Tryz.ntmps22]) ?_;rw[Tryz.ntmps22,Tryz.results22]
   refine go rTI ?_
   refine aw_reg fun K hK=>?_;refine rn rTI ?_;refine cont_pure hv ?_;refine rn rTI ?_;refine hK _ _ ?_;clear hK K
   rw[then_normal]
   refine ifs ?_ ?_ <;> first | exact nope | intro hb
   refine go trivial ?_
   refine aw_reg fun K hK=>?_;refine rn rTI ?_;refine cont_pure hF ?_;refine rn rTI ?_;refine hK _ _ ?_;clear hK K
   rw[then_normal]
   refine go rTI ?_
   refine ifs ?_ ?_ <;> first | exact nope | intro hb
   refine go (cj rTI @e2) ?_
   generalize letterS kk=lk at *
   refine aw_drw (.take 0 (.take 1 (.take 2 (.take 3 (.take 4 (.take 5 (.take 6 (.take 7 (.take 8 (.take 10 (.one 9 (.one 11 (.one 12 (.one 13 (.one 14 (.one 15 (.done))))))))))))))))) [s.nx] (by kernel_rfl) (by kernel_rfl) fun K hK=>?_;refine dr (J13 rTI @e3 @s1 @tz @l00 @c1 @c2 @lD @lZ @lE @lK @hd @Nat.zero_add) ?_;refine hK _ _ ?_;clear hK K
   refine go rTI ?_
   exact fun i hi=>by rw[if_neg (by omega),if_neg (by omega)]
 ·have q':validN m x=false:=by simpa using q
  rw[if_neg q]
  rw[q'] at hv
  refine acall_of Tryz.func22 rfl rfl (by simp [Tryz.ntmps22]) ?_;rw[Tryz.ntmps22,Tryz.results22]
  refine go rTI ?_
  refine aw_reg fun K hK=>?_;refine rn rTI ?_;refine cont_pure hv ?_;refine rn rTI ?_;refine hK _ _ ?_;clear hK K
  rw[then_normal]
  refine ifs ?_ ?_ <;> first | exact nope | intro hb
  refine go trivial ?_
  exact⟨rfl,fun i hi=>if_neg (by omega)⟩
end NumX
namespace NumY
open Go Go.RowKit Ax Ti BigM NumS NumA NumB NumT NumU NumL NumW NumX
theorem rTI : type_of% (J10 @ti3 @ti2 @ti4 @ti9 @ti5 @ti207 @ti43 @ti53 @ti23 @ti31) := cj @ti3 (J9 @ti2 @ti4 @ti9 @ti5 @ti207 @ti43 @ti53 @ti23 @ti31)
end NumY
namespace NumR
open Go Go.RowKit Ax Ti BigM RefA RefC RefD RefF RefG RefI RefK NumS NumP NumT NumU NumL NumW
theorem rTI : type_of% (J7 @ti3 @ti2 @ti4 @ti9 @ti5 @ti23 @ti114) := cj @ti3 (J6 @ti2 @ti4 @ti9 @ti5 @ti23 @ti114)
end NumR
namespace NumE
open Go Go.RowKit Ax Ti BigM NumS NumA NumB NumT NumU NumL NumW NumX NumY NumR
theorem rTI:type_of% (J7 @ti3 @ti2 @ti4 @ti9 @ti5 @ti23 @ti31):=cj @ti3 (J6 @ti2 @ti4 @ti9 @ti5 @ti23 @ti31)
theorem parse_long (l:List Nat) (h:32<l.length):PCall Tryz.prog 119 [.v (.string (bs l))] (parseV (parseS l)):=by
 have l1:=bs_size l
 rw[show parseS l=(0,0,3) by unfold parseS;rw[if_pos h],show parseV (0,0,3)=.tp [.ag [.v (.int .i64 0),.v (.int .i64 0)],.v (.int .i64 3)] from rfl]
 refine pcall_of fun s=>?_
 refine acall_of Tryz.func119 rfl rfl (by simp [Tryz.ntmps119]) ?_;rw[Tryz.ntmps119,Tryz.results119]
 refine go (cj rTI @l1) ?_
 refine ifs ?_ ?_ <;> first | exact nope | intro hb
 refine go rTI ?_
 exact fun i hi=>by rw[if_neg (by omega)]
theorem parse_any (l:List Nat) (h:By l):PCall Tryz.prog 119 [.v (.string (bs l))] (parseV (parseS l)):=by
 by_cases q:32<l.length
 ·exact parse_long l q
 ·exact parse_ax l h (by omega)
end NumE
namespace NumLaid
open Ax
theorem own:ownKnob Tryz.prog.godebug=none:=by kernel_rfl
theorem laidOut:laidOutB Tryz.prog=true:=by kernel_rfl
noncomputable def laidWorld (os:Os):World:=World.laidAll Tryz.prog os Rows.netPlacesRow.laid
theorem laidWorld_os (os:Os):(laidWorld os).os=os:=World.laidAll_os _ _ _
theorem laid_met (os:Os) (args:Array Value):laidMet Tryz.prog Rows.netPlacesRow.laid ((laidWorld os).forCall (fun _ _=>0) ⟨#[],args,[]⟩).memory:=laidMet_laidAll args (by kernel_rfl) (by kernel_rfl)
theorem laidMet_tail {P:Program} {w:World} {x:String × DataW Unit} {l:List (String × DataW Unit)} (h:laidMet P (x::l) w):laidMet P l w:=by
 obtain⟨ps,⟨g1,t1,c1,f1,p1,q1,a1,a2,a3,a4,a5,rfl⟩,hn,hc⟩:=h
 exact⟨q1,a5,(List.nodup_append.1 hn).2.1,fun b off hb=>hc b off (List.mem_append_right _ hb)⟩
theorem iface_of {H:Type} {enc:TypeId × Value→H} {P:Program} {w:World} {base:Nat} {sp:Nat→Bool} {held:Bool} {fuel:Nat} {t:TypeId} {ms:_} {cs:List Value} {name:String} {d:DataW H} {p:List MemPlace}
  (ht:P.underlying t=some (.interface ms)) (h:DataW.trod enc P w base sp held fuel t cs=some (.iface name d,p)):∃ u v,cs=[.iface u v]:=by
 cases fuel with
 | zero=>simp [DataW.trod] at h
 | succ fuel=>
  match cs with
  | []=>simp [DataW.trod,ht] at h
  | _::_::_=>simp [DataW.trod,ht] at h
  | [x]=>
   cases x
   case iface u v=>exact⟨u,v,rfl⟩
   all_goals simp [DataW.trod,ht] at h
theorem syntax_cell {w:World} (h:laidMet Tryz.prog Rows.netPlacesRow.laid w):∃ t p,w.cell? ⟨7,0,none⟩=some (.iface t p):=by
 have h:=laidMet_tail (laidMet_tail (laidMet_tail (laidMet_tail (laidMet_tail h))))
 obtain⟨ps,⟨g',t',cs,fuel,p,q,hg',ht',hvar,hd,_,_⟩,_⟩:=h
 obtain rfl:=Option.some.inj ((show Tryz.prog.globalNamed "strconv.ErrSyntax" = some 7 by kernel_rfl).symm.trans hg')
 obtain rfl:=Option.some.inj ((show (Tryz.prog.globals[7]?).map (·.type)=some 57 by kernel_rfl).symm.trans ht')
 obtain⟨u,v,hcs⟩:=iface_of Tryz.underlying57 hd
 obtain rfl:cs = #[.iface u v]:=by rw[←Array.toList_inj,hcs]
 exact⟨u,v,by have:=World.var?_cell hg' hvar 0;simpa using this⟩
theorem range_cell {w:World} (h:laidMet Tryz.prog Rows.netPlacesRow.laid w):∃ t p,w.cell? ⟨8,0,none⟩=some (.iface t p):=by
 have h:=laidMet_tail (laidMet_tail (laidMet_tail (laidMet_tail h)))
 obtain⟨ps,⟨g',t',cs,fuel,p,q,hg',ht',hvar,hd,_,_⟩,_⟩:=h
 obtain rfl:=Option.some.inj ((show Tryz.prog.globalNamed "strconv.ErrRange" = some 8 by kernel_rfl).symm.trans hg')
 obtain rfl:=Option.some.inj ((show (Tryz.prog.globals[8]?).map (·.type)=some 57 by kernel_rfl).symm.trans ht')
 obtain⟨u,v,hcs⟩:=iface_of Tryz.underlying57 hd
 obtain rfl:cs = #[.iface u v]:=by rw[←Array.toList_inj,hcs]
 exact⟨u,v,by have:=World.var?_cell hg' hvar 0;simpa using this⟩
theorem pow_eq:(Rows.laid_internal_strconv_uint64pow10:DataW Unit)=Lib.tabData .u64 Lib.pow10Tab:=by kernel_rfl
theorem tabs {w:World} (h:laidMet Tryz.prog Rows.netPlacesRow.laid w):Tabs w.cell?:=by
 have h1:=laidMet_tail (laidMet_tail h)
 rw[pow_eq] at h1
 obtain⟨ps,⟨g',t',cs,fuel,p,q,hg',ht',hvar,hd,_,_⟩,_⟩:=h1
 obtain rfl:=Option.some.inj ((show Tryz.prog.globalNamed "internal/strconv.uint64pow10" = some 1 by kernel_rfl).symm.trans hg')
 obtain rfl:=Option.some.inj ((show (Tryz.prog.globals[1]?).map (·.type)=some 206 by kernel_rfl).symm.trans ht')
 have hc:=Lib.cells_of_tab (e:=150) (n:=20) Tryz.underlying206 Tryz.underlying150 (by kernel_rfl) (by kernel_rfl) hd
 refine⟨fun i hi=>?_,syntax_cell h,range_cell h,trivial⟩
 have hT:Lib.TabIs Tryz.prog w "internal/strconv.uint64pow10" .u64 Lib.pow10Tab:=by
  unfold Lib.TabIs
  rw[hvar,←hc]
 have:=hT.cell (g:=1) (by kernel_rfl) i (by rw[Lib.pow10Tab_length];exact hi)
 rw[Lib.pow10Tab_at i hi] at this
 exact this
theorem tabSize {w:World} (h:laidMet Tryz.prog Rows.netPlacesRow.laid w):TabSize w:=by
 have h1:=laidMet_tail (laidMet_tail h)
 rw[pow_eq] at h1
 obtain⟨ps,⟨g',t',cs,fuel,p,q,hg',ht',hvar,hd,_,_⟩,_⟩:=h1
 obtain rfl:=Option.some.inj ((show Tryz.prog.globalNamed "internal/strconv.uint64pow10" = some 1 by kernel_rfl).symm.trans hg')
 obtain rfl:=Option.some.inj ((show (Tryz.prog.globals[1]?).map (·.type)=some 206 by kernel_rfl).symm.trans ht')
 have hc:=Lib.cells_of_tab (e:=150) (n:=20) Tryz.underlying206 Tryz.underlying150 (by kernel_rfl) (by kernel_rfl) hd
 refine⟨?_,trivial⟩
 simp only[World.var?,hg',Option.bind_some] at hvar
 split at hvar
 ·rename_i c t fr hb
  injection hvar with hvar
  subst hvar
  refine⟨_,_,_,hb,?_⟩
  rw[←Array.length_toList,hc]
  simp [Lib.pow10Tab]
 ·cases hvar
theorem tabIs {w:World} (h:Tabs w.cell?) (hz:TabSize w):Lib.TabIs Tryz.prog w "internal/strconv.uint64pow10" .u64 Lib.pow10Tab:=by
 obtain⟨c,e,f,h1,h2⟩:=hz.1
 have hg:Tryz.prog.globalNamed "internal/strconv.uint64pow10" = some 1:=by kernel_rfl
 unfold Lib.TabIs
 have hv:w.var? Tryz.prog "internal/strconv.uint64pow10" = some c:=by
  simp only[World.var?,hg,Option.bind_some,h1]
 rw[hv]
 congr 1
 apply Array.ext
 ·rw[h2];simp [Lib.pow10Tab]
 intro i h3 h4
 have h5:=World.var?_cell hg hv i
 rw[h.1 i (by omega),Array.getElem?_eq_getElem h3] at h5
 injection h5 with h5
 rw[←h5]
 simp [Lib.pow10Tab]
theorem relL_mk1 {k:KW} {z0:AV} {u0:Value} (h0:Rel k z0 u0):RelL k [z0] [u0]:=by
 refine⟨rfl,fun j z u hz hu=>?_⟩
 match j with
 | 0=>cases hz;cases hu;exact h0
 | j+1=>simp at hz
end NumLaid
namespace NumG
open Go Go.RowKit Ax Ti BigM RefA RefC RefD RefH RefK NumS NumA NumT NumU NumX
theorem dec_eq (n:Nat):Lib.decDigits n=(decP n).map UInt8.ofNat:=by
 induction n using Nat.strongRecOn with
 | ind n ih=>
  rw[Lib.decDigits]
  split
  ·rename_i h
   unfold decP
   split
   ·rename_i e;subst e;rfl
   ·rw[decN,digs_pos 10 n (by decide) (by omega),Nat.div_eq_of_lt h,digs_zero,Nat.mod_eq_of_lt h]
    rfl
  ·rename_i h
   rw[ih (n / 10) (by omega)]
   have e1:decP n=decN n:=by unfold decP;rw[if_neg (by omega)]
   have e2:decP (n / 10)=decN (n / 10):=by unfold decP;rw[if_neg (by omega)]
   rw[e1,e2]
   have e3:decN n=decN (n / 10)++[48+n % 10]:=by
    unfold decN
    rw[digs_pos 10 n (by decide) (by omega),List.reverse_cons,List.map_append]
    rfl
   rw[e3,List.map_append]
   rfl
theorem itoa_eq (z:Int):Lib.itoa z=(decS z).map UInt8.ofNat:=by
 unfold Lib.itoa decS
 split
 ·rename_i h
  rw[if_neg (by omega),dec_eq,decP,if_neg (by omega)]
  rfl
 ·rename_i h
  by_cases e:z=0
  ·subst e;rw[if_pos rfl,dec_eq];rfl
  ·rw[if_neg e,dec_eq,decP,if_neg (by omega),show z.toNat=z.natAbs by omega]
   rfl
theorem format_ax (z:Int) (h0 : -9223372036854775808≤z) (h1:z≤9223372036854775807):PCall Tryz.prog 61 [.v (.int .i64 z),.v (.int .i64 10)] (.v (.string (bs (decS z)))):=by
 refine pcall_lift_tab (us:=[.int .i64 z,.int .i64 10]) (enters_of Tryz.func61 rfl rfl) (fun k=>.v _) fun w ht hz=>?_
 refine (Tryz.strconv_FormatInt_10 z h0 h1 w (NumLaid.tabIs ht hz)).mono ?_
 rintro en w' ⟨rfl,k,os,rfl⟩
 rw[itoa_eq]
 exact⟨rfl,⟨rfl,rfl,rfl,by simp [Sort.grow,World.drewN],fun i hi=>by simp [Sort.grow,World.drewN,Array.getElem?_append,hi]⟩⟩
theorem text_all (m x:Int):PCall Tryz.prog 22 [NM m x] (textV m x):=
 text_ax m x fun h=>by
  obtain⟨h1,h2,_⟩:=RefM.validN_m m x h
  exact format_ax m (by omega) (by omega)
end NumG
namespace CardS
open NumS RefM
abbrev Str:=List Nat
abbrev Num:=Int × Int
def nameC (c:Nat):Bool:=decide (97≤c∧c≤122)||decide (48≤c∧c≤57)||decide (c=95)
def isName (s:Str):Bool:=decide (1≤s.length∧s.length≤16)&&s.all nameC
def kinds:Str:=[114,99,108,118,105,101,103,102,104,116,100,115,120]
def isDev (s:Str):Bool:=isName s&&kinds.contains (s.getD 0 0)
structure Wv where
 kind:Int
 vals:List Num
 steps:List Int
structure Crd where
 name:Str
 nodes:List Str
 ref:Str
 value:Num
 wave:Wv
structure Mdl where
 name:Str
 kind:Int
 g:List Num
 v:List Num
def wv0:Wv:=⟨0,[],[]⟩
def crd0:Crd:=⟨[],[],[],(0,0),wv0⟩
def mdl0:Mdl:=⟨[],0,[],[]⟩
def valid (n:Num):Bool:=validN n.1 n.2
def shapeK (k:Nat):Nat × Bool × Bool:=
 if k=114∨k=99∨k=108 then (2,false,true) else if k=118∨k=105 then (2,false,false) else if k=102∨k=104 then (2,true,true)
 else if k=100 then (2,true,false) else if k=115 then (4,true,false) else (4,false,true)
def sDc:Str:=[100,99]
def sPulse:Str:=[112,117,108,115,101]
def sPwl:Str:=[112,119,108]
def sTable:Str:=[116,97,98,108,101]
def sModel:Str:=[46,109,111,100,101,108]
def waveWords (w:List Str):Bool:=
 match w with
 | []=>false
 | k::r=>if k=sDc then decide (r.length=1) else if k=sPulse then decide (r.length=7) else if k=sPwl then decide (2≤r.length∧r.length % 2=0∧r.length≤32)
  else if k=sTable then decide (1≤r.length∧r.length≤16) else decide (r.length=0)
def want (k:Nat):Nat:=1+(shapeK k).1+(if (shapeK k).2.1 then 1 else 0)+(if (shapeK k).2.2 then 1 else 0)
def counted (k:Nat) (words:List Str):Bool:=
 if k=120 then decide (3≤words.length∧words.length≤10) else if k=118∨k=105 then decide (4≤words.length)&&waveWords (words.drop 3) else decide (words.length=want k)
def stepS (w:Str):Option Int:=if decP (digV w)=w∧digV w≤1000000000 then some (digV w:Nat) else none
def numE (w:Str) (e:Int):Int:=if e=0 then (parseS w).2.2 else e
def stepE (w:Str) (e:Int):Int:=if e=0 then (if (stepS w).isSome then 0 else 3) else e
def numV (w:Str):Num:=((parseS w).1,(parseS w).2.1)
def stepV (w:Str):Int:=(stepS w).getD 0
def numsE:List Str→Int→Int
 | [],e=>e
 | w::r,e=>numsE r (numE w e)
def stepsE:List Str→Int→Int
 | [],e=>e
 | w::r,e=>stepsE r (stepE w e)
def pairsE:List Str→Int→Int
 | a::b::r,e=>pairsE r (numE b (stepE a e))
 | _,e=>e
def evens:List Str→List Str
 | a::_::r=>a::evens r
 | l=>l
def odds:List Str→List Str
 | _::b::r=>b::odds r
 | _=>[]
def waveR (w:List Str) (e:Int):Wv × Int:=
 match w with
 | []=>(wv0,e)
 | k::r=>
  if k=sPulse then (⟨2,(r.take 2).map numV,(r.drop 2).map stepV⟩,stepsE (r.drop 2) (numsE (r.take 2) e))
  else if k=sPwl then (⟨3,(odds r).map numV,(evens r).map stepV⟩,pairsE r e)
  else if k=sTable then (⟨4,r.map numV,[]⟩,numsE r e)
  else if k=sDc then (⟨1,r.map numV,[]⟩,numsE r e)
  else (⟨1,[numV k],[]⟩,numE k e)
def rising:List Int→Bool
 | a::b::r=>decide (a<b)&&rising (b::r)
 | _=>true
def waveOk (w:Wv):Bool:=
 w.vals.all valid&&w.steps.all (fun s=>decide (0≤s∧s≤1000000000)) &&
 (if w.kind=1 then decide (w.vals.length=1∧w.steps.length=0)
  else if w.kind=2 then decide (w.vals.length=2∧w.steps.length=5∧1≤w.steps.getD 4 0∧w.steps.getD 1 0+w.steps.getD 2 0+w.steps.getD 3 0≤w.steps.getD 4 0)
  else if w.kind=3 then rising w.steps&&decide (w.vals.length=w.steps.length∧1≤w.vals.length∧w.vals.length≤16)
  else if w.kind=4 then decide (1≤w.vals.length∧w.vals.length≤16∧w.steps.length=0)
  else false)
def formOf (k n:Nat):Nat × Bool × Bool:=if k=120 then (n-2,true,false) else shapeK k
def refC (f:Nat × Bool × Bool) (ws:List Str):Str:=if f.2.1 then (ws.drop f.1).headD [] else []
def restC (f:Nat × Bool × Bool) (ws:List Str):List Str:=if f.2.1 then (ws.drop f.1).drop 1 else ws.drop f.1
def valC (f:Nat × Bool × Bool) (ws:List Str):Num:=if f.2.2 then numV ((restC f ws).headD []) else (0,0)
def errV (f:Nat × Bool × Bool) (ws:List Str):Int:=if f.2.2 then numE ((restC f ws).headD []) 0 else 0
def srcC (k:Nat):Bool:=decide (k=118∨k=105)
def wvC (k:Nat) (f:Nat × Bool × Bool) (ws:List Str):Wv:=if srcC k then (waveR (restC f ws) (errV f ws)).1 else wv0
def errC (k:Nat) (f:Nat × Bool × Bool) (ws:List Str):Int:=if srcC k then (waveR (restC f ws) (errV f ws)).2 else errV f ws
def badRef (k:Nat) (f:Nat × Bool × Bool) (ws:List Str):Bool:=f.2.1&&(!isName (refC f ws)||(decide (k=102∨k=104)&&decide ((refC f ws).getD 0 0≠118)))
def zeroK (k:Nat):Bool:=decide (k=114∨k=99∨k=108)
def readB (w0:Str) (ws:List Str) (k:Nat) (f:Nat × Bool × Bool):Crd × Int:=
 if (isDev w0&&counted k (w0::ws))=true then
  if (ws.take f.1).all isName=true then
   if badRef k f ws=true then (crd0,71) else if errC k f ws≠0 then (crd0,errC k f ws) else if (valC f ws).1=0∧zeroK k=true then (crd0,11)
   else if srcC k=true∧waveOk (wvC k f ws)=false then (crd0,40) else (⟨w0,ws.take f.1,refC f ws,valC f ws,wvC k f ws⟩,0)
  else (crd0,71)
 else (crd0,70)
def readC:List Str→Crd × Int
 | []=>(crd0,70)
 | w0::ws=>readB w0 ws (w0.getD 0 0) (formOf (w0.getD 0 0) (ws.length+1))
def textN (n:Num):Str:=if valid n then textS n.1 n.2 else [63]
def zipW:List Int→List Num→List Str
 | s::ss,v::vs=>decS s::textN v::zipW ss vs
 | _,_=>[]
def waveT (w:Wv):List Str:=
 if w.kind=3 then sPwl::zipW w.steps w.vals
 else (if w.kind=1 then [sDc] else if w.kind=2 then [sPulse] else if w.kind=4 then [sTable] else [])++w.vals.map textN++w.steps.map decS
def wordsC (c:Crd):List Str:=
 let k:=c.name.getD 0 0
 c.name::c.nodes++(if (shapeK k).2.1=true∨k=120 then [c.ref] else [])++(if (shapeK k).2.2=true∧k≠120 then [textN c.value] else [])++(if k=118∨k=105 then waveT c.wave else [])
def sameW (a b:Wv):Bool:=decide (a.kind=b.kind∧a.vals=b.vals∧a.steps=b.steps)
def writeC (c:Crd):List Str × Int:=
 if isDev c.name=true∧c.nodes.length≤8∧c.wave.vals.length≤16∧c.wave.steps.length≤16 then
  let d:=readC (wordsC c)
  if d.2=0∧d.1.ref=c.ref∧d.1.value=c.value∧d.1.nodes=c.nodes∧sameW d.1.wave c.wave=true then (wordsC c,0) else ([],70)
 else ([],70)
def rightF (k:Nat) (f:Nat × Bool × Bool) (c:Crd):Bool:=
 (!zeroK k||decide (c.value.1≠0))&&(!decide (k=102∨k=104)||decide (c.ref.getD 0 0=118))&&(!decide (k=120)||decide (1≤c.nodes.length∧c.nodes.length≤8))&&decide (c.nodes.length=f.1)&&c.nodes.all isName &&
 (if f.2.1=true then isName c.ref else decide (c.ref=[]))&&(if f.2.2=true then valid c.value else decide (c.value=(0,0))) &&
 (if srcC k=true then waveOk c.wave else decide (c.wave.kind=0∧c.wave.vals=[]∧c.wave.steps=[]))
def rightC (c:Crd):Bool:=isDev c.name&&rightF (c.name.getD 0 0) (if c.name.getD 0 0=120 then (c.nodes.length,true,false) else shapeK (c.name.getD 0 0)) c
def sLess (a b:Num):Bool:=decide (RefC.sgn ((ofN a.1 a.2).1*(ofN b.1 b.2).2-(ofN b.1 b.2).1*(ofN a.1 a.2).2)<0)
def risingN:List Num→Bool
 | a::b::r=>sLess a b&&risingN (b::r)
 | _=>true
def modelOk (m:Mdl):Bool:=
 isName m.name&&m.g.all valid&&m.v.all valid &&
 (if m.kind=115 then decide (m.g.length=2∧m.v.length=1) else if m.kind=100 then decide (1≤m.g.length∧m.g.length≤4∧m.v.length+1=m.g.length)&&risingN m.v else false)
def readM (words:List Str):Mdl × Int:=
 let n:=words.length
 let k:=words.getD 2 []
 if 4≤n∧words.getD 0 []=sModel∧(k=[100]∨k=[115])∧n % 2=0∧n≤10∧(k=[115]→n=6) then
  if isName (words.getD 1 []) then
   let r:=words.drop 3
   let m:Mdl:=⟨words.getD 1 [],(k.getD 0 0:Nat),(evens r).map numV,(odds r).map numV⟩
   if numsE r 0≠0 then (mdl0,numsE r 0) else if modelOk m then (m,0) else (mdl0,50)
  else (mdl0,71)
 else (mdl0,70)
def zipM:List Num→List Num→List Str
 | v::vs,g::gs=>textN v::textN g::zipM vs gs
 | _,_=>[]
def modelT (m:Mdl):List Str:=sModel::m.name::[m.kind.toNat]::textN (m.g.headD (0,0))::zipM m.v (m.g.drop 1)
def writeM (m:Mdl):List Str × Int:=if modelOk m then (modelT m,0) else ([],50)
end CardS
namespace NumH
open Go Go.RowKit Ax Ti BigM NumS NumA NumB NumT NumU NumL NumW NumX NumY NumE NumG
theorem ok_valid (m x:Int):RefM.validN m x=true↔okN m x:=by
 unfold RefM.validN okN
 split
 ·simp
 ·simp
  omega
theorem by_app3 {a b:List Nat} (ha:By a) (hb:By b):By (a++b):=fun c hc=>by
 rcases List.mem_append.1 hc with hc | hc
 ·exact ha c hc
 ·exact hb c hc
theorem textS_by (m x:Int):By (textS m x):=by
 have hD:By (decS m):=by
  intro c hc
  unfold decS at hc
  split at hc
  ·simp at hc;omega
  ·rcases List.mem_append.1 hc with hc | hc
   ·split at hc
    ·simp at hc;omega
    ·cases hc
   ·have:=(isD_iff c).1 (decN_isD _ c hc)
    omega
 unfold textS
 split
 ·refine by_app3 (by_app3 hD ?_) ?_
  ·intro c hc;simp at hc;omega
  ·intro c hc
   have:=(isD_iff c).1 (decN_isD _ c hc)
   omega
 ·refine by_app3 (by_app3 hD ?_) ?_
  ·intro c hc
   have:=List.eq_of_mem_replicate hc
   omega
  ·exact letter_by _
end NumH
namespace CardA
open Go Go.RowKit Ax Ti NumS NumT CardS
theorem rTI:type_of% (J9 @ti3 @ti4 @ti9 @ti5 @ti43 @ti53 @Nat.zero_add @Nat.mul_one @Int.toNat_natCast):=cj @ti3 (J8 @ti4 @ti9 @ti5 @ti43 @ti53 @Nat.zero_add @Nat.mul_one @Int.toNat_natCast)
theorem tz0:Int.toNat 0=0:=rfl
theorem tz1:Int.toNat 1=1:=rfl
theorem tz3:Int.toNat 3=3:=rfl
def SV (s:Str):AV:=.v (.string (bs s))
def SL (l:List Str):List AV:=l.map SV
def TV (l:List Str):AV:=.sl l.length (SL l)
theorem hd_byte (l:Str) (h:By l) (k:Nat) (hk:k<l.length):((byteAV (bs l)).drop k).head?=some (.v (.int .u8 ((l.getD k 0:Nat):Int))):=by
 have hg:=bs_get l h k
 have hs:=bs_size l
 rw[List.head?_drop]
 unfold byteAV
 rw[List.getElem?_map]
 have hlt:k<(bs l).data.toList.length:=by rw[←hs] at hk;simpa using hk
 rw[List.getElem?_eq_getElem hlt]
 rw[List.getD_eq_getElem?_getD,List.getElem?_eq_getElem hlt] at hg
 simp only[Option.getD_some] at hg
 simp only[Option.map_some,hg]
theorem take_all {α:Type} (p:α→Bool) (l:List α) (d:α) (k:Nat) (hk:k<l.length) (h:(l.take k).all p=true):(l.take (k+1)).all p=p (l.getD k d):=by
 rw[List.take_succ_eq_append_getElem hk,List.all_append,h,List.getD_eq_getElem?_getD,List.getElem?_eq_getElem hk]
 simp
theorem all_not {α:Type} (p:α→Bool) (l:List α) (d:α) (k:Nat) (hk:k<l.length) (h:p (l.getD k d)=false):l.all p=false:=by
 rw[List.getD_eq_getElem?_getD,List.getElem?_eq_getElem hk] at h
 rw[List.all_eq_false]
 exact⟨l[k],List.getElem_mem hk,by simpa using h⟩
theorem nameC_int (c:Nat):nameC c=((decide ((97:Int)≤(c:Int))&&decide ((c:Int)≤122))||(decide ((48:Int)≤(c:Int))&&decide ((c:Int)≤57))||((c:Int)==95)):=by
 rw[Bool.eq_iff_iff]
 unfold nameC
 simp
 omega
theorem name_ax (l:Str) (h:By l) (hl:l.length≤9223372036854775807):PCall Tryz.prog 68 [SV l] (.v (.bool (isName l))):=by
 refine pcall_of fun s=>?_
 have lS:=bs_size l
 unfold SV
 by_cases h0:1≤l.length∧l.length≤16
 ·have e0:isName l=l.all nameC:=by unfold isName;rw[decide_eq_true h0];rfl
  have d1:decide ((l.length:Int)<1)=false:=by simp;omega
  have d2:decide ((16:Int)<(l.length:Int))=false:=by simp;omega
  refine acall_of Tryz.func68 rfl rfl (by simp [Tryz.ntmps68]) ?_;rw[Tryz.ntmps68,Tryz.results68]
  refine go (J5 rTI @tz0 @lS @d1 @d2) ?_
  refine ifs ?_ ?_ <;> first | exact nope | intro hb
  refine go (J3 rTI @tz0 @lS) ?_
  refine aw_loop (fun m e s'=>∃ k,m=l.length-k∧k≤l.length∧e.n=40∧e.m 14=.sl l.length (byteAV (bs l))∧e.m 15=.v (.int .i64 l.length)∧e.m 16=.v (.int .i64 (k:Nat))∧(l.take k).all nameC=true∧s'=s) l.length ?_ ?_
  ·refine⟨0,by omega,by omega,?_⟩
   (repeat' refine And.intro ?_ ?_) <;> first | exact rfl | exact fnz (J3 rTI @tz0 @lS) | skip
  ·rintro m e s' ⟨k,rfl,hk,h1,k14,k15,k16,ha,rfl⟩
   by_cases hk2:k<l.length
   ·have hd:=hd_byte l h k hk2
    have hn:=nameC_int (l.getD k 0)
    have ht:=take_all nameC l 0 k hk2 ha
    have hf:=all_not nameC l 0 k hk2
    generalize l.getD k 0=c at *
    generalize e1:decide ((97:Int)≤(c:Int))=b1 at *
    generalize e2:decide ((c:Int)≤122)=b2 at *
    generalize e3:decide ((48:Int)≤(c:Int))=b3 at *
    generalize e4:decide ((c:Int)≤57)=b4 at *
    generalize e5:((c:Int)==95)=b5 at *
    refine go (J5 rTI @tz0 @h1 @k15 @k16) ?_
    refine ifs ?_ ?_ <;> first | exact nope | intro hb
    refine aw_skip ?_
    refine aw_seq ?_
    refine aw_block ?_
    refine aw_seq ?_
    refine aw_reg fun K hK=>?_;refine rn (J6 rTI @tz0 @h1 @k14 @k16 @hd) ?_;refine hK _ _ ?_;clear hK K
    refine aw_seq ?_
    refine aw_only (fun e' s''=>s''=s'∧e'.n=40∧e'.m 14=.sl l.length (byteAV (bs l))∧e'.m 15=.v (.int .i64 l.length)∧e'.m 16=.v (.int .i64 (k:Nat))∧e'.m 38=.v (.bool !nameC c)) ?_ ?_
    ·rw[hn]
     cases b1 <;> cases b2 <;> cases b3 <;> cases b4 <;> cases b5
     all_goals (refine aw_reg fun K hK=>?_;refine rn (J8 rTI @tz0 @h1 @e1 @e2 @e3 @e4 @e5) ?_;refine hK _ _ ?_;clear hK K)
     all_goals ((repeat' refine And.intro ?_ ?_) <;> first | exact rfl | exact fnz (J4 @h1 @k14 @k15 @k16) | skip)
    ·clear h1 k14 k15 k16 e1 e2 e3 e4 e5 hd hn e
     rintro e s'' ⟨rfl,h1,k14,k15,k16,k38⟩
     cases hc:nameC c with
     | false=>
      rw[e0,hf hc]
      rw[hc] at k38
      refine aw_cond k38 (fun _=>?_) (fun h=>by cases h)
      exact go0 @h1
     | true=>
      rw[hc] at ht k38
      refine aw_cond k38 (fun h=>by cases h) (fun _=>?_)
      refine go (J4 rTI @tz0 @h1 @k16) ?_
      simp only[block_normal,loop_normal]
      refine⟨l.length-(k+1),by omega,k+1,rfl,by omega,?_,?_,?_,?_,ht,trivial⟩
      all_goals ((first | refine rn (J4 @h1 @k14 @k15 @k16) ?_ | exact rn0 (J4 @h1 @k14 @k15 @k16)))
      all_goals rfl
   ·obtain rfl:k=l.length:=by omega
    rw[List.take_length] at ha
    rw[e0,ha]
    refine go (J5 rTI @tz0 @h1 @k15 @k16) ?_
    refine ifs ?_ ?_ <;> first | exact nope | intro hb
    exact go0 (J3 rTI @tz0 @h1)
 ·have e0:isName l=false:=by unfold isName;rw[decide_eq_false h0];rfl
  rw[e0]
  refine acall_of Tryz.func68 rfl rfl (by simp [Tryz.ntmps68]) ?_;rw[Tryz.ntmps68,Tryz.results68]
  by_cases h1:1≤l.length
  ·have d1:decide ((l.length:Int)<1)=false:=by simp;omega
   have d2:decide ((16:Int)<(l.length:Int))=true:=by simp;omega
   refine go (J5 rTI @tz0 @lS @d1 @d2) ?_
   refine ifs ?_ ?_ <;> first | exact nope | intro hb
   exact go0 (cj rTI @tz0)
  ·have d1:decide ((l.length:Int)<1)=true:=by simp;omega
   refine go (J4 rTI @tz0 @lS @d1) ?_
   refine ifs ?_ ?_ <;> first | exact nope | intro hb
   exact go0 (cj rTI @tz0)
theorem cname_ax (l:Str) (h:By l) (hl:l.length≤9223372036854775807):PCall Tryz.prog 93 [SV l] (.v (.bool (isName l))):=by
 refine pcall_of fun s=>?_
 have p:=name_ax l h hl
 unfold SV at p ⊢
 refine acall_of Tryz.func93 rfl rfl (by simp [Tryz.ntmps93]) ?_;rw[Tryz.ntmps93,Tryz.results93]
 refine go (cj rTI @tz0) ?_
 refine aw_reg fun K hK=>?_;refine rn (cj rTI @tz0) ?_;refine cont_pure p ?_;refine rn (cj rTI @tz0) ?_;refine hK _ _ ?_;clear hK K
 exact go0 (cj rTI @tz0)
end CardA
namespace CardB
open Go Go.RowKit Ax Ti NumS NumT CardS CardA
theorem rTI:type_of% (J11 @ti3 @ti4 @ti9 @ti5 @ti43 @Nat.zero_add @tz0 @tz1 @tz3 @Nat.mul_one @Int.toNat_natCast):=cj @ti3 (J10 @ti4 @ti9 @ti5 @ti43 @Nat.zero_add @tz0 @tz1 @tz3 @Nat.mul_one @Int.toNat_natCast)
theorem dev_index (c:Nat) (hc:c<256):decide (0≤Lib.indexByte (bs kinds).data.toList (c:Int).toNat.toUInt8)=kinds.contains c:=by
 have:∀ c:Fin 256,decide (0≤Lib.indexByte (bs kinds).data.toList (Nat.toUInt8 c.val))=kinds.contains c.val:=by decide +kernel
 exact this ⟨c,hc⟩
theorem indexK_ax (c:Nat) (hc:c<256):PCall Tryz.prog 94 [.v (.string (ByteArray.mk #[114,99,108,118,105,101,103,102,104,116,100,115,120])),.v (.int .u8 (c:Nat))] (.v (.int .i64 (Lib.indexByte (bs kinds).data.toList (c:Int).toNat.toUInt8))):=
 pcall_lift (us:=[.string (bs kinds),.int .u8 (c:Nat)]) (enters_of Tryz.func94 rfl rfl) (fun k=>.v _) fun w=>(Tryz.strings_IndexByte (bs kinds) (c:Nat) w).mono fun en w' ⟨h1,h2⟩=>⟨h1,by rw[h2];exact Below.refl _ _⟩
theorem name_pos (l:Str) (h:isName l=true):0<l.length:=by
 unfold isName at h
 rw[Bool.and_eq_true,decide_eq_true_iff] at h
 omega
theorem by_at (l:Str) (h:By l) (k:Nat) (hk:k<l.length):l.getD k 0<256:=by
 rw[List.getD_eq_getElem?_getD,List.getElem?_eq_getElem hk]
 exact h _ (List.getElem_mem hk)
theorem dev_ax (l:Str) (h:By l) (hl:l.length≤9223372036854775807):PCall Tryz.prog 54 [SV l] (.v (.bool (isDev l))):=by
 refine pcall_of fun s=>?_
 have p:=cname_ax l h hl
 have lS:=bs_size l
 unfold SV at p ⊢
 unfold isDev
 refine acall_of Tryz.func54 rfl rfl (by simp [Tryz.ntmps54]) ?_;rw[Tryz.ntmps54,Tryz.results54]
 refine go rTI ?_
 cases hn:isName l with
 | false=>
  rw[hn] at p
  rw[Bool.false_and]
  refine aw_reg fun K hK=>?_;refine rn rTI ?_;refine cont_pure p ?_;refine rn rTI ?_;refine hK _ _ ?_;clear hK K
  exact go0 rTI
 | true=>
  rw[hn] at p
  have hp:=name_pos l hn
  have hg:=bs_get l h 0
  have hc:=by_at l h 0 hp
  have hi:=indexK_ax (l.getD 0 0) hc
  have hd:=dev_index (l.getD 0 0) hc
  rw[Bool.true_and,←hd]
  generalize l.getD 0 0=c at *
  generalize Lib.indexByte (bs kinds).data.toList (c:Int).toNat.toUInt8=z at *
  refine aw_reg fun K hK=>?_;refine rn (J3 rTI @lS @hg) ?_;refine cont_pure p ?_;refine rn (J3 rTI @lS @hg) ?_;refine cont_pure hi ?_;refine rn (J3 rTI @lS @hg) ?_;refine hK _ _ ?_;clear hK K
  exact go0 rTI
def shapeV (k:Nat):AV:=.tp [.v (.int .i64 (shapeK k).1),.v (.bool (shapeK k).2.1),.v (.bool (shapeK k).2.2)]
theorem shape_ax (k:Nat):PCall Tryz.prog 55 [.v (.int .u8 (k:Nat))] (shapeV k):=by
 refine pcall_of fun s=>?_
 rw[show idf (shapeV k)=true from rfl]
 obtain⟨sh,hsh⟩:∃ sh,sh=shapeV k:=⟨_,rfl⟩
 rw[←hsh]
 refine acall_of Tryz.func55 rfl rfl (by simp [Tryz.ntmps55]) ?_;rw[Tryz.ntmps55,Tryz.results55]
 refine go rTI ?_
 all_goals (try (refine ifs ?_ ?_ <;> first | exact nope | intro hb))
 all_goals (try (refine go rTI ?_))
 all_goals (try (refine ifs ?_ ?_ <;> first | exact nope | intro hb))
 all_goals (try (refine go rTI ?_))
 all_goals (try (refine ifs ?_ ?_ <;> first | exact nope | intro hb))
 all_goals (try (refine go rTI ?_))
 all_goals (try (refine ifs ?_ ?_ <;> first | exact nope | intro hb))
 all_goals (try (refine go rTI ?_))
 all_goals (try (refine ifs ?_ ?_ <;> first | exact nope | intro hb))
 all_goals (try (refine go rTI ?_))
 all_goals (try (refine ifs ?_ ?_ <;> first | exact nope | intro hb))
 all_goals (try (refine go rTI ?_))
 all_goals (try (refine ifs ?_ ?_ <;> first | exact nope | intro hb))
 all_goals (try (refine go rTI ?_))
 all_goals (try (refine ifs ?_ ?_ <;> first | exact nope | intro hb))
 all_goals (try (refine go rTI ?_))
 all_goals (try (refine ifs ?_ ?_ <;> first | exact nope | intro hb))
 all_goals (try (refine go rTI ?_))
 all_goals (try (refine ifs ?_ ?_ <;> first | exact nope | intro hb))
 all_goals (try (refine go rTI ?_))
 all_goals (try (refine ifs ?_ ?_ <;> first | exact nope | intro hb))
 all_goals (try (refine go rTI ?_))
 all_goals (try (refine ifs ?_ ?_ <;> first | exact nope | intro hb))
 all_goals (try (refine go rTI ?_))
 all_goals (rw[hsh];unfold shapeV shapeK;(repeat' split) <;> first | (refine⟨rfl,?_⟩;exact fun _ _=>rfl) | rfl | (exfalso;omega) | trivial)
theorem bs_inj {a b:Str} (ha:By a) (hb:By b) (h:bs a=bs b):a=b:=by
 have hl:a.length=b.length:=by rw[←bs_size a,←bs_size b,h]
 apply List.ext_getElem hl
 intro i h1 h2
 have e1:=bs_get a ha i
 have e2:=bs_get b hb i
 rw[h,e2] at e1
 rw[List.getD_eq_getElem?_getD,List.getElem?_eq_getElem h2,List.getD_eq_getElem?_getD,List.getElem?_eq_getElem h1] at e1
 exact e1.symm
theorem str_eq (a b:Str) (ha:By a) (hb:By b):((bs a).toList==(bs b).toList)=decide (a=b):=by
 rw[Bool.eq_iff_iff,beq_iff_eq,decide_eq_true_iff]
 constructor
 ·intro h
  rw[ByteArray.toList_eq,ByteArray.toList_eq] at h
  exact bs_inj ha hb (ByteArray.ext (Array.toList_inj.1 h))
 ·intro h;rw[h]
theorem str_ne (a b:Str) (ha:By a) (hb:By b):(!((bs a).toList==(bs b).toList))=!decide (a=b):=by rw[str_eq a b ha hb]
theorem by_lit (l:Str) (h:l.all (fun c=>decide (c<256))=true):By l:=fun c hc=>of_decide_eq_true (List.all_eq_true.1 h c hc)
def BL (l:List Str):Prop:=∀ s∈l,By s
theorem hd_SL (l:List Str) (k:Nat) (h:k<l.length):((SL l).drop k).head?=some (SV (l.getD k [])):=by
 rw[List.head?_drop]
 simp [SL,List.getElem?_eq_getElem h,List.getD]
end CardB
namespace CardC
open Go Go.RowKit Ax Ti NumS NumT CardS CardA CardB
theorem rTI:type_of% (J11 @ti3 @ti4 @ti9 @ti5 @ti43 @Nat.zero_add @tz0 @tz1 @tz3 @Nat.mul_one @Int.toNat_natCast):=cj @ti3 (J10 @ti4 @ti9 @ti5 @ti43 @Nat.zero_add @tz0 @tz1 @tz3 @Nat.mul_one @Int.toNat_natCast)
theorem if_dec {α:Type} (p:Prop) [Decidable p] (a b:α):(if p then a else b)=if decide p=true then a else b:=by
 by_cases h:p <;> simp [h]
theorem waveW_ax (w:List Str) (h:BL w) (hl:w.length≤9223372036854775807):PCall Tryz.prog 123 [TV w] (.v (.bool (waveWords w))):=by
 refine pcall_of fun s=>?_
 unfold TV
 cases w with
 | nil=>
  rw[show waveWords []=false from rfl]
  refine acall_of Tryz.func123 rfl rfl (by simp [Tryz.ntmps123]) ?_;rw[Tryz.ntmps123,Tryz.results123]
  refine go rTI ?_
  refine ifs ?_ ?_ <;> first | exact nope | intro hb
  exact go0 rTI
 | cons kw r=>
  have hk:By kw:=h kw (List.mem_cons_self ..)
  have e1:=str_eq kw sDc hk (by_lit _ rfl)
  have e2:=str_eq kw sPulse hk (by_lit _ rfl)
  have e3:=str_eq kw sPwl hk (by_lit _ rfl)
  have e4:=str_eq kw sTable hk (by_lit _ rfl)
  rw[show bs sDc=ByteArray.mk #[100,99] from rfl] at e1
  rw[show bs sPulse=ByteArray.mk #[112,117,108,115,101] from rfl] at e2
  rw[show bs sPwl=ByteArray.mk #[112,119,108] from rfl] at e3
  rw[show bs sTable=ByteArray.mk #[116,97,98,108,101] from rfl] at e4
  rw[List.length_cons] at hl ⊢
  have hn:((r.length+1:Nat):Int)-1=(r.length:Int):=by omega
  have hz:(((r.length+1:Nat):Int)==0)=false:=by simp;omega
  have hd:(SL (kw::r)).head?=some (.v (.string (bs kw))):=rfl
  generalize hn2:(r.length:Int)=n at *
  have goal:waveWords (kw::r)=if kw=sDc then (n==1) else if kw=sPulse then (n==7) else if kw=sPwl then (decide (2≤n)&&(n % 2==0)&&decide (n≤32)) else if kw=sTable then (decide (1≤n)&&decide (n≤16)) else (n==0):=by
   show (if kw=sDc then decide (r.length=1) else if kw=sPulse then decide (r.length=7) else if kw=sPwl then decide (2≤r.length∧r.length % 2=0∧r.length≤32) else if kw=sTable then decide (1≤r.length∧r.length≤16) else decide (r.length=0))=_
   have hm:(n % 2==0)=decide (r.length % 2=0):=by
    rw[←hn2,Bool.eq_iff_iff]
    simp only[beq_iff_eq,decide_eq_true_eq]
    omega
   rw[hm]
   have c1:(n==1)=decide (r.length=1):=by rw[Bool.eq_iff_iff];simp only[beq_iff_eq,decide_eq_true_eq];omega
   have c2:(n==7)=decide (r.length=7):=by rw[Bool.eq_iff_iff];simp only[beq_iff_eq,decide_eq_true_eq];omega
   have c3:(n==0)=decide (r.length=0):=by rw[Bool.eq_iff_iff];simp only[beq_iff_eq,decide_eq_true_eq];omega
   have c4:decide (2≤n)=decide (2≤r.length):=by rw[Bool.eq_iff_iff];simp only[decide_eq_true_eq];omega
   have c5:decide (n≤32)=decide (r.length≤32):=by rw[Bool.eq_iff_iff];simp only[decide_eq_true_eq];omega
   have c6:decide (1≤n)=decide (1≤r.length):=by rw[Bool.eq_iff_iff];simp only[decide_eq_true_eq];omega
   have c7:decide (n≤16)=decide (r.length≤16):=by rw[Bool.eq_iff_iff];simp only[decide_eq_true_eq];omega
   rw[c1,c2,c3,c4,c5,c6,c7]
   simp only[Bool.decide_and,Bool.and_assoc]
  rw[goal]
  have hnb:0≤n∧n≤9223372036854775806:=by omega
  clear goal hl h
  rw[if_dec (kw=sDc),if_dec (kw=sPulse),if_dec (kw=sPwl),if_dec (kw=sTable)]
  generalize g1:decide (kw=sDc)=b1 at *
  generalize g2:decide (kw=sPulse)=b2 at *
  generalize g3:decide (kw=sPwl)=b3 at *
  generalize g4:decide (kw=sTable)=b4 at *
  clear g1 g2 g3 g4
  generalize f1:decide (2≤n)=c1
  generalize f2:(n % 2==0)=c2
  generalize f3:decide (n≤32)=c3
  generalize f4:decide (1≤n)=c4
  generalize f5:decide (n≤16)=c5
  generalize f6:(n==1)=c6
  generalize f7:(n==7)=c7
  generalize f8:(n==0)=c8
  refine acall_of Tryz.func123 rfl rfl (by simp [Tryz.ntmps123]) ?_;rw[Tryz.ntmps123,Tryz.results123]
  refine go (cj rTI @hz) ?_
  refine ifs ?_ ?_ <;> first | exact nope | intro hb
  refine go (J4 rTI @hn @hd @e1) ?_
  cases b1
  rotate_left
  ·rw[if_pos rfl]
   refine ifs ?_ ?_ <;> first | exact nope | intro hb
   cases c6 <;> (simp only[decide_eq_true_eq,decide_eq_false_iff_not,beq_iff_eq,beq_eq_false_iff_ne,ne_eq] at f6;first | (exfalso;omega) | ((try simp only[Bool.false_and,Bool.and_false,Bool.true_and,Bool.and_true]);exact go0 rTI))
  rw[if_neg (by decide)]
  refine ifs ?_ ?_ <;> first | exact nope | intro hb
  refine go (cj rTI @e2) ?_
  cases b2
  rotate_left
  ·rw[if_pos rfl]
   refine ifs ?_ ?_ <;> first | exact nope | intro hb
   cases c7 <;> (simp only[decide_eq_true_eq,decide_eq_false_iff_not,beq_iff_eq,beq_eq_false_iff_ne,ne_eq] at f7;first | (exfalso;omega) | ((try simp only[Bool.false_and,Bool.and_false,Bool.true_and,Bool.and_true]);exact go0 rTI))
  rw[if_neg (by decide)]
  refine ifs ?_ ?_ <;> first | exact nope | intro hb
  refine go (cj rTI @e3) ?_
  cases b3
  rotate_left
  ·rw[if_pos rfl]
   refine ifs ?_ ?_ <;> first | exact nope | intro hb
   cases c1 <;> cases c2 <;> cases c3 <;> (simp only[decide_eq_true_eq,decide_eq_false_iff_not,beq_iff_eq,beq_eq_false_iff_ne,ne_eq] at f1 f2 f3;first | (exfalso;omega) | ((try simp only[Bool.false_and,Bool.and_false,Bool.true_and,Bool.and_true]);exact go0 rTI))
  rw[if_neg (by decide)]
  refine ifs ?_ ?_ <;> first | exact nope | intro hb
  refine go (cj rTI @e4) ?_
  cases b4
  rotate_left
  ·rw[if_pos rfl]
   refine ifs ?_ ?_ <;> first | exact nope | intro hb
   cases c4 <;> cases c5 <;> (simp only[decide_eq_true_eq,decide_eq_false_iff_not,beq_iff_eq,beq_eq_false_iff_ne,ne_eq] at f4 f5;first | (exfalso;omega) | ((try simp only[Bool.false_and,Bool.and_false,Bool.true_and,Bool.and_true]);exact go0 rTI))
  rw[if_neg (by decide)]
  refine ifs ?_ ?_ <;> first | exact nope | intro hb
  cases c8 <;> (simp only[decide_eq_true_eq,decide_eq_false_iff_not,beq_iff_eq,beq_eq_false_iff_ne,ne_eq] at f8;first | (exfalso;omega) | ((try simp only[Bool.false_and,Bool.and_false,Bool.true_and,Bool.and_true]);exact go0 rTI))
theorem TV_drop (w:List Str) (k:Nat):AV.sl (w.length-k) (((SL w).drop k).take (w.length-k))=TV (w.drop k):=by
 unfold TV SL
 rw[List.map_drop,List.length_drop,List.take_of_length_le (by simp)]
theorem counted_ax (k : Nat) (w : List Str) (h : BL w) (hl : w.length ≤ 9223372036854775807) : PCall Tryz.prog 95 [.v (.int .u8 (k : Nat)), TV w] (.v (.bool (counted k w))) := by
  refine pcall_of fun s => ?_
  have hS := shape_ax k
  have hD := TV_drop w 3
  have hW := waveW_ax (w.drop 3) (fun x hx => h x (List.mem_of_mem_drop hx)) (by rw [List.length_drop]; omega)
  rw [← hD] at hW
  clear hD
  unfold counted want
  have hw1 : (shapeK k).1 ≤ 100 := by unfold shapeK; (repeat' split) <;> decide
  unfold shapeV at hS
  generalize shapeK k = sh at *
  obtain ⟨a, b, c⟩ := sh
  unfold TV
  generalize waveWords (w.drop 3) = ww at *
  generalize SL w = c0 at *
  clear h
  generalize w.length = n at *
  clear w
  simp only at hw1 hS ⊢
  have hn : (0 : Int) ≤ (n : Int) ∧ (n : Int) ≤ 9223372036854775807 := by omega
  have q2 : ((k : Int) == 118) = decide (k = 118) := by rw [Bool.eq_iff_iff]; simp only [beq_iff_eq, decide_eq_true_eq]; omega
  have q3 : ((k : Int) == 105) = decide (k = 105) := by rw [Bool.eq_iff_iff]; simp only [beq_iff_eq, decide_eq_true_eq]; omega
  by_cases q1 : k = 120
  · subst q1
    rw [if_pos rfl]
    rcases (by omega : (3 ≤ n ∧ n ≤ 10) ∨ n < 3 ∨ (3 ≤ n ∧ 10 < n)) with f1 | f1 | f1
    all_goals
      first
        | (have g : 3 ≤ n ∧ n ≤ 10 := by omega
           rw [decide_eq_true g])
        | (have g : ¬ (3 ≤ n ∧ n ≤ 10) := by omega
           rw [decide_eq_false g])
      refine acall_of Tryz.func95 rfl rfl (by simp [Tryz.ntmps95]) ?_; rw [Tryz.ntmps95, Tryz.results95]
      refine go rTI ?_
      refine ifs ?_ ?_ <;> first | exact nope | intro hb
      exact go0 rTI
  · rw [if_neg q1]
    have q1' : ¬ (k : Int) = 120 := by omega
    by_cases q4 : k = 118 ∨ k = 105
    · rw [if_pos q4]
      have e4 : decide (k = 118) = true ∨ decide (k = 118) = false ∧ decide (k = 105) = true := by
        rcases q4 with q | q
        · exact .inl (decide_eq_true q)
        · by_cases q5 : k = 118
          · exact .inl (decide_eq_true q5)
          · exact .inr ⟨decide_eq_false q5, decide_eq_true q⟩
      generalize decide (k = 118) = b2 at *
      generalize decide (k = 105) = b3 at *
      refine acall_of Tryz.func95 rfl rfl (by simp [Tryz.ntmps95]) ?_; rw [Tryz.ntmps95, Tryz.results95]
      refine go rTI ?_
      refine ifs ?_ ?_ <;> first | exact nope | intro hb
      refine go (cj rTI @q2) ?_
      rcases e4 with e4 | ⟨e4, e5⟩
      · subst e4
        refine ifs ?_ ?_ <;> first | exact nope | intro hb
        refine go rTI ?_
        refine ifs ?_ ?_ <;> first | exact nope | intro hb
        by_cases f1 : 4 ≤ n
        · rw [decide_eq_true f1, Bool.true_and]
          refine aw_seq ?_
          refine aw_reg fun K hK => ?_; refine rn rTI ?_; refine cont_pure hW ?_; refine rn rTI ?_; refine hK _ _ ?_; clear hK K
          exact go0 rTI
        · rw [decide_eq_false f1, Bool.false_and]
          exact go0 rTI
      · subst e4 e5
        refine ifs ?_ ?_ <;> first | exact nope | intro hb
        refine go (cj rTI @q3) ?_
        refine ifs ?_ ?_ <;> first | exact nope | intro hb
        by_cases f1 : 4 ≤ n
        · rw [decide_eq_true f1, Bool.true_and]
          refine aw_seq ?_
          refine aw_reg fun K hK => ?_; refine rn rTI ?_; refine cont_pure hW ?_; refine rn rTI ?_; refine hK _ _ ?_; clear hK K
          exact go0 rTI
        · rw [decide_eq_false f1, Bool.false_and]
          exact go0 rTI
    · rw [if_neg q4]
      rw [decide_eq_false (fun x => q4 (.inl x))] at q2
      rw [decide_eq_false (fun x => q4 (.inr x))] at q3
      have hc : decide (n = 1 + a + (if b then 1 else 0) + if c then 1 else 0) = ((n : Int) == 1 + (a : Int) + (if b then 1 else 0) + if c then 1 else 0) := by
        rw [Bool.eq_iff_iff]
        simp only [beq_iff_eq, decide_eq_true_eq]
        cases b <;> cases c <;> simp <;> omega
      rw [hc]
      clear hc q4
      have hw2 : (0 : Int) ≤ (a : Int) ∧ (a : Int) ≤ 100 := by omega
      generalize (a : Int) = a at *
      refine acall_of Tryz.func95 rfl rfl (by simp [Tryz.ntmps95]) ?_; rw [Tryz.ntmps95, Tryz.results95]
      refine go rTI ?_
      refine ifs ?_ ?_ <;> first | exact nope | intro hb
      refine go (cj rTI @q2) ?_
      refine ifs ?_ ?_ <;> first | exact nope | intro hb
      refine go (cj rTI @q3) ?_
      refine ifs ?_ ?_ <;> first | exact nope | intro hb
      refine go rTI ?_
      refine aw_reg fun K hK => ?_; refine rn rTI ?_; refine cont_pure hS ?_; refine rn rTI ?_; refine hK _ _ ?_; clear hK K
      cases b <;> cases c
      all_goals
        refine go rTI ?_
        refine ifs ?_ ?_ <;> first | exact nope | intro hb
        refine go rTI ?_
        refine ifs ?_ ?_ <;> first | exact nope | intro hb
        (first | refine go rTI ?_ | exact go0 rTI)
        try simp only [Bool.false_eq_true, if_false, if_true, Int.add_zero]
end CardC
namespace CardP
open NumS RefM CardS NumH
theorem text_read (n:Num) (h:valid n=true):numV (textN n)=n∧∀ e,numE (textN n) e=e:=by
 have hp:=parse_text n.1 n.2 ((ok_valid n.1 n.2).1 h)
 unfold textN numV numE
 rw[if_pos h,hp]
 refine⟨rfl,fun e=>?_⟩
 split
 ·rename_i h;rw[h]
 ·rfl
theorem num_valid (w:Str) (h:numE w 0=0):valid (numV w)=true:=by
 unfold numE at h
 rw[if_pos rfl] at h
 rcases parse_right w with ⟨_,h2⟩ | h2 | h2
 ·exact(ok_valid _ _).2 h2
 ·rw[h2] at h;cases h
 ·rw[h2] at h;cases h
theorem numE_le (w:Str) (e:Int) (h:numE w e=0):e=0:=by
 unfold numE at h
 split at h
 ·assumption
 ·exact h
theorem stepE_le (w:Str) (e:Int) (h:stepE w e=0):e=0:=by
 unfold stepE at h
 split at h
 ·assumption
 ·exact h
theorem dec_step (s:Int) (h0:0≤s) (h1:s≤1000000000):stepS (decS s)=some s:=by
 obtain⟨n,rfl⟩:=Int.eq_ofNat_of_zero_le h0
 have e:decS (n:Int)=decP n:=by
  unfold decS decP
  by_cases hn:n=0
  ·subst hn;rfl
  ·rw[if_neg (by omega),if_neg (by omega),if_neg hn]
   rfl
 obtain⟨_,_,h2,_⟩:=decP_spec n (by omega)
 unfold stepS
 rw[e,h2,if_pos ⟨rfl,by omega⟩]
theorem step_le (w:Str) (s:Int) (h:stepS w=some s):0≤s∧s≤1000000000∧decS s=w:=by
 unfold stepS at h
 split at h
 ·rename_i hh
  injection h with h
  subst h
  refine⟨by omega,by omega,?_⟩
  have e:decS (digV w:Int)=decP (digV w):=by
   unfold decS decP
   by_cases hn:digV w=0
   ·rw[hn];rfl
   ·rw[if_neg (by omega),if_neg (by omega),if_neg hn]
    rfl
  rw[e,hh.1]
 ·cases h
theorem nums_text:∀ (l:List Num) (e:Int),l.all valid=true→numsE (l.map textN) e=e∧(l.map textN).map numV=l
 | [],_,_=>⟨rfl,rfl⟩
 | n::r,e,h=>by
  rw[List.all_cons,Bool.and_eq_true] at h
  obtain⟨h1,h2⟩:=text_read n h.1
  obtain⟨h3,h4⟩:=nums_text r e h.2
  refine⟨?_,by rw[List.map_cons,List.map_cons,h1,h4]⟩
  show numsE (r.map textN) (numE (textN n) e)=e
  rw[h2,h3]
def okStep (s:Int):Bool:=decide (0≤s∧s≤1000000000)
theorem stepE_dec (s e:Int) (h:okStep s=true):stepE (decS s) e=e∧stepV (decS s)=s:=by
 unfold okStep at h
 rw[decide_eq_true_iff] at h
 unfold stepE stepV
 rw[dec_step s h.1 h.2]
 refine⟨?_,rfl⟩
 split
 ·rename_i h;rw[h];rfl
 ·rfl
theorem steps_text:∀ (l:List Int) (e:Int),l.all okStep=true→stepsE (l.map decS) e=e∧(l.map decS).map stepV=l
 | [],e,h=>⟨rfl,rfl⟩
 | n::r,e,h=>by
  rw[List.all_cons,Bool.and_eq_true] at h
  obtain⟨h1,h2⟩:=stepE_dec n e h.1
  obtain⟨h3,h4⟩:=steps_text r e h.2
  refine⟨?_,by rw[List.map_cons,List.map_cons,h2,h4]⟩
  show stepsE (r.map decS) (stepE (decS n) e)=e
  rw[h1,h3]
theorem zip_text:∀ (ss:List Int) (vs:List Num) (e:Int),ss.length=vs.length→ss.all okStep=true→vs.all valid=true →
  pairsE (zipW ss vs) e=e∧(odds (zipW ss vs)).map numV=vs∧(evens (zipW ss vs)).map stepV=ss∧(zipW ss vs).length=2*ss.length
 | [],[],e,_,_,_=>⟨rfl,rfl,rfl,rfl⟩
 | s::ss,v::vs,e,hl,hs,hv=>by
  rw[List.all_cons,Bool.and_eq_true] at hs hv
  obtain⟨h1,h2⟩:=stepE_dec s e hs.1
  obtain⟨h3,h4⟩:=text_read v hv.1
  obtain⟨q1,q2,q3,q4⟩:=zip_text ss vs e (by simpa using hl) hs.2 hv.2
  refine⟨?_,?_,?_,?_⟩
  ·show pairsE (zipW ss vs) (numE (textN v) (stepE (decS s) e))=e
   rw[h1,h4,q1]
  ·show numV (textN v)::(odds (zipW ss vs)).map numV=_
   rw[h3,q2]
  ·show stepV (decS s)::(evens (zipW ss vs)).map stepV=_
   rw[h2,q3]
  ·show (zipW ss vs).length+1+1=_
   rw[q4,List.length_cons]
   omega
 | [],_::_,_,h,_,_=>by simp at h
 | _::_,[],_,h,_,_=>by simp at h
theorem wave_back (w:Wv) (h:waveOk w=true) (e:Int):waveR (waveT w) e=(w,e)∧waveWords (waveT w)=true:=by
 obtain⟨k,vs,ss⟩:=w
 unfold waveOk at h
 simp only[Bool.and_eq_true] at h
 obtain⟨⟨h1,h2⟩,h3⟩:=h
 have h2':ss.all okStep=true:=h2
 by_cases k1:k=1
 ·subst k1
  simp only[if_true,decide_eq_true_eq] at h3
  obtain⟨l1,l2⟩:=h3
  match vs,ss,l1,l2 with
  | [v],[],_,_=>
   rw[List.all_cons,Bool.and_eq_true] at h1
   obtain⟨q1,q2⟩:=text_read v h1.1
   have e1:waveT ⟨1,[v],[]⟩=[sDc,textN v]:=rfl
   rw[e1]
   refine⟨?_,rfl⟩
   show ((⟨1,[numV (textN v)],[]⟩:Wv),numE (textN v) e)=_
   rw[q1,q2]
 ·by_cases k2:k=2
  ·subst k2
   simp only[show (2:Int)=1↔False by decide,if_false,if_true,decide_eq_true_eq] at h3
   obtain⟨l1,l2,_⟩:=h3
   match vs,l1 with
   | [a,b],_=>
    obtain⟨q1,q2⟩:=nums_text [a,b] e h1
    obtain⟨q3,q4⟩:=steps_text ss e h2'
    have e1:waveT ⟨2,[a,b],ss⟩=sPulse::([textN a,textN b]++ss.map decS):=rfl
    rw[e1]
    refine⟨?_,?_⟩
    ·show ((⟨2,([textN a,textN b]).map numV,(ss.map decS).map stepV⟩:Wv),stepsE (ss.map decS) (numsE ([a,b].map textN) e))=_
     rw[q1,q3,q4,show ([textN a,textN b]).map numV=[a,b] from q2]
    ·show decide (([textN a,textN b]++ss.map decS).length=7)=true
     simp [l2]
  ·by_cases k3:k=3
   ·subst k3
    simp only[show (3:Int)=1↔False by decide,show (3:Int)=2↔False by decide,if_false,if_true,Bool.and_eq_true,decide_eq_true_eq] at h3
    obtain⟨_,l1,l2,l3⟩:=h3
    obtain⟨q1,q2,q3,q4⟩:=zip_text ss vs e l1.symm h2' h1
    have e1:waveT ⟨3,vs,ss⟩=sPwl::zipW ss vs:=rfl
    rw[e1]
    refine⟨?_,?_⟩
    ·show ((⟨3,(odds (zipW ss vs)).map numV,(evens (zipW ss vs)).map stepV⟩:Wv),pairsE (zipW ss vs) e)=_
     rw[q1,q2,q3]
    ·show decide (2≤(zipW ss vs).length∧(zipW ss vs).length % 2=0∧(zipW ss vs).length≤32)=true
     rw[q4,decide_eq_true_eq]
     omega
   ·by_cases k4:k=4
    ·subst k4
     simp only[show (4:Int)=1↔False by decide,show (4:Int)=2↔False by decide,show (4:Int)=3↔False by decide,if_false,if_true,decide_eq_true_eq] at h3
     obtain⟨l1,l2,l3⟩:=h3
     obtain rfl:=List.eq_nil_of_length_eq_zero l3
     obtain⟨q1,q2⟩:=nums_text vs e h1
     have e1:waveT ⟨4,vs,[]⟩=sTable::vs.map textN:=by simp [waveT]
     rw[e1]
     refine⟨?_,?_⟩
     ·show ((⟨4,(vs.map textN).map numV,[]⟩:Wv),numsE (vs.map textN) e)=_
      rw[q1,q2]
     ·show decide (1≤(vs.map textN).length∧(vs.map textN).length≤16)=true
      simp [l1,l2]
    ·rw[if_neg k1,if_neg k2,if_neg k3,if_neg k4] at h3
     cases h3
theorem shape_le (k:Nat):(shapeK k).1≤4:=by
 unfold shapeK
 (repeat' split) <;> decide
theorem read_eq (w0:Str) (ws:List Str):readC (w0::ws)=readB w0 ws (w0.getD 0 0) (formOf (w0.getD 0 0) (ws.length+1)):=rfl
theorem readB_ok (w0:Str) (ws:List Str) (k:Nat) (f:Nat × Bool × Bool) (c:Crd):readB w0 ws k f=(c,0) ↔
  isDev w0=true∧counted k (w0::ws)=true∧(ws.take f.1).all isName=true∧badRef k f ws=false∧errC k f ws=0∧¬((valC f ws).1=0∧zeroK k=true)∧(srcC k=true→waveOk (wvC k f ws)=true) ∧
  c=⟨w0,ws.take f.1,refC f ws,valC f ws,wvC k f ws⟩:=by
 unfold readB
 constructor
 ·intro h
  by_cases h1:(isDev w0&&counted k (w0::ws))=true
  ·rw[if_pos h1] at h
   rw[Bool.and_eq_true] at h1
   by_cases h2:(ws.take f.1).all isName=true
   ·rw[if_pos h2] at h
    by_cases h3:badRef k f ws=true
    ·rw[if_pos h3] at h
     exact absurd (congrArg Prod.snd h) (show ¬(71:Int)=0 by decide)
    ·rw[if_neg h3] at h
     by_cases h4:errC k f ws≠0
     ·rw[if_pos h4] at h
      exact absurd (congrArg Prod.snd h) h4
     ·rw[if_neg h4] at h
      by_cases h5:(valC f ws).1=0∧zeroK k=true
      ·rw[if_pos h5] at h
       exact absurd (congrArg Prod.snd h) (show ¬(11:Int)=0 by decide)
      ·rw[if_neg h5] at h
       by_cases h6:srcC k=true∧waveOk (wvC k f ws)=false
       ·rw[if_pos h6] at h
        exact absurd (congrArg Prod.snd h) (show ¬(40:Int)=0 by decide)
       ·rw[if_neg h6] at h
        exact⟨h1.1,h1.2,h2,by simpa using h3,by simpa using h4,h5,fun q=>by
         cases hw:waveOk (wvC k f ws)
         ·exact absurd ⟨q,hw⟩ h6
         ·rfl,(congrArg Prod.fst h).symm⟩
   ·rw[if_neg h2] at h
    exact absurd (congrArg Prod.snd h) (show ¬(71:Int)=0 by decide)
  ·rw[if_neg h1] at h
   exact absurd (congrArg Prod.snd h) (show ¬(70:Int)=0 by decide)
 ·rintro ⟨h1,h2,h3,h4,h5,h6,h7,rfl⟩
  rw[if_pos (by rw[h1,h2];rfl),if_pos h3,if_neg (by rw[h4];decide),if_neg (by simpa using h5),if_neg h6,if_neg fun q=>by
   have:=h7 q.1
   rw[q.2] at this
   cases this]
theorem src_not (k:Nat) (h:srcC k=true):shapeK k=(2,false,false)∧k≠120∧zeroK k=false:=by
 unfold srcC at h
 rw[decide_eq_true_iff] at h
 rcases h with rfl | rfl <;> refine⟨rfl,by decide,rfl⟩
theorem x_form (n:Nat):formOf 120 n=(n-2,true,false):=rfl
theorem form_ne (k n:Nat) (h:k≠120):formOf k n=shapeK k:=if_neg h
theorem read_right (w0:Str) (ws:List Str) (c:Crd) (h:readC (w0::ws)=(c,0)):rightC c=true∧c.name=w0:=by
 rw[read_eq,readB_ok] at h
 obtain⟨h1,h2,h3,h4,h5,h6,h7,rfl⟩:=h
 refine⟨?_,rfl⟩
 unfold rightC
 rw[h1,Bool.true_and]
 simp only
 generalize hk:w0.getD 0 0=k at *
 have hnl:(ws.take (formOf k (ws.length+1)).1).length=(formOf k (ws.length+1)).1∧(k=120→1≤(formOf k (ws.length+1)).1∧(formOf k (ws.length+1)).1≤8):=by
  rw[List.length_take]
  unfold counted at h2
  by_cases kx:k=120
  ·subst kx
   rw[if_pos rfl,decide_eq_true_iff,List.length_cons] at h2
   rw[x_form]
   simp only
   omega
  ·rw[if_neg kx] at h2
   rw[form_ne _ _ kx]
   refine⟨?_,fun q=>absurd q kx⟩
   by_cases ks:k=118∨k=105
   ·rw[if_pos ks,Bool.and_eq_true,decide_eq_true_iff,List.length_cons] at h2
    rw[(src_not k (by unfold srcC;rw[decide_eq_true_iff];exact ks)).1]
    have:=h2.1
    simp only
    omega
   ·rw[if_neg ks,decide_eq_true_iff,List.length_cons] at h2
    unfold want at h2
    omega
 have hf:(if k=120 then ((ws.take (formOf k (ws.length+1)).1).length,true,false) else shapeK k)=formOf k (ws.length+1):=by
  by_cases kx:k=120
  ·rw[if_pos kx,hnl.1]
   subst kx
   rfl
  ·rw[if_neg kx,form_ne _ _ kx]
 rw[hf]
 have hsf:srcC k=true→(formOf k (ws.length+1)).2.1=false∧(formOf k (ws.length+1)).2.2=false:=fun q=>by
  obtain⟨q1,q2,_⟩:=src_not k q
  rw[form_ne _ _ q2,q1]
  exact⟨rfl,rfl⟩
 have hfh:k=102∨k=104→(formOf k (ws.length+1)).2.1=true:=fun q=>by
  rcases q with rfl | rfl <;> rfl
 have hz:zeroK k=true→(formOf k (ws.length+1)).2.2=true:=fun q=>by
  unfold zeroK at q
  rw[decide_eq_true_iff] at q
  rcases q with rfl | rfl | rfl <;> rfl
 obtain⟨hn1,hn2⟩:=hnl
 generalize formOf k (ws.length+1)=f at *
 unfold rightF
 simp only[Bool.and_eq_true]
 refine⟨⟨⟨⟨⟨⟨⟨?_,?_⟩,?_⟩,?_⟩,h3⟩,?_⟩,?_⟩,?_⟩
 ·cases hzk:zeroK k
  ·rfl
  ·simp only[Bool.not_true,Bool.false_or,decide_eq_true_eq]
   exact fun q=>h6 ⟨q,hzk⟩
 ·by_cases q:k=102∨k=104
  ·have hr:=hfh q
   unfold badRef at h4
   rw[hr,decide_eq_true q] at h4
   simp only[Bool.true_and,Bool.or_eq_false_iff,decide_eq_false_iff_not,Decidable.not_not] at h4
   rw[decide_eq_true q,decide_eq_true h4.2]
   rfl
  ·rw[decide_eq_false q]
   rfl
 ·by_cases q:k=120
  ·have:=hn2 q
   rw[decide_eq_true q,decide_eq_true (by rw[hn1];exact this)]
   rfl
  ·rw[decide_eq_false q]
   rfl
 ·rw[decide_eq_true_iff];exact hn1
 ·cases hr:f.2.1
  ·simp only[Bool.false_eq_true,if_false,decide_eq_true_eq]
   unfold refC
   rw[hr]
   rfl
  ·simp only[if_true]
   unfold badRef at h4
   rw[hr] at h4
   simp only[Bool.true_and,Bool.or_eq_false_iff,Bool.not_eq_false'] at h4
   exact h4.1
 ·cases hv:f.2.2
  ·simp only[Bool.false_eq_true,if_false,decide_eq_true_eq]
   unfold valC
   rw[hv]
   rfl
  ·simp only[if_true]
   have hns:srcC k=false:=by
    cases hs:srcC k
    ·rfl
    ·have:=(hsf hs).2
     rw[hv] at this
     cases this
   unfold errC at h5
   rw[hns] at h5
   simp only[Bool.false_eq_true,if_false] at h5
   unfold errV at h5
   rw[hv] at h5
   unfold valC
   rw[hv]
   exact num_valid _ h5
 ·cases hs:srcC k
  ·simp only[Bool.false_eq_true,if_false,decide_eq_true_eq]
   unfold wvC
   rw[hs]
   exact⟨rfl,rfl,rfl⟩
  ·simp only[if_true]
   exact h7 hs
theorem words_f (c:Crd) (k:Nat) (hk:c.name.getD 0 0=k) (f:Nat × Bool × Bool) (hf:f=if k=120 then (c.nodes.length,true,false) else shapeK k) :
  wordsC c=c.name::(c.nodes++((if f.2.1=true then [c.ref] else [])++((if f.2.2=true then [textN c.value] else [])++(if srcC k=true then waveT c.wave else [])))):=by
 unfold wordsC
 simp only[hk]
 by_cases kx:k=120
 ·subst kx
  rw[hf]
  simp [srcC]
 ·rw[hf,if_neg kx]
  simp only[kx,or_false,ne_eq,not_false_eq_true,and_true,List.append_assoc,List.cons_append]
  unfold srcC
  simp only[decide_eq_true_eq]
theorem waveT_ne (w:Wv) (h:waveWords (waveT w)=true):1≤(waveT w).length:=by
 cases hw:waveT w with
 | nil=>rw[hw] at h;cases h
 | cons a l=>simp
theorem right_read (c:Crd) (h:rightC c=true):readC (wordsC c)=(c,0):=by
 unfold rightC at h
 rw[Bool.and_eq_true] at h
 obtain⟨hd,h⟩:=h
 generalize hk:c.name.getD 0 0=k at *
 generalize hf:(if k=120 then (c.nodes.length,true,false) else shapeK k)=f at *
 have hw:=words_f c k hk f hf.symm
 unfold rightF at h
 simp only[Bool.and_eq_true] at h
 obtain⟨⟨⟨⟨⟨⟨⟨h1,h2⟩,h3⟩,h4⟩,h5⟩,h6⟩,h7⟩,h8⟩:=h
 rw[decide_eq_true_iff] at h4
 have hsrc:srcC k=true→f=(2,false,false):=fun q=>by
  obtain⟨q1,q2,_⟩:=src_not k q
  rw[←hf,if_neg q2,q1]
 have hwv:srcC k=true→waveOk c.wave=true:=fun q=>by rw[if_pos q] at h8;exact h8
 generalize hR:(if f.2.1=true then [c.ref] else [])++((if f.2.2=true then [textN c.value] else [])++(if srcC k=true then waveT c.wave else []))=R at hw
 have hlen:R.length=(if f.2.1=true then 1 else 0)+(if f.2.2=true then 1 else 0)+(if srcC k=true then (waveT c.wave).length else 0):=by
  rw[←hR,List.length_append,List.length_append]
  cases f.2.1 <;> cases f.2.2 <;> cases srcC k <;> simp <;> omega
 have hform:formOf k ((c.nodes++R).length+1)=f:=by
  by_cases kx:k=120
  ·have:f=(c.nodes.length,true,false):=by rw[←hf,if_pos kx]
   subst kx
   rw[x_form,this]
   rw[this] at hlen
   rw[List.length_append,hlen]
   simp [srcC]
  ·rw[form_ne _ _ kx,←hf,if_neg kx]
 rw[hw,read_eq,hk,hform,readB_ok]
 have htake:(c.nodes++R).take f.1=c.nodes:=by rw[←h4,List.take_left'];rfl
 have hdrop:(c.nodes++R).drop f.1=R:=by rw[←h4,List.drop_left'];rfl
 have href:refC f (c.nodes++R)=c.ref:=by
  unfold refC
  rw[hdrop,←hR]
  cases hr:f.2.1
  ·rw[hr] at h6
   simp only[Bool.false_eq_true,if_false,decide_eq_true_eq] at h6
   rw[h6]
   rfl
  ·simp
 have hrest:restC f (c.nodes++R)=(if f.2.2=true then [textN c.value] else [])++(if srcC k=true then waveT c.wave else []):=by
  unfold restC
  rw[hdrop,←hR]
  cases f.2.1 <;> simp
 have hval:valC f (c.nodes++R)=c.value∧errV f (c.nodes++R)=0:=by
  unfold valC errV
  rw[hrest]
  cases hv:f.2.2
  ·rw[hv] at h7
   simp only[Bool.false_eq_true,if_false,decide_eq_true_eq] at h7
   exact⟨h7.symm,rfl⟩
  ·rw[hv,if_pos rfl] at h7
   obtain⟨q1,q2⟩:=text_read c.value h7
   simp [q1,q2]
 have hwave:wvC k f (c.nodes++R)=c.wave∧errC k f (c.nodes++R)=0:=by
  unfold wvC errC
  rw[hval.2,hrest]
  cases hs:srcC k
  ·rw[hs] at h8
   simp only[Bool.false_eq_true,if_false,decide_eq_true_eq] at h8
   obtain⟨a1,a2,a3⟩:=h8
   refine⟨?_,rfl⟩
   obtain⟨n,ns,r,v,⟨wk,wvs,ws⟩⟩:=c
   simp only at a1 a2 a3
   subst a1 a2 a3
   rfl
  ·rw[hsrc hs]
   obtain⟨q1,_⟩:=wave_back c.wave (hwv hs) 0
   simp [q1]
 refine⟨hd,?_,by rw[htake];exact h5,?_,hwave.2,?_,fun q=>by rw[hwave.1];exact hwv q,?_⟩
 ·unfold counted
  by_cases kx:k=120
  ·subst kx
   have:f=(c.nodes.length,true,false):=by rw[←hf,if_pos rfl]
   rw[this] at hlen
   simp only[if_true,Bool.false_eq_true,if_false,srcC] at hlen
   rw[if_pos rfl,decide_eq_true_iff,List.length_cons,List.length_append]
   simp at h3 hlen
   omega
  ·rw[if_neg kx]
   by_cases ks:k=118∨k=105
   ·have hs:srcC k=true:=by unfold srcC;rw[decide_eq_true_iff];exact ks
    obtain⟨_,q2⟩:=wave_back c.wave (hwv hs) 0
    have hf2:=hsrc hs
    rw[hf2] at h4 hlen hR
    rw[hs] at hlen hR
    simp only[Bool.false_eq_true,if_false,if_true,List.nil_append] at hR hlen h4
    rw[if_pos ks]
    have e3:(c.name::(c.nodes++R)).drop 3=waveT c.wave:=by
     rw[List.drop_succ_cons,←h4,List.drop_left',hR]
     rfl
    rw[e3,q2,Bool.and_true,decide_eq_true_iff,List.length_cons,List.length_append]
    have:=waveT_ne _ q2
    omega
   ·rw[if_neg ks,decide_eq_true_iff,List.length_cons,List.length_append,hlen]
    have hs:srcC k=false:=by unfold srcC;rw[decide_eq_false_iff_not];exact ks
    have hf2:f=shapeK k:=by rw[←hf,if_neg kx]
    rw[hs]
    unfold want
    rw[←hf2,h4]
    simp only[Bool.false_eq_true,if_false]
    omega
 ·unfold badRef
  rw[href]
  cases hr:f.2.1
  ·rfl
  ·rw[hr,if_pos rfl] at h6
   rw[h6]
   cases hq:decide (k=102∨k=104)
   ·rfl
   ·rw[hq] at h2
    simp only[Bool.not_true,Bool.false_or,decide_eq_true_eq] at h2
    rw[h2]
    rfl
 ·rintro ⟨q1,q2⟩
  rw[hval.1] at q1
  rw[q2] at h1
  simp [q1] at h1
 ·rw[htake,href,hval.1,hwave.1]
theorem nodes_le (c:Crd) (h:rightC c=true):isDev c.name=true∧c.nodes.length≤8∧c.wave.vals.length≤16∧c.wave.steps.length≤16:=by
 unfold rightC rightF at h
 simp only[Bool.and_eq_true] at h
 obtain⟨hd,⟨⟨⟨⟨⟨⟨h1,h2⟩,h3⟩,h4⟩,h5⟩,h6⟩,h7⟩,h8⟩:=h
 refine⟨hd,?_,?_⟩
 ·rw[decide_eq_true_iff] at h4
  by_cases kx:c.name.getD 0 0=120
  ·rw[decide_eq_true kx] at h3
   simp only[Bool.not_true,Bool.false_or,decide_eq_true_eq] at h3
   exact h3.2
  ·rw[if_neg kx] at h4
   have:=shape_le (c.name.getD 0 0)
   omega
 ·cases hs:srcC (c.name.getD 0 0)
  ·rw[hs] at h8
   simp only[Bool.false_eq_true,if_false,decide_eq_true_eq] at h8
   rw[h8.2.1,h8.2.2]
   simp
  ·rw[hs,if_pos rfl] at h8
   unfold waveOk at h8
   simp only[Bool.and_eq_true] at h8
   obtain⟨_,h8⟩:=h8
   by_cases k1:c.wave.kind=1
   ·rw[if_pos k1,decide_eq_true_iff] at h8
    omega
   ·rw[if_neg k1] at h8
    by_cases k2:c.wave.kind=2
    ·rw[if_pos k2,decide_eq_true_iff] at h8
     omega
    ·rw[if_neg k2] at h8
     by_cases k3:c.wave.kind=3
     ·rw[if_pos k3,Bool.and_eq_true,decide_eq_true_iff] at h8
      omega
     ·rw[if_neg k3] at h8
      by_cases k4:c.wave.kind=4
      ·rw[if_pos k4,decide_eq_true_iff] at h8
       omega
      ·rw[if_neg k4] at h8
       cases h8
theorem write_right (c:Crd):writeC c=if rightC c=true then (wordsC c,0) else ([],70):=by
 unfold writeC
 by_cases h:rightC c=true
 ·rw[if_pos h,if_pos (nodes_le c h)]
  simp only[right_read c h]
  rw[if_pos ⟨trivial,trivial,trivial,trivial,by unfold sameW;simp⟩]
 ·rw[if_neg h]
  split
  ·simp only
   rw[if_neg]
   rintro ⟨a1,a2,a3,a4,a5⟩
   apply h
   obtain⟨d,hd⟩:∃ d,readC (wordsC c)=(d,0):=⟨_,Prod.ext rfl a1⟩
   rw[hd] at a2 a3 a4 a5
   obtain⟨ws,hw⟩:∃ ws,wordsC c=c.name::ws:=⟨_,rfl⟩
   rw[hw] at hd
   obtain⟨b1,b2⟩:=read_right c.name ws d hd
   have:d=c:=by
    obtain⟨dn,dns,dr,dv,⟨dk,dvs,dss⟩⟩:=d
    obtain⟨cn,cns,cr,cv,⟨ck,cvs,css⟩⟩:=c
    unfold sameW at a5
    simp only[decide_eq_true_eq] at a5
    simp only at a2 a3 a4 b2
    obtain⟨q1,q2,q3⟩:=a5
    subst a2 a3 a4 b2 q1 q2 q3
    rfl
   rw[←this]
   exact b1
  ·rfl
end CardP
namespace CardD
open Go Go.RowKit Ax Ti NumS NumT CardS CardP CardA CardB CardC
theorem rTI:type_of% (J11 @ti3 @ti4 @ti9 @ti5 @ti43 @Nat.zero_add @tz0 @tz1 @tz3 @Nat.mul_one @Int.toNat_natCast):=cj @ti3 (J10 @ti4 @ti9 @ti5 @ti43 @Nat.zero_add @tz0 @tz1 @tz3 @Nat.mul_one @Int.toNat_natCast)
theorem acall_any {f:FuncId} {us:List Value} {s:St} {R:AV→Prop} (hen:Enters Tryz.prog f)
  (h:∀ w,Tabs w.cell?→TabSize w→Calls Tryz.prog f us.toArray w fun en w'=>∃ v r,en=.returned v∧Below w.heap.size w w'∧R r∧∀ k,Rel k r v):ACall Tryz.prog f (us.map .v) s fun r s'=>R r∧s'=s:=by
 refine⟨hen,fun w0 k w vs hs hv=>?_⟩
 have:vs=us:=by
  apply List.ext_getElem
  ·simpa using hv.1
  ·intro j h1 h2
   have:=hv.2 j (.v us[j]) vs[j] (by simp [h2]) (by simp [h1])
   exact this.v_eq
 subst this
 refine (h w (k.tab.mono hs.fz) (hs.shp.tz hs.tz)).mono ?_
 rintro en w' ⟨v,r,rfl,hb,hR,hr⟩
 exact⟨v,r,s,k,rfl,⟨hR,rfl⟩,hs.below hb,hr k,KW.le_refl (by rw[hs.m];exact Nat.le_refl _)⟩
theorem tup2 (a b:Value) (k:KW):Rel k (.tp [.v a,.v b]) (.tuple #[a,b]):=.tp _ [_,_] rfl fun j z u hz hu=>by
 match j with
 | 0=>simp at hz hu;subst hz hu;exact .v _
 | 1=>simp at hz hu;subst hz hu;exact .v _
 | j+2=>simp at hz
theorem itoa_ax (z:Int) (h0 : -9223372036854775808≤z) (h1:z≤9223372036854775807):PCall Tryz.prog 62 [.v (.int .i64 z)] (SV (decS z)):=by
 refine pcall_lift_tab (us:=[.int .i64 z]) (enters_of Tryz.func62 rfl rfl) (fun k=>.v _) fun w ht hz=>?_
 refine (Tryz.strconv_Itoa z h0 h1 w (NumLaid.tabIs ht hz)).mono ?_
 rintro en w' ⟨rfl,k,os,rfl⟩
 rw[NumG.itoa_eq]
 exact⟨rfl,⟨rfl,rfl,rfl,by simp [Sort.grow,World.drewN],fun i hi=>by simp [Sort.grow,World.drewN,Array.getElem?_append,hi]⟩⟩
def AtoiR (w:Str) (r:AV):Prop:=∃ (z:Int) (e:Value),r=.tp [.v (.int .i64 z),.v e] ∧ -9223372036854775808≤z∧z≤9223372036854775807∧((e=.nilIface∧(∀ n,stepS w=some n→z=n))∨((∃ t p,e=.iface t p)∧stepS w=none))
theorem atoi_step (w:Str) (n:Int) (h:stepS w=some n):(∀ c∈w,isD c=true)∧w≠[]∧w.length≤18∧digV w=n.toNat∧0≤n:=by
 unfold stepS at h
 split at h
 ·rename_i hc
  injection h with h
  obtain⟨h1,h2,h3,h4⟩:=decP_spec (digV w) (by omega)
  rw[hc.1] at h1 h2 h4
  exact⟨h1,h2,by omega,by omega,by omega⟩
 ·cases h
theorem atoi_any (w:Str) (hl:w.length≤281474976710656) (s:St):ACall Tryz.prog 151 [SV w] s fun r s'=>AtoiR w r∧s'=s:=by
 cases hs:stepS w with
 | some n=>
  obtain⟨h1,h2,h3,h4,h5⟩:=atoi_step w n hs
  refine ((NumL.atoi_ax w h1 h2 h3) s).mono ?_
  rintro r s' ⟨rfl,rfl⟩
  have hb:n≤1000000000:=(step_le w n hs).2.1
  refine⟨⟨(digV w:Nat),.nilIface,rfl,by omega,by omega,.inl ⟨rfl,fun m hm=>?_⟩⟩,rfl⟩
  rw[hs] at hm
  injection hm with hm
  omega
 | none=>
  refine acall_any (us:=[.string (bs w)]) (enters_of Tryz.func151 rfl rfl) fun W ht hz=>?_
  have hsz:(bs w).size≤281474976710656:=by rw[bs_size];exact hl
  obtain⟨_,⟨t2,p2,c2⟩,⟨t3,p3,c3⟩,_⟩:=ht
  rcases ha:Lib.atoiAll (bs w).data.toList with v | _ | _
  ·have hb:=Lib.atoiAll_bounds ha
   refine (Tryz.strconv_Atoi_ok (bs w) (by omega) v ha W).mono ?_
   rintro en w' ⟨rfl,q⟩
   refine⟨_,_,rfl,?_,⟨v,.nilIface,rfl,hb.1,hb.2,.inl ⟨rfl,fun n hn=>by rw[hs] at hn;cases hn⟩⟩,tup2 _ _⟩
   rcases q with rfl | ⟨t,rfl⟩
   ·exact Below.refl _ _
   ·exact Lib.bytesWorld_below _ _ _
  ·refine (Tryz.strconv_Atoi_syntax (bs w) hsz ⟨fun q=>(by rw[ha] at q;cases q),fun v q=>(by rw[ha] at q;cases q)⟩ _ W c2 (.inr ⟨_,_,rfl⟩)).mono ?_
   rintro en w' ⟨N,rfl,_,_,hb⟩
   exact⟨_,_,rfl,hb,⟨0,_,rfl,by decide,by decide,.inr ⟨⟨_,_,rfl⟩,hs⟩⟩,tup2 _ _⟩
  ·have hb:=Lib.atoiSat_bounds (bs w).data.toList
   refine (Tryz.strconv_Atoi_range (bs w) hsz ha _ W c3 (.inr ⟨_,_,rfl⟩)).mono ?_
   rintro en w' ⟨N,rfl,_,_,hb'⟩
   exact⟨_,_,rfl,hb',⟨_,_,rfl,hb.1,hb.2,.inr ⟨⟨_,_,rfl⟩,hs⟩⟩,tup2 _ _⟩
end CardD
namespace CardE
open Go Go.RowKit Ax Ti NumS NumT CardS CardP CardA CardB CardC CardD
theorem rTI:type_of% (J14 @ti3 @ti4 @ti9 @ti5 @ti43 @ti45 @ti44 @ti23 @Nat.zero_add @tz0 @tz1 @tz3 @Nat.mul_one @Int.toNat_natCast):=cj @ti3 (J13 @ti4 @ti9 @ti5 @ti43 @ti45 @ti44 @ti23 @Nat.zero_add @tz0 @tz1 @tz3 @Nat.mul_one @Int.toNat_natCast)
def iv (z:Int):AV:=.v (.int .i64 z)
def IL (l:List Int):List AV:=l.map iv
def NC (l:List Num):List AV:=l.flatMap fun n=>[iv n.1,iv n.2]
def IV (l:List Int):AV:=.sl l.length (IL l)
def NV (l:List Num):AV:=.sl l.length (NC l)
theorem nc_len (l:List Num):(NC l).length=l.length*2:=by
 induction l with
 | nil=>rfl
 | cons a l ih=>simp [NC,List.flatMap_cons] at ih ⊢;omega
theorem nc_at:∀ (l:List Num) (k:Nat),k<l.length→((NC l).drop (k*2)).take 2=[iv (l.getD k (0,0)).1,iv (l.getD k (0,0)).2]
 | [],k,h=>absurd h (Nat.not_lt_zero _)
 | a::l,0,h=>rfl
 | a::l,k+1,h=>by
  have:=nc_at l k (Nat.lt_of_succ_lt_succ h)
  rw[List.getD_cons_succ,←this]
  show ((iv a.1::iv a.2::NC l).drop ((k+1)*2)).take 2=_
  rw[show (k+1)*2=k*2+1+1 by omega]
  rfl
theorem hd_IL (l:List Int) (k:Nat) (h:k<l.length):((IL l).drop k).head?=some (iv (l.getD k 0)):=by
 rw[List.head?_drop]
 simp [IL,List.getElem?_eq_getElem h,List.getD]
theorem take_eq {α:Type} {a b:List α} {d:α} {k:Nat} (hl:a.length=b.length) (hk:k<a.length) (h:a.take k=b.take k) (e:a.getD k d=b.getD k d):a.take (k+1)=b.take (k+1):=by
 rw[List.getD_eq_getElem?_getD,List.getD_eq_getElem?_getD,List.getElem?_eq_getElem hk,List.getElem?_eq_getElem (hl ▸ hk)] at e
 rw[List.take_succ_eq_append_getElem hk,List.take_succ_eq_append_getElem (hl ▸ hk),h]
 simp only[Option.getD_some] at e
 rw[e]
theorem bl_at (l:List Str) (h:BL l) (k:Nat):By (l.getD k []):=by
 rw[List.getD_eq_getElem?_getD]
 cases q:l[k]? with
 | none=>exact fun c hc=>by cases hc
 | some x=>exact h x (List.mem_of_getElem? q)
theorem ne_at {α:Type} {a b:List α} {d:α} {k:Nat} (e:a.getD k d≠b.getD k d):a≠b:=fun h=>e (by rw[h])
theorem equalS_ax (a b:List Str) (ga:BL a) (gb:BL b) (ha:a.length≤9223372036854775807) (hb':b.length≤9223372036854775807):PCall Tryz.prog 59 [TV a,TV b] (.v (.bool (decide (a=b)))):=by
 refine pcall_of fun s=>?_
 unfold TV
 by_cases hl:a.length=b.length
 ·refine acall_of Tryz.func59 rfl rfl (by simp [Tryz.ntmps59]) ?_;rw[Tryz.ntmps59,Tryz.results59]
  refine go (cj rTI @hl) ?_
  refine ifs ?_ ?_ <;> first | exact nope | intro hb
  refine go (cj rTI @hl) ?_
  refine aw_loop (fun m e s'=>∃ k,m=b.length-k∧k≤b.length∧e.n=26∧e.m 0=.sl b.length (SL a)∧e.m 1=.sl b.length (SL b)∧e.m 12=.v (.int .i64 b.length)∧e.m 13=.v (.int .i64 (k:Nat))∧a.take k=b.take k∧s'=s) b.length ?_ ?_
  ·refine⟨0,by omega,by omega,?_⟩
   (repeat' refine And.intro ?_ ?_) <;> first | exact rfl | exact fnz (cj rTI @hl) | skip
  ·rintro m e s' ⟨k,rfl,hk,h1,k0,k1,k12,k13,ht,rfl⟩
   by_cases hk2:k<b.length
   ·have ha2:k<a.length:=by omega
    have f1:=hd_SL a k ha2
    have f2:=hd_SL b k hk2
    have f3:=str_ne (a.getD k []) (b.getD k []) (bl_at a ga k) (bl_at b gb k)
    unfold SV at f1 f2
    refine go (J4 rTI @h1 @k12 @k13) ?_
    refine ifs ?_ ?_ <;> first | exact nope | intro hb
    refine aw_skip ?_
    refine aw_seq ?_
    refine aw_block ?_
    refine aw_seq ?_
    refine aw_reg fun K hK=>?_;refine rn (J3 rTI @h1 @k13) ?_;refine hK _ _ ?_;clear hK K
    refine aw_seq ?_
    refine aw_drw (.take 0 (.take 1 (.take 2 (.take 3 (.take 4 (.take 5 (.take 6 (.take 7 (.take 8 (.done)))))))))) [] (by kernel_rfl) (by kernel_rfl) fun K hK=>?_;refine dr (J8 rTI @h1 @k0 @k1 @k13 @f1 @f2 @f3) ?_;refine hK _ _ ?_;clear hK K
    by_cases q:a.getD k []=b.getD k []
    ·have ht2:=take_eq hl ha2 ht q
     rw[decide_eq_true q]
     refine ifs ?_ ?_ <;> first | exact nope | intro hb
     refine go (J3 rTI @h1 @k13) ?_
     simp only[block_normal,loop_normal]
     refine⟨b.length-(k+1),by omega,k+1,rfl,by omega,?_,?_,?_,?_,?_,ht2,trivial⟩
     all_goals ((first | refine rn (J5 @h1 @k0 @k1 @k12 @k13) ?_ | exact rn0 (J5 @h1 @k0 @k1 @k12 @k13)))
     all_goals rfl
    ·rw[decide_eq_false (ne_at q)]
     rw[decide_eq_false q]
     refine ifs ?_ ?_ <;> first | exact nope | intro hb
     exact go0 (cj rTI @h1)
   ·obtain rfl:k=b.length:=by omega
    rw[List.take_length,←hl,List.take_length] at ht
    rw[decide_eq_true ht]
    refine go (J4 rTI @h1 @k12 @k13) ?_
    refine ifs ?_ ?_ <;> first | exact nope | intro hb
    exact go0 (cj rTI @h1)
 ·rw[decide_eq_false fun h=>hl (by rw[h])]
  have hl2:¬((a.length:Int)=(b.length:Int)):=by omega
  refine acall_of Tryz.func59 rfl rfl (by simp [Tryz.ntmps59]) ?_;rw[Tryz.ntmps59,Tryz.results59]
  refine go rTI ?_
  refine ifs ?_ ?_ <;> first | exact nope | intro hb
  exact go0 rTI
theorem equalI_ax (a b:List Int) (ha:a.length≤9223372036854775807) (hb':b.length≤9223372036854775807):PCall Tryz.prog 102 [IV a,IV b] (.v (.bool (decide (a=b)))):=by
 refine pcall_of fun s=>?_
 unfold IV
 by_cases hl:a.length=b.length
 ·refine acall_of Tryz.func102 rfl rfl (by simp [Tryz.ntmps102]) ?_;rw[Tryz.ntmps102,Tryz.results102]
  refine go (cj rTI @hl) ?_
  refine ifs ?_ ?_ <;> first | exact nope | intro hb
  refine go (cj rTI @hl) ?_
  refine aw_loop (fun m e s'=>∃ k,m=b.length-k∧k≤b.length∧e.n=26∧e.m 0=.sl b.length (IL a)∧e.m 1=.sl b.length (IL b)∧e.m 12=.v (.int .i64 b.length)∧e.m 13=.v (.int .i64 (k:Nat))∧a.take k=b.take k∧s'=s) b.length ?_ ?_
  ·refine⟨0,by omega,by omega,?_⟩
   (repeat' refine And.intro ?_ ?_) <;> first | exact rfl | exact fnz (cj rTI @hl) | skip
  ·rintro m e s' ⟨k,rfl,hk,h1,k0,k1,k12,k13,ht,rfl⟩
   by_cases hk2:k<b.length
   ·have ha2:k<a.length:=by omega
    have f1:=hd_IL a k ha2
    have f2:=hd_IL b k hk2
    unfold iv at f1 f2
    refine go (J4 rTI @h1 @k12 @k13) ?_
    refine ifs ?_ ?_ <;> first | exact nope | intro hb
    refine aw_skip ?_
    refine aw_seq ?_
    refine aw_block ?_
    refine aw_seq ?_
    refine aw_reg fun K hK=>?_;refine rn (J3 rTI @h1 @k13) ?_;refine hK _ _ ?_;clear hK K
    refine aw_seq ?_
    refine aw_drw (.take 0 (.take 1 (.take 2 (.take 3 (.take 4 (.take 5 (.take 6 (.take 7 (.take 8 (.done)))))))))) [] (by kernel_rfl) (by kernel_rfl) fun K hK=>?_;refine dr (J7 rTI @h1 @k0 @k1 @k13 @f1 @f2) ?_;refine hK _ _ ?_;clear hK K
    by_cases q:a.getD k 0=b.getD k 0
    ·have ht2:=take_eq hl ha2 ht q
     
     refine ifs ?_ ?_ <;> first | exact nope | intro hb
     refine go (J3 rTI @h1 @k13) ?_
     simp only[block_normal,loop_normal]
     refine⟨b.length-(k+1),by omega,k+1,rfl,by omega,?_,?_,?_,?_,?_,ht2,trivial⟩
     all_goals ((first | refine rn (J5 @h1 @k0 @k1 @k12 @k13) ?_ | exact rn0 (J5 @h1 @k0 @k1 @k12 @k13)))
     all_goals rfl
    ·rw[decide_eq_false (ne_at q)]
     
     refine ifs ?_ ?_ <;> first | exact nope | intro hb
     exact go0 (cj rTI @h1)
   ·obtain rfl:k=b.length:=by omega
    rw[List.take_length,←hl,List.take_length] at ht
    rw[decide_eq_true ht]
    refine go (J4 rTI @h1 @k12 @k13) ?_
    refine ifs ?_ ?_ <;> first | exact nope | intro hb
    exact go0 (cj rTI @h1)
 ·rw[decide_eq_false fun h=>hl (by rw[h])]
  have hl2:¬((a.length:Int)=(b.length:Int)):=by omega
  refine acall_of Tryz.func102 rfl rfl (by simp [Tryz.ntmps102]) ?_;rw[Tryz.ntmps102,Tryz.results102]
  refine go rTI ?_
  refine ifs ?_ ?_ <;> first | exact nope | intro hb
  exact go0 rTI
theorem equalN_ax (a b:List Num) (ha:a.length≤9223372036854775807) (hb':b.length≤9223372036854775807):PCall Tryz.prog 101 [NV a,NV b] (.v (.bool (decide (a=b)))):=by
 refine pcall_of fun s=>?_
 unfold NV
 by_cases hl:a.length=b.length
 ·refine acall_of Tryz.func101 rfl rfl (by simp [Tryz.ntmps101]) ?_;rw[Tryz.ntmps101,Tryz.results101]
  refine go (cj rTI @hl) ?_
  refine ifs ?_ ?_ <;> first | exact nope | intro hb
  refine go (cj rTI @hl) ?_
  refine aw_loop (fun m e s'=>∃ k,m=b.length-k∧k≤b.length∧e.n=26∧e.m 0=.sl b.length (NC a)∧e.m 1=.sl b.length (NC b)∧e.m 12=.v (.int .i64 b.length)∧e.m 13=.v (.int .i64 (k:Nat))∧a.take k=b.take k∧s'=s) b.length ?_ ?_
  ·refine⟨0,by omega,by omega,?_⟩
   (repeat' refine And.intro ?_ ?_) <;> first | exact rfl | exact fnz (cj rTI @hl) | skip
  ·rintro m e s' ⟨k,rfl,hk,h1,k0,k1,k12,k13,ht,rfl⟩
   by_cases hk2:k<b.length
   ·have ha2:k<a.length:=by omega
    have f1:=nc_at a k ha2
    have f2:=nc_at b k hk2
    have f3:2≤((NC a).drop (k*2)).length:=by rw[List.length_drop,nc_len];omega
    have f4:2≤((NC b).drop (k*2)).length:=by rw[List.length_drop,nc_len];omega
    unfold iv at f1 f2
    have f5:eqOk Tryz.prog 23=true:=by kernel_rfl
    have f6:((a.getD k (0,0)).1==(b.getD k (0,0)).1&&(a.getD k (0,0)).2==(b.getD k (0,0)).2)=decide (a.getD k (0,0)=b.getD k (0,0)):=by rw[Bool.eq_iff_iff,decide_eq_true_eq,Prod.ext_iff];simp
    refine go (J4 rTI @h1 @k12 @k13) ?_
    refine ifs ?_ ?_ <;> first | exact nope | intro hb
    refine aw_skip ?_
    refine aw_seq ?_
    refine aw_block ?_
    refine aw_seq ?_
    refine aw_reg fun K hK=>?_;refine rn (J3 rTI @h1 @k13) ?_;refine hK _ _ ?_;clear hK K
    refine aw_seq ?_
    refine aw_drw (.take 0 (.take 1 (.take 2 (.take 3 (.take 4 (.take 5 (.take 6 (.take 7 (.take 8 (.done)))))))))) [] (by kernel_rfl) (by kernel_rfl) fun K hK=>?_;refine dr (J11 rTI @h1 @k0 @k1 @k13 @f1 @f2 @f3 @f4 @f5 @f6) ?_;refine hK _ _ ?_;clear hK K
    by_cases q:a.getD k (0,0)=b.getD k (0,0)
    ·have ht2:=take_eq hl ha2 ht q
     rw[decide_eq_true q]
     refine ifs ?_ ?_ <;> first | exact nope | intro hb
     refine go (J3 rTI @h1 @k13) ?_
     simp only[block_normal,loop_normal]
     refine⟨b.length-(k+1),by omega,k+1,rfl,by omega,?_,?_,?_,?_,?_,ht2,trivial⟩
     all_goals ((first | refine rn (J5 @h1 @k0 @k1 @k12 @k13) ?_ | exact rn0 (J5 @h1 @k0 @k1 @k12 @k13)))
     all_goals rfl
    ·rw[decide_eq_false (ne_at q)]
     rw[decide_eq_false q]
     refine ifs ?_ ?_ <;> first | exact nope | intro hb
     exact go0 (cj rTI @h1)
   ·obtain rfl:k=b.length:=by omega
    rw[List.take_length,←hl,List.take_length] at ht
    rw[decide_eq_true ht]
    refine go (J4 rTI @h1 @k12 @k13) ?_
    refine ifs ?_ ?_ <;> first | exact nope | intro hb
    exact go0 (cj rTI @h1)
 ·rw[decide_eq_false fun h=>hl (by rw[h])]
  have hl2:¬((a.length:Int)=(b.length:Int)):=by omega
  refine acall_of Tryz.func101 rfl rfl (by simp [Tryz.ntmps101]) ?_;rw[Tryz.ntmps101,Tryz.results101]
  refine go rTI ?_
  refine ifs ?_ ?_ <;> first | exact nope | intro hb
  exact go0 rTI
theorem pcall_nil {f:FuncId} {r:AV} (h:∀ (a:Option Addr) (cap:Nat),PCall Tryz.prog f [.v (.slice a 0 cap)] r):PCall Tryz.prog f [.sl 0 []] r:=fun s=>
 ⟨(h none 0 s).1,fun w0 k w vs hs hv=>by
  match vs,hv with
  | [u],hv=>
   have hr:=hv.2 0 _ u rfl rfl
   cases hr with
   | sl _ cap _ a us hn h1 h2=>exact(h (some a) cap s).2 w0 k w _ hs ⟨rfl,fun j z u hz hu=>by
     match j with
     | 0=>simp at hz hu;subst hz hu;exact .v _
     | j+1=>simp at hz⟩
   | sl0 a cap=>exact(h a cap s).2 w0 k w _ hs ⟨rfl,fun j z u hz hu=>by
     match j with
     | 0=>simp at hz hu;subst hz hu;exact .v _
     | j+1=>simp at hz⟩
  | [],hv=>simp [RelL] at hv
  | _::_::_,hv=>simp [RelL] at hv⟩
theorem sl_len (l:List Str):(SL l).length=l.length:=by simp [SL]
theorem sl_take (l:List Str):(SL l).take (l.length*1)=SL l:=by rw[Nat.mul_one,←sl_len,List.take_length]
theorem sl_one (l:List Str):(SL l).all AV.one=true:=by
 rw[List.all_eq_true]
 intro z hz
 obtain⟨x,_,rfl⟩:=List.mem_map.1 hz
 rfl
theorem sl_idf (l:List Str):idf.idfL (SL l)=true:=(idfL_iff _).2 fun z hz=>by
 obtain⟨x,_,rfl⟩:=List.mem_map.1 hz
 rfl
theorem tv_idf (l:List Str):idf (TV l)=true:=sl_idf l
theorem clone_ax (l:List Str) (hl:l.length≤100000):PCall Tryz.prog 96 [TV l] (TV l):=by
 cases l with
 | nil=>
  refine pcall_nil fun a cap=>?_
  cases a with
  | none=>
   refine pcall_le fun s=>?_
   refine acall_of Tryz.func96 rfl rfl (by simp [Tryz.ntmps96]) ?_;rw[Tryz.ntmps96,Tryz.results96]
   refine go rTI ?_
   refine ifs ?_ ?_ <;> first | exact nope | intro hb
   refine go rTI ?_
   exact⟨Le.nil 0 0 rfl,rfl⟩
  | some a=>
   refine pcall_own rfl fun s=>?_
   refine acall_of Tryz.func96 rfl rfl (by simp [Tryz.ntmps96]) ?_;rw[Tryz.ntmps96,Tryz.results96]
   refine go rTI ?_
   refine ifs ?_ ?_ <;> first | exact nope | intro hb
   refine go rTI ?_
   exact⟨s.nx+1,_,by omega,if_pos rfl,by simp [frz,TV,SL],fun j hj=>by rw[if_neg (by omega),if_neg (by omega)]⟩
 | cons x r=>
  generalize hy:x::r=y at *
  have h0:0<y.length:=by rw[←hy];exact Nat.succ_pos _
  clear hy
  have e1:=sl_len y
  have e2:=sl_take y
  have e3:=sl_one y
  unfold TV
  refine pcall_own (sl_idf y) fun s=>?_
  refine acall_of Tryz.func96 rfl rfl (by simp [Tryz.ntmps96]) ?_;rw[Tryz.ntmps96,Tryz.results96]
  refine go rTI ?_
  refine ifs ?_ ?_ <;> first | exact nope | intro hb
  refine go (J4 rTI @e1 @e2 @e3) ?_
  exact⟨s.nx+1,_,by omega,if_pos rfl,by rw[frz_own,List.nil_append,List.drop_zero,e2],fun j hj=>by rw[if_neg (by omega),if_neg (by omega)]⟩
end CardE
namespace CardF
open Go Go.RowKit Ax Ti NumS NumT CardS CardP CardA CardB CardC CardD CardE
open NumA (NM)
open NumW (parseV)
theorem rTI:type_of% (J18 @ti3 @ti4 @ti9 @ti5 @ti43 @ti45 @ti44 @ti23 @ti31 @ti142 @ti57 @ti144 @Nat.zero_add @tz0 @tz1 @tz3 @Nat.mul_one @Int.toNat_natCast):=cj @ti3 (J17 @ti4 @ti9 @ti5 @ti43 @ti45 @ti44 @ti23 @ti31 @ti142 @ti57 @ti144 @Nat.zero_add @tz0 @tz1 @tz3 @Nat.mul_one @Int.toNat_natCast)
variable {P:Program}
theorem acall_upd {f:FuncId} {zs:List AV} {s:St} {R:AV→Prop} (id:Nat) (c:List AV) (hid:id<s.nx) (hc:idf.idfL c=true)
  (h:ACall P f zs s fun r s'=>R r∧idf r=true∧s'.get id=some c∧∀ i,i<s.nx→i≠id→s'.get i=s.get i):ACall P f zs s fun r s'=>R r∧s'=s.set id c:=by
 refine⟨h.1,fun w0 k w vs hs hv=>(h.2 w0 k w vs hs hv).mono ?_⟩
 rintro en w' ⟨v,r,s',k',rfl,⟨hR,hf,hgi,hg⟩,hs',hr,hk⟩
 refine⟨v,r,s.set id c,⟨k'.φ,s.nx,k'.S,k'.tab⟩,rfl,⟨hR,rfl⟩,⟨rfl,hs'.fz,?_,?_,?_,hs'.shp,hs.tz,?_,hs'.cov⟩,rel_free hr (fun _ _ h=>h) hf,⟨Nat.le_refl _,hk.2.1,hk.2.2⟩⟩
 ·intro i d hi
  by_cases e:i=id
  ·subst e;exact hid
  ·rw[St.set_ne _ _ _ _ e] at hi
   exact hs.lt i d hi
 ·intro i d hi
  by_cases e:i=id
  ·subst e
   rw[St.set_same] at hi
   injection hi with hi
   subst hi
   obtain⟨h1,h2⟩:=hs'.box i c hgi
   refine⟨h1,fun j hj=>?_⟩
   obtain⟨u,q1,q2,q3,q4⟩:=h2 j hj
   exact⟨u,q1,q2,q3,fun z hz=>rel_free (q4 z hz) (fun _ _ h=>h) ((idfL_iff c).1 hc z (List.mem_of_getElem? hz))⟩
  ·rw[St.set_ne _ _ _ _ e] at hi
   have hlt:=hs.lt i d hi
   obtain⟨h1,h2⟩:=hs'.box i d ((hg i hlt e).trans hi)
   obtain⟨o1,o2⟩:=hs.box i d hi
   refine⟨h1,fun j hj=>?_⟩
   obtain⟨u,q1,q2,q3,q4⟩:=h2 j hj
   refine⟨u,q1,q2,q3,fun z hz=>?_⟩
   obtain⟨u0,_,_,_,p4⟩:=o2 j (by
    have:=(List.getElem?_eq_some_iff.1 hz).1
    omega)
   have:=rel_cut (p4 z hz) (q4 z hz)
   rwa [hs.m] at this
 ·intro i j d d' hi hj
  have key:∀ i d,(s.set id c).get i=some d→∃ d',s'.get i=some d':=fun i d hi=>by
   by_cases e:i=id
   ·subst e;exact⟨c,hgi⟩
   ·rw[St.set_ne _ _ _ _ e] at hi
    exact⟨d,(hg i (hs.lt i d hi) e).trans hi⟩
  obtain⟨d1,h1⟩:=key i d hi
  obtain⟨d2,h2⟩:=key j d' hj
  exact hs'.sep i j d1 d2 h1 h2
 ·intro i d T hi hT
  by_cases e:i=id
  ·subst e;exact hs'.ty i c T hgi hT
  ·rw[St.set_ne _ _ _ _ e] at hi
   exact hs'.ty i d T ((hg i (hs.lt i d hi) e).trans hi) hT
def rdr (ws:List Str) (e:Int):List AV:=[TV ws,iv e]
theorem rdr_idf (ws:List Str) (e:Int):idf.idfL (rdr ws e)=true:=by
 show (idf (TV ws)&&true)=true
 rw[tv_idf]
 rfl
theorem next_ax (s:St) (id:Nat) (w:Str) (r:List Str) (e:Int) (hi:s.get id=some (rdr (w::r) e)) (hid:id<s.nx) (hl:r.length<9223372036854775807) :
  ACall Tryz.prog 97 [.ptr id 0] s fun x s'=>x=SV w∧s'=s.set id (rdr r e):=by
 refine acall_upd id _ hid (rdr_idf _ _) ?_
 have hD:=TV_drop (w::r) 1
 rw[List.drop_succ_cons,List.drop_zero] at hD
 have hn:((w::r).length:Int)=(r.length:Int)+1:=rfl
 have hl2:(w::r).length=r.length+1:=rfl
 have hd:(SL (w::r)).head?=some (.v (.string (bs w))):=rfl
 rw[show (List.drop 1 (SL (w::r)))=SL r from rfl] at hD
 unfold rdr TV iv at hi
 unfold rdr iv SV
 refine acall_of Tryz.func97 rfl rfl (by simp [Tryz.ntmps97]) ?_;rw[Tryz.ntmps97,Tryz.results97]
 refine go (J5 rTI @hi @hd @hn @hl2) ?_
 exact⟨by rw[←hD];rfl,fun i _ h=>if_neg h⟩
theorem decS_by (z:Int):By (decS z):=by
 intro c hc
 unfold decS at hc
 split at hc
 ·simp at hc;omega
 ·rcases List.mem_append.1 hc with hc | hc
  ·split at hc
   ·simp at hc;omega
   ·cases hc
  ·have:=(isD_iff c).1 (decN_isD _ c hc)
   omega
theorem num_ax (s:St) (id:Nat) (w:Str) (r:List Str) (e:Int) (hw:By w) (hi:s.get id=some (rdr (w::r) e)) (hid:id<s.nx) (hl:r.length<9223372036854775807) :
  ACall Tryz.prog 98 [.ptr id 0] s fun x s'=>x=NM (numV w).1 (numV w).2∧s'=s.set id (rdr r (numE w e)):=by
 refine acall_upd id _ hid (rdr_idf _ _) ?_
 have hp:=NumE.parse_any w hw
 unfold numV numE
 unfold parseV at hp
 generalize parseS w=p at *
 obtain⟨m,x,e2⟩:=p
 simp only at hp ⊢
 have hnx:∀ zc,ACall Tryz.prog 97 [.ptr id 0] (s.push zc) fun x s'=>x=SV w∧s'=(s.push zc).set id (rdr r e):=fun zc=>next_ax _ id w r e (by rw[St.push_ne _ _ _ (by omega)];exact hi) (by rw[St.nx_push];omega) hl
 have hid2:id≠s.nx:=by omega
 have hid3:id≠s.nx+1:=by omega
 unfold NM at hp ⊢
 unfold rdr iv at hnx ⊢
 clear hi
 by_cases he:e=0
 ·rw[if_pos he]
  subst he
  refine acall_of Tryz.func98 rfl rfl (by simp [Tryz.ntmps98]) ?_;rw[Tryz.ntmps98,Tryz.results98]
  refine go rTI ?_
  refine aw_reg fun K hK=>?_;refine rn rTI ?_;refine cont_go (hnx _) ?_;rintro _ s1 ⟨rfl,rfl⟩;refine rn rTI ?_;refine cont_pure hp ?_;refine rn rTI ?_;refine hK _ _ ?_;clear hK K
  refine go rTI ?_
  refine ifs ?_ ?_ <;> first | exact nope | intro hb
  refine go rTI ?_
  exact fun i h1 h2=>by rw[if_neg (by omega),if_neg (by omega),if_neg (by omega)]
 ·rw[if_neg he]
  refine acall_of Tryz.func98 rfl rfl (by simp [Tryz.ntmps98]) ?_;rw[Tryz.ntmps98,Tryz.results98]
  refine go rTI ?_
  refine aw_reg fun K hK=>?_;refine rn rTI ?_;refine cont_go (hnx _) ?_;rintro _ s1 ⟨rfl,rfl⟩;refine rn rTI ?_;refine cont_pure hp ?_;refine rn rTI ?_;refine hK _ _ ?_;clear hK K
  refine go rTI ?_
  refine ifs ?_ ?_ <;> first | exact nope | intro hb
  refine go rTI ?_
  exact fun i h1 h2=>by rw[if_neg (by omega),if_neg (by omega),if_neg (by omega)]
theorem step_none (w:Str) (z:Int) (hz:∀ n,stepS w=some n→z=n) (h:decS z≠w∨z<0∨1000000000<z):stepS w=none:=by
 cases hs:stepS w with
 | none=>rfl
 | some n=>
  have:=hz n hs
  obtain⟨h1,h2,h3⟩:=step_le w n hs
  subst this
  rcases h with h | h | h
  ·exact absurd h3 h
  ·omega
  ·omega
theorem step_ax (s:St) (id:Nat) (w:Str) (r:List Str) (e:Int) (hw:By w) (hwl:w.length≤281474976710656) (hi:s.get id=some (rdr (w::r) e)) (hid:id<s.nx) (hl:r.length<9223372036854775807) :
  ACall Tryz.prog 124 [.ptr id 0] s fun x s'=>(∃ n,x=iv n∧(stepE w e=0→n=stepV w))∧s'=s.set id (rdr r (stepE w e)):=by
 refine acall_upd id _ hid (rdr_idf _ _) ?_
 have hnx:=next_ax s id w r e hi hid hl
 have hat:=atoi_any w hwl
 unfold rdr iv at hnx ⊢
 unfold SV at hnx hat
 clear hi
 refine acall_of Tryz.func124 rfl rfl (by simp [Tryz.ntmps124]) ?_;rw[Tryz.ntmps124,Tryz.results124]
 refine go rTI ?_
 refine aw_reg fun K hK=>?_;refine rn rTI ?_;refine cont_go hnx ?_;rintro _ s1 ⟨rfl,rfl⟩;refine rn rTI ?_;refine hK _ _ ?_;clear hK K
 refine go rTI ?_
 refine aw_reg fun K hK=>?_;refine rn rTI ?_;refine cont_go (hat _) ?_;rintro x s1 ⟨⟨z,v,rfl,z0,z1,hv⟩,rfl⟩;refine rn rTI ?_;refine hK _ _ ?_;clear hK K
 have hit:=itoa_ax z z0 z1
 unfold SV at hit
 have hne:=str_ne (decS z) w (decS_by z) hw
 have hx:∀ b,stepE w b=if b=0 then (if (stepS w).isSome then 0 else 3) else b:=fun _=>rfl
 have hy:stepV w=(stepS w).getD 0:=rfl
 rw[hx,hy]
 by_cases he:e=0
 ·subst he
  rw[if_pos rfl]
  rcases hv with ⟨rfl,hz⟩ | ⟨⟨t,p,rfl⟩,hn⟩
  ·have hc:∀ b,(!decide (decS z=w))=b→b=true→stepS w=none:=fun b h1 h2=>by
    subst h1
    exact step_none w z hz (.inl (by simpa using h2))
   generalize hq:(!decide (decS z=w))=b1 at *
   by_cases q2:b1=true∨z<0∨1000000000<z
   ·have hn:stepS w=none:=by
     rcases q2 with q2 | q2
     ·exact hc b1 rfl q2
     ·exact step_none w z hz (.inr q2)
    rw[hn]
    clear hz hc hq hn
    cases b1 with
    | true=>
     clear q2
     rw[then_normal]
     refine aw_seq ?_
     refine aw_seq ?_
     refine aw_reg fun K hK=>?_;refine rn (cj rTI @hne) ?_;refine cont_pure hit ?_;refine rn (cj rTI @hne) ?_;refine hK _ _ ?_;clear hK K
     refine ifs ?_ ?_ <;> first | exact nope | intro hb
     refine go rTI ?_
     exact⟨⟨z,rfl,fun h=>by simp at h⟩,rfl,fun i h1 h2=>if_neg h2⟩
    | false=>
     have q3:z<0∨1000000000<z:=by
      rcases q2 with q2 | q2
      ·cases q2
      ·exact q2
     clear q2
     rw[then_normal]
     refine aw_seq ?_
     refine aw_seq ?_
     rcases q3 with q3 | q3
     ·refine aw_reg fun K hK=>?_;refine rn (cj rTI @hne) ?_;refine cont_pure hit ?_;refine rn (cj rTI @hne) ?_;refine hK _ _ ?_;clear hK K
      refine ifs ?_ ?_ <;> first | exact nope | intro hb
      refine go rTI ?_
      exact⟨⟨z,rfl,fun h=>by simp at h⟩,rfl,fun i h1 h2=>if_neg h2⟩
     ·have q4:¬z<0:=by omega
      refine aw_reg fun K hK=>?_;refine rn (cj rTI @hne) ?_;refine cont_pure hit ?_;refine rn (cj rTI @hne) ?_;refine hK _ _ ?_;clear hK K
      refine ifs ?_ ?_ <;> first | exact nope | intro hb
      refine go rTI ?_
      exact⟨⟨z,rfl,fun h=>by simp at h⟩,rfl,fun i h1 h2=>if_neg h2⟩
   ·have q3:b1=false:=by
     cases b1
     ·rfl
     ·exact absurd (.inl rfl) q2
    subst q3
    have q4:decS z=w:=by simpa using hq
    have hn:=dec_step z (by omega) (by omega)
    rw[q4] at hn
    rw[hn]
    clear hz hc hq hn
    rw[then_normal]
    refine aw_seq ?_
    refine aw_seq ?_
    refine aw_reg fun K hK=>?_;refine rn (cj rTI @hne) ?_;refine cont_pure hit ?_;refine rn (cj rTI @hne) ?_;refine hK _ _ ?_;clear hK K
    refine ifs ?_ ?_ <;> first | exact nope | intro hb
    refine go rTI ?_
    exact⟨⟨z,rfl,fun _=>rfl⟩,rfl,fun i h1 h2=>if_neg h2⟩
  ·rw[hn]
   refine go rTI ?_
   refine ifs ?_ ?_ <;> first | exact nope | intro hb
   refine go rTI ?_
   exact⟨⟨z,rfl,fun h=>by simp at h⟩,rfl,fun i h1 h2=>if_neg h2⟩
 ·rw[if_neg he]
  refine go rTI ?_
  refine ifs ?_ ?_ <;> first | exact nope | intro hb
  refine go rTI ?_
  exact⟨⟨z,rfl,fun h=>absurd h he⟩,fun i h1 h2=>if_neg h2⟩
end CardF
namespace CardG
open Go Go.RowKit Ax Ti NumS NumT CardS CardP CardA CardB CardC CardD CardE CardF
open NumA (NM)
theorem rTI:type_of% (J18 @ti3 @ti4 @ti9 @ti5 @ti43 @ti45 @ti44 @ti23 @ti47 @ti31 @ti142 @ti144 @Nat.zero_add @tz0 @tz1 @tz3 @Nat.mul_one @Int.toNat_natCast):=cj @ti3 (J17 @ti4 @ti9 @ti5 @ti43 @ti45 @ti44 @ti23 @ti47 @ti31 @ti142 @ti144 @Nat.zero_add @tz0 @tz1 @tz3 @Nat.mul_one @Int.toNat_natCast)
def WA (w:Wv):AV:=.ag [iv w.kind,NV w.vals,IV w.steps]
theorem il_idf (l:List Int):idf.idfL (IL l)=true:=(idfL_iff _).2 fun z hz=>by
 obtain⟨x,_,rfl⟩:=List.mem_map.1 hz
 rfl
theorem nc_idf (l:List Num):idf.idfL (NC l)=true:=(idfL_iff _).2 fun z hz=>by
 obtain⟨x,_,hz⟩:=List.mem_flatMap.1 hz
 rcases List.mem_cons.1 hz with rfl | hz
 ·rfl
 ·rcases List.mem_cons.1 hz with rfl | hz
  ·rfl
  ·cases hz
theorem wa_idf (w:Wv):idf (WA w)=true:=by
 show (idf (iv w.kind)&&(idf.idfL (NC w.vals)&&(idf.idfL (IL w.steps)&&true)))=true
 rw[nc_idf,il_idf]
 rfl
theorem il_len (l:List Int):(IL l).length=l.length:=by simp [IL]
theorem wv_lay {P:Program} {f:FuncId} {zs:List AV} {s:St} (id:Nat) (c:List AV) (R:Wv→Prop) (hid:id<s.nx) (hc:idf.idfL c=true)
  (h:ACall P f zs s fun x s'=>∃ W i j,R W∧x=.ag [iv W.kind,.own i 0 W.vals.length 2,.own j 0 W.steps.length 1]∧s.nx≤i∧s.nx≤j∧i≠j∧s'.get i=some (NC W.vals)∧s'.get j=some (IL W.steps)∧s'.get id=some c∧∀ k,k<s.nx→k≠id→s'.get k=s.get k) :
  ACall P f zs s fun x s'=>(∃ W,R W∧x=WA W)∧s'=s.set id c:=by
 refine acall_upd id c hid hc (acall_lay (acall_lay (h.mono ?_)))
 rintro x s' ⟨W,i,j,hR,rfl,h1,h2,h3,h4,h5,h6,h7⟩
 have e1:(NC W.vals).take (W.vals.length*2)=NC W.vals:=by rw[←nc_len,List.take_length]
 have e2:(IL W.steps).take (W.steps.length*1)=IL W.steps:=by rw[Nat.mul_one,←il_len,List.take_length]
 have e3:frz.frzL j (IL W.steps) (NC W.vals)=NC W.vals:=by
  apply List.ext_getElem?
  intro q
  rw[frzL_get]
  cases h:(NC W.vals)[q]? with
  | none=>rfl
  | some z=>
   rw[Option.map_some,frz_idf]
   exact(idfL_iff _).1 (nc_idf W.vals) z (List.mem_of_getElem? h)
 have key:frz j (IL W.steps) (frz i (NC W.vals) (.ag [iv W.kind,.own i 0 W.vals.length 2,.own j 0 W.steps.length 1]))=WA W:=by
  have e4:¬j=i:=fun h=>h3 h.symm
  simp only[frz,frz.frzL,iv,if_true,if_neg e4,List.drop_zero,e1,e2,e3]
  rfl
 refine⟨i,NC W.vals,fun _=>false,h4,j,IL W.steps,fun _=>false,by rw[frz_false _ _ _ _ (by omega)];exact h5,⟨W,hR,key⟩,?_,?_,fun k hk hk2=>?_⟩
 ·rw[key];exact wa_idf W
 ·rw[frz_false _ _ _ _ (by omega),frz_false _ _ _ _ (by omega)]
  exact h6
 ·rw[frz_false _ _ _ _ (by omega),frz_false _ _ _ _ (by omega)]
  exact h7 k hk hk2
theorem zr2 (x y:Value):zrow [x,y] 2=[.v x,.v y]:=by simp [zrow,List.range_succ]
theorem zr4 (x y:Value):zrow [x,y] 4=[.v x,.v y,.v x,.v y]:=by simp [zrow,List.range_succ]
structure WI (s s':St) (id bw iV iS:Nat) (kd:Int) (V:List Num) (S:List Int) (ws:List Str) (e:Int):Prop where
 r:s'.get id=some (rdr ws e)
 b:s'.get bw=some [iv kd,.own iV 0 V.length 2,.own iS 0 S.length 1]
 v:s'.get iV=some (NC V)
 t:s'.get iS=some (IL S)
 o:s.nx<bw∧s.nx<iV∧s.nx<iS∧bw<s'.nx∧iV<s'.nx∧iS<s'.nx∧bw≠iV∧bw≠iS∧iV≠iS
 z:s'.get s.nx=some [.v (.int .i64 0),.v (.slice none 0 0),.v (.slice none 0 0)]
 fr:∀ k,k<s.nx→k≠id→s'.get k=s.get k
theorem WI.num {s s':St} {id bw iV iS:Nat} {kd:Int} {V:List Num} {S:List Int} {ws:List Str} {e:Int} (h:WI s s' id bw iV iS kd V S ws e) (hid:id<s.nx) (n:Num) (ws2:List Str) (e2:Int) :
  WI s (((((s'.set id (rdr ws2 e2)).push [iv n.1,iv n.2]).kill iV).push (NC V++[iv n.1,iv n.2])).set bw [iv kd,.own (s'.nx+1) 0 (V.length+1) 2,.own iS 0 S.length 1]) id bw (s'.nx+1) iS kd (V++[n]) S ws2 e2:=by
 obtain⟨o1,o2,o3,o4,o5,o6,o7,o8,o9⟩:=h.o
 have hn:(((((s'.set id (rdr ws2 e2)).push [iv n.1,iv n.2]).kill iV).push (NC V++[iv n.1,iv n.2])).set bw [iv kd,.own (s'.nx+1) 0 (V.length+1) 2,.own iS 0 S.length 1]).nx=s'.nx+2:=rfl
 have hg:∀ k c,k≠bw→k≠s'.nx+1→k≠iV→k≠s'.nx→k≠id→s'.get k=c→(((((s'.set id (rdr ws2 e2)).push [iv n.1,iv n.2]).kill iV).push (NC V++[iv n.1,iv n.2])).set bw [iv kd,.own (s'.nx+1) 0 (V.length+1) 2,.own iS 0 S.length 1]).get k=c:=fun k c h1 h2 h3 h4 h5 h6=>by
  rw[St.set_ne _ _ _ _ h1,St.push_ne _ _ _ h2,St.kill_ne _ _ _ h3,St.push_ne (s'.set id _) _ _ h4,St.set_ne _ _ _ _ h5]
  exact h6
 refine⟨?_,?_,?_,hg _ _ (by omega) (by omega) (by omega) (by omega) (by omega) h.t,⟨o1,by omega,o3,by omega,by omega,by omega,by omega,o8,by omega⟩,hg _ _ (by omega) (by omega) (by omega) (by omega) (by omega) h.z,fun k h1 h2=>hg _ _ (by omega) (by omega) (by omega) (by omega) h2 (h.fr k h1 h2)⟩
 ·rw[St.set_ne _ _ _ _ (by omega),St.push_ne _ _ _ (show id≠s'.nx+1 by omega),St.kill_ne _ _ _ (by omega),St.push_ne (s'.set id _) _ _ (show id≠s'.nx by omega)]
  exact St.set_same _ _ _
 ·rw[St.set_same,List.length_append]
  rfl
 ·rw[St.set_ne _ _ _ _ (by omega)]
  have:NC (V++[n])=NC V++[iv n.1,iv n.2]:=by simp [NC]
  rw[this]
  exact St.push_same _ _
theorem WI.step {s s':St} {id bw iV iS:Nat} {kd:Int} {V:List Num} {S:List Int} {ws:List Str} {e:Int} (h:WI s s' id bw iV iS kd V S ws e) (hid:id<s.nx) (n:Int) (ws2:List Str) (e2:Int) :
  WI s (((((s'.set id (rdr ws2 e2)).push [iv n]).kill iS).push (IL S++[iv n])).set bw [iv kd,.own iV 0 V.length 2,.own (s'.nx+1) 0 (S.length+1) 1]) id bw iV (s'.nx+1) kd V (S++[n]) ws2 e2:=by
 obtain⟨o1,o2,o3,o4,o5,o6,o7,o8,o9⟩:=h.o
 have hg:∀ k c,k≠bw→k≠s'.nx+1→k≠iS→k≠s'.nx→k≠id→s'.get k=c→(((((s'.set id (rdr ws2 e2)).push [iv n]).kill iS).push (IL S++[iv n])).set bw [iv kd,.own iV 0 V.length 2,.own (s'.nx+1) 0 (S.length+1) 1]).get k=c:=fun k c h1 h2 h3 h4 h5 h6=>by
  rw[St.set_ne _ _ _ _ h1,St.push_ne _ _ _ h2,St.kill_ne _ _ _ h3,St.push_ne (s'.set id _) _ _ h4,St.set_ne _ _ _ _ h5]
  exact h6
 have hn:(((((s'.set id (rdr ws2 e2)).push [iv n]).kill iS).push (IL S++[iv n])).set bw [iv kd,.own iV 0 V.length 2,.own (s'.nx+1) 0 (S.length+1) 1]).nx=s'.nx+2:=rfl
 refine⟨?_,?_,hg _ _ (by omega) (by omega) (by omega) (by omega) (by omega) h.v,?_,⟨o1,o2,by omega,by omega,by omega,by omega,o7,by omega,by omega⟩,hg _ _ (by omega) (by omega) (by omega) (by omega) (by omega) h.z,fun k h1 h2=>hg _ _ (by omega) (by omega) (by omega) (by omega) h2 (h.fr k h1 h2)⟩
 ·rw[St.set_ne _ _ _ _ (by omega),St.push_ne _ _ _ (show id≠s'.nx+1 by omega),St.kill_ne _ _ _ (by omega),St.push_ne (s'.set id _) _ _ (show id≠s'.nx by omega)]
  exact St.set_same _ _ _
 ·rw[St.set_same,List.length_append]
  rfl
 ·rw[St.set_ne _ _ _ _ (by omega)]
  have:IL (S++[n])=IL S++[iv n]:=by simp [IL]
  rw[this]
  exact St.push_same _ _
def nilS:AV:=.v (.slice none 0 0)
def wz:List AV:=[.v (.int .i64 0),.v (.slice none 0 0),.v (.slice none 0 0)]
theorem WI.init (s:St) (id:Nat) (hid:id<s.nx) (kd:Int) (r:List Str) (e:Int) (s0 s1 s2:St) (h0:s0=(((s.push wz).set id (rdr r e)).push wz).set (s.nx+1) [iv kd,nilS,nilS])
  (h1:s1=(s0.push []).set (s.nx+1) ([iv kd,nilS,nilS].set 1 (.own s0.nx 0 0 2))) (h2:s2=(s1.push []).set (s.nx+1) (([iv kd,nilS,nilS].set 1 (.own s0.nx 0 0 2)).set 2 (.own s1.nx 0 0 1))) :
  WI s s2 id (s.nx+1) (s.nx+2) (s.nx+3) kd [] [] r e:=by
 have n0:s0.nx=s.nx+2:=by rw[h0];rfl
 have n1:s1.nx=s.nx+3:=by rw[h1];show s0.nx+1=_;omega
 have n2:s2.nx=s.nx+4:=by rw[h2];show s1.nx+1=_;omega
 have hg:∀ k c,k≠s.nx+1→k≠s.nx+2→k≠s.nx+3→((s.push wz).set id (rdr r e)).get k=c→s2.get k=c:=fun k c q1 q2 q3 q4=>by
  rw[h2,St.set_ne _ _ _ _ q1,St.push_ne s1 _ _ (by omega),h1,St.set_ne _ _ _ _ q1,St.push_ne s0 _ _ (by omega),h0,St.set_ne _ _ _ _ q1,St.push_ne ((s.push wz).set id _) _ _ (by rw[St.nx_set,St.nx_push];omega)]
  exact q4
 refine⟨hg _ _ (by omega) (by omega) (by omega) (St.set_same _ _ _),?_,?_,?_,⟨by omega,by omega,by omega,by omega,by omega,by omega,by omega,by omega,by omega⟩,hg _ _ (by omega) (by omega) (by omega) ?_,fun k q1 q2=>hg _ _ (by omega) (by omega) (by omega) ?_⟩
 ·rw[h2,St.set_same,n0,n1]
  rfl
 ·rw[h2,St.set_ne _ _ _ _ (by omega),St.push_ne s1 _ _ (by omega),h1,St.set_ne _ _ _ _ (by omega)]
  have:=St.push_same s0 []
  rw[n0] at this
  exact this
 ·rw[h2,St.set_ne _ _ _ _ (by omega)]
  have:=St.push_same s1 []
  rw[n1] at this
  exact this
 ·rw[St.set_ne _ _ _ _ (by omega)]
  exact St.push_same s wz
 ·rw[St.set_ne _ _ _ _ q2,St.push_ne s _ _ (by omega)]
theorem numE_le (w:Str) (e:Int) (h:numE w e=0):e=0:=by
 unfold numE at h
 split at h
 ·assumption
 ·exact h
theorem steps_le (l:List Str):∀ e,stepsE l e=0→e=0:=by
 induction l with
 | nil=>exact fun e h=>h
 | cons a l ih=>exact fun e h=>stepE_le a e (ih _ h)
theorem pairs_le:∀ (l:List Str) (e:Int),pairsE l e=0→e=0
 | [],e,h=>h
 | [_],e,h=>h
 | a::b::l,e,h=>stepE_le a e (numE_le b _ (pairs_le l _ h))
theorem WI.init2 (s s0 s1 s2:St) (id:Nat) (hid:id<s.nx) (kd:Int) (V:List Num) (c:List AV) (r:List Str) (e:Int) (n0:s0.nx=s.nx+1) (g0:s0.get id=some (rdr r e)) (z0:s0.get s.nx=some wz) (f0:∀ k,k<s.nx→k≠id→s0.get k=s.get k) (hc:c=NC V)
  (h1:s1=((s0.push c).push wz).set (s.nx+2) [iv kd,.own (s.nx+1) 0 V.length 2,nilS]) (h2:s2=(s1.push []).set (s.nx+2) ([iv kd,.own (s.nx+1) 0 V.length 2,nilS].set 2 (.own s1.nx 0 0 1))) :
  WI s s2 id (s.nx+2) (s.nx+1) (s.nx+3) kd V [] r e:=by
 have n1:s1.nx=s.nx+3:=by rw[h1];show s0.nx+1+1=_;omega
 have n2:s2.nx=s.nx+4:=by rw[h2];show s1.nx+1=_;omega
 have hg:∀ k c,k≠s.nx+1→k≠s.nx+2→k≠s.nx+3→s0.get k=c→s2.get k=c:=fun k c q1 q2 q3 q4=>by
  rw[h2,St.set_ne _ _ _ _ q2,St.push_ne s1 _ _ (by omega),h1,St.set_ne _ _ _ _ q2,St.push_ne (s0.push _) _ _ (by rw[St.nx_push];omega),St.push_ne s0 _ _ (by omega)]
  exact q4
 refine⟨hg _ _ (by omega) (by omega) (by omega) g0,?_,?_,?_,⟨by omega,by omega,by omega,by omega,by omega,by omega,by omega,by omega,by omega⟩,hg _ _ (by omega) (by omega) (by omega) z0,fun k q1 q2=>hg _ _ (by omega) (by omega) (by omega) (f0 k q1 q2)⟩
 ·rw[h2,St.set_same,n1]
  rfl
 ·rw[h2,St.set_ne _ _ _ _ (by omega),St.push_ne s1 _ _ (by omega),h1,St.set_ne _ _ _ _ (by omega),St.push_ne (s0.push _) _ _ (by rw[St.nx_push];omega),hc]
  have:=St.push_same s0 (NC V)
  rw[n0] at this
  exact this
 ·rw[h2,St.set_ne _ _ _ _ (by omega)]
  have:=St.push_same s1 []
  rw[n1] at this
  exact this
theorem wave_ax (s:St) (id:Nat) (ws:List Str) (e:Int) (hw:BL ws) (hwl:∀ w∈ws,w.length≤281474976710656) (hi:s.get id=some (rdr ws e)) (hid:id<s.nx) (hl:ws.length≤10000) (hv:waveWords ws=true) :
  ACall Tryz.prog 99 [.ptr id 0] s fun x s'=>(∃ W,((waveR ws e).2=0→W=(waveR ws e).1)∧x=WA W)∧s'=s.set id (rdr [] (waveR ws e).2):=by
 refine wv_lay id _ _ hid (rdr_idf _ _) ?_
 cases ws with
 | nil=>cases hv
 | cons kw r=>
  have hk:By kw:=hw kw (List.mem_cons_self ..)
  have e1:=str_eq kw sDc hk (by_lit _ rfl)
  have e2:=str_eq kw sPulse hk (by_lit _ rfl)
  have e3:=str_eq kw sPwl hk (by_lit _ rfl)
  have e4:=str_eq kw sTable hk (by_lit _ rfl)
  rw[show bs sDc=ByteArray.mk #[100,99] from rfl] at e1
  rw[show bs sPulse=ByteArray.mk #[112,117,108,115,101] from rfl] at e2
  rw[show bs sPwl=ByteArray.mk #[112,119,108] from rfl] at e3
  rw[show bs sTable=ByteArray.mk #[116,97,98,108,101] from rfl] at e4
  have hd:(SL (kw::r)).head?=some (.v (.string (bs kw))):=rfl
  have hi2:s.get id=some [.sl (r.length+1) (SL (kw::r)),.v (.int .i64 e)]:=hi
  have hnx:∀ zc,ACall Tryz.prog 97 [.ptr id 0] (s.push zc) fun x s'=>x=SV kw∧s'=(s.push zc).set id (rdr r e):=fun zc=>next_ax _ id kw r e (by rw[St.push_ne _ _ _ (by omega)];exact hi) (by rw[St.nx_push];omega) (by rw[List.length_cons] at hl;omega)
  have hid2:id≠s.nx:=by omega
  refine acall_of Tryz.func99 rfl rfl (by simp [Tryz.ntmps99]) ?_;rw[Tryz.ntmps99,Tryz.results99]
  refine go (J4 rTI @hi2 @hd @e2) ?_
  by_cases q1:kw=sPulse
  ·have hw1:waveWords (kw::r)=decide (r.length=7):=by
    show (if kw=sDc then _ else if kw=sPulse then _ else if kw=sPwl then _ else if kw=sTable then _ else _)=_
    rw[q1,if_neg (by decide),if_pos rfl]
   have hr1:waveR (kw::r) e=(⟨2,(r.take 2).map numV,(r.drop 2).map stepV⟩,stepsE (r.drop 2) (numsE (r.take 2) e)):=by
    show (if kw=sPulse then _ else if kw=sPwl then _ else if kw=sTable then _ else _)=_
    rw[if_pos q1]
   rw[hr1,decide_eq_true q1]
   rw[hw1,decide_eq_true_eq] at hv
   clear e1 e2 e3 e4 hr1 hw1
   match r,hv with
   | a::b::r,hv=>
    rw[List.length_cons,List.length_cons] at hv
    have ha:By a:=hw a (by simp)
    have hb2:By b:=hw b (by simp)
    have hr5:r.length=5:=by omega
    rw[show List.take 2 (a::b::r)=[a,b] from rfl,show List.drop 2 (a::b::r)=r from rfl,show List.map numV [a,b]=[numV a,numV b] from rfl,show numsE [a,b] e=numE b (numE a e) from rfl]
    have hn1:=fun zc=>num_ax ((s.push zc).set id (rdr (a::b::r) e)) id a (b::r) e ha (St.set_same _ _ _) (by rw[St.nx_set,St.nx_push];omega) (by rw[List.length_cons];omega)
    have hn2:=fun zc=>num_ax (((s.push zc).set id (rdr (a::b::r) e)).set id (rdr (b::r) (numE a e))) id b r (numE a e) hb2 (St.set_same _ _ _) (by rw[St.nx_set,St.nx_set,St.nx_push];omega) (by omega)
    generalize numE b (numE a e)=ef at *
    generalize numE a e=eg at *
    unfold NM at hn1 hn2
    generalize numV a=n1 at *
    generalize numV b=n2 at *
    refine ifs ?_ ?_ <;> first | exact nope | intro hb
    refine aw_seq ?_
    refine aw_reg fun K hK=>?_;refine rn rTI ?_;refine cont_go (hnx _) ?_;rintro _ s1 ⟨rfl,rfl⟩;refine rn rTI ?_;refine hK _ _ ?_;clear hK K
    refine go rTI ?_
    refine aw_reg fun K hK=>?_;refine rn (cj rTI @zr4) ?_;refine cont_go (hn1 _) ?_;rintro _ s1 ⟨rfl,rfl⟩;refine rn rTI ?_;refine cont_go (hn2 _) ?_;rintro _ s1 ⟨rfl,rfl⟩;refine rn (cj rTI @zr4) ?_;refine hK _ _ ?_;clear hK K
    refine go rTI ?_
    refine aw_nil_box (s.nx+1+1) 2 1 _ (St.set_same _ _ _) rfl ?_
    have h0:=WI.init2 s ((((s.push wz).set id (rdr (a::b::r) e)).set id (rdr (b::r) eg)).set id (rdr r ef)) _ _ id hid 2 [n1,n2] (NC [n1,n2]) r ef rfl (St.set_same _ _ _) (by rw[St.set_ne _ _ _ _ (by omega),St.set_ne _ _ _ _ (by omega),St.set_ne _ _ _ _ (by omega)];exact St.push_same s wz) (fun k h1 h2=>by rw[St.set_ne _ _ _ _ h2,St.set_ne _ _ _ _ h2,St.set_ne _ _ _ _ h2,St.push_ne s _ _ (by omega)]) rfl rfl rfl
    clear hnx hn1 hn2 hi hi2 hd
    refine aw_loop (fun m e' s'=>∃ q e1 S iS,m=q.length∧e'.n=86∧e'.m 0=.ptr id 0∧e'.m 2=.ptr s.nx 0∧e'.m 3=.ptr (s.nx+1+1) 0∧e'.m 22=.v (.int .i64 (S.length:Nat))∧WI s s' id (s.nx+1+1) (s.nx+1) iS 2 [n1,n2] S q e1∧stepsE r ef=stepsE q e1∧(stepsE r ef=0→r.map stepV=S++q.map stepV)∧S.length+q.length=5∧(∀ w∈q,w∈r)) r.length ?_ ?_
    ·refine⟨r,ef,[],s.nx+3,rfl,?_,?_,?_,?_,?_,h0,rfl,fun _=>rfl,by rw[List.length_nil];omega,fun _ h=>h⟩
     all_goals ((first | refine rn rTI ?_ | exact rn0 rTI))
     all_goals trivial
    ·rintro m e' s' ⟨q,e1,S,iS,rfl,h1,k0,k2,k3,k22,hW,hE,hS,hsl,hm⟩
     have gb:s'.get (s.nx+1+1)=some [.v (.int .i64 2),.own (s.nx+1) 0 2 2,.own iS 0 S.length 1]:=hW.b
     have gz:=hW.z
     obtain⟨o1,o2,o3,o4,o5,o6,o7,o8,o9⟩:=hW.o
     clear h0
     match q with
     | []=>
      have h5:(S.length:Int)=5:=by rw[List.length_nil] at hsl;omega
      refine go (J4 rTI @h1 @k22 @h5) ?_
      refine ifs ?_ ?_ <;> first | exact nope | intro hb
      refine go (J7 rTI @h1 @k0 @k2 @k3 @gb @gz) ?_
      rw[List.map_nil,List.append_nil] at hS
      have hE':stepsE r ef=e1:=hE
      rw[hE'] at hS ⊢
      exact⟨⟨2,[n1,n2],S⟩,s.nx+1,iS,fun h=>by rw[hS h],rfl,by omega,by omega,o9,by rw[if_neg (by omega)];exact hW.v,by rw[if_neg (by omega)];exact hW.t,hW.r,fun k h1 h2=>by rw[if_neg (by omega)];exact hW.fr k h1 h2⟩
     | a'::q=>
      rw[List.length_cons] at hsl
      have h5:(S.length:Int)<5:=by omega
      have ha2:By a':=hw a' (by have:=hm a' (by simp);simp [this])
      have hal:=hwl a' (by have:=hm a' (by simp);simp [this])
      have hst:=step_ax s' id a' q e1 ha2 hal hW.r (by omega) (by omega)
      have gt:=hW.t
      have nl:=il_len S
      have hEE:stepsE (a'::q) e1=stepsE q (stepE a' e1):=rfl
      rw[hEE] at hE
      clear hEE
      unfold iv at hst
      refine go (J3 rTI @h1 @k22) ?_
      refine ifs ?_ ?_ <;> first | exact nope | intro hb
      refine aw_skip ?_
      refine go rTI ?_
      refine aw_drwR (.take 0 (.take 1 (.take 2 (.one 3 (.one 4 (.one 5 (.done))))))) 6 [7] [s.nx+1+1] (by kernel_rfl) (by kernel_rfl) fun K hK=>?_;refine dt (J7 rTI @h1 @k0 @k3 @gb @gt @nl) ?_;refine cont_go hst ?_;rintro x s1 ⟨⟨n,rfl,hn⟩,rfl⟩;refine dt (J7 rTI @h1 @k0 @k3 @gb @gt @nl) ?_;refine hK _ _ ?_;clear hK K
      refine go (J3 rTI @h1 @k22) ?_
      simp only[block_normal,loop_normal]
      have hW2:=hW.step (by omega) n q (stepE a' e1)
      have hS2:stepsE r ef=0→List.map stepV r=(S++[n])++List.map stepV q:=fun h=>by
       rw[hS h]
       rw[hE] at h
       rw[hn (steps_le _ _ h)]
       simp
      refine⟨q.length,by rw[List.length_cons];omega,q,stepE a' e1,S++[n],s'.nx+1,rfl,?_,?_,?_,?_,?_,hW2,hE,hS2,by rw[List.length_append];simp;omega,fun w hw=>hm w (List.mem_cons_of_mem _ hw)⟩
      all_goals ((first | refine rn (J4 @h1 @k0 @k2 @k3) ?_ | exact rn0 (J4 @h1 @k0 @k2 @k3)))
      all_goals first | trivial | (rw[List.length_append];rfl)
  rw[decide_eq_false q1]
  refine ifs ?_ ?_ <;> first | exact nope | intro hb
  refine go (cj rTI @e3) ?_
  by_cases q2:kw=sPwl
  ·have hw1:waveWords (kw::r)=decide (2≤r.length∧r.length % 2=0∧r.length≤32):=by
    show (if kw=sDc then _ else if kw=sPulse then _ else if kw=sPwl then _ else if kw=sTable then _ else _)=_
    rw[q2,if_neg (by decide),if_neg (by decide),if_pos rfl]
   have hr1:waveR (kw::r) e=(⟨3,(odds r).map numV,(evens r).map stepV⟩,pairsE r e):=by
    show (if kw=sPulse then _ else if kw=sPwl then _ else if kw=sTable then _ else _)=_
    rw[if_neg q1,if_pos q2]
   rw[hr1,decide_eq_true q2]
   rw[hw1,decide_eq_true_eq] at hv
   obtain⟨hv1,hv2,hv3⟩:=hv
   clear e1 e2 e3 e4 hr1 hw1
   refine ifs ?_ ?_ <;> first | exact nope | intro hb
   refine aw_seq ?_
   refine aw_reg fun K hK=>?_;refine rn rTI ?_;refine cont_go (hnx _) ?_;rintro _ s1 ⟨rfl,rfl⟩;refine rn rTI ?_;refine hK _ _ ?_;clear hK K
   refine go rTI ?_
   refine aw_nil_box (s.nx+1) 1 2 _ (St.set_same _ _ _) rfl ?_
   refine aw_nil_box (s.nx+1) 2 1 _ (St.set_same _ _ _) rfl ?_
   have h0:=WI.init s id hid 3 r e _ _ _ rfl rfl rfl
   refine aw_loop (fun m e' s'=>∃ q e1 V S iV iS,m=q.length∧e'.n=86∧e'.m 0=.ptr id 0∧e'.m 2=.ptr s.nx 0∧e'.m 4=.ptr (s.nx+1) 0∧WI s s' id (s.nx+1) iV iS 3 V S q e1∧pairsE r e=pairsE q e1∧(odds r).map numV=V++(odds q).map numV∧(pairsE r e=0→(evens r).map stepV=S++(evens q).map stepV)∧q.length % 2=0∧V.length+q.length≤32∧S.length+q.length≤32∧(∀ w∈q,w∈r)) r.length ?_ ?_
   ·refine⟨r,e,[],[],s.nx+2,s.nx+3,rfl,?_,?_,?_,?_,h0,rfl,rfl,fun _=>rfl,hv2,by simp;omega,by simp;omega,fun _ h=>h⟩
    all_goals (exact rn0 rTI)
    all_goals trivial
   ·rintro m e' s' ⟨q,e1,V,S,iV,iS,rfl,h1,k0,k2,k4,hW,hE,hV,hS,hm2,hvl,hsl,hm⟩
    have hr:s'.get id=some [.sl q.length (SL q),.v (.int .i64 e1)]:=hW.r
    have gb:s'.get (s.nx+1)=some [.v (.int .i64 3),.own iV 0 V.length 2,.own iS 0 S.length 1]:=hW.b
    have gz:=hW.z
    obtain⟨o1,o2,o3,o4,o5,o6,o7,o8,o9⟩:=hW.o
    clear h0 hi hi2 hd hnx
    match q with
    | []=>
     refine go (J4 rTI @h1 @k0 @hr) ?_
     refine ifs ?_ ?_ <;> first | exact nope | intro hb
     refine go (J8 rTI @h1 @k0 @k2 @k4 @hr @gb @gz) ?_
     have hV':List.map numV (odds r)=V:=by rw[hV];simp [odds]
     have hS':pairsE r e=0→List.map stepV (evens r)=S:=fun h=>by rw[hS h];simp [evens]
     rw[hV']
     have hE':pairsE r e=e1:=hE
     rw[hE'] at hS' ⊢
     exact⟨⟨3,V,S⟩,iV,iS,fun h=>by rw[hS' h],rfl,by omega,by omega,o9,by rw[if_neg (by omega)];exact hW.v,by rw[if_neg (by omega)];exact hW.t,rfl,fun k h1 h2=>by rw[if_neg (by omega)];exact hW.fr k h1 h2⟩
    | [x]=>simp at hm2
    | a::b::q=>
     have ha:By a:=hw a (List.mem_cons_of_mem _ (hm a (by simp)))
     have hal:=hwl a (List.mem_cons_of_mem _ (hm a (by simp)))
     have hb2:By b:=hw b (List.mem_cons_of_mem _ (hm b (by simp)))
     rw[List.length_cons,List.length_cons] at hm2 hvl hsl
     have hst:=step_ax s' id a (b::q) e1 ha hal hW.r (by omega) (by rw[List.length_cons];omega)
     have gt:=hW.t
     have nl:=il_len S
     have hEE:pairsE (a::b::q) e1=pairsE q (numE b (stepE a e1)):=rfl
     rw[hEE] at hE
     clear hEE
     refine go (J4 rTI @h1 @k0 @hr) ?_
     refine ifs ?_ ?_ <;> first | exact nope | intro hb
     refine aw_skip ?_
     refine go rTI ?_
     refine aw_only (fun e'' s''=>∃ n iS',e''.n=86∧e''.m 0=.ptr id 0∧e''.m 2=.ptr s.nx 0∧e''.m 4=.ptr (s.nx+1) 0∧WI s s'' id (s.nx+1) iV iS' 3 V (S++[n]) (b::q) (stepE a e1)∧(stepE a e1=0→n=stepV a)) ?_ ?_
     ·unfold iv at hst
      refine aw_drwR (.take 0 (.take 1 (.take 2 (.one 3 (.one 4 (.one 5 (.done))))))) 6 [7] [s.nx+1] (by kernel_rfl) (by kernel_rfl) fun K hK=>?_;refine dt (J7 rTI @h1 @k0 @k4 @gb @gt @nl) ?_;refine cont_go hst ?_;rintro x s1 ⟨⟨n,rfl,hn⟩,rfl⟩;refine dt (J7 rTI @h1 @k0 @k4 @gb @gt @nl) ?_;refine hK _ _ ?_;clear hK K
      refine⟨rfl,n,s'.nx+1,?_,?_,?_,?_,hW.step (by omega) n (b::q) (stepE a e1),hn⟩
      all_goals (exact rn0 (J4 @h1 @k0 @k2 @k4))
      all_goals trivial
     ·clear hW hst gt nl gb gz h1 k0 k2 k4 o1 o2 o3 o4 o5 o6 o7 o8 o9 hr
      rintro e'' s'' ⟨n,iS',h1,k0,k2,k4,hW,hn⟩
      rw[then_normal]
      have hr:s''.get id=some [.sl (q.length+1) (SL (b::q)),.v (.int .i64 (stepE a e1))]:=hW.r
      have gb:s''.get (s.nx+1)=some [.v (.int .i64 3),.own iV 0 V.length 2,.own iS' 0 (S++[n]).length 1]:=hW.b
      have gv:=hW.v
      have nl:=nc_len V
      obtain⟨o1,o2,o3,o4,o5,o6,o7,o8,o9⟩:=hW.o
      have hnu:=num_ax s'' id b q (stepE a e1) hb2 hW.r (by omega) (by omega)
      have hW2:=hW.num hid (numV b) q (numE b (stepE a e1))
      unfold NM at hnu
      have hS2:pairsE r e=0→List.map stepV (evens r)=(S++[n])++List.map stepV (evens q):=fun h=>by
       rw[hS h]
       rw[hE] at h
       rw[hn (numE_le _ _ (pairs_le _ _ h))]
       simp [evens]
      have hV2:List.map numV (odds r)=(V++[numV b])++List.map numV (odds q):=by rw[hV];simp [odds]
      have hsl2:(S++[n]).length+q.length≤32:=by rw[List.length_append];simp;omega
      have hvl2:(V++[numV b]).length+q.length≤32:=by rw[List.length_append];simp;omega
      clear hn hS hV hsl
      generalize numE b (stepE a e1)=e2 at *
      generalize numV b=n2 at *
      generalize S++[n]=S2 at *
      refine aw_drwR (.take 0 (.take 1 (.take 2 (.one 3 (.one 4 (.one 5 (.done))))))) 6 [7] [s.nx+1] (by kernel_rfl) (by kernel_rfl) fun K hK=>?_;refine dt (J8 rTI @h1 @k0 @k4 @gb @gv @nl @zr2) ?_;refine cont_go hnu ?_;rintro _ s1 ⟨rfl,rfl⟩;refine dt (J8 rTI @h1 @k0 @k4 @gb @gv @nl @zr2) ?_;refine hK _ _ ?_;clear hK K
      simp only[block_normal,loop_normal]
      refine⟨q.length,by rw[List.length_cons,List.length_cons];omega,q,e2,V++[n2],S2,s''.nx+1,iS',rfl,?_,?_,?_,?_,hW2,hE,hV2,hS2,by omega,hvl2,hsl2,fun w hw=>hm w (List.mem_cons_of_mem _ (List.mem_cons_of_mem _ hw))⟩
      all_goals (exact rn0 (J4 @h1 @k0 @k2 @k4))
      all_goals trivial
  rw[decide_eq_false q2]
  refine ifs ?_ ?_ <;> first | exact nope | intro hb
  refine go (cj rTI @e4) ?_
  by_cases q3:kw=sTable
  ·have hr1:waveR (kw::r) e=(⟨4,r.map numV,[]⟩,numsE r e):=by
    show (if kw=sPulse then _ else if kw=sPwl then _ else if kw=sTable then _ else _)=_
    rw[if_neg q1,if_neg q2,if_pos q3]
   rw[hr1,decide_eq_true q3]
   clear e1 e2 e3 e4 hr1 hv
   refine ifs ?_ ?_ <;> first | exact nope | intro hb
   refine aw_seq ?_
   refine aw_reg fun K hK=>?_;refine rn rTI ?_;refine cont_go (hnx _) ?_;rintro _ s1 ⟨rfl,rfl⟩;refine rn rTI ?_;refine hK _ _ ?_;clear hK K
   refine go rTI ?_
   refine aw_nil_box (s.nx+1) 1 2 _ (St.set_same _ _ _) rfl ?_
   refine aw_nil_box (s.nx+1) 2 1 _ (St.set_same _ _ _) rfl ?_
   have h0:=WI.init s id hid 4 r e _ _ _ rfl rfl rfl
   refine aw_loop (fun m e' s'=>∃ q e1 V iV,m=q.length∧e'.n=86∧e'.m 0=.ptr id 0∧e'.m 2=.ptr s.nx 0∧e'.m 5=.ptr (s.nx+1) 0∧WI s s' id (s.nx+1) iV (s.nx+3) 4 V [] q e1∧numsE r e=numsE q e1∧r.map numV=V++q.map numV∧(∀ w∈q,w∈r)) r.length ?_ ?_
   ·refine⟨r,e,[],s.nx+2,rfl,?_,?_,?_,?_,h0,rfl,rfl,fun _ h=>h⟩
    all_goals (exact rn0 rTI)
    all_goals trivial
   ·rintro m e' s' ⟨q,e1,V,iV,rfl,h1,k0,k2,k5,hW,hE,hV,hm⟩
    have hr:s'.get id=some [.sl q.length (SL q),.v (.int .i64 e1)]:=hW.r
    have gb:s'.get (s.nx+1)=some [.v (.int .i64 4),.own iV 0 V.length 2,.own (s.nx+3) 0 0 1]:=hW.b
    have gz:=hW.z
    obtain⟨o1,o2,o3,o4,o5,o6,o7,o8,o9⟩:=hW.o
    cases q with
    | nil=>
     refine go (J4 rTI @h1 @k0 @hr) ?_
     refine ifs ?_ ?_ <;> first | exact nope | intro hb
     refine go (J8 rTI @h1 @k0 @k2 @k5 @hr @gb @gz) ?_
     rw[List.map_nil,List.append_nil] at hV
     rw[hV,hE]
     exact⟨⟨4,V,[]⟩,iV,s.nx+3,fun _=>rfl,rfl,by omega,by omega,o9,by rw[if_neg (by omega)];exact hW.v,by rw[if_neg (by omega)];exact hW.t,rfl,fun k h1 h2=>by rw[if_neg (by omega)];exact hW.fr k h1 h2⟩
    | cons a q=>
     have ha:By a:=hw a (List.mem_cons_of_mem _ (hm a (List.mem_cons_self ..)))
     have hlen:=congrArg List.length hV
     rw[List.length_map,List.length_append,List.length_map,List.length_cons] at hlen
     rw[List.length_cons] at hl
     have hvl:V.length≤10000:=by omega
     have hq:q.length<9223372036854775807:=by omega
     clear hlen
     have hnu:=num_ax s' id a q e1 ha hW.r (by omega) hq
     have hW2:=hW.num hid (numV a) q (numE a e1)
     rw[show numsE (a::q) e1=numsE q (numE a e1) from rfl] at hE
     rw[List.map_cons] at hV
     have gv:=hW.v
     have nl:=nc_len V
     generalize numE a e1=e2 at *
     unfold NM at hnu
     generalize numV a=n at *
     refine go (J4 rTI @h1 @k0 @hr) ?_
     refine ifs ?_ ?_ <;> first | exact nope | intro hb
     refine aw_skip ?_
     refine go rTI ?_
     refine aw_drwR (.take 0 (.take 1 (.take 2 (.one 3 (.one 4 (.one 5 (.done))))))) 6 [7] [s.nx+1] (by kernel_rfl) (by kernel_rfl) fun K hK=>?_;refine dt (J8 rTI @h1 @k0 @k5 @gb @gv @nl @zr2) ?_;refine cont_go hnu ?_;rintro _ s1 ⟨rfl,rfl⟩;refine dt (J8 rTI @h1 @k0 @k5 @gb @gv @nl @zr2) ?_;refine hK _ _ ?_;clear hK K
     simp only[block_normal,loop_normal]
     refine⟨q.length,by rw[List.length_cons];omega,q,e2,V++[n],s'.nx+1,rfl,?_,?_,?_,?_,hW2,hE,by rw[hV];simp,fun w hw=>hm w (List.mem_cons_of_mem _ hw)⟩
     all_goals (exact rn0 (J4 @h1 @k0 @k2 @k5))
     all_goals trivial
  rw[decide_eq_false q3]
  refine ifs ?_ ?_ <;> first | exact nope | intro hb
  refine go (cj rTI @e1) ?_
  have hw1:waveWords (kw::r)=if kw=sDc then decide (r.length=1) else decide (r.length=0):=by
   show (if kw=sDc then _ else if kw=sPulse then _ else if kw=sPwl then _ else if kw=sTable then _ else _)=_
   rw[if_neg q1,if_neg q2,if_neg q3]
  have hr1:waveR (kw::r) e=if kw=sDc then (⟨1,r.map numV,[]⟩,numsE r e) else (⟨1,[numV kw],[]⟩,numE kw e):=by
   show (if kw=sPulse then _ else if kw=sPwl then _ else if kw=sTable then _ else _)=_
   rw[if_neg q1,if_neg q2,if_neg q3]
  rw[hw1] at hv
  rw[hr1]
  clear hw1 hr1 e1 e2 e3 e4 q1 q2 q3
  by_cases q4:kw=sDc
  ·rw[if_pos q4,decide_eq_true_eq] at hv
   rw[if_pos q4,decide_eq_true q4]
   match r,hv with
   | [a],_=>
    have ha:By a:=hw a (by simp)
    have hnu:=fun zc=>num_ax ((s.push zc).set id (rdr [a] e)) id a [] e ha (St.set_same _ _ _) (by rw[St.nx_set,St.nx_push];omega) (by decide)
    rw[show numsE [a] e=numE a e from rfl]
    generalize numE a e=e' at *
    unfold NM at hnu
    rw[show List.map numV [a]=[numV a] from rfl]
    generalize numV a=n at *
    refine ifs ?_ ?_ <;> first | exact nope | intro hb
    refine aw_reg fun K hK=>?_;refine rn rTI ?_;refine cont_go (hnx _) ?_;rintro _ s1 ⟨rfl,rfl⟩;refine rn rTI ?_;refine hK _ _ ?_;clear hK K
    refine go rTI ?_
    refine aw_reg fun K hK=>?_;refine rn (cj rTI @zr2) ?_;refine cont_go (hnu _) ?_;rintro _ s1 ⟨rfl,rfl⟩;refine rn (cj rTI @zr2) ?_;refine hK _ _ ?_;clear hK K
    rw[then_normal]
    refine aw_nil_box s.nx 2 1 _ (St.set_same _ _ _) rfl ?_
    refine go rTI ?_
    exact⟨⟨1,[n],[]⟩,s.nx+1,s.nx+1+1,fun _=>rfl,rfl,by omega,by omega,by omega,by rw[if_neg (by omega),if_neg (by omega),if_pos rfl];rfl,by rw[if_neg (by omega),if_pos rfl];rfl,fun k h1 h2=>by rw[if_neg (by omega),if_neg (by omega),if_neg (by omega),if_neg (by omega)]⟩
  ·rw[if_neg q4,decide_eq_true_eq] at hv
   rw[if_neg q4,decide_eq_false q4]
   match r,hv with
   | [],_=>
    have hnu:=fun zc=>num_ax (s.push zc) id kw [] e hk (by rw[St.push_ne _ _ _ (by omega)];exact hi) (by rw[St.nx_push];omega) (by decide)
    generalize numE kw e=e' at *
    unfold NM at hnu
    generalize numV kw=n at *
    refine ifs ?_ ?_ <;> first | exact nope | intro hb
    refine go rTI ?_
    refine aw_reg fun K hK=>?_;refine rn (cj rTI @zr2) ?_;refine cont_go (hnu _) ?_;rintro _ s1 ⟨rfl,rfl⟩;refine rn (cj rTI @zr2) ?_;refine hK _ _ ?_;clear hK K
    rw[then_normal]
    refine aw_nil_box s.nx 2 1 _ (St.set_same _ _ _) rfl ?_
    refine go rTI ?_
    exact⟨⟨1,[n],[]⟩,s.nx+1,s.nx+1+1,fun _=>rfl,rfl,by omega,by omega,by omega,by rw[if_neg (by omega),if_neg (by omega),if_pos rfl];rfl,by rw[if_neg (by omega),if_pos rfl];rfl,fun k h1 h2=>by rw[if_neg (by omega),if_neg (by omega),if_neg (by omega),if_neg (by omega)]⟩
end CardG
end Go.Proofs.YtdaeancgockacaaGreatDoor
