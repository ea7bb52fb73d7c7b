/-
 DERIVED: THE SHELF's CONTRACTS AT THIS DUMP, IN PLAIN WORDS (tools/lay-plain.mjs out of 'TryzShelf.lean', which tools/lay-shelf.mjs wrote): THE SAME DECLARATIONS UNDER THE SAME NAMES: 'import', 'namespace', 'open', 'def', 'theorem' AND NOTHING ELSE: no command of the shelf's: FOR A HAND-IN. Each laying: the table of numbers ('.._ren') and one theorem, a field a fact of the dump's own or the kernel's comparison; each contract: ONE APPLICATION.
-/
import Derived.Shelf.Strings.Builder1
import Derived.Shelf.Strings.Builder2
import Derived.Shelf.Strings.Trim
import Derived.Shelf.Small.Utf8
import Derived.Shelf.Small.Strs
import Derived.Shelf.Strings.BuilderF
import Derived.Shelf.Utf8.RuneCount
import Derived.Shelf.Strconv.Itoa0
import Derived.Shelf.Strconv.Itoa1
import Derived.Shelf.LaysM
import Derived.Shelf.Strconv.Itoa2
import Derived.Shelf.Strconv.Itoa3
import Derived.Shelf.Strconv.Clone
import Derived.Shelf.Strconv.SyntaxError
import Derived.Shelf.LaysC
import Derived.Shelf.Strconv.ToError
import Derived.Shelf.Strconv.Lower
import Derived.Shelf.Strconv.RangeError
import Derived.Shelf.Strconv.ToErrorRange
import Derived.Shelf.Strings.Search1
import Derived.Shelf.Strings.Search2
import Derived.Shelf.Strings.Search3
import Derived.Shelf.Strings.Count
import Derived.Shelf.Strings.Shaped
import Derived.Shelf.Strings.Prefix
import Derived.Shelf.Strings.Split
import Derived.Shelf.Unicode.Decode
import Derived.Shelf.Strings.Runes
import Derived.Shelf.Strings.RuneCount
import Derived.Shelf.Strings.IndexAny
import Derived.Shelf.Strings.AsciiSet
import Derived.Shelf.Strings.IndexAnyAll
import Derived.Shelf.Bits.Mul64
import Derived.Shelf.Strings.Repeat
import Derived.Shelf.Unicode.DecodeSlow
import Derived.Shelf.Unicode.DecodeAny
import Derived.Shelf.Unicode.DecodeLast
import Derived.Test.YtemphinmoihdaaaGreatDoorProg
set_option linter.unusedVariables false
set_option linter.unusedSimpArgs false
namespace Go.Proofs
open Go.Shelf
def Tryz.lays160_ren :Go.Shelf.Ren:=⟨fun | 160=>150 | 232=>184 | 231=>183 | 227=>99 | 234=>186 | 233=>185 | 236=>188 | 235=>187 | 228=>100 | 271=>207 | 151=>206 | 197=>205 | 120=>221 | 152=>97 | 260=>220 | 137=>138 | 119=>139 | 224=>107 | 225=>106 | 217=>105 | 266=>143 | n=>n,fun | 9=>9 | 4=>4 | 3=>3 | 5=>5 | 117=>160 | 116=>159 | 0=>0 | 124=>206 | 21=>21 | 105=>276 | 46=>97 | 119=>183 | 139=>295 | 138=>294 | n=>n,fun | 3=>10 | 4=>11 | n=>n⟩
theorem Tryz.lays160 :Go.Proofs.Lays.n160 Tryz.prog Tryz.lays160_ren:={
 mixed:=by kernel_rfl
 f119:=Tryz.func139.trans (congrArg some (by kernel_rfl))
 f120:=Tryz.func221.trans (congrArg some (by kernel_rfl))
 f137:=Tryz.func138.trans (congrArg some (by kernel_rfl))
 f151:=Tryz.func206.trans (congrArg some (by kernel_rfl))
 f152:=Tryz.func97.trans (congrArg some (by kernel_rfl))
 f160:=Tryz.func150.trans (congrArg some (by kernel_rfl))
 f197:=Tryz.func205.trans (congrArg some (by kernel_rfl))
 f217:=Tryz.func105.trans (congrArg some (by kernel_rfl))
 f224:=Tryz.func107.trans (congrArg some (by kernel_rfl))
 f225:=Tryz.func106.trans (congrArg some (by kernel_rfl))
 f227:=Tryz.func99.trans (congrArg some (by kernel_rfl))
 f228:=Tryz.func100.trans (congrArg some (by kernel_rfl))
 f231:=Tryz.func183.trans (congrArg some (by kernel_rfl))
 f232:=Tryz.func184.trans (congrArg some (by kernel_rfl))
 f233:=Tryz.func185.trans (congrArg some (by kernel_rfl))
 f234:=Tryz.func186.trans (congrArg some (by kernel_rfl))
 f235:=Tryz.func187.trans (congrArg some (by kernel_rfl))
 f236:=Tryz.func188.trans (congrArg some (by kernel_rfl))
 f260:=Tryz.func220.trans (congrArg some (by kernel_rfl))
 f266:=Tryz.func143.trans (congrArg some (by kernel_rfl))
 f271:=Tryz.func207.trans (congrArg some (by kernel_rfl))
 t0:=Tryz.underlying0
 a0:=Tryz.isAgg0
 z0:=Tryz.sizeOf0
 v0:=Tryz.zeroValue0
 t3:=Tryz.underlying3
 a3:=Tryz.isAgg3
 z3:=Tryz.sizeOf3
 v3:=Tryz.zeroValue3
 t4:=Tryz.underlying4
 a4:=Tryz.isAgg4
 z4:=Tryz.sizeOf4
 v4:=Tryz.zeroValue4
 t5:=Tryz.underlying5
 a5:=Tryz.isAgg5
 z5:=Tryz.sizeOf5
 v5:=Tryz.zeroValue5
 t9:=Tryz.underlying9
 a9:=Tryz.isAgg9
 z9:=Tryz.sizeOf9
 v9:=Tryz.zeroValue9
 t21:=Tryz.underlying21
 a21:=Tryz.isAgg21
 z21:=Tryz.sizeOf21
 v21:=Tryz.zeroValue21
 t46:=Tryz.underlying97
 a46:=Tryz.isAgg97
 z46:=Tryz.sizeOf97
 v46:=Tryz.zeroValue97
 t105:=Tryz.underlying276
 a105:=Tryz.isAgg276
 z105:=Tryz.sizeOf276
 v105:=Tryz.zeroValue276
 t116:=Tryz.underlying159
 a116:=Tryz.isAgg159
 z116:=Tryz.sizeOf159
 t117:=Tryz.underlying160
 a117:=Tryz.isAgg160
 z117:=Tryz.sizeOf160
 v117:=Tryz.zeroValue160
 t119:=Tryz.underlying183
 a119:=Tryz.isAgg183
 z119:=Tryz.sizeOf183
 t124:=Tryz.underlying206
 a124:=Tryz.isAgg206
 z124:=Tryz.sizeOf206
 v124:=Tryz.zeroValue206
 t138:=Tryz.underlying294
 a138:=Tryz.isAgg294
 z138:=Tryz.sizeOf294
 v138:=Tryz.zeroValue294
 t139:=Tryz.underlying295
 a139:=Tryz.isAgg295
 z139:=Tryz.sizeOf295
 v139:=Tryz.zeroValue295
 g3:=by kernel_rfl
 g4:=by kernel_rfl}
def Tryz.lays137_ren :Go.Shelf.Ren:=⟨fun | 137=>138 | 217=>105 | 266=>143 | n=>n,fun | 9=>9 | 5=>5 | 3=>3 | n=>n,fun | n=>n⟩
theorem Tryz.lays137 :Go.Proofs.Lays.n137 Tryz.prog Tryz.lays137_ren:={
 mixed:=by kernel_rfl
 f137:=Tryz.func138.trans (congrArg some (by kernel_rfl))
 f217:=Tryz.func105.trans (congrArg some (by kernel_rfl))
 f266:=Tryz.func143.trans (congrArg some (by kernel_rfl))
 t3:=Tryz.underlying3
 a3:=Tryz.isAgg3
 z3:=Tryz.sizeOf3
 v3:=Tryz.zeroValue3
 t5:=Tryz.underlying5
 a5:=Tryz.isAgg5
 z5:=Tryz.sizeOf5
 v5:=Tryz.zeroValue5
 t9:=Tryz.underlying9
 a9:=Tryz.isAgg9
 z9:=Tryz.sizeOf9
 v9:=Tryz.zeroValue9}
open Go.RowKit in
theorem Tryz.strings_IndexByte (s:ByteArray) (c:Int) (w:World):
  Calls Tryz.prog 138 #[.string s,.int .u8 c] w fun e w'=>e= .returned (.int .i64 (Lib.indexByte s.data.toList c.toNat.toUInt8))/\w'=w:=Any.strings_IndexByte Tryz.lays137 s c w
def Tryz.lays129_ren :Go.Shelf.Ren:=⟨fun | 129=>129 | n=>n,fun | 53=>93 | 3=>3 | 4=>4 | 46=>97 | 5=>5 | 9=>9 | n=>n,fun | n=>n⟩
theorem Tryz.lays129 :Go.Proofs.Lays.n129 Tryz.prog Tryz.lays129_ren:={
 mixed:=by kernel_rfl
 f129:=Tryz.func129.trans (congrArg some (by kernel_rfl))
 t3:=Tryz.underlying3
 a3:=Tryz.isAgg3
 z3:=Tryz.sizeOf3
 v3:=Tryz.zeroValue3
 t4:=Tryz.underlying4
 a4:=Tryz.isAgg4
 z4:=Tryz.sizeOf4
 v4:=Tryz.zeroValue4
 t5:=Tryz.underlying5
 a5:=Tryz.isAgg5
 z5:=Tryz.sizeOf5
 v5:=Tryz.zeroValue5
 t9:=Tryz.underlying9
 a9:=Tryz.isAgg9
 z9:=Tryz.sizeOf9
 v9:=Tryz.zeroValue9
 t46:=Tryz.underlying97
 a46:=Tryz.isAgg97
 z46:=Tryz.sizeOf97
 v46:=Tryz.zeroValue97
 t53:=Tryz.underlying93
 a53:=Tryz.isAgg93
 z53:=Tryz.sizeOf93
 v53:=Tryz.zeroValue93}
theorem Tryz.bits_Len64 (x:Int) (w:World) (h0:0<=x) (h1:x<=18446744073709551615):
  Calls Tryz.prog 129 #[.int .u64 x] w fun e w'=>e= .returned (.int .i64 (Lib.bitLen x.toNat))/\w'=w:=Any.bits_Len64 Tryz.lays129 x w h0 h1
def Tryz.lays285_ren :Go.Shelf.Ren:=⟨fun | 285=>103 | n=>n,fun | 37=>35 | 53=>93 | 3=>3 | 4=>4 | 51=>119 | 9=>9 | 5=>5 | 0=>0 | n=>n,fun | n=>n⟩
theorem Tryz.lays285 :Go.Proofs.Lays.n285 Tryz.prog Tryz.lays285_ren:={
 mixed:=by kernel_rfl
 f285:=Tryz.func103.trans (congrArg some (by kernel_rfl))
 t0:=Tryz.underlying0
 a0:=Tryz.isAgg0
 z0:=Tryz.sizeOf0
 v0:=Tryz.zeroValue0
 t3:=Tryz.underlying3
 a3:=Tryz.isAgg3
 z3:=Tryz.sizeOf3
 v3:=Tryz.zeroValue3
 t4:=Tryz.underlying4
 a4:=Tryz.isAgg4
 z4:=Tryz.sizeOf4
 v4:=Tryz.zeroValue4
 t5:=Tryz.underlying5
 a5:=Tryz.isAgg5
 z5:=Tryz.sizeOf5
 v5:=Tryz.zeroValue5
 t9:=Tryz.underlying9
 a9:=Tryz.isAgg9
 z9:=Tryz.sizeOf9
 v9:=Tryz.zeroValue9
 t37:=Tryz.underlying35
 a37:=Tryz.isAgg35
 z37:=Tryz.sizeOf35
 v37:=Tryz.zeroValue35
 t51:=Tryz.underlying119
 a51:=Tryz.isAgg119
 z51:=Tryz.sizeOf119
 v51:=Tryz.zeroValue119
 t53:=Tryz.underlying93
 a53:=Tryz.isAgg93
 z53:=Tryz.sizeOf93
 v53:=Tryz.zeroValue93}
open Go.RowKit Go.Sort Go.Lib in
theorem Tryz.internal_strconv_formatBase10 (blk off cap:Nat) (u:Nat) (d:Array UInt8) (w:World) (hH:Holds (fun(b:UInt8)=>Value.int .u8 (b.toNat:Int)) w blk off d) (hu:u<10^d.size) (hu64:u<18446744073709551616) (hsz:d.size<4611686018427387904):
  Calls Tryz.prog 103 #[.slice (some ⟨blk,off,none⟩) d.size cap,.int .u64 u] w fun e w'=>
   e= .returned (.tuple #[])/\∃(n v':Nat) (dk:Array UInt8),w'=(putRow (fun(b:UInt8)=>Value.int .u8 (b.toNat:Int)) w blk off dk).drewN n/\FmtInv d.size u 0 v' dk:=Any.internal_strconv_formatBase10 Tryz.lays285 blk off cap u d w hH hu hu64 hsz
def Tryz.laysM171_ren :Go.Shelf.Ren:=⟨fun | 171=>34 | 243=>58 | 246=>79 | 283=>101 | 284=>102 | 285=>103 | 286=>104 | 129=>129 | 317=>132 | 318=>140 | 319=>141 | 320=>142 | 337=>177 | 338=>178 | n=>n,fun | 3=>3 | 9=>9 | 2=>2 | 4=>4 | 171=>162 | 0=>0 | 53=>93 | 37=>35 | 5=>5 | 173=>165 | 212=>208 | 51=>119 | 20=>20 | 213=>209 | 46=>97 | 232=>194 | 233=>273 | n=>n,fun | 17=>3 | 18=>6 | 19=>7 | n=>n⟩
theorem Tryz.laysM171 :Go.Proofs.LaysM.n171 Tryz.prog Tryz.laysM171_ren:={
 mixed:=by kernel_rfl
 f129:=Tryz.func129.trans (congrArg some (by kernel_rfl))
 f171:=Tryz.func34.trans (congrArg some (by kernel_rfl))
 f243:=Tryz.func58.trans (congrArg some (by kernel_rfl))
 f246:=Tryz.func79.trans (congrArg some (by kernel_rfl))
 f283:=Tryz.func101.trans (congrArg some (by kernel_rfl))
 f284:=Tryz.func102.trans (congrArg some (by kernel_rfl))
 f285:=Tryz.func103.trans (congrArg some (by kernel_rfl))
 f286:=Tryz.func104.trans (congrArg some (by kernel_rfl))
 f317:=Tryz.func132.trans (congrArg some (by kernel_rfl))
 f318:=Tryz.func140.trans (congrArg some (by kernel_rfl))
 f319:=Tryz.func141.trans (congrArg some (by kernel_rfl))
 f320:=Tryz.func142.trans (congrArg some (by kernel_rfl))
 f337:=Tryz.func177.trans (congrArg some (by kernel_rfl))
 f338:=Tryz.func178.trans (congrArg some (by kernel_rfl))
 t0:=Tryz.underlying0
 a0:=Tryz.isAgg0
 z0:=Tryz.sizeOf0
 v0:=Tryz.zeroValue0
 t2:=Tryz.underlying2
 a2:=Tryz.isAgg2
 z2:=Tryz.sizeOf2
 v2:=Tryz.zeroValue2
 t3:=Tryz.underlying3
 a3:=Tryz.isAgg3
 z3:=Tryz.sizeOf3
 v3:=Tryz.zeroValue3
 t4:=Tryz.underlying4
 a4:=Tryz.isAgg4
 z4:=Tryz.sizeOf4
 v4:=Tryz.zeroValue4
 t5:=Tryz.underlying5
 a5:=Tryz.isAgg5
 z5:=Tryz.sizeOf5
 v5:=Tryz.zeroValue5
 t9:=Tryz.underlying9
 a9:=Tryz.isAgg9
 z9:=Tryz.sizeOf9
 v9:=Tryz.zeroValue9
 t20:=Tryz.underlying20
 a20:=Tryz.isAgg20
 z20:=Tryz.sizeOf20
 v20:=Tryz.zeroValue20
 t37:=Tryz.underlying35
 a37:=Tryz.isAgg35
 z37:=Tryz.sizeOf35
 v37:=Tryz.zeroValue35
 t46:=Tryz.underlying97
 a46:=Tryz.isAgg97
 z46:=Tryz.sizeOf97
 v46:=Tryz.zeroValue97
 t51:=Tryz.underlying119
 a51:=Tryz.isAgg119
 z51:=Tryz.sizeOf119
 v51:=Tryz.zeroValue119
 t53:=Tryz.underlying93
 a53:=Tryz.isAgg93
 z53:=Tryz.sizeOf93
 v53:=Tryz.zeroValue93
 t171:=Tryz.underlying162
 a171:=Tryz.isAgg162
 z171:=Tryz.sizeOf162
 v171:=Tryz.zeroValue162
 t173:=Tryz.underlying165
 a173:=Tryz.isAgg165
 z173:=Tryz.sizeOf165
 v173:=Tryz.zeroValue165
 t212:=Tryz.underlying208
 a212:=Tryz.isAgg208
 z212:=Tryz.sizeOf208
 v212:=Tryz.zeroValue208
 t213:=Tryz.underlying209
 a213:=Tryz.isAgg209
 z213:=Tryz.sizeOf209
 t232:=Tryz.underlying194
 a232:=Tryz.isAgg194
 z232:=Tryz.sizeOf194
 v232:=Tryz.zeroValue194
 t233:=Tryz.underlying273
 a233:=Tryz.isAgg273
 z233:=Tryz.sizeOf273
 v233:=Tryz.zeroValue273
 g17:=by kernel_rfl
 g18:=by kernel_rfl
 g19:=by kernel_rfl
 i0:=by kernel_rfl
 i2:=by kernel_rfl
 i3:=by kernel_rfl
 i4:=by kernel_rfl
 i5:=by kernel_rfl
 i9:=by kernel_rfl
 i20:=by kernel_rfl
 i37:=by kernel_rfl
 i46:=by kernel_rfl
 i51:=by kernel_rfl
 i53:=by kernel_rfl
 i171:=by kernel_rfl
 i173:=by kernel_rfl
 i212:=by kernel_rfl
 i232:=by kernel_rfl
 i233:=by kernel_rfl
 m17:=by kernel_rfl
 m18:=by kernel_rfl
 m19:=by kernel_rfl}
open Go.RowKit Go.Sort Go.Lib in
theorem Tryz.strconv_Itoa (n:Int) (h0: -9223372036854775808<=n) (h1:n<=9223372036854775807) (w:World) (htab:Lib.TabIs Tryz.prog w "internal/strconv.uint64pow10" .u64 Lib.pow10Tab):
  Calls Tryz.prog 34 #[.int .i64 n] w fun e w'=>e= .returned (.string ⟨(Lib.itoa n).toArray⟩)/\∃k os,w'=grow (w.drewN k) os:=Any.strconv_Itoa Tryz.laysM171 n h0 h1 w htab
def Tryz.laysC245_ren :Go.Shelf.Ren:=⟨fun | 245=>204 | 279=>216 | 280=>217 | 281=>218 | 282=>219 | 316=>224 | 171=>34 | 205=>225 | 243=>58 | 246=>79 | 283=>101 | 284=>102 | 285=>103 | 286=>104 | 129=>129 | 317=>132 | 318=>140 | 319=>141 | 320=>142 | 337=>177 | 338=>178 | n=>n,fun | 9=>9 | 3=>3 | 75=>75 | 167=>283 | 4=>4 | 168=>284 | 210=>291 | 37=>35 | 0=>0 | 127=>85 | 145=>316 | 143=>314 | 2=>2 | 171=>162 | 53=>93 | 5=>5 | 173=>165 | 212=>208 | 51=>119 | 20=>20 | 213=>209 | 46=>97 | 232=>194 | 233=>273 | 80=>51 | n=>n,fun | 15=>8 | 16=>9 | 17=>3 | 18=>6 | 19=>7 | n=>n⟩
theorem Tryz.laysC245 :Go.Proofs.LaysC.n245 Tryz.prog Tryz.laysC245_ren:={
 mixed:=by kernel_rfl
 f129:=Tryz.func129.trans (congrArg some (by kernel_rfl))
 f171:=Tryz.func34.trans (congrArg some (by kernel_rfl))
 f205:=Tryz.func225.trans (congrArg some (by kernel_rfl))
 f243:=Tryz.func58.trans (congrArg some (by kernel_rfl))
 f245:=Tryz.func204.trans (congrArg some (by kernel_rfl))
 f246:=Tryz.func79.trans (congrArg some (by kernel_rfl))
 f279:=Tryz.func216.trans (congrArg some (by kernel_rfl))
 f280:=Tryz.func217.trans (congrArg some (by kernel_rfl))
 f281:=Tryz.func218.trans (congrArg some (by kernel_rfl))
 f282:=Tryz.func219.trans (congrArg some (by kernel_rfl))
 f283:=Tryz.func101.trans (congrArg some (by kernel_rfl))
 f284:=Tryz.func102.trans (congrArg some (by kernel_rfl))
 f285:=Tryz.func103.trans (congrArg some (by kernel_rfl))
 f286:=Tryz.func104.trans (congrArg some (by kernel_rfl))
 f316:=Tryz.func224.trans (congrArg some (by kernel_rfl))
 f317:=Tryz.func132.trans (congrArg some (by kernel_rfl))
 f318:=Tryz.func140.trans (congrArg some (by kernel_rfl))
 f319:=Tryz.func141.trans (congrArg some (by kernel_rfl))
 f320:=Tryz.func142.trans (congrArg some (by kernel_rfl))
 f337:=Tryz.func177.trans (congrArg some (by kernel_rfl))
 f338:=Tryz.func178.trans (congrArg some (by kernel_rfl))
 t0:=Tryz.underlying0
 a0:=Tryz.isAgg0
 z0:=Tryz.sizeOf0
 v0:=Tryz.zeroValue0
 t2:=Tryz.underlying2
 a2:=Tryz.isAgg2
 z2:=Tryz.sizeOf2
 v2:=Tryz.zeroValue2
 t3:=Tryz.underlying3
 a3:=Tryz.isAgg3
 z3:=Tryz.sizeOf3
 v3:=Tryz.zeroValue3
 t4:=Tryz.underlying4
 a4:=Tryz.isAgg4
 z4:=Tryz.sizeOf4
 v4:=Tryz.zeroValue4
 t5:=Tryz.underlying5
 a5:=Tryz.isAgg5
 z5:=Tryz.sizeOf5
 v5:=Tryz.zeroValue5
 t9:=Tryz.underlying9
 a9:=Tryz.isAgg9
 z9:=Tryz.sizeOf9
 v9:=Tryz.zeroValue9
 t20:=Tryz.underlying20
 a20:=Tryz.isAgg20
 z20:=Tryz.sizeOf20
 v20:=Tryz.zeroValue20
 t37:=Tryz.underlying35
 a37:=Tryz.isAgg35
 z37:=Tryz.sizeOf35
 v37:=Tryz.zeroValue35
 t46:=Tryz.underlying97
 a46:=Tryz.isAgg97
 z46:=Tryz.sizeOf97
 v46:=Tryz.zeroValue97
 t51:=Tryz.underlying119
 a51:=Tryz.isAgg119
 z51:=Tryz.sizeOf119
 v51:=Tryz.zeroValue119
 t53:=Tryz.underlying93
 a53:=Tryz.isAgg93
 z53:=Tryz.sizeOf93
 v53:=Tryz.zeroValue93
 t75:=Tryz.underlying75
 a75:=Tryz.isAgg75
 z75:=Tryz.sizeOf75
 v75:=Tryz.zeroValue75
 t127:=Tryz.underlying85
 a127:=Tryz.isAgg85
 z127:=Tryz.sizeOf85
 v127:=Tryz.zeroValue85
 t143:=Tryz.underlying314
 a143:=Tryz.isAgg314
 z143:=Tryz.sizeOf314
 v143:=Tryz.zeroValue314
 t145:=Tryz.underlying316
 a145:=Tryz.isAgg316
 z145:=Tryz.sizeOf316
 v145:=Tryz.zeroValue316
 t167:=Tryz.underlying283
 a167:=Tryz.isAgg283
 z167:=Tryz.sizeOf283
 v167:=Tryz.zeroValue283
 t168:=Tryz.underlying284
 a168:=Tryz.isAgg284
 z168:=Tryz.sizeOf284
 v168:=Tryz.zeroValue284
 t171:=Tryz.underlying162
 a171:=Tryz.isAgg162
 z171:=Tryz.sizeOf162
 v171:=Tryz.zeroValue162
 t173:=Tryz.underlying165
 a173:=Tryz.isAgg165
 z173:=Tryz.sizeOf165
 v173:=Tryz.zeroValue165
 t210:=Tryz.underlying291
 a210:=Tryz.isAgg291
 z210:=Tryz.sizeOf291
 v210:=Tryz.zeroValue291
 t212:=Tryz.underlying208
 a212:=Tryz.isAgg208
 z212:=Tryz.sizeOf208
 v212:=Tryz.zeroValue208
 t213:=Tryz.underlying209
 a213:=Tryz.isAgg209
 z213:=Tryz.sizeOf209
 t232:=Tryz.underlying194
 a232:=Tryz.isAgg194
 z232:=Tryz.sizeOf194
 v232:=Tryz.zeroValue194
 t233:=Tryz.underlying273
 a233:=Tryz.isAgg273
 z233:=Tryz.sizeOf273
 v233:=Tryz.zeroValue273
 g15:=by kernel_rfl
 g16:=by kernel_rfl
 g17:=by kernel_rfl
 g18:=by kernel_rfl
 g19:=by kernel_rfl
 t80:=Tryz.underlying51
 a80:=Tryz.isAgg51
 z80:=Tryz.sizeOf51
 v80:=Tryz.zeroValue51
 i0:=by kernel_rfl
 i2:=by kernel_rfl
 i3:=by kernel_rfl
 i4:=by kernel_rfl
 i5:=by kernel_rfl
 i9:=by kernel_rfl
 i20:=by kernel_rfl
 i37:=by kernel_rfl
 i46:=by kernel_rfl
 i51:=by kernel_rfl
 i53:=by kernel_rfl
 i75:=by kernel_rfl
 i80:=by kernel_rfl
 i127:=by kernel_rfl
 i143:=by kernel_rfl
 i145:=by kernel_rfl
 i167:=by kernel_rfl
 i168:=by kernel_rfl
 i171:=by kernel_rfl
 i173:=by kernel_rfl
 i210:=by kernel_rfl
 i212:=by kernel_rfl
 i232:=by kernel_rfl
 i233:=by kernel_rfl
 m15:=by kernel_rfl
 m16:=by kernel_rfl
 m17:=by kernel_rfl
 m18:=by kernel_rfl
 m19:=by kernel_rfl
 c0:=by kernel_rfl
 c2:=by kernel_rfl
 c3:=by kernel_rfl
 c4:=by kernel_rfl
 c5:=by kernel_rfl
 c9:=by kernel_rfl
 c20:=by kernel_rfl
 c37:=by kernel_rfl
 c46:=by kernel_rfl
 c51:=by kernel_rfl
 c53:=by kernel_rfl
 c75:=by kernel_rfl
 c80:=by kernel_rfl
 c127:=by kernel_rfl
 c143:=by kernel_rfl
 c145:=by kernel_rfl
 c167:=by kernel_rfl
 c168:=by kernel_rfl
 c171:=by kernel_rfl
 c173:=by kernel_rfl
 c210:=by kernel_rfl
 c212:=by kernel_rfl
 c213:=by kernel_rfl
 c232:=by kernel_rfl
 c233:=by kernel_rfl}
open Go.RowKit in
theorem Tryz.strconv_toError_range (fn s:ByteArray) (base bits:Int) (ev:Value) (w:World) (hlim:s.size<=281474976710656) (hv:w.cell? ⟨9,0,none⟩=some ev) (hev:ev= .nilIface\/∃te pe,ev= .iface te pe):
  Calls Tryz.prog 204 #[.string fn,.string s,.int .i64 base,.int .i64 bits,.iface 283 (.int .i64 1)] w fun e w'=>∃N,e= .returned (.iface 284 (.pointer (some ⟨N,0,none⟩)))/\w.heap.size<=N/\w'.heap[N]? =some (.cells #[.string fn,.string s,ev] 291 (0,0))/\Below w.heap.size w w':=Any.strconv_toError_range Tryz.laysC245 fn s base bits ev w hlim hv hev
def Tryz.lays143_ren :Go.Shelf.Ren:=⟨fun | 143=>59 | 219=>80 | 217=>105 | 225=>106 | 224=>107 | 267=>108 | 266=>143 | 314=>144 | n=>n,fun | 9=>9 | 3=>3 | 4=>4 | 5=>5 | 46=>97 | 146=>120 | 51=>119 | n=>n,fun | 1=>1 | n=>n⟩
theorem Tryz.lays143 :Go.Proofs.Lays.n143 Tryz.prog Tryz.lays143_ren:={
 mixed:=by kernel_rfl
 f143:=Tryz.func59.trans (congrArg some (by kernel_rfl))
 f217:=Tryz.func105.trans (congrArg some (by kernel_rfl))
 f219:=Tryz.func80.trans (congrArg some (by kernel_rfl))
 f224:=Tryz.func107.trans (congrArg some (by kernel_rfl))
 f225:=Tryz.func106.trans (congrArg some (by kernel_rfl))
 f266:=Tryz.func143.trans (congrArg some (by kernel_rfl))
 f267:=Tryz.func108.trans (congrArg some (by kernel_rfl))
 f314:=Tryz.func144.trans (congrArg some (by kernel_rfl))
 t3:=Tryz.underlying3
 a3:=Tryz.isAgg3
 z3:=Tryz.sizeOf3
 v3:=Tryz.zeroValue3
 t4:=Tryz.underlying4
 a4:=Tryz.isAgg4
 z4:=Tryz.sizeOf4
 v4:=Tryz.zeroValue4
 t5:=Tryz.underlying5
 a5:=Tryz.isAgg5
 z5:=Tryz.sizeOf5
 v5:=Tryz.zeroValue5
 t9:=Tryz.underlying9
 a9:=Tryz.isAgg9
 z9:=Tryz.sizeOf9
 v9:=Tryz.zeroValue9
 t46:=Tryz.underlying97
 a46:=Tryz.isAgg97
 z46:=Tryz.sizeOf97
 v46:=Tryz.zeroValue97
 t51:=Tryz.underlying119
 a51:=Tryz.isAgg119
 z51:=Tryz.sizeOf119
 v51:=Tryz.zeroValue119
 t146:=Tryz.underlying120
 a146:=Tryz.isAgg120
 z146:=Tryz.sizeOf120
 v146:=Tryz.zeroValue120
 g1:=by kernel_rfl}
open Go.RowKit Go.Lib in
theorem Tryz.strings_Index (s sub:ByteArray) (m:Int) (w:World) (hs:s.size<4294967281) (hm:w.cell? ⟨1,0,none⟩=some (.int .i64 m)):
  Calls Tryz.prog 59 #[.string s,.string sub] w fun e w'=>e= .returned (.int .i64 (Lib.index s.data.toList sub.data.toList))/\w'=w:=Any.strings_Index Tryz.lays143 s sub m w hs hm
def Tryz.lays138_ren :Go.Shelf.Ren:=⟨fun | 138=>272 | 195=>273 | 218=>274 | 143=>59 | 219=>80 | 217=>105 | 225=>106 | 224=>107 | 267=>108 | 266=>143 | 314=>144 | n=>n,fun | 9=>9 | 3=>3 | 4=>4 | 5=>5 | 0=>0 | 46=>97 | 146=>120 | 51=>119 | n=>n,fun | 1=>1 | n=>n⟩
theorem Tryz.lays138 :Go.Proofs.Lays.n138 Tryz.prog Tryz.lays138_ren:={
 mixed:=by kernel_rfl
 f138:=Tryz.func272.trans (congrArg some (by kernel_rfl))
 f143:=Tryz.func59.trans (congrArg some (by kernel_rfl))
 f195:=Tryz.func273.trans (congrArg some (by kernel_rfl))
 f217:=Tryz.func105.trans (congrArg some (by kernel_rfl))
 f218:=Tryz.func274.trans (congrArg some (by kernel_rfl))
 f219:=Tryz.func80.trans (congrArg some (by kernel_rfl))
 f224:=Tryz.func107.trans (congrArg some (by kernel_rfl))
 f225:=Tryz.func106.trans (congrArg some (by kernel_rfl))
 f266:=Tryz.func143.trans (congrArg some (by kernel_rfl))
 f267:=Tryz.func108.trans (congrArg some (by kernel_rfl))
 f314:=Tryz.func144.trans (congrArg some (by kernel_rfl))
 t0:=Tryz.underlying0
 a0:=Tryz.isAgg0
 z0:=Tryz.sizeOf0
 v0:=Tryz.zeroValue0
 t3:=Tryz.underlying3
 a3:=Tryz.isAgg3
 z3:=Tryz.sizeOf3
 v3:=Tryz.zeroValue3
 t4:=Tryz.underlying4
 a4:=Tryz.isAgg4
 z4:=Tryz.sizeOf4
 v4:=Tryz.zeroValue4
 t5:=Tryz.underlying5
 a5:=Tryz.isAgg5
 z5:=Tryz.sizeOf5
 v5:=Tryz.zeroValue5
 t9:=Tryz.underlying9
 a9:=Tryz.isAgg9
 z9:=Tryz.sizeOf9
 v9:=Tryz.zeroValue9
 t46:=Tryz.underlying97
 a46:=Tryz.isAgg97
 z46:=Tryz.sizeOf97
 v46:=Tryz.zeroValue97
 t51:=Tryz.underlying119
 a51:=Tryz.isAgg119
 z51:=Tryz.sizeOf119
 v51:=Tryz.zeroValue119
 t146:=Tryz.underlying120
 a146:=Tryz.isAgg120
 z146:=Tryz.sizeOf120
 v146:=Tryz.zeroValue120
 g1:=by kernel_rfl}
open Go.RowKit Go.Lib in
theorem Tryz.strings_Count_one (s:ByteArray) (c:UInt8) (w:World):
  Calls Tryz.prog 272 #[.string s,.string ⟨#[c]⟩] w fun e w'=>e= .returned (.int .i64 (Lib.countByte s.data.toList c))/\w'=w:=Any.strings_Count_one Tryz.lays138 s c w
def Tryz.lays99_ren :Go.Shelf.Ren:=⟨fun | 99=>51 | 206=>72 | n=>n,fun | 9=>9 | 4=>4 | 3=>3 | n=>n,fun | n=>n⟩
theorem Tryz.lays99 :Go.Proofs.Lays.n99 Tryz.prog Tryz.lays99_ren:={
 mixed:=by kernel_rfl
 f99:=Tryz.func51.trans (congrArg some (by kernel_rfl))
 f206:=Tryz.func72.trans (congrArg some (by kernel_rfl))
 t3:=Tryz.underlying3
 a3:=Tryz.isAgg3
 z3:=Tryz.sizeOf3
 v3:=Tryz.zeroValue3
 t4:=Tryz.underlying4
 a4:=Tryz.isAgg4
 z4:=Tryz.sizeOf4
 v4:=Tryz.zeroValue4
 t9:=Tryz.underlying9
 a9:=Tryz.isAgg9
 z9:=Tryz.sizeOf9
 v9:=Tryz.zeroValue9}
open Go.RowKit Go.Lib in
theorem Tryz.strings_HasPrefix (s p:ByteArray) (w:World):
  Calls Tryz.prog 51 #[.string s,.string p] w fun e w'=>e= .returned (.bool (Lib.hasPrefix s.data.toList p.data.toList))/\w'=w:=Any.strings_HasPrefix Tryz.lays99 s p w
def Tryz.lays150_ren :Go.Shelf.Ren:=⟨fun | 150=>57 | 153=>78 | 152=>97 | 226=>98 | 227=>99 | 228=>100 | 137=>138 | 119=>139 | 224=>107 | 225=>106 | 217=>105 | 266=>143 | n=>n,fun | 9=>9 | 4=>4 | 3=>3 | 5=>5 | 21=>21 | 117=>160 | 116=>159 | 0=>0 | 46=>97 | 124=>206 | n=>n,fun | n=>n⟩
theorem Tryz.lays150 :Go.Proofs.Lays.n150 Tryz.prog Tryz.lays150_ren:={
 mixed:=by kernel_rfl
 f119:=Tryz.func139.trans (congrArg some (by kernel_rfl))
 f137:=Tryz.func138.trans (congrArg some (by kernel_rfl))
 f150:=Tryz.func57.trans (congrArg some (by kernel_rfl))
 f152:=Tryz.func97.trans (congrArg some (by kernel_rfl))
 f153:=Tryz.func78.trans (congrArg some (by kernel_rfl))
 f217:=Tryz.func105.trans (congrArg some (by kernel_rfl))
 f224:=Tryz.func107.trans (congrArg some (by kernel_rfl))
 f225:=Tryz.func106.trans (congrArg some (by kernel_rfl))
 f226:=Tryz.func98.trans (congrArg some (by kernel_rfl))
 f227:=Tryz.func99.trans (congrArg some (by kernel_rfl))
 f228:=Tryz.func100.trans (congrArg some (by kernel_rfl))
 f266:=Tryz.func143.trans (congrArg some (by kernel_rfl))
 t0:=Tryz.underlying0
 a0:=Tryz.isAgg0
 z0:=Tryz.sizeOf0
 v0:=Tryz.zeroValue0
 t3:=Tryz.underlying3
 a3:=Tryz.isAgg3
 z3:=Tryz.sizeOf3
 v3:=Tryz.zeroValue3
 t4:=Tryz.underlying4
 a4:=Tryz.isAgg4
 z4:=Tryz.sizeOf4
 v4:=Tryz.zeroValue4
 t5:=Tryz.underlying5
 a5:=Tryz.isAgg5
 z5:=Tryz.sizeOf5
 v5:=Tryz.zeroValue5
 t9:=Tryz.underlying9
 a9:=Tryz.isAgg9
 z9:=Tryz.sizeOf9
 v9:=Tryz.zeroValue9
 t21:=Tryz.underlying21
 a21:=Tryz.isAgg21
 z21:=Tryz.sizeOf21
 v21:=Tryz.zeroValue21
 t46:=Tryz.underlying97
 a46:=Tryz.isAgg97
 z46:=Tryz.sizeOf97
 v46:=Tryz.zeroValue97
 t116:=Tryz.underlying159
 a116:=Tryz.isAgg159
 z116:=Tryz.sizeOf159
 t117:=Tryz.underlying160
 a117:=Tryz.isAgg160
 z117:=Tryz.sizeOf160
 v117:=Tryz.zeroValue160
 t124:=Tryz.underlying206
 a124:=Tryz.isAgg206
 z124:=Tryz.sizeOf206
 v124:=Tryz.zeroValue206}
open Go.RowKit Go.Lib in
theorem Tryz.strings_ContainsAny_laid (s chars:ByteArray) (w:World) (hs:s.size<4294967281) (hcs:chars.size<4294967281) (has:∀(j:Nat) b,s.data.toList[j]? =some b->b.toNat<128) (hac:∀(j:Nat) b,chars.data.toList[j]? =some b->b.toNat<128):
  Calls Tryz.prog 57 #[.string s,.string chars] w fun e w'=>e= .returned (.bool (Lib.containsAny s.data.toList chars.data.toList))/\Below w.heap.size w w':=Any.strings_ContainsAny_laid Tryz.lays150 (by kernel_rfl) s chars w hs hcs has hac
def Tryz.lays264_ren :Go.Shelf.Ren:=⟨fun | 264=>71 | n=>n,fun | 53=>93 | 46=>97 | n=>n,fun | n=>n⟩
theorem Tryz.lays264 :Go.Proofs.Lays.n264 Tryz.prog Tryz.lays264_ren:={
 mixed:=by kernel_rfl
 f264:=Tryz.func71.trans (congrArg some (by kernel_rfl))
 t46:=Tryz.underlying97
 a46:=Tryz.isAgg97
 z46:=Tryz.sizeOf97
 v46:=Tryz.zeroValue97
 t53:=Tryz.underlying93
 a53:=Tryz.isAgg93
 z53:=Tryz.sizeOf93
 v53:=Tryz.zeroValue93}
open Go.RowKit Go.Lib in
theorem Tryz.bits_Mul64 (x y:Nat) (hx:x<18446744073709551616) (hy:y<18446744073709551616) (w:World):
  Calls Tryz.prog 71 #[.int .u64 x,.int .u64 y] w fun e w'=>e= .returned (.tuple #[.int .u64 ((x*y/18446744073709551616:Nat):Int),.int .u64 ((x*y % 18446744073709551616:Nat):Int)])/\w'=w:=Any.bits_Mul64 Tryz.lays264 x y hx hy w
def Tryz.lays105_ren :Go.Shelf.Ren:=⟨fun | 105=>28 | 212=>50 | 99=>51 | 165=>52 | 166=>27 | 170=>15 | 169=>16 | 263=>70 | 264=>71 | 206=>72 | 240=>49 | 241=>73 | 276=>69 | 277=>91 | n=>n,fun | 9=>9 | 3=>3 | 4=>4 | 20=>20 | 0=>0 | 46=>97 | 109=>98 | 5=>5 | 72=>45 | 76=>76 | 51=>119 | 146=>120 | 53=>93 | 148=>122 | 70=>43 | 37=>35 | 75=>75 | 127=>85 | 164=>117 | 80=>51 | n=>n,fun | n=>n⟩
theorem Tryz.lays105 :Go.Proofs.Lays.n105 Tryz.prog Tryz.lays105_ren:={
 mixed:=by kernel_rfl
 f99:=Tryz.func51.trans (congrArg some (by kernel_rfl))
 f105:=Tryz.func28.trans (congrArg some (by kernel_rfl))
 f165:=Tryz.func52.trans (congrArg some (by kernel_rfl))
 f166:=Tryz.func27.trans (congrArg some (by kernel_rfl))
 f169:=Tryz.func16.trans (congrArg some (by kernel_rfl))
 f170:=Tryz.func15.trans (congrArg some (by kernel_rfl))
 f206:=Tryz.func72.trans (congrArg some (by kernel_rfl))
 f212:=Tryz.func50.trans (congrArg some (by kernel_rfl))
 f240:=Tryz.func49.trans (congrArg some (by kernel_rfl))
 f241:=Tryz.func73.trans (congrArg some (by kernel_rfl))
 f263:=Tryz.func70.trans (congrArg some (by kernel_rfl))
 f264:=Tryz.func71.trans (congrArg some (by kernel_rfl))
 f276:=Tryz.func69.trans (congrArg some (by kernel_rfl))
 f277:=Tryz.func91.trans (congrArg some (by kernel_rfl))
 t0:=Tryz.underlying0
 a0:=Tryz.isAgg0
 z0:=Tryz.sizeOf0
 v0:=Tryz.zeroValue0
 t3:=Tryz.underlying3
 a3:=Tryz.isAgg3
 z3:=Tryz.sizeOf3
 v3:=Tryz.zeroValue3
 t4:=Tryz.underlying4
 a4:=Tryz.isAgg4
 z4:=Tryz.sizeOf4
 v4:=Tryz.zeroValue4
 t5:=Tryz.underlying5
 a5:=Tryz.isAgg5
 z5:=Tryz.sizeOf5
 v5:=Tryz.zeroValue5
 t9:=Tryz.underlying9
 a9:=Tryz.isAgg9
 z9:=Tryz.sizeOf9
 v9:=Tryz.zeroValue9
 t20:=Tryz.underlying20
 a20:=Tryz.isAgg20
 z20:=Tryz.sizeOf20
 v20:=Tryz.zeroValue20
 t37:=Tryz.underlying35
 a37:=Tryz.isAgg35
 z37:=Tryz.sizeOf35
 v37:=Tryz.zeroValue35
 t46:=Tryz.underlying97
 a46:=Tryz.isAgg97
 z46:=Tryz.sizeOf97
 v46:=Tryz.zeroValue97
 t51:=Tryz.underlying119
 a51:=Tryz.isAgg119
 z51:=Tryz.sizeOf119
 v51:=Tryz.zeroValue119
 t53:=Tryz.underlying93
 a53:=Tryz.isAgg93
 z53:=Tryz.sizeOf93
 v53:=Tryz.zeroValue93
 t70:=Tryz.underlying43
 a70:=Tryz.isAgg43
 z70:=Tryz.sizeOf43
 v70:=Tryz.zeroValue43
 t72:=Tryz.underlying45
 a72:=Tryz.isAgg45
 z72:=Tryz.sizeOf45
 v72:=Tryz.zeroValue45
 t75:=Tryz.underlying75
 a75:=Tryz.isAgg75
 z75:=Tryz.sizeOf75
 v75:=Tryz.zeroValue75
 t76:=Tryz.underlying76
 a76:=Tryz.isAgg76
 z76:=Tryz.sizeOf76
 v76:=Tryz.zeroValue76
 t109:=Tryz.underlying98
 a109:=Tryz.isAgg98
 z109:=Tryz.sizeOf98
 v109:=Tryz.zeroValue98
 t127:=Tryz.underlying85
 a127:=Tryz.isAgg85
 z127:=Tryz.sizeOf85
 v127:=Tryz.zeroValue85
 t146:=Tryz.underlying120
 a146:=Tryz.isAgg120
 z146:=Tryz.sizeOf120
 v146:=Tryz.zeroValue120
 t148:=Tryz.underlying122
 a148:=Tryz.isAgg122
 z148:=Tryz.sizeOf122
 v148:=Tryz.zeroValue122
 t164:=Tryz.underlying117
 a164:=Tryz.isAgg117
 z164:=Tryz.sizeOf117
 v164:=Tryz.zeroValue117}
theorem Tryz.Builder_Extra_105 :Builder.Extra Tryz.prog Tryz.lays105_ren:={
 sizeBuilder:=by kernel_rfl
 liesBuilder:=by kernel_rfl
 t5:=Tryz.underlying5
 a5:=Tryz.isAgg5
 z5:=Tryz.sizeOf5
 v5:=Tryz.zeroValue5
 infoByte:=by kernel_rfl
 cellsByte:=by kernel_rfl
 sizeByte:=by kernel_rfl
 neB5:=by decide}
open Go.RowKit Go.Lib in
theorem Tryz.strings_Repeat (s:ByteArray) (c:Nat) (w:World) (hc:c<=9223372036854775807) (hlen:s.size*c<=140737488355328):
  Calls Tryz.prog 28 #[.string s,.int .i64 c] w fun e w'=>e= .returned (.string ⟨(Lib.repeatL s.data.toList c).toArray⟩)/\Below w.heap.size w w':=Any.strings_Repeat Tryz.lays105 Tryz.Builder_Extra_105 s c w hc hlen
end Go.Proofs
