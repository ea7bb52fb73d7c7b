/-
 DERIVED: THE SHELF's CONTRACTS AT THIS DUMP, IN PLAIN WORDS (tools/lay-plain.mjs out of 'TryzShelf.lean', which tools/lay-shelf.mjs wrote): THE SAME DECLARATIONS UNDER THE SAME NAMES: 'import', 'namespace', 'open', 'def', 'theorem' AND NOTHING ELSE: no command of the shelf's: FOR A HAND-IN. Each laying: the table of numbers ('.._ren') and one theorem, a field a fact of the dump's own or the kernel's comparison; each contract: ONE APPLICATION.
-/
import Derived.Shelf.Strings.Builder1
import Derived.Shelf.Strings.Builder2
import Derived.Shelf.Strings.OnBuilder
import Derived.Shelf.Small.Utf8
import Derived.Shelf.Small.Strs
import Derived.Shelf.Strings.BuilderF
import Derived.Shelf.Utf8.RuneCount
import Derived.Shelf.Strconv.Itoa0
import Derived.Shelf.Strconv.Itoa1
import Derived.Shelf.LaysM
import Derived.Shelf.Strconv.Itoa2
import Derived.Shelf.Strconv.Itoa3
import Derived.Shelf.Strconv.Itoa4
import Derived.Shelf.Strconv.ParseIntEmpty
import Derived.Shelf.Strconv.Clone
import Derived.Shelf.Strconv.SyntaxError
import Derived.Shelf.LaysC
import Derived.Shelf.Strconv.ToError
import Derived.Shelf.Strconv.Lower
import Derived.Shelf.Strconv.ParseUint10
import Derived.Shelf.Strconv.ParseUint10Empty
import Derived.Shelf.Strconv.ParseUint10Any
import Derived.Shelf.Strconv.ParseInt10
import Derived.Shelf.Strconv.RangeError
import Derived.Shelf.Strconv.ToErrorRange
import Derived.Shelf.Strconv.ParseUintEmpty
import Derived.Shelf.Strconv.ParseUint10b64
import Derived.Shelf.Strconv.ParseUint10b32
import Derived.Shelf.Strconv.ParseUint10b16
import Derived.Shelf.Strconv.ParseUint10b8
import Derived.Shelf.Strconv.ParseUint10At
import Derived.Shelf.Strconv.ParseInt10At64
import Derived.Shelf.Strconv.ParseInt10At32
import Derived.Shelf.Strconv.ParseInt10At16
import Derived.Shelf.Strconv.ParseInt10At8
import Derived.Shelf.Strconv.ParseInt10All
import Derived.Shelf.Strconv.ParseIntPublic10
import Derived.Shelf.Strings.Search1
import Derived.Shelf.Strings.Search2
import Derived.Shelf.Strings.Search3
import Derived.Shelf.Strings.Count
import Derived.Shelf.Strings.Shaped
import Derived.Shelf.Strings.Prefix
import Derived.Shelf.Strings.Split
import Derived.Shelf.Strings.Replace
import Derived.Shelf.Strings.SplitShaped
import Derived.Shelf.Unicode.Decode
import Derived.Shelf.Strings.Runes
import Derived.Shelf.Strings.RuneCount
import Derived.Shelf.Strings.IndexAny
import Derived.Shelf.Strings.AsciiSet
import Derived.Shelf.Strings.IndexAnyAll
import Derived.Shelf.Bits.Mul64
import Derived.Shelf.Strings.Repeat
import Derived.Shelf.Unicode.DecodeSlow
import Derived.Shelf.Unicode.DecodeAny
import Derived.Shelf.Slices.Equal
import Derived.Shelf.Slices.Empties2
import Derived.Test.YtmmmmjcfojhiaaaGreatDoorProg
set_option linter.unusedVariables false
set_option linter.unusedSimpArgs false
namespace Go.Proofs
open Go.Shelf
def Tryz.lays156_ren :Go.Shelf.Ren:=⟨fun | 156=>40 | 165=>60 | 166=>38 | 169=>26 | 240=>57 | 241=>84 | 276=>80 | 277=>116 | n=>n,fun | 31=>26 | 9=>9 | 3=>3 | 4=>4 | 0=>0 | 20=>20 | 72=>64 | 76=>89 | 70=>61 | 37=>62 | 75=>88 | 127=>98 | 164=>124 | 5=>5 | 80=>74 | n=>n,fun | n=>n⟩
theorem Tryz.lays156 :Go.Proofs.Lays.n156 Tryz.prog Tryz.lays156_ren:={
 mixed:=by kernel_rfl
 f156:=Tryz.func40.trans (congrArg some (by kernel_rfl))
 f165:=Tryz.func60.trans (congrArg some (by kernel_rfl))
 f166:=Tryz.func38.trans (congrArg some (by kernel_rfl))
 f169:=Tryz.func26.trans (congrArg some (by kernel_rfl))
 f240:=Tryz.func57.trans (congrArg some (by kernel_rfl))
 f241:=Tryz.func84.trans (congrArg some (by kernel_rfl))
 f276:=Tryz.func80.trans (congrArg some (by kernel_rfl))
 f277:=Tryz.func116.trans (congrArg some (by kernel_rfl))
 t0:=Tryz.underlying0
 a0:=Tryz.isAgg0
 z0:=Tryz.sizeOf0
 v0:=Tryz.zeroValue0
 t3:=Tryz.underlying3
 a3:=Tryz.isAgg3
 z3:=Tryz.sizeOf3
 v3:=Tryz.zeroValue3
 t4:=Tryz.underlying4
 a4:=Tryz.isAgg4
 z4:=Tryz.sizeOf4
 v4:=Tryz.zeroValue4
 t9:=Tryz.underlying9
 a9:=Tryz.isAgg9
 z9:=Tryz.sizeOf9
 v9:=Tryz.zeroValue9
 t20:=Tryz.underlying20
 a20:=Tryz.isAgg20
 z20:=Tryz.sizeOf20
 v20:=Tryz.zeroValue20
 t31:=Tryz.underlying26
 a31:=Tryz.isAgg26
 z31:=Tryz.sizeOf26
 v31:=Tryz.zeroValue26
 t37:=Tryz.underlying62
 a37:=Tryz.isAgg62
 z37:=Tryz.sizeOf62
 v37:=Tryz.zeroValue62
 t70:=Tryz.underlying61
 a70:=Tryz.isAgg61
 z70:=Tryz.sizeOf61
 v70:=Tryz.zeroValue61
 t72:=Tryz.underlying64
 a72:=Tryz.isAgg64
 z72:=Tryz.sizeOf64
 v72:=Tryz.zeroValue64
 t75:=Tryz.underlying88
 a75:=Tryz.isAgg88
 z75:=Tryz.sizeOf88
 v75:=Tryz.zeroValue88
 t76:=Tryz.underlying89
 a76:=Tryz.isAgg89
 z76:=Tryz.sizeOf89
 v76:=Tryz.zeroValue89
 t127:=Tryz.underlying98
 a127:=Tryz.isAgg98
 z127:=Tryz.sizeOf98
 v127:=Tryz.zeroValue98
 t164:=Tryz.underlying124
 a164:=Tryz.isAgg124
 z164:=Tryz.sizeOf124
 v164:=Tryz.zeroValue124}
theorem Tryz.Builder_Extra_156 :Builder.Extra Tryz.prog Tryz.lays156_ren:={
 sizeBuilder:=by kernel_rfl
 liesBuilder:=by kernel_rfl
 t5:=Tryz.underlying5
 a5:=Tryz.isAgg5
 z5:=Tryz.sizeOf5
 v5:=Tryz.zeroValue5
 infoByte:=by kernel_rfl
 cellsByte:=by kernel_rfl
 sizeByte:=by kernel_rfl
 neB5:=by decide}
open Go.RowKit in
theorem Tryz.strings_Join (bk o c:Nat) (xs:List ByteArray) (sep:ByteArray) (w:World) (hcells:∀(j:Nat) x,xs[j]? =some x->w.cell? ⟨bk,o+j,none⟩=some (.string x)) (hbk:bk<w.heap.size) (hN:xs.length<=140737488355328) (hcap:xs.length<=c) (hlen:(Lib.join (xs.map (·.data.toList)) sep.data.toList).length<=140737488355328):
  Calls Tryz.prog 40 #[.slice (some ⟨bk,o,none⟩) xs.length c,.string sep] w fun e w'=>e= .returned (.string ⟨(Lib.join (xs.map (·.data.toList)) sep.data.toList).toArray⟩)/\Below w.heap.size w w':=Any.strings_Join Tryz.lays156 Tryz.Builder_Extra_156 bk o c xs sep w hcells hbk hN hcap hlen
def Tryz.lays137_ren :Go.Shelf.Ren:=⟨fun | 137=>98 | 217=>140 | 266=>174 | n=>n,fun | 9=>9 | 5=>5 | 3=>3 | n=>n,fun | n=>n⟩
theorem Tryz.lays137 :Go.Proofs.Lays.n137 Tryz.prog Tryz.lays137_ren:={
 mixed:=by kernel_rfl
 f137:=Tryz.func98.trans (congrArg some (by kernel_rfl))
 f217:=Tryz.func140.trans (congrArg some (by kernel_rfl))
 f266:=Tryz.func174.trans (congrArg some (by kernel_rfl))
 t3:=Tryz.underlying3
 a3:=Tryz.isAgg3
 z3:=Tryz.sizeOf3
 v3:=Tryz.zeroValue3
 t5:=Tryz.underlying5
 a5:=Tryz.isAgg5
 z5:=Tryz.sizeOf5
 v5:=Tryz.zeroValue5
 t9:=Tryz.underlying9
 a9:=Tryz.isAgg9
 z9:=Tryz.sizeOf9
 v9:=Tryz.zeroValue9}
open Go.RowKit in
theorem Tryz.strings_IndexByte (s:ByteArray) (c:Int) (w:World):
  Calls Tryz.prog 98 #[.string s,.int .u8 c] w fun e w'=>e= .returned (.int .i64 (Lib.indexByte s.data.toList c.toNat.toUInt8))/\w'=w:=Any.strings_IndexByte Tryz.lays137 s c w
def Tryz.lays129_ren :Go.Shelf.Ren:=⟨fun | 129=>121 | n=>n,fun | 53=>84 | 3=>3 | 4=>4 | 46=>112 | 5=>5 | 9=>9 | n=>n,fun | n=>n⟩
theorem Tryz.lays129 :Go.Proofs.Lays.n129 Tryz.prog Tryz.lays129_ren:={
 mixed:=by kernel_rfl
 f129:=Tryz.func121.trans (congrArg some (by kernel_rfl))
 t3:=Tryz.underlying3
 a3:=Tryz.isAgg3
 z3:=Tryz.sizeOf3
 v3:=Tryz.zeroValue3
 t4:=Tryz.underlying4
 a4:=Tryz.isAgg4
 z4:=Tryz.sizeOf4
 v4:=Tryz.zeroValue4
 t5:=Tryz.underlying5
 a5:=Tryz.isAgg5
 z5:=Tryz.sizeOf5
 v5:=Tryz.zeroValue5
 t9:=Tryz.underlying9
 a9:=Tryz.isAgg9
 z9:=Tryz.sizeOf9
 v9:=Tryz.zeroValue9
 t46:=Tryz.underlying112
 a46:=Tryz.isAgg112
 z46:=Tryz.sizeOf112
 v46:=Tryz.zeroValue112
 t53:=Tryz.underlying84
 a53:=Tryz.isAgg84
 z53:=Tryz.sizeOf84
 v53:=Tryz.zeroValue84}
theorem Tryz.bits_Len64 (x:Int) (w:World) (h0:0<=x) (h1:x<=18446744073709551615):
  Calls Tryz.prog 121 #[.int .u64 x] w fun e w'=>e= .returned (.int .i64 (Lib.bitLen x.toNat))/\w'=w:=Any.bits_Len64 Tryz.lays129 x w h0 h1
def Tryz.lays285_ren :Go.Shelf.Ren:=⟨fun | 285=>88 | n=>n,fun | 37=>62 | 53=>84 | 3=>3 | 4=>4 | 51=>126 | 9=>9 | 5=>5 | 0=>0 | n=>n,fun | n=>n⟩
theorem Tryz.lays285 :Go.Proofs.Lays.n285 Tryz.prog Tryz.lays285_ren:={
 mixed:=by kernel_rfl
 f285:=Tryz.func88.trans (congrArg some (by kernel_rfl))
 t0:=Tryz.underlying0
 a0:=Tryz.isAgg0
 z0:=Tryz.sizeOf0
 v0:=Tryz.zeroValue0
 t3:=Tryz.underlying3
 a3:=Tryz.isAgg3
 z3:=Tryz.sizeOf3
 v3:=Tryz.zeroValue3
 t4:=Tryz.underlying4
 a4:=Tryz.isAgg4
 z4:=Tryz.sizeOf4
 v4:=Tryz.zeroValue4
 t5:=Tryz.underlying5
 a5:=Tryz.isAgg5
 z5:=Tryz.sizeOf5
 v5:=Tryz.zeroValue5
 t9:=Tryz.underlying9
 a9:=Tryz.isAgg9
 z9:=Tryz.sizeOf9
 v9:=Tryz.zeroValue9
 t37:=Tryz.underlying62
 a37:=Tryz.isAgg62
 z37:=Tryz.sizeOf62
 v37:=Tryz.zeroValue62
 t51:=Tryz.underlying126
 a51:=Tryz.isAgg126
 z51:=Tryz.sizeOf126
 v51:=Tryz.zeroValue126
 t53:=Tryz.underlying84
 a53:=Tryz.isAgg84
 z53:=Tryz.sizeOf84
 v53:=Tryz.zeroValue84}
open Go.RowKit Go.Sort Go.Lib in
theorem Tryz.internal_strconv_formatBase10 (blk off cap:Nat) (u:Nat) (d:Array UInt8) (w:World) (hH:Holds (fun(b:UInt8)=>Value.int .u8 (b.toNat:Int)) w blk off d) (hu:u<10^d.size) (hu64:u<18446744073709551616) (hsz:d.size<4611686018427387904):
  Calls Tryz.prog 88 #[.slice (some ⟨blk,off,none⟩) d.size cap,.int .u64 u] w fun e w'=>
   e= .returned (.tuple #[])/\∃(n v':Nat) (dk:Array UInt8),w'=(putRow (fun(b:UInt8)=>Value.int .u8 (b.toNat:Int)) w blk off dk).drewN n/\FmtInv d.size u 0 v' dk:=Any.internal_strconv_formatBase10 Tryz.lays285 blk off cap u d w hH hu hu64 hsz
def Tryz.laysM171_ren :Go.Shelf.Ren:=⟨fun | 171=>22 | 243=>43 | 246=>62 | 283=>86 | 284=>87 | 285=>88 | 286=>89 | 129=>121 | 317=>120 | 318=>122 | 319=>123 | 320=>124 | 337=>154 | 338=>155 | n=>n,fun | 3=>3 | 9=>9 | 2=>2 | 4=>4 | 171=>132 | 0=>0 | 53=>84 | 37=>62 | 5=>5 | 173=>135 | 212=>164 | 51=>126 | 20=>20 | 213=>165 | 46=>112 | 232=>171 | 233=>215 | n=>n,fun | 17=>1 | 18=>8 | 19=>9 | n=>n⟩
theorem Tryz.laysM171 :Go.Proofs.LaysM.n171 Tryz.prog Tryz.laysM171_ren:={
 mixed:=by kernel_rfl
 f129:=Tryz.func121.trans (congrArg some (by kernel_rfl))
 f171:=Tryz.func22.trans (congrArg some (by kernel_rfl))
 f243:=Tryz.func43.trans (congrArg some (by kernel_rfl))
 f246:=Tryz.func62.trans (congrArg some (by kernel_rfl))
 f283:=Tryz.func86.trans (congrArg some (by kernel_rfl))
 f284:=Tryz.func87.trans (congrArg some (by kernel_rfl))
 f285:=Tryz.func88.trans (congrArg some (by kernel_rfl))
 f286:=Tryz.func89.trans (congrArg some (by kernel_rfl))
 f317:=Tryz.func120.trans (congrArg some (by kernel_rfl))
 f318:=Tryz.func122.trans (congrArg some (by kernel_rfl))
 f319:=Tryz.func123.trans (congrArg some (by kernel_rfl))
 f320:=Tryz.func124.trans (congrArg some (by kernel_rfl))
 f337:=Tryz.func154.trans (congrArg some (by kernel_rfl))
 f338:=Tryz.func155.trans (congrArg some (by kernel_rfl))
 t0:=Tryz.underlying0
 a0:=Tryz.isAgg0
 z0:=Tryz.sizeOf0
 v0:=Tryz.zeroValue0
 t2:=Tryz.underlying2
 a2:=Tryz.isAgg2
 z2:=Tryz.sizeOf2
 v2:=Tryz.zeroValue2
 t3:=Tryz.underlying3
 a3:=Tryz.isAgg3
 z3:=Tryz.sizeOf3
 v3:=Tryz.zeroValue3
 t4:=Tryz.underlying4
 a4:=Tryz.isAgg4
 z4:=Tryz.sizeOf4
 v4:=Tryz.zeroValue4
 t5:=Tryz.underlying5
 a5:=Tryz.isAgg5
 z5:=Tryz.sizeOf5
 v5:=Tryz.zeroValue5
 t9:=Tryz.underlying9
 a9:=Tryz.isAgg9
 z9:=Tryz.sizeOf9
 v9:=Tryz.zeroValue9
 t20:=Tryz.underlying20
 a20:=Tryz.isAgg20
 z20:=Tryz.sizeOf20
 v20:=Tryz.zeroValue20
 t37:=Tryz.underlying62
 a37:=Tryz.isAgg62
 z37:=Tryz.sizeOf62
 v37:=Tryz.zeroValue62
 t46:=Tryz.underlying112
 a46:=Tryz.isAgg112
 z46:=Tryz.sizeOf112
 v46:=Tryz.zeroValue112
 t51:=Tryz.underlying126
 a51:=Tryz.isAgg126
 z51:=Tryz.sizeOf126
 v51:=Tryz.zeroValue126
 t53:=Tryz.underlying84
 a53:=Tryz.isAgg84
 z53:=Tryz.sizeOf84
 v53:=Tryz.zeroValue84
 t171:=Tryz.underlying132
 a171:=Tryz.isAgg132
 z171:=Tryz.sizeOf132
 v171:=Tryz.zeroValue132
 t173:=Tryz.underlying135
 a173:=Tryz.isAgg135
 z173:=Tryz.sizeOf135
 v173:=Tryz.zeroValue135
 t212:=Tryz.underlying164
 a212:=Tryz.isAgg164
 z212:=Tryz.sizeOf164
 v212:=Tryz.zeroValue164
 t213:=Tryz.underlying165
 a213:=Tryz.isAgg165
 z213:=Tryz.sizeOf165
 t232:=Tryz.underlying171
 a232:=Tryz.isAgg171
 z232:=Tryz.sizeOf171
 v232:=Tryz.zeroValue171
 t233:=Tryz.underlying215
 a233:=Tryz.isAgg215
 z233:=Tryz.sizeOf215
 v233:=Tryz.zeroValue215
 g17:=by kernel_rfl
 g18:=by kernel_rfl
 g19:=by kernel_rfl
 i0:=by kernel_rfl
 i2:=by kernel_rfl
 i3:=by kernel_rfl
 i4:=by kernel_rfl
 i5:=by kernel_rfl
 i9:=by kernel_rfl
 i20:=by kernel_rfl
 i37:=by kernel_rfl
 i46:=by kernel_rfl
 i51:=by kernel_rfl
 i53:=by kernel_rfl
 i171:=by kernel_rfl
 i173:=by kernel_rfl
 i212:=by kernel_rfl
 i232:=by kernel_rfl
 i233:=by kernel_rfl
 m17:=by kernel_rfl
 m18:=by kernel_rfl
 m19:=by kernel_rfl}
open Go.RowKit Go.Sort Go.Lib in
theorem Tryz.strconv_Itoa (n:Int) (h0: -9223372036854775808<=n) (h1:n<=9223372036854775807) (w:World) (htab:Lib.TabIs Tryz.prog w "internal/strconv.uint64pow10" .u64 Lib.pow10Tab):
  Calls Tryz.prog 22 #[.int .i64 n] w fun e w'=>e= .returned (.string ⟨(Lib.itoa n).toArray⟩)/\∃k os,w'=grow (w.drewN k) os:=Any.strconv_Itoa Tryz.laysM171 n h0 h1 w htab
def Tryz.laysM173_ren :Go.Shelf.Ren:=⟨fun | 173=>56 | 246=>62 | 283=>86 | 284=>87 | 285=>88 | 286=>89 | 129=>121 | 317=>120 | 318=>122 | 319=>123 | 320=>124 | 337=>154 | 338=>155 | n=>n,fun | 2=>2 | 3=>3 | 9=>9 | 4=>4 | 171=>132 | 0=>0 | 53=>84 | 37=>62 | 5=>5 | 173=>135 | 212=>164 | 51=>126 | 20=>20 | 213=>165 | 46=>112 | 232=>171 | 233=>215 | n=>n,fun | 17=>1 | 18=>8 | 19=>9 | n=>n⟩
theorem Tryz.laysM173 :Go.Proofs.LaysM.n173 Tryz.prog Tryz.laysM173_ren:={
 mixed:=by kernel_rfl
 f129:=Tryz.func121.trans (congrArg some (by kernel_rfl))
 f173:=Tryz.func56.trans (congrArg some (by kernel_rfl))
 f246:=Tryz.func62.trans (congrArg some (by kernel_rfl))
 f283:=Tryz.func86.trans (congrArg some (by kernel_rfl))
 f284:=Tryz.func87.trans (congrArg some (by kernel_rfl))
 f285:=Tryz.func88.trans (congrArg some (by kernel_rfl))
 f286:=Tryz.func89.trans (congrArg some (by kernel_rfl))
 f317:=Tryz.func120.trans (congrArg some (by kernel_rfl))
 f318:=Tryz.func122.trans (congrArg some (by kernel_rfl))
 f319:=Tryz.func123.trans (congrArg some (by kernel_rfl))
 f320:=Tryz.func124.trans (congrArg some (by kernel_rfl))
 f337:=Tryz.func154.trans (congrArg some (by kernel_rfl))
 f338:=Tryz.func155.trans (congrArg some (by kernel_rfl))
 t0:=Tryz.underlying0
 a0:=Tryz.isAgg0
 z0:=Tryz.sizeOf0
 v0:=Tryz.zeroValue0
 t2:=Tryz.underlying2
 a2:=Tryz.isAgg2
 z2:=Tryz.sizeOf2
 v2:=Tryz.zeroValue2
 t3:=Tryz.underlying3
 a3:=Tryz.isAgg3
 z3:=Tryz.sizeOf3
 v3:=Tryz.zeroValue3
 t4:=Tryz.underlying4
 a4:=Tryz.isAgg4
 z4:=Tryz.sizeOf4
 v4:=Tryz.zeroValue4
 t5:=Tryz.underlying5
 a5:=Tryz.isAgg5
 z5:=Tryz.sizeOf5
 v5:=Tryz.zeroValue5
 t9:=Tryz.underlying9
 a9:=Tryz.isAgg9
 z9:=Tryz.sizeOf9
 v9:=Tryz.zeroValue9
 t20:=Tryz.underlying20
 a20:=Tryz.isAgg20
 z20:=Tryz.sizeOf20
 v20:=Tryz.zeroValue20
 t37:=Tryz.underlying62
 a37:=Tryz.isAgg62
 z37:=Tryz.sizeOf62
 v37:=Tryz.zeroValue62
 t46:=Tryz.underlying112
 a46:=Tryz.isAgg112
 z46:=Tryz.sizeOf112
 v46:=Tryz.zeroValue112
 t51:=Tryz.underlying126
 a51:=Tryz.isAgg126
 z51:=Tryz.sizeOf126
 v51:=Tryz.zeroValue126
 t53:=Tryz.underlying84
 a53:=Tryz.isAgg84
 z53:=Tryz.sizeOf84
 v53:=Tryz.zeroValue84
 t171:=Tryz.underlying132
 a171:=Tryz.isAgg132
 z171:=Tryz.sizeOf132
 v171:=Tryz.zeroValue132
 t173:=Tryz.underlying135
 a173:=Tryz.isAgg135
 z173:=Tryz.sizeOf135
 v173:=Tryz.zeroValue135
 t212:=Tryz.underlying164
 a212:=Tryz.isAgg164
 z212:=Tryz.sizeOf164
 v212:=Tryz.zeroValue164
 t213:=Tryz.underlying165
 a213:=Tryz.isAgg165
 z213:=Tryz.sizeOf165
 t232:=Tryz.underlying171
 a232:=Tryz.isAgg171
 z232:=Tryz.sizeOf171
 v232:=Tryz.zeroValue171
 t233:=Tryz.underlying215
 a233:=Tryz.isAgg215
 z233:=Tryz.sizeOf215
 v233:=Tryz.zeroValue215
 g17:=by kernel_rfl
 g18:=by kernel_rfl
 g19:=by kernel_rfl
 i0:=by kernel_rfl
 i2:=by kernel_rfl
 i3:=by kernel_rfl
 i4:=by kernel_rfl
 i5:=by kernel_rfl
 i9:=by kernel_rfl
 i20:=by kernel_rfl
 i37:=by kernel_rfl
 i46:=by kernel_rfl
 i51:=by kernel_rfl
 i53:=by kernel_rfl
 i171:=by kernel_rfl
 i173:=by kernel_rfl
 i212:=by kernel_rfl
 i232:=by kernel_rfl
 i233:=by kernel_rfl
 m17:=by kernel_rfl
 m18:=by kernel_rfl
 m19:=by kernel_rfl}
open Go.RowKit Go.Sort Go.Lib in
theorem Tryz.strconv_FormatInt_10 (n:Int) (h0: -9223372036854775808<=n) (h1:n<=9223372036854775807) (w:World) (htab:Lib.TabIs Tryz.prog w "internal/strconv.uint64pow10" .u64 Lib.pow10Tab):
  Calls Tryz.prog 56 #[.int .i64 n,.int .i64 10] w fun e w'=>e= .returned (.string ⟨(Lib.itoa n).toArray⟩)/\∃k os,w'=grow (w.drewN k) os:=Any.strconv_FormatInt_10 Tryz.laysM173 n h0 h1 w htab
def Tryz.laysC245_ren :Go.Shelf.Ren:=⟨fun | 245=>79 | 279=>112 | 280=>113 | 281=>114 | 282=>115 | 316=>148 | 171=>22 | 205=>149 | 243=>43 | 246=>62 | 283=>86 | 284=>87 | 285=>88 | 286=>89 | 129=>121 | 317=>120 | 318=>122 | 319=>123 | 320=>124 | 337=>154 | 338=>155 | n=>n,fun | 9=>9 | 3=>3 | 75=>88 | 167=>153 | 4=>4 | 168=>156 | 210=>190 | 37=>62 | 0=>0 | 127=>98 | 145=>210 | 143=>208 | 2=>2 | 171=>132 | 53=>84 | 5=>5 | 173=>135 | 212=>164 | 51=>126 | 20=>20 | 213=>165 | 46=>112 | 232=>171 | 233=>215 | 80=>74 | n=>n,fun | 15=>3 | 16=>4 | 17=>1 | 18=>8 | 19=>9 | n=>n⟩
theorem Tryz.laysC245 :Go.Proofs.LaysC.n245 Tryz.prog Tryz.laysC245_ren:={
 mixed:=by kernel_rfl
 f129:=Tryz.func121.trans (congrArg some (by kernel_rfl))
 f171:=Tryz.func22.trans (congrArg some (by kernel_rfl))
 f205:=Tryz.func149.trans (congrArg some (by kernel_rfl))
 f243:=Tryz.func43.trans (congrArg some (by kernel_rfl))
 f245:=Tryz.func79.trans (congrArg some (by kernel_rfl))
 f246:=Tryz.func62.trans (congrArg some (by kernel_rfl))
 f279:=Tryz.func112.trans (congrArg some (by kernel_rfl))
 f280:=Tryz.func113.trans (congrArg some (by kernel_rfl))
 f281:=Tryz.func114.trans (congrArg some (by kernel_rfl))
 f282:=Tryz.func115.trans (congrArg some (by kernel_rfl))
 f283:=Tryz.func86.trans (congrArg some (by kernel_rfl))
 f284:=Tryz.func87.trans (congrArg some (by kernel_rfl))
 f285:=Tryz.func88.trans (congrArg some (by kernel_rfl))
 f286:=Tryz.func89.trans (congrArg some (by kernel_rfl))
 f316:=Tryz.func148.trans (congrArg some (by kernel_rfl))
 f317:=Tryz.func120.trans (congrArg some (by kernel_rfl))
 f318:=Tryz.func122.trans (congrArg some (by kernel_rfl))
 f319:=Tryz.func123.trans (congrArg some (by kernel_rfl))
 f320:=Tryz.func124.trans (congrArg some (by kernel_rfl))
 f337:=Tryz.func154.trans (congrArg some (by kernel_rfl))
 f338:=Tryz.func155.trans (congrArg some (by kernel_rfl))
 t0:=Tryz.underlying0
 a0:=Tryz.isAgg0
 z0:=Tryz.sizeOf0
 v0:=Tryz.zeroValue0
 t2:=Tryz.underlying2
 a2:=Tryz.isAgg2
 z2:=Tryz.sizeOf2
 v2:=Tryz.zeroValue2
 t3:=Tryz.underlying3
 a3:=Tryz.isAgg3
 z3:=Tryz.sizeOf3
 v3:=Tryz.zeroValue3
 t4:=Tryz.underlying4
 a4:=Tryz.isAgg4
 z4:=Tryz.sizeOf4
 v4:=Tryz.zeroValue4
 t5:=Tryz.underlying5
 a5:=Tryz.isAgg5
 z5:=Tryz.sizeOf5
 v5:=Tryz.zeroValue5
 t9:=Tryz.underlying9
 a9:=Tryz.isAgg9
 z9:=Tryz.sizeOf9
 v9:=Tryz.zeroValue9
 t20:=Tryz.underlying20
 a20:=Tryz.isAgg20
 z20:=Tryz.sizeOf20
 v20:=Tryz.zeroValue20
 t37:=Tryz.underlying62
 a37:=Tryz.isAgg62
 z37:=Tryz.sizeOf62
 v37:=Tryz.zeroValue62
 t46:=Tryz.underlying112
 a46:=Tryz.isAgg112
 z46:=Tryz.sizeOf112
 v46:=Tryz.zeroValue112
 t51:=Tryz.underlying126
 a51:=Tryz.isAgg126
 z51:=Tryz.sizeOf126
 v51:=Tryz.zeroValue126
 t53:=Tryz.underlying84
 a53:=Tryz.isAgg84
 z53:=Tryz.sizeOf84
 v53:=Tryz.zeroValue84
 t75:=Tryz.underlying88
 a75:=Tryz.isAgg88
 z75:=Tryz.sizeOf88
 v75:=Tryz.zeroValue88
 t127:=Tryz.underlying98
 a127:=Tryz.isAgg98
 z127:=Tryz.sizeOf98
 v127:=Tryz.zeroValue98
 t143:=Tryz.underlying208
 a143:=Tryz.isAgg208
 z143:=Tryz.sizeOf208
 v143:=Tryz.zeroValue208
 t145:=Tryz.underlying210
 a145:=Tryz.isAgg210
 z145:=Tryz.sizeOf210
 v145:=Tryz.zeroValue210
 t167:=Tryz.underlying153
 a167:=Tryz.isAgg153
 z167:=Tryz.sizeOf153
 v167:=Tryz.zeroValue153
 t168:=Tryz.underlying156
 a168:=Tryz.isAgg156
 z168:=Tryz.sizeOf156
 v168:=Tryz.zeroValue156
 t171:=Tryz.underlying132
 a171:=Tryz.isAgg132
 z171:=Tryz.sizeOf132
 v171:=Tryz.zeroValue132
 t173:=Tryz.underlying135
 a173:=Tryz.isAgg135
 z173:=Tryz.sizeOf135
 v173:=Tryz.zeroValue135
 t210:=Tryz.underlying190
 a210:=Tryz.isAgg190
 z210:=Tryz.sizeOf190
 v210:=Tryz.zeroValue190
 t212:=Tryz.underlying164
 a212:=Tryz.isAgg164
 z212:=Tryz.sizeOf164
 v212:=Tryz.zeroValue164
 t213:=Tryz.underlying165
 a213:=Tryz.isAgg165
 z213:=Tryz.sizeOf165
 t232:=Tryz.underlying171
 a232:=Tryz.isAgg171
 z232:=Tryz.sizeOf171
 v232:=Tryz.zeroValue171
 t233:=Tryz.underlying215
 a233:=Tryz.isAgg215
 z233:=Tryz.sizeOf215
 v233:=Tryz.zeroValue215
 g15:=by kernel_rfl
 g16:=by kernel_rfl
 g17:=by kernel_rfl
 g18:=by kernel_rfl
 g19:=by kernel_rfl
 t80:=Tryz.underlying74
 a80:=Tryz.isAgg74
 z80:=Tryz.sizeOf74
 v80:=Tryz.zeroValue74
 i0:=by kernel_rfl
 i2:=by kernel_rfl
 i3:=by kernel_rfl
 i4:=by kernel_rfl
 i5:=by kernel_rfl
 i9:=by kernel_rfl
 i20:=by kernel_rfl
 i37:=by kernel_rfl
 i46:=by kernel_rfl
 i51:=by kernel_rfl
 i53:=by kernel_rfl
 i75:=by kernel_rfl
 i80:=by kernel_rfl
 i127:=by kernel_rfl
 i143:=by kernel_rfl
 i145:=by kernel_rfl
 i167:=by kernel_rfl
 i168:=by kernel_rfl
 i171:=by kernel_rfl
 i173:=by kernel_rfl
 i210:=by kernel_rfl
 i212:=by kernel_rfl
 i232:=by kernel_rfl
 i233:=by kernel_rfl
 m15:=by kernel_rfl
 m16:=by kernel_rfl
 m17:=by kernel_rfl
 m18:=by kernel_rfl
 m19:=by kernel_rfl
 c0:=by kernel_rfl
 c2:=by kernel_rfl
 c3:=by kernel_rfl
 c4:=by kernel_rfl
 c5:=by kernel_rfl
 c9:=by kernel_rfl
 c20:=by kernel_rfl
 c37:=by kernel_rfl
 c46:=by kernel_rfl
 c51:=by kernel_rfl
 c53:=by kernel_rfl
 c75:=by kernel_rfl
 c80:=by kernel_rfl
 c127:=by kernel_rfl
 c143:=by kernel_rfl
 c145:=by kernel_rfl
 c167:=by kernel_rfl
 c168:=by kernel_rfl
 c171:=by kernel_rfl
 c173:=by kernel_rfl
 c210:=by kernel_rfl
 c212:=by kernel_rfl
 c213:=by kernel_rfl
 c232:=by kernel_rfl
 c233:=by kernel_rfl}
open Go.RowKit in
theorem Tryz.strconv_toError_range (fn s:ByteArray) (base bits:Int) (ev:Value) (w:World) (hlim:s.size<=281474976710656) (hv:w.cell? ⟨4,0,none⟩=some ev) (hev:ev= .nilIface\/∃te pe,ev= .iface te pe):
  Calls Tryz.prog 79 #[.string fn,.string s,.int .i64 base,.int .i64 bits,.iface 153 (.int .i64 1)] w fun e w'=>∃N,e= .returned (.iface 156 (.pointer (some ⟨N,0,none⟩)))/\w.heap.size<=N/\w'.heap[N]? =some (.cells #[.string fn,.string s,ev] 190 (0,0))/\Below w.heap.size w w':=Any.strconv_toError_range Tryz.laysC245 fn s base bits ev w hlim hv hev
def Tryz.laysC174_ren :Go.Shelf.Ren:=⟨fun | 174=>55 | 247=>78 | 245=>79 | 287=>111 | 279=>112 | 280=>113 | 281=>114 | 282=>115 | 321=>146 | 322=>147 | 316=>148 | 171=>22 | 205=>149 | 243=>43 | 246=>62 | 283=>86 | 284=>87 | 285=>88 | 286=>89 | 129=>121 | 317=>120 | 318=>122 | 319=>123 | 320=>124 | 337=>154 | 338=>155 | n=>n,fun | 9=>9 | 3=>3 | 2=>2 | 75=>88 | 85=>109 | 4=>4 | 167=>153 | 5=>5 | 53=>84 | 175=>154 | 46=>112 | 168=>156 | 37=>62 | 0=>0 | 210=>190 | 21=>21 | 127=>98 | 145=>210 | 143=>208 | 171=>132 | 173=>135 | 212=>164 | 51=>126 | 20=>20 | 213=>165 | 232=>171 | 233=>215 | 80=>74 | n=>n,fun | 15=>3 | 16=>4 | 17=>1 | 18=>8 | 19=>9 | n=>n⟩
theorem Tryz.laysC174 :Go.Proofs.LaysC.n174 Tryz.prog Tryz.laysC174_ren:={
 mixed:=by kernel_rfl
 f129:=Tryz.func121.trans (congrArg some (by kernel_rfl))
 f171:=Tryz.func22.trans (congrArg some (by kernel_rfl))
 f174:=Tryz.func55.trans (congrArg some (by kernel_rfl))
 f205:=Tryz.func149.trans (congrArg some (by kernel_rfl))
 f243:=Tryz.func43.trans (congrArg some (by kernel_rfl))
 f245:=Tryz.func79.trans (congrArg some (by kernel_rfl))
 f246:=Tryz.func62.trans (congrArg some (by kernel_rfl))
 f247:=Tryz.func78.trans (congrArg some (by kernel_rfl))
 f279:=Tryz.func112.trans (congrArg some (by kernel_rfl))
 f280:=Tryz.func113.trans (congrArg some (by kernel_rfl))
 f281:=Tryz.func114.trans (congrArg some (by kernel_rfl))
 f282:=Tryz.func115.trans (congrArg some (by kernel_rfl))
 f283:=Tryz.func86.trans (congrArg some (by kernel_rfl))
 f284:=Tryz.func87.trans (congrArg some (by kernel_rfl))
 f285:=Tryz.func88.trans (congrArg some (by kernel_rfl))
 f286:=Tryz.func89.trans (congrArg some (by kernel_rfl))
 f287:=Tryz.func111.trans (congrArg some (by kernel_rfl))
 f316:=Tryz.func148.trans (congrArg some (by kernel_rfl))
 f317:=Tryz.func120.trans (congrArg some (by kernel_rfl))
 f318:=Tryz.func122.trans (congrArg some (by kernel_rfl))
 f319:=Tryz.func123.trans (congrArg some (by kernel_rfl))
 f320:=Tryz.func124.trans (congrArg some (by kernel_rfl))
 f321:=Tryz.func146.trans (congrArg some (by kernel_rfl))
 f322:=Tryz.func147.trans (congrArg some (by kernel_rfl))
 f337:=Tryz.func154.trans (congrArg some (by kernel_rfl))
 f338:=Tryz.func155.trans (congrArg some (by kernel_rfl))
 t0:=Tryz.underlying0
 a0:=Tryz.isAgg0
 z0:=Tryz.sizeOf0
 v0:=Tryz.zeroValue0
 t2:=Tryz.underlying2
 a2:=Tryz.isAgg2
 z2:=Tryz.sizeOf2
 v2:=Tryz.zeroValue2
 t3:=Tryz.underlying3
 a3:=Tryz.isAgg3
 z3:=Tryz.sizeOf3
 v3:=Tryz.zeroValue3
 t4:=Tryz.underlying4
 a4:=Tryz.isAgg4
 z4:=Tryz.sizeOf4
 v4:=Tryz.zeroValue4
 t5:=Tryz.underlying5
 a5:=Tryz.isAgg5
 z5:=Tryz.sizeOf5
 v5:=Tryz.zeroValue5
 t9:=Tryz.underlying9
 a9:=Tryz.isAgg9
 z9:=Tryz.sizeOf9
 v9:=Tryz.zeroValue9
 t20:=Tryz.underlying20
 a20:=Tryz.isAgg20
 z20:=Tryz.sizeOf20
 v20:=Tryz.zeroValue20
 t21:=Tryz.underlying21
 a21:=Tryz.isAgg21
 z21:=Tryz.sizeOf21
 v21:=Tryz.zeroValue21
 t37:=Tryz.underlying62
 a37:=Tryz.isAgg62
 z37:=Tryz.sizeOf62
 v37:=Tryz.zeroValue62
 t46:=Tryz.underlying112
 a46:=Tryz.isAgg112
 z46:=Tryz.sizeOf112
 v46:=Tryz.zeroValue112
 t51:=Tryz.underlying126
 a51:=Tryz.isAgg126
 z51:=Tryz.sizeOf126
 v51:=Tryz.zeroValue126
 t53:=Tryz.underlying84
 a53:=Tryz.isAgg84
 z53:=Tryz.sizeOf84
 v53:=Tryz.zeroValue84
 t75:=Tryz.underlying88
 a75:=Tryz.isAgg88
 z75:=Tryz.sizeOf88
 v75:=Tryz.zeroValue88
 t85:=Tryz.underlying109
 a85:=Tryz.isAgg109
 z85:=Tryz.sizeOf109
 v85:=Tryz.zeroValue109
 t127:=Tryz.underlying98
 a127:=Tryz.isAgg98
 z127:=Tryz.sizeOf98
 v127:=Tryz.zeroValue98
 t143:=Tryz.underlying208
 a143:=Tryz.isAgg208
 z143:=Tryz.sizeOf208
 v143:=Tryz.zeroValue208
 t145:=Tryz.underlying210
 a145:=Tryz.isAgg210
 z145:=Tryz.sizeOf210
 v145:=Tryz.zeroValue210
 t167:=Tryz.underlying153
 a167:=Tryz.isAgg153
 z167:=Tryz.sizeOf153
 v167:=Tryz.zeroValue153
 t168:=Tryz.underlying156
 a168:=Tryz.isAgg156
 z168:=Tryz.sizeOf156
 v168:=Tryz.zeroValue156
 t171:=Tryz.underlying132
 a171:=Tryz.isAgg132
 z171:=Tryz.sizeOf132
 v171:=Tryz.zeroValue132
 t173:=Tryz.underlying135
 a173:=Tryz.isAgg135
 z173:=Tryz.sizeOf135
 v173:=Tryz.zeroValue135
 t175:=Tryz.underlying154
 a175:=Tryz.isAgg154
 z175:=Tryz.sizeOf154
 v175:=Tryz.zeroValue154
 t210:=Tryz.underlying190
 a210:=Tryz.isAgg190
 z210:=Tryz.sizeOf190
 v210:=Tryz.zeroValue190
 t212:=Tryz.underlying164
 a212:=Tryz.isAgg164
 z212:=Tryz.sizeOf164
 v212:=Tryz.zeroValue164
 t213:=Tryz.underlying165
 a213:=Tryz.isAgg165
 z213:=Tryz.sizeOf165
 t232:=Tryz.underlying171
 a232:=Tryz.isAgg171
 z232:=Tryz.sizeOf171
 v232:=Tryz.zeroValue171
 t233:=Tryz.underlying215
 a233:=Tryz.isAgg215
 z233:=Tryz.sizeOf215
 v233:=Tryz.zeroValue215
 g15:=by kernel_rfl
 g16:=by kernel_rfl
 g17:=by kernel_rfl
 g18:=by kernel_rfl
 g19:=by kernel_rfl
 t80:=Tryz.underlying74
 a80:=Tryz.isAgg74
 z80:=Tryz.sizeOf74
 v80:=Tryz.zeroValue74
 i0:=by kernel_rfl
 i2:=by kernel_rfl
 i3:=by kernel_rfl
 i4:=by kernel_rfl
 i5:=by kernel_rfl
 i9:=by kernel_rfl
 i20:=by kernel_rfl
 i21:=by kernel_rfl
 i37:=by kernel_rfl
 i46:=by kernel_rfl
 i51:=by kernel_rfl
 i53:=by kernel_rfl
 i75:=by kernel_rfl
 i80:=by kernel_rfl
 i85:=by kernel_rfl
 i127:=by kernel_rfl
 i143:=by kernel_rfl
 i145:=by kernel_rfl
 i167:=by kernel_rfl
 i168:=by kernel_rfl
 i171:=by kernel_rfl
 i173:=by kernel_rfl
 i175:=by kernel_rfl
 i210:=by kernel_rfl
 i212:=by kernel_rfl
 i232:=by kernel_rfl
 i233:=by kernel_rfl
 m15:=by kernel_rfl
 m16:=by kernel_rfl
 m17:=by kernel_rfl
 m18:=by kernel_rfl
 m19:=by kernel_rfl
 c0:=by kernel_rfl
 c2:=by kernel_rfl
 c3:=by kernel_rfl
 c4:=by kernel_rfl
 c5:=by kernel_rfl
 c9:=by kernel_rfl
 c20:=by kernel_rfl
 c21:=by kernel_rfl
 c37:=by kernel_rfl
 c46:=by kernel_rfl
 c51:=by kernel_rfl
 c53:=by kernel_rfl
 c75:=by kernel_rfl
 c80:=by kernel_rfl
 c85:=by kernel_rfl
 c127:=by kernel_rfl
 c143:=by kernel_rfl
 c145:=by kernel_rfl
 c167:=by kernel_rfl
 c168:=by kernel_rfl
 c171:=by kernel_rfl
 c173:=by kernel_rfl
 c175:=by kernel_rfl
 c210:=by kernel_rfl
 c212:=by kernel_rfl
 c213:=by kernel_rfl
 c232:=by kernel_rfl
 c233:=by kernel_rfl}
open Go.RowKit in
theorem Tryz.strconv_ParseInt_10_at64_ok (s:ByteArray) (hmax:s.size<=9223372036854775806) (v:Int) (h:Lib.parseIntB 64 s.data.toList= .ok v) (w:World):
  Calls Tryz.prog 55 #[.string s,.int .i64 10,.int .i64 64] w fun e w'=>e= .returned (.tuple #[.int .i64 v,.nilIface])/\(w'=w\/∃t,w'=Lib.bytesWorld w 5 t):=Any.strconv_ParseInt_10_at64_ok Tryz.laysC174 s hmax v h w
open Go.RowKit in
theorem Tryz.strconv_ParseInt_10_at64_syntax (s:ByteArray) (hlim:s.size<=281474976710656) (h:Lib.parseIntB 64 s.data.toList=Lib.parseIntB 64 []) (ev:Value) (w:World) (hv:w.cell? ⟨3,0,none⟩=some ev) (hev:ev= .nilIface\/∃te pe,ev= .iface te pe):
  Calls Tryz.prog 55 #[.string s,.int .i64 10,.int .i64 64] w fun e w'=>∃N,e= .returned (.tuple #[.int .i64 (0),.iface 156 (.pointer (some ⟨N,0,none⟩))])/\w.heap.size<=N/\w'.heap[N]? =some (.cells #[.string ⟨#[80,97,114,115,101,73,110,116]⟩,.string s,ev] 190 (0,0))/\Below w.heap.size w w':=Any.strconv_ParseInt_10_at64_syntax Tryz.laysC174 s hlim h ev w hv hev
open Go.RowKit in
theorem Tryz.strconv_ParseInt_10_at64_range (s:ByteArray) (hlim:s.size<=281474976710656) (h:Lib.parseIntB 64 s.data.toList= .range) (ev:Value) (w:World) (hv:w.cell? ⟨4,0,none⟩=some ev) (hev:ev= .nilIface\/∃te pe,ev= .iface te pe):
  Calls Tryz.prog 55 #[.string s,.int .i64 10,.int .i64 64] w fun e w'=>∃N,e= .returned (.tuple #[.int .i64 (Lib.intSat 64 s.data.toList),.iface 156 (.pointer (some ⟨N,0,none⟩))])/\w.heap.size<=N/\w'.heap[N]? =some (.cells #[.string ⟨#[80,97,114,115,101,73,110,116]⟩,.string s,ev] 190 (0,0))/\Below w.heap.size w w':=Any.strconv_ParseInt_10_at64_range Tryz.laysC174 s hlim h ev w hv hev
def Tryz.lays99_ren :Go.Shelf.Ren:=⟨fun | 99=>59 | 206=>83 | n=>n,fun | 9=>9 | 4=>4 | 3=>3 | n=>n,fun | n=>n⟩
theorem Tryz.lays99 :Go.Proofs.Lays.n99 Tryz.prog Tryz.lays99_ren:={
 mixed:=by kernel_rfl
 f99:=Tryz.func59.trans (congrArg some (by kernel_rfl))
 f206:=Tryz.func83.trans (congrArg some (by kernel_rfl))
 t3:=Tryz.underlying3
 a3:=Tryz.isAgg3
 z3:=Tryz.sizeOf3
 v3:=Tryz.zeroValue3
 t4:=Tryz.underlying4
 a4:=Tryz.isAgg4
 z4:=Tryz.sizeOf4
 v4:=Tryz.zeroValue4
 t9:=Tryz.underlying9
 a9:=Tryz.isAgg9
 z9:=Tryz.sizeOf9
 v9:=Tryz.zeroValue9}
open Go.RowKit Go.Lib in
theorem Tryz.strings_HasPrefix (s p:ByteArray) (w:World):
  Calls Tryz.prog 59 #[.string s,.string p] w fun e w'=>e= .returned (.bool (Lib.hasPrefix s.data.toList p.data.toList))/\w'=w:=Any.strings_HasPrefix Tryz.lays99 s p w
def Tryz.lays155_ren :Go.Shelf.Ren:=⟨fun | 155=>61 | 154=>85 | 138=>117 | 165=>60 | 143=>118 | 166=>38 | 197=>119 | 169=>26 | 195=>150 | 218=>151 | 240=>57 | 241=>84 | 219=>152 | 260=>153 | 276=>80 | 277=>116 | 217=>140 | 225=>139 | 224=>138 | 267=>178 | 266=>174 | 314=>183 | n=>n,fun | 9=>9 | 3=>3 | 4=>4 | 72=>64 | 0=>0 | 76=>89 | 105=>160 | 21=>21 | 5=>5 | 70=>61 | 20=>20 | 37=>62 | 75=>88 | 127=>98 | 164=>124 | 46=>112 | 119=>211 | 139=>214 | 138=>213 | 146=>127 | 51=>126 | 80=>74 | n=>n,fun | 1=>5 | 3=>6 | 4=>7 | n=>n⟩
theorem Tryz.lays155 :Go.Proofs.Lays.n155 Tryz.prog Tryz.lays155_ren:={
 mixed:=by kernel_rfl
 f138:=Tryz.func117.trans (congrArg some (by kernel_rfl))
 f143:=Tryz.func118.trans (congrArg some (by kernel_rfl))
 f154:=Tryz.func85.trans (congrArg some (by kernel_rfl))
 f155:=Tryz.func61.trans (congrArg some (by kernel_rfl))
 f165:=Tryz.func60.trans (congrArg some (by kernel_rfl))
 f166:=Tryz.func38.trans (congrArg some (by kernel_rfl))
 f169:=Tryz.func26.trans (congrArg some (by kernel_rfl))
 f195:=Tryz.func150.trans (congrArg some (by kernel_rfl))
 f197:=Tryz.func119.trans (congrArg some (by kernel_rfl))
 f217:=Tryz.func140.trans (congrArg some (by kernel_rfl))
 f218:=Tryz.func151.trans (congrArg some (by kernel_rfl))
 f219:=Tryz.func152.trans (congrArg some (by kernel_rfl))
 f224:=Tryz.func138.trans (congrArg some (by kernel_rfl))
 f225:=Tryz.func139.trans (congrArg some (by kernel_rfl))
 f240:=Tryz.func57.trans (congrArg some (by kernel_rfl))
 f241:=Tryz.func84.trans (congrArg some (by kernel_rfl))
 f260:=Tryz.func153.trans (congrArg some (by kernel_rfl))
 f266:=Tryz.func174.trans (congrArg some (by kernel_rfl))
 f267:=Tryz.func178.trans (congrArg some (by kernel_rfl))
 f276:=Tryz.func80.trans (congrArg some (by kernel_rfl))
 f277:=Tryz.func116.trans (congrArg some (by kernel_rfl))
 f314:=Tryz.func183.trans (congrArg some (by kernel_rfl))
 t0:=Tryz.underlying0
 a0:=Tryz.isAgg0
 z0:=Tryz.sizeOf0
 v0:=Tryz.zeroValue0
 t3:=Tryz.underlying3
 a3:=Tryz.isAgg3
 z3:=Tryz.sizeOf3
 v3:=Tryz.zeroValue3
 t4:=Tryz.underlying4
 a4:=Tryz.isAgg4
 z4:=Tryz.sizeOf4
 v4:=Tryz.zeroValue4
 t5:=Tryz.underlying5
 a5:=Tryz.isAgg5
 z5:=Tryz.sizeOf5
 v5:=Tryz.zeroValue5
 t9:=Tryz.underlying9
 a9:=Tryz.isAgg9
 z9:=Tryz.sizeOf9
 v9:=Tryz.zeroValue9
 t20:=Tryz.underlying20
 a20:=Tryz.isAgg20
 z20:=Tryz.sizeOf20
 v20:=Tryz.zeroValue20
 t21:=Tryz.underlying21
 a21:=Tryz.isAgg21
 z21:=Tryz.sizeOf21
 v21:=Tryz.zeroValue21
 t37:=Tryz.underlying62
 a37:=Tryz.isAgg62
 z37:=Tryz.sizeOf62
 v37:=Tryz.zeroValue62
 t46:=Tryz.underlying112
 a46:=Tryz.isAgg112
 z46:=Tryz.sizeOf112
 v46:=Tryz.zeroValue112
 t51:=Tryz.underlying126
 a51:=Tryz.isAgg126
 z51:=Tryz.sizeOf126
 v51:=Tryz.zeroValue126
 t70:=Tryz.underlying61
 a70:=Tryz.isAgg61
 z70:=Tryz.sizeOf61
 v70:=Tryz.zeroValue61
 t72:=Tryz.underlying64
 a72:=Tryz.isAgg64
 z72:=Tryz.sizeOf64
 v72:=Tryz.zeroValue64
 t75:=Tryz.underlying88
 a75:=Tryz.isAgg88
 z75:=Tryz.sizeOf88
 v75:=Tryz.zeroValue88
 t76:=Tryz.underlying89
 a76:=Tryz.isAgg89
 z76:=Tryz.sizeOf89
 v76:=Tryz.zeroValue89
 t105:=Tryz.underlying160
 a105:=Tryz.isAgg160
 z105:=Tryz.sizeOf160
 v105:=Tryz.zeroValue160
 t119:=Tryz.underlying211
 a119:=Tryz.isAgg211
 z119:=Tryz.sizeOf211
 t127:=Tryz.underlying98
 a127:=Tryz.isAgg98
 z127:=Tryz.sizeOf98
 v127:=Tryz.zeroValue98
 t138:=Tryz.underlying213
 a138:=Tryz.isAgg213
 z138:=Tryz.sizeOf213
 v138:=Tryz.zeroValue213
 t139:=Tryz.underlying214
 a139:=Tryz.isAgg214
 z139:=Tryz.sizeOf214
 v139:=Tryz.zeroValue214
 t146:=Tryz.underlying127
 a146:=Tryz.isAgg127
 z146:=Tryz.sizeOf127
 v146:=Tryz.zeroValue127
 t164:=Tryz.underlying124
 a164:=Tryz.isAgg124
 z164:=Tryz.sizeOf124
 v164:=Tryz.zeroValue124
 g1:=by kernel_rfl
 g3:=by kernel_rfl
 g4:=by kernel_rfl}
theorem Tryz.Builder_Extra_155 :Builder.Extra Tryz.prog Tryz.lays155_ren:={
 sizeBuilder:=by kernel_rfl
 liesBuilder:=by kernel_rfl
 t5:=Tryz.underlying5
 a5:=Tryz.isAgg5
 z5:=Tryz.sizeOf5
 v5:=Tryz.zeroValue5
 infoByte:=by kernel_rfl
 cellsByte:=by kernel_rfl
 sizeByte:=by kernel_rfl
 neB5:=by decide}
open Go.RowKit Go.Lib in
theorem Tryz.strings_ReplaceAll (s old new:ByteArray) (m:Int) (w:World) (hs:s.size<4294967281) (hm:w.cell? ⟨5,0,none⟩=some (.int .i64 m)) (h1:1<=old.size) (hlen:s.size+Lib.countB s old*new.size<=140737488355328):
  Calls Tryz.prog 61 #[.string s,.string old,.string new] w fun e w'=>
   e= .returned (.string ⟨(Lib.replaceAll s.data.toList old.data.toList new.data.toList).toArray⟩)/\Below w.heap.size w w':=Any.strings_ReplaceAll Tryz.lays155 Tryz.Builder_Extra_155 s old new m w hs hm h1 hlen
def Tryz.lays150_ren :Go.Shelf.Ren:=⟨fun | 150=>46 | 153=>65 | 152=>93 | 226=>94 | 227=>95 | 228=>96 | 137=>98 | 119=>137 | 224=>138 | 225=>139 | 217=>140 | 266=>174 | n=>n,fun | 9=>9 | 4=>4 | 3=>3 | 5=>5 | 21=>21 | 117=>145 | 116=>144 | 0=>0 | 46=>112 | 124=>183 | n=>n,fun | n=>n⟩
theorem Tryz.lays150 :Go.Proofs.Lays.n150 Tryz.prog Tryz.lays150_ren:={
 mixed:=by kernel_rfl
 f119:=Tryz.func137.trans (congrArg some (by kernel_rfl))
 f137:=Tryz.func98.trans (congrArg some (by kernel_rfl))
 f150:=Tryz.func46.trans (congrArg some (by kernel_rfl))
 f152:=Tryz.func93.trans (congrArg some (by kernel_rfl))
 f153:=Tryz.func65.trans (congrArg some (by kernel_rfl))
 f217:=Tryz.func140.trans (congrArg some (by kernel_rfl))
 f224:=Tryz.func138.trans (congrArg some (by kernel_rfl))
 f225:=Tryz.func139.trans (congrArg some (by kernel_rfl))
 f226:=Tryz.func94.trans (congrArg some (by kernel_rfl))
 f227:=Tryz.func95.trans (congrArg some (by kernel_rfl))
 f228:=Tryz.func96.trans (congrArg some (by kernel_rfl))
 f266:=Tryz.func174.trans (congrArg some (by kernel_rfl))
 t0:=Tryz.underlying0
 a0:=Tryz.isAgg0
 z0:=Tryz.sizeOf0
 v0:=Tryz.zeroValue0
 t3:=Tryz.underlying3
 a3:=Tryz.isAgg3
 z3:=Tryz.sizeOf3
 v3:=Tryz.zeroValue3
 t4:=Tryz.underlying4
 a4:=Tryz.isAgg4
 z4:=Tryz.sizeOf4
 v4:=Tryz.zeroValue4
 t5:=Tryz.underlying5
 a5:=Tryz.isAgg5
 z5:=Tryz.sizeOf5
 v5:=Tryz.zeroValue5
 t9:=Tryz.underlying9
 a9:=Tryz.isAgg9
 z9:=Tryz.sizeOf9
 v9:=Tryz.zeroValue9
 t21:=Tryz.underlying21
 a21:=Tryz.isAgg21
 z21:=Tryz.sizeOf21
 v21:=Tryz.zeroValue21
 t46:=Tryz.underlying112
 a46:=Tryz.isAgg112
 z46:=Tryz.sizeOf112
 v46:=Tryz.zeroValue112
 t116:=Tryz.underlying144
 a116:=Tryz.isAgg144
 z116:=Tryz.sizeOf144
 t117:=Tryz.underlying145
 a117:=Tryz.isAgg145
 z117:=Tryz.sizeOf145
 v117:=Tryz.zeroValue145
 t124:=Tryz.underlying183
 a124:=Tryz.isAgg183
 z124:=Tryz.sizeOf183
 v124:=Tryz.zeroValue183}
open Go.RowKit Go.Lib in
theorem Tryz.strings_ContainsAny_laid (s chars:ByteArray) (w:World) (hs:s.size<4294967281) (hcs:chars.size<4294967281) (has:∀(j:Nat) b,s.data.toList[j]? =some b->b.toNat<128) (hac:∀(j:Nat) b,chars.data.toList[j]? =some b->b.toNat<128):
  Calls Tryz.prog 46 #[.string s,.string chars] w fun e w'=>e= .returned (.bool (Lib.containsAny s.data.toList chars.data.toList))/\Below w.heap.size w w':=Any.strings_ContainsAny_laid Tryz.lays150 (by kernel_rfl) s chars w hs hcs has hac
def Tryz.lays264_ren :Go.Shelf.Ren:=⟨fun | 264=>82 | n=>n,fun | 53=>84 | 46=>112 | n=>n,fun | n=>n⟩
theorem Tryz.lays264 :Go.Proofs.Lays.n264 Tryz.prog Tryz.lays264_ren:={
 mixed:=by kernel_rfl
 f264:=Tryz.func82.trans (congrArg some (by kernel_rfl))
 t46:=Tryz.underlying112
 a46:=Tryz.isAgg112
 z46:=Tryz.sizeOf112
 v46:=Tryz.zeroValue112
 t53:=Tryz.underlying84
 a53:=Tryz.isAgg84
 z53:=Tryz.sizeOf84
 v53:=Tryz.zeroValue84}
open Go.RowKit Go.Lib in
theorem Tryz.bits_Mul64 (x y:Nat) (hx:x<18446744073709551616) (hy:y<18446744073709551616) (w:World):
  Calls Tryz.prog 82 #[.int .u64 x,.int .u64 y] w fun e w'=>e= .returned (.tuple #[.int .u64 ((x*y/18446744073709551616:Nat):Int),.int .u64 ((x*y % 18446744073709551616:Nat):Int)])/\w'=w:=Any.bits_Mul64 Tryz.lays264 x y hx hy w
def Tryz.lays105_ren :Go.Shelf.Ren:=⟨fun | 105=>39 | 212=>58 | 99=>59 | 165=>60 | 166=>38 | 170=>25 | 169=>26 | 263=>81 | 264=>82 | 206=>83 | 240=>57 | 241=>84 | 276=>80 | 277=>116 | n=>n,fun | 9=>9 | 3=>3 | 4=>4 | 20=>20 | 0=>0 | 46=>112 | 109=>113 | 5=>5 | 72=>64 | 76=>89 | 51=>126 | 146=>127 | 53=>84 | 148=>129 | 70=>61 | 37=>62 | 75=>88 | 127=>98 | 164=>124 | 80=>74 | n=>n,fun | n=>n⟩
theorem Tryz.lays105 :Go.Proofs.Lays.n105 Tryz.prog Tryz.lays105_ren:={
 mixed:=by kernel_rfl
 f99:=Tryz.func59.trans (congrArg some (by kernel_rfl))
 f105:=Tryz.func39.trans (congrArg some (by kernel_rfl))
 f165:=Tryz.func60.trans (congrArg some (by kernel_rfl))
 f166:=Tryz.func38.trans (congrArg some (by kernel_rfl))
 f169:=Tryz.func26.trans (congrArg some (by kernel_rfl))
 f170:=Tryz.func25.trans (congrArg some (by kernel_rfl))
 f206:=Tryz.func83.trans (congrArg some (by kernel_rfl))
 f212:=Tryz.func58.trans (congrArg some (by kernel_rfl))
 f240:=Tryz.func57.trans (congrArg some (by kernel_rfl))
 f241:=Tryz.func84.trans (congrArg some (by kernel_rfl))
 f263:=Tryz.func81.trans (congrArg some (by kernel_rfl))
 f264:=Tryz.func82.trans (congrArg some (by kernel_rfl))
 f276:=Tryz.func80.trans (congrArg some (by kernel_rfl))
 f277:=Tryz.func116.trans (congrArg some (by kernel_rfl))
 t0:=Tryz.underlying0
 a0:=Tryz.isAgg0
 z0:=Tryz.sizeOf0
 v0:=Tryz.zeroValue0
 t3:=Tryz.underlying3
 a3:=Tryz.isAgg3
 z3:=Tryz.sizeOf3
 v3:=Tryz.zeroValue3
 t4:=Tryz.underlying4
 a4:=Tryz.isAgg4
 z4:=Tryz.sizeOf4
 v4:=Tryz.zeroValue4
 t5:=Tryz.underlying5
 a5:=Tryz.isAgg5
 z5:=Tryz.sizeOf5
 v5:=Tryz.zeroValue5
 t9:=Tryz.underlying9
 a9:=Tryz.isAgg9
 z9:=Tryz.sizeOf9
 v9:=Tryz.zeroValue9
 t20:=Tryz.underlying20
 a20:=Tryz.isAgg20
 z20:=Tryz.sizeOf20
 v20:=Tryz.zeroValue20
 t37:=Tryz.underlying62
 a37:=Tryz.isAgg62
 z37:=Tryz.sizeOf62
 v37:=Tryz.zeroValue62
 t46:=Tryz.underlying112
 a46:=Tryz.isAgg112
 z46:=Tryz.sizeOf112
 v46:=Tryz.zeroValue112
 t51:=Tryz.underlying126
 a51:=Tryz.isAgg126
 z51:=Tryz.sizeOf126
 v51:=Tryz.zeroValue126
 t53:=Tryz.underlying84
 a53:=Tryz.isAgg84
 z53:=Tryz.sizeOf84
 v53:=Tryz.zeroValue84
 t70:=Tryz.underlying61
 a70:=Tryz.isAgg61
 z70:=Tryz.sizeOf61
 v70:=Tryz.zeroValue61
 t72:=Tryz.underlying64
 a72:=Tryz.isAgg64
 z72:=Tryz.sizeOf64
 v72:=Tryz.zeroValue64
 t75:=Tryz.underlying88
 a75:=Tryz.isAgg88
 z75:=Tryz.sizeOf88
 v75:=Tryz.zeroValue88
 t76:=Tryz.underlying89
 a76:=Tryz.isAgg89
 z76:=Tryz.sizeOf89
 v76:=Tryz.zeroValue89
 t109:=Tryz.underlying113
 a109:=Tryz.isAgg113
 z109:=Tryz.sizeOf113
 v109:=Tryz.zeroValue113
 t127:=Tryz.underlying98
 a127:=Tryz.isAgg98
 z127:=Tryz.sizeOf98
 v127:=Tryz.zeroValue98
 t146:=Tryz.underlying127
 a146:=Tryz.isAgg127
 z146:=Tryz.sizeOf127
 v146:=Tryz.zeroValue127
 t148:=Tryz.underlying129
 a148:=Tryz.isAgg129
 z148:=Tryz.sizeOf129
 v148:=Tryz.zeroValue129
 t164:=Tryz.underlying124
 a164:=Tryz.isAgg124
 z164:=Tryz.sizeOf124
 v164:=Tryz.zeroValue124}
theorem Tryz.Builder_Extra_105 :Builder.Extra Tryz.prog Tryz.lays105_ren:={
 sizeBuilder:=by kernel_rfl
 liesBuilder:=by kernel_rfl
 t5:=Tryz.underlying5
 a5:=Tryz.isAgg5
 z5:=Tryz.sizeOf5
 v5:=Tryz.zeroValue5
 infoByte:=by kernel_rfl
 cellsByte:=by kernel_rfl
 sizeByte:=by kernel_rfl
 neB5:=by decide}
open Go.RowKit Go.Lib in
theorem Tryz.strings_Repeat (s:ByteArray) (c:Nat) (w:World) (hc:c<=9223372036854775807) (hlen:s.size*c<=140737488355328):
  Calls Tryz.prog 39 #[.string s,.int .i64 c] w fun e w'=>e= .returned (.string ⟨(Lib.repeatL s.data.toList c).toArray⟩)/\Below w.heap.size w w':=Any.strings_Repeat Tryz.lays105 Tryz.Builder_Extra_105 s c w hc hlen
end Go.Proofs
