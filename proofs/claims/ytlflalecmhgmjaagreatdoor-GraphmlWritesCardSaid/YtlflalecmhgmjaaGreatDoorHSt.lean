/-
 DERIVED: THE SHELF's CONTRACTS AT THIS DUMP, IN PLAIN WORDS (tools/lay-plain.mjs out of 'TryzShelf.lean', which tools/lay-shelf.mjs wrote): THE SAME DECLARATIONS UNDER THE SAME NAMES: 'import', 'namespace', 'open', 'def', 'theorem' AND NOTHING ELSE: no command of the shelf's: FOR A HAND-IN. Each laying: the table of numbers ('.._ren') and one theorem, a field a fact of the dump's own or the kernel's comparison; each contract: ONE APPLICATION.
-/
import Derived.Shelf.Strings.Builder1
import Derived.Shelf.Strings.Builder2
import Derived.Shelf.Strings.OnBuilder
import Derived.Shelf.Strings.Trim
import Derived.Shelf.Small.Utf8
import Derived.Shelf.Small.Strs
import Derived.Shelf.Strings.BuilderF
import Derived.Shelf.Utf8.RuneCount
import Derived.Shelf.Strconv.Itoa0
import Derived.Shelf.Strconv.Itoa1
import Derived.Shelf.LaysM
import Derived.Shelf.Strconv.Itoa2
import Derived.Shelf.Strconv.Itoa3
import Derived.Shelf.Strconv.Itoa4
import Derived.Shelf.Strconv.ParseIntEmpty
import Derived.Shelf.Strconv.Clone
import Derived.Shelf.Strconv.SyntaxError
import Derived.Shelf.LaysC
import Derived.Shelf.Strconv.ToError
import Derived.Shelf.Strconv.Lower
import Derived.Shelf.Strconv.ParseUint10
import Derived.Shelf.Strconv.ParseUint10Empty
import Derived.Shelf.Strconv.ParseUint10Any
import Derived.Shelf.Strconv.ParseInt10
import Derived.Shelf.Strconv.RangeError
import Derived.Shelf.Strconv.ToErrorRange
import Derived.Shelf.Strconv.ParseUintEmpty
import Derived.Shelf.Strconv.ParseUint10b64
import Derived.Shelf.Strconv.ParseUint10b32
import Derived.Shelf.Strconv.ParseUint10b16
import Derived.Shelf.Strconv.ParseUint10b8
import Derived.Shelf.Strconv.ParseUint10At
import Derived.Shelf.Strconv.ParseInt10At64
import Derived.Shelf.Strconv.ParseInt10At32
import Derived.Shelf.Strconv.ParseInt10At16
import Derived.Shelf.Strconv.ParseInt10At8
import Derived.Shelf.Strconv.ParseInt10All
import Derived.Shelf.Strconv.ParseIntPublic10
import Derived.Shelf.Strings.Search1
import Derived.Shelf.Strings.Search2
import Derived.Shelf.Strings.Search3
import Derived.Shelf.Strings.Count
import Derived.Shelf.Strings.Shaped
import Derived.Shelf.Strings.Prefix
import Derived.Shelf.Strings.Split
import Derived.Shelf.Strings.Replace
import Derived.Shelf.Strings.SplitShaped
import Derived.Shelf.Unicode.Decode
import Derived.Shelf.Strings.Runes
import Derived.Shelf.Strings.RuneCount
import Derived.Shelf.Strings.IndexAny
import Derived.Shelf.Strings.AsciiSet
import Derived.Shelf.Strings.IndexAnyAll
import Derived.Shelf.Bits.Mul64
import Derived.Shelf.Strings.Repeat
import Derived.Shelf.Unicode.DecodeSlow
import Derived.Shelf.Unicode.DecodeAny
import Derived.Shelf.Unicode.DecodeLast
import Derived.Shelf.Slices.Equal
import Derived.Shelf.Slices.Empties2
import Derived.Test.YtlflalecmhgmjaaGreatDoorProg
import Derived.Test.YtlflalecmhgmjaaGreatDoorSWr
import Derived.Lib.ParseIntB
import Derived.Lib.ItoaNum
import Derived.Test.YtlflalecmhgmjaaGreatDoorWEnv
import Derived.Test.YtlflalecmhgmjaaGreatDoorTGw
import Derived.Lib.ConvBytes
import Derived.Lib.ParseIntBTie
set_option linter.unusedVariables false
set_option linter.unusedSimpArgs false
open Go.IntKind (i64 u64 u8 i32)
namespace Go.Proofs
open Go.Shelf
def Tryz.lays137_ren :Go.Shelf.Ren:=⟨fun | 137=>256 | 217=>224 | 266=>285 | n=>n,fun | 9=>9 | 5=>5 | 3=>3 | n=>n,fun | n=>n⟩
theorem Tryz.lays137 :Go.Proofs.Lays.n137 Tryz.prog Tryz.lays137_ren:={
 mixed:=by kernel_rfl
 f137:=Tryz.func256.trans (congrArg some (by kernel_rfl))
 f217:=Tryz.func224.trans (congrArg some (by kernel_rfl))
 f266:=Tryz.func285.trans (congrArg some (by kernel_rfl))
 t3:=Tryz.underlying3
 a3:=Tryz.isAgg3
 z3:=Tryz.sizeOf3
 v3:=Tryz.zeroValue3
 t5:=Tryz.underlying5
 a5:=Tryz.isAgg5
 z5:=Tryz.sizeOf5
 v5:=Tryz.zeroValue5
 t9:=Tryz.underlying9
 a9:=Tryz.isAgg9
 z9:=Tryz.sizeOf9
 v9:=Tryz.zeroValue9}
open Go.RowKit in
theorem Tryz.strings_IndexByte (s:ByteArray) (c:Int) (w:World):
  Calls Tryz.prog 256 #[.string s,.int .u8 c] w fun e w'=>e= .returned (.int .i64 (Lib.indexByte s.data.toList c.toNat.toUInt8))/\w'=w:=Any.strings_IndexByte Tryz.lays137 s c w
def Tryz.lays129_ren :Go.Shelf.Ren:=⟨fun | 129=>240 | n=>n,fun | 53=>146 | 3=>3 | 4=>4 | 46=>170 | 5=>5 | 9=>9 | n=>n,fun | n=>n⟩
theorem Tryz.lays129 :Go.Proofs.Lays.n129 Tryz.prog Tryz.lays129_ren:={
 mixed:=by kernel_rfl
 f129:=Tryz.func240.trans (congrArg some (by kernel_rfl))
 t3:=Tryz.underlying3
 a3:=Tryz.isAgg3
 z3:=Tryz.sizeOf3
 v3:=Tryz.zeroValue3
 t4:=Tryz.underlying4
 a4:=Tryz.isAgg4
 z4:=Tryz.sizeOf4
 v4:=Tryz.zeroValue4
 t5:=Tryz.underlying5
 a5:=Tryz.isAgg5
 z5:=Tryz.sizeOf5
 v5:=Tryz.zeroValue5
 t9:=Tryz.underlying9
 a9:=Tryz.isAgg9
 z9:=Tryz.sizeOf9
 v9:=Tryz.zeroValue9
 t46:=Tryz.underlying170
 a46:=Tryz.isAgg170
 z46:=Tryz.sizeOf170
 v46:=Tryz.zeroValue170
 t53:=Tryz.underlying146
 a53:=Tryz.isAgg146
 z53:=Tryz.sizeOf146
 v53:=Tryz.zeroValue146}
theorem Tryz.bits_Len64 (x:Int) (w:World) (h0:0<=x) (h1:x<=18446744073709551615):
  Calls Tryz.prog 240 #[.int .u64 x] w fun e w'=>e= .returned (.int .i64 (Lib.bitLen x.toNat))/\w'=w:=Any.bits_Len64 Tryz.lays129 x w h0 h1
def Tryz.lays285_ren :Go.Shelf.Ren:=⟨fun | 285=>193 | n=>n,fun | 37=>42 | 53=>146 | 3=>3 | 4=>4 | 51=>208 | 9=>9 | 5=>5 | 0=>0 | n=>n,fun | n=>n⟩
theorem Tryz.lays285 :Go.Proofs.Lays.n285 Tryz.prog Tryz.lays285_ren:={
 mixed:=by kernel_rfl
 f285:=Tryz.func193.trans (congrArg some (by kernel_rfl))
 t0:=Tryz.underlying0
 a0:=Tryz.isAgg0
 z0:=Tryz.sizeOf0
 v0:=Tryz.zeroValue0
 t3:=Tryz.underlying3
 a3:=Tryz.isAgg3
 z3:=Tryz.sizeOf3
 v3:=Tryz.zeroValue3
 t4:=Tryz.underlying4
 a4:=Tryz.isAgg4
 z4:=Tryz.sizeOf4
 v4:=Tryz.zeroValue4
 t5:=Tryz.underlying5
 a5:=Tryz.isAgg5
 z5:=Tryz.sizeOf5
 v5:=Tryz.zeroValue5
 t9:=Tryz.underlying9
 a9:=Tryz.isAgg9
 z9:=Tryz.sizeOf9
 v9:=Tryz.zeroValue9
 t37:=Tryz.underlying42
 a37:=Tryz.isAgg42
 z37:=Tryz.sizeOf42
 v37:=Tryz.zeroValue42
 t51:=Tryz.underlying208
 a51:=Tryz.isAgg208
 z51:=Tryz.sizeOf208
 v51:=Tryz.zeroValue208
 t53:=Tryz.underlying146
 a53:=Tryz.isAgg146
 z53:=Tryz.sizeOf146
 v53:=Tryz.zeroValue146}
open Go.RowKit Go.Sort Go.Lib in
theorem Tryz.internal_strconv_formatBase10 (blk off cap:Nat) (u:Nat) (d:Array UInt8) (w:World) (hH:Holds (fun(b:UInt8)=>Value.int .u8 (b.toNat:Int)) w blk off d) (hu:u<10^d.size) (hu64:u<18446744073709551616) (hsz:d.size<4611686018427387904):
  Calls Tryz.prog 193 #[.slice (some ⟨blk,off,none⟩) d.size cap,.int .u64 u] w fun e w'=>
   e= .returned (.tuple #[])/\∃(n v':Nat) (dk:Array UInt8),w'=(putRow (fun(b:UInt8)=>Value.int .u8 (b.toNat:Int)) w blk off dk).drewN n/\FmtInv d.size u 0 v' dk:=Any.internal_strconv_formatBase10 Tryz.lays285 blk off cap u d w hH hu hu64 hsz
def Tryz.laysM171_ren :Go.Shelf.Ren:=⟨fun | 171=>54 | 243=>105 | 246=>145 | 283=>191 | 284=>192 | 285=>193 | 286=>194 | 129=>240 | 317=>239 | 318=>241 | 319=>242 | 320=>243 | 337=>295 | 338=>296 | n=>n,fun | 3=>3 | 9=>9 | 2=>2 | 4=>4 | 171=>239 | 0=>0 | 53=>146 | 37=>42 | 5=>5 | 173=>242 | 212=>275 | 51=>208 | 20=>20 | 213=>276 | 46=>170 | 232=>282 | 233=>364 | n=>n,fun | 17=>2 | 18=>8 | 19=>9 | n=>n⟩
theorem Tryz.laysM171 :Go.Proofs.LaysM.n171 Tryz.prog Tryz.laysM171_ren:={
 mixed:=by kernel_rfl
 f129:=Tryz.func240.trans (congrArg some (by kernel_rfl))
 f171:=Tryz.func54.trans (congrArg some (by kernel_rfl))
 f243:=Tryz.func105.trans (congrArg some (by kernel_rfl))
 f246:=Tryz.func145.trans (congrArg some (by kernel_rfl))
 f283:=Tryz.func191.trans (congrArg some (by kernel_rfl))
 f284:=Tryz.func192.trans (congrArg some (by kernel_rfl))
 f285:=Tryz.func193.trans (congrArg some (by kernel_rfl))
 f286:=Tryz.func194.trans (congrArg some (by kernel_rfl))
 f317:=Tryz.func239.trans (congrArg some (by kernel_rfl))
 f318:=Tryz.func241.trans (congrArg some (by kernel_rfl))
 f319:=Tryz.func242.trans (congrArg some (by kernel_rfl))
 f320:=Tryz.func243.trans (congrArg some (by kernel_rfl))
 f337:=Tryz.func295.trans (congrArg some (by kernel_rfl))
 f338:=Tryz.func296.trans (congrArg some (by kernel_rfl))
 t0:=Tryz.underlying0
 a0:=Tryz.isAgg0
 z0:=Tryz.sizeOf0
 v0:=Tryz.zeroValue0
 t2:=Tryz.underlying2
 a2:=Tryz.isAgg2
 z2:=Tryz.sizeOf2
 v2:=Tryz.zeroValue2
 t3:=Tryz.underlying3
 a3:=Tryz.isAgg3
 z3:=Tryz.sizeOf3
 v3:=Tryz.zeroValue3
 t4:=Tryz.underlying4
 a4:=Tryz.isAgg4
 z4:=Tryz.sizeOf4
 v4:=Tryz.zeroValue4
 t5:=Tryz.underlying5
 a5:=Tryz.isAgg5
 z5:=Tryz.sizeOf5
 v5:=Tryz.zeroValue5
 t9:=Tryz.underlying9
 a9:=Tryz.isAgg9
 z9:=Tryz.sizeOf9
 v9:=Tryz.zeroValue9
 t20:=Tryz.underlying20
 a20:=Tryz.isAgg20
 z20:=Tryz.sizeOf20
 v20:=Tryz.zeroValue20
 t37:=Tryz.underlying42
 a37:=Tryz.isAgg42
 z37:=Tryz.sizeOf42
 v37:=Tryz.zeroValue42
 t46:=Tryz.underlying170
 a46:=Tryz.isAgg170
 z46:=Tryz.sizeOf170
 v46:=Tryz.zeroValue170
 t51:=Tryz.underlying208
 a51:=Tryz.isAgg208
 z51:=Tryz.sizeOf208
 v51:=Tryz.zeroValue208
 t53:=Tryz.underlying146
 a53:=Tryz.isAgg146
 z53:=Tryz.sizeOf146
 v53:=Tryz.zeroValue146
 t171:=Tryz.underlying239
 a171:=Tryz.isAgg239
 z171:=Tryz.sizeOf239
 v171:=Tryz.zeroValue239
 t173:=Tryz.underlying242
 a173:=Tryz.isAgg242
 z173:=Tryz.sizeOf242
 v173:=Tryz.zeroValue242
 t212:=Tryz.underlying275
 a212:=Tryz.isAgg275
 z212:=Tryz.sizeOf275
 v212:=Tryz.zeroValue275
 t213:=Tryz.underlying276
 a213:=Tryz.isAgg276
 z213:=Tryz.sizeOf276
 t232:=Tryz.underlying282
 a232:=Tryz.isAgg282
 z232:=Tryz.sizeOf282
 v232:=Tryz.zeroValue282
 t233:=Tryz.underlying364
 a233:=Tryz.isAgg364
 z233:=Tryz.sizeOf364
 v233:=Tryz.zeroValue364
 g17:=by kernel_rfl
 g18:=by kernel_rfl
 g19:=by kernel_rfl
 i0:=by kernel_rfl
 i2:=by kernel_rfl
 i3:=by kernel_rfl
 i4:=by kernel_rfl
 i5:=by kernel_rfl
 i9:=by kernel_rfl
 i20:=by kernel_rfl
 i37:=by kernel_rfl
 i46:=by kernel_rfl
 i51:=by kernel_rfl
 i53:=by kernel_rfl
 i171:=by kernel_rfl
 i173:=by kernel_rfl
 i212:=by kernel_rfl
 i232:=by kernel_rfl
 i233:=by kernel_rfl
 m17:=by kernel_rfl
 m18:=by kernel_rfl
 m19:=by kernel_rfl}
open Go.RowKit Go.Sort Go.Lib in
theorem Tryz.strconv_Itoa (n:Int) (h0: -9223372036854775808<=n) (h1:n<=9223372036854775807) (w:World) (htab:Lib.TabIs Tryz.prog w "internal/strconv.uint64pow10" .u64 Lib.pow10Tab):
  Calls Tryz.prog 54 #[.int .i64 n] w fun e w'=>e= .returned (.string ⟨(Lib.itoa n).toArray⟩)/\∃k os,w'=grow (w.drewN k) os:=Any.strconv_Itoa Tryz.laysM171 n h0 h1 w htab
def Tryz.lays143_ren :Go.Shelf.Ren:=⟨fun | 143=>134 | 219=>179 | 217=>224 | 225=>225 | 224=>226 | 267=>227 | 266=>285 | 314=>286 | n=>n,fun | 9=>9 | 3=>3 | 4=>4 | 5=>5 | 46=>170 | 146=>209 | 51=>208 | n=>n,fun | 1=>1 | n=>n⟩
theorem Tryz.lays143 :Go.Proofs.Lays.n143 Tryz.prog Tryz.lays143_ren:={
 mixed:=by kernel_rfl
 f143:=Tryz.func134.trans (congrArg some (by kernel_rfl))
 f217:=Tryz.func224.trans (congrArg some (by kernel_rfl))
 f219:=Tryz.func179.trans (congrArg some (by kernel_rfl))
 f224:=Tryz.func226.trans (congrArg some (by kernel_rfl))
 f225:=Tryz.func225.trans (congrArg some (by kernel_rfl))
 f266:=Tryz.func285.trans (congrArg some (by kernel_rfl))
 f267:=Tryz.func227.trans (congrArg some (by kernel_rfl))
 f314:=Tryz.func286.trans (congrArg some (by kernel_rfl))
 t3:=Tryz.underlying3
 a3:=Tryz.isAgg3
 z3:=Tryz.sizeOf3
 v3:=Tryz.zeroValue3
 t4:=Tryz.underlying4
 a4:=Tryz.isAgg4
 z4:=Tryz.sizeOf4
 v4:=Tryz.zeroValue4
 t5:=Tryz.underlying5
 a5:=Tryz.isAgg5
 z5:=Tryz.sizeOf5
 v5:=Tryz.zeroValue5
 t9:=Tryz.underlying9
 a9:=Tryz.isAgg9
 z9:=Tryz.sizeOf9
 v9:=Tryz.zeroValue9
 t46:=Tryz.underlying170
 a46:=Tryz.isAgg170
 z46:=Tryz.sizeOf170
 v46:=Tryz.zeroValue170
 t51:=Tryz.underlying208
 a51:=Tryz.isAgg208
 z51:=Tryz.sizeOf208
 v51:=Tryz.zeroValue208
 t146:=Tryz.underlying209
 a146:=Tryz.isAgg209
 z146:=Tryz.sizeOf209
 v146:=Tryz.zeroValue209
 g1:=by kernel_rfl}
open Go.RowKit Go.Lib in
theorem Tryz.strings_Index (s sub:ByteArray) (m:Int) (w:World) (hs:s.size<4294967281) (hm:w.cell? ⟨1,0,none⟩=some (.int .i64 m)):
  Calls Tryz.prog 134 #[.string s,.string sub] w fun e w'=>e= .returned (.int .i64 (Lib.index s.data.toList sub.data.toList))/\w'=w:=Any.strings_Index Tryz.lays143 s sub m w hs hm
def Tryz.lays138_ren :Go.Shelf.Ren:=⟨fun | 138=>237 | 195=>292 | 218=>293 | 143=>134 | 219=>179 | 217=>224 | 225=>225 | 224=>226 | 267=>227 | 266=>285 | 314=>286 | n=>n,fun | 9=>9 | 3=>3 | 4=>4 | 5=>5 | 0=>0 | 46=>170 | 146=>209 | 51=>208 | n=>n,fun | 1=>1 | n=>n⟩
theorem Tryz.lays138 :Go.Proofs.Lays.n138 Tryz.prog Tryz.lays138_ren:={
 mixed:=by kernel_rfl
 f138:=Tryz.func237.trans (congrArg some (by kernel_rfl))
 f143:=Tryz.func134.trans (congrArg some (by kernel_rfl))
 f195:=Tryz.func292.trans (congrArg some (by kernel_rfl))
 f217:=Tryz.func224.trans (congrArg some (by kernel_rfl))
 f218:=Tryz.func293.trans (congrArg some (by kernel_rfl))
 f219:=Tryz.func179.trans (congrArg some (by kernel_rfl))
 f224:=Tryz.func226.trans (congrArg some (by kernel_rfl))
 f225:=Tryz.func225.trans (congrArg some (by kernel_rfl))
 f266:=Tryz.func285.trans (congrArg some (by kernel_rfl))
 f267:=Tryz.func227.trans (congrArg some (by kernel_rfl))
 f314:=Tryz.func286.trans (congrArg some (by kernel_rfl))
 t0:=Tryz.underlying0
 a0:=Tryz.isAgg0
 z0:=Tryz.sizeOf0
 v0:=Tryz.zeroValue0
 t3:=Tryz.underlying3
 a3:=Tryz.isAgg3
 z3:=Tryz.sizeOf3
 v3:=Tryz.zeroValue3
 t4:=Tryz.underlying4
 a4:=Tryz.isAgg4
 z4:=Tryz.sizeOf4
 v4:=Tryz.zeroValue4
 t5:=Tryz.underlying5
 a5:=Tryz.isAgg5
 z5:=Tryz.sizeOf5
 v5:=Tryz.zeroValue5
 t9:=Tryz.underlying9
 a9:=Tryz.isAgg9
 z9:=Tryz.sizeOf9
 v9:=Tryz.zeroValue9
 t46:=Tryz.underlying170
 a46:=Tryz.isAgg170
 z46:=Tryz.sizeOf170
 v46:=Tryz.zeroValue170
 t51:=Tryz.underlying208
 a51:=Tryz.isAgg208
 z51:=Tryz.sizeOf208
 v51:=Tryz.zeroValue208
 t146:=Tryz.underlying209
 a146:=Tryz.isAgg209
 z146:=Tryz.sizeOf209
 v146:=Tryz.zeroValue209
 g1:=by kernel_rfl}
open Go.RowKit Go.Lib in
theorem Tryz.strings_Count_one (s:ByteArray) (c:UInt8) (w:World):
  Calls Tryz.prog 237 #[.string s,.string ⟨#[c]⟩] w fun e w'=>e= .returned (.int .i64 (Lib.countByte s.data.toList c))/\w'=w:=Any.strings_Count_one Tryz.lays138 s c w
def Tryz.lays99_ren :Go.Shelf.Ren:=⟨fun | 99=>130 | 206=>175 | n=>n,fun | 9=>9 | 4=>4 | 3=>3 | n=>n,fun | n=>n⟩
theorem Tryz.lays99 :Go.Proofs.Lays.n99 Tryz.prog Tryz.lays99_ren:={
 mixed:=by kernel_rfl
 f99:=Tryz.func130.trans (congrArg some (by kernel_rfl))
 f206:=Tryz.func175.trans (congrArg some (by kernel_rfl))
 t3:=Tryz.underlying3
 a3:=Tryz.isAgg3
 z3:=Tryz.sizeOf3
 v3:=Tryz.zeroValue3
 t4:=Tryz.underlying4
 a4:=Tryz.isAgg4
 z4:=Tryz.sizeOf4
 v4:=Tryz.zeroValue4
 t9:=Tryz.underlying9
 a9:=Tryz.isAgg9
 z9:=Tryz.sizeOf9
 v9:=Tryz.zeroValue9}
open Go.RowKit Go.Lib in
theorem Tryz.strings_HasPrefix (s p:ByteArray) (w:World):
  Calls Tryz.prog 130 #[.string s,.string p] w fun e w'=>e= .returned (.bool (Lib.hasPrefix s.data.toList p.data.toList))/\w'=w:=Any.strings_HasPrefix Tryz.lays99 s p w
def Tryz.lays150_ren :Go.Shelf.Ren:=⟨fun | 150=>108 | 153=>148 | 152=>197 | 226=>198 | 227=>199 | 228=>200 | 137=>256 | 119=>257 | 224=>226 | 225=>225 | 217=>224 | 266=>285 | n=>n,fun | 9=>9 | 4=>4 | 3=>3 | 5=>5 | 21=>21 | 117=>251 | 116=>250 | 0=>0 | 46=>170 | 124=>294 | n=>n,fun | n=>n⟩
theorem Tryz.lays150 :Go.Proofs.Lays.n150 Tryz.prog Tryz.lays150_ren:={
 mixed:=by kernel_rfl
 f119:=Tryz.func257.trans (congrArg some (by kernel_rfl))
 f137:=Tryz.func256.trans (congrArg some (by kernel_rfl))
 f150:=Tryz.func108.trans (congrArg some (by kernel_rfl))
 f152:=Tryz.func197.trans (congrArg some (by kernel_rfl))
 f153:=Tryz.func148.trans (congrArg some (by kernel_rfl))
 f217:=Tryz.func224.trans (congrArg some (by kernel_rfl))
 f224:=Tryz.func226.trans (congrArg some (by kernel_rfl))
 f225:=Tryz.func225.trans (congrArg some (by kernel_rfl))
 f226:=Tryz.func198.trans (congrArg some (by kernel_rfl))
 f227:=Tryz.func199.trans (congrArg some (by kernel_rfl))
 f228:=Tryz.func200.trans (congrArg some (by kernel_rfl))
 f266:=Tryz.func285.trans (congrArg some (by kernel_rfl))
 t0:=Tryz.underlying0
 a0:=Tryz.isAgg0
 z0:=Tryz.sizeOf0
 v0:=Tryz.zeroValue0
 t3:=Tryz.underlying3
 a3:=Tryz.isAgg3
 z3:=Tryz.sizeOf3
 v3:=Tryz.zeroValue3
 t4:=Tryz.underlying4
 a4:=Tryz.isAgg4
 z4:=Tryz.sizeOf4
 v4:=Tryz.zeroValue4
 t5:=Tryz.underlying5
 a5:=Tryz.isAgg5
 z5:=Tryz.sizeOf5
 v5:=Tryz.zeroValue5
 t9:=Tryz.underlying9
 a9:=Tryz.isAgg9
 z9:=Tryz.sizeOf9
 v9:=Tryz.zeroValue9
 t21:=Tryz.underlying21
 a21:=Tryz.isAgg21
 z21:=Tryz.sizeOf21
 v21:=Tryz.zeroValue21
 t46:=Tryz.underlying170
 a46:=Tryz.isAgg170
 z46:=Tryz.sizeOf170
 v46:=Tryz.zeroValue170
 t116:=Tryz.underlying250
 a116:=Tryz.isAgg250
 z116:=Tryz.sizeOf250
 t117:=Tryz.underlying251
 a117:=Tryz.isAgg251
 z117:=Tryz.sizeOf251
 v117:=Tryz.zeroValue251
 t124:=Tryz.underlying294
 a124:=Tryz.isAgg294
 z124:=Tryz.sizeOf294
 v124:=Tryz.zeroValue294}
open Go.RowKit Go.Lib in
theorem Tryz.strings_ContainsAny_laid (s chars:ByteArray) (w:World) (hs:s.size<4294967281) (hcs:chars.size<4294967281) (has:∀(j:Nat) b,s.data.toList[j]? =some b->b.toNat<128) (hac:∀(j:Nat) b,chars.data.toList[j]? =some b->b.toNat<128):
  Calls Tryz.prog 108 #[.string s,.string chars] w fun e w'=>e= .returned (.bool (Lib.containsAny s.data.toList chars.data.toList))/\Below w.heap.size w w':=Any.strings_ContainsAny_laid Tryz.lays150 (by kernel_rfl) s chars w hs hcs has hac
def Tryz.lays264_ren :Go.Shelf.Ren:=⟨fun | 264=>174 | n=>n,fun | 53=>146 | 46=>170 | n=>n,fun | n=>n⟩
theorem Tryz.lays264 :Go.Proofs.Lays.n264 Tryz.prog Tryz.lays264_ren:={
 mixed:=by kernel_rfl
 f264:=Tryz.func174.trans (congrArg some (by kernel_rfl))
 t46:=Tryz.underlying170
 a46:=Tryz.isAgg170
 z46:=Tryz.sizeOf170
 v46:=Tryz.zeroValue170
 t53:=Tryz.underlying146
 a53:=Tryz.isAgg146
 z53:=Tryz.sizeOf146
 v53:=Tryz.zeroValue146}
open Go.RowKit Go.Lib in
theorem Tryz.bits_Mul64 (x y:Nat) (hx:x<18446744073709551616) (hy:y<18446744073709551616) (w:World):
  Calls Tryz.prog 174 #[.int .u64 x,.int .u64 y] w fun e w'=>e= .returned (.tuple #[.int .u64 ((x*y/18446744073709551616:Nat):Int),.int .u64 ((x*y % 18446744073709551616:Nat):Int)])/\w'=w:=Any.bits_Mul64 Tryz.lays264 x y hx hy w
def Tryz.lays105_ren :Go.Shelf.Ren:=⟨fun | 105=>87 | 212=>129 | 99=>130 | 165=>131 | 166=>86 | 170=>43 | 169=>44 | 263=>173 | 264=>174 | 206=>175 | 240=>128 | 241=>176 | 276=>172 | 277=>220 | n=>n,fun | 9=>9 | 3=>3 | 4=>4 | 20=>20 | 0=>0 | 46=>170 | 109=>171 | 5=>5 | 72=>56 | 76=>133 | 51=>208 | 146=>209 | 53=>146 | 148=>211 | 70=>54 | 37=>42 | 75=>132 | 127=>139 | 164=>206 | 80=>61 | n=>n,fun | n=>n⟩
theorem Tryz.lays105 :Go.Proofs.Lays.n105 Tryz.prog Tryz.lays105_ren:={
 mixed:=by kernel_rfl
 f99:=Tryz.func130.trans (congrArg some (by kernel_rfl))
 f105:=Tryz.func87.trans (congrArg some (by kernel_rfl))
 f165:=Tryz.func131.trans (congrArg some (by kernel_rfl))
 f166:=Tryz.func86.trans (congrArg some (by kernel_rfl))
 f169:=Tryz.func44.trans (congrArg some (by kernel_rfl))
 f170:=Tryz.func43.trans (congrArg some (by kernel_rfl))
 f206:=Tryz.func175.trans (congrArg some (by kernel_rfl))
 f212:=Tryz.func129.trans (congrArg some (by kernel_rfl))
 f240:=Tryz.func128.trans (congrArg some (by kernel_rfl))
 f241:=Tryz.func176.trans (congrArg some (by kernel_rfl))
 f263:=Tryz.func173.trans (congrArg some (by kernel_rfl))
 f264:=Tryz.func174.trans (congrArg some (by kernel_rfl))
 f276:=Tryz.func172.trans (congrArg some (by kernel_rfl))
 f277:=Tryz.func220.trans (congrArg some (by kernel_rfl))
 t0:=Tryz.underlying0
 a0:=Tryz.isAgg0
 z0:=Tryz.sizeOf0
 v0:=Tryz.zeroValue0
 t3:=Tryz.underlying3
 a3:=Tryz.isAgg3
 z3:=Tryz.sizeOf3
 v3:=Tryz.zeroValue3
 t4:=Tryz.underlying4
 a4:=Tryz.isAgg4
 z4:=Tryz.sizeOf4
 v4:=Tryz.zeroValue4
 t5:=Tryz.underlying5
 a5:=Tryz.isAgg5
 z5:=Tryz.sizeOf5
 v5:=Tryz.zeroValue5
 t9:=Tryz.underlying9
 a9:=Tryz.isAgg9
 z9:=Tryz.sizeOf9
 v9:=Tryz.zeroValue9
 t20:=Tryz.underlying20
 a20:=Tryz.isAgg20
 z20:=Tryz.sizeOf20
 v20:=Tryz.zeroValue20
 t37:=Tryz.underlying42
 a37:=Tryz.isAgg42
 z37:=Tryz.sizeOf42
 v37:=Tryz.zeroValue42
 t46:=Tryz.underlying170
 a46:=Tryz.isAgg170
 z46:=Tryz.sizeOf170
 v46:=Tryz.zeroValue170
 t51:=Tryz.underlying208
 a51:=Tryz.isAgg208
 z51:=Tryz.sizeOf208
 v51:=Tryz.zeroValue208
 t53:=Tryz.underlying146
 a53:=Tryz.isAgg146
 z53:=Tryz.sizeOf146
 v53:=Tryz.zeroValue146
 t70:=Tryz.underlying54
 a70:=Tryz.isAgg54
 z70:=Tryz.sizeOf54
 v70:=Tryz.zeroValue54
 t72:=Tryz.underlying56
 a72:=Tryz.isAgg56
 z72:=Tryz.sizeOf56
 v72:=Tryz.zeroValue56
 t75:=Tryz.underlying132
 a75:=Tryz.isAgg132
 z75:=Tryz.sizeOf132
 v75:=Tryz.zeroValue132
 t76:=Tryz.underlying133
 a76:=Tryz.isAgg133
 z76:=Tryz.sizeOf133
 v76:=Tryz.zeroValue133
 t109:=Tryz.underlying171
 a109:=Tryz.isAgg171
 z109:=Tryz.sizeOf171
 v109:=Tryz.zeroValue171
 t127:=Tryz.underlying139
 a127:=Tryz.isAgg139
 z127:=Tryz.sizeOf139
 v127:=Tryz.zeroValue139
 t146:=Tryz.underlying209
 a146:=Tryz.isAgg209
 z146:=Tryz.sizeOf209
 v146:=Tryz.zeroValue209
 t148:=Tryz.underlying211
 a148:=Tryz.isAgg211
 z148:=Tryz.sizeOf211
 v148:=Tryz.zeroValue211
 t164:=Tryz.underlying206
 a164:=Tryz.isAgg206
 z164:=Tryz.sizeOf206
 v164:=Tryz.zeroValue206}
theorem Tryz.Builder_Extra_105 :Builder.Extra Tryz.prog Tryz.lays105_ren:={
 sizeBuilder:=by kernel_rfl
 liesBuilder:=by kernel_rfl
 t5:=Tryz.underlying5
 a5:=Tryz.isAgg5
 z5:=Tryz.sizeOf5
 v5:=Tryz.zeroValue5
 infoByte:=by kernel_rfl
 cellsByte:=by kernel_rfl
 sizeByte:=by kernel_rfl
 neB5:=by decide}
open Go.RowKit Go.Lib in
theorem Tryz.strings_Repeat (s:ByteArray) (c:Nat) (w:World) (hc:c<=9223372036854775807) (hlen:s.size*c<=140737488355328):
  Calls Tryz.prog 87 #[.string s,.int .i64 c] w fun e w'=>e= .returned (.string ⟨(Lib.repeatL s.data.toList c).toArray⟩)/\Below w.heap.size w w':=Any.strings_Repeat Tryz.lays105 Tryz.Builder_Extra_105 s c w hc hlen
end Go.Proofs
namespace Go.X
theorem av {P:Program} {f:FuncId} {args:Array Value} {h:ab} {H:List Nat} {K E R Rp:Value->ab->Prop} (M:List Nat) (c:az P f args h R Rp) (hm:∀b∈H,b∉M)
  (f1:∀v h',R v h'->Fr M h h') (f2:∀v h',Rp v h'->Fr M h h') (k:∀v h',R v h'->K v h') (e:∀v h',Rp v h'->E v h'):aw P f args h H K E:=
 ⟨M,R,Rp,c.mono (fun v h' r=>⟨f1 v h' r,r⟩) (fun v h' r=>⟨f2 v h' r,r⟩),hm,fun v h' _ r=>k v h' r,fun v h' _ r=>e v h' r⟩
theorem ak {P:Program} {f:FuncId} {args:Array Value} {h:ab} {H:List Nat} {K R:Value->ab->Prop} (M:List Nat) (c:ae P f args h R) (hm:∀b∈H,b∉M)
  (f1:∀v h',R v h'->Fr M h h') (k:∀v h',R v h'->K v h'):ai P f args h H K:=
 ⟨M,R,c.mono (fun v h' r=>⟨f1 v h' r,r⟩),hm,fun v h' _ r=>k v h' r⟩
theorem bn {P:Program} {f:FuncId} {args:Array Value} {h:ab} {H:List Nat} {K:Value->ab->Prop} {v0:Value} (c:ae P f args h fun v h'=>v=v0/\h'=h) (k:K v0 h):ai P f args h H K:=
 ak [] c (by simp) (fun _ _ r=>Fr.of_eq r.2) fun v h' r=>by grind
structure Lx (h:ab) (b:Nat) (s:ByteArray) (i:Nat):Prop where
 c0:ac h b 0=some (.string s)
 c1:ac h b 1=some (.int .i64 (i:Int))
 fr:aq h b 1=true
structure Mv (b:Nat) (h h':ab) (j:Nat):Prop where
 lt:b<h.size
 fr:Fr [b] h h'
 at_:h'[b]? =(am h b 1 (.int .i64 (j:Int)))[b]?
theorem Lx.lt {h:ab} {b:Nat} {s:ByteArray} {i:Nat} (L:Lx h b s i):b<h.size:=aO L.c0
theorem ke {h:ab} {b o:Nat} {v:Value} (hc:ac h b o=some v):∃c e f,h[b]? =some (.cells c e f)/\c[o]? =some v:=by
 grind [ac]
theorem uv {c:Array Value} {o:Nat} {v:Value} (h:c[o]? =some v):c.setIfInBounds o v=c:=by
 grind
theorem Mv.refl {h:ab} {b:Nat} {s:ByteArray} {i:Nat} (L:Lx h b s i):Mv b h h i:=by
 refine⟨L.lt,Fr.refl _ _,?_⟩
 obtain⟨c,e,f,h1,h2⟩:=ke L.c1
 rw[bD h1,uv h2,h1]
theorem Mv.to {h:ab} {b:Nat} {s:ByteArray} {i:Nat} (L:Lx h b s i) (j:Nat):Mv b h (am h b 1 (.int .i64 (j:Int))) j:=⟨L.lt,Fr.hset h b 1 _,rfl⟩
theorem Mv.trans {b:Nat} {h h1 h2:ab} {i j:Nat} (a:Mv b h h1 i) (k:Mv b h1 h2 j):Mv b h h2 j:=by
 refine⟨a.lt,a.fr.trans k.fr,?_⟩
 rw[k.at_]
 have e:=a.at_
 cases q:h[b]? with
 | none=>simp_all
 | some x=>
  cases x with
  | cells c t f=>
   rw[bD q]at e
   rw[bD e,bD q]
   simp
  | _=>
   grind [am]
theorem Mv.ext {b:Nat} {h h1 h2:ab} {i:Nat} {N:List Nat} (a:Mv b h h1 i) (f:Fr N h1 h2) (hn:∀x∈N,h.size<=x):Mv b h h2 i:=by
 have hb:b∉N:=fun q=>by have:=hn b q;have:=a.lt;omega
 exact⟨a.lt,a.fr.comp f (fun x q=>.inr (hn x q)),(f.blk b (Nat.lt_of_lt_of_le a.lt a.fr.size) hb).trans a.at_⟩
theorem Mv.push {b:Nat} {h h1:ab} {i:Nat} (a:Mv b h h1 i) (x:Obj):Mv b h (h1.push x) i:=a.ext (Fr.push h1 x) (by simp)
theorem Mv.hsetn {b:Nat} {h h1:ab} {i p o:Nat} {v:Value} (a:Mv b h h1 i) (hp:h.size<=p):Mv b h (am h1 p o v) i:=a.ext (Fr.hset h1 p o v) (by simpa using hp)
theorem Lx.mv {h h':ab} {b:Nat} {s:ByteArray} {i j:Nat} (L:Lx h b s i) (m:Mv b h h' j):Lx h' b s j:=by
 obtain⟨c,e,f,h1,h2⟩:=ke L.c1
 have e1:=m.at_
 rw[bD h1]at e1
 have h0:=L.c0
 rw[aI h1]at h0
 have hlt:=(Array.getElem?_eq_some_iff.1 h2).1
 refine⟨?_,?_,?_⟩
 ·rw[aI e1,Array.getElem?_setIfInBounds_ne (by decide)];exact h0
 ·rw[aI e1,Array.getElem?_setIfInBounds_self_of_lt hlt]
 ·have hf:=L.fr
  grind [aq]
theorem Lx.cell {h:ab} {b:Nat} {s:ByteArray} {i:Nat} (L:Lx h b s i):∃u,ac h b (0+1)=some u:=⟨_,L.c1⟩
theorem Sy.mv {h0 h h':ab} {M:List Nat} {cs:List Ck} {b j:Nat} {ty:TypeId} {cells:List Value} (Y:Sy h0 M h cs) (k:Nat) (hk:cs[k]? =some (Ck.ob b ty cells)) (m:Mv b h h' j):
  Sy h0 M h' (cs.set k (Ck.ob b ty (cells.set 1 (.int .i64 (j:Int))))):=
 Y.mut hk _ m.fr.size (fun d hd hn=>m.fr.blk d hd (by simpa[Ck.ob]using hn)) (by
  have:=m.at_
  rw[bD (Y.ok hk)]at this
  simpa[Ck.ob]using this) (fun d hd=>.inl hd) (fun d hd=>by simp[Ck.ob]at hd)
theorem Sy.lx {h0 h:ab} {M:List Nat} {cs:List Ck} {b:Nat} {ty:TypeId} {s:ByteArray} {i:Nat} {cells:List Value} (Y:Sy h0 M h cs) (k:Nat) (hk:cs[k]? =some (Ck.ob b ty (.string s:: .int .i64 (i:Int)::cells))):Lx h b s i:=
 ⟨Y.cellO k hk 0 rfl,Y.cellO k hk 1 rfl,Y.freeO k hk 1⟩
def Ent (l:List (Value × Value)):Array MapEntry:=(l.mapIdx fun i p=>⟨p.1,p.2,i⟩).toArray
theorem fE (l:List (Value × Value)) (j:Nat):(Ent l)[j]? =(l[j]?).map fun p=>⟨p.1,p.2,j⟩:=by simp[Ent]
theorem uw (l:List (Value × Value)):(Ent l).size=l.length:=by simp[Ent]
theorem dh {l:List (Value × Value)} {e:MapEntry} (h:e∈(Ent l).toList):∃j p,l[j]? =some p/\e=⟨p.1,p.2,j⟩:=by
 grind [Ent]
theorem eV (l:List (Value × Value)) (k v:Value):(Ent l).push ⟨k,v,l.length⟩=Ent (l++[(k,v)]):=by
 grind [Ent]
theorem xN {a:Array MapEntry} {l:List (Value × Value)} (h:∀j,a[j]? =(l[j]?).map fun p=>(⟨p.1,p.2,j⟩:MapEntry)):a=Ent l:=by
 apply Array.ext_getElem?
 intro j
 rw[h,fE]
def Ck.mp (m:Nat) (l:List (Value × Value)):Ck:=
 ⟨[m],[],fun h=>bf h m=some (Ent l,l.length),fun h o=>⟨by
  intro b hb
  simp only[List.mem_singleton]at hb
  subst hb
  exact(Array.getElem?_eq_some_iff.1 (bd o)).1,by simp⟩,fun h h' he _ o=>by
  grind [bd,gO]⟩
section
variable {h0 h:ab} {M:List Nat} {cs:List Ck} {m:Nat} {l:List (Value × Value)}
theorem Sy.mapM (Y:Sy h0 M h cs) (k:Nat) (hk:cs[k]? =some (Ck.mp m l)):bf h m=some (Ent l,l.length):=Y.ok hk
theorem kg {h:ab} {m:Nat} (hm:m<h.size) (es:Array MapEntry) (c:Nat):bf (bq h m es c) m=some (es,c):=by
 apply gO
 simp[bq,hm]
theorem Sy.putM (Y:Sy h0 M h cs) (k:Nat) (hk:cs[k]? =some (Ck.mp m l)) (l':List (Value × Value)) {es:Array MapEntry} {c:Nat} (he:es=Ent l') (hc:c=l'.length):Sy h0 M (bq h m es c) (cs.set k (Ck.mp m l')):=by
 subst he;subst hc
 have hm:m<h.size:=(Array.getElem?_eq_some_iff.1 (bd (Y.mapM k hk))).1
 exact Y.mut hk _ (by simp) (fun d hd hn=>(lu h m _ _).blk d hd (by simpa[Ck.mp]using hn)) (kg hm _ _) (fun d hd=>.inl hd) (fun d hd=>by simp[Ck.mp]at hd)
theorem Sy.newM (Y:Sy h0 M h cs):Sy h0 M (h.push (.map #[] 0)) (cs++[Ck.mp h.size []]):=
 Y.add (Fr.push h _) _ (by
  apply gO
  simp[Ent]) (by simp[Ck.mp]) (by simp[Ck.mp])
end
end Go.X
namespace Go.Proofs.YtlflalecmhgmjaaGreatDoor.G
abbrev F :=Nat × Nat
inductive Er (α:Type) where
 | ok (a:α)
 | no (f:F)
 | un
def Er.bind {α β:Type} (x:Er α) (k:α->Er β):Er β:=
 match x with
 | .ok a=>k a
 | .no f=>.no f
 | .un=>.un
def bx {α:Type} (b:Bool) (f:F) (k:Er α):Er α:=
 match b with
 | true=>k
 | false=>.no f
def bt (s:ByteArray) (i:Nat):Nat:=
 match s[i]? with
 | some c=>c.toNat
 | none=>256
def zO (c:Nat):Bool:=decide (97<=c/\c<=122\/65<=c/\c<=90)
def uz (c:Nat):Bool:=decide (48<=c/\c<=57)
def eu (c:Nat):Bool:=decide (c=32\/c=9\/c=10\/c=13)
def dq (c:Nat):Bool:=decide (32<=c/\c<=126)
def run (p:Nat->Bool) (s:ByteArray) (i:Nat):Nat:=
 if i<s.size/\p (bt s i)=true then run p s (i+1)else i
termination_by s.size-i
theorem oD (p:Nat->Bool) (s:ByteArray) (i:Nat):i<=run p s i:=by
 have gen:∀n i,s.size-i=n->i<=run p s i:=by
  intro n
  induction n with
  | zero=>intro i hi;rw[run,if_neg (by omega)];omega
  | succ n ih=>
   intro i hi
   rw[run]
   grind
 grind
def amp :List UInt8:=[38,97,109,112,59]
def Au :List UInt8:=[38,113,117,111,116,59]
def ltB :List UInt8:=[38,108,116,59]
def gtB :List UInt8:=[38,103,116,59]
def Av :List UInt8:=[38,97,112,111,115,59]
def fW (s:ByteArray):Nat->Nat->Nat->Nat × Nat
 | 0,n,i=>(n,i)
 | k+1,n,i=>if uz (bt s i)=true then fW s k (10*n+(bt s i-48)) (i+1)else(n,i)
def preB (s:ByteArray) (i:Nat) (l:List UInt8):Bool:=decide ((s.extract i (i+l.length)).data.toList=l)
def mkB (l:List UInt8):ByteArray:=⟨l.toArray⟩
def part (s:ByteArray) (i:Nat):Option (Nat × Nat):=
 if preB s i amp=true then some (38,5)
 else if preB s i Au=true then some (34,6)
 else if preB s i ltB=true then some (60,4)
 else if preB s i gtB=true then some (62,4)
 else if preB s i Av=true then some (39,6)
 else if preB s i [38,35]=false then none
 else match fW s 3 0 (i+2)with
  | (n,k)=>if k=i+2\/bt s k≠59\/dq n=false then none else some (n,k+1-i)
def noB :ByteArray:=ByteArray.empty
structure Dc where
 n:Nat
 dir:Bool
 edges:List (Nat × Nat)
 labels:List ByteArray
 spots:List (Nat × Nat)
 weights:List Nat
theorem qO (s:ByteArray) (i:Nat):bt s i=(match s.data.toList[i]? with
  | some c=>c.toNat
  | none=>256):=by
 unfold bt
 by_cases h:i<s.size
 ·have h2:i<s.data.toList.length:=h
  rw[List.getElem?_eq_getElem h2,getElem?_pos s i h]
  rfl
 simp_all
def At (s:ByteArray) (i:Nat) (l:List UInt8):Prop:=i<=s.size/\s.data.toList.drop i=l
theorem ly (s:ByteArray):s.size=s.data.toList.length:=rfl
theorem At.nil {s:ByteArray} {i:Nat} (a:At s i []):i=s.size:=by
 obtain⟨h,e⟩:=a
 have:=congrArg List.length e
 grind [ly]
theorem At.len {s:ByteArray} {i:Nat} {l:List UInt8} (a:At s i l):s.size-i=l.length:=by
 obtain⟨h,e⟩:=a
 grind [ly]
theorem At.cons {s:ByteArray} {i:Nat} {c:UInt8} {l:List UInt8} (a:At s i (c::l)):i<s.size/\bt s i=c.toNat/\At s (i+1) l:=by
 have hl:=a.len
 obtain⟨h,e⟩:=a
 rw[List.length_cons]at hl
 refine⟨by omega,?_,by omega,?_⟩
 ·have:s.data.toList[i]? =some c:=by
   have:=congrArg (fun l=>l[0]?) e
   grind
  rw[qO,this]
 ·rw[<-List.drop_drop,e];rfl
section
variable {s:ByteArray} {rd:ByteArray->Option (Nat × Nat)} {cl:Nat->Nat}
end
def dg (n:Nat):UInt8:=UInt8.ofNat (48+n % 10)
def dec (n:Nat):List UInt8:=if n<10 then [dg n]else dec (n/10)++[dg n]
termination_by n
theorem sb (k:Nat):∀n,n<10^(k+1)->(dec n).length<=k+1:=by
 induction k with
 | zero=>
  intro n hn
  rw[dec,if_pos (by simpa using hn)];simp
 | succ k ih=>
  grind [dec]
def idt (x:Int):List UInt8:=if x<0 then 45::dec x.natAbs else dec x.natAbs
theorem sd (n:Nat):Lib.decDigits n=dec n:=by
 induction n using Nat.strongRecOn<;>grind [Lib.decDigits,dec,dg,Nat.mod_eq_of_lt]
theorem uA (n:Int):Lib.itoa n=idt n:=by
 unfold Lib.itoa idt
 rw[sd,sd]
 grind
end Go.Proofs.YtlflalecmhgmjaaGreatDoor.G
namespace Go.Proofs.YtlflalecmhgmjaaGreatDoor.N
open Go.Proofs.YtlflalecmhgmjaaGreatDoor
open Go.X
open Go.RowKit (Below)
set_option maxRecDepth 100000
theorem uB {w w':World} (b:Below w.heap.size w w'):Fr [] w.heap w'.heap:=⟨b.size,fun k hk _=>b.block k hk⟩
theorem qP {w w':World} (b:Below w.heap.size w w'):Go.X.Rest w w':=⟨b.os,b.tape,b.output,b.size⟩
theorem sy0 {h h':ab} (f:Fr [] h h'):Sy h [] h' []:=⟨f,Hp.nil _,fun k c hk=>by simp at hk⟩
theorem dN {P:Program} {f:FuncId} {args:Array Value} {h:ab} {v:Value} {R:Value->ab->Prop} (c:∀w:World,Calls P f args w fun e w'=>e= .returned v/\w'=w) (r:R v h):ae P f args h R:=
 fun w hw=>(c w).mono fun e w' ⟨h1,h2⟩=>⟨v,h1,by rw[h2];exact Rest.refl w,by rw[h2,hw];exact r⟩
theorem jx {P:Program} {f:FuncId} {args:Array Value} {h:ab} {v:Value} {R:Value->ab->Prop} (c:∀w:World,w.heap=h->Calls P f args w fun e w'=>e= .returned v/\Below w.heap.size w w') (r:∀h',Fr [] h h'->R v h'):ae P f args h R:=
 fun w hw=>(c w hw).mono fun e w' ⟨h1,h2⟩=>⟨v,h1,qP h2,by subst hw;exact r _ (uB h2)⟩
theorem Cc {t:ByteArray} {c:Nat} (hc:c<256) {h:ab}:ae Tryz.prog 256 #[.string t,.int .u8 (c:Int)] h fun v h'=>v= .int .i64 (Lib.indexByte t.data.toList (UInt8.ofNat c))/\h'=h:=
 dN (fun w=>Go.Proofs.Tryz.strings_IndexByte t (c:Int) w) ⟨by rw[Int.toNat_natCast],rfl⟩
theorem zP {t p:ByteArray} {h:ab}:ae Tryz.prog 130 #[.string t,.string p] h fun v h'=>v= .bool (Lib.hasPrefix t.data.toList p.data.toList)/\h'=h:=
 dN (fun w=>Go.Proofs.Tryz.strings_HasPrefix t p w) ⟨rfl,rfl⟩
end Go.Proofs.YtlflalecmhgmjaaGreatDoor.N
namespace Go.Proofs.YtlflalecmhgmjaaGreatDoor.G
def ind (n:Nat):List UInt8:=List.replicate n 32
section
variable {s:ByteArray} {rd:ByteArray->Option (Nat × Nat)} {cl:Nat->Nat} {tx:Nat->List UInt8}
end
theorem qN (p:Nat->Bool) (s:ByteArray):∀n i,s.size-i=n->i<=s.size->run p s i<=s.size:=by
 intro n
 induction n with
 | zero=>intro i h1 h2;rw[run,if_neg (by omega)];exact h2
 | succ n ih=>
  intro i h1 h2
  rw[run]
  grind
theorem Ar {p:Nat->Bool} {s:ByteArray} {i:Nat} (h:i<s.size) (hp:p (bt s i)=true):i<run p s i:=by
 rw[run,if_pos ⟨h,hp⟩]
 exact oD p s (i+1)
theorem oB (s:ByteArray):∀k n i,i<=(fW s k n i).2
 | 0,n,i=>Nat.le_refl _
 | k+1,n,i=>by
  rw[fW]
  split
  ·have:=oB s k (10*n+(bt s i-48)) (i+1);omega
  omega
theorem jw {s:ByteArray} {i:Nat} (h:bt s i≠256):i<s.size:=by
 grind [bt]
theorem lg {s:ByteArray} {i:Nat} {l:List UInt8} (h:preB s i l=true):l.length<=s.size-i\/l=[]:=by
 unfold preB at h
 have h:=of_decide_eq_true h
 have h2:=congrArg List.length h
 grind [ByteArray.data_extract,ly]
theorem xM {s:ByteArray} {i c n:Nat} (hi:i<s.size) (h:part s i=some (c,n)):0<n/\i+n<=s.size:=by
 unfold part at h
 have pre:∀{l:List UInt8} {m:Nat},preB s i l=true->l.length=m->0<m->i+m<=s.size:=by
  intro l m q e hm
  rcases lg q with q | q
  ·omega
  grind
 split at h
 ·rename_i q;cases h;exact⟨by decide,pre q rfl (by decide)⟩
 split at h
 ·rename_i q;cases h;exact⟨by decide,pre q rfl (by decide)⟩
 split at h
 ·rename_i q;cases h;exact⟨by decide,pre q rfl (by decide)⟩
 split at h
 ·rename_i q;cases h;exact⟨by decide,pre q rfl (by decide)⟩
 split at h
 ·rename_i q;cases h;exact⟨by decide,pre q rfl (by decide)⟩
 split at h
 ·cases h
 ·have hg:=oB s 3 0 (i+2)
  generalize fW s 3 0 (i+2)=y at h hg
  obtain⟨m,k⟩:=y
  simp only at h hg
  split at h
  ·cases h
  ·rename_i q
   simp only[not_or]at q
   simp only[Option.some.injEq,Prod.mk.injEq]at h
   have:=jw (s:=s) (i:=k) (by omega)
   omega
section
variable {cl:Nat->Nat} {s:ByteArray} {rd:ByteArray->Option (Nat × Nat)}
end
section
variable {cl:Nat->Nat} {s:ByteArray} {rd:ByteArray->Option (Nat × Nat)}
end
end Go.Proofs.YtlflalecmhgmjaaGreatDoor.G
namespace Go.Proofs.YtlflalecmhgmjaaGreatDoor.N
open Go.Proofs.YtlflalecmhgmjaaGreatDoor
open Go.X
set_option maxRecDepth 100000
theorem bS {p:Prop} [Decidable p] {b:Bool} (h:b=true ↔ p):b=decide p:=by
 grind
section
variable {n:Nat} {h:ab} {H:List Nat} {K:Value->ab->Prop}
theorem di {f:Nat} {r:Bool} (c:ae Tryz.prog f #[.int .u8 (n:Int)] h fun v h'=>v= .bool r/\h'=h) (k:K (.bool r) h):ai Tryz.prog f #[.int .u8 (n:Int)] h H K:=
 ak [] c (by simp) (fun _ _ r=>Fr.of_eq r.2) fun v h' r=>by grind
theorem Cd :ae Tryz.prog 114 #[.int .u8 (n:Int)] h fun v h'=>v= .bool (G.dq n)/\h'=h:=by
 apply vh
 unfold C9
 have fin:∀b:Bool,(b=true ↔ 32<=n/\n<=126)->Value.bool b= .bool (G.dq n)/\h=h:=fun b e=>⟨by rw[bS e];rfl,rfl⟩
 refine af (fun h1=>fin _ ?_) fun h1=>fin _ ?_
 all_goals grind
end
theorem wrN {j:Nat} (h:j<4611686018427387904):i64.wrap ((j:Int)+(1:Int))=((j+1:Nat):Int):=by
 rw[wr (by omega) (by omega)];omega
theorem get_at {s:ByteArray} {j:Nat} (h:j<s.size):∃c:UInt8,s[j]? =some c/\G.bt s j=c.toNat:=by
 refine⟨s[j],getElem?_pos s j h,?_⟩
 unfold G.bt
 grind
def pC (s:ByteArray) (b:Nat):List Value->ab->Nat:=fun _ h=>
 match ac h b 1 with
 | some (.int _ x)=>s.size-x.toNat
 | _=>0
theorem cI {s:ByteArray} {b i:Nat} {h:ab} (L:Lx h b s i) (l:List Value):pC s b l h=s.size-i:=by
 unfold pC;rw[L.c1];simp
theorem xQ {s:ByteArray} {j:Nat} (h:j<=s.size):G.At s j (s.extract j s.size).data.toList:=by
 refine⟨h,?_⟩
 rw[ByteArray.data_extract,Array.toList_extract,List.extract_eq_take_drop,List.take_of_length_le]
 simp_all
theorem u8w {x:Int} (h1:0<=x) (h2:x<256):u8.wrap x=x:=by rw[IntKind.wrap_u8'];omega
theorem nG (t:ByteArray) (l:List UInt8):G.preB t 0 l=Lib.hasPrefix t.data.toList l:=by
 unfold G.preB Lib.hasPrefix
 rw[ByteArray.data_extract,Array.toList_extract,List.extract_eq_take_drop,List.drop_zero,Nat.zero_add,Nat.sub_zero]
 rw[Bool.eq_iff_iff]
 simp only[decide_eq_true_eq,List.isPrefixOf_iff_prefix]
 constructor
 ·intro e
  rw[<-e]
  exact List.take_prefix _ _
 ·intro h
  exact(List.prefix_iff_eq_take.1 h).symm
def zQ (o:Option (Nat × Nat)):Value:=
 match o with
 | some (c,n)=>.tuple #[.int .u8 (c:Int),.int .i64 (n:Int)]
 | none=>.tuple #[.int .u8 0,.int .i64 0]
def nm5 :List (List UInt8):=[G.amp,G.Au,G.ltB,G.gtB,G.Av]
def nb5 :List UInt8:=[38,34,60,62,39]
theorem Aw {t:ByteArray} {i:Nat} (h:G.uz (G.bt t i)=true):i<t.size:=G.jw (by intro e;rw[e]at h;revert h;decide)
end Go.Proofs.YtlflalecmhgmjaaGreatDoor.N
namespace Go.Proofs.YtlflalecmhgmjaaGreatDoor.G
theorem jy {s:ByteArray} {j:Nat} (a b:Nat):(s.extract a b).data.toList=(s.data.toList.drop a).take (b-a):=by
 rw[ByteArray.data_extract,Array.toList_extract,List.extract_eq_take_drop]
theorem oG (s:ByteArray) (j:Nat):(s.extract j s.size).data.toList=s.data.toList.drop j:=by
 rw[jy (j:=0),List.take_of_length_le]
 rw[List.length_drop];exact Nat.le_refl _
theorem uE (s:ByteArray) (j:Nat) (l:List UInt8):preB (s.extract j s.size) 0 l=preB s j l:=by
 unfold preB
 rw[jy (j:=0),oG,jy (j:=0),Nat.zero_add,Nat.sub_zero,Nat.add_sub_cancel_left,List.drop_zero]
theorem uF (s:ByteArray) (j k:Nat):bt (s.extract j s.size) k=bt s (j+k):=by
 rw[qO,qO,oG,List.getElem?_drop]
theorem pD (s:ByteArray) (j:Nat):∀(r n k:Nat),fW s r n (j+k)=((fW (s.extract j s.size) r n k).1,j+(fW (s.extract j s.size) r n k).2)
 | 0,n,k=>rfl
 | r+1,n,k=>by
  rw[fW,fW,uF]
  split
  ·rw[show j+k+1=j+(k+1) by omega,pD s j r _ (k+1)]
  ·rfl
theorem uG (s:ByteArray) (j:Nat):part (s.extract j s.size) 0=part s j:=by
 unfold part
 simp only[uE,pD s j 3 0 2]
 have hg:=oB (s.extract j s.size) 3 0 2
 simp only[Nat.zero_add]at hg ⊢
 generalize fW (s.extract j s.size) 3 0 2=y at hg ⊢
 obtain⟨n,k⟩:=y
 simp only[uF]at hg ⊢
 have e1:(j+k=j+2)=(k=2):=by apply propext;omega
 have e2:j+k+1-j=k+1-0:=by omega
 simp only[e1,e2]
theorem xU {s:ByteArray} {i c n:Nat} (h:part s i=some (c,n)):c<256:=by
 unfold part at h
 split at h
 ·cases h;decide
 split at h
 ·cases h;decide
 split at h
 ·cases h;decide
 split at h
 ·cases h;decide
 split at h
 ·cases h;decide
 split at h
 ·cases h
 ·generalize fW s 3 0 (i+2)=y at h
  obtain⟨m,k⟩:=y
  simp only at h
  split at h
  ·cases h
  ·rename_i q
   simp only[not_or,Bool.not_eq_false]at q
   simp only[Option.some.injEq,Prod.mk.injEq]at h
   have:=q.2.2
   simp[dq]at this
   omega
end Go.Proofs.YtlflalecmhgmjaaGreatDoor.G
namespace Go.Proofs.YtlflalecmhgmjaaGreatDoor.N
open Go.Proofs.YtlflalecmhgmjaaGreatDoor
open Go.X
set_option maxRecDepth 100000
def bv (l:List UInt8):List Value:=l.map fun c=>Value.int .u8 ((c.toNat:Nat):Int)
theorem pE (l:List UInt8):strOf (l.map fun c=>((c.toNat:Nat):Int))=G.mkB l:=by
 unfold strOf G.mkB
 rw[foldl_push_byteCells l ByteArray.empty]
 have e:ByteArray.empty.data=#[]:=rfl
 rw[e];simp
theorem _root_.Go.X.Gl.fr {gl:GL} {h h':ab} {M:List Nat} (g:Gl gl h) (f:Fr M h h') (hm:∀b∈glB gl,b∉M):Gl gl h':=g.congr fun b hb=>f.blk b (g.lt b hb) (hm b hb)
theorem _root_.Go.X.Fr.hsetL {h h1:ab} {M:List Nat} (f:Fr M h h1) {p o:Nat} {v:Value} (hp:h.size<=p):Fr M h (am h1 p o v):=f.hsetr (.inl hp)
open Go.RowKit (Below)
theorem Gl.tab {gl:GL} {w:World} (g:Gl gl w.heap):Lib.TabIs Tryz.prog w "internal/strconv.uint64pow10" .u64 Lib.pow10Tab:=by
 obtain⟨e,f,q⟩:=g.uu
 have hg:Tryz.prog.globalNamed "internal/strconv.uint64pow10" =some 2:=by kernel_rfl
 unfold Lib.TabIs World.var?
 rw[hg]
 show(match w.heap[2]? with | some (.cells cs _ _)=>some cs | _=>none)=_
 rw[q]
 rfl
end Go.Proofs.YtlflalecmhgmjaaGreatDoor.N
namespace Go.X
def rds (cs:List Ck):List Nat:=cs.flatMap Ck.rd
theorem bk {cs:List Ck} {b:Nat}:b∈rds cs ↔ ∃(k:Nat) (c:Ck),cs[k]? =some c/\b∈c.rd:=by
 simp only[rds,List.mem_flatMap]
 exact⟨fun⟨c,h1,h2⟩=>let ⟨k,h3⟩:=List.mem_iff_getElem?.1 h1;⟨k,c,h3,h2⟩,fun⟨k,c,h1,h2⟩=>⟨c,List.mem_of_getElem? h1,h2⟩⟩
theorem bM {cs:List Ck} {b:Nat}:b∈aA cs ↔ ∃(k:Nat) (c:Ck),cs[k]? =some c/\b∈c.own:=by
 simp only[aA,List.mem_flatMap]
 exact⟨fun⟨c,h1,h2⟩=>let ⟨k,h3⟩:=List.mem_iff_getElem?.1 h1;⟨k,c,h3,h2⟩,fun⟨k,c,h1,h2⟩=>⟨c,List.mem_of_getElem? h1,h2⟩⟩
structure Sq (h0:ab) (C:List Ck) (h:ab) (cs:List Ck):Prop where
 sy:Sy h0 (aA C) h cs
 ri:∀b∈rds cs,b∈rds C\/b∈aA C\/h0.size<=b
theorem Sq.start {h:ab} {cs:List Ck} (H:Hp h cs):Sq h cs h cs:=⟨Sy.start H,fun b hb=>.inl hb⟩
theorem Sq.hp {h0 h:ab} {C cs:List Ck} (q:Sq h0 C h cs):Hp h cs:=q.sy.hp
theorem Sq.fr {h0 h:ab} {C cs:List Ck} (q:Sq h0 C h cs):Fr (aA C) h0 h:=q.sy.fr
section
variable {h0 h h':ab} {C A B cs cs':List Ck}
theorem ik {k:Nat} {c:Ck} (hk:A[k]? =some c):(A++B)[k]? =some c:=by
 grind
theorem kM {k:Nat} {c:Ck} (hk:B[k]? =some c):(A++B)[A.length+k]? =some c:=by
 grind
theorem dz {k:Nat} {c:Ck} (hk:(A++B)[k]? =some c):A[k]? =some c\/(A.length<=k/\B[k-A.length]? =some c):=by
 grind
theorem Sq.frA (q:Sq h0 C h (A++B)) (f:Fr (aA A) h h'):Fr (aA C) h0 h':=
 q.fr.comp f fun b hb=>by
  obtain⟨k,c,h1,h2⟩:=bM.1 hb
  exact q.sy.ow k c (ik h1) b h2
theorem Sq.frT (q:Sq h0 C h cs) (f:Fr (aA cs) h h'):Fr (aA C) h0 h':=Sq.frA (B:=[]) (by simpa using q) f
theorem Sq.call (q:Sq h0 C h (A++B)) (p:Sq h A h' cs'):Sq h0 C h' (cs'++B):=by
 have Y:=q.sy
 have P:=p.sy
 have okB:∀(k:Nat) (c:Ck),B[k]? =some c->c.ok h':=by
  intro k c hk
  have hk':=kM (A:=A) hk
  have hok:=Y.hp.ok _ c hk'
  obtain⟨l1,l2⟩:=c.lt h hok
  refine c.fr h h' (fun b hb=>P.fr.blk b (l1 b hb) fun w=>?_) (fun b hb=>P.fr.blk b (l2 b hb) fun w=>?_) hok
  ·obtain⟨i,d,h1,h3⟩:=bM.1 w
   have:=(List.getElem?_eq_some_iff.1 h1).1
   exact(Y.hp.ap i (A.length+k) d c (by omega) (ik h1) hk' b h3).1 hb
  ·obtain⟨i,d,h1,h3⟩:=bM.1 w
   have:=(List.getElem?_eq_some_iff.1 h1).1
   exact(Y.hp.ap i (A.length+k) d c (by omega) (ik h1) hk' b h3).2 hb
 refine⟨⟨q.frA P.fr,⟨fun k c hk=>?_,fun i j c d hij hi hj=>?_⟩,fun k c hk b hb=>?_⟩,fun b hb=>?_⟩
 ·rcases dz hk with hk | ⟨_,hk⟩
  ·exact P.hp.ok k c hk
  grind
 ·rcases dz hi with hi | ⟨hl,hi⟩
  ·rcases dz hj with hj | ⟨hl2,hj⟩
   ·exact P.hp.ap i j c d hij hi hj
   ·intro b hb
    have hj':=kM (A:=A) hj
    obtain⟨l1,l2⟩:=d.lt h (Y.hp.ok _ d hj')
    rcases P.ow i c hi b hb with w | w
    ·obtain⟨x,e,h1,h3⟩:=bM.1 w
     have:=(List.getElem?_eq_some_iff.1 h1).1
     exact Y.hp.ap x _ e d (by omega) (ik h1) hj' b h3
    grind
  ·rcases dz hj with hj | ⟨hl2,hj⟩
   ·intro b hb
    have hi':=kM (A:=A) hi
    obtain⟨l1,l2⟩:=c.lt h (Y.hp.ok _ c hi')
    have hbl:=l1 b hb
    refine⟨fun x=>?_,fun x=>?_⟩
    ·rcases P.ow j d hj b x with w | w
     ·obtain⟨x,e,h1,h3⟩:=bM.1 w
      have:=(List.getElem?_eq_some_iff.1 h1).1
      exact(Y.hp.ap x _ e c (by omega) (ik h1) hi' b h3).1 hb
     ·omega
    ·rcases p.ri b (bk.2 ⟨j,d,hj,x⟩)with w | w | w
     ·obtain⟨x,e,h1,h3⟩:=bk.1 w
      have:=(List.getElem?_eq_some_iff.1 h1).1
      exact(Y.hp.ap _ x c e (by omega) hi' (ik h1) b hb).2 h3
     ·obtain⟨x,e,h1,h3⟩:=bM.1 w
      have:=(List.getElem?_eq_some_iff.1 h1).1
      exact(Y.hp.ap x _ e c (by omega) (ik h1) hi' b h3).1 hb
     ·omega
   ·exact Y.hp.ap _ _ c d (by omega) (kM hi) (kM hj)
 ·rcases dz hk with hk | ⟨_,hk⟩
  ·rcases P.ow k c hk b hb with w | w
   ·obtain⟨i,d,h1,h3⟩:=bM.1 w
    exact Y.ow i d (ik h1) b h3
   ·have:=Y.le;omega
  ·exact Y.ow _ c (kM hk) b hb
 ·obtain⟨k,c,hk,hb⟩:=bk.1 hb
  rcases dz hk with hk | ⟨_,hk⟩
  ·rcases p.ri b (bk.2 ⟨k,c,hk,hb⟩)with w | w | w
   ·obtain⟨x,e,h1,h3⟩:=bk.1 w
    exact q.ri b (bk.2 ⟨x,e,ik h1,h3⟩)
   ·obtain⟨x,e,h1,h3⟩:=bM.1 w
    have:=Y.ow x e (ik h1) b h3
    grind
   ·have:=Y.le;omega
  ·exact q.ri b (bk.2 ⟨_,c,kM hk,hb⟩)
theorem Sq.callT (q:Sq h0 C h cs) (p:Sq h cs h' cs'):Sq h0 C h' cs':=by
 have:=Sq.call (A:=cs) (B:=[]) (by simpa using q) p
 grind
theorem Sq.pick (q:Sq h0 C h cs) (l:List Nat) (hc:ii cs.length l=true):Sq h0 C h (pk cs l):=
 ⟨q.sy.pick l hc,fun b hb=>by
  obtain⟨k,c,h1,h2⟩:=bk.1 hb
  obtain⟨i,_,h3⟩:=gR hc h1
  exact q.ri b (bk.2 ⟨i,c,h3,h2⟩)⟩
theorem Sq.gr (q:Sq h0 C h cs) (f:Fr [] h h'):Sq h0 C h' cs:=⟨q.sy.gr f,q.ri⟩
end
def ek (ks:List (List UInt8)):List (Value × Value):=ks.map fun k=>(.string (Go.Proofs.YtlflalecmhgmjaaGreatDoor.G.mkB k),.int .i64 1)
abbrev Fs :=List (Nat × Nat × Value)
section
variable {h0 h h':ab} {M:List Nat} {cs:List Ck} {mo:Option (Nat × List (List UInt8))} {fs:Fs} {gl:GL}
theorem im {m b o:Nat} {v:Value} {x:Array MapEntry × Nat} (h1:bf h m=some x) (h2:ac h b o=some v):m≠b:=by
 rintro rfl
 obtain⟨es,c⟩:=x
 obtain⟨c,e,f,h3,_⟩:=ke h2
 rw[bd h1]at h3
 cases h3
end
end Go.X
