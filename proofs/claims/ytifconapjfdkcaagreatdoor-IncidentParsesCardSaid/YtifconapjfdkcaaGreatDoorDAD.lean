/-
  DERIVED: THE SHELF's CONTRACTS AT THIS DUMP, IN PLAIN WORDS (tools/lay-plain.mjs out of 'TryzShelf.lean', which tools/lay-shelf.mjs wrote): THE SAME DECLARATIONS UNDER THE SAME NAMES: 'import', 'namespace', 'open', 'def', 'theorem' AND NOTHING ELSE: no command of the shelf's: FOR A HAND-IN. Each laying: the table of numbers ('.._ren') and one theorem, a field a fact of the dump's own or the kernel's comparison; each contract: ONE APPLICATION.
-/
import Derived.Test.YtifconapjfdkcaaGreatDoorDAA
import Derived.Shelf.Strings.Builder1
import Derived.Shelf.Strings.Builder2
import Derived.Shelf.Small.Strs
import Derived.Shelf.Strings.BuilderF
import Derived.Shelf.Strconv.Itoa0
import Derived.Shelf.Strconv.Itoa1
import Derived.Shelf.LaysM
import Derived.Shelf.Strconv.Itoa2
import Derived.Shelf.Strconv.Itoa3
import Derived.Shelf.Strings.Search1
import Derived.Shelf.Strings.Search2
import Derived.Shelf.Strings.Search3
import Derived.Shelf.Strings.Cut
import Derived.Shelf.Strings.Count
import Derived.Shelf.Strings.Shaped
import Derived.Shelf.Strings.Prefix
import Derived.Shelf.Strings.Split
import Derived.Shelf.Strings.SplitShaped
import Derived.Shelf.Bits.Mul64
import Derived.Shelf.Strings.Repeat
import Derived.Shelf.Unicode.DecodeSlow
import Derived.Ground.SlsfProg
import Derived.Shelf.SlSortCmp.Insertion
import Derived.Shelf.SlSortCmp.Insertion1
import Derived.Test.YtifconapjfdkcaaGreatDoorProg
set_option linter.unusedSimpArgs false
set_option linter.unusedVariables false
set_option maxRecDepth 100000
set_option maxHeartbeats 12800000
namespace Go.Proofs
open Go.Shelf
def Tryz.lays170_ren:Go.Shelf.Ren:=⟨fun|170=>56|n=>n,fun|70=>104|3=>3|0=>0|72=>107|37=>105|5=>5|n=>n,fun|n=>n⟩
theorem Tryz.lays170:Go.Proofs.Lays.n170 Tryz.prog Tryz.lays170_ren:={
 mixed:=by kernel_rfl
 f170:=Tryz.func56.trans (congrArg some (by kernel_rfl))
 t0:=Tryz.underlying0
 a0:=Tryz.isAgg0
 z0:=Tryz.sizeOf0
 v0:=Tryz.zeroValue0
 t3:=Tryz.underlying3
 a3:=Tryz.isAgg3
 z3:=Tryz.sizeOf3
 v3:=Tryz.zeroValue3
 t37:=Tryz.underlying105
 a37:=Tryz.isAgg105
 z37:=Tryz.sizeOf105
 v37:=Tryz.zeroValue105
 t70:=Tryz.underlying104
 a70:=Tryz.isAgg104
 z70:=Tryz.sizeOf104
 v70:=Tryz.zeroValue104
 t72:=Tryz.underlying107
 a72:=Tryz.isAgg107
 z72:=Tryz.sizeOf107
 v72:=Tryz.zeroValue107 }
open Go.RowKit in
theorem Tryz.Builder_Len(B b:Nat)(bs:List Value)(w:World)(h:Lib.IsBuilder 107 5 B b bs w) :
 Calls Tryz.prog 56 #[.pointer (some ⟨b,0,none⟩)] w fun e w'=>e=.returned (.int .i64 bs.length)∧w'=w:=Any.Builder_Len Tryz.lays170 B b bs w h
def Tryz.lays169_ren:Go.Shelf.Ren:=⟨fun|169=>57|n=>n,fun|70=>104|9=>9|0=>0|72=>107|37=>105|127=>149|3=>3|5=>5|n=>n,fun|n=>n⟩
theorem Tryz.lays169:Go.Proofs.Lays.n169 Tryz.prog Tryz.lays169_ren:={
 mixed:=by kernel_rfl
 f169:=Tryz.func57.trans (congrArg some (by kernel_rfl))
 t0:=Tryz.underlying0
 a0:=Tryz.isAgg0
 z0:=Tryz.sizeOf0
 v0:=Tryz.zeroValue0
 t3:=Tryz.underlying3
 a3:=Tryz.isAgg3
 z3:=Tryz.sizeOf3
 v3:=Tryz.zeroValue3
 t9:=Tryz.underlying9
 a9:=Tryz.isAgg9
 z9:=Tryz.sizeOf9
 v9:=Tryz.zeroValue9
 t37:=Tryz.underlying105
 a37:=Tryz.isAgg105
 z37:=Tryz.sizeOf105
 v37:=Tryz.zeroValue105
 t70:=Tryz.underlying104
 a70:=Tryz.isAgg104
 z70:=Tryz.sizeOf104
 v70:=Tryz.zeroValue104
 t72:=Tryz.underlying107
 a72:=Tryz.isAgg107
 z72:=Tryz.sizeOf107
 v72:=Tryz.zeroValue107
 t127:=Tryz.underlying149
 a127:=Tryz.isAgg149
 z127:=Tryz.sizeOf149
 v127:=Tryz.zeroValue149 }
theorem Tryz.Builder_Extra_169:Builder.Extra Tryz.prog Tryz.lays169_ren:={
 sizeBuilder:=by kernel_rfl
 liesBuilder:=by kernel_rfl
 t5:=Tryz.underlying5
 a5:=Tryz.isAgg5
 z5:=Tryz.sizeOf5
 v5:=Tryz.zeroValue5
 infoByte:=by kernel_rfl
 cellsByte:=by kernel_rfl
 sizeByte:=by kernel_rfl
 neB5:=by decide }
open Go.RowKit in
theorem Tryz.Builder_String(B b:Nat)(l:List UInt8)(w:World)(h:Lib.IsBuilder 107 5 B b (Lib.byteCells l) w)(h0:l≠[]) :
 Calls Tryz.prog 57 #[.pointer (some ⟨b,0,none⟩)] w fun e w'=>e=.returned (.string ⟨l.toArray⟩)∧Below B w w':=Any.Builder_String Tryz.lays169 Tryz.Builder_Extra_169 B b l w h h0
open Go.RowKit in
theorem Tryz.Builder_String_empty(B b:Nat)(w:World)(h:Lib.IsBuilder 107 5 B b [] w)(hBw:B≤w.heap.size) :
 Calls Tryz.prog 57 #[.pointer (some ⟨b,0,none⟩)] w fun e w'=>e=.returned (.string ⟨#[]⟩)∧Below B w w':=Any.Builder_String_empty Tryz.lays169 Tryz.Builder_Extra_169 B b w h hBw
def Tryz.lays213_ren:Go.Shelf.Ren:=⟨fun|213=>112|265=>158|n=>n,fun|9=>9|3=>3|n=>n,fun|n=>n⟩
def Tryz.lays106_ren:Go.Shelf.Ren:=⟨fun|106=>80|213=>112|265=>158|n=>n,fun|9=>9|3=>3|n=>n,fun|n=>n⟩
theorem Tryz.lays106:Go.Proofs.Lays.n106 Tryz.prog Tryz.lays106_ren:={
 mixed:=by kernel_rfl
 f106:=Tryz.func80.trans (congrArg some (by kernel_rfl))
 f213:=Tryz.func112.trans (congrArg some (by kernel_rfl))
 f265:=Tryz.func158.trans (congrArg some (by kernel_rfl))
 t3:=Tryz.underlying3
 a3:=Tryz.isAgg3
 z3:=Tryz.sizeOf3
 v3:=Tryz.zeroValue3
 t9:=Tryz.underlying9
 a9:=Tryz.isAgg9
 z9:=Tryz.sizeOf9
 v9:=Tryz.zeroValue9 }
open Go.RowKit in
theorem Tryz.strings_Compare(a b:ByteArray)(w:World) :
 Calls Tryz.prog 80 #[.string a,.string b] w fun e w'=>e=.returned (.int .i64 (Lib.compareBytes a.data.toList b.data.toList))∧w'=w:=Any.strings_Compare Tryz.lays106 a b w
def Tryz.laysM246_ren:Go.Shelf.Ren:=⟨fun|246=>161|283=>185|284=>186|285=>187|286=>188|129=>207|317=>206|318=>208|319=>209|320=>210|337=>217|338=>218|n=>n,fun|2=>2|3=>3|9=>9|4=>4|171=>225|0=>0|53=>226|37=>105|5=>5|173=>229|212=>240|51=>234|20=>20|213=>241|46=>64|232=>250|233=>251|n=>n,fun|17=>1|18=>4|19=>5|n=>n⟩
def Tryz.laysM243_ren:Go.Shelf.Ren:=⟨fun|243=>122|246=>161|283=>185|284=>186|285=>187|286=>188|129=>207|317=>206|318=>208|319=>209|320=>210|337=>217|338=>218|n=>n,fun|3=>3|9=>9|2=>2|4=>4|171=>225|0=>0|53=>226|37=>105|5=>5|173=>229|212=>240|51=>234|20=>20|213=>241|46=>64|232=>250|233=>251|n=>n,fun|17=>1|18=>4|19=>5|n=>n⟩
def Tryz.laysM171_ren:Go.Shelf.Ren:=⟨fun|171=>93|243=>122|246=>161|283=>185|284=>186|285=>187|286=>188|129=>207|317=>206|318=>208|319=>209|320=>210|337=>217|338=>218|n=>n,fun|3=>3|9=>9|2=>2|4=>4|171=>225|0=>0|53=>226|37=>105|5=>5|173=>229|212=>240|51=>234|20=>20|213=>241|46=>64|232=>250|233=>251|n=>n,fun|17=>1|18=>4|19=>5|n=>n⟩
theorem Tryz.laysM171:Go.Proofs.LaysM.n171 Tryz.prog Tryz.laysM171_ren:={
 mixed:=by kernel_rfl
 f129:=Tryz.func207.trans (congrArg some (by kernel_rfl))
 f171:=Tryz.func93.trans (congrArg some (by kernel_rfl))
 f243:=Tryz.func122.trans (congrArg some (by kernel_rfl))
 f246:=Tryz.func161.trans (congrArg some (by kernel_rfl))
 f283:=Tryz.func185.trans (congrArg some (by kernel_rfl))
 f284:=Tryz.func186.trans (congrArg some (by kernel_rfl))
 f285:=Tryz.func187.trans (congrArg some (by kernel_rfl))
 f286:=Tryz.func188.trans (congrArg some (by kernel_rfl))
 f317:=Tryz.func206.trans (congrArg some (by kernel_rfl))
 f318:=Tryz.func208.trans (congrArg some (by kernel_rfl))
 f319:=Tryz.func209.trans (congrArg some (by kernel_rfl))
 f320:=Tryz.func210.trans (congrArg some (by kernel_rfl))
 f337:=Tryz.func217.trans (congrArg some (by kernel_rfl))
 f338:=Tryz.func218.trans (congrArg some (by kernel_rfl))
 t0:=Tryz.underlying0
 a0:=Tryz.isAgg0
 z0:=Tryz.sizeOf0
 v0:=Tryz.zeroValue0
 t2:=Tryz.underlying2
 a2:=Tryz.isAgg2
 z2:=Tryz.sizeOf2
 v2:=Tryz.zeroValue2
 t3:=Tryz.underlying3
 a3:=Tryz.isAgg3
 z3:=Tryz.sizeOf3
 v3:=Tryz.zeroValue3
 t4:=Tryz.underlying4
 a4:=Tryz.isAgg4
 z4:=Tryz.sizeOf4
 v4:=Tryz.zeroValue4
 t5:=Tryz.underlying5
 a5:=Tryz.isAgg5
 z5:=Tryz.sizeOf5
 v5:=Tryz.zeroValue5
 t9:=Tryz.underlying9
 a9:=Tryz.isAgg9
 z9:=Tryz.sizeOf9
 v9:=Tryz.zeroValue9
 t20:=Tryz.underlying20
 a20:=Tryz.isAgg20
 z20:=Tryz.sizeOf20
 v20:=Tryz.zeroValue20
 t37:=Tryz.underlying105
 a37:=Tryz.isAgg105
 z37:=Tryz.sizeOf105
 v37:=Tryz.zeroValue105
 t46:=Tryz.underlying64
 a46:=Tryz.isAgg64
 z46:=Tryz.sizeOf64
 v46:=Tryz.zeroValue64
 t51:=Tryz.underlying234
 a51:=Tryz.isAgg234
 z51:=Tryz.sizeOf234
 v51:=Tryz.zeroValue234
 t53:=Tryz.underlying226
 a53:=Tryz.isAgg226
 z53:=Tryz.sizeOf226
 v53:=Tryz.zeroValue226
 t171:=Tryz.underlying225
 a171:=Tryz.isAgg225
 z171:=Tryz.sizeOf225
 v171:=Tryz.zeroValue225
 t173:=Tryz.underlying229
 a173:=Tryz.isAgg229
 z173:=Tryz.sizeOf229
 v173:=Tryz.zeroValue229
 t212:=Tryz.underlying240
 a212:=Tryz.isAgg240
 z212:=Tryz.sizeOf240
 v212:=Tryz.zeroValue240
 t213:=Tryz.underlying241
 a213:=Tryz.isAgg241
 z213:=Tryz.sizeOf241
 t232:=Tryz.underlying250
 a232:=Tryz.isAgg250
 z232:=Tryz.sizeOf250
 v232:=Tryz.zeroValue250
 t233:=Tryz.underlying251
 a233:=Tryz.isAgg251
 z233:=Tryz.sizeOf251
 v233:=Tryz.zeroValue251
 g17:=by kernel_rfl
 g18:=by kernel_rfl
 g19:=by kernel_rfl
 i0:=by kernel_rfl
 i2:=by kernel_rfl
 i3:=by kernel_rfl
 i4:=by kernel_rfl
 i5:=by kernel_rfl
 i9:=by kernel_rfl
 i20:=by kernel_rfl
 i37:=by kernel_rfl
 i46:=by kernel_rfl
 i51:=by kernel_rfl
 i53:=by kernel_rfl
 i171:=by kernel_rfl
 i173:=by kernel_rfl
 i212:=by kernel_rfl
 i232:=by kernel_rfl
 i233:=by kernel_rfl
 m17:=by kernel_rfl
 m18:=by kernel_rfl
 m19:=by kernel_rfl }
open Go.RowKit Go.Sort Go.Lib in
theorem Tryz.strconv_Itoa(n:Int)(h0 : -9223372036854775808≤n)(h1:n≤9223372036854775807)(w:World)(htab:Lib.TabIs Tryz.prog w "internal/strconv.uint64pow10" .u64 Lib.pow10Tab) :
 Calls Tryz.prog 93 #[.int .i64 n] w fun e w'=>e=.returned (.string ⟨(Lib.itoa n).toArray⟩) ∧ ∃ k os,w'=grow (w.drewN k) os:=Any.strconv_Itoa Tryz.laysM171 n h0 h1 w htab
def Tryz.lays219_ren:Go.Shelf.Ren:=⟨fun|219=>170|217=>192|225=>193|224=>194|267=>195|266=>212|314=>213|n=>n,fun|9=>9|3=>3|4=>4|5=>5|46=>64|146=>235|51=>234|n=>n,fun|1=>0|n=>n⟩
theorem Tryz.lays219:Go.Proofs.Lays.n219 Tryz.prog Tryz.lays219_ren:={
 mixed:=by kernel_rfl
 f217:=Tryz.func192.trans (congrArg some (by kernel_rfl))
 f219:=Tryz.func170.trans (congrArg some (by kernel_rfl))
 f224:=Tryz.func194.trans (congrArg some (by kernel_rfl))
 f225:=Tryz.func193.trans (congrArg some (by kernel_rfl))
 f266:=Tryz.func212.trans (congrArg some (by kernel_rfl))
 f267:=Tryz.func195.trans (congrArg some (by kernel_rfl))
 f314:=Tryz.func213.trans (congrArg some (by kernel_rfl))
 t3:=Tryz.underlying3
 a3:=Tryz.isAgg3
 z3:=Tryz.sizeOf3
 v3:=Tryz.zeroValue3
 t4:=Tryz.underlying4
 a4:=Tryz.isAgg4
 z4:=Tryz.sizeOf4
 v4:=Tryz.zeroValue4
 t5:=Tryz.underlying5
 a5:=Tryz.isAgg5
 z5:=Tryz.sizeOf5
 v5:=Tryz.zeroValue5
 t9:=Tryz.underlying9
 a9:=Tryz.isAgg9
 z9:=Tryz.sizeOf9
 v9:=Tryz.zeroValue9
 t46:=Tryz.underlying64
 a46:=Tryz.isAgg64
 z46:=Tryz.sizeOf64
 v46:=Tryz.zeroValue64
 t51:=Tryz.underlying234
 a51:=Tryz.isAgg234
 z51:=Tryz.sizeOf234
 v51:=Tryz.zeroValue234
 t146:=Tryz.underlying235
 a146:=Tryz.isAgg235
 z146:=Tryz.sizeOf235
 v146:=Tryz.zeroValue235
 g1:=by kernel_rfl }
open Go.RowKit Go.Lib in
theorem Tryz.stringslite_Index_one(s:ByteArray)(c:UInt8)(w:World) :
 Calls Tryz.prog 170 #[.string s,.string ⟨#[c]⟩] w fun e w'=>e=.returned (.int .i64 (Lib.indexByte s.data.toList c))∧w'=w:=Any.stringslite_Index_one Tryz.lays219 s c w
def Tryz.lays206_ren:Go.Shelf.Ren:=⟨fun|206=>196|n=>n,fun|9=>9|4=>4|3=>3|n=>n,fun|n=>n⟩
def Tryz.lays101_ren:Go.Shelf.Ren:=⟨fun|101=>134|208=>172|206=>196|n=>n,fun|9=>9|4=>4|3=>3|n=>n,fun|n=>n⟩
theorem Tryz.lays101:Go.Proofs.Lays.n101 Tryz.prog Tryz.lays101_ren:={
 mixed:=by kernel_rfl
 f101:=Tryz.func134.trans (congrArg some (by kernel_rfl))
 f206:=Tryz.func196.trans (congrArg some (by kernel_rfl))
 f208:=Tryz.func172.trans (congrArg some (by kernel_rfl))
 t3:=Tryz.underlying3
 a3:=Tryz.isAgg3
 z3:=Tryz.sizeOf3
 v3:=Tryz.zeroValue3
 t4:=Tryz.underlying4
 a4:=Tryz.isAgg4
 z4:=Tryz.sizeOf4
 v4:=Tryz.zeroValue4
 t9:=Tryz.underlying9
 a9:=Tryz.isAgg9
 z9:=Tryz.sizeOf9
 v9:=Tryz.zeroValue9 }
open Go.RowKit Go.Lib in
theorem Tryz.strings_TrimPrefix(s p:ByteArray)(w:World) :
 Calls Tryz.prog 134 #[.string s,.string p] w fun e w'=>e=.returned (.string ⟨(Lib.trimPrefix s.data.toList p.data.toList).toArray⟩)∧w'=w:=Any.strings_TrimPrefix Tryz.lays101 s p w
def Tryz.lays102_ren:Go.Shelf.Ren:=⟨fun|102=>96|209=>128|207=>169|n=>n,fun|9=>9|4=>4|3=>3|n=>n,fun|n=>n⟩
theorem Tryz.lays102:Go.Proofs.Lays.n102 Tryz.prog Tryz.lays102_ren:={
 mixed:=by kernel_rfl
 f102:=Tryz.func96.trans (congrArg some (by kernel_rfl))
 f207:=Tryz.func169.trans (congrArg some (by kernel_rfl))
 f209:=Tryz.func128.trans (congrArg some (by kernel_rfl))
 t3:=Tryz.underlying3
 a3:=Tryz.isAgg3
 z3:=Tryz.sizeOf3
 v3:=Tryz.zeroValue3
 t4:=Tryz.underlying4
 a4:=Tryz.isAgg4
 z4:=Tryz.sizeOf4
 v4:=Tryz.zeroValue4
 t9:=Tryz.underlying9
 a9:=Tryz.isAgg9
 z9:=Tryz.sizeOf9
 v9:=Tryz.zeroValue9 }
open Go.RowKit Go.Lib in
theorem Tryz.strings_TrimSuffix(s p:ByteArray)(w:World)(hs:s.size≤9223372036854775807) :
 Calls Tryz.prog 96 #[.string s,.string p] w fun e w'=>e=.returned (.string ⟨(Lib.trimSuffix s.data.toList p.data.toList).toArray⟩)∧w'=w:=Any.strings_TrimSuffix Tryz.lays102 s p w hs
def Tryz.lays221_ren:Go.Shelf.Ren:=⟨fun|221=>127|268=>166|138=>167|143=>168|195=>189|197=>190|218=>191|219=>170|260=>211|217=>192|225=>193|224=>194|267=>195|266=>212|314=>213|n=>n,fun|9=>9|3=>3|31=>36|4=>4|0=>0|105=>231|21=>21|5=>5|46=>64|119=>246|139=>249|138=>248|146=>235|51=>234|n=>n,fun|1=>0|3=>2|4=>3|n=>n⟩
def Tryz.lays146_ren:Go.Shelf.Ren:=⟨fun|146=>95|221=>127|268=>166|138=>167|143=>168|195=>189|197=>190|218=>191|219=>170|260=>211|217=>192|225=>193|224=>194|267=>195|266=>212|314=>213|n=>n,fun|9=>9|31=>36|3=>3|4=>4|0=>0|105=>231|21=>21|5=>5|46=>64|119=>246|139=>249|138=>248|146=>235|51=>234|n=>n,fun|1=>0|3=>2|4=>3|n=>n⟩
theorem Tryz.lays146:Go.Proofs.Lays.n146 Tryz.prog Tryz.lays146_ren:={
 mixed:=by kernel_rfl
 f138:=Tryz.func167.trans (congrArg some (by kernel_rfl))
 f143:=Tryz.func168.trans (congrArg some (by kernel_rfl))
 f146:=Tryz.func95.trans (congrArg some (by kernel_rfl))
 f195:=Tryz.func189.trans (congrArg some (by kernel_rfl))
 f197:=Tryz.func190.trans (congrArg some (by kernel_rfl))
 f217:=Tryz.func192.trans (congrArg some (by kernel_rfl))
 f218:=Tryz.func191.trans (congrArg some (by kernel_rfl))
 f219:=Tryz.func170.trans (congrArg some (by kernel_rfl))
 f221:=Tryz.func127.trans (congrArg some (by kernel_rfl))
 f224:=Tryz.func194.trans (congrArg some (by kernel_rfl))
 f225:=Tryz.func193.trans (congrArg some (by kernel_rfl))
 f260:=Tryz.func211.trans (congrArg some (by kernel_rfl))
 f266:=Tryz.func212.trans (congrArg some (by kernel_rfl))
 f267:=Tryz.func195.trans (congrArg some (by kernel_rfl))
 f268:=Tryz.func166.trans (congrArg some (by kernel_rfl))
 f314:=Tryz.func213.trans (congrArg some (by kernel_rfl))
 t0:=Tryz.underlying0
 a0:=Tryz.isAgg0
 z0:=Tryz.sizeOf0
 v0:=Tryz.zeroValue0
 t3:=Tryz.underlying3
 a3:=Tryz.isAgg3
 z3:=Tryz.sizeOf3
 v3:=Tryz.zeroValue3
 t4:=Tryz.underlying4
 a4:=Tryz.isAgg4
 z4:=Tryz.sizeOf4
 v4:=Tryz.zeroValue4
 t5:=Tryz.underlying5
 a5:=Tryz.isAgg5
 z5:=Tryz.sizeOf5
 v5:=Tryz.zeroValue5
 t9:=Tryz.underlying9
 a9:=Tryz.isAgg9
 z9:=Tryz.sizeOf9
 v9:=Tryz.zeroValue9
 t21:=Tryz.underlying21
 a21:=Tryz.isAgg21
 z21:=Tryz.sizeOf21
 v21:=Tryz.zeroValue21
 t31:=Tryz.underlying36
 a31:=Tryz.isAgg36
 z31:=Tryz.sizeOf36
 v31:=Tryz.zeroValue36
 t46:=Tryz.underlying64
 a46:=Tryz.isAgg64
 z46:=Tryz.sizeOf64
 v46:=Tryz.zeroValue64
 t51:=Tryz.underlying234
 a51:=Tryz.isAgg234
 z51:=Tryz.sizeOf234
 v51:=Tryz.zeroValue234
 t105:=Tryz.underlying231
 a105:=Tryz.isAgg231
 z105:=Tryz.sizeOf231
 v105:=Tryz.zeroValue231
 t119:=Tryz.underlying246
 a119:=Tryz.isAgg246
 z119:=Tryz.sizeOf246
 t138:=Tryz.underlying248
 a138:=Tryz.isAgg248
 z138:=Tryz.sizeOf248
 v138:=Tryz.zeroValue248
 t139:=Tryz.underlying249
 a139:=Tryz.isAgg249
 z139:=Tryz.sizeOf249
 v139:=Tryz.zeroValue249
 t146:=Tryz.underlying235
 a146:=Tryz.isAgg235
 z146:=Tryz.sizeOf235
 v146:=Tryz.zeroValue235
 g1:=by kernel_rfl
 g3:=by kernel_rfl
 g4:=by kernel_rfl }
open Go.RowKit Go.Lib in
theorem Tryz.strings_Split(s sep:ByteArray)(m:Int)(w:World)(hs:s.size<4294967281)(hm:w.cell? ⟨0,0,none⟩=some (.int .i64 m))(h1:1≤sep.size) :
 Calls Tryz.prog 95 #[.string s,.string sep] w fun e w' =>
  e=.returned (.slice (some ⟨w.heap.size,0,none⟩) (Lib.countB s sep+1) (Lib.countB s sep+1))∧w'=w.alloc (.cells ((Lib.splitB sep 0 (Lib.countB s sep) s).map Value.string).toArray 9):=Any.strings_Split Tryz.lays146 (by kernel_rfl) s sep m w hs hm h1
def Tryz.lays105_ren:Go.Shelf.Ren:=⟨fun|105=>160|212=>182|99=>183|165=>184|166=>54|170=>56|169=>57|263=>203|264=>204|206=>196|240=>92|241=>205|276=>121|277=>216|n=>n,fun|9=>9|3=>3|4=>4|20=>20|0=>0|46=>64|109=>222|5=>5|72=>107|76=>111|51=>234|146=>235|53=>226|148=>237|70=>104|37=>105|75=>110|127=>149|164=>174|80=>115|n=>n,fun|n=>n⟩
theorem Tryz.lays105:Go.Proofs.Lays.n105 Tryz.prog Tryz.lays105_ren:={
 mixed:=by kernel_rfl
 f99:=Tryz.func183.trans (congrArg some (by kernel_rfl))
 f105:=Tryz.func160.trans (congrArg some (by kernel_rfl))
 f165:=Tryz.func184.trans (congrArg some (by kernel_rfl))
 f166:=Tryz.func54.trans (congrArg some (by kernel_rfl))
 f169:=Tryz.func57.trans (congrArg some (by kernel_rfl))
 f170:=Tryz.func56.trans (congrArg some (by kernel_rfl))
 f206:=Tryz.func196.trans (congrArg some (by kernel_rfl))
 f212:=Tryz.func182.trans (congrArg some (by kernel_rfl))
 f240:=Tryz.func92.trans (congrArg some (by kernel_rfl))
 f241:=Tryz.func205.trans (congrArg some (by kernel_rfl))
 f263:=Tryz.func203.trans (congrArg some (by kernel_rfl))
 f264:=Tryz.func204.trans (congrArg some (by kernel_rfl))
 f276:=Tryz.func121.trans (congrArg some (by kernel_rfl))
 f277:=Tryz.func216.trans (congrArg some (by kernel_rfl))
 t0:=Tryz.underlying0
 a0:=Tryz.isAgg0
 z0:=Tryz.sizeOf0
 v0:=Tryz.zeroValue0
 t3:=Tryz.underlying3
 a3:=Tryz.isAgg3
 z3:=Tryz.sizeOf3
 v3:=Tryz.zeroValue3
 t4:=Tryz.underlying4
 a4:=Tryz.isAgg4
 z4:=Tryz.sizeOf4
 v4:=Tryz.zeroValue4
 t5:=Tryz.underlying5
 a5:=Tryz.isAgg5
 z5:=Tryz.sizeOf5
 v5:=Tryz.zeroValue5
 t9:=Tryz.underlying9
 a9:=Tryz.isAgg9
 z9:=Tryz.sizeOf9
 v9:=Tryz.zeroValue9
 t20:=Tryz.underlying20
 a20:=Tryz.isAgg20
 z20:=Tryz.sizeOf20
 v20:=Tryz.zeroValue20
 t37:=Tryz.underlying105
 a37:=Tryz.isAgg105
 z37:=Tryz.sizeOf105
 v37:=Tryz.zeroValue105
 t46:=Tryz.underlying64
 a46:=Tryz.isAgg64
 z46:=Tryz.sizeOf64
 v46:=Tryz.zeroValue64
 t51:=Tryz.underlying234
 a51:=Tryz.isAgg234
 z51:=Tryz.sizeOf234
 v51:=Tryz.zeroValue234
 t53:=Tryz.underlying226
 a53:=Tryz.isAgg226
 z53:=Tryz.sizeOf226
 v53:=Tryz.zeroValue226
 t70:=Tryz.underlying104
 a70:=Tryz.isAgg104
 z70:=Tryz.sizeOf104
 v70:=Tryz.zeroValue104
 t72:=Tryz.underlying107
 a72:=Tryz.isAgg107
 z72:=Tryz.sizeOf107
 v72:=Tryz.zeroValue107
 t75:=Tryz.underlying110
 a75:=Tryz.isAgg110
 z75:=Tryz.sizeOf110
 v75:=Tryz.zeroValue110
 t76:=Tryz.underlying111
 a76:=Tryz.isAgg111
 z76:=Tryz.sizeOf111
 v76:=Tryz.zeroValue111
 t109:=Tryz.underlying222
 a109:=Tryz.isAgg222
 z109:=Tryz.sizeOf222
 v109:=Tryz.zeroValue222
 t127:=Tryz.underlying149
 a127:=Tryz.isAgg149
 z127:=Tryz.sizeOf149
 v127:=Tryz.zeroValue149
 t146:=Tryz.underlying235
 a146:=Tryz.isAgg235
 z146:=Tryz.sizeOf235
 v146:=Tryz.zeroValue235
 t148:=Tryz.underlying237
 a148:=Tryz.isAgg237
 z148:=Tryz.sizeOf237
 v148:=Tryz.zeroValue237
 t164:=Tryz.underlying174
 a164:=Tryz.isAgg174
 z164:=Tryz.sizeOf174
 v164:=Tryz.zeroValue174 }
open Go.RowKit Go.Lib in
theorem Tryz.strings_Repeat_one(s:ByteArray)(w:World) :
 Calls Tryz.prog 160 #[.string s,.int .i64 1] w fun e w'=>e=.returned (.string s)∧w'=w:=Any.strings_Repeat_one Tryz.lays105 s w
def Tryz.laysSlF20_f156_ren:Go.Shelf.Ren:=⟨fun|20=>156|n=>n,fun|24=>3|22=>22|3=>3|25=>139|4=>4|0=>0|n=>n,fun|n=>n⟩
theorem Tryz.laysSlF20_f156:Go.Proofs.SlLaysF.n20 Tryz.prog Tryz.laysSlF20_f156_ren:={
 mixed:=by kernel_rfl
 f20:=⟨Tryz.f156.name,by decide,Tryz.func156.trans (congrArg some (by kernel_rfl))⟩
 t0:=Tryz.underlying0
 a0:=Tryz.isAgg0
 z0:=Tryz.sizeOf0
 v0:=Tryz.zeroValue0
 t3:=Tryz.underlying3
 a3:=Tryz.isAgg3
 z3:=Tryz.sizeOf3
 v3:=Tryz.zeroValue3
 t4:=Tryz.underlying4
 a4:=Tryz.isAgg4
 z4:=Tryz.sizeOf4
 v4:=Tryz.zeroValue4
 t22:=Tryz.underlying22
 a22:=Tryz.isAgg22
 z22:=Tryz.sizeOf22
 v22:=Tryz.zeroValue22
 a24:=Tryz.isAgg3
 z24:=Tryz.sizeOf3
 t25:=Tryz.underlying139
 a25:=Tryz.isAgg139
 z25:=Tryz.sizeOf139
 v25:=Tryz.zeroValue139 }
open Go.RowKit Go.Lib Go.Sort in
theorem Tryz.insertionSortCmpFunc_one{α : Type}[Inhabited α](enc : α → Value)(hO:OneCell enc)(cf : α → α → Int)(g:Nat)(cb:Array Value)(blk off cap a b:Nat)(d:Array α)(w:World)(eg : ∀ args w,(callFunc g args).run Tryz.prog w=.ok (.enter g args) w)(hcmp:CmpReads Tryz.prog g cb enc cf blk off d.size w)(hH:Holds enc w blk off d)(hab:a≤b)(hb:b≤d.size)(hsz:d.size<4611686018427387904) :
 Calls Tryz.prog 156 #[.slice (some ⟨blk,off,none⟩) d.size cap,.int .i64 a,.int .i64 b,.func (.func g) #[] cb] w fun e w' =>
  e=.returned (.tuple #[]) ∧ ∃ n,w'=(putRow enc w blk off (Sort.insertionSort (ltOf cf) d a b)).drewN n:=Any.insertionSortCmpFunc_one Tryz.laysSlF20_f156 enc hO cf g cb blk off cap a b d w eg hcmp hH hab hb hsz
end Go.Proofs
