import Derived.Test.YtekfodeknpnkbaaGreatDoorT6
import Derived.Shelf.Utf8.RuneCount
import Derived.Shelf.Strconv.Atoi
import Derived.Shelf.Strconv.Itoa0
import Derived.Shelf.Strconv.Itoa1
import Derived.Shelf.LaysM
import Derived.Shelf.Strconv.Itoa2
import Derived.Shelf.Strconv.Itoa3
import Derived.Shelf.Strconv.AtoiErrFast
import Derived.Shelf.Strconv.ParseIntEmpty
import Derived.Shelf.Strconv.AtoiFail
import Derived.Shelf.Strconv.Clone
import Derived.Shelf.Strconv.SyntaxError
import Derived.Shelf.LaysC
import Derived.Shelf.Strconv.ToError
import Derived.Shelf.Strconv.Lower
import Derived.Shelf.Strconv.ParseUint10
import Derived.Shelf.Strconv.ParseUint10Empty
import Derived.Shelf.Strconv.ParseUint10Any
import Derived.Shelf.Strconv.ParseInt10
import Derived.Shelf.Strconv.AtoiLong
import Derived.Shelf.Strconv.AtoiInnerAll
import Derived.Shelf.Strconv.RangeError
import Derived.Shelf.Strconv.ToErrorRange
import Derived.Shelf.Strconv.AtoiAll
import Derived.Shelf.Strconv.ErrVarAll
import Derived.Shelf.Strconv.ParseUintEmpty
import Derived.Shelf.Strconv.ParseUint10b64
import Derived.Shelf.Strings.Search1
import Derived.Shelf.Strings.Search2
import Derived.Shelf.Strings.Search3
import Derived.Shelf.Strings.Cut
import Derived.Shelf.Strings.Count
import Derived.Shelf.Strings.Shaped
import Derived.Shelf.Strings.Prefix
import Derived.Shelf.Strings.Split
import Derived.Shelf.Strings.SplitShaped
import Derived.Shelf.Bits.Mul64
import Derived.Shelf.Unicode.DecodeSlow
import Derived.Test.YtekfodeknpnkbaaGreatDoorProg
import Derived.Lib.AppendIntMem
import Derived.Lib.SmallJoins
import Derived.Lib.ConvBytes
import Derived.Lib.SplitLaws
import Derived.Lib.ItoaLen
import Derived.Lib.AtoiAllCases
import Derived.Recover
import Derived.Tactics2
import Derived.Laws.Pointers
set_option linter.unusedSimpArgs false
set_option linter.unusedVariables false
namespace Go.Proofs
open Go.Shelf
def Tryz.laysM171_ren:Go.Shelf.Ren:=⟨fun|171=>101|243=>150|246=>192|283=>213|284=>214|285=>215|286=>216|129=>226|317=>225|318=>227|319=>228|320=>229|337=>232|338=>233|n=>n,fun|3=>3|9=>9|2=>2|4=>4|171=>258|0=>0|53=>214|37=>138|5=>5|173=>261|212=>274|51=>91|20=>20|213=>275|46=>55|232=>284|233=>285|n=>n,fun|17=>4|18=>7|19=>8|n=>n⟩
theorem Tryz.laysM171:Go.Proofs.LaysM.n171 Tryz.prog Tryz.laysM171_ren:={
 mixed:=by kernel_rfl
 f129:=Tryz.func226.trans (congrArg some (by kernel_rfl))
 f171:=Tryz.func101.trans (congrArg some (by kernel_rfl))
 f243:=Tryz.func150.trans (congrArg some (by kernel_rfl))
 f246:=Tryz.func192.trans (congrArg some (by kernel_rfl))
 f283:=Tryz.func213.trans (congrArg some (by kernel_rfl))
 f284:=Tryz.func214.trans (congrArg some (by kernel_rfl))
 f285:=Tryz.func215.trans (congrArg some (by kernel_rfl))
 f286:=Tryz.func216.trans (congrArg some (by kernel_rfl))
 f317:=Tryz.func225.trans (congrArg some (by kernel_rfl))
 f318:=Tryz.func227.trans (congrArg some (by kernel_rfl))
 f319:=Tryz.func228.trans (congrArg some (by kernel_rfl))
 f320:=Tryz.func229.trans (congrArg some (by kernel_rfl))
 f337:=Tryz.func232.trans (congrArg some (by kernel_rfl))
 f338:=Tryz.func233.trans (congrArg some (by kernel_rfl))
 t0:=Tryz.underlying0
 a0:=Tryz.isAgg0
 z0:=Tryz.sizeOf0
 v0:=Tryz.zeroValue0
 t2:=Tryz.underlying2
 a2:=Tryz.isAgg2
 z2:=Tryz.sizeOf2
 v2:=Tryz.zeroValue2
 t3:=Tryz.underlying3
 a3:=Tryz.isAgg3
 z3:=Tryz.sizeOf3
 v3:=Tryz.zeroValue3
 t4:=Tryz.underlying4
 a4:=Tryz.isAgg4
 z4:=Tryz.sizeOf4
 v4:=Tryz.zeroValue4
 t5:=Tryz.underlying5
 a5:=Tryz.isAgg5
 z5:=Tryz.sizeOf5
 v5:=Tryz.zeroValue5
 t9:=Tryz.underlying9
 a9:=Tryz.isAgg9
 z9:=Tryz.sizeOf9
 v9:=Tryz.zeroValue9
 t20:=Tryz.underlying20
 a20:=Tryz.isAgg20
 z20:=Tryz.sizeOf20
 v20:=Tryz.zeroValue20
 t37:=Tryz.underlying138
 a37:=Tryz.isAgg138
 z37:=Tryz.sizeOf138
 v37:=Tryz.zeroValue138
 t46:=Tryz.underlying55
 a46:=Tryz.isAgg55
 z46:=Tryz.sizeOf55
 v46:=Tryz.zeroValue55
 t51:=Tryz.underlying91
 a51:=Tryz.isAgg91
 z51:=Tryz.sizeOf91
 v51:=Tryz.zeroValue91
 t53:=Tryz.underlying214
 a53:=Tryz.isAgg214
 z53:=Tryz.sizeOf214
 v53:=Tryz.zeroValue214
 t171:=Tryz.underlying258
 a171:=Tryz.isAgg258
 z171:=Tryz.sizeOf258
 v171:=Tryz.zeroValue258
 t173:=Tryz.underlying261
 a173:=Tryz.isAgg261
 z173:=Tryz.sizeOf261
 v173:=Tryz.zeroValue261
 t212:=Tryz.underlying274
 a212:=Tryz.isAgg274
 z212:=Tryz.sizeOf274
 v212:=Tryz.zeroValue274
 t213:=Tryz.underlying275
 a213:=Tryz.isAgg275
 z213:=Tryz.sizeOf275
 t232:=Tryz.underlying284
 a232:=Tryz.isAgg284
 z232:=Tryz.sizeOf284
 v232:=Tryz.zeroValue284
 t233:=Tryz.underlying285
 a233:=Tryz.isAgg285
 z233:=Tryz.sizeOf285
 v233:=Tryz.zeroValue285
 g17:=by kernel_rfl
 g18:=by kernel_rfl
 g19:=by kernel_rfl
 i0:=by kernel_rfl
 i2:=by kernel_rfl
 i3:=by kernel_rfl
 i4:=by kernel_rfl
 i5:=by kernel_rfl
 i9:=by kernel_rfl
 i20:=by kernel_rfl
 i37:=by kernel_rfl
 i46:=by kernel_rfl
 i51:=by kernel_rfl
 i53:=by kernel_rfl
 i171:=by kernel_rfl
 i173:=by kernel_rfl
 i212:=by kernel_rfl
 i232:=by kernel_rfl
 i233:=by kernel_rfl
 m17:=by kernel_rfl
 m18:=by kernel_rfl
 m19:=by kernel_rfl}
open Go.RowKit Go.Sort Go.Lib in
theorem Tryz.strconv_Itoa (n:Int) (h0 : -9223372036854775808≤n) (h1:n≤9223372036854775807) (w:World) (htab:Lib.TabIs Tryz.prog w "internal/strconv.uint64pow10" .u64 Lib.pow10Tab) :
 Calls Tryz.prog 101 #[.int .i64 n] w fun e w'=>e=.returned (.string ⟨(Lib.itoa n).toArray⟩)∧∃ k os,w'=grow (w.drewN k) os:=Any.strconv_Itoa Tryz.laysM171 n h0 h1 w htab
def Tryz.laysC172_ren:Go.Shelf.Ren:=⟨fun|172=>100|244=>148|245=>149|247=>187|279=>188|280=>189|281=>190|282=>191|287=>210|316=>211|171=>101|205=>212|321=>223|322=>224|243=>150|246=>192|283=>213|284=>214|285=>215|286=>216|129=>226|317=>225|318=>227|319=>228|320=>229|337=>232|338=>233|n=>n,fun|9=>9|3=>3|75=>102|76=>154|4=>4|5=>5|167=>222|37=>138|0=>0|85=>223|2=>2|168=>225|53=>214|175=>252|46=>55|210=>256|127=>269|145=>272|143=>270|21=>21|171=>258|173=>261|212=>274|51=>91|20=>20|213=>275|232=>284|233=>285|80=>37|n=>n,fun|15=>2|16=>3|17=>4|18=>7|19=>8|n=>n⟩
theorem Tryz.laysC172:Go.Proofs.LaysC.n172 Tryz.prog Tryz.laysC172_ren:={
 mixed:=by kernel_rfl
 f129:=Tryz.func226.trans (congrArg some (by kernel_rfl))
 f171:=Tryz.func101.trans (congrArg some (by kernel_rfl))
 f172:=Tryz.func100.trans (congrArg some (by kernel_rfl))
 f205:=Tryz.func212.trans (congrArg some (by kernel_rfl))
 f243:=Tryz.func150.trans (congrArg some (by kernel_rfl))
 f244:=Tryz.func148.trans (congrArg some (by kernel_rfl))
 f245:=Tryz.func149.trans (congrArg some (by kernel_rfl))
 f246:=Tryz.func192.trans (congrArg some (by kernel_rfl))
 f247:=Tryz.func187.trans (congrArg some (by kernel_rfl))
 f279:=Tryz.func188.trans (congrArg some (by kernel_rfl))
 f280:=Tryz.func189.trans (congrArg some (by kernel_rfl))
 f281:=Tryz.func190.trans (congrArg some (by kernel_rfl))
 f282:=Tryz.func191.trans (congrArg some (by kernel_rfl))
 f283:=Tryz.func213.trans (congrArg some (by kernel_rfl))
 f284:=Tryz.func214.trans (congrArg some (by kernel_rfl))
 f285:=Tryz.func215.trans (congrArg some (by kernel_rfl))
 f286:=Tryz.func216.trans (congrArg some (by kernel_rfl))
 f287:=Tryz.func210.trans (congrArg some (by kernel_rfl))
 f316:=Tryz.func211.trans (congrArg some (by kernel_rfl))
 f317:=Tryz.func225.trans (congrArg some (by kernel_rfl))
 f318:=Tryz.func227.trans (congrArg some (by kernel_rfl))
 f319:=Tryz.func228.trans (congrArg some (by kernel_rfl))
 f320:=Tryz.func229.trans (congrArg some (by kernel_rfl))
 f321:=Tryz.func223.trans (congrArg some (by kernel_rfl))
 f322:=Tryz.func224.trans (congrArg some (by kernel_rfl))
 f337:=Tryz.func232.trans (congrArg some (by kernel_rfl))
 f338:=Tryz.func233.trans (congrArg some (by kernel_rfl))
 t0:=Tryz.underlying0
 a0:=Tryz.isAgg0
 z0:=Tryz.sizeOf0
 v0:=Tryz.zeroValue0
 t2:=Tryz.underlying2
 a2:=Tryz.isAgg2
 z2:=Tryz.sizeOf2
 v2:=Tryz.zeroValue2
 t3:=Tryz.underlying3
 a3:=Tryz.isAgg3
 z3:=Tryz.sizeOf3
 v3:=Tryz.zeroValue3
 t4:=Tryz.underlying4
 a4:=Tryz.isAgg4
 z4:=Tryz.sizeOf4
 v4:=Tryz.zeroValue4
 t5:=Tryz.underlying5
 a5:=Tryz.isAgg5
 z5:=Tryz.sizeOf5
 v5:=Tryz.zeroValue5
 t9:=Tryz.underlying9
 a9:=Tryz.isAgg9
 z9:=Tryz.sizeOf9
 v9:=Tryz.zeroValue9
 t20:=Tryz.underlying20
 a20:=Tryz.isAgg20
 z20:=Tryz.sizeOf20
 v20:=Tryz.zeroValue20
 t21:=Tryz.underlying21
 a21:=Tryz.isAgg21
 z21:=Tryz.sizeOf21
 v21:=Tryz.zeroValue21
 t37:=Tryz.underlying138
 a37:=Tryz.isAgg138
 z37:=Tryz.sizeOf138
 v37:=Tryz.zeroValue138
 t46:=Tryz.underlying55
 a46:=Tryz.isAgg55
 z46:=Tryz.sizeOf55
 v46:=Tryz.zeroValue55
 t51:=Tryz.underlying91
 a51:=Tryz.isAgg91
 z51:=Tryz.sizeOf91
 v51:=Tryz.zeroValue91
 t53:=Tryz.underlying214
 a53:=Tryz.isAgg214
 z53:=Tryz.sizeOf214
 v53:=Tryz.zeroValue214
 t75:=Tryz.underlying102
 a75:=Tryz.isAgg102
 z75:=Tryz.sizeOf102
 v75:=Tryz.zeroValue102
 t76:=Tryz.underlying154
 a76:=Tryz.isAgg154
 z76:=Tryz.sizeOf154
 v76:=Tryz.zeroValue154
 t85:=Tryz.underlying223
 a85:=Tryz.isAgg223
 z85:=Tryz.sizeOf223
 v85:=Tryz.zeroValue223
 t127:=Tryz.underlying269
 a127:=Tryz.isAgg269
 z127:=Tryz.sizeOf269
 v127:=Tryz.zeroValue269
 t143:=Tryz.underlying270
 a143:=Tryz.isAgg270
 z143:=Tryz.sizeOf270
 v143:=Tryz.zeroValue270
 t145:=Tryz.underlying272
 a145:=Tryz.isAgg272
 z145:=Tryz.sizeOf272
 v145:=Tryz.zeroValue272
 t167:=Tryz.underlying222
 a167:=Tryz.isAgg222
 z167:=Tryz.sizeOf222
 v167:=Tryz.zeroValue222
 t168:=Tryz.underlying225
 a168:=Tryz.isAgg225
 z168:=Tryz.sizeOf225
 v168:=Tryz.zeroValue225
 t171:=Tryz.underlying258
 a171:=Tryz.isAgg258
 z171:=Tryz.sizeOf258
 v171:=Tryz.zeroValue258
 t173:=Tryz.underlying261
 a173:=Tryz.isAgg261
 z173:=Tryz.sizeOf261
 v173:=Tryz.zeroValue261
 t175:=Tryz.underlying252
 a175:=Tryz.isAgg252
 z175:=Tryz.sizeOf252
 v175:=Tryz.zeroValue252
 t210:=Tryz.underlying256
 a210:=Tryz.isAgg256
 z210:=Tryz.sizeOf256
 v210:=Tryz.zeroValue256
 t212:=Tryz.underlying274
 a212:=Tryz.isAgg274
 z212:=Tryz.sizeOf274
 v212:=Tryz.zeroValue274
 t213:=Tryz.underlying275
 a213:=Tryz.isAgg275
 z213:=Tryz.sizeOf275
 t232:=Tryz.underlying284
 a232:=Tryz.isAgg284
 z232:=Tryz.sizeOf284
 v232:=Tryz.zeroValue284
 t233:=Tryz.underlying285
 a233:=Tryz.isAgg285
 z233:=Tryz.sizeOf285
 v233:=Tryz.zeroValue285
 g15:=by kernel_rfl
 g16:=by kernel_rfl
 g17:=by kernel_rfl
 g18:=by kernel_rfl
 g19:=by kernel_rfl
 t80:=Tryz.underlying37
 a80:=Tryz.isAgg37
 z80:=Tryz.sizeOf37
 v80:=Tryz.zeroValue37
 i0:=by kernel_rfl
 i2:=by kernel_rfl
 i3:=by kernel_rfl
 i4:=by kernel_rfl
 i5:=by kernel_rfl
 i9:=by kernel_rfl
 i20:=by kernel_rfl
 i21:=by kernel_rfl
 i37:=by kernel_rfl
 i46:=by kernel_rfl
 i51:=by kernel_rfl
 i53:=by kernel_rfl
 i75:=by kernel_rfl
 i76:=by kernel_rfl
 i80:=by kernel_rfl
 i85:=by kernel_rfl
 i127:=by kernel_rfl
 i143:=by kernel_rfl
 i145:=by kernel_rfl
 i167:=by kernel_rfl
 i168:=by kernel_rfl
 i171:=by kernel_rfl
 i173:=by kernel_rfl
 i175:=by kernel_rfl
 i210:=by kernel_rfl
 i212:=by kernel_rfl
 i232:=by kernel_rfl
 i233:=by kernel_rfl
 m15:=by kernel_rfl
 m16:=by kernel_rfl
 m17:=by kernel_rfl
 m18:=by kernel_rfl
 m19:=by kernel_rfl
 c0:=by kernel_rfl
 c2:=by kernel_rfl
 c3:=by kernel_rfl
 c4:=by kernel_rfl
 c5:=by kernel_rfl
 c9:=by kernel_rfl
 c20:=by kernel_rfl
 c21:=by kernel_rfl
 c37:=by kernel_rfl
 c46:=by kernel_rfl
 c51:=by kernel_rfl
 c53:=by kernel_rfl
 c75:=by kernel_rfl
 c76:=by kernel_rfl
 c80:=by kernel_rfl
 c85:=by kernel_rfl
 c127:=by kernel_rfl
 c143:=by kernel_rfl
 c145:=by kernel_rfl
 c167:=by kernel_rfl
 c168:=by kernel_rfl
 c171:=by kernel_rfl
 c173:=by kernel_rfl
 c175:=by kernel_rfl
 c210:=by kernel_rfl
 c212:=by kernel_rfl
 c213:=by kernel_rfl
 c232:=by kernel_rfl
 c233:=by kernel_rfl}
open Go.RowKit in
theorem Tryz.strconv_Atoi_ok (s:ByteArray) (hmax:s.size≤9223372036854775806) (v:Int) (h:Lib.atoiAll s.data.toList=.ok v) (w:World) :
 Calls Tryz.prog 100 #[.string s] w fun e w'=>e=.returned (.tuple #[.int .i64 v,.nilIface])∧(w'=w∨∃ t,w'=Lib.bytesWorld w 5 t):=Any.strconv_Atoi_ok Tryz.laysC172 s hmax v h w
open Go.RowKit in
theorem Tryz.strconv_Atoi_syntax_var (s:ByteArray) (hlim:s.size≤281474976710656) (h:Lib.atoiAll s.data.toList=Go.Lib.NumEnd.syntax) (tp:TypeId) (p:Value) (w:World) (hvar:w.var? Tryz.prog "strconv.ErrSyntax"=some #[.iface tp p]) :
 Calls Tryz.prog 100 #[.string s] w fun e w'=>∃ N,e=.returned (.tuple #[.int .i64 0,.iface 225 (.pointer (some ⟨N,0,none⟩))])∧w.heap.size≤N∧w'.heap[N]?=some (.cells #[.string ⟨#[65,116,111,105]⟩,.string s,.iface tp p] 256 (0,0))∧Below w.heap.size w w':=Any.strconv_Atoi_syntax_var Tryz.laysC172 s hlim h tp p w hvar
open Go.RowKit in
theorem Tryz.strconv_Atoi_range_var (s:ByteArray) (hlim:s.size≤281474976710656) (h:Lib.atoiAll s.data.toList=.range) (tp:TypeId) (p:Value) (w:World) (hvar:w.var? Tryz.prog "strconv.ErrRange"=some #[.iface tp p]) :
 Calls Tryz.prog 100 #[.string s] w fun e w'=>∃ N,e=.returned (.tuple #[.int .i64 (Lib.atoiSat s.data.toList),.iface 225 (.pointer (some ⟨N,0,none⟩))])∧w.heap.size≤N∧w'.heap[N]?=some (.cells #[.string ⟨#[65,116,111,105]⟩,.string s,.iface tp p] 256 (0,0))∧Below w.heap.size w w':=Any.strconv_Atoi_range_var Tryz.laysC172 s hlim h tp p w hvar
def Tryz.lays145_ren:Go.Shelf.Ren:=⟨fun|145=>64|220=>111|219=>158|217=>198|225=>199|224=>200|267=>201|266=>220|314=>221|n=>n,fun|9=>9|4=>4|59=>115|3=>3|5=>5|46=>55|146=>212|51=>91|n=>n,fun|1=>1|n=>n⟩
theorem Tryz.lays145:Go.Proofs.Lays.n145 Tryz.prog Tryz.lays145_ren:={
 mixed:=by kernel_rfl
 f145:=Tryz.func64.trans (congrArg some (by kernel_rfl))
 f217:=Tryz.func198.trans (congrArg some (by kernel_rfl))
 f219:=Tryz.func158.trans (congrArg some (by kernel_rfl))
 f220:=Tryz.func111.trans (congrArg some (by kernel_rfl))
 f224:=Tryz.func200.trans (congrArg some (by kernel_rfl))
 f225:=Tryz.func199.trans (congrArg some (by kernel_rfl))
 f266:=Tryz.func220.trans (congrArg some (by kernel_rfl))
 f267:=Tryz.func201.trans (congrArg some (by kernel_rfl))
 f314:=Tryz.func221.trans (congrArg some (by kernel_rfl))
 t3:=Tryz.underlying3
 a3:=Tryz.isAgg3
 z3:=Tryz.sizeOf3
 v3:=Tryz.zeroValue3
 t4:=Tryz.underlying4
 a4:=Tryz.isAgg4
 z4:=Tryz.sizeOf4
 v4:=Tryz.zeroValue4
 t5:=Tryz.underlying5
 a5:=Tryz.isAgg5
 z5:=Tryz.sizeOf5
 v5:=Tryz.zeroValue5
 t9:=Tryz.underlying9
 a9:=Tryz.isAgg9
 z9:=Tryz.sizeOf9
 v9:=Tryz.zeroValue9
 t46:=Tryz.underlying55
 a46:=Tryz.isAgg55
 z46:=Tryz.sizeOf55
 v46:=Tryz.zeroValue55
 t51:=Tryz.underlying91
 a51:=Tryz.isAgg91
 z51:=Tryz.sizeOf91
 v51:=Tryz.zeroValue91
 t59:=Tryz.underlying115
 a59:=Tryz.isAgg115
 z59:=Tryz.sizeOf115
 v59:=Tryz.zeroValue115
 t146:=Tryz.underlying212
 a146:=Tryz.isAgg212
 z146:=Tryz.sizeOf212
 v146:=Tryz.zeroValue212
 g1:=by kernel_rfl}
open Go.RowKit Go.Lib in
theorem Tryz.strings_Cut (s sep:ByteArray) (m:Int) (w:World) (hs:s.size<4294967281) (hm:w.cell? ⟨1,0,none⟩=some (.int .i64 m)) :
 Calls Tryz.prog 64 #[.string s,.string sep] w fun e w'=>e=.returned (.tuple #[.string ⟨(Lib.cut s.data.toList sep.data.toList).1.toArray⟩,.string ⟨(Lib.cut s.data.toList sep.data.toList).2.1.toArray⟩,.bool (Lib.cut s.data.toList sep.data.toList).2.2])∧∃ n,w'=w.drewN n:=Any.strings_Cut Tryz.lays145 s sep m w hs hm
def Tryz.lays102_ren:Go.Shelf.Ren:=⟨fun|102=>155|209=>196|207=>217|n=>n,fun|9=>9|4=>4|3=>3|n=>n,fun|n=>n⟩
theorem Tryz.lays102:Go.Proofs.Lays.n102 Tryz.prog Tryz.lays102_ren:={
 mixed:=by kernel_rfl
 f102:=Tryz.func155.trans (congrArg some (by kernel_rfl))
 f207:=Tryz.func217.trans (congrArg some (by kernel_rfl))
 f209:=Tryz.func196.trans (congrArg some (by kernel_rfl))
 t3:=Tryz.underlying3
 a3:=Tryz.isAgg3
 z3:=Tryz.sizeOf3
 v3:=Tryz.zeroValue3
 t4:=Tryz.underlying4
 a4:=Tryz.isAgg4
 z4:=Tryz.sizeOf4
 v4:=Tryz.zeroValue4
 t9:=Tryz.underlying9
 a9:=Tryz.isAgg9
 z9:=Tryz.sizeOf9
 v9:=Tryz.zeroValue9}
open Go.RowKit Go.Lib in
theorem Tryz.strings_TrimSuffix (s p:ByteArray) (w:World) (hs:s.size≤9223372036854775807) :
 Calls Tryz.prog 155 #[.string s,.string p] w fun e w'=>e=.returned (.string ⟨(Lib.trimSuffix s.data.toList p.data.toList).toArray⟩)∧w'=w:=Any.strings_TrimSuffix Tryz.lays102 s p w hs
def Tryz.lays146_ren:Go.Shelf.Ren:=⟨fun|146=>98|221=>147|268=>184|138=>185|143=>186|195=>207|197=>208|218=>209|219=>158|260=>222|217=>198|225=>199|224=>200|267=>201|266=>220|314=>221|n=>n,fun|9=>9|31=>23|3=>3|4=>4|0=>0|105=>250|21=>21|5=>5|46=>55|119=>279|139=>282|138=>281|146=>212|51=>91|n=>n,fun|1=>1|3=>5|4=>6|n=>n⟩
theorem Tryz.lays146:Go.Proofs.Lays.n146 Tryz.prog Tryz.lays146_ren:={
 mixed:=by kernel_rfl
 f138:=Tryz.func185.trans (congrArg some (by kernel_rfl))
 f143:=Tryz.func186.trans (congrArg some (by kernel_rfl))
 f146:=Tryz.func98.trans (congrArg some (by kernel_rfl))
 f195:=Tryz.func207.trans (congrArg some (by kernel_rfl))
 f197:=Tryz.func208.trans (congrArg some (by kernel_rfl))
 f217:=Tryz.func198.trans (congrArg some (by kernel_rfl))
 f218:=Tryz.func209.trans (congrArg some (by kernel_rfl))
 f219:=Tryz.func158.trans (congrArg some (by kernel_rfl))
 f221:=Tryz.func147.trans (congrArg some (by kernel_rfl))
 f224:=Tryz.func200.trans (congrArg some (by kernel_rfl))
 f225:=Tryz.func199.trans (congrArg some (by kernel_rfl))
 f260:=Tryz.func222.trans (congrArg some (by kernel_rfl))
 f266:=Tryz.func220.trans (congrArg some (by kernel_rfl))
 f267:=Tryz.func201.trans (congrArg some (by kernel_rfl))
 f268:=Tryz.func184.trans (congrArg some (by kernel_rfl))
 f314:=Tryz.func221.trans (congrArg some (by kernel_rfl))
 t0:=Tryz.underlying0
 a0:=Tryz.isAgg0
 z0:=Tryz.sizeOf0
 v0:=Tryz.zeroValue0
 t3:=Tryz.underlying3
 a3:=Tryz.isAgg3
 z3:=Tryz.sizeOf3
 v3:=Tryz.zeroValue3
 t4:=Tryz.underlying4
 a4:=Tryz.isAgg4
 z4:=Tryz.sizeOf4
 v4:=Tryz.zeroValue4
 t5:=Tryz.underlying5
 a5:=Tryz.isAgg5
 z5:=Tryz.sizeOf5
 v5:=Tryz.zeroValue5
 t9:=Tryz.underlying9
 a9:=Tryz.isAgg9
 z9:=Tryz.sizeOf9
 v9:=Tryz.zeroValue9
 t21:=Tryz.underlying21
 a21:=Tryz.isAgg21
 z21:=Tryz.sizeOf21
 v21:=Tryz.zeroValue21
 t31:=Tryz.underlying23
 a31:=Tryz.isAgg23
 z31:=Tryz.sizeOf23
 v31:=Tryz.zeroValue23
 t46:=Tryz.underlying55
 a46:=Tryz.isAgg55
 z46:=Tryz.sizeOf55
 v46:=Tryz.zeroValue55
 t51:=Tryz.underlying91
 a51:=Tryz.isAgg91
 z51:=Tryz.sizeOf91
 v51:=Tryz.zeroValue91
 t105:=Tryz.underlying250
 a105:=Tryz.isAgg250
 z105:=Tryz.sizeOf250
 v105:=Tryz.zeroValue250
 t119:=Tryz.underlying279
 a119:=Tryz.isAgg279
 z119:=Tryz.sizeOf279
 t138:=Tryz.underlying281
 a138:=Tryz.isAgg281
 z138:=Tryz.sizeOf281
 v138:=Tryz.zeroValue281
 t139:=Tryz.underlying282
 a139:=Tryz.isAgg282
 z139:=Tryz.sizeOf282
 v139:=Tryz.zeroValue282
 t146:=Tryz.underlying212
 a146:=Tryz.isAgg212
 z146:=Tryz.sizeOf212
 v146:=Tryz.zeroValue212
 g1:=by kernel_rfl
 g3:=by kernel_rfl
 g4:=by kernel_rfl}
open Go.RowKit Go.Lib in
theorem Tryz.strings_Split (s sep:ByteArray) (m:Int) (w:World) (hs:s.size<4294967281) (hm:w.cell? ⟨1,0,none⟩=some (.int .i64 m)) (h1:1≤sep.size) :
 Calls Tryz.prog 98 #[.string s,.string sep] w fun e w' =>
  e=.returned (.slice (some ⟨w.heap.size,0,none⟩) (Lib.countB s sep+1) (Lib.countB s sep+1))∧w'=w.alloc (.cells ((Lib.splitB sep 0 (Lib.countB s sep) s).map Value.string).toArray 9):=Any.strings_Split Tryz.lays146 (by kernel_rfl) s sep m w hs hm h1
end Go.Proofs
namespace Go.Proofs.YtekfodeknpnkbaaGreatDoor
open Go.RowKit Go.VS
theorem zFL {w w':World} (h:Below w.heap.size w w'):Keep (fun _=>False) w w':=⟨h.os,h.tape,h.output,h.size,fun k hk _=>h.block k hk⟩
theorem zBW {P:Program} {f:FuncId} {ad:List AD} {pre:TupA ad→Prop} {post:TupA ad→Out} (hc:zBf P f) (h1:∀ x,(post x).left=[]) (h2:∀ x,(post x).objs=[])
 (h:∀ (C:Ctx) (γ:Gam) (x:TupA ad) (vs:List Value),pre x→Entry C γ P ad x vs→Calls P f vs.toArray C.w0 fun e w'=>∃ us,e=.returned (zHi us)∧zCN C γ w' (post x).res [] [] us∧Keep (fun _=>False) C.w0 w'):FnSpec P f ⟨ad,pre,post⟩:=by
 refine ⟨hc,fun C γ x vs hpre hen=>(h C γ x vs hpre hen).mono fun e w' ⟨us,he,hr,hk⟩=>⟨_,γ,he,⟨⟨[],[],us,rfl,hr,?_,?_⟩,fun p hp=>?_,fun p hp=>?_,fun k l hl=>Nat.lt_of_lt_of_le (hen.ownlt k l hl) hk.size⟩,⟨hk.os,hk.tape,hk.output,hk.size,fun b hb _=>hk.block b hb (fun h=>h)⟩⟩⟩
 ·show (([]:List Nat)++List.map Prod.fst (post x).left).Nodup
  rw [h1]; exact List.nodup_nil
 ·show (([]:List Nat)++List.map Prod.fst (post x).objs).Nodup
  rw [h2]; exact List.nodup_nil
 ·have hp':p∈(post x).left:=hp
  rw [h1] at hp'; cases hp'
 ·have hp':p∈(post x).objs:=hp
  rw [h2] at hp'; cases hp'
def itoaV (n:Int):ByteArray:=⟨(Lib.itoa n).toArray⟩
def trimV (b p:ByteArray):ByteArray:=⟨(Lib.trimSuffix b.data.toList p.data.toList).toArray⟩
def cut1 (b p:ByteArray):ByteArray:=⟨(Lib.cut b.data.toList p.data.toList).1.toArray⟩
def cut2 (b p:ByteArray):ByteArray:=⟨(Lib.cut b.data.toList p.data.toList).2.1.toArray⟩
def cutB (b p:ByteArray):Bool:=(Lib.cut b.data.toList p.data.toList).2.2
def zAB (b p:ByteArray):List ByteArray:=Lib.splitB p 0 (Lib.countB b p) b
@[push_cast] def zYb:Con:=⟨[.dat .int],fun (x:Int×Unit)=>InR x.1,fun (x:Int×Unit)=>{res:=[.val .str (itoaV x.1)]}⟩
theorem zGF:FnSpec Tryz.prog 101 zYb:=by
 refine zBW ⟨_,Tryz.func101,by kernel_rfl,rfl⟩ (fun _=>rfl) (fun _=>rfl) fun C γ x vs hpre hen=>?_
 have hg:=hen.ds.2.gd
 rw [hen.P] at hg
 have hargs:=hen.args
 obtain ⟨(n:Int),_⟩:=x
 obtain ⟨v0,_,rfl,h0,rfl⟩:=hargs
 obtain rfl:v0=.int .i64 n:=zAH h0
 obtain ⟨g,hgn⟩:∃ g, Tryz.prog.globalNamed "internal/strconv.uint64pow10"=some g:=Option.isSome_iff_exists.1 (by kernel_rfl)
 have hn:InR n:=hpre
 unfold InR at hn
 refine (Tryz.strconv_Itoa n (by omega) (by omega) C.w0 (hg.pow g hgn)).mono ?_
 rintro e w' ⟨rfl,k,os,rfl⟩
 exact ⟨[_],rfl,⟨_,[],rfl,⟨[.string ⟨(Lib.itoa n).toArray⟩],rfl,rfl⟩,rfl,rfl,rfl⟩,zFL (Lib.below_grow _ _ (Nat.le_refl _) k os)⟩
def zDG (s:ByteArray):Bool:=match Lib.atoiAll s.data.toList with
 | .ok _=>true
 | _=>false
def atoiV (s:ByteArray):Int:=match Lib.atoiAll s.data.toList with
 | .ok v=>v
 | .range=>Lib.atoiSat s.data.toList
 | _=>0
@[push_cast] def zXE:Con:=⟨[.dat .str],fun (x:ByteArray×Unit)=>x.1.size≤1000000,fun (x:ByteArray×Unit)=>{res:=[.val .int (atoiV x.1),if zDG x.1=true then .raw .nilIface else .ifc]}⟩
theorem zIl:FnSpec Tryz.prog 100 zXE:=by
 refine zBW ⟨_,Tryz.func100,by kernel_rfl,rfl⟩ (fun _=>rfl) (fun _=>rfl) fun C γ x vs hpre hen=>?_
 have hg:=hen.ds.2.gd
 rw [hen.P] at hg
 have hargs:=hen.args
 obtain ⟨(t:ByteArray),_⟩:=x
 obtain ⟨v0,_,rfl,h0,rfl⟩:=hargs
 obtain rfl:v0=.string t:=zB1 h0
 have hn:t.size≤1000000:=hpre
 show Calls _ _ #[.string t] C.w0 _
 cases h:Lib.atoiAll t.data.toList with
 | ok v =>
  have e1:atoiV t=v:=by simp only [atoiV,h]
  have e2:zDG t=true:=by simp only [zDG,h]
  refine (Tryz.strconv_Atoi_ok t (by omega) v h C.w0).mono ?_
  rintro e w' ⟨rfl,hw⟩
  refine ⟨[_,_],rfl,?_,?_⟩
  ·simp only [e1,e2,if_true]
   exact ⟨_,_,rfl,⟨[.int .i64 v],rfl,rfl⟩,_,rfl,rfl,rfl,rfl⟩
  ·rcases hw with rfl|⟨t',rfl⟩
   ·exact Keep.refl _ _
   ·exact zFL (Go.Joins.below_bytesWorld _ _ _ _ (Nat.le_refl _))
 | range =>
  have e1:atoiV t=Lib.atoiSat t.data.toList:=by simp only [atoiV,h]
  have e2:zDG t=false:=by simp only [zDG,h]
  obtain ⟨g,hgn⟩:∃ g, Tryz.prog.globalNamed "strconv.ErrRange"=some g:=Option.isSome_iff_exists.1 (by kernel_rfl)
  obtain ⟨tp,p,hv⟩:=hg.rng g hgn
  refine (Tryz.strconv_Atoi_range_var t (by omega) h tp p C.w0 hv).mono ?_
  rintro e w' ⟨N,rfl,_,_,hb⟩
  refine ⟨[_,_],rfl,?_,zFL hb⟩
  simp only [e1,e2,Bool.false_eq_true,if_false]
  exact ⟨_,_,rfl,⟨[.int .i64 _],rfl,rfl⟩,_,_,_,rfl,rfl,rfl,rfl⟩
 | _ =>
  have e1:atoiV t=0:=by simp only [atoiV,h]
  have e2:zDG t=false:=by simp only [zDG,h]
  obtain ⟨g,hgn⟩:∃ g, Tryz.prog.globalNamed "strconv.ErrSyntax"=some g:=Option.isSome_iff_exists.1 (by kernel_rfl)
  obtain ⟨tp,p,hv⟩:=hg.syn g hgn
  refine (Tryz.strconv_Atoi_syntax_var t (by omega) h tp p C.w0 hv).mono ?_
  rintro e w' ⟨N,rfl,_,_,hb⟩
  refine ⟨[_,_],rfl,?_,zFL hb⟩
  simp only [e1,e2,Bool.false_eq_true,if_false]
  exact ⟨_,_,rfl,⟨[.int .i64 0],rfl,rfl⟩,_,_,_,rfl,rfl,rfl,rfl⟩
@[push_cast] def zYW:Con:=⟨[.dat .str,.dat .str],fun (x:ByteArray×ByteArray×Unit)=>x.1.size≤1000000,fun (x:ByteArray×ByteArray×Unit)=>{res:=[.val .str (trimV x.1 x.2.1)]}⟩
theorem zUU:FnSpec Tryz.prog 155 zYW:=by
 refine zBW ⟨_,Tryz.func155,by kernel_rfl,rfl⟩ (fun _=>rfl) (fun _=>rfl) fun C γ x vs hpre hen=>?_
 have hargs:=hen.args
 obtain ⟨(t:ByteArray),(u:ByteArray),_⟩:=x
 obtain ⟨v0,_,rfl,h0,v1,_,rfl,h1,rfl⟩:=hargs
 obtain rfl:v0=.string t:=zB1 h0
 obtain rfl:v1=.string u:=zB1 h1
 have hn:t.size≤1000000:=hpre
 refine (Tryz.strings_TrimSuffix t u C.w0 (by omega)).mono ?_
 rintro e w' ⟨rfl,rfl⟩
 exact ⟨[_],rfl,⟨_,[],rfl,⟨[.string _],rfl,rfl⟩,rfl,rfl,rfl⟩,Keep.refl _ _⟩
@[push_cast] def zZr:Con:=⟨[.dat .str,.dat .str],fun (x:ByteArray×ByteArray×Unit)=>x.1.size≤1000000,fun (x:ByteArray×ByteArray×Unit) =>
 {res:=[.val .str (cut1 x.1 x.2.1),.val .str (cut2 x.1 x.2.1),.val .bool (cutB x.1 x.2.1)]}⟩
theorem zPr:FnSpec Tryz.prog 64 zZr:=by
 refine zBW ⟨_,Tryz.func64,by kernel_rfl,rfl⟩ (fun _=>rfl) (fun _=>rfl) fun C γ x vs hpre hen=>?_
 have hg:=hen.ds.2.gd
 rw [hen.P] at hg
 have hargs:=hen.args
 obtain ⟨(t:ByteArray),(u:ByteArray),_⟩:=x
 obtain ⟨v0,_,rfl,h0,v1,_,rfl,h1,rfl⟩:=hargs
 obtain rfl:v0=.string t:=zB1 h0
 obtain rfl:v1=.string u:=zB1 h1
 have hn:t.size≤1000000:=hpre
 obtain ⟨m,hm⟩:=hg.max 1 (by kernel_rfl)
 refine (Tryz.strings_Cut t u m C.w0 (by omega) hm).mono ?_
 rintro e w' ⟨rfl,n,rfl⟩
 exact ⟨[_,_,_],rfl,⟨_,_,rfl,⟨[.string _],rfl,rfl⟩,_,_,rfl,⟨[.string _],rfl,rfl⟩,_,_,rfl,⟨[.bool _],rfl,rfl⟩,rfl,rfl,rfl⟩,⟨rfl,rfl,rfl,Nat.le_refl _,fun _ _ _=>rfl⟩⟩
@[push_cast] def zWP:Con:=⟨[.dat .str,.dat .str],fun (x:ByteArray×ByteArray×Unit)=>x.1.size≤1000000∧1≤x.2.1.size,fun (x:ByteArray×ByteArray×Unit) =>
 {res:=[.val (.sl .str) (zAB x.1 x.2.1)]}⟩
theorem zKt:FnSpec Tryz.prog 98 zWP:=by
 refine zBW ⟨_,Tryz.func98,by kernel_rfl,rfl⟩ (fun _=>rfl) (fun _=>rfl) fun C γ x vs hpre hen=>?_
 have hg:=hen.ds.2.gd
 rw [hen.P] at hg
 have hlt:=hen.ownlt
 have hargs:=hen.args
 obtain ⟨(t:ByteArray),(u:ByteArray),_⟩:=x
 obtain ⟨v0,_,rfl,h0,v1,_,rfl,h1,rfl⟩:=hargs
 obtain rfl:v0=.string t:=zB1 h0
 obtain rfl:v1=.string u:=zB1 h1
 obtain ⟨hn,hu⟩:=hpre
 dsimp only at hn hu
 obtain ⟨m,hm⟩:=hg.max 1 (by kernel_rfl)
 refine (Tryz.strings_Split t u m C.w0 (by omega) hm hu).mono ?_
 rintro e w' ⟨rfl,rfl⟩
 refine ⟨[_],rfl,⟨_,[],rfl,?_,rfl,rfl,rfl⟩,⟨rfl,rfl,rfl,by simp only [World.alloc,Array.size_push]; omega,fun k hk _=>by simp only [World.alloc,Array.getElem?_push]; rw [if_neg (by omega)]⟩⟩
 have hlen:(Lib.splitB u 0 (Lib.countB t u) t).length=Lib.countB t u+1:=Lib.splitB_all u hu 0 _ t rfl
 have hcl:Lib.countB t u≤t.size:=Lib.countB_le u hu _ t (Nat.le_refl _)
 have hfm:(Lib.splitB u 0 (Lib.countB t u) t).flatMap (Sh.str).cells=(Lib.splitB u 0 (Lib.countB t u) t).map Value.string:=by
  generalize Lib.splitB u 0 (Lib.countB t u) t=m
  induction m with
  | nil=>rfl
  | cons x m ih=>simp only [List.flatMap_cons,List.map_cons,ih]; rfl
 refine ⟨[.slice (some ⟨C.w0.heap.size,0,none⟩) _ _],zBk (e:=9) (sh:=.str) rfl ?_ (fun g hg=>?_),rfl⟩
 ·show World.ownsRow _ 0 _ 1 _ (Lib.splitB u 0 (Lib.countB t u) t).length ((Lib.splitB u 0 (Lib.countB t u) t).flatMap (Sh.str).cells)
  rw [hfm,hlen]
  have hheap:(C.w0.alloc (.cells ((Lib.splitB u 0 (Lib.countB t u) t).map Value.string).toArray 9)).heap[C.w0.heap.size]?=some (.cells ((Lib.splitB u 0 (Lib.countB t u) t).map Value.string).toArray 9 (0,0)):=by simp only [World.alloc,Array.getElem?_push,if_true]
  exact ⟨by simp [hlen],.inr ⟨C.w0.heap.size,Lib.countB t u+1,((Lib.splitB u 0 (Lib.countB t u) t).map Value.string).toArray,rfl,Nat.zero_le _,hheap,Nat.le_refl _,by unfold maxLen; omega,by simp [hlen],by rw [List.toList_toArray,List.take_of_length_le (by simp [hlen])]⟩⟩
 ·simp only [Value.ownBlock,Option.some.injEq] at hg
  subst hg
  refine ⟨.inr (.inl (Nat.le_refl _)),?_⟩
  cases ho:γ.own C.w0.heap.size with
  | none=>rfl
  | some l=>have:=hlt _ l ho; omega
theorem zR4 (b p:ByteArray):(trimV b p).size≤b.size:=by
 have h:=Lib.trimSuffix_le b.data.toList p.data.toList
 rw [Lib.size_eq b]
 show (Lib.trimSuffix b.data.toList p.data.toList).toArray.size≤_
 rw [List.size_toArray]
 exact h
theorem zSV (b p:ByteArray):(cut1 b p).size≤b.size:=by
 rw [Lib.size_eq b]
 show (Lib.cut b.data.toList p.data.toList).1.toArray.size≤_
 rw [List.size_toArray]
 unfold Lib.cut
 split
 ·rw [List.length_take]; omega
 ·exact Nat.le_refl _
theorem zKq (p:ByteArray):∀ (k:Nat) (b:ByteArray),∀ x∈Lib.splitB p 0 k b,x.size≤b.size
 | 0,b,x,h=>by
  rw [Lib.splitB_zero,List.mem_singleton] at h
  rw [h]; exact Nat.le_refl _
 | k+1,b,x,h=>by
  by_cases hi:Lib.indexB b p = -1
  ·rw [Lib.splitB_miss p 0 _ b hi,List.mem_singleton] at h
   rw [h]; exact Nat.le_refl _
  ·have h0 : -1≤Lib.indexB b p:=Lib.index_ge b.data.toList p.data.toList
   obtain ⟨i,hi2⟩:∃ i:Nat,Lib.indexB b p=i:=⟨(Lib.indexB b p).toNat,by omega⟩
   rw [Lib.splitB_hit p 0 k b i hi2] at h
   rcases List.mem_cons.1 h with rfl|h
   ·rw [ByteArray.size_extract]; omega
   ·have:=zKq p k _ x h
    rw [ByteArray.size_extract] at this
    omega
theorem zKs (b p:ByteArray):∀ x∈zAB b p,x.size≤b.size:=zKq p _ b
theorem zFY (b p:ByteArray) (h:1≤p.size):(zAB b p).length=Lib.countB b p+1:=Lib.splitB_all p h 0 _ b rfl
theorem zKr (b p:ByteArray) (h:1≤p.size):(zAB b p).length≤b.size+1:=by
 rw [zFY b p h]
 have:=Lib.countB_le p h _ b (Nat.le_refl _)
 omega
theorem zCu {n:Int} (h:InR n):(itoaV n).size≤21:=by
 unfold InR at h
 have:=Lib.itoa_length_le n (by omega) (by omega)
 show (Lib.itoa n).toArray.size≤_
 rw [List.size_toArray]; exact this
end Go.Proofs.YtekfodeknpnkbaaGreatDoor
namespace Go.Proofs.YtekfodeknpnkbaaGreatDoor
open Go.RowKit Go.VS
def chgE (l:List Int) (i n y:Int):Int:=if (l.length:Int)≤i then 4 else if n=0 then 1 else if 30<l.getD i.toNat 0+y then 3 else if l.getD i.toNat 0+y<0 then 9 else 0
def chgL (l:List Int) (i n y:Int):List Int:=if chgE l i n y=0 then l.set i.toNat (l.getD i.toNat 0+y) else l
structure ChgPre (rc:RC) (i y:Int):Prop where
 hrc:rc=.flat 3 .int (flatI rc)
 len:(flatI rc).length≤1000
 at':∀ k,k<(flatI rc).length→0≤(flatI rc).getD k 0∧(flatI rc).getD k 0≤30
 i:0≤i∧i≤99999
 y : -99999≤y∧y≤99999
@[push_cast] def zSF:Con:=⟨[.lend,.dat .int,.dat .int,.dat .int],fun (x:RC×Int×Int×Int×Unit)=>ChgPre x.1 x.2.1 x.2.2.2.1,
 fun (x:RC×Int×Int×Int×Unit)=>Out.mk [.val (.err 147) (chgE (flatI x.1) x.2.1 x.2.2.1 x.2.2.2.1)] [(0,.flat 3 .int (chgL (flatI x.1) x.2.1 x.2.2.1 x.2.2.2.1))] []⟩
theorem zVl:FnSpec Tryz.prog 104 zSF:=by
 refine FnSpec.of_tri' (E:=know [] [] [] []) (zAl all_nil all_nil all_nil) Tryz.func104 rfl rfl (by kernel_rfl) ?_
 intro C x hE hnl hfit hpre
 simp only [Tryz.ntmps104,Tryz.results104,maxLen,seval,push_cast] at hnl hfit hpre ⊢
 obtain ⟨(rc:RC),(i:Int),(n:Int),(y:Int),_⟩:=x
 dsimp only at hfit hpre ⊢
 obtain ⟨hrc,hlen,hat,hi,hy⟩:=hpre
 generalize flatI rc=l at *
 subst hrc
 by_cases h1:(l.length:Int)≤i
 ·have e1:chgE l i n y=4:=if_pos h1
  have e2:chgL l i n y=l:=by rw [chgL,e1]; rfl
  replace hnl:=And.intro hnl (And.intro e1 e2)
  exact auC
 have hk:=hat i.toNat (by omega)
 by_cases h2:n=0
 ·have e1:chgE l i n y=1:=by rw [chgE,if_neg h1,if_pos h2]
  have e2:chgL l i n y=l:=by rw [chgL,e1]; rfl
  replace hnl:=And.intro hnl (And.intro e1 e2)
  exact auC
 by_cases h3:30<l.getD i.toNat 0+y
 ·have e1:chgE l i n y=3:=by rw [chgE,if_neg h1,if_neg h2,if_pos h3]
  have e2:chgL l i n y=l:=by rw [chgL,e1]; rfl
  replace hnl:=And.intro hnl (And.intro e1 e2)
  exact auC
 by_cases h4:l.getD i.toNat 0+y<0
 ·have e1:chgE l i n y=9:=by rw [chgE,if_neg h1,if_neg h2,if_neg h3,if_pos h4]
  have e2:chgL l i n y=l:=by rw [chgL,e1]; rfl
  replace hnl:=And.intro hnl (And.intro e1 e2)
  exact auC
 have e1:chgE l i n y=0:=by rw [chgE,if_neg h1,if_neg h2,if_neg h3,if_neg h4]
 have e2:chgL l i n y=l.set i.toNat (l.getD i.toNat 0+y):=by rw [chgL,if_pos e1]
 replace hnl:=And.intro hnl (And.intro e1 e2)
 exact auC
end Go.Proofs.YtekfodeknpnkbaaGreatDoor
namespace Go.Proofs.YtekfodeknpnkbaaGreatDoor
open Go.RowKit Go.VS
def nlS:ByteArray:=⟨#[10]⟩
def spS:ByteArray:=⟨#[32]⟩
theorem zXn:({data:=#[10]}:ByteArray)=nlS:=rfl
theorem zNb:({data:=#[32]}:ByteArray)=spS:=rfl
def lastV (b:ByteArray):Int:=atoiV (cut1 ((zAB (trimV b nlS) nlS).getD (((zAB (trimV b nlS) nlS).length:Int) - 1).toNat ByteArray.empty) spS)
@[push_cast] def zYd:Con:=⟨[.dat .str],fun (x:ByteArray×Unit)=>x.1.size≤100000,fun (x:ByteArray×Unit)=>{res:=[.val .int (lastV x.1)]}⟩
theorem zTp:FnSpec Tryz.prog 105 zYd:=by
 refine FnSpec.of_tri' (E:=know _ [] [] []) (zAl (kc zUU (kc zKt (kc zPr (kc zIl all_nil)))) all_nil all_nil) Tryz.func105 rfl rfl (by kernel_rfl) ?_
 intro C x hE hnl hfit hpre
 simp only [Tryz.ntmps105,Tryz.results105,maxLen,seval,push_cast] at hnl hfit hpre ⊢
 obtain ⟨(b:ByteArray),_⟩:=x
 dsimp only at hfit hpre ⊢
 have h1:1≤nlS.size:=Nat.le_refl _
 have h2:=zR4 b nlS
 have h3:=zFY (trimV b nlS) nlS h1
 have h4:=zKs (trimV b nlS) nlS _ (zAJ ByteArray.empty (show (((zAB (trimV b nlS) nlS).length:Int) - 1).toNat<(zAB (trimV b nlS) nlS).length by omega))
 have h5:=zSV ((zAB (trimV b nlS) nlS).getD (((zAB (trimV b nlS) nlS).length:Int) - 1).toNat ByteArray.empty) spS
 have h6:=zKr (trimV b nlS) nlS h1
 replace hnl:=And.intro hnl (And.intro zXn zNb)
 cases hA:zDG (cut1 ((zAB (trimV b nlS) nlS).getD (((zAB (trimV b nlS) nlS).length:Int) - 1).toNat ByteArray.empty) spS) with
 | true =>
  replace hnl:=And.intro hnl hA
  repeat' (first|(refine goK (by assumption) ?_; iterate 4 (try clear hK K))|(refine zAb fun K hK=>?_)|((first|refine zAa hE rfl ?_|refine zAi ?_); simp +contextual only [hnl,↓kA,push_cast,seval,reduceCtorEq])|refine andS ?_|fail)
  rfl
 | false =>
  replace hnl:=And.intro hnl hA
  repeat' (first|(refine goK (by assumption) ?_; iterate 4 (try clear hK K))|(refine zAb fun K hK=>?_)|((first|refine zAa hE rfl ?_|refine zAi ?_); simp +contextual only [hnl,↓kA,push_cast,seval,reduceCtorEq])|refine andS ?_|fail)
  rfl
def textV (least:Int) (order:ByteArray):ByteArray:=itoaV least++spS++order
def zCL (book:ByteArray) (least:Int) (order:ByteArray):ByteArray:=book++itoaV (sumV (lastV book) (textV least order))++spS++textV least order++nlS
structure WrPre (book:ByteArray) (least:Int) (order:ByteArray):Prop where
 book:book.size≤100000
 least:InR least
 order:order.size≤1000
@[push_cast] def zF3:Con:=⟨[.dat .str,.dat .int,.dat .str],fun (x:ByteArray×Int×ByteArray×Unit)=>WrPre x.1 x.2.1 x.2.2.1,fun (x:ByteArray×Int×ByteArray×Unit)=>{res:=[.val .str (zCL x.1 x.2.1 x.2.2.1)]}⟩
theorem zAU (a b:ByteArray):(a++b).size=a.size+b.size:=ByteArray.size_append
theorem zNw:FnSpec Tryz.prog 56 zF3:=by
 refine FnSpec.of_tri' (E:=know _ [] [] []) (zAl (kc zGF (kc zTp (kc zFJ all_nil))) all_nil all_nil) Tryz.func56 rfl rfl (by kernel_rfl) ?_
 intro C x hE hnl hfit hpre
 simp only [Tryz.ntmps56,Tryz.results56,maxLen,seval,push_cast] at hnl hfit hpre ⊢
 obtain ⟨(book:ByteArray),(least:Int),(order:ByteArray),_⟩:=x
 dsimp only at hfit hpre ⊢
 obtain ⟨hb1,hb2,hb3⟩:=hpre
 have h1:=zCu hb2
 have h2:nlS.size=1:=rfl
 have h3:spS.size=1:=rfl
 have h4:(textV least order).size=(itoaV least).size+1+order.size:=by unfold textV; rw [zAU,zAU]; rfl
 have h5:=zCi (lastV book) (textV least order) (textV least order).size
 have h6:InR (sumV (lastV book) (textV least order)):=by unfold InR sumV; omega
 have h7:=zCu h6
 have hT:itoaV least++spS++order=textV least order:=rfl
 have h8:(itoaV least++spS).size=(itoaV least).size+1:=zAU _ _
 have h9:(book++itoaV (sumV (lastV book) (textV least order))).size=book.size+(itoaV (sumV (lastV book) (textV least order))).size:=zAU _ _
 have h10:(book++itoaV (sumV (lastV book) (textV least order))++spS).size=book.size+(itoaV (sumV (lastV book) (textV least order))).size+1:=by rw [zAU,h9]; rfl
 have h11:(book++itoaV (sumV (lastV book) (textV least order))++spS++textV least order).size=book.size+(itoaV (sumV (lastV book) (textV least order))).size+1+(textV least order).size:=by rw [zAU,h10]
 have h12:book.size≤100000:=hb1
 replace hnl:=And.intro hnl (And.intro zXn (And.intro zNb (And.intro hT (And.intro h2 (And.intro h3 (And.intro h8 (And.intro h9 (And.intro h10 h11))))))))
 repeat' (first|(refine goK (by assumption) ?_; iterate 4 (try clear hK K))|(refine zAb fun K hK=>?_)|((first|refine zAa hE rfl ?_|refine zAi ?_); simp +contextual only [hnl,↓kA,push_cast,seval,reduceCtorEq])|refine andS ?_|fail)
 all_goals rfl
def numV (s:ByteArray) (most:Int):Bool:=zDG s && (decide (0≤atoiV s) && (decide (atoiV s≤most) && decide (itoaV (atoiV s)=s)))
end Go.Proofs.YtekfodeknpnkbaaGreatDoor
namespace Go.Proofs.YtekfodeknpnkbaaGreatDoor
open Go.RowKit Go.VS
def byteV (s:ByteArray) (k:Nat):Nat:=(s.data.toList.getD k 0).toNat
def wK (s:ByteArray):Nat→List ByteArray×Nat
 | 0=>([],0)
 | k+1=>if k=s.size∨byteV s k=32 then ((wK s k).1++[s.extract (wK s k).2 k],k+1) else wK s k
def zBx (s:ByteArray):List ByteArray:=(wK s (s.size+1)).1
theorem zH2 {s:ByteArray} {k:Nat} (h:k=s.size∨byteV s k=32):wK s (k+1)=((wK s k).1++[s.extract (wK s k).2 k],k+1):=if_pos h
theorem zJo {s:ByteArray} {k:Nat} (h:¬(k=s.size∨byteV s k=32)):wK s (k+1)=wK s k:=if_neg h
theorem wK_le (s:ByteArray):∀ k,(wK s k).2≤k∧(wK s k).1.length≤k
 | 0=>⟨Nat.le_refl _,Nat.le_refl _⟩
 | k+1=>by
  have h:=wK_le s k
  by_cases h1:k=s.size∨byteV s k=32
  ·rw [zH2 h1]
   exact ⟨Nat.le_refl _,by rw [List.length_append]; simp; omega⟩
  ·rw [zJo h1]
   omega
def decK (s:ByteArray):Nat→Int
 | 0=>0
 | k+1=>10*decK s k+((byteV s k:Int) - 48)
def zNX (s:ByteArray):Bool:=(List.range s.size).all fun k=>decide (48≤byteV s k∧byteV s k≤57)
def zBl (s:ByteArray):Bool:=decide (1≤s.size∧s.size≤6∧¬(1<s.size∧byteV s 0=48)) && zNX s
def numRV (s:ByteArray):Int:=if zBl s=true then decK s s.size else 0
theorem zCT {s:ByteArray}:zNX s=true↔∀ k,k<s.size→48≤byteV s k∧byteV s k≤57:=by
 simp only [zNX,List.all_eq_true,List.mem_range,decide_eq_true_eq]
theorem zG7 {s:ByteArray} (h6:s.size≤6):∀ {k:Nat},(∀ i,i<k→48≤byteV s i∧byteV s i≤57)→0≤decK s k∧decK s k+1≤10 ^ k
 | 0,_=>by simp [decK]
 | k+1,h=>by
  obtain ⟨h1,h2⟩:=zG7 h6 (k:=k) (fun i hi=>h i (by omega))
  have h3:=h k (by omega)
  have e:decK s (k+1)=10*decK s k+((byteV s k:Int) - 48):=rfl
  rw [e,Int.pow_succ]
  omega
end Go.Proofs.YtekfodeknpnkbaaGreatDoor
namespace Go.Proofs.YtekfodeknpnkbaaGreatDoor
open Go.RowKit Go.VS
def pPut:ByteArray:=⟨#[112,117,116]⟩
def pTake:ByteArray:=⟨#[116,97,107,101]⟩
def pWant:ByteArray:=⟨#[119,97,110,116]⟩
def pDrop:ByteArray:=⟨#[100,114,111,112]⟩
def pCost:ByteArray:=⟨#[99,111,115,116]⟩
def zI0:ByteArray:=⟨#[119,97,115,116,101]⟩
def zIZ:ByteArray:=⟨#[99,108,97,105,109]⟩
def numsV (n:ByteArray):Int:=if n=pPut∨n=pTake∨n=pWant∨n=pDrop then 2 else if n=pCost then 3 else if n=zI0∨n=zIZ then 1 else -1
def zAE (t:ByteArray) (i:Nat):ByteArray:=(zBx t).getD i ByteArray.empty
end Go.Proofs.YtekfodeknpnkbaaGreatDoor
namespace Go.Proofs.YtekfodeknpnkbaaGreatDoor
open Go.RowKit Go.VS Go.OT
def zB4 (a b:List Int) (c:List (List Int)) (k:Nat):List Int:=(List.range (k+1)).map (partV a b c)
def enK (a b:List Int) (c:List (List Int)) (p:List Int×Int×Unit→Bool) (k:Nat):Bool:=p (zB4 a b c k,nuV a b c k,())
def zFd (a b:List Int) (c:List (List Int)) (p:List Int×Int×Unit→Bool):Nat:=stopK (maxU a b) (enK a b c p)
theorem zKi (a b:List Int) (c:List (List Int)) (k:Nat):(zB4 a b c k).length=k+1:=by simp [zB4]
theorem zOt (a b:List Int) (c:List (List Int)) (k:Nat):zB4 a b c (k+1)=zB4 a b c k++[partV a b c (k+1)]:=by
 unfold zB4
 rw [List.range_succ,List.map_append]
 rfl
theorem zMM (a b:List Int) (c:List (List Int)) {k m:Nat} (h:m≤k):(zB4 a b c k).getD m 0=partV a b c m:=by
 simp [zB4,List.getD_eq_getElem?_getD,Nat.lt_succ_of_le h]
theorem zQe {M k:Nat} {en:Nat→Bool} (h1:k≤M) (h2:∀ m,m<k→en m=false) (h3:k=M∨en k=true):stopK M en=k:=by
 obtain ⟨g1,g2,g3⟩:=zHq M en
 rcases Nat.lt_trichotomy (stopK M en) k with h|h|h
 ·have:=h2 _ h
  rw [g3 (by omega)] at this
  cases this
 ·exact h
 ·rcases h3 with h3|h3
  ·omega
  ·rw [g2 _ h] at h3
   cases h3
abbrev zSm:=List Int×List Int×List (List Int)×((List Int×Int×Unit→Prop)×(List Int×Int×Unit→Bool))×Unit
@[reducible] def zP9:List AD:=[.dat (.sl .int),.dat (.sl .int),.dat (.sl (.sl .int)),.fnc [.sl .int,.int] .bool]
@[push_cast] theorem zZc {a:Sh} {r:Nat} {bs:List BV}:zIJ a (.ref r::bs)=none:=rfl
def rowsC (p:List (List Int)) (n i:Nat):List (List Int):=p.take i++List.replicate (n - i) []
theorem zUA {p:List (List Int)} {n i:Nat} (h:p.length=n) (hi:i≤n):(rowsC p n i).length=n:=by simp [rowsC]; omega
theorem zUB {p:List (List Int)} {n i:Nat} (h:p.length=n) (hi:i<n) (z:List Int):((rowsC p n i).set i z).set i (p.getD i [])=rowsC p n (i+1):=by
 rw [List.set_set]
 unfold rowsC
 have e:n - i=(n - (i+1))+1:=by omega
 rw [e,List.replicate_succ,List.set_append_right _ _ (by simp; omega),List.length_take,Nat.min_eq_left (by omega),Nat.sub_self,List.set_cons_zero,List.take_succ_eq_append_getElem (by omega),List.append_assoc]
 simp [List.getD_eq_getElem?_getD,show i<p.length by omega]
theorem zYO (p:List (List Int)) (n:Nat):rowsC p n 0=List.replicate n []:=by simp [rowsC]
theorem zUz {p:List (List Int)} {n:Nat} (h:p.length=n):rowsC p n n=p:=by simp [rowsC,←h]
theorem zM7 {f:Nat→Int} {M:Int}:∀ n:Nat,(∀ i,i<n→f i≤M)→sg n f≤n*M
 | 0,_=>by simp [sg]
 | n+1,h=>by
  have h1:=zM7 n fun i hi=>h i (by omega)
  have h2:=h n (by omega)
  show sg n f+f n≤_
  rw [Int.natCast_add,Int.add_mul]
  omega
theorem zPV {a b:List Int} {c:List (List Int)} (hm:MC a b c):maxU a b≤1200:=by
 have h1:sumL a≤a.length*200:=zM7 _ fun i hi=>(hm.ha.at hi).2
 have:=hm.a5
 unfold maxU
 omega
structure SeI (a b:List Int) (c:List (List Int)) (p:List Int×Int×Unit→Bool) (k:Nat):Prop where
 le:k≤maxU a b
 no:∀ m,m<k→enK a b c p m=false
theorem zRP (C:Ctx) (γ:Gam) (x:zSm) (vs:List Value) (hm:MC x.1 x.2.1 x.2.2.1) (hq:∀ y,x.2.2.2.1.1 y) (hen:Entry C γ Tryz.prog zP9 x vs) :
 Calls Tryz.prog 203 vs.toArray C.w0 (fun e w=>∃ ch,e=.panicked ch ∧
  zIj C 169 (.sl (.sl .int)) (.sl .int) (stepP x.1 x.2.1 x.2.2.1 (zFd x.1 x.2.1 x.2.2.1 x.2.2.2.1.2)) (zB4 x.1 x.2.1 x.2.2.1 (zFd x.1 x.2.1 x.2.2.1 x.2.2.2.1.2)) ch w):=by
 refine yAp (E:=know [(171,zPx),(172,zTV)] [] [] [17]) (zAl (all_cons zJN (all_cons zMB all_nil)) all_nil all_nil) (G:=fun C=>zIj C 169 (.sl (.sl .int)) (.sl .int) _ _) Tryz.func203 rfl (by simp [zAP,Tryz.ntmps203]) ?_ C γ vs hen
 clear hen vs γ C
 intro C hP hE hnl hfit
 obtain ⟨(a:List Int),(b:List Int),(c:List (List Int)),⟨(q:List Int×Int×Unit→Prop),(p:List Int×Int×Unit→Bool)⟩,_⟩:=x
 dsimp only at hm hq hfit ⊢
 have ha5:=hm.a5
 have hb5:=hm.b5
 have hT:∃ fs,C.P.underlying 169=some (.struct fs):=by rw [hP]; exact ⟨_,Tryz.underlying169⟩
 have hu:C.P.underlying 38=some (.slice 3):=by rw [hP]; exact Tryz.underlying38
 have hs:(C.P.info? 3).map (·.size)=some 1:=by rw [hP]; kernel_rfl
 simp only [Tryz.ntmps203,Tryz.results203,maxLen,Nat.reduceSub,Nat.reducePow,Nat.reduceAdd,cI,push_cast] at hnl hfit ⊢
 repeat' (first|(refine goP (by assumption) ?_; iterate 4 (try clear hK K))|(refine zEA fun K hK=>?_)|(refine zCj ?_; refine zAa hE rfl ?_; simp +contextual only [hnl,↓kA,push_cast,seval,reduceCtorEq,cI])|(refine zCj ?_; (refine zEU hE 3 [0] rfl (by decide +kernel) ?_; simp only [List.length_cons,List.length_nil,Nat.reduceAdd,Nat.reduceSub,List.take_succ_cons,List.take_zero,List.drop_succ_cons,List.drop_zero,pickM,headM,List.filterMap_cons,List.filterMap_nil,List.getElem?_cons_zero,List.getElem?_cons_succ,List.contains_cons,List.contains_nil,Nat.reduceBEq,Bool.or_false,Bool.false_or,Bool.true_or,Bool.or_true,if_true,Bool.false_eq_true,if_false,List.cons_append,List.nil_append]; simp +contextual only [hnl,↓kA,push_cast,seval,reduceCtorEq,cI]))|first|(refine goK (by assumption) ?_; iterate 4 (try clear hK K))|(refine zAb fun K hK=>?_)|((first|refine zAa hE rfl ?_|refine zAi ?_); simp +contextual only [hnl,↓kA,push_cast,seval,reduceCtorEq,cI])|refine zAd ?_|((first|refine zAg ?_|refine zAj ?_); simp only [thenQ,zAh,if_true,if_false,Nat.reduceEqDiff,reduceCtorEq])|(refine zAe (by rfl) (fun hb=>?_) (fun hb=>?_)<;>(try simp only [bq,reduceCtorEq] at hb)<;>(try omega))|refine zAr (by rfl) ?_ ?_|refine andS ?_|(refine ⟨fun hc=>?_,fun hc=>?_⟩)|(intro hc; try omega))
 refine zKA ?_
 refine zR2 (fun k:Nat=>AS.of [(0,.one (.val (.sl .int) a)),(1,.one (.val (.sl .int) b)),(2,.one (.val (.sl (.sl .int)) c)),(3,.one (.fnv [.sl .int,.int] .bool q p)),(8,.one (.box 8))] [(17,.flat 3 .int (zB4 a b c k))] [(8,.rcd [.val (.sl (.sl .int)) (stepP a b c k),.ref 17])])
  (SeI a b c p) (fun k=>maxU a b - k) 0 ⟨Nat.zero_le _,fun m hm=>absurd hm (Nat.not_lt_zero _)⟩ ?_ ?_
 ·refine zAf ?_ ?_ ?_<;>simp only [push_cast,seval,reduceCtorEq,cI]
  ·exact .inl rfl
  ·rfl
 intro k hI K' hL
 have hst:=stepI hm k hI.le
 have hlen:(stepP a b c k).length=a.length:=hst.way.shp.rows
 refine zKA ?_
 repeat' (first|(refine goP (by assumption) ?_; iterate 4 (try clear hK K))|(refine zEA fun K hK=>?_)|(refine zCj ?_; refine zAa hE rfl ?_; simp +contextual only [hnl,↓kA,push_cast,seval,reduceCtorEq,cI])|(refine zCj ?_; (refine zEU hE 3 [0] rfl (by decide +kernel) ?_; simp only [List.length_cons,List.length_nil,Nat.reduceAdd,Nat.reduceSub,List.take_succ_cons,List.take_zero,List.drop_succ_cons,List.drop_zero,pickM,headM,List.filterMap_cons,List.filterMap_nil,List.getElem?_cons_zero,List.getElem?_cons_succ,List.contains_cons,List.contains_nil,Nat.reduceBEq,Bool.or_false,Bool.false_or,Bool.true_or,Bool.or_true,if_true,Bool.false_eq_true,if_false,List.cons_append,List.nil_append]; simp +contextual only [hnl,↓kA,push_cast,seval,reduceCtorEq,cI]))|first|(refine goK (by assumption) ?_; iterate 4 (try clear hK K))|(refine zAb fun K hK=>?_)|((first|refine zAa hE rfl ?_|refine zAi ?_); simp +contextual only [hnl,↓kA,push_cast,seval,reduceCtorEq,cI])|refine zAd ?_|((first|refine zAg ?_|refine zAj ?_); simp only [thenQ,zAh,if_true,if_false,Nat.reduceEqDiff,reduceCtorEq])|(refine zAe (by rfl) (fun hb=>?_) (fun hb=>?_)<;>(try simp only [bq,reduceCtorEq] at hb)<;>(try omega))|refine zAr (by rfl) ?_ ?_|refine andS ?_|(refine ⟨fun hc=>?_,fun hc=>?_⟩)|(intro hc; try omega))
 refine zCj ?_
 repeat' (first|(refine goK (by assumption) ?_; iterate 4 (try clear hK K))|(refine zAb fun K hK=>?_)|((first|refine zAa hE rfl ?_|refine zAi ?_); simp +contextual only [hnl,↓kA,push_cast,seval,reduceCtorEq,cI])|refine zAd ?_|((first|refine zAg ?_|refine zAj ?_); simp only [thenQ,zAh,if_true,if_false,Nat.reduceEqDiff,reduceCtorEq])|(refine zAe (by rfl) (fun hb=>?_) (fun hb=>?_)<;>(try simp only [bq,reduceCtorEq] at hb)<;>(try omega))|refine zAr (by rfl) ?_ ?_|refine andS ?_|(refine ⟨fun hc=>?_,fun hc=>?_⟩)|(intro hc; try omega))
 refine zAk (fun i:Nat=>AS.of [(0,.one (.val (.sl .int) a)),(1,.one (.val (.sl .int) b)),(2,.one (.val (.sl (.sl .int)) c)),(3,.one (.fnv [.sl .int,.int] .bool q p)),(8,.one (.box 8)),(9,.one (.ref 22)),(24,.one (.val (.sl (.sl .int)) (stepP a b c k))),(25,.I (stepP a b c k).length),(26,.I i)] [(17,.flat 3 .int (zB4 a b c k)),(22,.deep 38 3 .int (rowsC (stepP a b c k) a.length i))] [(8,.rcd [.val (.sl (.sl .int)) (stepP a b c k),.ref 17])])
  (fun i=>i≤a.length) (fun i=>a.length - i) 0 (Nat.zero_le _) ?_ ?_
 ·refine zAf ?_ ?_ ?_<;>simp only [push_cast,seval,reduceCtorEq,cI]
  rw [zYO,hlen]
  exact .inl rfl
 intro i hi K2 hL2
 have hrl:=zUA hlen hi
 rcases Nat.lt_or_ge i a.length with hia|hia
 ·have hw:=hst.way.shp.cols i (by omega)
  have hg:=zUB hlen hia (List.replicate ((stepP a b c k).getD i []).length 0)
  have hgl:((rowsC (stepP a b c k) a.length i).set i (List.replicate ((stepP a b c k).getD i []).length 0)).length=a.length:=by rw [List.length_set,hrl]
  have hgg:((rowsC (stepP a b c k) a.length i).set i (List.replicate ((stepP a b c k).getD i []).length 0)).getD i []=List.replicate ((stepP a b c k).getD i []).length 0:=by
   rw [List.getD_eq_getElem?_getD,List.getElem?_set_self (by omega)]; rfl
  repeat' (first|((refine zWV hE 5 hu hs rfl rfl ?_; simp only [List.length_cons,List.length_nil,Nat.reduceAdd,Nat.reduceSub,List.take_succ_cons,List.take_zero,List.drop_succ_cons,List.drop_zero]; simp +contextual only [hnl,↓kA,copyS,push_cast,seval,reduceCtorEq,cI]))|first|(refine goK (by assumption) ?_; iterate 4 (try clear hK K))|(refine zAb fun K hK=>?_)|((first|refine zAa hE rfl ?_|refine zAi ?_); simp +contextual only [hnl,↓kA,push_cast,seval,reduceCtorEq,cI])|refine zAd ?_|((first|refine zAg ?_|refine zAj ?_); simp only [thenQ,zAh,if_true,if_false,Nat.reduceEqDiff,reduceCtorEq])|(refine zAe (by rfl) (fun hb=>?_) (fun hb=>?_)<;>(try simp only [bq,reduceCtorEq] at hb)<;>(try omega))|refine zAr (by rfl) ?_ ?_|refine andS ?_|(refine ⟨fun hc=>?_,fun hc=>?_⟩)|(intro hc; try omega))
  refine ⟨by rw [hgg,List.length_replicate],?_⟩
  repeat' (first|(refine goK (by assumption) ?_; iterate 4 (try clear hK K))|(refine zAb fun K hK=>?_)|((first|refine zAa hE rfl ?_|refine zAi ?_); simp +contextual only [hnl,↓kA,push_cast,seval,reduceCtorEq,cI])|refine zAd ?_|((first|refine zAg ?_|refine zAj ?_); simp only [thenQ,zAh,if_true,if_false,Nat.reduceEqDiff,reduceCtorEq])|(refine zAe (by rfl) (fun hb=>?_) (fun hb=>?_)<;>(try simp only [bq,reduceCtorEq] at hb)<;>(try omega))|refine zAr (by rfl) ?_ ?_|refine andS ?_|(refine ⟨fun hc=>?_,fun hc=>?_⟩)|(intro hc; try omega))
  rw [hg]
  refine hL2 _ (i+1) (by omega) (by omega) ?_
  refine zAf ?_ ?_ ?_<;>simp only [push_cast,seval,reduceCtorEq,cI]
  done
 ·obtain rfl:i=a.length:=by omega
  have hra:=zUz hlen
  have hends:(nextP a b c (stepP a b c k)).isSome=true:=by
   by_cases hb:bestV a b c (stepP a b c k)<0
   ·rw [(zFP hm.hc hst.way hb).1]; rfl
   ·obtain ⟨p',h4,_⟩:=zEp hm.hc hst.way hb
    rw [h4]; rfl
  have hpre2:NextPre a b c (.deep 38 3 .int (stepP a b c k)):=⟨by rw [zDz],by rw [zDz]; exact hst.way.shp,hm.hc,by rw [zDz]; exact hends⟩
  rcases Nat.lt_or_ge k (maxU a b) with hk|hk
  ·have hb0:=(hst.more hm).2 hk
   obtain ⟨n1,n2,n3,n4,n5⟩:=hst.next hm hk
   replace hnl:=And.intro hnl (And.intro hra (And.intro n2 (eq_true (show 0≤bestV a b c (stepP a b c k) by omega))))
   replace hnl:=And.intro hnl (eq_true (hq (zB4 a b c k,nextN a b c (stepP a b c k),())))
   by_cases he:enK a b c p k=true
   ·have hfk:zFd a b c p=k:=zQe hI.le hI.no (.inr he)
    replace hnl:=And.intro hnl (show p (zB4 a b c k,nextN a b c (stepP a b c k),())=true from he)
    repeat' (first|(refine goK (by assumption) ?_; iterate 4 (try clear hK K))|(refine zAb fun K hK=>?_)|((first|refine zAa hE rfl ?_|refine zAi ?_); simp +contextual only [hnl,↓kA,push_cast,seval,reduceCtorEq,cI])|refine zAd ?_|((first|refine zAg ?_|refine zAj ?_); simp only [thenQ,zAh,if_true,if_false,Nat.reduceEqDiff,reduceCtorEq])|(refine zAe (by rfl) (fun hb=>?_) (fun hb=>?_)<;>(try simp only [bq,reduceCtorEq] at hb)<;>(try omega))|refine zAr (by rfl) ?_ ?_|refine andS ?_|(refine ⟨fun hc=>?_,fun hc=>?_⟩)|(intro hc; try omega))
    repeat' (first|(refine goP (by assumption) ?_; iterate 4 (try clear hK K))|(refine zEA fun K hK=>?_)|(refine zCj ?_; refine zAa hE rfl ?_; simp +contextual only [hnl,↓kA,push_cast,seval,reduceCtorEq,cI])|(refine zCj ?_; (refine zEU hE 3 [0] rfl (by decide +kernel) ?_; simp only [List.length_cons,List.length_nil,Nat.reduceAdd,Nat.reduceSub,List.take_succ_cons,List.take_zero,List.drop_succ_cons,List.drop_zero,pickM,headM,List.filterMap_cons,List.filterMap_nil,List.getElem?_cons_zero,List.getElem?_cons_succ,List.contains_cons,List.contains_nil,Nat.reduceBEq,Bool.or_false,Bool.false_or,Bool.true_or,Bool.or_true,if_true,Bool.false_eq_true,if_false,List.cons_append,List.nil_append]; simp +contextual only [hnl,↓kA,push_cast,seval,reduceCtorEq,cI]))|first|(refine goK (by assumption) ?_; iterate 4 (try clear hK K))|(refine zAb fun K hK=>?_)|((first|refine zAa hE rfl ?_|refine zAi ?_); simp +contextual only [hnl,↓kA,push_cast,seval,reduceCtorEq,cI])|refine zAd ?_|((first|refine zAg ?_|refine zAj ?_); simp only [thenQ,zAh,if_true,if_false,Nat.reduceEqDiff,reduceCtorEq])|(refine zAe (by rfl) (fun hb=>?_) (fun hb=>?_)<;>(try simp only [bq,reduceCtorEq] at hb)<;>(try omega))|refine zAr (by rfl) ?_ ?_|refine andS ?_|(refine ⟨fun hc=>?_,fun hc=>?_⟩)|(intro hc; try omega))
    rw [hfk]
    refine zJl (b:=true) (by rfl) (fun _=>?_) (fun hb=>absurd hb (by decide))
    refine zNj (t:=AS.of [(8,.one (.box 8))] [] [(8,.rcd [.val (.sl (.sl .int)) (stepP a b c k),.val (.sl .int) (zB4 a b c k)])]) (by refine zAf ?_ ?_ ?_<;>simp only [push_cast,seval,reduceCtorEq,cI]) ?_; obtain ⟨fs,hT⟩:=hT; refine zKB hE hT rfl ?_; simp +contextual only [hnl,↓kA,push_cast,seval,reduceCtorEq,cI]
   ·replace hnl:=And.intro hnl (show p (zB4 a b c k,nextN a b c (stepP a b c k),())=false from (Bool.not_eq_true _).mp he)
    have h17:=zKi a b c k
    have h18:=zMM a b c (Nat.le_refl k)
    have h19:=zId hm k hI.le
    repeat' (first|(refine goK (by assumption) ?_; iterate 4 (try clear hK K))|(refine zAb fun K hK=>?_)|((first|refine zAa hE rfl ?_|refine zAi ?_); simp +contextual only [hnl,↓kA,push_cast,seval,reduceCtorEq,cI])|refine zAd ?_|((first|refine zAg ?_|refine zAj ?_); simp only [thenQ,zAh,if_true,if_false,Nat.reduceEqDiff,reduceCtorEq])|(refine zAe (by rfl) (fun hb=>?_) (fun hb=>?_)<;>(try simp only [bq,reduceCtorEq] at hb)<;>(try omega))|refine zAr (by rfl) ?_ ?_|refine andS ?_|(refine ⟨fun hc=>?_,fun hc=>?_⟩)|(intro hc; try omega))
    repeat' (first|(refine goP (by assumption) ?_; iterate 4 (try clear hK K))|(refine zEA fun K hK=>?_)|(refine zCj ?_; refine zAa hE rfl ?_; simp +contextual only [hnl,↓kA,push_cast,seval,reduceCtorEq,cI])|(refine zCj ?_; (refine zEU hE 3 [0] rfl (by decide +kernel) ?_; simp only [List.length_cons,List.length_nil,Nat.reduceAdd,Nat.reduceSub,List.take_succ_cons,List.take_zero,List.drop_succ_cons,List.drop_zero,pickM,headM,List.filterMap_cons,List.filterMap_nil,List.getElem?_cons_zero,List.getElem?_cons_succ,List.contains_cons,List.contains_nil,Nat.reduceBEq,Bool.or_false,Bool.false_or,Bool.true_or,Bool.or_true,if_true,Bool.false_eq_true,if_false,List.cons_append,List.nil_append]; simp +contextual only [hnl,↓kA,push_cast,seval,reduceCtorEq,cI]))|first|(refine goK (by assumption) ?_; iterate 4 (try clear hK K))|(refine zAb fun K hK=>?_)|((first|refine zAa hE rfl ?_|refine zAi ?_); simp +contextual only [hnl,↓kA,push_cast,seval,reduceCtorEq,cI])|refine zAd ?_|((first|refine zAg ?_|refine zAj ?_); simp only [thenQ,zAh,if_true,if_false,Nat.reduceEqDiff,reduceCtorEq])|(refine zAe (by rfl) (fun hb=>?_) (fun hb=>?_)<;>(try simp only [bq,reduceCtorEq] at hb)<;>(try omega))|refine zAr (by rfl) ?_ ?_|refine andS ?_|(refine ⟨fun hc=>?_,fun hc=>?_⟩)|(intro hc; try omega))
    refine zJl (b:=false) (by rfl) (fun hb=>absurd hb (by decide)) (fun _=>zUR ?_)
    repeat' (first|(refine goP (by assumption) ?_; iterate 4 (try clear hK K))|(refine zEA fun K hK=>?_)|(refine zCj ?_; refine zAa hE rfl ?_; simp +contextual only [hnl,↓kA,push_cast,seval,reduceCtorEq,cI])|(refine zCj ?_; (refine zEU hE 3 [0] rfl (by decide +kernel) ?_; simp only [List.length_cons,List.length_nil,Nat.reduceAdd,Nat.reduceSub,List.take_succ_cons,List.take_zero,List.drop_succ_cons,List.drop_zero,pickM,headM,List.filterMap_cons,List.filterMap_nil,List.getElem?_cons_zero,List.getElem?_cons_succ,List.contains_cons,List.contains_nil,Nat.reduceBEq,Bool.or_false,Bool.false_or,Bool.true_or,Bool.or_true,if_true,Bool.false_eq_true,if_false,List.cons_append,List.nil_append]; simp +contextual only [hnl,↓kA,push_cast,seval,reduceCtorEq,cI]))|first|(refine goK (by assumption) ?_; iterate 4 (try clear hK K))|(refine zAb fun K hK=>?_)|((first|refine zAa hE rfl ?_|refine zAi ?_); simp +contextual only [hnl,↓kA,push_cast,seval,reduceCtorEq,cI])|refine zAd ?_|((first|refine zAg ?_|refine zAj ?_); simp only [thenQ,zAh,if_true,if_false,Nat.reduceEqDiff,reduceCtorEq])|(refine zAe (by rfl) (fun hb=>?_) (fun hb=>?_)<;>(try simp only [bq,reduceCtorEq] at hb)<;>(try omega))|refine zAr (by rfl) ?_ ?_|refine andS ?_|(refine ⟨fun hc=>?_,fun hc=>?_⟩)|(intro hc; try omega))
    have e2:(((zB4 a b c k).length:Int) - 1).toNat=k:=by omega
    have n4':0≤nextN a b c (stepP a b c k)∧nextN a b c (stepP a b c k)≤99:=⟨n4,n5⟩
    have hmx:=zPV hm
    rw [e2,h18]
    refine ⟨by unfold InR; omega,⟨by omega,by omega⟩,by omega,by unfold InR; omega,rfl,by omega,?_⟩
    have e3:zB4 a b c k++[partV a b c k+nextN a b c (stepP a b c k)]=zB4 a b c (k+1):=(zOt a b c k).symm
    refine hL _ (k+1) ⟨by omega,fun m hmk=>?_⟩ (by omega) ?_
    ·rcases Nat.lt_or_ge m k with h|h
     ·exact hI.no m h
     ·obtain rfl:m=k:=by omega
      exact (Bool.not_eq_true _).mp he
    refine zAf ?_ ?_ ?_<;>simp only [push_cast,seval,reduceCtorEq,cI]
    rw [e3]
    exact .inl rfl
  ·have hb0:bestV a b c (stepP a b c k)<0:=by
    have:=(hst.more hm).1
    omega
   obtain ⟨n2,_,_⟩:=zFP hm.hc hst.way hb0
   replace hnl:=And.intro hnl (And.intro hra (And.intro n2 (eq_false (show ¬0≤bestV a b c (stepP a b c k) by omega))))
   have hfk:zFd a b c p=k:=zQe hI.le hI.no (.inl (by have:=hI.le; omega))
   repeat' (first|(refine goK (by assumption) ?_; iterate 4 (try clear hK K))|(refine zAb fun K hK=>?_)|((first|refine zAa hE rfl ?_|refine zAi ?_); simp +contextual only [hnl,↓kA,push_cast,seval,reduceCtorEq,cI])|refine zAd ?_|((first|refine zAg ?_|refine zAj ?_); simp only [thenQ,zAh,if_true,if_false,Nat.reduceEqDiff,reduceCtorEq])|(refine zAe (by rfl) (fun hb=>?_) (fun hb=>?_)<;>(try simp only [bq,reduceCtorEq] at hb)<;>(try omega))|refine zAr (by rfl) ?_ ?_|refine andS ?_|(refine ⟨fun hc=>?_,fun hc=>?_⟩)|(intro hc; try omega))
   repeat' (first|(refine goP (by assumption) ?_; iterate 4 (try clear hK K))|(refine zEA fun K hK=>?_)|(refine zCj ?_; refine zAa hE rfl ?_; simp +contextual only [hnl,↓kA,push_cast,seval,reduceCtorEq,cI])|(refine zCj ?_; (refine zEU hE 3 [0] rfl (by decide +kernel) ?_; simp only [List.length_cons,List.length_nil,Nat.reduceAdd,Nat.reduceSub,List.take_succ_cons,List.take_zero,List.drop_succ_cons,List.drop_zero,pickM,headM,List.filterMap_cons,List.filterMap_nil,List.getElem?_cons_zero,List.getElem?_cons_succ,List.contains_cons,List.contains_nil,Nat.reduceBEq,Bool.or_false,Bool.false_or,Bool.true_or,Bool.or_true,if_true,Bool.false_eq_true,if_false,List.cons_append,List.nil_append]; simp +contextual only [hnl,↓kA,push_cast,seval,reduceCtorEq,cI]))|first|(refine goK (by assumption) ?_; iterate 4 (try clear hK K))|(refine zAb fun K hK=>?_)|((first|refine zAa hE rfl ?_|refine zAi ?_); simp +contextual only [hnl,↓kA,push_cast,seval,reduceCtorEq,cI])|refine zAd ?_|((first|refine zAg ?_|refine zAj ?_); simp only [thenQ,zAh,if_true,if_false,Nat.reduceEqDiff,reduceCtorEq])|(refine zAe (by rfl) (fun hb=>?_) (fun hb=>?_)<;>(try simp only [bq,reduceCtorEq] at hb)<;>(try omega))|refine zAr (by rfl) ?_ ?_|refine andS ?_|(refine ⟨fun hc=>?_,fun hc=>?_⟩)|(intro hc; try omega))
   rw [hfk]
   refine zJl (b:=true) (by rfl) (fun _=>?_) (fun hb=>absurd hb (by decide))
   refine zNj (t:=AS.of [(8,.one (.box 8))] [] [(8,.rcd [.val (.sl (.sl .int)) (stepP a b c k),.val (.sl .int) (zB4 a b c k)])]) (by refine zAf ?_ ?_ ?_<;>simp only [push_cast,seval,reduceCtorEq,cI]) ?_; obtain ⟨fs,hT⟩:=hT; refine zKB hE hT rfl ?_; simp +contextual only [hnl,↓kA,push_cast,seval,reduceCtorEq,cI]
end Go.Proofs.YtekfodeknpnkbaaGreatDoor
namespace Go.Proofs.YtekfodeknpnkbaaGreatDoor
open Go.RowKit Go.VS Go.OT
theorem zWS (xt:TypeId) (v:Value) (w:World):(Instr.typeAssert (.iface 169 v) xt 169 true).run Tryz.prog w=.ok (.tuple #[v,.bool true]) w:=by
 have hu:=run_underlying (P:=Tryz.prog) Tryz.underlying169 w
 simp [Instr.typeAssert,hu]
theorem zUW {w:World} {g:Nat} {t:TypeId} {x y:Value} (h:w.heap[g]?=some (.cells #[x,y] t (0,0))) (u v:Value) :
 w.cell? ⟨g,0,none⟩=some x∧w.frozen? ⟨g,0,none⟩=false∧(w.setCell ⟨g,0,none⟩ u).cell? ⟨g,1,none⟩=some y∧(w.setCell ⟨g,0,none⟩ u).frozen? ⟨g,1,none⟩=false ∧
 ((w.setCell ⟨g,0,none⟩ u).setCell ⟨g,1,none⟩ v).heap[g]?=some (.cells #[u,v] t (0,0))∧Keep (fun k=>k=g) w ((w.setCell ⟨g,0,none⟩ u).setCell ⟨g,1,none⟩ v):=by
 have e1:w.setCell ⟨g,0,none⟩ u=w.setRow g #[u,y]:=setCell_eq_setRow w g 0 #[x,y] t (0,0) u h
 have h1:(w.setRow g #[u,y]).heap[g]?=some (.cells #[u,y] t (0,0)):=setRow_heap w g _ _ t _ h
 have e2:(w.setRow g #[u,y]).setCell ⟨g,1,none⟩ v=(w.setRow g #[u,y]).setRow g #[u,v]:=setCell_eq_setRow _ g 1 #[u,y] t (0,0) v h1
 rw [e1,e2]
 refine ⟨by simp [World.cell?,h],by simp [World.frozen?,h],by simp [World.cell?,h1],by simp [World.frozen?,h1],setRow_heap _ g _ _ t _ h1,⟨rfl,rfl,rfl,by simp [World.setRow],fun k hk hne=>?_⟩⟩
 rw [setRow_other _ g k _ hne,setRow_other _ g k _ hne]
theorem zNR (b:Nat) (a1 a2:Option Addr) (n1 c1 n2 c2:Nat) (w:World) (t:TypeId) (x y:Value) (hb:w.heap[b]?=some (.cells #[x,y] t (0,0))) :
 CallsD Tryz.prog 202 #[.pointer (some ⟨b,0,none⟩)] (.panicking [{v:=.iface 169 (.agg #[.slice a1 n1 c1,.slice a2 n2 c2]),recovered:=false}]) w fun e u' w' =>
  e=.returned (.tuple #[])∧u'=.panicking [{v:=.iface 169 (.agg #[.slice a1 n1 c1,.slice a2 n2 c2]),recovered:=true}] ∧
  Keep (fun k=>k=b) w w'∧w'.heap[b]?=some (.cells #[.slice a1 n1 c1,.slice a2 n2 c2] t (0,0)):=by
 refine callsD_of_wpS Tryz.func202 rfl fun c₀ cs hu=>?_
 apply wpS_seq
 apply wpS_region
 simp [wpOpsS,go_sem,recoverD,hu,Tryz.ntmps202,Exit.thenS]
 apply wpS_seq
 apply wpS_region
 simp [wpOpsS,go_sem,Exit.thenS,zWS]
 have hblt:b<w.heap.size:=(Array.getElem?_eq_some_iff.1 hb).1
 have h1:(w.alloc (.cells #[.slice a1 n1 c1,.slice a2 n2 c2] 169)).heap[w.heap.size]?=some (.cells #[.slice a1 n1 c1,.slice a2 n2 c2] 169 (0,0)):=by simp only [World.alloc,Array.getElem?_push,if_true]
 have h2:(w.alloc (.cells #[.slice a1 n1 c1,.slice a2 n2 c2] 169)).heap[b]?=some (.cells #[x,y] t (0,0)):=by
  simp only [World.alloc,Array.getElem?_push]
  rw [if_neg (by omega)]
  exact hb
 obtain ⟨W,hW⟩:∃ W,W=w.alloc (.cells #[.slice a1 n1 c1,.slice a2 n2 c2] 169):=⟨_,rfl⟩
 have hkW:Keep (fun k=>k=b) w W:=by
  rw [hW]
  exact ⟨rfl,rfl,rfl,by simp only [World.alloc,Array.size_push]; omega,fun k hk _=>by simp only [World.alloc,Array.getElem?_push]; rw [if_neg (by omega)]⟩
 rw [←hW] at h1 h2 ⊢
 have l0:W.cell? ⟨w.heap.size,0,none⟩=some (.slice a1 n1 c1):=by simp [World.cell?,h1]
 have l1:W.cell? ⟨w.heap.size,1,none⟩=some (.slice a2 n2 c2):=by simp [World.cell?,h1]
 obtain ⟨e1,e2,e3,e4,e5,e6⟩:=zUW h2 (.slice a1 n1 c1) (.slice a2 n2 c2)
 apply wpS_seq
 apply wpS_seq
 apply wpS_region
 simp [wpOpsS,go_sem,Exit.thenS]
 refine wpS_cond (t:=false) (by simp [Act.eval,Array.replicate]) ?_
 simp only [Bool.false_eq_true,if_false]
 refine wpS_of_wp (wp_skip ?_)
 simp only [Exit.thenS]
 apply wpS_region
 simp [wpOpsS,go_sem,Exit.thenS,l0,l1,e1,e2,e3,e4,bodyPostS,results,Tryz.results202]
 exact ⟨hkW.step e6 (fun k hk _=>hk),e5⟩
@[push_cast] def zTD:Con:=⟨zP9,fun (x:zSm)=>MC x.1 x.2.1 x.2.2.1∧∀ y,x.2.2.2.1.1 y,
 fun (x:zSm)=>{res:=[.val (.prod (.sl (.sl .int)) (.sl .int)) (stepP x.1 x.2.1 x.2.2.1 (zFd x.1 x.2.1 x.2.2.1 x.2.2.2.1.2),zB4 x.1 x.2.1 x.2.2.1 (zFd x.1 x.2.1 x.2.2.1 x.2.2.2.1.2))]}⟩
set_option maxRecDepth 20000 in
theorem zTE:FnSpec Tryz.prog 162 zTD:=by
 refine ⟨⟨_,Tryz.func162,by kernel_rfl,rfl⟩,fun C γ x vs hpre hen=>?_⟩
 have hP:=hen.P
 have hlt:=hen.ownlt
 obtain ⟨hm,hq⟩:=hpre
 have hargs:=hen.args
 obtain ⟨(a:List Int),(b:List Int),(c:List (List Int)),⟨(q:List Int×Int×Unit→Prop),(p:List Int×Int×Unit→Bool)⟩,_⟩:=x
 dsimp only at hm hq
 obtain ⟨va,_,rfl,ha,vb,_,rfl,hb,vc,_,rfl,hc,vf,_,rfl,hf,rfl⟩:=hargs
 have hmf:∀ (fn:Fn) (first cap:Array Value) (w:World),(Instr.makeFunc fn first cap).run Tryz.prog w=.ok (.func fn first cap) w:=fun _ _ _ _=>rfl
 show Calls _ _ #[va,vb,vc,vf] C.w0 _
 obtain ⟨w,hw⟩:∃ w,w=C.w0:=⟨_,rfl⟩
 obtain ⟨W,hW⟩:∃ W,W=w.alloc (.cells #[.slice none 0 0,.slice none 0 0] 169):=⟨_,rfl⟩
 have hsz:W.heap.size=w.heap.size+1:=by rw [hW]; simp only [World.alloc,Array.size_push]
 have hold:∀ k,k<w.heap.size→W.heap[k]?=w.heap[k]?:=fun k hk=>by rw [hW]; simp only [World.alloc,Array.getElem?_push]; rw [if_neg (by omega)]
 have hnew:W.heap[w.heap.size]?=some (.cells #[.slice none 0 0,.slice none 0 0] 169 (0,0)):=by rw [hW]; simp only [World.alloc,Array.getElem?_push,if_true]
 have hkW:∀ L,Keep L w W:=fun L=>⟨by rw [hW]; rfl,by rw [hW]; rfl,by rw [hW]; rfl,by omega,fun k hk _=>hold k hk⟩
 let C1:Ctx:=⟨Tryz.prog,fun _=>False,W,fun b=>C.zn γ b∧b<w.heap.size,0,fun _=>undef,fun _=>0,[]⟩
 let γ1:Gam:=⟨fun _=>⟨none,0,0⟩,fun _ _=>⟨none,0,0⟩,fun _=>0,fun _=>none⟩
 have hmono:∀ (s:Sh) (x:s.T) v,vrep w (C.zn γ) s x v→vrep W (C1.zn γ1) s x v:=fun s x v ⟨cs,h1,h2⟩=>⟨cs,zAx (by omega) (fun b hb hz=>⟨⟨.inl ⟨hz,hb⟩,rfl⟩,hold b hb⟩) s x cs h1,h2⟩
 rw [←hw] at ha hb hc
 have hf':FnOK C1.P C1.L C1.w0 [.sl .int,.int] .bool q p vf:=by
  obtain ⟨f,pre,caps,e1,e2,e3⟩:=hf
  rw [hP] at e2 e3
  exact ⟨f,pre,caps,e1,e2,fun w1 Z x vs hk hg hqx hargs=>e3 w1 Z x vs (by rw [←hw]; exact (hkW C.L).step hk (fun b hb _=>hb.elim)) hg hqx hargs⟩
 have hgd:Gd C1.P C1.w0:=by
  have h1:=hen.ds.2.gd
  rw [hP,←hw] at h1
  exact h1.later (hkW _)
 have hcall:=zRP C1 γ1 (a,b,c,(q,p),()) [va,vb,vc,vf] hm hq ⟨rfl,rfl,⟨rfl,hgd,fun k hk=>hk.elim⟩,fun r hr=>absurd hr (Nat.not_lt_zero _),fun k l h=>(by cases h),⟨va,_,rfl,hmono _ _ _ ha,vb,_,rfl,hmono _ _ _ hb,vc,_,rfl,hmono _ _ _ hc,vf,_,rfl,hf',rfl⟩,fun p hp=>(by cases hp),fun p hp=>(by cases hp)⟩
 rw [←hw]
 go_enter_defers Tryz.func162,Tryz.ntmps162
 rw [show [va,vb,vc,vf].toArray=#[va,vb,vc,vf] from rfl] at hcall
 have hcall':Calls Tryz.prog 203 #[va,vb,vc,vf] (C.w0.alloc (.cells #[.slice none 0 0,.slice none 0 0] 169)) (fun e w'=>∃ ch,e=.panicked ch∧zIj C1 169 (.sl (.sl .int)) (.sl .int) (stepP a b c (zFd a b c p)) (zB4 a b c (zFd a b c p)) ch w'):=by rw [←hw,←hW]; exact hcall
 go_wp2_with (go_at_call 203; refine hcall'.mono ?_; rintro e w2 ⟨ch,rfl,g1,u,v,rfl,⟨cu,hu,rfl⟩,⟨cv,hv,rfl⟩,hk⟩)
 rw [←hw]
 have hu':=hu
 have hv':=hv
 obtain ⟨a1,c1,rfl,_⟩:=hu'
 obtain ⟨a2,c2,rfl,_⟩:=hv'
 have hb2:w2.heap[w.heap.size]?=some (.cells #[.slice none 0 0,.slice none 0 0] 169 (0,0)):=(hk.block w.heap.size (show w.heap.size<W.heap.size by omega) (fun h=>h)).trans hnew
 have hk2:Keep C.L w w2:=(hkW C.L).step hk (fun b hb _=>hb.elim)
 have hmono2:∀ (w3:World),Keep (fun k=>k=w.heap.size) w2 w3→∀ (s:Sh) (x:s.T) cs,pers w2 (C1.zn g1) s x cs→pers w3 (C.zn γ) s x cs:=fun w3 hk3 s x cs hx=>by
  refine zAx hk3.size (fun b hb hz=>?_) s x cs hx
  obtain ⟨hz1,_⟩:=hz
  rcases hz1 with ⟨h1,h2⟩|h1|h1
  ·exact ⟨h1,hk3.block b hb (by omega)⟩
  ·have h1':W.heap.size≤b:=h1
   refine ⟨⟨.inr (.inl (by rw [←hw]; omega)),?_⟩,hk3.block b hb (by omega)⟩
   cases ho:γ.own b with
   | none=>rfl
   | some l=>exact absurd (hlt b l ho) (by rw [←hw]; omega)
  ·exact h1.elim
 show Leaves Tryz.prog _ _ _ _ (.panicking _) w2
 refine leaves_cons (f:=202) (args:=#[.pointer (some ⟨w.heap.size,0,none⟩)]) (by simp) (by simp [go_sem]) ?_
 refine (zNR w.heap.size a1 a2 _ c1 _ c2 w2 _ _ _ hb2).mono ?_
 rintro e u' w3 ⟨rfl,rfl,hk3,hc3⟩
 have k0:w3.cell? ⟨w.heap.size,0,none⟩=some (.slice a1 (stepP a b c (zFd a b c p)).length c1):=by simp [World.cell?,hc3]
 have k1:w3.cell? ⟨w.heap.size,1,none⟩=some (.slice a2 (zB4 a b c (zFd a b c p)).length c2):=by simp [World.cell?,hc3]
 have hu3:=hmono2 w3 hk3 _ _ _ hu
 have hv3:=hmono2 w3 hk3 _ _ _ hv
 have hkeep:Keep C.L w w3:=hk2.step hk3 (fun b hb hlt=>absurd hlt (by omega))
 simp [Leaves,settle,results,Tryz.results162,go_sem,k0,k1]
 exact ⟨⟨γ,⟨[],[],[_],rfl,⟨_,[],rfl,⟨_,⟨_,_,rfl,hu3,hv3⟩,rfl⟩,rfl,rfl,rfl⟩,List.nodup_nil,List.nodup_nil⟩,fun p hp=>absurd hp (List.not_mem_nil),fun p hp=>absurd hp (List.not_mem_nil),fun k l hl=>by have h1:=hlt k l hl; rw [←hw] at h1; have:=hkeep.size; omega⟩,hkeep⟩
end Go.Proofs.YtekfodeknpnkbaaGreatDoor
