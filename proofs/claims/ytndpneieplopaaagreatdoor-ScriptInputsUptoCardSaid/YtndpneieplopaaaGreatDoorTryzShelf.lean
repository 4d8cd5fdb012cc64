/- Contracts of the library's functions, laid at this program by the kit's tool. -/
import Derived.Shelf.Strings.Builder2
import Derived.Shelf.Strings.OnBuilder
import Derived.Shelf.Small.Wraps
import Derived.Shelf.Strings.BuilderF
import Derived.Shelf.Strings.BuilderK
import Derived.Shelf.Strings.BuilderRune
import Derived.Shelf.Utf8.AppendRunePlain
import Derived.Shelf.Strconv.Atoi
import Derived.Shelf.Strconv.Itoa0
import Derived.Shelf.Strconv.Itoa1
import Derived.Shelf.LaysM
import Derived.Shelf.Strconv.Itoa2
import Derived.Shelf.Strconv.Itoa3
import Derived.Shelf.Strconv.AtoiErrFast
import Derived.Shelf.Strconv.ParseIntEmpty
import Derived.Shelf.Strconv.AtoiFail
import Derived.Shelf.Strconv.Clone
import Derived.Shelf.Strconv.SyntaxError
import Derived.Shelf.LaysC
import Derived.Shelf.Strconv.ToError
import Derived.Shelf.Strconv.Lower
import Derived.Shelf.Strconv.ParseUint10
import Derived.Shelf.Strconv.ParseUint10Empty
import Derived.Shelf.Strconv.ParseUint10Any
import Derived.Shelf.Strconv.ParseInt10
import Derived.Shelf.Strconv.AtoiLong
import Derived.Shelf.Strconv.AtoiInnerAll
import Derived.Shelf.Strconv.RangeError
import Derived.Shelf.Strconv.ToErrorRange
import Derived.Shelf.Strconv.AtoiAll
import Derived.Shelf.Strconv.ErrVarAll
import Derived.Shelf.Strings.Search1
import Derived.Shelf.Strings.Search2
import Derived.Shelf.Strings.Search3
import Derived.Shelf.Strings.Cut
import Derived.Shelf.Strings.Count
import Derived.Shelf.Strings.Shaped
import Derived.Shelf.Strings.Prefix
import Derived.Shelf.Unicode.DecodeSlow
import Derived.Shelf.Unicode.DecodeAny
import Derived.Shelf.Unicode.ValidAny
import Derived.Test.YtndpneieplopaaaGreatDoorProg
import Derived.Shelf.Strings.Builder1
set_option linter.unusedSimpArgs false
set_option linter.unusedVariables false
noncomputable section
namespace Go.Proofs
open Tryz
theorem kr{α:Type _}{a b:α}(h:a=b:=by kernel_rfl):some a=some b:=congrArg some h
open Go.Shelf
def Zh:Go.Shelf.Ren:=⟨fun|169=>32|n=>n,fun|70=>83|9=>9|0=>0|72=>85|37=>80|127=>128|3=>3|5=>5|n=>n,fun|n=>n⟩
theorem F':Go.Proofs.Lays.n169 prog Zh:={
 mixed:=by kernel_rfl
 f169:=func32.trans kr
 t0:=underlying0
 a0:=isAgg0
 z0:=sizeOf0
 v0:=zeroValue0
 t3:=underlying3
 a3:=isAgg3
 z3:=sizeOf3
 v3:=zeroValue3
 t9:=underlying9
 a9:=isAgg9
 z9:=sizeOf9
 v9:=zeroValue9
 t37:=underlying80
 a37:=isAgg80
 z37:=sizeOf80
 v37:=zeroValue80
 t70:=underlying83
 a70:=isAgg83
 z70:=sizeOf83
 v70:=zeroValue83
 t72:=underlying85
 a72:=isAgg85
 z72:=sizeOf85
 v72:=zeroValue85
 t127:=underlying128
 a127:=isAgg128
 z127:=sizeOf128
 v127:=zeroValue128 }
theorem aiB:Builder.Extra prog Zh:={
 sizeBuilder:=by kernel_rfl
 liesBuilder:=by kernel_rfl
 t5:=underlying5
 a5:=isAgg5
 z5:=sizeOf5
 v5:=zeroValue5
 infoByte:=by kernel_rfl
 cellsByte:=by kernel_rfl
 sizeByte:=by kernel_rfl
 neB5:=by decide }
def Zi:Go.Shelf.Ren:=⟨fun|156=>69|165=>103|166=>31|169=>32|240=>76|241=>137|276=>110|277=>154|n=>n,fun|31=>54|9=>9|3=>3|4=>4|0=>0|20=>20|72=>85|76=>89|70=>83|37=>80|75=>88|127=>128|164=>149|5=>5|80=>91|n=>n,fun|n=>n⟩
theorem ZS:Go.Proofs.Lays.n156 prog Zi:={
 mixed:=by kernel_rfl
 f156:=func69.trans kr
 f165:=func103.trans kr
 f166:=func31.trans kr
 f169:=func32.trans kr
 f240:=func76.trans kr
 f241:=func137.trans kr
 f276:=func110.trans kr
 f277:=func154.trans kr
 t0:=underlying0
 a0:=isAgg0
 z0:=sizeOf0
 v0:=zeroValue0
 t3:=underlying3
 a3:=isAgg3
 z3:=sizeOf3
 v3:=zeroValue3
 t4:=underlying4
 a4:=isAgg4
 z4:=sizeOf4
 v4:=zeroValue4
 t9:=underlying9
 a9:=isAgg9
 z9:=sizeOf9
 v9:=zeroValue9
 t20:=underlying20
 a20:=isAgg20
 z20:=sizeOf20
 v20:=zeroValue20
 t31:=underlying54
 a31:=isAgg54
 z31:=sizeOf54
 v31:=zeroValue54
 t37:=underlying80
 a37:=isAgg80
 z37:=sizeOf80
 v37:=zeroValue80
 t70:=underlying83
 a70:=isAgg83
 z70:=sizeOf83
 v70:=zeroValue83
 t72:=underlying85
 a72:=isAgg85
 z72:=sizeOf85
 v72:=zeroValue85
 t75:=underlying88
 a75:=isAgg88
 z75:=sizeOf88
 v75:=zeroValue88
 t76:=underlying89
 a76:=isAgg89
 z76:=sizeOf89
 v76:=zeroValue89
 t127:=underlying128
 a127:=isAgg128
 z127:=sizeOf128
 v127:=zeroValue128
 t164:=underlying149
 a164:=isAgg149
 z164:=sizeOf149
 v164:=zeroValue149 }
theorem Zb:Builder.Extra prog Zi:={
 sizeBuilder:=by kernel_rfl
 liesBuilder:=by kernel_rfl
 t5:=underlying5
 a5:=isAgg5
 z5:=sizeOf5
 v5:=zeroValue5
 infoByte:=by kernel_rfl
 cellsByte:=by kernel_rfl
 sizeByte:=by kernel_rfl
 neB5:=by decide }
open Go.RowKit in
theorem Zc(a:Option Addr)(c:Nat)(sep:ByteArray)(w:World):
  Calls prog 69 #[.slice a 0 c,.string sep] w λe w'=>e =.returned (.string ⟨#[]⟩)/\w'=w:=Any.strings_Join_none ZS Zb a c sep w
open Go.RowKit in
theorem aiK(bk o c:Nat)(xs:List ByteArray)(sep:ByteArray)(w:World)(hcells:∀(j:Nat) x,xs[j]?=some x->w.cell? ⟨bk,o+j,none⟩=some (.string x))(hbk:bk<w.heap.size)(hN:xs.length<=140737488355328)(hcap:xs.length<=c)(hlen:(Lib.join (xs.map (·.data.toList)) sep.data.toList).length<=140737488355328):
  Calls prog 69 #[.slice (some ⟨bk,o,none⟩) xs.length c,.string sep] w λe w'=>e =.returned (.string ⟨(Lib.join (xs.map (·.data.toList)) sep.data.toList).toArray⟩)/\Below w.heap.size w w':=Any.strings_Join ZS Zb bk o c xs sep w hcells hbk hN hcap hlen
def aiU:Go.Shelf.Ren:=⟨fun|103=>147|210=>165|206=>188|n=>n,fun|9=>9|4=>4|24=>186|3=>3|n=>n,fun|n=>n⟩
theorem H!:Go.Proofs.Lays.n103 prog aiU:={
 mixed:=by kernel_rfl
 f103:=func147.trans kr
 f206:=func188.trans kr
 f210:=func165.trans kr
 t3:=underlying3
 a3:=isAgg3
 z3:=sizeOf3
 v3:=zeroValue3
 t4:=underlying4
 a4:=isAgg4
 z4:=sizeOf4
 v4:=zeroValue4
 t9:=underlying9
 a9:=isAgg9
 z9:=sizeOf9
 v9:=zeroValue9
 t24:=underlying186
 a24:=isAgg186
 z24:=sizeOf186
 v24:=zeroValue186 }
open Go.RowKit in
theorem aiC(s p:ByteArray)(w:World):
  Calls prog 147 #[.string s,.string p] w λe w'=>e =.returned (.tuple #[.string ⟨(Lib.trimPrefix s.data.toList p.data.toList).toArray⟩,.bool (Lib.hasPrefix s.data.toList p.data.toList)])/\w'=w:=Any.strings_CutPrefix H! s p w
def aiT:Go.Shelf.Ren:=⟨fun|121=>102|214=>136|n=>n,fun|4=>4|9=>9|n=>n,fun|n=>n⟩
theorem C!:Go.Proofs.Lays.n121 prog aiT:={
 mixed:=by kernel_rfl
 f121:=func102.trans kr
 f214:=func136.trans kr
 t4:=underlying4
 a4:=isAgg4
 z4:=sizeOf4
 v4:=zeroValue4
 t9:=underlying9
 a9:=isAgg9
 z9:=sizeOf9
 v9:=zeroValue9 }
open Go.RowKit in
theorem aiw(b:Bool)(w:World):
  Calls prog 102 #[.bool b] w λe w'=>e =.returned (.string ⟨(Lib.formatBool b).toArray⟩)/\w'=w:=Any.strconv_FormatBool C! b w
def aiH:Go.Shelf.Ren:=⟨fun|171=>99|243=>131|246=>152|283=>172|284=>173|285=>174|286=>175|129=>192|317=>191|318=>193|319=>194|320=>195|337=>204|338=>205|n=>n,fun|3=>3|9=>9|2=>2|4=>4|171=>213|0=>0|53=>212|37=>80|5=>5|173=>216|212=>240|51=>166|20=>20|213=>241|46=>73|232=>271|233=>272|n=>n,fun|17=>5|18=>6|19=>7|n=>n⟩
theorem t!:Go.Proofs.LaysM.n171 prog aiH:={
 mixed:=by kernel_rfl
 f129:=func192.trans kr
 f171:=func99.trans kr
 f243:=func131.trans kr
 f246:=func152.trans kr
 f283:=func172.trans kr
 f284:=func173.trans kr
 f285:=func174.trans kr
 f286:=func175.trans kr
 f317:=func191.trans kr
 f318:=func193.trans kr
 f319:=func194.trans kr
 f320:=func195.trans kr
 f337:=func204.trans kr
 f338:=func205.trans kr
 t0:=underlying0
 a0:=isAgg0
 z0:=sizeOf0
 v0:=zeroValue0
 t2:=underlying2
 a2:=isAgg2
 z2:=sizeOf2
 v2:=zeroValue2
 t3:=underlying3
 a3:=isAgg3
 z3:=sizeOf3
 v3:=zeroValue3
 t4:=underlying4
 a4:=isAgg4
 z4:=sizeOf4
 v4:=zeroValue4
 t5:=underlying5
 a5:=isAgg5
 z5:=sizeOf5
 v5:=zeroValue5
 t9:=underlying9
 a9:=isAgg9
 z9:=sizeOf9
 v9:=zeroValue9
 t20:=underlying20
 a20:=isAgg20
 z20:=sizeOf20
 v20:=zeroValue20
 t37:=underlying80
 a37:=isAgg80
 z37:=sizeOf80
 v37:=zeroValue80
 t46:=underlying73
 a46:=isAgg73
 z46:=sizeOf73
 v46:=zeroValue73
 t51:=underlying166
 a51:=isAgg166
 z51:=sizeOf166
 v51:=zeroValue166
 t53:=underlying212
 a53:=isAgg212
 z53:=sizeOf212
 v53:=zeroValue212
 t171:=underlying213
 a171:=isAgg213
 z171:=sizeOf213
 v171:=zeroValue213
 t173:=underlying216
 a173:=isAgg216
 z173:=sizeOf216
 v173:=zeroValue216
 t212:=underlying240
 a212:=isAgg240
 z212:=sizeOf240
 v212:=zeroValue240
 t213:=underlying241
 a213:=isAgg241
 z213:=sizeOf241
 t232:=underlying271
 a232:=isAgg271
 z232:=sizeOf271
 v232:=zeroValue271
 t233:=underlying272
 a233:=isAgg272
 z233:=sizeOf272
 v233:=zeroValue272
 g17:=by kernel_rfl
 g18:=by kernel_rfl
 g19:=by kernel_rfl
 i0:=by kernel_rfl
 i2:=by kernel_rfl
 i3:=by kernel_rfl
 i4:=by kernel_rfl
 i5:=by kernel_rfl
 i9:=by kernel_rfl
 i20:=by kernel_rfl
 i37:=by kernel_rfl
 i46:=by kernel_rfl
 i51:=by kernel_rfl
 i53:=by kernel_rfl
 i171:=by kernel_rfl
 i173:=by kernel_rfl
 i212:=by kernel_rfl
 i232:=by kernel_rfl
 i233:=by kernel_rfl
 m17:=by kernel_rfl
 m18:=by kernel_rfl
 m19:=by kernel_rfl }
open Go.RowKit Go.Sort Go.Lib in
theorem aiI(n:Int)(h0 : -9223372036854775808<=n)(h1:n<=9223372036854775807)(w:World)(htab:Lib.TabIs prog w "internal/strconv.uint64pow10" .u64 Lib.pow10Tab):
  Calls prog 99 #[.int .i64 n] w λe w'=>e =.returned (.string ⟨(Lib.itoa n).toArray⟩)/\∃k os,w'=grow (w.drewN k) os:=Any.strconv_Itoa t! n h0 h1 w htab
def aiG:Go.Shelf.Ren:=⟨fun|172=>123|244=>144|245=>145|247=>158|279=>159|280=>160|281=>161|282=>162|287=>183|316=>184|171=>99|205=>185|321=>202|322=>203|243=>131|246=>152|283=>172|284=>173|285=>174|286=>175|129=>192|317=>191|318=>193|319=>194|320=>195|337=>204|338=>205|n=>n,fun|9=>9|3=>3|75=>88|76=>89|4=>4|5=>5|167=>203|37=>80|0=>0|85=>204|2=>2|168=>206|53=>212|175=>232|46=>73|210=>235|127=>128|145=>260|143=>258|21=>21|171=>213|173=>216|212=>240|51=>166|20=>20|213=>241|232=>271|233=>272|80=>91|n=>n,fun|15=>3|16=>4|17=>5|18=>6|19=>7|n=>n⟩
theorem JK:Go.Proofs.LaysC.n172 prog aiG:={
 mixed:=by kernel_rfl
 f129:=func192.trans kr
 f171:=func99.trans kr
 f172:=func123.trans kr
 f205:=func185.trans kr
 f243:=func131.trans kr
 f244:=func144.trans kr
 f245:=func145.trans kr
 f246:=func152.trans kr
 f247:=func158.trans kr
 f279:=func159.trans kr
 f280:=func160.trans kr
 f281:=func161.trans kr
 f282:=func162.trans kr
 f283:=func172.trans kr
 f284:=func173.trans kr
 f285:=func174.trans kr
 f286:=func175.trans kr
 f287:=func183.trans kr
 f316:=func184.trans kr
 f317:=func191.trans kr
 f318:=func193.trans kr
 f319:=func194.trans kr
 f320:=func195.trans kr
 f321:=func202.trans kr
 f322:=func203.trans kr
 f337:=func204.trans kr
 f338:=func205.trans kr
 t0:=underlying0
 a0:=isAgg0
 z0:=sizeOf0
 v0:=zeroValue0
 t2:=underlying2
 a2:=isAgg2
 z2:=sizeOf2
 v2:=zeroValue2
 t3:=underlying3
 a3:=isAgg3
 z3:=sizeOf3
 v3:=zeroValue3
 t4:=underlying4
 a4:=isAgg4
 z4:=sizeOf4
 v4:=zeroValue4
 t5:=underlying5
 a5:=isAgg5
 z5:=sizeOf5
 v5:=zeroValue5
 t9:=underlying9
 a9:=isAgg9
 z9:=sizeOf9
 v9:=zeroValue9
 t20:=underlying20
 a20:=isAgg20
 z20:=sizeOf20
 v20:=zeroValue20
 t21:=underlying21
 a21:=isAgg21
 z21:=sizeOf21
 v21:=zeroValue21
 t37:=underlying80
 a37:=isAgg80
 z37:=sizeOf80
 v37:=zeroValue80
 t46:=underlying73
 a46:=isAgg73
 z46:=sizeOf73
 v46:=zeroValue73
 t51:=underlying166
 a51:=isAgg166
 z51:=sizeOf166
 v51:=zeroValue166
 t53:=underlying212
 a53:=isAgg212
 z53:=sizeOf212
 v53:=zeroValue212
 t75:=underlying88
 a75:=isAgg88
 z75:=sizeOf88
 v75:=zeroValue88
 t76:=underlying89
 a76:=isAgg89
 z76:=sizeOf89
 v76:=zeroValue89
 t85:=underlying204
 a85:=isAgg204
 z85:=sizeOf204
 v85:=zeroValue204
 t127:=underlying128
 a127:=isAgg128
 z127:=sizeOf128
 v127:=zeroValue128
 t143:=underlying258
 a143:=isAgg258
 z143:=sizeOf258
 v143:=zeroValue258
 t145:=underlying260
 a145:=isAgg260
 z145:=sizeOf260
 v145:=zeroValue260
 t167:=underlying203
 a167:=isAgg203
 z167:=sizeOf203
 v167:=zeroValue203
 t168:=underlying206
 a168:=isAgg206
 z168:=sizeOf206
 v168:=zeroValue206
 t171:=underlying213
 a171:=isAgg213
 z171:=sizeOf213
 v171:=zeroValue213
 t173:=underlying216
 a173:=isAgg216
 z173:=sizeOf216
 v173:=zeroValue216
 t175:=underlying232
 a175:=isAgg232
 z175:=sizeOf232
 v175:=zeroValue232
 t210:=underlying235
 a210:=isAgg235
 z210:=sizeOf235
 v210:=zeroValue235
 t212:=underlying240
 a212:=isAgg240
 z212:=sizeOf240
 v212:=zeroValue240
 t213:=underlying241
 a213:=isAgg241
 z213:=sizeOf241
 t232:=underlying271
 a232:=isAgg271
 z232:=sizeOf271
 v232:=zeroValue271
 t233:=underlying272
 a233:=isAgg272
 z233:=sizeOf272
 v233:=zeroValue272
 g15:=by kernel_rfl
 g16:=by kernel_rfl
 g17:=by kernel_rfl
 g18:=by kernel_rfl
 g19:=by kernel_rfl
 t80:=underlying91
 a80:=isAgg91
 z80:=sizeOf91
 v80:=zeroValue91
 i0:=by kernel_rfl
 i2:=by kernel_rfl
 i3:=by kernel_rfl
 i4:=by kernel_rfl
 i5:=by kernel_rfl
 i9:=by kernel_rfl
 i20:=by kernel_rfl
 i21:=by kernel_rfl
 i37:=by kernel_rfl
 i46:=by kernel_rfl
 i51:=by kernel_rfl
 i53:=by kernel_rfl
 i75:=by kernel_rfl
 i76:=by kernel_rfl
 i80:=by kernel_rfl
 i85:=by kernel_rfl
 i127:=by kernel_rfl
 i143:=by kernel_rfl
 i145:=by kernel_rfl
 i167:=by kernel_rfl
 i168:=by kernel_rfl
 i171:=by kernel_rfl
 i173:=by kernel_rfl
 i175:=by kernel_rfl
 i210:=by kernel_rfl
 i212:=by kernel_rfl
 i232:=by kernel_rfl
 i233:=by kernel_rfl
 m15:=by kernel_rfl
 m16:=by kernel_rfl
 m17:=by kernel_rfl
 m18:=by kernel_rfl
 m19:=by kernel_rfl
 c0:=by kernel_rfl
 c2:=by kernel_rfl
 c3:=by kernel_rfl
 c4:=by kernel_rfl
 c5:=by kernel_rfl
 c9:=by kernel_rfl
 c20:=by kernel_rfl
 c21:=by kernel_rfl
 c37:=by kernel_rfl
 c46:=by kernel_rfl
 c51:=by kernel_rfl
 c53:=by kernel_rfl
 c75:=by kernel_rfl
 c76:=by kernel_rfl
 c80:=by kernel_rfl
 c85:=by kernel_rfl
 c127:=by kernel_rfl
 c143:=by kernel_rfl
 c145:=by kernel_rfl
 c167:=by kernel_rfl
 c168:=by kernel_rfl
 c171:=by kernel_rfl
 c173:=by kernel_rfl
 c175:=by kernel_rfl
 c210:=by kernel_rfl
 c212:=by kernel_rfl
 c213:=by kernel_rfl
 c232:=by kernel_rfl
 c233:=by kernel_rfl }
open Go.RowKit in
theorem aiE(s:ByteArray)(hmax:s.size<=9223372036854775806)(v:Int)(h:Lib.atoiAll s.data.toList =.ok v)(w:World):
  Calls prog 123 #[.string s] w λe w'=>e =.returned (.tuple #[.int .i64 v,.nilIface])/\(w'=w\/∃t,w'=Lib.bytesWorld w 5 t):=Any.strconv_Atoi_ok JK s hmax v h w
open Go.RowKit in
theorem aiz(s:ByteArray)(hlim:s.size<=281474976710656)(h:Lib.atoiAll s.data.toList=Lib.atoiAll [])(ev:Value)(w:World)(hv:w.cell? ⟨3,0,none⟩=some ev)(hev:ev =.nilIface\/∃te pe,ev =.iface te pe):
  Calls prog 123 #[.string s] w λe w'=>∃N,e =.returned (.tuple #[.int .i64 (0),.iface 206 (.pointer (some ⟨N,0,none⟩))])/\w.heap.size<=N/\w'.heap[N]?=some (.cells #[.string ⟨#[65,116,111,105]⟩,.string s,ev] 235 (0,0))/\Below w.heap.size w w':=Any.strconv_Atoi_syntax JK s hlim h ev w hv hev
open Go.RowKit in
theorem aiy(s:ByteArray)(hlim:s.size<=281474976710656)(h:Lib.atoiAll s.data.toList =.range)(ev:Value)(w:World)(hv:w.cell? ⟨4,0,none⟩=some ev)(hev:ev =.nilIface\/∃te pe,ev =.iface te pe):
  Calls prog 123 #[.string s] w λe w'=>∃N,e =.returned (.tuple #[.int .i64 (Lib.atoiSat s.data.toList),.iface 206 (.pointer (some ⟨N,0,none⟩))])/\w.heap.size<=N/\w'.heap[N]?=some (.cells #[.string ⟨#[65,116,111,105]⟩,.string s,ev] 235 (0,0))/\Below w.heap.size w w':=Any.strconv_Atoi_range JK s hlim h ev w hv hev
def aiW:Go.Shelf.Ren:=⟨fun|219=>89|217=>118|225=>119|224=>120|267=>121|266=>142|314=>143|n=>n,fun|9=>9|3=>3|4=>4|5=>5|46=>73|146=>182|51=>166|n=>n,fun|1=>0|n=>n⟩
theorem E!:Go.Proofs.Lays.n219 prog aiW:={
 mixed:=by kernel_rfl
 f217:=func118.trans kr
 f219:=func89.trans kr
 f224:=func120.trans kr
 f225:=func119.trans kr
 f266:=func142.trans kr
 f267:=func121.trans kr
 f314:=func143.trans kr
 t3:=underlying3
 a3:=isAgg3
 z3:=sizeOf3
 v3:=zeroValue3
 t4:=underlying4
 a4:=isAgg4
 z4:=sizeOf4
 v4:=zeroValue4
 t5:=underlying5
 a5:=isAgg5
 z5:=sizeOf5
 v5:=zeroValue5
 t9:=underlying9
 a9:=isAgg9
 z9:=sizeOf9
 v9:=zeroValue9
 t46:=underlying73
 a46:=isAgg73
 z46:=sizeOf73
 v46:=zeroValue73
 t51:=underlying166
 a51:=isAgg166
 z51:=sizeOf166
 v51:=zeroValue166
 t146:=underlying182
 a146:=isAgg182
 z146:=sizeOf182
 v146:=zeroValue182
 g1:=by kernel_rfl }
open Go.RowKit Go.Lib in
theorem aiu(s:ByteArray)(c:UInt8)(w:World):
  Calls prog 89 #[.string s,.string ⟨#[c]⟩] w λe w'=>e =.returned (.int .i64 (Lib.indexByte s.data.toList c))/\w'=w:=Any.stringslite_Index_one E! s c w
def aiN:Go.Shelf.Ren:=⟨fun|144=>29|143=>72|219=>89|217=>118|225=>119|224=>120|267=>121|266=>142|314=>143|n=>n,fun|9=>9|4=>4|3=>3|5=>5|46=>73|146=>182|51=>166|n=>n,fun|1=>0|n=>n⟩
theorem C?:Go.Proofs.Lays.n144 prog aiN:={
 mixed:=by kernel_rfl
 f143:=func72.trans kr
 f144:=func29.trans kr
 f217:=func118.trans kr
 f219:=func89.trans kr
 f224:=func120.trans kr
 f225:=func119.trans kr
 f266:=func142.trans kr
 f267:=func121.trans kr
 f314:=func143.trans kr
 t3:=underlying3
 a3:=isAgg3
 z3:=sizeOf3
 v3:=zeroValue3
 t4:=underlying4
 a4:=isAgg4
 z4:=sizeOf4
 v4:=zeroValue4
 t5:=underlying5
 a5:=isAgg5
 z5:=sizeOf5
 v5:=zeroValue5
 t9:=underlying9
 a9:=isAgg9
 z9:=sizeOf9
 v9:=zeroValue9
 t46:=underlying73
 a46:=isAgg73
 z46:=sizeOf73
 v46:=zeroValue73
 t51:=underlying166
 a51:=isAgg166
 z51:=sizeOf166
 v51:=zeroValue166
 t146:=underlying182
 a146:=isAgg182
 z146:=sizeOf182
 v146:=zeroValue182
 g1:=by kernel_rfl }
open Go.RowKit Go.Lib in
theorem aiv(s:ByteArray)(c:UInt8)(w:World):
  Calls prog 29 #[.string s,.string ⟨#[c]⟩] w λe w'=>e =.returned (.bool (decide (0<=Lib.indexByte s.data.toList c)))/\w'=w:=Any.strings_Contains_one C? s c w
def aiO:Go.Shelf.Ren:=⟨fun|138=>164|195=>186|218=>187|143=>72|219=>89|217=>118|225=>119|224=>120|267=>121|266=>142|314=>143|n=>n,fun|9=>9|3=>3|4=>4|5=>5|0=>0|46=>73|146=>182|51=>166|n=>n,fun|1=>0|n=>n⟩
theorem z!:Go.Proofs.Lays.n138 prog aiO:={
 mixed:=by kernel_rfl
 f138:=func164.trans kr
 f143:=func72.trans kr
 f195:=func186.trans kr
 f217:=func118.trans kr
 f218:=func187.trans kr
 f219:=func89.trans kr
 f224:=func120.trans kr
 f225:=func119.trans kr
 f266:=func142.trans kr
 f267:=func121.trans kr
 f314:=func143.trans kr
 t0:=underlying0
 a0:=isAgg0
 z0:=sizeOf0
 v0:=zeroValue0
 t3:=underlying3
 a3:=isAgg3
 z3:=sizeOf3
 v3:=zeroValue3
 t4:=underlying4
 a4:=isAgg4
 z4:=sizeOf4
 v4:=zeroValue4
 t5:=underlying5
 a5:=isAgg5
 z5:=sizeOf5
 v5:=zeroValue5
 t9:=underlying9
 a9:=isAgg9
 z9:=sizeOf9
 v9:=zeroValue9
 t46:=underlying73
 a46:=isAgg73
 z46:=sizeOf73
 v46:=zeroValue73
 t51:=underlying166
 a51:=isAgg166
 z51:=sizeOf166
 v51:=zeroValue166
 t146:=underlying182
 a146:=isAgg182
 z146:=sizeOf182
 v146:=zeroValue182
 g1:=by kernel_rfl }
open Go.RowKit Go.Lib in
theorem Zd(s:ByteArray)(c:UInt8)(w:World):
  Calls prog 164 #[.string s,.string ⟨#[c]⟩] w λe w'=>e =.returned (.int .i64 (Lib.countByte s.data.toList c))/\w'=w:=Any.strings_Count_one z! s c w
def aiM:Go.Shelf.Ren:=⟨fun|197=>148|260=>166|n=>n,fun|9=>9|21=>21|3=>3|4=>4|5=>5|105=>188|119=>194|0=>0|46=>73|139=>197|138=>196|n=>n,fun|3=>1|4=>2|n=>n⟩
theorem v!:Go.Proofs.Lays.n197 prog aiM:={
 mixed:=by kernel_rfl
 f197:=func148.trans kr
 f260:=func166.trans kr
 t0:=underlying0
 a0:=isAgg0
 z0:=sizeOf0
 v0:=zeroValue0
 t3:=underlying3
 a3:=isAgg3
 z3:=sizeOf3
 v3:=zeroValue3
 t4:=underlying4
 a4:=isAgg4
 z4:=sizeOf4
 v4:=zeroValue4
 t5:=underlying5
 a5:=isAgg5
 z5:=sizeOf5
 v5:=zeroValue5
 t9:=underlying9
 a9:=isAgg9
 z9:=sizeOf9
 v9:=zeroValue9
 t21:=underlying21
 a21:=isAgg21
 z21:=sizeOf21
 v21:=zeroValue21
 t46:=underlying73
 a46:=isAgg73
 z46:=sizeOf73
 v46:=zeroValue73
 t105:=underlying188
 a105:=isAgg188
 z105:=sizeOf188
 v105:=zeroValue188
 t119:=underlying194
 a119:=isAgg194
 z119:=sizeOf194
 t138:=underlying196
 a138:=isAgg196
 z138:=sizeOf196
 v138:=zeroValue196
 t139:=underlying197
 a139:=isAgg197
 z139:=sizeOf197
 v139:=zeroValue197
 g3:=by kernel_rfl
 g4:=by kernel_rfl }
open Go.RowKit Go.Lib in
theorem ait(s:ByteArray)(w:World)(hT:Lib.Utf8Tabs 1 2 w):
  Calls prog 148 #[.string s] w λe w'=>e =.returned (.tuple #[.int .i32 (Lib.decodeGo s).1,.int .i64 (Lib.decodeGo s).2])/\Below w.heap.size w w':=Any.utf8_DecodeRuneInString v! s w hT
def aiR:Go.Shelf.Ren:=⟨fun|196=>169|259=>189|n=>n,fun|9=>9|4=>4|3=>3|5=>5|12=>12|119=>194|0=>0|46=>73|139=>197|138=>196|53=>212|n=>n,fun|3=>1|4=>2|n=>n⟩
theorem x?:Go.Proofs.Lays.n196 prog aiR:={
 mixed:=by kernel_rfl
 f196:=func169.trans kr
 f259:=func189.trans kr
 t0:=underlying0
 a0:=isAgg0
 z0:=sizeOf0
 v0:=zeroValue0
 t3:=underlying3
 a3:=isAgg3
 z3:=sizeOf3
 v3:=zeroValue3
 t4:=underlying4
 a4:=isAgg4
 z4:=sizeOf4
 v4:=zeroValue4
 t5:=underlying5
 a5:=isAgg5
 z5:=sizeOf5
 v5:=zeroValue5
 t9:=underlying9
 a9:=isAgg9
 z9:=sizeOf9
 v9:=zeroValue9
 t12:=underlying12
 a12:=isAgg12
 z12:=sizeOf12
 v12:=zeroValue12
 t46:=underlying73
 a46:=isAgg73
 z46:=sizeOf73
 v46:=zeroValue73
 t53:=underlying212
 a53:=isAgg212
 z53:=sizeOf212
 v53:=zeroValue212
 t119:=underlying194
 a119:=isAgg194
 z119:=sizeOf194
 t138:=underlying196
 a138:=isAgg196
 z138:=sizeOf196
 v138:=zeroValue196
 t139:=underlying197
 a139:=isAgg197
 z139:=sizeOf197
 v139:=zeroValue197
 g3:=by kernel_rfl
 g4:=by kernel_rfl }
open Go.RowKit Go.Lib in
theorem aiA(s:ByteArray)(w:World)(hs:s.size<=9223372036854775807)(hT:Lib.Utf8Tabs 1 2 w):
  Calls prog 169 #[.string s] w λe w'=>e =.returned (.bool (Lib.validD s.data.toList))/\Below w.heap.size w w':=Any.utf8_ValidString x? s w hs hT
