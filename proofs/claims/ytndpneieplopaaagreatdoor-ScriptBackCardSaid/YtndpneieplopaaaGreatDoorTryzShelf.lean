/- Contracts of the library's functions, laid at this program by the kit's tool. -/
import Derived.Shelf.Strings.Builder2
import Derived.Shelf.Strings.OnBuilder
import Derived.Shelf.Small.Wraps
import Derived.Shelf.Strings.BuilderF
import Derived.Shelf.Strings.BuilderK
import Derived.Shelf.Strings.BuilderRune
import Derived.Shelf.Utf8.AppendRunePlain
import Derived.Shelf.Strconv.Atoi
import Derived.Shelf.Strconv.Itoa0
import Derived.Shelf.Strconv.Itoa1
import Derived.Shelf.LaysM
import Derived.Shelf.Strconv.Itoa2
import Derived.Shelf.Strconv.Itoa3
import Derived.Shelf.Strconv.AtoiErrFast
import Derived.Shelf.Strconv.ParseIntEmpty
import Derived.Shelf.Strconv.AtoiFail
import Derived.Shelf.Strconv.Clone
import Derived.Shelf.Strconv.SyntaxError
import Derived.Shelf.LaysC
import Derived.Shelf.Strconv.ToError
import Derived.Shelf.Strconv.Lower
import Derived.Shelf.Strconv.ParseUint10
import Derived.Shelf.Strconv.ParseUint10Empty
import Derived.Shelf.Strconv.ParseUint10Any
import Derived.Shelf.Strconv.ParseInt10
import Derived.Shelf.Strconv.AtoiLong
import Derived.Shelf.Strconv.AtoiInnerAll
import Derived.Shelf.Strconv.RangeError
import Derived.Shelf.Strconv.ToErrorRange
import Derived.Shelf.Strconv.AtoiAll
import Derived.Shelf.Strconv.ErrVarAll
import Derived.Shelf.Strings.Search1
import Derived.Shelf.Strings.Search2
import Derived.Shelf.Strings.Search3
import Derived.Shelf.Strings.Cut
import Derived.Shelf.Strings.Count
import Derived.Shelf.Strings.Shaped
import Derived.Shelf.Strings.Prefix
import Derived.Shelf.Unicode.DecodeSlow
import Derived.Shelf.Unicode.DecodeAny
import Derived.Shelf.Unicode.ValidAny
import Derived.Test.YtndpneieplopaaaGreatDoorProg
import Derived.Shelf.Strings.Builder1
set_option linter.unusedSimpArgs false
set_option linter.unusedVariables false
noncomputable section
namespace Go.Proofs
open Tryz
open Go.Shelf
def apY:Go.Shelf.Ren:=⟨fun|169=>32|n=>n,fun|70=>83|9=>9|0=>0|72=>85|37=>80|127=>128|3=>3|5=>5|n=>n,fun|n=>n⟩
theorem atD:Go.Proofs.Lays.n169 prog apY:={
 mixed:=by kernel_rfl
 f169:=Tryz.func32.trans (congrArg some (by kernel_rfl))
 t0:=Tryz.underlying0
 a0:=Tryz.isAgg0
 z0:=Tryz.sizeOf0
 v0:=Tryz.zeroValue0
 t3:=Tryz.underlying3
 a3:=Tryz.isAgg3
 z3:=Tryz.sizeOf3
 v3:=Tryz.zeroValue3
 t9:=Tryz.underlying9
 a9:=Tryz.isAgg9
 z9:=Tryz.sizeOf9
 v9:=Tryz.zeroValue9
 t37:=Tryz.underlying80
 a37:=Tryz.isAgg80
 z37:=Tryz.sizeOf80
 v37:=Tryz.zeroValue80
 t70:=Tryz.underlying83
 a70:=Tryz.isAgg83
 z70:=Tryz.sizeOf83
 v70:=Tryz.zeroValue83
 t72:=Tryz.underlying85
 a72:=Tryz.isAgg85
 z72:=Tryz.sizeOf85
 v72:=Tryz.zeroValue85
 t127:=Tryz.underlying128
 a127:=Tryz.isAgg128
 z127:=Tryz.sizeOf128
 v127:=Tryz.zeroValue128 }
theorem apX:Builder.Extra prog apY:={
 sizeBuilder:=by kernel_rfl
 liesBuilder:=by kernel_rfl
 t5:=Tryz.underlying5
 a5:=Tryz.isAgg5
 z5:=Tryz.sizeOf5
 v5:=Tryz.zeroValue5
 infoByte:=by kernel_rfl
 cellsByte:=by kernel_rfl
 sizeByte:=by kernel_rfl
 neB5:=by decide }
def gV:Go.Shelf.Ren:=⟨fun|156=>69|165=>103|166=>31|169=>32|240=>76|241=>137|276=>110|277=>154|n=>n,fun|31=>54|9=>9|3=>3|4=>4|0=>0|20=>20|72=>85|76=>89|70=>83|37=>80|75=>88|127=>128|164=>149|5=>5|80=>91|n=>n,fun|n=>n⟩
theorem n6:Go.Proofs.Lays.n156 prog gV:={
 mixed:=by kernel_rfl
 f156:=Tryz.func69.trans (congrArg some (by kernel_rfl))
 f165:=Tryz.func103.trans (congrArg some (by kernel_rfl))
 f166:=Tryz.func31.trans (congrArg some (by kernel_rfl))
 f169:=Tryz.func32.trans (congrArg some (by kernel_rfl))
 f240:=Tryz.func76.trans (congrArg some (by kernel_rfl))
 f241:=Tryz.func137.trans (congrArg some (by kernel_rfl))
 f276:=Tryz.func110.trans (congrArg some (by kernel_rfl))
 f277:=Tryz.func154.trans (congrArg some (by kernel_rfl))
 t0:=Tryz.underlying0
 a0:=Tryz.isAgg0
 z0:=Tryz.sizeOf0
 v0:=Tryz.zeroValue0
 t3:=Tryz.underlying3
 a3:=Tryz.isAgg3
 z3:=Tryz.sizeOf3
 v3:=Tryz.zeroValue3
 t4:=Tryz.underlying4
 a4:=Tryz.isAgg4
 z4:=Tryz.sizeOf4
 v4:=Tryz.zeroValue4
 t9:=Tryz.underlying9
 a9:=Tryz.isAgg9
 z9:=Tryz.sizeOf9
 v9:=Tryz.zeroValue9
 t20:=Tryz.underlying20
 a20:=Tryz.isAgg20
 z20:=Tryz.sizeOf20
 v20:=Tryz.zeroValue20
 t31:=Tryz.underlying54
 a31:=Tryz.isAgg54
 z31:=Tryz.sizeOf54
 v31:=Tryz.zeroValue54
 t37:=Tryz.underlying80
 a37:=Tryz.isAgg80
 z37:=Tryz.sizeOf80
 v37:=Tryz.zeroValue80
 t70:=Tryz.underlying83
 a70:=Tryz.isAgg83
 z70:=Tryz.sizeOf83
 v70:=Tryz.zeroValue83
 t72:=Tryz.underlying85
 a72:=Tryz.isAgg85
 z72:=Tryz.sizeOf85
 v72:=Tryz.zeroValue85
 t75:=Tryz.underlying88
 a75:=Tryz.isAgg88
 z75:=Tryz.sizeOf88
 v75:=Tryz.zeroValue88
 t76:=Tryz.underlying89
 a76:=Tryz.isAgg89
 z76:=Tryz.sizeOf89
 v76:=Tryz.zeroValue89
 t127:=Tryz.underlying128
 a127:=Tryz.isAgg128
 z127:=Tryz.sizeOf128
 v127:=Tryz.zeroValue128
 t164:=Tryz.underlying149
 a164:=Tryz.isAgg149
 z164:=Tryz.sizeOf149
 v164:=Tryz.zeroValue149 }
theorem fV:Builder.Extra prog gV:={
 sizeBuilder:=by kernel_rfl
 liesBuilder:=by kernel_rfl
 t5:=Tryz.underlying5
 a5:=Tryz.isAgg5
 z5:=Tryz.sizeOf5
 v5:=Tryz.zeroValue5
 infoByte:=by kernel_rfl
 cellsByte:=by kernel_rfl
 sizeByte:=by kernel_rfl
 neB5:=by decide }
open Go.RowKit in
theorem gT(a:Option Addr)(c:Nat)(sep:ByteArray)(w:World):
  Calls prog 69 #[.slice a 0 c,.string sep] w λe w'=>e =.returned (.string ⟨#[]⟩)/\w'=w:=Any.strings_Join_none n6 fV a c sep w
open Go.RowKit in
theorem nT(bk o c:Nat)(xs:List ByteArray)(sep:ByteArray)(w:World)(ab6:∀(j:Nat) x,xs[j]?=some x->w.cell? ⟨bk,o+j,none⟩=some (.string x))(hbk:bk<w.heap.size)(hN:xs.length<=140737488355328)(ta:xs.length<=c)(hlen:(Lib.join (xs.map (·.data.toList)) sep.data.toList).length<=140737488355328):
  Calls prog 69 #[.slice (some ⟨bk,o,none⟩) xs.length c,.string sep] w λe w'=>e =.returned (.string ⟨(Lib.join (xs.map (·.data.toList)) sep.data.toList).toArray⟩)/\Below w.heap.size w w':=Any.strings_Join n6 fV bk o c xs sep w ab6 hbk hN ta hlen
def xz:Go.Shelf.Ren:=⟨fun|103=>147|210=>165|206=>188|n=>n,fun|9=>9|4=>4|24=>186|3=>3|n=>n,fun|n=>n⟩
theorem HB:Go.Proofs.Lays.n103 prog xz:={
 mixed:=by kernel_rfl
 f103:=Tryz.func147.trans (congrArg some (by kernel_rfl))
 f206:=Tryz.func188.trans (congrArg some (by kernel_rfl))
 f210:=Tryz.func165.trans (congrArg some (by kernel_rfl))
 t3:=Tryz.underlying3
 a3:=Tryz.isAgg3
 z3:=Tryz.sizeOf3
 v3:=Tryz.zeroValue3
 t4:=Tryz.underlying4
 a4:=Tryz.isAgg4
 z4:=Tryz.sizeOf4
 v4:=Tryz.zeroValue4
 t9:=Tryz.underlying9
 a9:=Tryz.isAgg9
 z9:=Tryz.sizeOf9
 v9:=Tryz.zeroValue9
 t24:=Tryz.underlying186
 a24:=Tryz.isAgg186
 z24:=Tryz.sizeOf186
 v24:=Tryz.zeroValue186 }
open Go.RowKit in
theorem pg(s p:ByteArray)(w:World):
  Calls prog 147 #[.string s,.string p] w λe w'=>e =.returned (.tuple #[.string ⟨(Lib.trimPrefix s.data.toList p.data.toList).toArray⟩,.bool (Lib.hasPrefix s.data.toList p.data.toList)])/\w'=w:=Any.strings_CutPrefix HB s p w
def aq9:Go.Shelf.Ren:=⟨fun|121=>102|214=>136|n=>n,fun|4=>4|9=>9|n=>n,fun|n=>n⟩
theorem att:Go.Proofs.Lays.n121 prog aq9:={
 mixed:=by kernel_rfl
 f121:=Tryz.func102.trans (congrArg some (by kernel_rfl))
 f214:=Tryz.func136.trans (congrArg some (by kernel_rfl))
 t4:=Tryz.underlying4
 a4:=Tryz.isAgg4
 z4:=Tryz.sizeOf4
 v4:=Tryz.zeroValue4
 t9:=Tryz.underlying9
 a9:=Tryz.isAgg9
 z9:=Tryz.sizeOf9
 v9:=Tryz.zeroValue9 }
open Go.RowKit in
theorem apK(b:Bool)(w:World):
  Calls prog 102 #[.bool b] w λe w'=>e =.returned (.string ⟨(Lib.formatBool b).toArray⟩)/\w'=w:=Any.strconv_FormatBool att b w
def tX:Go.Shelf.Ren:=⟨fun|171=>99|243=>131|246=>152|283=>172|284=>173|285=>174|286=>175|129=>192|317=>191|318=>193|319=>194|320=>195|337=>204|338=>205|n=>n,fun|3=>3|9=>9|2=>2|4=>4|171=>213|0=>0|53=>212|37=>80|5=>5|173=>216|212=>240|51=>166|20=>20|213=>241|46=>73|232=>271|233=>272|n=>n,fun|17=>5|18=>6|19=>7|n=>n⟩
theorem D1:Go.Proofs.LaysM.n171 prog tX:={
 mixed:=by kernel_rfl
 f129:=Tryz.func192.trans (congrArg some (by kernel_rfl))
 f171:=Tryz.func99.trans (congrArg some (by kernel_rfl))
 f243:=Tryz.func131.trans (congrArg some (by kernel_rfl))
 f246:=Tryz.func152.trans (congrArg some (by kernel_rfl))
 f283:=Tryz.func172.trans (congrArg some (by kernel_rfl))
 f284:=Tryz.func173.trans (congrArg some (by kernel_rfl))
 f285:=Tryz.func174.trans (congrArg some (by kernel_rfl))
 f286:=Tryz.func175.trans (congrArg some (by kernel_rfl))
 f317:=Tryz.func191.trans (congrArg some (by kernel_rfl))
 f318:=Tryz.func193.trans (congrArg some (by kernel_rfl))
 f319:=Tryz.func194.trans (congrArg some (by kernel_rfl))
 f320:=Tryz.func195.trans (congrArg some (by kernel_rfl))
 f337:=Tryz.func204.trans (congrArg some (by kernel_rfl))
 f338:=Tryz.func205.trans (congrArg some (by kernel_rfl))
 t0:=Tryz.underlying0
 a0:=Tryz.isAgg0
 z0:=Tryz.sizeOf0
 v0:=Tryz.zeroValue0
 t2:=Tryz.underlying2
 a2:=Tryz.isAgg2
 z2:=Tryz.sizeOf2
 v2:=Tryz.zeroValue2
 t3:=Tryz.underlying3
 a3:=Tryz.isAgg3
 z3:=Tryz.sizeOf3
 v3:=Tryz.zeroValue3
 t4:=Tryz.underlying4
 a4:=Tryz.isAgg4
 z4:=Tryz.sizeOf4
 v4:=Tryz.zeroValue4
 t5:=Tryz.underlying5
 a5:=Tryz.isAgg5
 z5:=Tryz.sizeOf5
 v5:=Tryz.zeroValue5
 t9:=Tryz.underlying9
 a9:=Tryz.isAgg9
 z9:=Tryz.sizeOf9
 v9:=Tryz.zeroValue9
 t20:=Tryz.underlying20
 a20:=Tryz.isAgg20
 z20:=Tryz.sizeOf20
 v20:=Tryz.zeroValue20
 t37:=Tryz.underlying80
 a37:=Tryz.isAgg80
 z37:=Tryz.sizeOf80
 v37:=Tryz.zeroValue80
 t46:=Tryz.underlying73
 a46:=Tryz.isAgg73
 z46:=Tryz.sizeOf73
 v46:=Tryz.zeroValue73
 t51:=Tryz.underlying166
 a51:=Tryz.isAgg166
 z51:=Tryz.sizeOf166
 v51:=Tryz.zeroValue166
 t53:=Tryz.underlying212
 a53:=Tryz.isAgg212
 z53:=Tryz.sizeOf212
 v53:=Tryz.zeroValue212
 t171:=Tryz.underlying213
 a171:=Tryz.isAgg213
 z171:=Tryz.sizeOf213
 v171:=Tryz.zeroValue213
 t173:=Tryz.underlying216
 a173:=Tryz.isAgg216
 z173:=Tryz.sizeOf216
 v173:=Tryz.zeroValue216
 t212:=Tryz.underlying240
 a212:=Tryz.isAgg240
 z212:=Tryz.sizeOf240
 v212:=Tryz.zeroValue240
 t213:=Tryz.underlying241
 a213:=Tryz.isAgg241
 z213:=Tryz.sizeOf241
 t232:=Tryz.underlying271
 a232:=Tryz.isAgg271
 z232:=Tryz.sizeOf271
 v232:=Tryz.zeroValue271
 t233:=Tryz.underlying272
 a233:=Tryz.isAgg272
 z233:=Tryz.sizeOf272
 v233:=Tryz.zeroValue272
 g17:=by kernel_rfl
 g18:=by kernel_rfl
 g19:=by kernel_rfl
 i0:=by kernel_rfl
 i2:=by kernel_rfl
 i3:=by kernel_rfl
 i4:=by kernel_rfl
 i5:=by kernel_rfl
 i9:=by kernel_rfl
 i20:=by kernel_rfl
 i37:=by kernel_rfl
 i46:=by kernel_rfl
 i51:=by kernel_rfl
 i53:=by kernel_rfl
 i171:=by kernel_rfl
 i173:=by kernel_rfl
 i212:=by kernel_rfl
 i232:=by kernel_rfl
 i233:=by kernel_rfl
 m17:=by kernel_rfl
 m18:=by kernel_rfl
 m19:=by kernel_rfl }
open Go.RowKit Go.Sort Go.Lib in
theorem uc(n:Int)(h0 : -9223372036854775808<=n)(h1:n<=9223372036854775807)(w:World)(aiJ:Lib.TabIs prog w "internal/strconv.uint64pow10" .u64 Lib.pow10Tab):
  Calls prog 99 #[.int .i64 n] w λe w'=>e =.returned (.string ⟨(Lib.itoa n).toArray⟩)/\∃k os,w'=grow (w.drewN k) os:=Any.strconv_Itoa D1 n h0 h1 w aiJ
def tW:Go.Shelf.Ren:=⟨fun|172=>123|244=>144|245=>145|247=>158|279=>159|280=>160|281=>161|282=>162|287=>183|316=>184|171=>99|205=>185|321=>202|322=>203|243=>131|246=>152|283=>172|284=>173|285=>174|286=>175|129=>192|317=>191|318=>193|319=>194|320=>195|337=>204|338=>205|n=>n,fun|9=>9|3=>3|75=>88|76=>89|4=>4|5=>5|167=>203|37=>80|0=>0|85=>204|2=>2|168=>206|53=>212|175=>232|46=>73|210=>235|127=>128|145=>260|143=>258|21=>21|171=>213|173=>216|212=>240|51=>166|20=>20|213=>241|232=>271|233=>272|80=>91|n=>n,fun|15=>3|16=>4|17=>5|18=>6|19=>7|n=>n⟩
theorem oK:Go.Proofs.LaysC.n172 prog tW:={
 mixed:=by kernel_rfl
 f129:=Tryz.func192.trans (congrArg some (by kernel_rfl))
 f171:=Tryz.func99.trans (congrArg some (by kernel_rfl))
 f172:=Tryz.func123.trans (congrArg some (by kernel_rfl))
 f205:=Tryz.func185.trans (congrArg some (by kernel_rfl))
 f243:=Tryz.func131.trans (congrArg some (by kernel_rfl))
 f244:=Tryz.func144.trans (congrArg some (by kernel_rfl))
 f245:=Tryz.func145.trans (congrArg some (by kernel_rfl))
 f246:=Tryz.func152.trans (congrArg some (by kernel_rfl))
 f247:=Tryz.func158.trans (congrArg some (by kernel_rfl))
 f279:=Tryz.func159.trans (congrArg some (by kernel_rfl))
 f280:=Tryz.func160.trans (congrArg some (by kernel_rfl))
 f281:=Tryz.func161.trans (congrArg some (by kernel_rfl))
 f282:=Tryz.func162.trans (congrArg some (by kernel_rfl))
 f283:=Tryz.func172.trans (congrArg some (by kernel_rfl))
 f284:=Tryz.func173.trans (congrArg some (by kernel_rfl))
 f285:=Tryz.func174.trans (congrArg some (by kernel_rfl))
 f286:=Tryz.func175.trans (congrArg some (by kernel_rfl))
 f287:=Tryz.func183.trans (congrArg some (by kernel_rfl))
 f316:=Tryz.func184.trans (congrArg some (by kernel_rfl))
 f317:=Tryz.func191.trans (congrArg some (by kernel_rfl))
 f318:=Tryz.func193.trans (congrArg some (by kernel_rfl))
 f319:=Tryz.func194.trans (congrArg some (by kernel_rfl))
 f320:=Tryz.func195.trans (congrArg some (by kernel_rfl))
 f321:=Tryz.func202.trans (congrArg some (by kernel_rfl))
 f322:=Tryz.func203.trans (congrArg some (by kernel_rfl))
 f337:=Tryz.func204.trans (congrArg some (by kernel_rfl))
 f338:=Tryz.func205.trans (congrArg some (by kernel_rfl))
 t0:=Tryz.underlying0
 a0:=Tryz.isAgg0
 z0:=Tryz.sizeOf0
 v0:=Tryz.zeroValue0
 t2:=Tryz.underlying2
 a2:=Tryz.isAgg2
 z2:=Tryz.sizeOf2
 v2:=Tryz.zeroValue2
 t3:=Tryz.underlying3
 a3:=Tryz.isAgg3
 z3:=Tryz.sizeOf3
 v3:=Tryz.zeroValue3
 t4:=Tryz.underlying4
 a4:=Tryz.isAgg4
 z4:=Tryz.sizeOf4
 v4:=Tryz.zeroValue4
 t5:=Tryz.underlying5
 a5:=Tryz.isAgg5
 z5:=Tryz.sizeOf5
 v5:=Tryz.zeroValue5
 t9:=Tryz.underlying9
 a9:=Tryz.isAgg9
 z9:=Tryz.sizeOf9
 v9:=Tryz.zeroValue9
 t20:=Tryz.underlying20
 a20:=Tryz.isAgg20
 z20:=Tryz.sizeOf20
 v20:=Tryz.zeroValue20
 t21:=Tryz.underlying21
 a21:=Tryz.isAgg21
 z21:=Tryz.sizeOf21
 v21:=Tryz.zeroValue21
 t37:=Tryz.underlying80
 a37:=Tryz.isAgg80
 z37:=Tryz.sizeOf80
 v37:=Tryz.zeroValue80
 t46:=Tryz.underlying73
 a46:=Tryz.isAgg73
 z46:=Tryz.sizeOf73
 v46:=Tryz.zeroValue73
 t51:=Tryz.underlying166
 a51:=Tryz.isAgg166
 z51:=Tryz.sizeOf166
 v51:=Tryz.zeroValue166
 t53:=Tryz.underlying212
 a53:=Tryz.isAgg212
 z53:=Tryz.sizeOf212
 v53:=Tryz.zeroValue212
 t75:=Tryz.underlying88
 a75:=Tryz.isAgg88
 z75:=Tryz.sizeOf88
 v75:=Tryz.zeroValue88
 t76:=Tryz.underlying89
 a76:=Tryz.isAgg89
 z76:=Tryz.sizeOf89
 v76:=Tryz.zeroValue89
 t85:=Tryz.underlying204
 a85:=Tryz.isAgg204
 z85:=Tryz.sizeOf204
 v85:=Tryz.zeroValue204
 t127:=Tryz.underlying128
 a127:=Tryz.isAgg128
 z127:=Tryz.sizeOf128
 v127:=Tryz.zeroValue128
 t143:=Tryz.underlying258
 a143:=Tryz.isAgg258
 z143:=Tryz.sizeOf258
 v143:=Tryz.zeroValue258
 t145:=Tryz.underlying260
 a145:=Tryz.isAgg260
 z145:=Tryz.sizeOf260
 v145:=Tryz.zeroValue260
 t167:=Tryz.underlying203
 a167:=Tryz.isAgg203
 z167:=Tryz.sizeOf203
 v167:=Tryz.zeroValue203
 t168:=Tryz.underlying206
 a168:=Tryz.isAgg206
 z168:=Tryz.sizeOf206
 v168:=Tryz.zeroValue206
 t171:=Tryz.underlying213
 a171:=Tryz.isAgg213
 z171:=Tryz.sizeOf213
 v171:=Tryz.zeroValue213
 t173:=Tryz.underlying216
 a173:=Tryz.isAgg216
 z173:=Tryz.sizeOf216
 v173:=Tryz.zeroValue216
 t175:=Tryz.underlying232
 a175:=Tryz.isAgg232
 z175:=Tryz.sizeOf232
 v175:=Tryz.zeroValue232
 t210:=Tryz.underlying235
 a210:=Tryz.isAgg235
 z210:=Tryz.sizeOf235
 v210:=Tryz.zeroValue235
 t212:=Tryz.underlying240
 a212:=Tryz.isAgg240
 z212:=Tryz.sizeOf240
 v212:=Tryz.zeroValue240
 t213:=Tryz.underlying241
 a213:=Tryz.isAgg241
 z213:=Tryz.sizeOf241
 t232:=Tryz.underlying271
 a232:=Tryz.isAgg271
 z232:=Tryz.sizeOf271
 v232:=Tryz.zeroValue271
 t233:=Tryz.underlying272
 a233:=Tryz.isAgg272
 z233:=Tryz.sizeOf272
 v233:=Tryz.zeroValue272
 g15:=by kernel_rfl
 g16:=by kernel_rfl
 g17:=by kernel_rfl
 g18:=by kernel_rfl
 g19:=by kernel_rfl
 t80:=Tryz.underlying91
 a80:=Tryz.isAgg91
 z80:=Tryz.sizeOf91
 v80:=Tryz.zeroValue91
 i0:=by kernel_rfl
 i2:=by kernel_rfl
 i3:=by kernel_rfl
 i4:=by kernel_rfl
 i5:=by kernel_rfl
 i9:=by kernel_rfl
 i20:=by kernel_rfl
 i21:=by kernel_rfl
 i37:=by kernel_rfl
 i46:=by kernel_rfl
 i51:=by kernel_rfl
 i53:=by kernel_rfl
 i75:=by kernel_rfl
 i76:=by kernel_rfl
 i80:=by kernel_rfl
 i85:=by kernel_rfl
 i127:=by kernel_rfl
 i143:=by kernel_rfl
 i145:=by kernel_rfl
 i167:=by kernel_rfl
 i168:=by kernel_rfl
 i171:=by kernel_rfl
 i173:=by kernel_rfl
 i175:=by kernel_rfl
 i210:=by kernel_rfl
 i212:=by kernel_rfl
 i232:=by kernel_rfl
 i233:=by kernel_rfl
 m15:=by kernel_rfl
 m16:=by kernel_rfl
 m17:=by kernel_rfl
 m18:=by kernel_rfl
 m19:=by kernel_rfl
 c0:=by kernel_rfl
 c2:=by kernel_rfl
 c3:=by kernel_rfl
 c4:=by kernel_rfl
 c5:=by kernel_rfl
 c9:=by kernel_rfl
 c20:=by kernel_rfl
 c21:=by kernel_rfl
 c37:=by kernel_rfl
 c46:=by kernel_rfl
 c51:=by kernel_rfl
 c53:=by kernel_rfl
 c75:=by kernel_rfl
 c76:=by kernel_rfl
 c80:=by kernel_rfl
 c85:=by kernel_rfl
 c127:=by kernel_rfl
 c143:=by kernel_rfl
 c145:=by kernel_rfl
 c167:=by kernel_rfl
 c168:=by kernel_rfl
 c171:=by kernel_rfl
 c173:=by kernel_rfl
 c175:=by kernel_rfl
 c210:=by kernel_rfl
 c212:=by kernel_rfl
 c213:=by kernel_rfl
 c232:=by kernel_rfl
 c233:=by kernel_rfl }
open Go.RowKit in
theorem qy(s:ByteArray)(N8:s.size<=9223372036854775806)(v:Int)(h:Lib.atoiAll s.data.toList =.ok v)(w:World):
  Calls prog 123 #[.string s] w λe w'=>e =.returned (.tuple #[.int .i64 v,.nilIface])/\(w'=w\/∃t,w'=Lib.bytesWorld w 5 t):=Any.strconv_Atoi_ok oK s N8 v h w
open Go.RowKit in
theorem nK(s:ByteArray)(EN:s.size<=281474976710656)(h:Lib.atoiAll s.data.toList=Lib.atoiAll [])(ev:Value)(w:World)(hv:w.cell? ⟨3,0,none⟩=some ev)(hev:ev =.nilIface\/∃te pe,ev =.iface te pe):
  Calls prog 123 #[.string s] w λe w'=>∃N,e =.returned (.tuple #[.int .i64 (0),.iface 206 (.pointer (some ⟨N,0,none⟩))])/\w.heap.size<=N/\w'.heap[N]?=some (.cells #[.string ⟨#[65,116,111,105]⟩,.string s,ev] 235 (0,0))/\Below w.heap.size w w':=Any.strconv_Atoi_syntax oK s EN h ev w hv hev
open Go.RowKit in
theorem apL(s:ByteArray)(EN:s.size<=281474976710656)(h:Lib.atoiAll s.data.toList =.range)(ev:Value)(w:World)(hv:w.cell? ⟨4,0,none⟩=some ev)(hev:ev =.nilIface\/∃te pe,ev =.iface te pe):
  Calls prog 123 #[.string s] w λe w'=>∃N,e =.returned (.tuple #[.int .i64 (Lib.atoiSat s.data.toList),.iface 206 (.pointer (some ⟨N,0,none⟩))])/\w.heap.size<=N/\w'.heap[N]?=some (.cells #[.string ⟨#[65,116,111,105]⟩,.string s,ev] 235 (0,0))/\Below w.heap.size w w':=Any.strconv_Atoi_range oK s EN h ev w hv hev
def xj:Go.Shelf.Ren:=⟨fun|219=>89|217=>118|225=>119|224=>120|267=>121|266=>142|314=>143|n=>n,fun|9=>9|3=>3|4=>4|5=>5|46=>73|146=>182|51=>166|n=>n,fun|1=>0|n=>n⟩
theorem HU:Go.Proofs.Lays.n219 prog xj:={
 mixed:=by kernel_rfl
 f217:=Tryz.func118.trans (congrArg some (by kernel_rfl))
 f219:=Tryz.func89.trans (congrArg some (by kernel_rfl))
 f224:=Tryz.func120.trans (congrArg some (by kernel_rfl))
 f225:=Tryz.func119.trans (congrArg some (by kernel_rfl))
 f266:=Tryz.func142.trans (congrArg some (by kernel_rfl))
 f267:=Tryz.func121.trans (congrArg some (by kernel_rfl))
 f314:=Tryz.func143.trans (congrArg some (by kernel_rfl))
 t3:=Tryz.underlying3
 a3:=Tryz.isAgg3
 z3:=Tryz.sizeOf3
 v3:=Tryz.zeroValue3
 t4:=Tryz.underlying4
 a4:=Tryz.isAgg4
 z4:=Tryz.sizeOf4
 v4:=Tryz.zeroValue4
 t5:=Tryz.underlying5
 a5:=Tryz.isAgg5
 z5:=Tryz.sizeOf5
 v5:=Tryz.zeroValue5
 t9:=Tryz.underlying9
 a9:=Tryz.isAgg9
 z9:=Tryz.sizeOf9
 v9:=Tryz.zeroValue9
 t46:=Tryz.underlying73
 a46:=Tryz.isAgg73
 z46:=Tryz.sizeOf73
 v46:=Tryz.zeroValue73
 t51:=Tryz.underlying166
 a51:=Tryz.isAgg166
 z51:=Tryz.sizeOf166
 v51:=Tryz.zeroValue166
 t146:=Tryz.underlying182
 a146:=Tryz.isAgg182
 z146:=Tryz.sizeOf182
 v146:=Tryz.zeroValue182
 g1:=by kernel_rfl }
open Go.RowKit Go.Lib in
theorem mH(s:ByteArray)(c:UInt8)(w:World):
  Calls prog 89 #[.string s,.string ⟨#[c]⟩] w λe w'=>e =.returned (.int .i64 (Lib.indexByte s.data.toList c))/\w'=w:=Any.stringslite_Index_one HU s c w
def ari:Go.Shelf.Ren:=⟨fun|144=>29|143=>72|219=>89|217=>118|225=>119|224=>120|267=>121|266=>142|314=>143|n=>n,fun|9=>9|4=>4|3=>3|5=>5|46=>73|146=>182|51=>166|n=>n,fun|1=>0|n=>n⟩
theorem auc:Go.Proofs.Lays.n144 prog ari:={
 mixed:=by kernel_rfl
 f143:=Tryz.func72.trans (congrArg some (by kernel_rfl))
 f144:=Tryz.func29.trans (congrArg some (by kernel_rfl))
 f217:=Tryz.func118.trans (congrArg some (by kernel_rfl))
 f219:=Tryz.func89.trans (congrArg some (by kernel_rfl))
 f224:=Tryz.func120.trans (congrArg some (by kernel_rfl))
 f225:=Tryz.func119.trans (congrArg some (by kernel_rfl))
 f266:=Tryz.func142.trans (congrArg some (by kernel_rfl))
 f267:=Tryz.func121.trans (congrArg some (by kernel_rfl))
 f314:=Tryz.func143.trans (congrArg some (by kernel_rfl))
 t3:=Tryz.underlying3
 a3:=Tryz.isAgg3
 z3:=Tryz.sizeOf3
 v3:=Tryz.zeroValue3
 t4:=Tryz.underlying4
 a4:=Tryz.isAgg4
 z4:=Tryz.sizeOf4
 v4:=Tryz.zeroValue4
 t5:=Tryz.underlying5
 a5:=Tryz.isAgg5
 z5:=Tryz.sizeOf5
 v5:=Tryz.zeroValue5
 t9:=Tryz.underlying9
 a9:=Tryz.isAgg9
 z9:=Tryz.sizeOf9
 v9:=Tryz.zeroValue9
 t46:=Tryz.underlying73
 a46:=Tryz.isAgg73
 z46:=Tryz.sizeOf73
 v46:=Tryz.zeroValue73
 t51:=Tryz.underlying166
 a51:=Tryz.isAgg166
 z51:=Tryz.sizeOf166
 v51:=Tryz.zeroValue166
 t146:=Tryz.underlying182
 a146:=Tryz.isAgg182
 z146:=Tryz.sizeOf182
 v146:=Tryz.zeroValue182
 g1:=by kernel_rfl }
open Go.RowKit Go.Lib in
theorem apB(s:ByteArray)(c:UInt8)(w:World):
  Calls prog 29 #[.string s,.string ⟨#[c]⟩] w λe w'=>e =.returned (.bool (decide (0<=Lib.indexByte s.data.toList c)))/\w'=w:=Any.strings_Contains_one auc s c w
def wy:Go.Shelf.Ren:=⟨fun|138=>164|195=>186|218=>187|143=>72|219=>89|217=>118|225=>119|224=>120|267=>121|266=>142|314=>143|n=>n,fun|9=>9|3=>3|4=>4|5=>5|0=>0|46=>73|146=>182|51=>166|n=>n,fun|1=>0|n=>n⟩
theorem H_:Go.Proofs.Lays.n138 prog wy:={
 mixed:=by kernel_rfl
 f138:=Tryz.func164.trans (congrArg some (by kernel_rfl))
 f143:=Tryz.func72.trans (congrArg some (by kernel_rfl))
 f195:=Tryz.func186.trans (congrArg some (by kernel_rfl))
 f217:=Tryz.func118.trans (congrArg some (by kernel_rfl))
 f218:=Tryz.func187.trans (congrArg some (by kernel_rfl))
 f219:=Tryz.func89.trans (congrArg some (by kernel_rfl))
 f224:=Tryz.func120.trans (congrArg some (by kernel_rfl))
 f225:=Tryz.func119.trans (congrArg some (by kernel_rfl))
 f266:=Tryz.func142.trans (congrArg some (by kernel_rfl))
 f267:=Tryz.func121.trans (congrArg some (by kernel_rfl))
 f314:=Tryz.func143.trans (congrArg some (by kernel_rfl))
 t0:=Tryz.underlying0
 a0:=Tryz.isAgg0
 z0:=Tryz.sizeOf0
 v0:=Tryz.zeroValue0
 t3:=Tryz.underlying3
 a3:=Tryz.isAgg3
 z3:=Tryz.sizeOf3
 v3:=Tryz.zeroValue3
 t4:=Tryz.underlying4
 a4:=Tryz.isAgg4
 z4:=Tryz.sizeOf4
 v4:=Tryz.zeroValue4
 t5:=Tryz.underlying5
 a5:=Tryz.isAgg5
 z5:=Tryz.sizeOf5
 v5:=Tryz.zeroValue5
 t9:=Tryz.underlying9
 a9:=Tryz.isAgg9
 z9:=Tryz.sizeOf9
 v9:=Tryz.zeroValue9
 t46:=Tryz.underlying73
 a46:=Tryz.isAgg73
 z46:=Tryz.sizeOf73
 v46:=Tryz.zeroValue73
 t51:=Tryz.underlying166
 a51:=Tryz.isAgg166
 z51:=Tryz.sizeOf166
 v51:=Tryz.zeroValue166
 t146:=Tryz.underlying182
 a146:=Tryz.isAgg182
 z146:=Tryz.sizeOf182
 v146:=Tryz.zeroValue182
 g1:=by kernel_rfl }
open Go.RowKit Go.Lib in
theorem o8(s:ByteArray)(c:UInt8)(w:World):
  Calls prog 164 #[.string s,.string ⟨#[c]⟩] w λe w'=>e =.returned (.int .i64 (Lib.countByte s.data.toList c))/\w'=w:=Any.strings_Count_one H_ s c w
def uX:Go.Shelf.Ren:=⟨fun|197=>148|260=>166|n=>n,fun|9=>9|21=>21|3=>3|4=>4|5=>5|105=>188|119=>194|0=>0|46=>73|139=>197|138=>196|n=>n,fun|3=>1|4=>2|n=>n⟩
theorem Hj:Go.Proofs.Lays.n197 prog uX:={
 mixed:=by kernel_rfl
 f197:=Tryz.func148.trans (congrArg some (by kernel_rfl))
 f260:=Tryz.func166.trans (congrArg some (by kernel_rfl))
 t0:=Tryz.underlying0
 a0:=Tryz.isAgg0
 z0:=Tryz.sizeOf0
 v0:=Tryz.zeroValue0
 t3:=Tryz.underlying3
 a3:=Tryz.isAgg3
 z3:=Tryz.sizeOf3
 v3:=Tryz.zeroValue3
 t4:=Tryz.underlying4
 a4:=Tryz.isAgg4
 z4:=Tryz.sizeOf4
 v4:=Tryz.zeroValue4
 t5:=Tryz.underlying5
 a5:=Tryz.isAgg5
 z5:=Tryz.sizeOf5
 v5:=Tryz.zeroValue5
 t9:=Tryz.underlying9
 a9:=Tryz.isAgg9
 z9:=Tryz.sizeOf9
 v9:=Tryz.zeroValue9
 t21:=Tryz.underlying21
 a21:=Tryz.isAgg21
 z21:=Tryz.sizeOf21
 v21:=Tryz.zeroValue21
 t46:=Tryz.underlying73
 a46:=Tryz.isAgg73
 z46:=Tryz.sizeOf73
 v46:=Tryz.zeroValue73
 t105:=Tryz.underlying188
 a105:=Tryz.isAgg188
 z105:=Tryz.sizeOf188
 v105:=Tryz.zeroValue188
 t119:=Tryz.underlying194
 a119:=Tryz.isAgg194
 z119:=Tryz.sizeOf194
 t138:=Tryz.underlying196
 a138:=Tryz.isAgg196
 z138:=Tryz.sizeOf196
 v138:=Tryz.zeroValue196
 t139:=Tryz.underlying197
 a139:=Tryz.isAgg197
 z139:=Tryz.sizeOf197
 v139:=Tryz.zeroValue197
 g3:=by kernel_rfl
 g4:=by kernel_rfl }
open Go.RowKit Go.Lib in
theorem lK(s:ByteArray)(w:World)(hT:Lib.Utf8Tabs 1 2 w):
  Calls prog 148 #[.string s] w λe w'=>e =.returned (.tuple #[.int .i32 (Lib.decodeGo s).1,.int .i64 (Lib.decodeGo s).2])/\Below w.heap.size w w':=Any.utf8_DecodeRuneInString Hj s w hT
def vU:Go.Shelf.Ren:=⟨fun|196=>169|259=>189|n=>n,fun|9=>9|4=>4|3=>3|5=>5|12=>12|119=>194|0=>0|46=>73|139=>197|138=>196|53=>212|n=>n,fun|3=>1|4=>2|n=>n⟩
theorem Ie:Go.Proofs.Lays.n196 prog vU:={
 mixed:=by kernel_rfl
 f196:=Tryz.func169.trans (congrArg some (by kernel_rfl))
 f259:=Tryz.func189.trans (congrArg some (by kernel_rfl))
 t0:=Tryz.underlying0
 a0:=Tryz.isAgg0
 z0:=Tryz.sizeOf0
 v0:=Tryz.zeroValue0
 t3:=Tryz.underlying3
 a3:=Tryz.isAgg3
 z3:=Tryz.sizeOf3
 v3:=Tryz.zeroValue3
 t4:=Tryz.underlying4
 a4:=Tryz.isAgg4
 z4:=Tryz.sizeOf4
 v4:=Tryz.zeroValue4
 t5:=Tryz.underlying5
 a5:=Tryz.isAgg5
 z5:=Tryz.sizeOf5
 v5:=Tryz.zeroValue5
 t9:=Tryz.underlying9
 a9:=Tryz.isAgg9
 z9:=Tryz.sizeOf9
 v9:=Tryz.zeroValue9
 t12:=Tryz.underlying12
 a12:=Tryz.isAgg12
 z12:=Tryz.sizeOf12
 v12:=Tryz.zeroValue12
 t46:=Tryz.underlying73
 a46:=Tryz.isAgg73
 z46:=Tryz.sizeOf73
 v46:=Tryz.zeroValue73
 t53:=Tryz.underlying212
 a53:=Tryz.isAgg212
 z53:=Tryz.sizeOf212
 v53:=Tryz.zeroValue212
 t119:=Tryz.underlying194
 a119:=Tryz.isAgg194
 z119:=Tryz.sizeOf194
 t138:=Tryz.underlying196
 a138:=Tryz.isAgg196
 z138:=Tryz.sizeOf196
 v138:=Tryz.zeroValue196
 t139:=Tryz.underlying197
 a139:=Tryz.isAgg197
 z139:=Tryz.sizeOf197
 v139:=Tryz.zeroValue197
 g3:=by kernel_rfl
 g4:=by kernel_rfl }
open Go.RowKit Go.Lib in
theorem pS(s:ByteArray)(w:World)(hs:s.size<=9223372036854775807)(hT:Lib.Utf8Tabs 1 2 w):
  Calls prog 169 #[.string s] w λe w'=>e =.returned (.bool (Lib.validD s.data.toList))/\Below w.heap.size w w':=Any.utf8_ValidString Ie s w hs hT
