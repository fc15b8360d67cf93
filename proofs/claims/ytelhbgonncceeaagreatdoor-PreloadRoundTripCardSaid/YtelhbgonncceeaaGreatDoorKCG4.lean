/-
  Parts of the proof, merged by a program of the prover's own; no condition.
-/
import Derived.Test.YtelhbgonncceeaaGreatDoorKCG3
import Derived.Lib.TrimUEq
import Derived.Lib.ValidLaws
import Derived.Shelf.LaysM
import Derived.Shelf.Small.Strs
import Derived.Shelf.Spec.SlicesInsert
import Derived.Shelf.Spec.SlicesInsertGrow
import Derived.Shelf.Spec.TrailingZeros
import Derived.Shelf.Strconv.Itoa3
import Derived.Shelf.Strings.Count
import Derived.Shelf.Strings.Cut
import Derived.Shelf.Strings.IndexAnyAll
import Derived.Shelf.Strings.LastIndex
import Derived.Shelf.Strings.OnBuilder
import Derived.Shelf.Strings.Search3
import Derived.Shelf.Unicode.ValidAny
import Derived.Shelf.Utf8.RuneCount
import Derived.Test.YtelhbgonncceeaaGreatDoorProg
namespace Go.Proofs
open Go.Shelf
def Tryz.lays156_ren:Go.Shelf.Ren:=⟨fun | 156=>119 | 165=>162 | 166=>70 | 169=>72 | 240=>104 | 241=>187 | 276=>147 | 277=>196 | n=>n,fun | 31=>83 | 9=>9 | 3=>3 | 4=>4 | 0=>0 | 20=>20 | 72=>112 | 76=>115 | 70=>109 | 37=>110 | 75=>114 | 127=>142 | 164=>172 | 5=>5 | 80=>118 | n=>n,fun | n=>n⟩
theorem Tryz.lays156:Go.Proofs.Lays.n156 Tryz.prog Tryz.lays156_ren:={
 mixed:=by kernel_rfl
 f156:=Tryz.func119.trans (congrArg some (by kernel_rfl))
 f165:=Tryz.func162.trans (congrArg some (by kernel_rfl))
 f166:=Tryz.func70.trans (congrArg some (by kernel_rfl))
 f169:=Tryz.func72.trans (congrArg some (by kernel_rfl))
 f240:=Tryz.func104.trans (congrArg some (by kernel_rfl))
 f241:=Tryz.func187.trans (congrArg some (by kernel_rfl))
 f276:=Tryz.func147.trans (congrArg some (by kernel_rfl))
 f277:=Tryz.func196.trans (congrArg some (by kernel_rfl))
 t0:=Tryz.underlying0
 a0:=Tryz.isAgg0
 z0:=Tryz.sizeOf0
 v0:=Tryz.zeroValue0
 t3:=Tryz.underlying3
 a3:=Tryz.isAgg3
 z3:=Tryz.sizeOf3
 v3:=Tryz.zeroValue3
 t4:=Tryz.underlying4
 a4:=Tryz.isAgg4
 z4:=Tryz.sizeOf4
 v4:=Tryz.zeroValue4
 t9:=Tryz.underlying9
 a9:=Tryz.isAgg9
 z9:=Tryz.sizeOf9
 v9:=Tryz.zeroValue9
 t20:=Tryz.underlying20
 a20:=Tryz.isAgg20
 z20:=Tryz.sizeOf20
 v20:=Tryz.zeroValue20
 t31:=Tryz.underlying83
 a31:=Tryz.isAgg83
 z31:=Tryz.sizeOf83
 v31:=Tryz.zeroValue83
 t37:=Tryz.underlying110
 a37:=Tryz.isAgg110
 z37:=Tryz.sizeOf110
 v37:=Tryz.zeroValue110
 t70:=Tryz.underlying109
 a70:=Tryz.isAgg109
 z70:=Tryz.sizeOf109
 v70:=Tryz.zeroValue109
 t72:=Tryz.underlying112
 a72:=Tryz.isAgg112
 z72:=Tryz.sizeOf112
 v72:=Tryz.zeroValue112
 t75:=Tryz.underlying114
 a75:=Tryz.isAgg114
 z75:=Tryz.sizeOf114
 v75:=Tryz.zeroValue114
 t76:=Tryz.underlying115
 a76:=Tryz.isAgg115
 z76:=Tryz.sizeOf115
 v76:=Tryz.zeroValue115
 t127:=Tryz.underlying142
 a127:=Tryz.isAgg142
 z127:=Tryz.sizeOf142
 v127:=Tryz.zeroValue142
 t164:=Tryz.underlying172
 a164:=Tryz.isAgg172
 z164:=Tryz.sizeOf172
 v164:=Tryz.zeroValue172 }
theorem Tryz.Builder_Extra_156:Builder.Extra Tryz.prog Tryz.lays156_ren:={
 sizeBuilder:=by kernel_rfl
 liesBuilder:=by kernel_rfl
 t5:=Tryz.underlying5
 a5:=Tryz.isAgg5
 z5:=Tryz.sizeOf5
 v5:=Tryz.zeroValue5
 infoByte:=by kernel_rfl
 cellsByte:=by kernel_rfl
 sizeByte:=by kernel_rfl
 neB5:=by decide }
def Tryz.lays195_ren:Go.Shelf.Ren:=⟨fun | 195=>160 | n=>n,fun | 9=>9 | 3=>3 | 0=>0 | 4=>4 | n=>n,fun | n=>n⟩
theorem Tryz.lays195:Go.Proofs.Lays.n195 Tryz.prog Tryz.lays195_ren:={
 mixed:=by kernel_rfl
 f195:=Tryz.func160.trans (congrArg some (by kernel_rfl))
 t0:=Tryz.underlying0
 a0:=Tryz.isAgg0
 z0:=Tryz.sizeOf0
 v0:=Tryz.zeroValue0
 t3:=Tryz.underlying3
 a3:=Tryz.isAgg3
 z3:=Tryz.sizeOf3
 v3:=Tryz.zeroValue3
 t4:=Tryz.underlying4
 a4:=Tryz.isAgg4
 z4:=Tryz.sizeOf4
 v4:=Tryz.zeroValue4
 t9:=Tryz.underlying9
 a9:=Tryz.isAgg9
 z9:=Tryz.sizeOf9
 v9:=Tryz.zeroValue9 }
def Tryz.laysM171_ren:Go.Shelf.Ren:=⟨fun | 171=>200 | 243=>205 | 246=>207 | 283=>209 | 284=>210 | 285=>211 | 286=>212 | 129=>141 | 317=>213 | 318=>214 | 319=>215 | 320=>216 | 337=>217 | 338=>218 | n=>n,fun | 3=>3 | 9=>9 | 2=>2 | 4=>4 | 171=>212 | 0=>0 | 53=>168 | 37=>110 | 5=>5 | 173=>214 | 212=>217 | 51=>24 | 20=>20 | 213=>218 | 46=>139 | 232=>219 | 233=>220 | n=>n,fun | 17=>3 | 18=>4 | 19=>5 | n=>n⟩
theorem Tryz.laysM171:Go.Proofs.LaysM.n171 Tryz.prog Tryz.laysM171_ren:={
 mixed:=by kernel_rfl
 f129:=Tryz.func141.trans (congrArg some (by kernel_rfl))
 f171:=Tryz.func200.trans (congrArg some (by kernel_rfl))
 f243:=Tryz.func205.trans (congrArg some (by kernel_rfl))
 f246:=Tryz.func207.trans (congrArg some (by kernel_rfl))
 f283:=Tryz.func209.trans (congrArg some (by kernel_rfl))
 f284:=Tryz.func210.trans (congrArg some (by kernel_rfl))
 f285:=Tryz.func211.trans (congrArg some (by kernel_rfl))
 f286:=Tryz.func212.trans (congrArg some (by kernel_rfl))
 f317:=Tryz.func213.trans (congrArg some (by kernel_rfl))
 f318:=Tryz.func214.trans (congrArg some (by kernel_rfl))
 f319:=Tryz.func215.trans (congrArg some (by kernel_rfl))
 f320:=Tryz.func216.trans (congrArg some (by kernel_rfl))
 f337:=Tryz.func217.trans (congrArg some (by kernel_rfl))
 f338:=Tryz.func218.trans (congrArg some (by kernel_rfl))
 t0:=Tryz.underlying0
 a0:=Tryz.isAgg0
 z0:=Tryz.sizeOf0
 v0:=Tryz.zeroValue0
 t2:=Tryz.underlying2
 a2:=Tryz.isAgg2
 z2:=Tryz.sizeOf2
 v2:=Tryz.zeroValue2
 t3:=Tryz.underlying3
 a3:=Tryz.isAgg3
 z3:=Tryz.sizeOf3
 v3:=Tryz.zeroValue3
 t4:=Tryz.underlying4
 a4:=Tryz.isAgg4
 z4:=Tryz.sizeOf4
 v4:=Tryz.zeroValue4
 t5:=Tryz.underlying5
 a5:=Tryz.isAgg5
 z5:=Tryz.sizeOf5
 v5:=Tryz.zeroValue5
 t9:=Tryz.underlying9
 a9:=Tryz.isAgg9
 z9:=Tryz.sizeOf9
 v9:=Tryz.zeroValue9
 t20:=Tryz.underlying20
 a20:=Tryz.isAgg20
 z20:=Tryz.sizeOf20
 v20:=Tryz.zeroValue20
 t37:=Tryz.underlying110
 a37:=Tryz.isAgg110
 z37:=Tryz.sizeOf110
 v37:=Tryz.zeroValue110
 t46:=Tryz.underlying139
 a46:=Tryz.isAgg139
 z46:=Tryz.sizeOf139
 v46:=Tryz.zeroValue139
 t51:=Tryz.underlying24
 a51:=Tryz.isAgg24
 z51:=Tryz.sizeOf24
 v51:=Tryz.zeroValue24
 t53:=Tryz.underlying168
 a53:=Tryz.isAgg168
 z53:=Tryz.sizeOf168
 v53:=Tryz.zeroValue168
 t171:=Tryz.underlying212
 a171:=Tryz.isAgg212
 z171:=Tryz.sizeOf212
 v171:=Tryz.zeroValue212
 t173:=Tryz.underlying214
 a173:=Tryz.isAgg214
 z173:=Tryz.sizeOf214
 v173:=Tryz.zeroValue214
 t212:=Tryz.underlying217
 a212:=Tryz.isAgg217
 z212:=Tryz.sizeOf217
 v212:=Tryz.zeroValue217
 t213:=Tryz.underlying218
 a213:=Tryz.isAgg218
 z213:=Tryz.sizeOf218
 t232:=Tryz.underlying219
 a232:=Tryz.isAgg219
 z232:=Tryz.sizeOf219
 v232:=Tryz.zeroValue219
 t233:=Tryz.underlying220
 a233:=Tryz.isAgg220
 z233:=Tryz.sizeOf220
 v233:=Tryz.zeroValue220
 g17:=by kernel_rfl
 g18:=by kernel_rfl
 g19:=by kernel_rfl
 i0:=by kernel_rfl
 i2:=by kernel_rfl
 i3:=by kernel_rfl
 i4:=by kernel_rfl
 i5:=by kernel_rfl
 i9:=by kernel_rfl
 i20:=by kernel_rfl
 i37:=by kernel_rfl
 i46:=by kernel_rfl
 i51:=by kernel_rfl
 i53:=by kernel_rfl
 i171:=by kernel_rfl
 i173:=by kernel_rfl
 i212:=by kernel_rfl
 i232:=by kernel_rfl
 i233:=by kernel_rfl
 m17:=by kernel_rfl
 m18:=by kernel_rfl
 m19:=by kernel_rfl }
def Tryz.lays143_ren:Go.Shelf.Ren:=⟨fun | 143=>108 | 219=>109 | 217=>150 | 225=>151 | 224=>152 | 267=>153 | 266=>177 | 314=>178 | n=>n,fun | 9=>9 | 3=>3 | 4=>4 | 5=>5 | 46=>139 | 146=>192 | 51=>24 | n=>n,fun | 1=>0 | n=>n⟩
theorem Tryz.lays143:Go.Proofs.Lays.n143 Tryz.prog Tryz.lays143_ren:={
 mixed:=by kernel_rfl
 f143:=Tryz.func108.trans (congrArg some (by kernel_rfl))
 f217:=Tryz.func150.trans (congrArg some (by kernel_rfl))
 f219:=Tryz.func109.trans (congrArg some (by kernel_rfl))
 f224:=Tryz.func152.trans (congrArg some (by kernel_rfl))
 f225:=Tryz.func151.trans (congrArg some (by kernel_rfl))
 f266:=Tryz.func177.trans (congrArg some (by kernel_rfl))
 f267:=Tryz.func153.trans (congrArg some (by kernel_rfl))
 f314:=Tryz.func178.trans (congrArg some (by kernel_rfl))
 t3:=Tryz.underlying3
 a3:=Tryz.isAgg3
 z3:=Tryz.sizeOf3
 v3:=Tryz.zeroValue3
 t4:=Tryz.underlying4
 a4:=Tryz.isAgg4
 z4:=Tryz.sizeOf4
 v4:=Tryz.zeroValue4
 t5:=Tryz.underlying5
 a5:=Tryz.isAgg5
 z5:=Tryz.sizeOf5
 v5:=Tryz.zeroValue5
 t9:=Tryz.underlying9
 a9:=Tryz.isAgg9
 z9:=Tryz.sizeOf9
 v9:=Tryz.zeroValue9
 t46:=Tryz.underlying139
 a46:=Tryz.isAgg139
 z46:=Tryz.sizeOf139
 v46:=Tryz.zeroValue139
 t51:=Tryz.underlying24
 a51:=Tryz.isAgg24
 z51:=Tryz.sizeOf24
 v51:=Tryz.zeroValue24
 t146:=Tryz.underlying192
 a146:=Tryz.isAgg192
 z146:=Tryz.sizeOf192
 v146:=Tryz.zeroValue192
 g1:=by kernel_rfl }
def Tryz.lays145_ren:Go.Shelf.Ren:=⟨fun | 145=>50 | 220=>82 | 219=>109 | 217=>150 | 225=>151 | 224=>152 | 267=>153 | 266=>177 | 314=>178 | n=>n,fun | 9=>9 | 4=>4 | 59=>91 | 3=>3 | 5=>5 | 46=>139 | 146=>192 | 51=>24 | n=>n,fun | 1=>0 | n=>n⟩
theorem Tryz.lays145:Go.Proofs.Lays.n145 Tryz.prog Tryz.lays145_ren:={
 mixed:=by kernel_rfl
 f145:=Tryz.func50.trans (congrArg some (by kernel_rfl))
 f217:=Tryz.func150.trans (congrArg some (by kernel_rfl))
 f219:=Tryz.func109.trans (congrArg some (by kernel_rfl))
 f220:=Tryz.func82.trans (congrArg some (by kernel_rfl))
 f224:=Tryz.func152.trans (congrArg some (by kernel_rfl))
 f225:=Tryz.func151.trans (congrArg some (by kernel_rfl))
 f266:=Tryz.func177.trans (congrArg some (by kernel_rfl))
 f267:=Tryz.func153.trans (congrArg some (by kernel_rfl))
 f314:=Tryz.func178.trans (congrArg some (by kernel_rfl))
 t3:=Tryz.underlying3
 a3:=Tryz.isAgg3
 z3:=Tryz.sizeOf3
 v3:=Tryz.zeroValue3
 t4:=Tryz.underlying4
 a4:=Tryz.isAgg4
 z4:=Tryz.sizeOf4
 v4:=Tryz.zeroValue4
 t5:=Tryz.underlying5
 a5:=Tryz.isAgg5
 z5:=Tryz.sizeOf5
 v5:=Tryz.zeroValue5
 t9:=Tryz.underlying9
 a9:=Tryz.isAgg9
 z9:=Tryz.sizeOf9
 v9:=Tryz.zeroValue9
 t46:=Tryz.underlying139
 a46:=Tryz.isAgg139
 z46:=Tryz.sizeOf139
 v46:=Tryz.zeroValue139
 t51:=Tryz.underlying24
 a51:=Tryz.isAgg24
 z51:=Tryz.sizeOf24
 v51:=Tryz.zeroValue24
 t59:=Tryz.underlying91
 a59:=Tryz.isAgg91
 z59:=Tryz.sizeOf91
 v59:=Tryz.zeroValue91
 t146:=Tryz.underlying192
 a146:=Tryz.isAgg192
 z146:=Tryz.sizeOf192
 v146:=Tryz.zeroValue192
 g1:=by kernel_rfl }
def Tryz.lays138_ren:Go.Shelf.Ren:=⟨fun | 138=>182 | 195=>160 | 218=>193 | 143=>108 | 219=>109 | 217=>150 | 225=>151 | 224=>152 | 267=>153 | 266=>177 | 314=>178 | n=>n,fun | 9=>9 | 3=>3 | 4=>4 | 5=>5 | 0=>0 | 46=>139 | 146=>192 | 51=>24 | n=>n,fun | 1=>0 | n=>n⟩
theorem Tryz.lays138:Go.Proofs.Lays.n138 Tryz.prog Tryz.lays138_ren:={
 mixed:=by kernel_rfl
 f138:=Tryz.func182.trans (congrArg some (by kernel_rfl))
 f143:=Tryz.func108.trans (congrArg some (by kernel_rfl))
 f195:=Tryz.func160.trans (congrArg some (by kernel_rfl))
 f217:=Tryz.func150.trans (congrArg some (by kernel_rfl))
 f218:=Tryz.func193.trans (congrArg some (by kernel_rfl))
 f219:=Tryz.func109.trans (congrArg some (by kernel_rfl))
 f224:=Tryz.func152.trans (congrArg some (by kernel_rfl))
 f225:=Tryz.func151.trans (congrArg some (by kernel_rfl))
 f266:=Tryz.func177.trans (congrArg some (by kernel_rfl))
 f267:=Tryz.func153.trans (congrArg some (by kernel_rfl))
 f314:=Tryz.func178.trans (congrArg some (by kernel_rfl))
 t0:=Tryz.underlying0
 a0:=Tryz.isAgg0
 z0:=Tryz.sizeOf0
 v0:=Tryz.zeroValue0
 t3:=Tryz.underlying3
 a3:=Tryz.isAgg3
 z3:=Tryz.sizeOf3
 v3:=Tryz.zeroValue3
 t4:=Tryz.underlying4
 a4:=Tryz.isAgg4
 z4:=Tryz.sizeOf4
 v4:=Tryz.zeroValue4
 t5:=Tryz.underlying5
 a5:=Tryz.isAgg5
 z5:=Tryz.sizeOf5
 v5:=Tryz.zeroValue5
 t9:=Tryz.underlying9
 a9:=Tryz.isAgg9
 z9:=Tryz.sizeOf9
 v9:=Tryz.zeroValue9
 t46:=Tryz.underlying139
 a46:=Tryz.isAgg139
 z46:=Tryz.sizeOf139
 v46:=Tryz.zeroValue139
 t51:=Tryz.underlying24
 a51:=Tryz.isAgg24
 z51:=Tryz.sizeOf24
 v51:=Tryz.zeroValue24
 t146:=Tryz.underlying192
 a146:=Tryz.isAgg192
 z146:=Tryz.sizeOf192
 v146:=Tryz.zeroValue192
 g1:=by kernel_rfl }
def Tryz.lays196_ren:Go.Shelf.Ren:=⟨fun | 196=>159 | 259=>183 | n=>n,fun | 9=>9 | 4=>4 | 3=>3 | 5=>5 | 12=>12 | 119=>188 | 0=>0 | 46=>139 | 139=>191 | 138=>190 | 53=>168 | n=>n,fun | 3=>1 | 4=>2 | n=>n⟩
theorem Tryz.lays196:Go.Proofs.Lays.n196 Tryz.prog Tryz.lays196_ren:={
 mixed:=by kernel_rfl
 f196:=Tryz.func159.trans (congrArg some (by kernel_rfl))
 f259:=Tryz.func183.trans (congrArg some (by kernel_rfl))
 t0:=Tryz.underlying0
 a0:=Tryz.isAgg0
 z0:=Tryz.sizeOf0
 v0:=Tryz.zeroValue0
 t3:=Tryz.underlying3
 a3:=Tryz.isAgg3
 z3:=Tryz.sizeOf3
 v3:=Tryz.zeroValue3
 t4:=Tryz.underlying4
 a4:=Tryz.isAgg4
 z4:=Tryz.sizeOf4
 v4:=Tryz.zeroValue4
 t5:=Tryz.underlying5
 a5:=Tryz.isAgg5
 z5:=Tryz.sizeOf5
 v5:=Tryz.zeroValue5
 t9:=Tryz.underlying9
 a9:=Tryz.isAgg9
 z9:=Tryz.sizeOf9
 v9:=Tryz.zeroValue9
 t12:=Tryz.underlying12
 a12:=Tryz.isAgg12
 z12:=Tryz.sizeOf12
 v12:=Tryz.zeroValue12
 t46:=Tryz.underlying139
 a46:=Tryz.isAgg139
 z46:=Tryz.sizeOf139
 v46:=Tryz.zeroValue139
 t53:=Tryz.underlying168
 a53:=Tryz.isAgg168
 z53:=Tryz.sizeOf168
 v53:=Tryz.zeroValue168
 t119:=Tryz.underlying188
 a119:=Tryz.isAgg188
 z119:=Tryz.sizeOf188
 t138:=Tryz.underlying190
 a138:=Tryz.isAgg190
 z138:=Tryz.sizeOf190
 v138:=Tryz.zeroValue190
 t139:=Tryz.underlying191
 a139:=Tryz.isAgg191
 z139:=Tryz.sizeOf191
 v139:=Tryz.zeroValue191
 g3:=by kernel_rfl
 g4:=by kernel_rfl }
def Tryz.lays2_21_ren:Go.Shelf.Ren:=⟨fun | 21=>199 | 27=>203 | 28=>204 | 35=>206 | 39=>208 | n=>n,fun | 22=>153 | 3=>3 | 4=>4 | 0=>0 | n=>n,fun | n=>n⟩
theorem Tryz.lays2_21:Go.Proofs.Lays2.n21 Tryz.prog Tryz.lays2_21_ren:={
 mixed:=by kernel_rfl
 f21:=Tryz.func199.trans (congrArg some (by kernel_rfl))
 f27:=Tryz.func203.trans (congrArg some (by kernel_rfl))
 f28:=Tryz.func204.trans (congrArg some (by kernel_rfl))
 f35:=Tryz.func206.trans (congrArg some (by kernel_rfl))
 f39:=Tryz.func208.trans (congrArg some (by kernel_rfl))
 t0:=Tryz.underlying0
 a0:=Tryz.isAgg0
 z0:=Tryz.sizeOf0
 v0:=Tryz.zeroValue0
 t3:=Tryz.underlying3
 a3:=Tryz.isAgg3
 z3:=Tryz.sizeOf3
 v3:=Tryz.zeroValue3
 t4:=Tryz.underlying4
 a4:=Tryz.isAgg4
 z4:=Tryz.sizeOf4
 v4:=Tryz.zeroValue4
 t22:=Tryz.underlying153
 a22:=Tryz.isAgg153
 z22:=Tryz.sizeOf153
 v22:=Tryz.zeroValue153
 i3:=by kernel_rfl }
def Tryz.lays149_ren:Go.Shelf.Ren:=⟨fun | 149=>97 | 222=>142 | n=>n,fun | 9=>9 | 5=>5 | 3=>3 | 4=>4 | n=>n,fun | n=>n⟩
theorem Tryz.lays149:Go.Proofs.Lays.n149 Tryz.prog Tryz.lays149_ren:={
 mixed:=by kernel_rfl
 f149:=Tryz.func97.trans (congrArg some (by kernel_rfl))
 f222:=Tryz.func142.trans (congrArg some (by kernel_rfl))
 t3:=Tryz.underlying3
 a3:=Tryz.isAgg3
 z3:=Tryz.sizeOf3
 v3:=Tryz.zeroValue3
 t4:=Tryz.underlying4
 a4:=Tryz.isAgg4
 z4:=Tryz.sizeOf4
 v4:=Tryz.zeroValue4
 t5:=Tryz.underlying5
 a5:=Tryz.isAgg5
 z5:=Tryz.sizeOf5
 v5:=Tryz.zeroValue5
 t9:=Tryz.underlying9
 a9:=Tryz.isAgg9
 z9:=Tryz.sizeOf9
 v9:=Tryz.zeroValue9 }
end Go.Proofs
namespace Go.Proofs.YtelhbgonncceeaaGreatDoor.E
set_option linter.all false
section
open Go Go.Proofs Go.Sort
set_option maxRecDepth 100000
theorem OC {C:Cfg} {St:Nat->Prop} {w:World} {g:Nat} {k:IntKind} {zs:List Int} (hG:GOK C St w) (hc:C.G=GX) (h:GX.tab g=some (k,zs)):∃ e x,w.heap[g]? = some (.cells (zs.map λz=>Value.int k z).toArray e x):=(hG.1 g k zs (by rw [hc];exact h)).2
theorem Ah5 {C:Cfg} {St:Nat->Prop} {w:World} (hG:GOK C St w) (hc:C.G=GX):∃ m,w.cell? ⟨0,0,none⟩=some (.int .i64 m):=(hG.2 _ (by rw [hc];rfl)).2
theorem EH {w:World} {g:Nat} {zs:List Int} {k:IntKind} {e:TypeId} {x} (h:w.heap[g]? = some (.cells (zs.map λz=>Value.int k z).toArray e x)) (i:Nat) (hi:i<zs.length):w.cell? ⟨g,i,none⟩=some (.int k (zs.getD i 0)):=by
 simp [World.cell?,h,List.getD_eq_getElem?_getD,List.getElem?_eq_getElem hi]
theorem Au6 {C:Cfg} {St:Nat->Prop} {w:World} (hG:GOK C St w) (hc:C.G=GX):Lib.Utf8Tabs 1 2 w:=by
 obtain ⟨e1,x1,h1⟩:=OC (g:=1) (k:=.u8) (zs:=Lib.firstTab) hG hc rfl
 obtain ⟨e2,x2,h2⟩:=OC (g:=2) (k:=.u8) (zs:=Ce) hG hc rfl
 refine ⟨λc hc=>?_,λi hi=>⟨?_,?_⟩⟩
 ·rw [EH h1 c (by simp [Lib.firstTab];omega)]
  simp [Lib.firstTab,List.getD_eq_getElem?_getD,List.getElem?_eq_getElem,hc]
 ·rw [EH h2 (2*i) (by simp [Ce];omega)]
  have:2*i<32:=by omega
  simp [Ce,List.getD_eq_getElem?_getD,this]
 ·rw [EH h2 (2*i+1) (by simp [Ce];omega)]
  have:2*i+1<32:=by omega
  have e:(2*i+1) / 2=i:=by omega
  have e2:¬ (2*i+1) % 2=0:=by omega
  simp [Ce,List.getD_eq_getElem?_getD,this,e,e2]
theorem A97 {C:Cfg} {St:Nat->Prop} {w:World} (hG:GOK C St w) (hc:C.G=GX):Lib.TabIs Tryz.prog w "internal/strconv.uint64pow10" .u64 Lib.pow10Tab:=by
 obtain ⟨e1,x1,h1⟩:=OC (g:=3) (k:=.u64) (zs:=Lib.pow10Tab) hG hc rfl
 unfold Lib.TabIs World.var?
 rw [show Tryz.prog.globalNamed "internal/strconv.uint64pow10" = some 3 by kernel_rfl]
 simp only [Option.bind_some,h1]
theorem SU:A7 Tryz.prog GX 108 Tp:=by
 refine A7.fix (pf:=CY) _ (K2 (fn:=Tryz.f108) (by kernel_rfl) (by kernel_rfl) (by kernel_rfl) ?_)
 intro args ret Hc h
 unfold CY at h
 split at h
 ·rename_i s p
  obtain ⟨h0,h⟩:=C6 h
  obtain ⟨rfl,rfl⟩:=G1 h
  refine ⟨rfl,rfl,λC hP hCG Γ w Vs hG hlt hc=>?_⟩
  obtain ⟨U,V,rfl,hu,hv⟩:=hc.arr2
  obtain ⟨s',rfl,rfl⟩:=hu.inv_str
  obtain ⟨p',rfl,rfl⟩:=hv.inv_str
  obtain ⟨m,hm⟩:=Ah5 hG hCG
  have hs:=M9 h0
  refine (Any.strings_Index Tryz.lays143 s' p' m w (by simp at hs;omega) hm).mono ?_
  rintro e w' ⟨rfl,rfl⟩
  exact ⟨_,rfl,RowKit.Below.refl _ _,VP.mk_int _ _⟩
 ·cases h
theorem GG:A7 Tryz.prog GX 50 Kk:=by
 refine A7.fix (pf:=CX) _ (K2 (fn:=Tryz.f50) (by kernel_rfl) (by kernel_rfl) (by kernel_rfl) ?_)
 intro args ret Hc h
 unfold CX at h
 split at h
 ·rename_i s p
  obtain ⟨h0,h⟩:=C6 h
  obtain ⟨rfl,rfl⟩:=G1 h
  refine ⟨rfl,rfl,λC hP hCG Γ w Vs hG hlt hc=>?_⟩
  obtain ⟨U,V,rfl,hu,hv⟩:=hc.arr2
  obtain ⟨s',rfl,rfl⟩:=hu.inv_str
  obtain ⟨p',rfl,rfl⟩:=hv.inv_str
  obtain ⟨m,hm⟩:=Ah5 hG hCG
  have hs:=M9 h0
  refine (Any.strings_Cut Tryz.lays145 s' p' m w (by simp at hs;omega) hm).mono ?_
  rintro e w' ⟨rfl,n,rfl⟩
  exact ⟨_,rfl,Qx _ _,VP.mk_tup3 (VP.mk_str _) (VP.mk_str _) (VP.mk_bool _)⟩
 ·cases h
theorem Aq5:A7 Tryz.prog GX 182 ME:=by
 refine A7.fix (pf:=CW) _ (K2 (fn:=Tryz.f182) (by kernel_rfl) (by kernel_rfl) (by kernel_rfl) ?_)
 intro args ret Hc h
 unfold CW at h
 split at h
 ·rename_i s p
  obtain ⟨h0,h⟩:=C6 h
  obtain ⟨rfl,rfl⟩:=G1 h
  refine ⟨rfl,rfl,λC hP hCG Γ w Vs hG hlt hc=>?_⟩
  obtain ⟨U,V,rfl,hu,hv⟩:=hc.arr2
  obtain ⟨s',rfl,rfl⟩:=hu.inv_str
  obtain ⟨p',rfl,hp⟩:=hv.inv_str
  obtain ⟨c,rfl⟩:∃ c,p=[c]:=by
   match p,h0 with
   | [c],_=>exact ⟨c,rfl⟩
  have hp':p'=⟨#[c]⟩:=by
   cases p' with
   | mk d=>congr 1;exact Array.toList_inj.1 hp
  subst hp'
  refine (Any.strings_Count_one Tryz.lays138 s' c w).mono ?_
  rintro e w' ⟨rfl,rfl⟩
  exact ⟨_,rfl,RowKit.Below.refl _ _,VP.mk_int _ _⟩
 ·cases h
theorem Be6:A7 Tryz.prog GX 200 Aa9:=by
 refine A7.fix (pf:=BM) _ (K2 (fn:=Tryz.f200) (by kernel_rfl) (by kernel_rfl) (by kernel_rfl) ?_)
 intro args ret Hc h
 unfold BM at h
 split at h
 ·rename_i n
  obtain ⟨h0,h⟩:=C6 h
  obtain ⟨rfl,rfl⟩:=G1 h
  refine ⟨rfl,rfl,λC hP hCG Γ w Vs hG hlt hc=>?_⟩
  obtain ⟨U,rfl,hu⟩:=hc.arr1
  obtain rfl:=hu.inv_int
  obtain ⟨hb0,hb1⟩:=O5.1 h0
  refine (Any.strconv_Itoa Tryz.laysM171 n (by omega) (by omega) w (A97 hG hCG)).mono ?_
  rintro e w' ⟨rfl,k,os,rfl⟩
  refine ⟨_,rfl,(Qx w k).trans (show RowKit.Below w.heap.size _ _ from MO (w.drewN k) os),?_⟩
  have:Lib.itoa n=Lib.decDigits n.toNat:=by unfold Lib.itoa;rw [R7]
  rw [this]
  exact VP.mk_str _
 ·cases h
theorem VB {l:LL} (h:l.all isS=true):l=D3 (l.map elS):=by
 unfold D3
 rw [List.map_map]
 symm
 rw [List.map_congr_left (g:=id)]
 ·simp
 ·intro x hx
  have:=List.all_eq_true.1 h x hx
  unfold isS at this
  split at this
  ·rfl
  grind
theorem VQ:A7 Tryz.prog GX 119 DA:=by
 refine A7.fix (pf:=Tq) _ (K2 (fn:=Tryz.f119) (by kernel_rfl) (by kernel_rfl) (by kernel_rfl) ?_)
 intro args ret Hc h
 unfold Tq at h
 split at h
 ·rename_i z t l p
  obtain ⟨h0,h⟩:=C6 h
  obtain ⟨h1,h⟩:=C6 h
  obtain ⟨h2,h⟩:=C6 h
  obtain ⟨rfl,rfl⟩:=G1 h
  refine ⟨rfl,rfl,λC hP hCG Γ w Vs hG hlt hc=>?_⟩
  obtain ⟨U,V,rfl,hu,hv⟩:=hc.arr2
  obtain ⟨p',rfl,rfl⟩:=hv.inv_str
  have hlen:=M9 h1
  have hn:=M9 h2
  have hs:=hu.inv_s
  have none':∀ (a:Option Addr) (cap:Nat),l=[]->Calls Tryz.prog 119 #[.slice a 0 cap,.string p'] w λe w'=>∃ V,e = .returned V/\RowKit.Below w.heap.size w w'/\VP Γ (A0 []) w' (.s (.str (Lib.join (l.map elS) p'.data.toList))) V:=by
   intro a cap hl
   subst hl
   refine (Any.strings_Join_none Tryz.lays156 Tryz.Builder_Extra_156 a cap p' w).mono ?_
   rintro e w' ⟨rfl,rfl⟩
   exact ⟨_,rfl,RowKit.Below.refl _ _,VP.mk_str _⟩
  cases hs with
  | nil=>exact none' _ _ rfl
  | emp=>exact none' _ _ rfl
  | sl _ _ g off n cap sz Vc hn' hcap hm ht hg hl' hcl hvl=>
   subst hn'
   have hrow:=VB h0
   have hsz:∀ i (h:i<l.length),∃ b:ByteArray,(l[i])=[SV.str b.data.toList]/\w.cell? ⟨g,off+i,none⟩=some (.string b):=by
    intro i hi
    have hx:=List.all_eq_true.1 h0 (l[i]) (List.getElem_mem hi)
    unfold isS at hx
    split at hx
    ·rename_i x he
     have hc1:=hcl i hi 0 (by rw [he];simp)
     have hv1:=hvl i hi 0 (by rw [he];simp)
     simp only [he,List.getElem_cons_zero] at hv1
     obtain ⟨b,hb,rfl⟩:=hv1.inv_str
     rw [hb] at hc1
     exact ⟨b,he,by simpa using hc1⟩
    ·cases hx
   obtain ⟨xs,hxs,hcx⟩:∃ xs:List ByteArray,xs.map (·.data.toList)=l.map elS/\∀ (j:Nat) x,xs[j]? = some x->w.cell? ⟨g,off+j,none⟩=some (.string x):=by
    refine ⟨(l.map elS).map λs=>⟨s.toArray⟩,by simp [Function.comp_def],?_⟩
    intro j x hx
    simp only [List.getElem?_map] at hx
    cases hj:l[j]? with
    | none=>simp [hj] at hx
    | some el=>
     obtain ⟨hj1,rfl⟩:=List.getElem?_eq_some_iff.1 hj
     obtain ⟨b,hb,hc2⟩:=hsz j hj1
     simp only [hj,Option.map_some,Option.some.injEq] at hx
     rw [hb] at hx
     simp [elS,SV.gS] at hx
     rw [<-hx]
     exact hc2
   have hll:xs.length=l.length:=by
    have:=congrArg List.length hxs
    simpa using this
   rw [<-hxs] at hlen ⊢
   have hb:g<w.heap.size:=hlt g hg
   have hmx:l.length<=140737488355328:=by omega
   refine (hll ▸ Any.strings_Join Tryz.lays156 Tryz.Builder_Extra_156 g off cap xs p' w hcx hb (by omega) (by omega) (by omega)).mono ?_
   rintro e w' ⟨rfl,hw⟩
   exact ⟨_,rfl,hw,VP.mk_str _⟩
 ·cases h
end
section
open Go Go.Proofs
def v6V (s:By):PV:=.tup [.agg [.s (.int .u16 (v6c 0 s)),.s (.int .u16 (v6c 1 s)),.s (.int .u16 (v6c 2 s)),.s (.int .u16 (v6c 3 s)),.s (.int .u16 (v6c 4 s)),.s (.int .u16 (v6c 5 s)),.s (.int .u16 (v6c 6 s)),.s (.int .u16 (v6c 7 s))],.s (.bool (v6B s).isSome)]
theorem Bd5 (s:By) (h0:A2 s.length=true):∃ r H,v6p LF s (λr0 r1 r2 r3 r4 r5 r6 r7 r8 l9 l10=>rv (.tup [.agg [.s (.int .u16 r0),.s (.int .u16 r1),.s (.int .u16 r2),.s (.int .u16 r3),.s (.int .u16 r4),.s (.int .u16 r5),.s (.int .u16 r6),.s (.int .u16 r7)],.s (.bool r8)]) [.arr false 26 1 l9,.arr false 26 1 l10])=rv r H/\r.stab [0,0] H=v6V s:=by
 obtain ⟨l,l',e⟩:=Ao4 (k0:=(λr0 r1 r2 r3 r4 r5 r6 r7 r8 l9 l10=>rv (.tup [.agg [.s (.int .u16 r0),.s (.int .u16 r1),.s (.int .u16 r2),.s (.int .u16 r3),.s (.int .u16 r4),.s (.int .u16 r5),.s (.int .u16 r6),.s (.int .u16 r7)],.s (.bool r8)]) [.arr false 26 1 l9,.arr false 26 1 l10])) s h0
 exact ⟨_,_,e,rfl⟩
set_option maxRecDepth 100000
section
variable {σ R : Type} (lf : Nat) (cl : E1) (yh : Yh σ) (s : σ) (k : Out -> St σ -> Option R)
noncomputable abbrev HL:Code:=F0 Tryz.f85
noncomputable def Cg (lf:Nat):Cfg:=D2 lf [85] (A3 [(16,[2,0,4,41,0,0])]) [(112,BH),(113,TB),(114,LP),(115,DD),(93,Ep),(116,Ab9),(117,Oq),(118,LU),(119,DA)] (A3 [(28,[2,0]),(25,[2,0]),(27,[2,0]),(26,[2,10,64]),(24,[2,10,59]),(23,[2,10]),(22,[2,5,41,0,0]),(21,[2,5,41,0,0]),(20,[2,0]),(19,[2,5,0,1,0,37,0,0,10]),(18,[2,5,0,1,0,37,0,0]),(17,[2,5,0,0,39,0,0]),(16,[2,5,41,0,0,0]),(15,[2,5,41,0,0]),(14,[2,5]),(13,[2,0]),(12,[2,0]),(11,[2,3,37]),(10,[2,3,0]),(9,[2,1,32]),(8,[2,1]),(7,[2,0]),(6,[2,1,27]),(5,[2,1,0]),(2,[2,0]),(4,[2,0]),(3,[0,1,16]),(1,[0,1,11]),(0,[0,1])]) [112,114,115,93,116,118,119] (A3 [(3,[2,10]),(1,[2,5]),(2,[2,5,41,0,0]),(0,[0,1])]) (some [2,0]) [] [] []
noncomputable def N5 {R:Type} (lf n:Nat) (l_m0:Nat) (n1 n2:Int) (l3:LL) (k0:Int->LL->Option R) (k1:Nat->LL->Option R):Option R:=match n with | 0=>none | n+1=>cond (ltI n2 n1) (cond (inR n2 l_m0) (cond (okE Iu l3 (0+(Int.toNat n2)) 0) (vl (gX l3 (0+(Int.toNat n2)) 0) λs'33=>cond (A2 s'33.length) (vl (↑((N2 s'33)).2:Int) λn'35=>cond (n'35 != 0) (k0 n'35 l3) (cond (inR n2 l_m0) (cond (decide ((0+(Int.toNat n2))<l3.length)) (vl (List.set l3 (0+(Int.toNat n2)) (E7 (List.getD l3 (0+(Int.toNat n2)) []) 0 [(SV.str ((N2 s'33)).1)])) λl'36=>N5 lf n l_m0 n1 (A4 (n2+1)) l'36 k0 k1) none) none)) none) none) none) (k1 l_m0 l3)
theorem EI (n:Nat) (l_m0:Nat) (n1 n2:Int) (l3:LL):G9 2 ((Cg lf).keep 16) (bd (Cg lf) cl yh (cd [1,1,1,1,1,1,1,0,1,0,0] HL)) n ⟨gp [(2,.ptr 0 0 0),(5,.vw 1 0 l_m0),(41,.vw 1 0 l_m0),(0,pI n1),(0,pI n2)] 31,[.box [pI (0:Int),pS ([]:List UInt8),p32 (0:Int),p16 (0:Int),p16 (0:Int),p16 (0:Int),p16 (0:Int),p16 (0:Int),p16 (0:Int),p16 (0:Int),p16 (0:Int)],.arr false 9 1 l3],s⟩ k =
 N5 lf n l_m0 n1 n2 l3 (λn0 l1=>k .ret ⟨gp [(2,.ptr 0 0 0),(0,pI n0)] 80,[.box [pI (0:Int),pS ([]:List UInt8),p32 (0:Int),p16 (0:Int),p16 (0:Int),p16 (0:Int),p16 (0:Int),p16 (0:Int),p16 (0:Int),p16 (0:Int),p16 (0:Int)],.arr false 9 1 l1],s⟩) (λl_m0 l1=>k (.exit 1) ⟨gp [(2,.ptr 0 0 0),(5,.vw 1 0 l_m0)] 75,[.box [pI (0:Int),pS ([]:List UInt8),p32 (0:Int),p16 (0:Int),p16 (0:Int),p16 (0:Int),p16 (0:Int),p16 (0:Int),p16 (0:Int),p16 (0:Int),p16 (0:Int)],.arr false 9 1 l1],s⟩):=by
 induction n generalizing l_m0 n1 n2 l3 with
 | zero=>rfl
 | succ n ih=>rw [N5];simp only [<-ih];kernel_rfl
noncomputable def Px {R:Type} (lf:Nat) (raw0:By) (k0:Int->By->Int->Int->Int->Int->Int->Int->Int->Int->Int->Int->Int->By->Int->Int->Int->Int->Int->Int->Int->Int->Int->Option R) (k1:Int->By->Int->Int->By->LL->Option R):Option R:=cond (ltI 1024 (raw0.length:Int)) (k0 0 ([]:List UInt8) 0 0 0 0 0 0 0 0 0 3 0 ([]:List UInt8) 0 0 0 0 0 0 0 0 0) (cond (A2 raw0.length) (cond (List.isPrefixOf ([91]:List UInt8) raw0) (cond (A2 raw0.length) (cond (Ai7 raw0) (vl (↑(F5.kind ((M0 raw0)).1):Int) λn'12=>vl (F5.name ((M0 raw0)).1) λs'13=>vl (↑(F5.v4 ((M0 raw0)).1):Int) λn'14=>vl (↑(List.getD (F5.v6 ((M0 raw0)).1) 0 0):Int) λn'15=>vl (↑(List.getD (F5.v6 ((M0 raw0)).1) 1 0):Int) λn'16=>vl (↑(List.getD (F5.v6 ((M0 raw0)).1) 2 0):Int) λn'17=>vl (↑(List.getD (F5.v6 ((M0 raw0)).1) 3 0):Int) λn'18=>vl (↑(List.getD (F5.v6 ((M0 raw0)).1) 4 0):Int) λn'19=>vl (↑(List.getD (F5.v6 ((M0 raw0)).1) 5 0):Int) λn'20=>vl (↑(List.getD (F5.v6 ((M0 raw0)).1) 6 0):Int) λn'21=>vl (↑(List.getD (F5.v6 ((M0 raw0)).1) 7 0):Int) λn'22=>vl (↑((M0 raw0)).2:Int) λn'23=>k0 n'12 s'13 n'14 n'15 n'16 n'17 n'18 n'19 n'20 n'21 n'22 n'23 n'12 s'13 n'14 n'15 n'16 n'17 n'18 n'19 n'20 n'21 n'22) none) none) (cond (A2 raw0.length) (cond (not (Option.isSome (T4 raw0))) (k0 0 ([]:List UInt8) 0 0 0 0 0 0 0 0 0 14 0 ([]:List UInt8) 0 0 0 0 0 0 0 0 0) (cond (A2 (List.length (QJ raw0))) (vl (GA (QJ raw0) ([46]:List UInt8)) λs'25=>cond (A2 s'25.length) (cond (I1 s'25) (cond (A2 s'25.length) (vl (↑(X6 (pnB s'25)):Int) λn'29=>cond (not (Option.isSome (pnB s'25))) (k0 0 ([]:List UInt8) 0 0 0 0 0 0 0 0 0 14 0 ([]:List UInt8) 0 0 0 0 0 0 0 0 0) (k0 2 ([]:List UInt8) n'29 0 0 0 0 0 0 0 0 0 2 ([]:List UInt8) n'29 0 0 0 0 0 0 0 0)) none) (cond (A2 s'25.length) (cond (1==1) (vl (D3 (pcs (List.getD ([46]:List UInt8) 0 0) s'25)) λl'31=>N5 lf lf (List.length (pcs (List.getD ([46]:List UInt8) 0 0) s'25)) (↑(List.length (pcs (List.getD ([46]:List UInt8) 0 0) s'25)):Int) 0 l'31 (λn'37 l'38=>k1 0 ([]:List UInt8) n'37 0 ([]:List UInt8) l'38) (λl_m'39 l'40=>cond (List.all (List.take l_m'39 (List.drop 0 l'40)) isS) (cond (A2 (List.length (Lib.join (List.map elS (List.take l_m'39 (List.drop 0 l'40))) ([46]:List UInt8)))) (cond (A2 (List.length (List.take l_m'39 (List.drop 0 l'40)))) (vl (Lib.join (List.map elS (List.take l_m'39 (List.drop 0 l'40))) ([46]:List UInt8)) λs'42=>cond (ltI 253 (s'42.length:Int)) (k1 0 ([]:List UInt8) 3 0 ([]:List UInt8) l'40) (cond (A2 s'42.length) (cond (I1 s'42) (k1 0 ([]:List UInt8) 14 0 ([]:List UInt8) l'40) (k1 1 s'42 0 1 s'42 l'40)) none)) none) none) none)) none) none)) none) none)) none)) none)
theorem WX (d:Nat) (raw0):evC (Cg lf) (d+1) σ yh 85 [pS raw0] [] s=Px lf raw0 (λr0 r1 r2 r3 r4 r5 r6 r7 r8 r9 r10 r11 n12 s13 n14 n15 n16 n17 n18 n19 n20 n21 n22=>some (.tup [.agg [pI r0,pS r1,p32 r2,p16 r3,p16 r4,p16 r5,p16 r6,p16 r7,p16 r8,p16 r9,p16 r10],pI r11],[.box [pI n12,pS s13,p32 n14,p16 n15,p16 n16,p16 n17,p16 n18,p16 n19,p16 n20,p16 n21,p16 n22]],s)) (λr0 r1 r2 n3 s4 l5=>some (.tup [.agg [pI r0,pS r1,p32 (0:Int),p16 (0:Int),p16 (0:Int),p16 (0:Int),p16 (0:Int),p16 (0:Int),p16 (0:Int),p16 (0:Int),p16 (0:Int)],pI r2],[.box [pI n3,pS s4,p32 (0:Int),p16 (0:Int),p16 (0:Int),p16 (0:Int),p16 (0:Int),p16 (0:Int),p16 (0:Int),p16 (0:Int),p16 (0:Int)],.arr false 9 1 l5],s)):=by
 refine (evE (fn:=Tryz.f85) (by kernel_rfl)).trans ?_
 generalize evC (Cg lf) d=cl
 unfold Px;exact (Eq.trans (by kernel_rfl) (A1 rfl (A1 (A1 (A1 (A1 (C2 λn'12=>(C2 λs'13=>(C2 λn'14=>(C2 λn'15=>(C2 λn'16=>(C2 λn'17=>(C2 λn'18=>(C2 λn'19=>(C2 λn'20=>(C2 λn'21=>(C2 λn'22=>(C2 λn'23=>rfl)))))))))))) rfl) rfl) (A1 (A1 rfl (A1 (C2 λs'25=>(A1 (A1 (A1 (C2 λn'29=>(A1 rfl rfl)) rfl) (A1 (A1 (C2 λl'31=>((EI lf cl yh s (M3 1 (N1 (Cg lf) cl yh (cd [1,1,1,1,1,1,1,1] HL) (K9 (Cg lf) Tryz.f85))) lf (List.length (pcs (List.getD ([46]:List UInt8) 0 0) s'25)) (↑(List.length (pcs (List.getD ([46]:List UInt8) 0 0) s'25)):Int) 0 l'31).trans (by kernel_rfl))) rfl) rfl)) rfl)) rfl)) rfl)) rfl)))
noncomputable abbrev TN:Code:=F0 Tryz.f131
noncomputable def Fu (lf:Nat):Cfg:=D2 lf [131] (A3 [(6,[0,1,0,1,10,0,0])]) [(170,Ab8),(161,MA)] (A3 [(13,[2]),(12,[0,3,0,2]),(11,[0,2,1,10,0,0]),(10,[0,2,1,10,0,0]),(9,[2]),(8,[0,2,1,1,8,0,0,8]),(7,[0,2,1,1,8,0,0]),(6,[0,2,1,10,0,0,0]),(5,[0,2,1,10,0,0]),(4,[0,2,1]),(3,[2]),(2,[0,2,11]),(1,[0,2,0]),(0,[0])]) [161] (A3 [(0,[0,2,1]),(1,[0,2,1,10,0,0])]) (some [2]) [] [] []
noncomputable def Q2 {R:Type} (lf n:Nat) (s0:By) (points_z1:Bool) (points2:LL) (basic3:Bool) (n4 n5:Int) (k0:Unit->Option R) (k1:By->Bool->LL->Bool->Option R):Option R:=match n with | 0=>none | n+1=>cond (ltI n5 n4) (cond (inR n5 points2.length) (cond (okE RZ points2 (Int.toNat n5) 0) (vl (gE points2 (Int.toNat n5) 0) λn'1=>cond (not (ltI n'1 65)) (cond (not (ltI 90 n'1)) (k0 ()) (cond basic3 (Q2 lf n s0 points_z1 points2 (ltI n'1 128) n4 (A4 (n5+1)) k0 k1) (Q2 lf n s0 points_z1 points2 false n4 (A4 (n5+1)) k0 k1))) (cond basic3 (Q2 lf n s0 points_z1 points2 (ltI n'1 128) n4 (A4 (n5+1)) k0 k1) (Q2 lf n s0 points_z1 points2 false n4 (A4 (n5+1)) k0 k1))) none) none) (k1 s0 points_z1 points2 basic3)
theorem JO (n s0 points_z1 points2 basic3 n4 n5):G9 0 ((Fu lf).keep 6) (bd (Fu lf) cl yh (cd [1,1,1,1,0,1,0,0] TN)) n ⟨gp [(0,pS s0),(2,.s (.sl points_z1 points_z1 1 points2)),(1,pB basic3),(10,.s (.sl points_z1 points_z1 1 points2)),(0,pI n4),(0,pI n5)] 31,[],s⟩ k =
 Q2 lf n s0 points_z1 points2 basic3 n4 n5 (λ_=>k .ret ⟨gp [(2,pB false)] 47,[],s⟩) (λs0 points_z1 points2 basic3=>k (.exit 0) ⟨gp [(0,pS s0),(2,.s (.sl points_z1 points_z1 1 points2)),(1,pB basic3)] 44,[],s⟩):=by
 induction n generalizing s0 points_z1 points2 basic3 n4 n5 with
 | zero=>rfl
 | succ n ih=>rw [Q2];simp only [<-ih];kernel_rfl
noncomputable def UF {R:Type} (lf:Nat) (s0:By) (k0:Bool->Option R):Option R:=cond (A2 s0.length) (cond ((↑((R0 s0)).2:Int) != 0) (k0 false) (Q2 lf lf s0 (List.isEmpty ((R0 s0)).1) (PT ((R0 s0)).1) true (↑(List.length (PT ((R0 s0)).1)):Int) 0 (λ_=>k0 false) (λs'2 points_z'3 points'4 basic'5=>cond (List.all points'4 Ro) (vl ((Dc (List.map elI points'4))).1 λs'8=>vl (↑((Dc (List.map elI points'4))).2:Int) λn'9=>cond (not basic'5) (cond (n'9==0) (k0 (s'8==s'2)) (k0 false)) (k0 false)) none))) none
theorem Aj8 (d:Nat) (s0):evC (Fu lf) (d+1) σ yh 131 [pS s0] [] s=UF lf s0 (λr0=>some (pB r0,[],s)):=by
 refine (evE (fn:=Tryz.f131) (by kernel_rfl)).trans ?_
 generalize evC (Fu lf) d=cl
 unfold UF;exact (Eq.trans (by kernel_rfl) (A1 (A1 rfl ((JO lf cl yh s (M3 0 (N1 (Fu lf) cl yh (cd [1,1,1,1,1] TN) (K9 (Fu lf) Tryz.f131))) lf s0 (List.isEmpty ((R0 s0)).1) (PT ((R0 s0)).1) true (↑(List.length (PT ((R0 s0)).1)):Int) 0).trans (by kernel_rfl))) rfl))
noncomputable abbrev Ad2:Code:=F0 Tryz.f94
noncomputable def Kv (lf:Nat):Cfg:=D2 lf [94] (A3 [(4,[0,1,26,0])]) [(130,Aa4),(131,TF)] (A3 [(11,[2]),(10,[5,0]),(9,[0,28,0]),(8,[2]),(7,[0,28,0,28]),(6,[0,3,24,0]),(5,[0,2,25,0]),(4,[0,28,0,0]),(3,[0,28,0]),(2,[2]),(1,[0,26]),(0,[0])]) [130,131] (A3 [(0,[0]),(1,[0,28,0])]) (some [2]) [] [] []
noncomputable def M7 {R:Type} (lf n:Nat) (s0:By) (n1 n2:Int) (k0:Unit->Option R) (k1:By->Option R):Option R:=match n with | 0=>none | n+1=>cond (ltI n2 n1) (cond (inR n2 s0.length) (cond (not (ltI (bAt s0 n2) (97:Int))) (cond (not (not (ltI 122 (bAt s0 n2)))) (cond (not (ltI (bAt s0 n2) (48:Int))) (cond (not (not (ltI 57 (bAt s0 n2)))) (cond ((bAt s0 n2) != 45) (cond ((bAt s0 n2) != 95) (k0 ()) (M7 lf n s0 n1 (A4 (n2+1)) k0 k1)) (M7 lf n s0 n1 (A4 (n2+1)) k0 k1)) (M7 lf n s0 n1 (A4 (n2+1)) k0 k1)) (cond ((bAt s0 n2) != 45) (cond ((bAt s0 n2) != 95) (k0 ()) (M7 lf n s0 n1 (A4 (n2+1)) k0 k1)) (M7 lf n s0 n1 (A4 (n2+1)) k0 k1))) (M7 lf n s0 n1 (A4 (n2+1)) k0 k1)) (cond (not (ltI (bAt s0 n2) (48:Int))) (cond (not (not (ltI 57 (bAt s0 n2)))) (cond ((bAt s0 n2) != 45) (cond ((bAt s0 n2) != 95) (k0 ()) (M7 lf n s0 n1 (A4 (n2+1)) k0 k1)) (M7 lf n s0 n1 (A4 (n2+1)) k0 k1)) (M7 lf n s0 n1 (A4 (n2+1)) k0 k1)) (cond ((bAt s0 n2) != 45) (cond ((bAt s0 n2) != 95) (k0 ()) (M7 lf n s0 n1 (A4 (n2+1)) k0 k1)) (M7 lf n s0 n1 (A4 (n2+1)) k0 k1)))) none) (k1 s0)
theorem PP (n s0 n1 n2):G9 0 ((Kv lf).keep 4) (bd (Kv lf) cl yh (cd [1,1,0,1,0,0] Ad2)) n ⟨gp [(0,pS s0),(28,pI n1),(0,pI n2)] 41,[],s⟩ k =
 M7 lf n s0 n1 n2 (λ_=>k .ret ⟨gp [(2,pB false)] 69,[],s⟩) (λs0=>k (.exit 0) ⟨gp [(0,pS s0)] 71,[],s⟩):=by
 induction n generalizing s0 n1 n2 with
 | zero=>rfl
 | succ n ih=>rw [M7];simp only [<-ih];kernel_rfl
noncomputable def Az0 {R:Type} (lf:Nat) (s0:By) (k0:Bool->Option R):Option R:=cond (ltI (s0.length:Int) (1:Int)) (k0 false) (cond (ltI 63 (s0.length:Int)) (k0 false) (cond (inR 0 s0.length) (cond ((bAt s0 (0:Int))==45) (k0 false) (vl (A4 ((s0.length:Int)-1)) λn'1=>cond (inR n'1 s0.length) (cond ((bAt s0 n'1)==45) (k0 false) (M7 lf lf s0 (s0.length:Int) 0 (λ_=>k0 false) (λs'2=>cond (A2 s'2.length) (vl (Ut s'2 ([120,110,45,45]:List UInt8)) λs'3=>cond (not (List.isPrefixOf ([120,110,45,45]:List UInt8) s'2)) (k0 true) (cond (A2 s'3.length) (k0 (Jq s'3)) none)) none))) none)) none))
theorem Az1 (d:Nat) (s0):evC (Kv lf) (d+1) σ yh 94 [pS s0] [] s=Az0 lf s0 (λr0=>some (pB r0,[],s)):=by
 refine (evE (fn:=Tryz.f94) (by kernel_rfl)).trans ?_
 generalize evC (Kv lf) d=cl
 unfold Az0;exact (Eq.trans (by kernel_rfl) (A1 rfl (A1 rfl (A1 (A1 rfl (C2 λn'1=>(A1 (A1 rfl ((PP lf cl yh s (M3 0 (N1 (Kv lf) cl yh (cd [1,1,1] Ad2) (K9 (Kv lf) Tryz.f94))) lf s0 (s0.length:Int) 0).trans (by kernel_rfl))) rfl))) rfl))))
noncomputable abbrev ML:Code:=F0 Tryz.f118
noncomputable def Hq (lf:Nat):Cfg:=D2 lf [118] (A3 [(9,[2,0,1,20])]) [(159,GV),(160,GU),(111,CA),(161,MA),(94,CF)] (A3 [(18,[2,0]),(17,[2,0]),(16,[4,41]),(15,[4]),(14,[2,0]),(13,[8,32]),(12,[8,0]),(11,[5,20]),(10,[5,1,18]),(9,[5,20,0,0]),(8,[5,20]),(7,[4,0]),(6,[4,19]),(5,[0,3]),(2,[2,0]),(4,[2,0]),(3,[0,13]),(1,[0,9]),(0,[0])]) [159,160,111,161,94] (A3 [(1,[5]),(2,[5,20]),(0,[0])]) (some [2,0]) [] [] []
noncomputable def Bl {R:Type} (lf n:Nat) (l0:LL) (s1:By) (m2:Nat) (k0:LL->By->Nat->Option R):Option R:=match n with | 0=>none | n+1=>cond (decide (m2<s1.length)) (vl ((Utf8.decode ⟨List.toArray s1⟩ m2)).1 λn'4=>cond (K4 (l0.length+1)) (Bl lf n (l0++[[(SV.int .i64 (A4 n'4))]]) s1 (m2+((Utf8.decode ⟨List.toArray s1⟩ m2)).2) k0) none) (k0 l0 s1 m2)
theorem OY (n:Nat) (l0:LL) (s1:By) (m2:Nat):G9 2 ((Hq lf).keep 9) (bd (Hq lf) cl yh (cd [1,1,1,0,1,0,1,0,1,0,0] ML)) n ⟨gp [(5,.fl 0),(20,.it 1)] 21,[.arr true 3 1 l0,.iter s1 m2],s⟩ k =
 Bl lf n l0 s1 m2 (λl0 s1 m2=>k (.exit 1) ⟨gp [(5,.fl 0)] 42,[.arr true 3 1 l0,.iter s1 m2],s⟩):=by
 induction n generalizing l0 s1 m2 with
 | zero=>rfl
 | succ n ih=>rw [Bl];simp only [<-ih];kernel_rfl
noncomputable def JI {R:Type} (lf:Nat) (s0:By) (k0:By->Int->Option R) (k1:By->Int->LL->By->Nat->Option R):Option R:=cond (A2 s0.length) (cond (not (Option.isSome (Qi s0))) (k0 ([]:List UInt8) 4) (cond (A2 s0.length) (vl (↑(Lib.runeCountL s0):Int) λn'1=>cond (ltI 256 n'1) (k0 ([]:List UInt8) 3) (cond (A2 s0.length) (cond (A2 s0.length) (vl (↑(Lib.runeCountL s0):Int) λn'3=>cond (ltI n'3 (s0.length:Int)) (Bl lf lf [] (C5 s0) 0 (λl'5 s'6 m'7=>cond (List.all l'5 Ro) (vl ((Dc (List.map elI l'5))).1 λs'8=>vl (↑((Dc (List.map elI l'5))).2:Int) λn'9=>cond (n'9 != 0) (k1 ([]:List UInt8) 14 l'5 s'6 m'7) (cond (TP 4 s'8.length) (vl (([120,110,45,45]:List UInt8)++s'8) λs'10=>cond (A2 s'10.length) (cond (not (L1 s'10)) (k1 ([]:List UInt8) 14 l'5 s'6 m'7) (k1 s'10 0 l'5 s'6 m'7)) none) none)) none)) (cond (A2 (List.length (C5 s0))) (cond (not (L1 (C5 s0))) (k0 ([]:List UInt8) 14) (k0 (C5 s0) 0)) none)) none) none)) none)) none
theorem Aw4 (d:Nat) (s0):evC (Hq lf) (d+1) σ yh 118 [pS s0] [] s=JI lf s0 (λr0 r1=>some (.tup [pS r0,pI r1],[],s)) (λr0 r1 l2 s3 m4=>some (.tup [pS r0,pI r1],[.arr true 3 1 l2,.iter s3 m4],s)):=by
 refine (evE (fn:=Tryz.f118) (by kernel_rfl)).trans ?_
 generalize evC (Hq lf) d=cl
 unfold JI;exact (Eq.trans (by kernel_rfl) (A1 (A1 rfl (A1 (C2 λn'1=>(A1 rfl (A1 (A1 (C2 λn'3=>(A1 ((OY lf cl yh s (M3 1 (N1 (Hq lf) cl yh (cd [1,1,1,0,1,0,1,1] ML) (N1 (Hq lf) cl yh (cd [1,1,1,1] ML) (K9 (Hq lf) Tryz.f118)))) lf [] (C5 s0) 0).trans (by kernel_rfl)) (A1 (A1 rfl rfl) rfl))) rfl) rfl))) rfl)) rfl))
noncomputable abbrev Kn:Code:=F0 Tryz.f156
noncomputable def Dz (lf:Nat):Cfg:=D2 lf [156] (A3 []) [] (A3 [(7,[2]),(2,[2]),(4,[2]),(6,[2]),(5,[0,23]),(3,[0,12]),(1,[0,2]),(0,[0])]) [] (A3 [(0,[])]) (some [2]) [] [] []
noncomputable def Mq {R:Type} (b0:Int) (b1:Bool) (k0:Int->Option R) (k1:Int->Bool->Option R):Option R:=cond b1 (vl (A4 (wu8 (b0-97))) λn'1=>vl (A4 (n'1+10)) λn'2=>k0 n'2) (cond (not (ltI b0 65)) (cond (not (ltI 70 b0)) (vl (A4 (wu8 (b0-65))) λn'3=>vl (A4 (n'3+10)) λn'4=>k0 n'4) (k1 b0 (not (ltI 70 b0)))) (k1 b0 false))
abbrev Zj (b:Code):Prop:=∀ (k:Out->St σ->Option R) b0 b1,A8 (Dz lf) cl yh b ⟨gp [(0,p8 b0),(12,pB b1)] 21,[],s⟩ k=Mq b0 b1 (λn0=>k .ret ⟨gp [(2,pI n0)] 32,[],s⟩) (λb0 b1=>k .normal ⟨gp [(0,p8 b0),(23,pB b1)] 10,[],s⟩)
theorem ON:Zj (R:=R) lf cl yh s (cd [1,0,0,1,1,1] Kn):=by
 intro k b0 b1;unfold Mq;kernel_rfl
noncomputable def Mr {R:Type} (b0:Int) (b1:Bool) (k0:Int->Option R) (k1:Int->Bool->Option R):Option R:=cond b1 (vl (A4 (wu8 (b0-48))) λn'0=>k0 n'0) (cond (not (ltI b0 97)) (Mq b0 (not (ltI 102 b0)) (λn'5=>k0 n'5) (λb'6 b'7=>k1 b'6 b'7)) (Mq b0 false (λn'8=>k0 n'8) (λb'9 b'10=>k1 b'9 b'10)))
abbrev Pw (b:Code):Prop:=∀ (k:Out->St σ->Option R) b0 b1,A8 (Dz lf) cl yh b ⟨gp [(0,p8 b0),(2,pB b1)] 31,[],s⟩ k=Mr b0 b1 (λn0=>k .ret ⟨gp [(2,pI n0)] 32,[],s⟩) (λb0 b1=>k .normal ⟨gp [(0,p8 b0),(23,pB b1)] 10,[],s⟩)
theorem OO (b_100111:Code) (h_hdig_j0:Zj (R:=R) lf cl yh s b_100111):Pw (R:=R) lf cl yh s (cd [1,0,0,1] (S7 [1,0,0,1,1,1] b_100111 Kn)):=by
 intro k b0 b1;unfold Mr;simp only [<-h_hdig_j0 k];kernel_rfl
theorem OP:Pw (R:=R) lf cl yh s (cd [1,0,0,1] Kn):=by
 intro k b0 b1;exact Eq.trans (by kernel_rfl) (OO lf cl yh s (cd [1,0,0,1,1,1] Kn) (ON lf cl yh s) k b0 b1)
noncomputable def Ai4 {R:Type} (lf:Nat) (b0:Int) (k0:Int->Option R):Option R:=cond (not (ltI b0 48)) (Mr b0 (not (ltI 57 b0)) (λn'11=>k0 n'11) (λb'12 b'13=>k0 (-1))) (Mr b0 false (λn'14=>k0 n'14) (λb'15 b'16=>k0 (-1)))
theorem Av1 (b_1001:Code) (h_hdig_j1:Pw (R:=PV × List Blk × σ) lf cl yh s b_1001) (b0:Int):A8 (Dz lf) cl yh (cd [] (S7 [1,0,0,1] b_1001 Kn)) ⟨[p8 b0]++tps 34,[],s⟩ (K9 (Dz lf) Tryz.f156)=Ai4 lf b0 (λr0=>some (pI r0,[],s)):=by
 unfold Ai4;exact let K0:=(M3 0 (N1 (Dz lf) cl yh (cd [1,1] Kn) (K9 (Dz lf) Tryz.f156)));(Eq.trans (by kernel_rfl) (A1 ((h_hdig_j1 K0 b0 (not (ltI 57 b0))).trans (by kernel_rfl)) ((h_hdig_j1 K0 b0 false).trans (by kernel_rfl))))
theorem Av2 (d:Nat) (b0):evC (Dz lf) (d+1) σ yh 156 [p8 b0] [] s=Ai4 lf b0 (λr0=>some (pI r0,[],s)):=
 (evE (fn:=Tryz.f156) (by kernel_rfl)).trans (Eq.trans (by kernel_rfl) (Av1 lf (evC (Dz lf) d) yh s (cd [1,0,0,1] Kn) (OP lf (evC (Dz lf) d) yh s) b0))
noncomputable abbrev Ac6:Code:=F0 Tryz.f114
noncomputable def Kq (lf:Nat):Cfg:=D2 lf [114] (A3 [(3,[0,1,0,0,0])]) [(156,Aa6)] (A3 [(14,[2,0]),(4,[0,3,0]),(13,[0,3,0]),(12,[0,3,0]),(11,[2,0]),(10,[0,3,0,0,0,39]),(9,[0,3,0,0,0]),(8,[2,0]),(7,[0,3,0,25]),(6,[0,3,0]),(5,[0,3,0,14]),(3,[0,3,0,8]),(2,[0,3,0]),(1,[0,3]),(0,[0])]) [156] (A3 [(0,[4]),(1,[0,3,0])]) (some [2,0]) [] [] []
noncomputable def N3 {R:Type} (lf n:Nat) (s0:By) (i1:Int) (l2:LL) (k0:LL->Option R) (k1:LL->Option R):Option R:=match n with | 0=>none | n+1=>cond (ltI i1 (s0.length:Int)) (cond (inR i1 s0.length) (cond ((bAt s0 i1) != 37) (cond (inR i1 s0.length) (cond (K4 (l2.length+1)) (N3 lf n s0 (A4 (i1+1)) (l2++[[(SV.int .u8 (bAt s0 i1))]]) k0 k1) none) none) (cond (not (ltI (A4 (i1+2)) (s0.length:Int))) (k0 l2) (cond (inR (A4 (i1+1)) s0.length) (vl (bAt s0 (A4 (i1+1))) λn'2=>cond (inR n'2 256) (cond (inR (A4 (i1+2)) s0.length) (vl (bAt s0 (A4 (i1+2))) λn'3=>cond (inR n'3 256) (cond (ltI (Pm (u8n n'2)) (0:Int)) (k0 l2) (cond (ltI (Pm (u8n n'3)) (0:Int)) (k0 l2) (vl (A4 ((16:Int)*(Pm (u8n n'2)))) λn'4=>vl (A4 (n'4+(Pm (u8n n'3)))) λn'5=>cond (K4 (l2.length+1)) (vl (A4 ((A4 (i1+2))+1)) λn'6=>N3 lf n s0 n'6 (l2++[[(SV.int .u8 (wu8 n'5))]]) k0 k1) none))) none) none) none) none))) none) (k1 l2)
theorem OM (n s0 i1 l2):G9 1 ((Kq lf).keep 3) (bd (Kq lf) cl yh (cd [1,0,1,1,0,1,0,0] Ac6)) n ⟨gp [(0,pS s0),(3,.fl 0),(0,pI i1)] 54,[.arr false 5 1 l2],s⟩ k =
 N3 lf n s0 i1 l2 (λl0=>k .ret ⟨gp [(2,pS ([]:List UInt8)),(0,pB false)] 56,[.arr false 5 1 l0],s⟩) (λl0=>k (.exit 0) ⟨gp [(4,.fl 0)] 55,[.arr false 5 1 l0],s⟩):=by
 induction n generalizing s0 i1 l2 with
 | zero=>rfl
 | succ n ih=>rw [N3];simp only [<-ih];kernel_rfl
noncomputable def Ai3 {R:Type} (lf:Nat) (s0:By) (k0:By->Bool->LL->Option R):Option R:=cond ((decide ((0:Int)<=(s0.length:Int)))&&(K4 (Int.toNat (s0.length:Int)))) (N3 lf lf s0 0 [] (λl'7=>k0 ([]:List UInt8) false l'7) (λl'8=>cond (List.all l'8 Xt) (k0 (List.map Ux l'8) true l'8) none)) none
theorem Au9 (d:Nat) (s0):evC (Kq lf) (d+1) σ yh 114 [pS s0] [] s=Ai3 lf s0 (λr0 r1 l2=>some (.tup [pS r0,pB r1],[.arr false 5 1 l2],s)):=by
 refine (evE (fn:=Tryz.f114) (by kernel_rfl)).trans ?_
 generalize evC (Kq lf) d=cl
 unfold Ai3;exact (Eq.trans (by kernel_rfl) (A1 ((OM lf cl yh s (M3 0 (N1 (Kq lf) cl yh (cd [1,0,1,1,1] Ac6) (K9 (Kq lf) Tryz.f114))) lf s0 0 []).trans (by kernel_rfl)) rfl))
noncomputable def DP (lf:Nat):Cfg:=D2 lf [113] (A3 []) [(155,A63)] (A3 [(6,[2,0]),(5,[2,0]),(4,[2,2,15]),(3,[2,2,0]),(2,[0,1,1,8]),(1,[0,1,1]),(0,[0,1])]) [] (A3 []) (some [2,0]) [] [] []
noncomputable def TV {R:Type} (lf:Nat) (s0:By) (k0:Int->Int->Int->Int->Int->Int->Int->Int->Int->Int->Int->LL->Option R) (k1:Unit->Option R):Option R:=vl (A4 ((s0.length:Int)-1)) λn'1=>cond (inR n'1 s0.length) (cond ((bAt s0 n'1)==93) (cond (Z4 1 n'1 s0.length) (cond (A2 (List.length (cut s0 1 n'1))) (vl (↑(v6c 0 (cut s0 1 n'1)):Int) λn'2=>vl (↑(v6c 1 (cut s0 1 n'1)):Int) λn'3=>vl (↑(v6c 2 (cut s0 1 n'1)):Int) λn'4=>vl (↑(v6c 3 (cut s0 1 n'1)):Int) λn'5=>vl (↑(v6c 4 (cut s0 1 n'1)):Int) λn'6=>vl (↑(v6c 5 (cut s0 1 n'1)):Int) λn'7=>vl (↑(v6c 6 (cut s0 1 n'1)):Int) λn'8=>vl (↑(v6c 7 (cut s0 1 n'1)):Int) λn'9=>cond (Option.isSome (v6B (cut s0 1 n'1))) (k0 3 n'2 n'3 n'4 n'5 n'6 n'7 n'8 n'9 0 3 [[(SV.int .u16 n'2)],[(SV.int .u16 n'3)],[(SV.int .u16 n'4)],[(SV.int .u16 n'5)],[(SV.int .u16 n'6)],[(SV.int .u16 n'7)],[(SV.int .u16 n'8)],[(SV.int .u16 n'9)]]) (k0 0 0 0 0 0 0 0 0 0 14 0 [[(SV.int .u16 n'2)],[(SV.int .u16 n'3)],[(SV.int .u16 n'4)],[(SV.int .u16 n'5)],[(SV.int .u16 n'6)],[(SV.int .u16 n'7)],[(SV.int .u16 n'8)],[(SV.int .u16 n'9)]])) none) none) (k1 ())) none
theorem Ai1 (d:Nat) (s0):evC (DP lf) (d+1) σ yh 113 [pS s0] [] s=TV lf s0 (λr0 r1 r2 r3 r4 r5 r6 r7 r8 r9 n10 l11=>some (.tup [.agg [pI r0,pS ([]:List UInt8),p32 (0:Int),p16 r1,p16 r2,p16 r3,p16 r4,p16 r5,p16 r6,p16 r7,p16 r8],pI r9],[.box [pI n10,pS ([]:List UInt8),p32 (0:Int),p16 r1,p16 r2,p16 r3,p16 r4,p16 r5,p16 r6,p16 r7,p16 r8],.arr false 26 1 l11],s)) (λ_=>some (.tup [.agg [pI (0:Int),pS ([]:List UInt8),p32 (0:Int),p16 (0:Int),p16 (0:Int),p16 (0:Int),p16 (0:Int),p16 (0:Int),p16 (0:Int),p16 (0:Int),p16 (0:Int)],pI (14:Int)],[.box [pI (0:Int),pS ([]:List UInt8),p32 (0:Int),p16 (0:Int),p16 (0:Int),p16 (0:Int),p16 (0:Int),p16 (0:Int),p16 (0:Int),p16 (0:Int),p16 (0:Int)]],s)):=by
 refine (evE (fn:=Tryz.f113) (by kernel_rfl)).trans ?_
 generalize evC (DP lf) d=cl
 unfold TV;kernel_rfl
noncomputable def Ms {R:Type} (lf:Nat) (h0:Int) (h1:By) (h2 h3 h4 h5 h6 h7 h8 h9 h10:Int) (k0:Bool->Int->By->Int->Int->Int->Int->Int->Int->Int->Int->Int->LL->Option R):Option R:=cond (h0==1) (cond (A2 h1.length) (cond (F7 h1) (cond (h2==0) (k0 ((h3==0)&&((h4==0)&&((h5==0)&&((h6==0)&&((h7==0)&&((h8==0)&&((h9==0)&&((h10==0)&&true)))))))) h0 h1 h2 h3 h4 h5 h6 h7 h8 h9 h10 (List.replicate 8 [(SV.int .u16 (0:Int))])) (k0 false h0 h1 h2 h3 h4 h5 h6 h7 h8 h9 h10 (List.replicate 8 [(SV.int .u16 (0:Int))]))) (k0 false h0 h1 h2 h3 h4 h5 h6 h7 h8 h9 h10 (List.replicate 8 [(SV.int .u16 (0:Int))]))) none) (cond (h0==2) (cond (h1==[]) (k0 ((h3==0)&&((h4==0)&&((h5==0)&&((h6==0)&&((h7==0)&&((h8==0)&&((h9==0)&&((h10==0)&&true)))))))) h0 h1 h2 h3 h4 h5 h6 h7 h8 h9 h10 (List.replicate 8 [(SV.int .u16 (0:Int))])) (k0 false h0 h1 h2 h3 h4 h5 h6 h7 h8 h9 h10 (List.replicate 8 [(SV.int .u16 (0:Int))]))) (cond (h0==3) (cond (h1==[]) (k0 (h2==0) h0 h1 h2 h3 h4 h5 h6 h7 h8 h9 h10 (List.replicate 8 [(SV.int .u16 (0:Int))])) (k0 false h0 h1 h2 h3 h4 h5 h6 h7 h8 h9 h10 (List.replicate 8 [(SV.int .u16 (0:Int))]))) (k0 false h0 h1 h2 h3 h4 h5 h6 h7 h8 h9 h10 (List.replicate 8 [(SV.int .u16 (0:Int))]))))
end
section
variable {σ R : Type} (lf : Nat) (cl : E1) (yh : Yh σ) (s : σ) (k : Out -> St σ -> Option R)
noncomputable def NH (lf:Nat):Cfg:=D2 lf [194] (A3 []) [] (A3 [(2,[2]),(1,[1,1]),(0,[1])]) [] (A3 []) (some [2]) [] [] []
noncomputable def Bb8 {R:Type} (lf:Nat) (b:Int) (k0:Int->Option R):Option R:=k0 b
theorem A22 (d:Nat) (b):evC (NH lf) (d+1) σ yh 194 [pI b] [] s=Bb8 lf b (λn0=>some (.fnr (Fn.func 201) [] [.ptr 1 0 0,.ptr 0 0 0],[.box [pI n0],.box [pI (0:Int)]],s)):=by
 refine (evE (fn:=Tryz.f194) (by kernel_rfl)).trans ?_
 generalize evC (NH lf) d=cl
 unfold Bb8;kernel_rfl
noncomputable def DY (lf:Nat):Cfg:=D2 lf [201] (A3 []) [] (A3 [(2,[2]),(1,[0,0]),(0,[0,0])]) [] (A3 []) (some [2]) [] [] []
noncomputable def UW {R:Type} (lf:Nat) (k b:Int) (k0:Int->Int->Int->Option R):Option R:=vl (A4 ((A4 (k+36))-b)) λn'0=>vl (if ((26:Int)<(if ((1:Int) > n'0) then (1:Int) else n'0)) then (26:Int) else (if ((1:Int) > n'0) then (1:Int) else n'0)) λn'1=>k0 n'1 (A4 (k+36)) b
theorem Al6 (d:Nat) (k b):evC (DY lf) (d+1) σ yh 201 [.ptr 0 0 0,.ptr 1 0 0] [.box [pI k],.box [pI b]] s=UW lf k b (λr0 n1 n2=>some (pI r0,[.box [pI n1],.box [pI n2]],s)):=by
 refine (evE (fn:=Tryz.f201) (by kernel_rfl)).trans ?_
 generalize evC (DY lf) d=cl
 unfold UW;kernel_rfl
noncomputable abbrev A83:Code:=F0 Tryz.f185
noncomputable def Pf (lf:Nat):Cfg:=D2 lf [185] (A3 [(2,[0,0,4,0])]) [(194,To),(195,LZ)] (A3 [(6,[0,0,5]),(5,[0,0,5,0]),(4,[6]),(3,[0,0,5,0,6]),(2,[0,0,5,0]),(1,[0,0,5]),(0,[0,0,0])]) [195] (A3 [(0,[6]),(1,[0,0,5])]) (some [6]) [(201,Iy)] [] [201]
noncomputable def Dl {R:Type} (lf n:Nat) (q0:Int) (z1:Bool) (l2:LL) (n3 n4:Int) (k0:Bool->LL->Int->Int->Option R):Option R:=match n with | 0=>none | n+1=>cond (ltN n4 1000000000000) (cond (ltN n3 1000000) (cond (ltI q0 (U5 n4 n3)) (cond (ltN q0 36) (vl (↑(UInt8.toNat (Hy (Int.toNat q0))):Int) λn'1=>cond (K4 (l2.length+1)) (k0 z1 (l2++[[(SV.int .u8 n'1)]]) n3 (Int.add n4 (36:Int))) none) none) (vl (A4 (q0-(U5 n4 n3))) λn'2=>vl (A4 ((36:Int)-(U5 n4 n3))) λn'3=>cond (n'3 != 0) (vl (A4 ((U5 n4 n3)+(Int.tmod n'2 n'3))) λn'4=>cond (ltN n'4 36) (vl (↑(UInt8.toNat (Hy (Int.toNat n'4))):Int) λn'5=>cond (K4 (l2.length+1)) (vl (A4 (q0-(U5 n4 n3))) λn'6=>vl (A4 ((36:Int)-(U5 n4 n3))) λn'7=>cond (n'7 != 0) (vl (A4 (Int.tdiv n'6 n'7)) λn'8=>Dl lf n n'8 z1 (l2++[[(SV.int .u8 n'5)]]) n3 (Int.add n4 (36:Int)) k0) none) none) none) none)) none) none
theorem QD (n q0 z1 l2 n3 n4):G9 3 ((Pf lf).keep 2) (bd (Pf lf) cl yh (cd [1,1,0,0] A83)) n ⟨gp [(0,.fl 0),(0,pI q0),(5,.fnr (Fn.func 201) [] [.ptr 2 0 0,.ptr 1 0 0])] 31,[.arr z1 5 1 l2,.box [pI n3],.box [pI n4]],s⟩ k =
 Dl lf n q0 z1 l2 n3 n4 (λz0 l1 n2 n3=>k .ret ⟨gp [(6,.fl 0)] 32,[.arr z0 5 1 l1,.box [pI n2],.box [pI n3]],s⟩):=by
 induction n generalizing q0 z1 l2 n3 n4 with
 | zero=>rfl
 | succ n ih=>rw [Dl];simp only [<-ih];kernel_rfl
noncomputable def Bb6 {R:Type} (lf:Nat) (q b:Int) (z:Bool) (l:LL) (k0:Bool->LL->Int->Int->Option R):Option R:=Dl lf lf q z l b 0 (λz'9 l'10 n'11 n'12=>k0 z'9 l'10 n'11 n'12)
theorem A04 (d:Nat) (q b z l):evC (Pf lf) (d+1) σ yh 185 [.fl 0,pI q,pI b] [.arr z 5 1 l] s=Bb6 lf q b z l (λz0 l1 n2 n3=>some (.fl 0,[.arr z0 5 1 l1,.box [pI n2],.box [pI n3]],s)):=by
 refine (evE (fn:=Tryz.f185) (by kernel_rfl)).trans ?_
 generalize evC (Pf lf) d=cl
 unfold Bb6;exact (Eq.trans (by kernel_rfl) ((QD lf cl yh s (M3 0 (K9 (Pf lf) Tryz.f185)) lf q z l b 0).trans (by kernel_rfl)))
noncomputable abbrev Au:Code:=F0 Tryz.f161
noncomputable def L4 (lf:Nat):Cfg:=D2 lf [161] (A3 [(29,[0,1,0,0,2,0,0,0,0,61,0,0]),(21,[0,1,0,0,2,0,0,0,0,0,38,0,0]),(17,[0,1,0,0,2,0,0,0,0]),(5,[0,1,0,0,15,0,0])]) [(184,Hn),(186,Hm)] (A3 [(40,[2,0]),(18,[0,3,2,0,0,0,0]),(39,[0,3,2,0,0,0,0]),(38,[0,3,2,0,0,0,0,61,0,0]),(32,[0,3,2,0,0,0,0,61,0,0]),(37,[0,3,2,0,0,0,0,61,0,0]),(36,[0,3,2,0,0,0,0,61,0,0]),(35,[0,3,2,0,1,0,61,0,0]),(34,[0,3,2,0,0,1,61,0,0]),(33,[0,3,2,0,0,0,0,61,0,0,9]),(31,[0,3,2,0,0,0,0,4,56,0,0,3]),(30,[0,3,2,0,0,0,0,4,56,0,0]),(29,[0,3,2,0,0,0,0,61,0,0,0]),(28,[0,3,2,0,0,0,0,61,0,0]),(27,[0,3,2,0,0,0,0]),(26,[0,3,2,1,0,0,0]),(25,[0,3,2,0,0,0,0,0,38,0,0]),(24,[0,3,2,0,0,0,0,0,38,0,0]),(23,[0,3,2,0,0,0,0,0,1,36,0,0,5]),(22,[0,3,2,0,0,0,0,0,1,36,0,0]),(21,[0,3,2,0,0,0,0,0,38,0,0,0]),(20,[0,3,2,0,0,0,0,0,38,0,0]),(19,[0,3,2,0,0,0,0,0]),(17,[0,3,2,0,0,0,0,36]),(16,[0,3,2,0,0,0,0]),(15,[0,3,2,0,0,0]),(14,[0,3,2]),(13,[0,3,2,32]),(12,[0,3,2]),(11,[0,3,15,0,0]),(10,[0,3,15,0,0]),(9,[0,3,1,13,0,0,7]),(8,[2,0]),(7,[0,3,1,13,0,0,5]),(6,[0,3,1,13,0,0]),(5,[0,3,15,0,0,0]),(4,[0,3,15,0,0]),(3,[0,3]),(2,[2,0]),(1,[0,18]),(0,[0])]) [184,186] (A3 [(2,[4]),(3,[0,3,2,0,0,0,0]),(6,[0,3,2,0,0,0,0]),(7,[0,3,2,0,0,0,0,61,0,0]),(8,[0,3,2,0,0,0,0,61,0,0]),(4,[0,3,2,0,0,0,0,0]),(5,[0,3,2,0,0,0,0,0,38,0,0]),(0,[0,3]),(1,[0,3,15,0,0])]) (some [2,0]) [(185,CJ)] [] [185]
noncomputable def O7 {R:Type} (lf n:Nat) (points_z0 points_t1:Bool) (points2:LL) (n3 n4:Int) (l5:LL) (k0:LL->Option R) (k1:Bool->Bool->LL->LL->Option R):Option R:=match n with | 0=>none | n+1=>cond (ltI n4 n3) (cond (inR n4 points2.length) (cond (okE RZ points2 (Int.toNat n4) 0) (vl (gE points2 (Int.toNat n4) 0) λn'1=>cond (not (ptI n'1)) (k0 l5) (cond (ltI n'1 128) (cond (K4 (l5.length+1)) (O7 lf n points_z0 points_t1 points2 n3 (A4 (n4+1)) (l5++[[(SV.int .u8 (wu8 n'1))]]) k0 k1) none) (O7 lf n points_z0 points_t1 points2 n3 (A4 (n4+1)) l5 k0 k1))) none) none) (k1 points_z0 points_t1 points2 l5)
theorem QQ (n points_z0 points_t1 points2 n3 n4 l5):G9 1 ((L4 lf).keep 5) (bd (L4 lf) cl yh (cd [1,1,1,0,1,0,0] Au)) n ⟨gp [(0,.s (.sl points_z0 points_t1 1 points2)),(3,.fl 0),(15,.s (.sl points_z0 points_t1 1 points2)),(0,pI n3),(0,pI n4)] 84,[.arr true 5 1 l5],s⟩ k =
 O7 lf n points_z0 points_t1 points2 n3 n4 l5 (λl0=>k .ret ⟨gp [(2,pS ([]:List UInt8)),(0,pI (2:Int))] 103,[.arr true 5 1 l0],s⟩) (λpoints_z0 points_t1 points2 l3=>k (.exit 0) ⟨gp [(0,.s (.sl points_z0 points_t1 1 points2)),(3,.fl 0)] 102,[.arr true 5 1 l3],s⟩):=by
 induction n generalizing points_z0 points_t1 points2 n3 n4 l5 with
 | zero=>rfl
 | succ n ih=>rw [O7];simp only [<-ih];kernel_rfl
noncomputable def Dp {R:Type} (lf n:Nat) (points_z0 points_t1:Bool) (points2:LL) (basic3 n4 delta5 bias6 done7 m8 n9 n10:Int) (l11:LL) (k0:Bool->Bool->LL->Int->Int->Int->Int->Int->Int->LL->Option R):Option R:=match n with | 0=>none | n+1=>cond (ltI n10 n9) (cond (inR n10 points2.length) (cond (okE RZ points2 (Int.toNat n10) 0) (vl (gE points2 (Int.toNat n10) 0) λn'9=>cond (not (ltI n'9 n4)) (vl (if (n'9<m8) then n'9 else m8) λn'10=>Dp lf n points_z0 points_t1 points2 basic3 n4 delta5 bias6 done7 n'10 n9 (A4 (n10+1)) l11 k0) (Dp lf n points_z0 points_t1 points2 basic3 n4 delta5 bias6 done7 m8 n9 (A4 (n10+1)) l11 k0)) none) none) (k0 points_z0 points_t1 points2 basic3 n4 delta5 bias6 done7 m8 l11)
theorem QR (n points_z0 points_t1 points2 basic3 n4 delta5 bias6 done7 m8 n9 n10 l11):G9 1 ((L4 lf).keep 21) (bd (L4 lf) cl yh (cd [1,1,1,1,1,1,1,0,1,0,0,1,0,0,1,0,1,0,0] Au)) n ⟨gp [(0,.s (.sl points_z0 points_t1 1 points2)),(3,.fl 0),(2,pI basic3),(0,pI n4),(0,pI delta5),(0,pI bias6),(0,pI done7),(0,pI m8),(38,.s (.sl points_z0 points_t1 1 points2)),(0,pI n9),(0,pI n10)] 53,[.arr true 5 1 l11],s⟩ k =
 Dp lf n points_z0 points_t1 points2 basic3 n4 delta5 bias6 done7 m8 n9 n10 l11 (λpoints_z0 points_t1 points2 basic3 n4 delta5 bias6 done7 m8 l9=>k (.exit 4) ⟨gp [(0,.s (.sl points_z0 points_t1 1 points2)),(3,.fl 0),(2,pI basic3),(0,pI n4),(0,pI delta5),(0,pI bias6),(0,pI done7),(0,pI m8)] 94,[.arr true 5 1 l9],s⟩):=by
 induction n generalizing points_z0 points_t1 points2 basic3 n4 delta5 bias6 done7 m8 n9 n10 l11 with
 | zero=>rfl
 | succ n ih=>rw [Dp];simp only [<-ih];kernel_rfl
noncomputable def W5 {R:Type} (lf n:Nat) (points_z0 points_t1:Bool) (points2:LL) (basic3 n4 delta5 bias6 done7 n8v n9:Int) (l10:LL) (k0:Bool->Bool->LL->Int->Int->Int->Int->Int->LL->Option R):Option R:=match n with | 0=>none | n+1=>cond (ltI n9 n8v) (cond (inR n9 points2.length) (cond (okE RZ points2 (Int.toNat n9) 0) (vl (gE points2 (Int.toNat n9) 0) λn'26=>cond (ltI n'26 n4) (vl (A4 (delta5+1)) λn'27=>W5 lf n points_z0 points_t1 points2 basic3 n4 n'27 bias6 done7 n8v (A4 (n9+1)) l10 k0) (cond (n'26==n4) (cond (ltN delta5 1152921504606846976) (cond (ltN bias6 1000000) (cond (Nat.ble l10.length 100000) (vl (List.append l10 (List.map G2 (P4 (Int.toNat delta5) 0 (Int.toNat bias6)))) λl'29=>vl (A4 (done7+1)) λn'30=>cond (ltN delta5 1152921504606846976) (cond (ltN n'30 1000000) (cond (ltI 0 n'30) (vl (↑(Cf (Int.toNat delta5) (Int.toNat n'30) (done7==basic3)):Int) λn'31=>vl (A4 (done7+1)) λn'32=>W5 lf n points_z0 points_t1 points2 basic3 n4 0 n'31 n'32 n8v (A4 (n9+1)) l'29 k0) none) none) none) none) none) none) (W5 lf n points_z0 points_t1 points2 basic3 n4 delta5 bias6 done7 n8v (A4 (n9+1)) l10 k0))) none) none) (k0 points_z0 points_t1 points2 basic3 n4 delta5 bias6 done7 l10)
theorem QS (n points_z0 points_t1 points2 basic3 n4 delta5 bias6 done7 n8v n9 l10):G9 1 ((L4 lf).keep 29) (bd (L4 lf) cl yh (cd [1,1,1,1,1,1,1,0,1,0,0,1,0,0,1,1,1,1,0,1,0,0] Au)) n ⟨gp [(0,.s (.sl points_z0 points_t1 1 points2)),(3,.fl 0),(2,pI basic3),(0,pI n4),(0,pI delta5),(0,pI bias6),(0,pI done7),(61,.s (.sl points_z0 points_t1 1 points2)),(0,pI n8v),(0,pI n9)] 31,[.arr true 5 1 l10],s⟩ k =
 W5 lf n points_z0 points_t1 points2 basic3 n4 delta5 bias6 done7 n8v n9 l10 (λpoints_z0 points_t1 points2 basic3 n4 delta5 bias6 done7 l8=>k (.exit 6) ⟨gp [(0,.s (.sl points_z0 points_t1 1 points2)),(3,.fl 0),(2,pI basic3),(0,pI n4),(0,pI delta5),(0,pI bias6),(0,pI done7)] 95,[.arr true 5 1 l8],s⟩):=by
 induction n generalizing points_z0 points_t1 points2 basic3 n4 delta5 bias6 done7 n8v n9 l10 with
 | zero=>rfl
 | succ n ih=>rw [W5];simp only [<-ih];kernel_rfl
noncomputable def Bo {R:Type} (lf n:Nat) (points_z0 points_t1:Bool) (points2:LL) (basic3 n4 delta5 bias6 done7:Int) (l8:LL) (k0:LL->Option R):Option R:=match n with | 0=>none | n+1=>cond (ltI done7 (points2.length:Int)) (Dp lf lf points_z0 points_t1 points2 basic3 n4 delta5 bias6 done7 1114112 (points2.length:Int) 0 l8 (λpoints_z'11 points_t'12 points'13 basic'14 n'15 delta'16 bias'17 done'18 m'19 l'20=>vl (A4 (done'18+1)) λn'23=>vl (A4 ((A4 (m'19-n'15))*n'23)) λn'24=>W5 lf lf points_z'11 points_t'12 points'13 basic'14 m'19 (A4 (delta'16+n'24)) bias'17 done'18 (points'13.length:Int) 0 l'20 (λpoints_z'33 points_t'34 points'35 basic'36 n'37 delta'38 bias'39 done'40 l'41=>vl (A4 (delta'38+1)) λn'42=>vl (A4 (n'37+1)) λn'43=>Bo lf n points_z'33 points_t'34 points'35 basic'36 n'43 n'42 bias'39 done'40 l'41 k0))) (k0 l8)
theorem Wn (n points_z0 points_t1 points2 basic3 n4 delta5 bias6 done7 l8):G9 1 ((L4 lf).keep 17) (bd (L4 lf) cl yh (cd [1,1,1,1,1,1,1,0,1,0,0] Au)) n ⟨gp [(0,.s (.sl points_z0 points_t1 1 points2)),(3,.fl 0),(2,pI basic3),(0,pI n4),(0,pI delta5),(0,pI bias6),(0,pI done7)] 95,[.arr true 5 1 l8],s⟩ k =
 Bo lf n points_z0 points_t1 points2 basic3 n4 delta5 bias6 done7 l8 (λl0=>k (.exit 2) ⟨gp [(4,.fl 0)] 102,[.arr true 5 1 l0],s⟩):=by
 induction n generalizing points_z0 points_t1 points2 basic3 n4 delta5 bias6 done7 l8 with
 | zero=>rfl
 | succ n ih=>rw [Bo];exact (Eq.trans (by kernel_rfl) (A1 ((QR lf cl yh s (M3 4 (N1 (L4 lf) cl yh (cd [1,1,1,1,1,1,1,0,1,0,0,1,0,0,1,1] Au) (M3 3 (N1 (L4 lf) cl yh (cd [1,1,1,1,1,1,1,0,1,0,0,1,1] Au) (lpK 1 ((L4 lf).keep 17) (bd (L4 lf) cl yh (cd [1,1,1,1,1,1,1,0,1,0,0] Au)) n k))))) lf points_z0 points_t1 points2 basic3 n4 delta5 bias6 done7 1114112 (points2.length:Int) 0 l8).trans (congr rfl (Bl3 λpoints_z'11 points_t'12 points'13 basic'14 n'15 delta'16 bias'17 done'18 m'19 l'20=>(Eq.trans (by kernel_rfl) (C2 λn'23=>(C2 λn'24=>((QS lf cl yh s (M3 6 (N1 (L4 lf) cl yh (cd [1,1,1,1,1,1,1,0,1,0,0,1,0,0,1,1,1,1,1] Au) (M3 3 (N1 (L4 lf) cl yh (cd [1,1,1,1,1,1,1,0,1,0,0,1,1] Au) (lpK 1 ((L4 lf).keep 17) (bd (L4 lf) cl yh (cd [1,1,1,1,1,1,1,0,1,0,0] Au)) n k))))) lf points_z'11 points_t'12 points'13 basic'14 m'19 (A4 (delta'16+n'24)) bias'17 done'18 (points'13.length:Int) 0 l'20).trans (congr rfl (fx9 λpoints_z'33 points_t'34 points'35 basic'36 n'37 delta'38 bias'39 done'40 l'41=>(Eq.trans (by kernel_rfl) (C2 λn'42=>(C2 λn'43=>(ih points_z'33 points_t'34 points'35 basic'36 n'43 n'42 bias'39 done'40 l'41))))))))))))) rfl))
noncomputable def KA {R:Type} (lf:Nat) (p_z p_t:Bool) (p:LL) (k0:Unit->Option R) (k1:By->Int->LL->Option R):Option R:=cond (ltI 256 (p.length:Int)) (k0 ()) (O7 lf lf p_z p_t p (p.length:Int) 0 [] (λl'2=>k1 ([]:List UInt8) 2 l'2) (λpoints_z'3 points_t'4 points'5 l'6=>vl (l'6.length:Int) λn'8=>cond (ltI 0 n'8) (cond (K4 (l'6.length+1)) (Bo lf lf points_z'3 points_t'4 points'5 n'8 128 0 72 n'8 (l'6++[[(SV.int .u8 (45:Int))]]) (λl'44=>cond (List.all l'44 Xt) (k1 (List.map Ux l'44) 0 l'44) none)) none) (Bo lf lf points_z'3 points_t'4 points'5 n'8 128 0 72 n'8 l'6 (λl'45=>cond (List.all l'45 Xt) (k1 (List.map Ux l'45) 0 l'45) none))))
theorem A11 (d:Nat) (p_z p_t p):evC (L4 lf) (d+1) σ yh 161 [.s (.sl p_z p_t 1 p)] [] s=KA lf p_z p_t p (λ_=>some (.tup [pS ([]:List UInt8),pI (3:Int)],[],s)) (λr0 r1 l2=>some (.tup [pS r0,pI r1],[.arr true 5 1 l2],s)):=by
 refine (evE (fn:=Tryz.f161) (by kernel_rfl)).trans ?_
 generalize evC (L4 lf) d=cl
 unfold KA;exact let K0:=(M3 2 (N1 (L4 lf) cl yh (cd [1,1,1,1,1,1,1,1] Au) (K9 (L4 lf) Tryz.f161)));(Eq.trans (by kernel_rfl) (A1 rfl ((QQ lf cl yh s (M3 0 (N1 (L4 lf) cl yh (cd [1,1,1,1] Au) (K9 (L4 lf) Tryz.f161))) lf p_z p_t p (p.length:Int) 0 []).trans (congr (congr rfl (by kernel_rfl)) (fx4 λpoints_z'3 points_t'4 points'5 l'6=>(Eq.trans (by kernel_rfl) (C2 λn'8=>(A1 (A1 ((Wn lf cl yh s K0 lf points_z'3 points_t'4 points'5 n'8 128 0 72 n'8 (l'6++[[(SV.int .u8 (45:Int))]])).trans (by kernel_rfl)) rfl) ((Wn lf cl yh s K0 lf points_z'3 points_t'4 points'5 n'8 128 0 72 n'8 l'6).trans (by kernel_rfl))))))))))
end
theorem Xd (k b:Nat):U5 ((36*k:Nat):Int) (b:Int)=(thr k b:Int):=by
 unfold U5 thr
 omega
theorem ZA {R:Type} {k0:Int->Option R} (b:Int):Bb8 LF b k0=k0 b:=rfl
theorem QY {R:Type} {k0:Int->Int->Int->Option R} (k b:Int) (h0:ltN k 1000000000000=true) (h1:ltN b 1000000=true):UW LF k b k0=k0 (U5 k b) (Int.add k 36) b:=by
 obtain ⟨a0,a1⟩:=O5.1 h0
 obtain ⟨b0,b1⟩:=O5.1 h1
 unfold UW
 have e1:A4 (k+36)=k+36:=A5
 have e2:A4 (k+36-b)=k+36-b:=A5
 simp only [vl,e1,e2]
 have:(if (26:Int)<(if (1:Int) > k+36-b then (1:Int) else k+36-b) then (26:Int) else (if (1:Int) > k+36-b then (1:Int) else k+36-b))=U5 k b:=by
  unfold U5
  omega
 grind
theorem Pp {q k b:Nat} (h:q<thr k b):P4 q k b=[Hy q]:=by rw [P4,dif_pos h]
theorem Yz {q k b:Nat} (h:¬ q<thr k b):P4 q k b=Hy (thr k b+(q-thr k b) % (36-thr k b))::P4 ((q-thr k b) / (36-thr k b)) (k+1) b:=by rw [P4,dif_neg h]
theorem TR {x y m:Nat} (hy:10<=y) (h:x<10*m):x / y<m:=by
 have h1:x / y<=x / 10:=Nat.div_le_div_left hy (by omega)
 omega
theorem NV (b:Nat):∀ (r q k:Nat),q<10 ^ r->(P4 q k b).length<=r+1:=by
 intro r
 induction r with
 | zero=>
  intro q k h
  have ht:=Z5 k b
  rw [Pp (by simp at h;omega)]
  simp
 | succ r ih=>
  intro q k h
  have ht:=Z5 k b
  by_cases hq:q<thr k b
  ·rw [Pp hq];simp
  ·rw [Yz hq,List.length_cons]
   have:=ih ((q-thr k b) / (36-thr k b)) (k+1) (TR (by omega) (by rw [Nat.pow_succ] at h;omega))
   omega
theorem YO (z:Bool) (b:Nat) (hb:b<1000000):∀ (r q k n:Nat) (l:LL),q<10 ^ r->q<1152921504606846976->k+r<=1000->r<n->l.length+r<=200000->
  ∃ (n2 n3:Int),∀ (R:Type) (k0:Bool->LL->Int->Int->Option R),Dl LF n (q:Int) z l (b:Int) ((36*k:Nat):Int) k0=k0 z (l++(P4 q k b).map G2) n2 n3:=by
 have fin:∀ (q k n:Nat) (l:LL),q<thr k b->k<=1000->l.length<=200000->∃ (n2 n3:Int),∀ (R:Type) (k0:Bool->LL->Int->Int->Option R),Dl LF (n+1) (q:Int) z l (b:Int) ((36*k:Nat):Int) k0=k0 z (l++(P4 q k b).map G2) n2 n3:=by
  intro q k n l hq hk hl
  have ht:=Z5 k b
  refine ⟨(b:Int),Int.add ((36*k:Nat):Int) 36,λR k0=>?_⟩
  rw [Dl]
  rw [Al,Al,Xd,C4,Al,Pp hq]
  simp only [vl,cond_true,Int.toNat_natCast]
  rw [J3 (by omega)]
  rfl
 intro r
 induction r with
 | zero=>
  intro q k n l h _ hk hn hl
  have ht:=Z5 k b
  obtain ⟨n,rfl⟩:∃ m,n=m+1:=⟨n-1,by omega⟩
  exact fin q k n l (by simp at h;omega) (by omega) (by omega)
 | succ r ih=>
  intro q k n l h hq60 hk hn hl
  have ht:=Z5 k b
  obtain ⟨n,rfl⟩:∃ m,n=m+1:=⟨n-1,by omega⟩
  by_cases hq:q<thr k b
  ·exact fin q k n l hq (by omega) (by omega)
  ·have hd:(q-thr k b) / (36-thr k b)<10 ^ r:=TR (by omega) (by rw [Nat.pow_succ] at h;omega)
   have hd2:(q-thr k b) / (36-thr k b)<=q:=Nat.le_trans (Nat.div_le_self _ _) (by omega)
   have hm2:(q-thr k b) % (36-thr k b)<36-thr k b:=Nat.mod_lt _ (by omega)
   obtain ⟨n2,n3,e⟩:=ih ((q-thr k b) / (36-thr k b)) (k+1) n (l++[G2 (Hy (thr k b+(q-thr k b) % (36-thr k b)))]) hd (by omega) (by omega) (by omega) (by rw [List.length_append,List.length_singleton];omega)
   refine ⟨n2,n3,λR k0=>?_⟩
   rw [Dl]
   have c1:A4 ((q:Int)-(thr k b:Int))=((q-thr k b:Nat):Int):=by rw [A5];omega
   have c2:A4 ((36:Int)-(thr k b:Int))=((36-thr k b:Nat):Int):=by rw [A5];omega
   have c3:Int.tmod ((q-thr k b:Nat):Int) ((36-thr k b:Nat):Int)=(((q-thr k b) % (36-thr k b):Nat):Int):=Xf _ _
   have c4:Int.tdiv ((q-thr k b:Nat):Int) ((36-thr k b:Nat):Int)=(((q-thr k b) / (36-thr k b):Nat):Int):=X1 _ _
   have c7:((((36-thr k b:Nat):Int)) != 0)=true:=by rw [bne_iff_ne];omega
   rw [Al,Al,Xd,A6]
   simp only [vl,c1,c2,c3,c4,c7,cond_true,cond_false]
   rw [Yz hq]
   generalize hA:(q-thr k b) / (36-thr k b)=A at *
   generalize hB:(q-thr k b) % (36-thr k b)=B at *
   have c5:A4 ((thr k b:Int)+(B:Int))=((thr k b+B:Nat):Int):=by rw [A5];rfl
   have c6:A4 (A:Int)=(A:Int):=A5
   rw [c5,c6,Al,J3 (by omega),Int.toNat_natCast,show Int.add ((36*k:Nat):Int) 36=((36*(k+1):Nat):Int) from (by show ((36*k:Nat):Int)+36=_;omega)]
   refine Eq.trans (e R k0) ?_
   simp [List.append_assoc]
theorem YP (q b:Int) (z:Bool) (l:LL) (h0:ltN q 1152921504606846976=true) (h1:ltN b 1000000=true) (h2:Nat.ble l.length 100000=true) :
  ∃ (n2 n3:Int),∀ (R:Type) (k0:Bool->LL->Int->Int->Option R),Bb6 LF q b z l k0=k0 z (List.append l ((P4 q.toNat 0 b.toNat).map G2)) n2 n3:=by
 obtain ⟨a0,a1⟩:=O5.1 h0
 obtain ⟨b0,b1⟩:=O5.1 h1
 obtain ⟨q,rfl⟩:=Int.eq_ofNat_of_zero_le a0
 obtain ⟨b,rfl⟩:=Int.eq_ofNat_of_zero_le b0
 have hl:=Nat.le_of_ble_eq_true h2
 have hLF:=I4
 obtain ⟨n2,n3,e⟩:=YO z b (by omega) 19 q 0 LF l (by omega) (by omega) (by omega) (by omega) (by omega)
 exact ⟨n2,n3,λR k0=>e R _⟩
def Ey (l:List Int):LL:=l.map λx=>[SV.int .i64 x]
def G5 (l:List Nat):LL:=l.map λx:Nat=>[SV.int .i64 (x:Int)]
theorem Qf (l:List Nat):Ey (l.map λn:Nat=>(n:Int))=G5 l:=by simp [Ey,G5,Function.comp_def]
theorem Ez (l:List Int):(Ey l).length=l.length:=by simp [Ey]
theorem L5 (l:List Nat):(G5 l).length=l.length:=by simp [G5]
theorem JR (a b:List Nat):G5 (a++b)=G5 a++G5 b:=by simp [G5]
theorem UP {l:List Int} {i:Nat} (h:i<l.length):okE RZ (Ey l) i 0=true:=by
 unfold okE Ey RZ
 simp [List.getD_eq_getElem?_getD,h,okS,SV.has]
theorem Ah4 (l:List Int) (i:Nat) (h:i<l.length):gE (Ey l) i 0=l.getD i 0:=by
 unfold gE gC Ey
 simp [List.getD_eq_getElem?_getD,List.getElem?_eq_getElem h,SV.gI]
theorem FC {l:List Nat} {i:Nat} (h:i<l.length):okE RZ (G5 l) i 0=true:=by
 rw [<-Qf];exact UP (by simpa using h)
theorem OA (l:List Nat) (i:Nat) (h:i<l.length):gE (G5 l) i 0=(l.getD i 0:Int):=by
 rw [<-Qf,Ah4 _ _ (by simpa using h)]
 grind
theorem Av7 {l:LL} (h:l.all Ro=true):∃ P:List Int,l=Ey P:=by
 induction l with
 | nil=>exact ⟨[],rfl⟩
 | cons x r ih=>
  simp only [List.all_cons,Bool.and_eq_true] at h
  obtain ⟨P,rfl⟩:=ih h.2
  have hx:=h.1
  unfold Ro at hx
  split at hx
  ·rename_i n
   exact ⟨n::P,rfl⟩
  ·cases hx
theorem Ag0 (P:List Int):(Ey P).map elI=P:=by
 unfold Ey
 rw [List.map_map]
 conv=>rhs;rw [<-List.map_id P]
 apply List.map_congr_left
 intro x _
 simp [elI,SV.gI]
theorem Af8 (l:List Int) (i:Nat) (h:i<l.length):l.drop i=l.getD i 0::l.drop (i+1):=by simp_all
theorem IF (l:List Nat) (i:Nat) (h:i<l.length):l.drop i=l.getD i 0::l.drop (i+1):=by simp_all
theorem Ar6:∀ (r d k:Nat),d<456*35 ^ r->Tv d k<=k+36*r+36:=by
 intro r
 induction r with
 | zero=>
  intro d k h
  rw [Tw (by simp at h;omega)]
  have:36*d / (d+38)<=36:=by
   apply Nat.div_le_of_le_mul
   omega
  omega
 | succ r ih=>
  intro d k h
  by_cases hd:455<d
  ·rw [GY hd]
   grind
  grind
theorem GZ (d c:Nat) (f:Bool) (h:d<1152921504606846976):Cf d c f<=500:=by
 unfold Cf
 have hx:∀ x:Nat,x<=d->Tv (x+x / c) 0<=500:=by
  intro x hx
  have:=Nat.div_le_self x c
  have:=Ar6 11 (x+x / c) 0 (by omega)
  omega
 grind
theorem WL {q k b:Nat} (h:q<1152921504606846976):(P4 q k b).length<=20:=NV b 19 q k (by omega)
theorem UU (z t:Bool) (pts:List Nat) (basic m:Nat) (hm:m<=1114112) (hl:pts.length<=256):∀ (r i n:Nat) (s:LJ),i+r=pts.length->r<n->s.delta+r<=1000000000000->s.bias<=500->s.out.length+20*r<=90000->s.done+r<=1000->basic<=256->
  (∀ (R:Type) (k0:Bool->Bool->LL->Int->Int->Int->Int->Int->LL->Option R),W5 LF n z t (G5 pts) (basic:Int) (m:Int) (s.delta:Int) (s.bias:Int) (s.done:Int) (pts.length:Int) (i:Int) (s.out.map G2) k0 =
   k0 z t (G5 pts) (basic:Int) (m:Int) ((L7 m basic (pts.drop i) s).delta:Int) ((L7 m basic (pts.drop i) s).bias:Int) ((L7 m basic (pts.drop i) s).done:Int) ((L7 m basic (pts.drop i) s).out.map G2))/\
  (L7 m basic (pts.drop i) s).bias<=500/\(L7 m basic (pts.drop i) s).out.length<=s.out.length+20*(pts.drop i).countP (· == m)/\(L7 m basic (pts.drop i) s).done=s.done+(pts.drop i).countP (· == m)/\
  (L7 m basic (pts.drop i) s).delta<=(if 0<(pts.drop i).countP (· == m) then r else s.delta+r):=by
 intro r
 induction r with
 | zero=>
  intro i n s hi hn h1 h2 h3 h4 hb
  obtain ⟨n,rfl⟩:∃ m,n=m+1:=⟨n-1,by omega⟩
  rw [List.drop_of_length_le (by omega)]
  refine ⟨λR k0=>?_,h2,by simp [L7],by simp [L7],by simp [L7]⟩
  rw [W5]
  rw [A6]
  rfl
 | succ r ih=>
  intro i n s hi hn h1 h2 h3 h4 hb
  obtain ⟨n,rfl⟩:∃ m,n=m+1:=⟨n-1,by omega⟩
  rw [IF pts i (by omega)]
  have hg:=OA pts i (by omega)
  have ok:=FC (l:=pts) (i:=i) (by omega)
  generalize pts.getD i 0=p at *
  have e1:A4 ((i:Int)+1)=((i+1:Nat):Int):=by rw [A5];rfl
  have e2:A4 ((s.delta:Int)+1)=((s.delta+1:Nat):Int):=by rw [A5];rfl
  have e3:A4 ((s.done:Int)+1)=((s.done+1:Nat):Int):=by rw [A5];rfl
  by_cases hp:p<m
  ·have hne:(p==m)=false:=by rw [beq_eq_false_iff_ne];omega
   have hs:L7 m basic (p::pts.drop (i+1)) s=L7 m basic (pts.drop (i+1)) { s with delta:=s.delta+1 }:=by rw [L7,if_pos hp]
   obtain ⟨q1,q2,q3,q4,q5⟩:=ih (i+1) n { s with delta:=s.delta+1 } (by omega) (by omega) (by simp only;omega) h2 (by simp only;omega) (by simp only;omega) hb
   rw [hs,List.countP_cons_of_neg (by rw [hne];simp)]
   refine ⟨λR k0=>?_,q2,q3,q4,?_⟩
   ·rw [W5]
    rw [C4,L5,P8,Int.toNat_natCast,ok]
    simp only [cond_true,vl,hg,e1,e2]
    rw [C4,cond_true]
    exact q1 R k0
   ·simp only at q5
    split at q5<;>split<;>omega
  ·by_cases hq:p=m
   ·subst hq
    have hn20:=WL (q:=s.delta) (k:=0) (b:=s.bias) (by omega)
    have had:=GZ s.delta (s.done+1) (s.done==basic) (by omega)
    have hs:L7 p basic (p::pts.drop (i+1)) s=L7 p basic (pts.drop (i+1)) { delta:=0,bias:=Cf s.delta (s.done+1) (s.done==basic),done:=s.done+1,out:=s.out++P4 s.delta 0 s.bias }:=by rw [L7,if_neg hp,if_pos rfl]
    obtain ⟨q1,q2,q3,q4,q5⟩:=ih (i+1) n { delta:=0,bias:=Cf s.delta (s.done+1) (s.done==basic),done:=s.done+1,out:=s.out++P4 s.delta 0 s.bias } (by omega) (by omega) (by simp only;omega) had (by simp only [List.length_append];omega) (by simp only;omega) hb
    rw [hs,List.countP_cons_of_pos (by simp)]
    refine ⟨λR k0=>?_,q2,?_,?_,?_⟩
    ·rw [W5]
     have hbeq:((s.done:Int)==(basic:Int))=(s.done==basic):=by grind
     rw [C4,L5,P8,Int.toNat_natCast,ok]
     simp only [cond_true,vl,hg,e1,e3]
     rw [A6,cond_false,beq_self_eq_true,cond_true,Al,Al,List.length_map,Nat.ble_eq_true_of_le (show s.out.length<=100000 by omega),Al,C4,hbeq]
     simp only [cond_true,Int.toNat_natCast]
     have hrow:List.append (s.out.map G2) ((P4 s.delta 0 s.bias).map G2)=(s.out++P4 s.delta 0 s.bias).map G2:=by rw [List.map_append];rfl
     rw [hrow]
     exact q1 R k0
    ·simp only [List.length_append] at q3;omega
    ·simp only at q4;omega
    ·simp only at q5
     rw [Gz]
     split at q5<;>omega
   ·have hne:(p==m)=false:=by rw [beq_eq_false_iff_ne];omega
    have hs:L7 m basic (p::pts.drop (i+1)) s=L7 m basic (pts.drop (i+1)) s:=by rw [L7,if_neg hp,if_neg hq]
    obtain ⟨q1,q2,q3,q4,q5⟩:=ih (i+1) n s (by omega) (by omega) (by omega) h2 (by omega) (by omega) hb
    rw [hs,List.countP_cons_of_neg (by rw [hne];simp)]
    refine ⟨λR k0=>?_,q2,q3,q4,?_⟩
    ·rw [W5]
     rw [C4,L5,P8,Int.toNat_natCast,ok]
     simp only [cond_true,vl,hg,e1]
     rw [A6,cond_false,show ((p:Int)==(m:Int))=false by rw [beq_eq_false_iff_ne];omega,cond_false]
     exact q1 R k0
    ·split at q5<;>split<;>omega
theorem QT {R:Type} {k0:Bool->Bool->LL->Int->Int->Int->Int->Int->Int->LL->Option R} (z t:Bool) (pts:List Nat) (hl:pts.length<=256) (n0:Nat) (basic delta bias done:Int) (l:LL):∀ (r i n m:Nat),i+r=pts.length->r<n->
  Dp LF n z t (G5 pts) basic (n0:Int) delta bias done (m:Int) (pts.length:Int) (i:Int) l k0=k0 z t (G5 pts) basic (n0:Int) delta bias done ((J8 n0 (pts.drop i) m:Nat):Int) l:=by
 intro r
 induction r with
 | zero=>
  intro i n m hi hn
  obtain ⟨n,rfl⟩:∃ m,n=m+1:=⟨n-1,by omega⟩
  rw [Dp]
  rw [A6,List.drop_of_length_le (by omega)]
  rfl
 | succ r ih=>
  intro i n m hi hn
  obtain ⟨n,rfl⟩:∃ m,n=m+1:=⟨n-1,by omega⟩
  have hg:=OA pts i (by omega)
  have ok:=FC (l:=pts) (i:=i) (by omega)
  rw [Dp,IF pts i (by omega)]
  generalize pts.getD i 0=p at *
  have e1:A4 ((i:Int)+1)=((i+1:Nat):Int):=by rw [A5];rfl
  rw [C4,L5,P8,Int.toNat_natCast,ok]
  simp only [cond_true,vl,hg,e1,J8]
  by_cases h:n0<=p
  ·rw [if_pos h,A6,Bool.not_false,cond_true]
   have:(if (p:Int)<(m:Int) then (p:Int) else (m:Int))=((min m p:Nat):Int):=by split<;>omega
   rw [this]
   exact ih (i+1) n (min m p) (by omega) (by omega)
  ·rw [if_neg h,C4,Bool.not_true,cond_false]
   exact ih (i+1) n m (by omega) (by omega)
theorem Ih (n:Nat):∀ (l:List Nat) (m:Nat),(J8 n l m=m\/(J8 n l m∈l/\n<=J8 n l m))/\J8 n l m<=m/\∀ p∈l,n<=p->J8 n l m<=p
 | [],m=>⟨.inl rfl,Nat.le_refl _,λp h=>by cases h⟩
 | q::r,m=>by
  obtain ⟨h1,h2,h3⟩:=Ih n r (if n<=q then min m q else m)
  simp only [J8]
  grind
theorem Uq {n m:Nat} (hnm:n<=m):∀ l:List Nat,(∀ p∈l,n<=p->m<=p)->l.countP (λp=>decide (p<m+1))=l.countP (λp=>decide (p<n))+l.countP (· == m)
 | [],_=>rfl
 | p::l,h=>by
  have ih:=Uq hnm l (λq hq=>h q (List.mem_cons_of_mem _ hq))
  have hp:=h p List.mem_cons_self
  grind
theorem Ae8 {n:Nat} {l:List Nat} (h:l.countP (λp=>decide (p<n))<l.length):∃ p∈l,n<=p:=by
 apply Classical.byContradiction
 intro hc
 have:l.countP (λp=>decide (p<n))=l.length:=by simp_all
 omega
theorem Al2 (z t:Bool) (pts:List Nat) (basic:Nat) (hl:pts.length<=256) (hb:basic<=256) (hall:∀ p∈pts,p<=1114111):∀ (f n n':Nat) (s:LJ),s.done=pts.countP (λp=>decide (p<n))->pts.length<=s.done+f->f<n'->s.delta<=300->s.bias<=500->s.out.length+20*(pts.length-s.done)<=80000->n<=1114112->
  ∀ (R:Type) (k0:LL->Option R),Bo LF n' z t (G5 pts) (basic:Int) (n:Int) (s.delta:Int) (s.bias:Int) (s.done:Int) (s.out.map G2) k0=k0 ((T8 pts basic f n s).out.map G2):=by
 intro f
 have hLF:=I4
 induction f with
 | zero=>
  intro n n' s hd hf hn h1 h2 h3 h4 R k0
  obtain ⟨n',rfl⟩:∃ m,n'=m+1:=⟨n'-1,by omega⟩
  rw [Bo]
  rw [L5,A6]
  rfl
 | succ f ih=>
  intro n n' s hd hf hn h1 h2 h3 h4 R k0
  obtain ⟨n',rfl⟩:∃ m,n'=m+1:=⟨n'-1,by omega⟩
  rw [Bo]
  rw [L5]
  have hcl:pts.countP (λp=>decide (p<n))<=pts.length:=List.countP_le_length
  by_cases hlt:s.done<pts.length
  ·obtain ⟨p0,hp0,hp1⟩:=Ae8 (n:=n) (l:=pts) (by omega)
   obtain ⟨g1,g2,g3⟩:=Ih n pts 1114112
   have g4:=g3 p0 hp0 hp1
   have g5:=hall p0 hp0
   have hmem:J8 n pts 1114112∈pts/\n<=J8 n pts 1114112:=by grind
   have he:T8 pts basic (f+1) n s=T8 pts basic f (J8 n pts 1114112+1) { L7 (J8 n pts 1114112) basic pts { s with delta:=s.delta+(J8 n pts 1114112-n)*(s.done+1) } with delta:=(L7 (J8 n pts 1114112) basic pts { s with delta:=s.delta+(J8 n pts 1114112-n)*(s.done+1) }).delta+1 }:=by
    rw [T8,if_pos hlt]
   rw [he,C4,cond_true]
   have hleast:=λ(K:Bool->Bool->LL->Int->Int->Int->Int->Int->Int->LL->Option R)=>QT (k0:=K) z t pts hl n (basic:Int) (s.delta:Int) (s.bias:Int) (s.done:Int) (s.out.map G2) pts.length 0 LF 1114112 (by omega) (by omega)
   rw [List.drop_zero] at hleast
   refine Eq.trans (hleast _) ?_
   generalize J8 n pts 1114112=m at *
   have hmul:(m-n)*(s.done+1)<=1114112*256:=Nat.mul_le_mul (by omega) (by omega)
   have e1:A4 ((s.done:Int)+1)=((s.done+1:Nat):Int):=by rw [A5];rfl
   have e2:A4 ((m:Int)-(n:Int))=((m-n:Nat):Int):=by rw [A5];omega
   have e3:A4 (((m-n:Nat):Int)*((s.done+1:Nat):Int))=(((m-n)*(s.done+1):Nat):Int):=by
    rw [<-Int.natCast_mul]
    exact A5
   have e4:A4 ((s.delta:Int)+(((m-n)*(s.done+1):Nat):Int))=((s.delta+(m-n)*(s.done+1):Nat):Int):=by
    rw [A5];rfl
   simp only [vl,e1,e2,e3,e4]
   have hin:=UU z t pts basic m (by omega) hl pts.length 0 LF { s with delta:=s.delta+(m-n)*(s.done+1) } (by omega) (by omega) (by simp only;omega) h2 (by simp only;omega) (by simp only;omega) hb
   rw [List.drop_zero] at hin
   obtain ⟨q1,q2,q3,q4,q5⟩:=hin
   rw [L5]
   refine Eq.trans (q1 R _) ?_
   have hcnt:0<pts.countP (· == m):=List.countP_pos_iff.2 ⟨m,hmem.1,by simp⟩
   rw [if_pos hcnt] at q5
   have hstep:=Uq hmem.2 pts g3
   generalize L7 m basic pts { s with delta:=s.delta+(m-n)*(s.done+1) } = s' at *
   simp only at q3 q4
   have e5:A4 ((s'.delta:Int)+1)=((s'.delta+1:Nat):Int):=by rw [A5];rfl
   have e6:A4 ((m:Int)+1)=((m+1:Nat):Int):=by rw [A5];rfl
   have hcl2:pts.countP (λp=>decide (p<m+1))<=pts.length:=List.countP_le_length
   simp only [e5,e6]
   exact ih (m+1) n' { s' with delta:=s'.delta+1 } (by simp only;omega) (by simp only;omega) (by omega) (by simp only;omega) q2 (by simp only;omega) (by omega) R k0
  ·rw [A6]
   rw [T8,if_neg hlt]
   rfl
def Dy (l:List Int):By:=(l.filter λx=>decide (x<128)).map λx=>UInt8.ofNat x.toNat
theorem Bc9 (x:Int) (h0:0<=x) (h:x<128):[SV.int .u8 (wu8 x)]=G2 (UInt8.ofNat x.toNat):=by
 unfold G2
 have e:wu8 x=x:=by unfold wu8;exact Int.emod_eq_of_lt h0 (show x<256 by omega)
 rw [e]
 have:((UInt8.ofNat x.toNat).toNat:Int)=x:=by simp;omega
 rw [this]
theorem Wp {x:Int} (h:ptI x=true):0<=x/\x<=1114111:=by
 cases x with
 | negSucc m=>cases h
 | ofNat m=>
  have:Hk m=true:=h
  unfold Hk at this
  simp only [Bool.and_eq_true,Nat.ble_eq] at this
  grind
theorem QO (z t:Bool) (P:List Int) (hl:P.length<=256):∀ (r i n:Nat) (out:By),i+r=P.length->r<n->out.length+r<=1000->
  ((P.drop i).all ptI=true->∀ (R:Type) (k0:LL->Option R) (k1:Bool->Bool->LL->LL->Option R),O7 LF n z t (Ey P) (P.length:Int) (i:Int) (out.map G2) k0 k1=k1 z t (Ey P) ((out++Dy (P.drop i)).map G2))/\
  ((P.drop i).all ptI=false->∃ l,∀ (R:Type) (k0:LL->Option R) (k1:Bool->Bool->LL->LL->Option R),O7 LF n z t (Ey P) (P.length:Int) (i:Int) (out.map G2) k0 k1=k0 l):=by
 intro r
 induction r with
 | zero=>
  intro i n out hi hn ho
  obtain ⟨n,rfl⟩:∃ m,n=m+1:=⟨n-1,by omega⟩
  rw [List.drop_of_length_le (by omega)]
  refine ⟨λ_ R k0 k1=>?_,λh=>(by cases h)⟩
  rw [O7]
  rw [A6]
  simp [Dy]
 | succ r ih=>
  intro i n out hi hn ho
  obtain ⟨n,rfl⟩:∃ m,n=m+1:=⟨n-1,by omega⟩
  have hg:=Ah4 P i (by omega)
  have ok:=UP (l:=P) (i:=i) (by omega)
  rw [Af8 P i (by omega)]
  generalize P.getD i 0=x at *
  have e1:A4 ((i:Int)+1)=((i+1:Nat):Int):=by rw [A5];rfl
  cases hx:ptI x with
  | false=>
   refine ⟨λh=>?_,λ_=>⟨out.map G2,λR k0 k1=>?_⟩⟩
   ·rw [List.all_cons,hx] at h;cases h
   ·rw [O7]
    rw [C4,Ez,P8,Int.toNat_natCast,ok]
    simp only [cond_true,vl,hg,hx,Bool.not_false]
  | true=>
   obtain ⟨p0,p1⟩:=Wp hx
   rw [List.all_cons,hx,Bool.true_and]
   by_cases h128:x<128
   ·have hbs:Dy (x::P.drop (i+1))=UInt8.ofNat x.toNat::Dy (P.drop (i+1)):=by
     unfold Dy;rw [List.filter_cons_of_pos (by simpa using h128)];rfl
    have hrow:out.map G2++[[SV.int .u8 (wu8 x)]]=(out++[UInt8.ofNat x.toNat]).map G2:=by rw [Bc9 x p0 h128];simp
    obtain ⟨q1,q2⟩:=ih (i+1) n (out++[UInt8.ofNat x.toNat]) (by omega) (by omega) (by simp;omega)
    have step:∀ (R:Type) (k0:LL->Option R) (k1:Bool->Bool->LL->LL->Option R),O7 LF (n+1) z t (Ey P) (P.length:Int) (i:Int) (out.map G2) k0 k1=O7 LF n z t (Ey P) (P.length:Int) ((i+1:Nat):Int) ((out++[UInt8.ofNat x.toNat]).map G2) k0 k1:=by
     intro R k0 k1
     rw [O7]
     rw [C4,Ez,P8,Int.toNat_natCast,ok]
     simp only [cond_true,vl,hg,hx,Bool.not_true,cond_false,e1]
     rw [E0 h128,List.length_map,J3 (by omega),hrow]
     rfl
    refine ⟨λh R k0 k1=>?_,λh=>?_⟩
    ·rw [step,q1 h,hbs];simp
    ·obtain ⟨l,e⟩:=q2 h
     exact ⟨l,λR k0 k1=>by rw [step];exact e R k0 k1⟩
   ·have hbs:Dy (x::P.drop (i+1))=Dy (P.drop (i+1)):=by
     unfold Dy;rw [List.filter_cons_of_neg (by simpa using h128)]
    obtain ⟨q1,q2⟩:=ih (i+1) n out (by omega) (by omega) (by omega)
    have step:∀ (R:Type) (k0:LL->Option R) (k1:Bool->Bool->LL->LL->Option R),O7 LF (n+1) z t (Ey P) (P.length:Int) (i:Int) (out.map G2) k0 k1=O7 LF n z t (Ey P) (P.length:Int) ((i+1:Nat):Int) (out.map G2) k0 k1:=by
     intro R k0 k1
     rw [O7]
     rw [C4,Ez,P8,Int.toNat_natCast,ok]
     simp only [cond_true,vl,hg,hx,Bool.not_true,cond_false,e1]
     rw [A6]
     rfl
    refine ⟨λh R k0 k1=>?_,λh=>?_⟩
    ·rw [step,q1 h,hbs]
    ·obtain ⟨l,e⟩:=q2 h
     exact ⟨l,λR k0 k1=>by rw [step];exact e R k0 k1⟩
theorem A23 {P:List Int} (h:P.all ptI=true):∃ pts:List Nat,P=pts.map (λn:Nat=>(n:Int))/\pts.all Hk=true/\∀ p∈pts,p<=1114111:=by
 induction P with
 | nil=>exact ⟨[],rfl,rfl,by simp⟩
 | cons x P ih=>
  rw [List.all_cons,Bool.and_eq_true] at h
  obtain ⟨pts,rfl,h1,h2⟩:=ih h.2
  obtain ⟨p0,p1⟩:=Wp h.1
  obtain ⟨m,rfl⟩:=Int.eq_ofNat_of_zero_le p0
  refine ⟨m::pts,rfl,?_,?_⟩
  ·rw [List.all_cons,h1,Bool.and_true];exact h.1
  grind
theorem MN (pts:List Nat):Dy (pts.map λn:Nat=>(n:Int))=L3 pts:=by
 unfold Dy L3
 induction pts with
 | nil=>rfl
 | cons p r ih=>
  grind
theorem Ud (pts:List Nat):(L3 pts).length=pts.countP (λp=>decide (p<128)):=by
 unfold L3
 grind
theorem QP (z t:Bool) (P:List Int):(Dc P=([],3)/\∀ (R:Type) (k0:Unit->Option R) (k1:By->Int->LL->Option R),KA LF z t (Ey P) k0 k1=k0 ())\/
  (∃ l,∀ (R:Type) (k0:Unit->Option R) (k1:By->Int->LL->Option R),KA LF z t (Ey P) k0 k1=k1 (Dc P).1 ((Dc P).2:Nat) l):=by
 have hLF:=I4
 by_cases hl:256<P.length
 ·refine .inl ⟨by unfold Dc;rw [if_pos hl],λR k0 k1=>?_⟩
  unfold KA
  rw [Ez,C4]
  rfl
 ·right
  obtain ⟨q1,q2⟩:=QO z t P (by omega) P.length 0 LF [] (by omega) (by omega) (by simp;omega)
  rw [List.drop_zero] at q1 q2
  cases ha:P.all ptI with
  | false=>
   obtain ⟨l,e⟩:=q2 ha
   refine ⟨l,λR k0 k1=>?_⟩
   unfold KA
   rw [Ez,A6,cond_false]
   refine Eq.trans (e R _ _) ?_
   unfold Dc
   rw [if_neg hl,ha]
   rfl
  | true=>
   obtain ⟨pts,rfl,hp1,hp2⟩:=A23 ha
   rw [List.length_map] at hl
   have hen:Dc (pts.map λn:Nat=>(n:Int))=Fw pts:=by
    unfold Dc
    rw [List.length_map,if_neg hl,ha]
    simp [Function.comp_def]
   have hbl:=Ud pts
   have hbc:pts.countP (λp=>decide (p<128))<=pts.length:=List.countP_le_length
   have main:∀ (o:By),o.length<=300->∀ (R:Type) (k0:LL->Option R),Bo LF LF z t (G5 pts) ((L3 pts).length:Int) 128 0 72 ((L3 pts).length:Int) (o.map G2) k0=k0 ((T8 pts (L3 pts).length 256 128 { delta:=0,bias:=72,done:=(L3 pts).length,out:=o }).out.map G2):=by
    intro o ho R k0
    exact Al2 z t pts (L3 pts).length (by omega) (by omega) hp2 256 128 LF { delta:=0,bias:=72,done:=(L3 pts).length,out:=o } hbl (by simp only;omega) (by omega) (by simp) (by simp) (by simp only;omega) (by omega) R k0
   have he2:Fw pts=((T8 pts (L3 pts).length 256 128 { delta:=0,bias:=72,done:=(L3 pts).length,out:=if (L3 pts).isEmpty then [] else L3 pts++[45] }).out,0):=by
    unfold Fw
    grind
   refine ⟨(Fw pts).1.map G2,λR k0 k1=>?_⟩
   unfold KA
   rw [Ez,List.length_map,A6,cond_false,hen]
   have q1':=q1 ha R
   rw [List.length_map] at q1'
   refine Eq.trans (q1' _ _) ?_
   rw [List.nil_append,MN,Qf]
   simp only [vl,List.length_map]
   by_cases hbe:L3 pts=[]
   ·rw [hbe,List.length_nil,A6,cond_false]
    have mm:=main [] (by simp) R
    rw [hbe,List.length_nil] at mm
    rw [List.map_nil] at mm
    refine Eq.trans (mm _) ?_
    rw [hbe] at he2
    rw [he2]
    simp only [List.isEmpty_nil,if_true,List.length_nil]
    rw [Lr,Mx]
    rfl
   ·have hpos:0<(L3 pts).length:=List.length_pos_iff.2 hbe
    rw [C4,cond_true,J3 (by omega),cond_true]
    have hrow:(L3 pts).map G2++[[SV.int .u8 (45:Int)]]=(L3 pts++[45]).map G2:=by rw [List.map_append];rfl
    rw [hrow]
    refine Eq.trans (main (L3 pts++[45]) (by simp;omega) R _) ?_
    rw [he2,if_neg (by simpa using hbe)]
    rw [Lr,Mx]
    rfl
theorem A12 (z t:Bool) (p:LL) (h0:p.all Ro=true):∃ r H,KA LF z t p (λ_=>rv (.tup [.s (.str []),.s (.int .i64 3)]) []) (λr0 r1 l=>rv (.tup [.s (.str r0),.s (.int .i64 r1)]) [.arr true 5 1 l])=rv r H/\
  r.stab [0,0] H = .tup [.s (.str (Dc (p.map elI)).1),.s (.int .i64 ((Dc (p.map elI)).2:Nat))]:=by
 obtain ⟨P,rfl⟩:=Av7 h0
 rw [Ag0]
 rcases QP z t P with ⟨h1,h2⟩ | ⟨l,h2⟩
 ·exact ⟨_,_,h2 _ _ _,by rw [h1];rfl⟩
 ·exact ⟨_,_,h2 _ _ _,rfl⟩
section
variable {σ R : Type} (lf : Nat) (cl : E1) (yh : Yh σ) (s : σ) (k : Out -> St σ -> Option R)
noncomputable abbrev A82:Code:=F0 Tryz.f198
noncomputable def Pd (lf:Nat):Cfg:=D2 lf [198] (A3 [(3,[0,1,0,0])]) [(194,To),(202,MD)] (A3 [(17,[2]),(16,[0,2,0,53]),(15,[0,2,0]),(14,[2]),(13,[0,2,0,1,45]),(12,[0,2,0,0,0]),(11,[2]),(10,[0,2,0,0,41]),(9,[0,2,0,0]),(8,[0,2,0,0]),(7,[2]),(6,[0,2,0,0,18]),(5,[0,2,0,0]),(4,[2]),(3,[0,2,0,11]),(2,[0,2,0]),(1,[0,2]),(0,[0])]) [202] (A3 [(0,[2]),(1,[0,2,0])]) (some [2]) [(201,Iy)] [] [201]
noncomputable def Bg {R:Type} (lf n:Nat) (w0:Int) (s1:By) (n2 n3 n4:Int) (b5 z6:Bool) (l7:LL) (n8v:Int) (k0:Int->By->Int->Int->Int->Bool->Bool->LL->Int->Option R):Option R:=match n with | 0=>none | n+1=>cond (s1==[]) (k0 4 s1 n2 n3 n4 b5 z6 l7 n8v) (cond (inR 0 s1.length) (cond (inR (bAt s1 (0:Int)) 256) (vl (I5 (u8n (bAt s1 (0:Int)))) λn'1=>cond (ltI n'1 0) (k0 4 s1 n2 n3 n4 b5 z6 l7 n8v) (cond (Z4 1 (s1.length:Int) s1.length) (vl (cut s1 1 (s1.length:Int)) λs'3=>vl (A4 (n3+(A4 (n'1*w0)))) λn'5=>cond (ltI 1099511627776 n'5) (k0 19 s'3 n2 n'5 n4 b5 z6 l7 n8v) (cond (ltN n8v 1000000000000) (cond (ltN n4 1000000) (cond (ltI n'1 (U5 n8v n4)) (k0 0 s'3 n2 n'5 n4 b5 z6 l7 (Int.add n8v (36:Int))) (vl (A4 ((36:Int)-(U5 n8v n4))) λn'6=>cond (ltI 1099511627776 (A4 (w0*n'6))) (k0 19 s'3 n2 n'5 n4 b5 z6 l7 (Int.add n8v (36:Int))) (Bg lf n (A4 (w0*n'6)) s'3 n2 n'5 n4 b5 z6 l7 (Int.add n8v (36:Int)) k0))) none) none)) none)) none) none)
theorem NT (n w0 s1 n2 n3 n4 b5 z6 l7 n8v):G9 4 ((Pd lf).keep 3) (bd (Pd lf) cl yh (cd [1,1,1,0,0] A82)) n ⟨gp [(0,.ptr 0 0 0),(2,.fnr (Fn.func 201) [] [.ptr 3 0 0,.ptr 2 0 0]),(0,pI w0)] 54,[.box [pS s1,.fl 1,pI n2,pI n3,pI n4,pB b5],.arr z6 3 1 l7,.box [pI n4],.box [pI n8v]],s⟩ k =
 Bg lf n w0 s1 n2 n3 n4 b5 z6 l7 n8v (λn0 s1 n2 n3 n4 b5 z6 l7 n8v=>k .ret ⟨gp [(2,pI n0)] 56,[.box [pS s1,.fl 1,pI n2,pI n3,pI n4,pB b5],.arr z6 3 1 l7,.box [pI n4],.box [pI n8v]],s⟩):=by
 induction n generalizing w0 s1 n2 n3 n4 b5 z6 l7 n8v with
 | zero=>rfl
 | succ n ih=>rw [Bg];simp only [<-ih];kernel_rfl
noncomputable def A92 {R:Type} (lf:Nat) (rest:By) (n i b:Int) (st z:Bool) (l:LL) (k0:Int->By->Int->Int->Int->Bool->Bool->LL->Int->Option R):Option R:=Bg lf lf 1 rest n i b st z l 0 (λn'7 s'8 n'9 n'10 n'11 b'12 z'13 l'14 n'15=>k0 n'7 s'8 n'9 n'10 n'11 b'12 z'13 l'14 n'15)
theorem At8 (d:Nat) (rest n i b st z l):evC (Pd lf) (d+1) σ yh 198 [.ptr 0 0 0] [.box [pS rest,.fl 1,pI n,pI i,pI b,pB st],.arr z 3 1 l] s=A92 lf rest n i b st z l (λr0 s1 n2 n3 n4 b5 z6 l7 n8v=>some (pI r0,[.box [pS s1,.fl 1,pI n2,pI n3,pI n4,pB b5],.arr z6 3 1 l7,.box [pI n4],.box [pI n8v]],s)):=by
 refine (evE (fn:=Tryz.f198) (by kernel_rfl)).trans ?_
 generalize evC (Pd lf) d=cl
 unfold A92;exact (Eq.trans (by kernel_rfl) ((NT lf cl yh s (M3 0 (K9 (Pd lf) Tryz.f198)) lf 1 rest n i b st z l 0).trans (by kernel_rfl)))
noncomputable def DO (lf:Nat):Cfg:=D2 lf [189] (A3 []) [(186,Hm),(184,Hn)] (A3 [(16,[2]),(15,[]),(14,[0]),(13,[2]),(12,[0,67]),(11,[2]),(10,[0,4,60]),(9,[0,4]),(8,[0,4]),(7,[0,4]),(6,[0,4]),(5,[0,2,1]),(4,[2]),(3,[0,2,0,8]),(2,[0,2,0]),(1,[0,2]),(0,[0])]) [186,184] (A3 []) (some [2]) [(198,BC),(199,CZ)] [] [198,199]
noncomputable def TS {R:Type} (lf:Nat) (rest:By) (n i b:Int) (st z:Bool) (l:LL) (k0:Int->By->Int->Int->Int->Bool->Bool->LL->Option R):Option R:=cond (A2 rest.length) (cond (ltN b 1000000) (cond (ltN i 1099511627777) (cond ((Wd b rest i) != 0) (k0 (Wd b rest i) (We b rest i) n (Ld b rest i) b st z l) (vl (A4 ((l.length:Int)+1)) λn'1=>vl (A4 ((Ld b rest i)-i)) λn'4=>cond (ltN n'4 1152921504606846976) (cond (ltN n'1 1000000) (cond (ltI 0 n'1) (vl (↑(Cf (Int.toNat n'4) (Int.toNat n'1) (not st)):Int) λn'5=>cond (n'1 != 0) (vl (A4 (Int.tdiv (Ld b rest i) n'1)) λn'7=>cond (n'1 != 0) (vl (Int.tmod (Ld b rest i) n'1) λn'9=>cond (not (ptI (A4 (n+n'7)))) (k0 2 (We b rest i) (A4 (n+n'7)) n'9 n'5 true z l) (cond (ltI 256 n'1) (k0 3 (We b rest i) (A4 (n+n'7)) n'9 n'5 true z l) (cond (ltN n'9 (Nat.add l.length 1)) (cond (Nat.ble l.length 100000) (vl (Gc l (Int.toNat n'9) (A4 (n+n'7))) λl'11=>k0 0 (We b rest i) (A4 (n+n'7)) (A4 (n'9+1)) n'5 true z l'11) none) none))) none) none) none) none) none)) none) none) none
theorem Af9 (d:Nat) (rest n i b st z l):evC (DO lf) (d+1) σ yh 189 [.ptr 0 0 0] [.box [pS rest,.fl 1,pI n,pI i,pI b,pB st],.arr z 3 1 l] s=TS lf rest n i b st z l (λr0 s1 n2 n3 n4 b5 z6 l7=>some (pI r0,[.box [pS s1,.fl 1,pI n2,pI n3,pI n4,pB b5],.arr z6 3 1 l7],s)):=by
 refine (evE (fn:=Tryz.f189) (by kernel_rfl)).trans ?_
 generalize evC (DO lf) d=cl
 unfold TS;kernel_rfl
noncomputable abbrev Ko:Code:=F0 Tryz.f170
noncomputable def S6 (lf:Nat):Cfg:=D2 lf [170] (A3 [(20,[2,0,1]),(13,[0,1,0,1,0,22,0]),(4,[0,1,0,9,0])]) [(97,Sm)] (A3 [(24,[2,0]),(23,[2,0]),(22,[5,2,59]),(21,[5,2]),(20,[5,58]),(19,[2,0]),(18,[5,53]),(17,[5]),(16,[0,4,0,22,0]),(15,[0,4,0,22,0]),(14,[0,4,0,0,21,0]),(13,[0,4,0,22,0,0]),(12,[0,4,0,22,0]),(11,[0,4,0,21]),(10,[0,4,0]),(9,[0,4]),(8,[0,12,0]),(7,[2,0]),(6,[0,12,0,5]),(5,[0,3,8,0]),(4,[0,12,0,0]),(3,[0,12,0]),(2,[2,0]),(1,[0,10]),(0,[0])]) [97] (A3 [(4,[5]),(5,[5]),(2,[0,4,0]),(3,[0,4,0,22,0]),(0,[0]),(1,[0,12,0])]) (some [2,0]) [(189,Sl)] [] [189] (nt:=[(199,1,3,1)])
noncomputable def Gl {R:Type} (lf n:Nat) (s0:By) (n1 n2:Int) (k0:Unit->Option R) (k1:By->Option R):Option R:=match n with | 0=>none | n+1=>cond (ltI n2 n1) (cond (inR n2 s0.length) (cond (not (ltI (bAt s0 n2) (128:Int))) (k0 ()) (Gl lf n s0 n1 (A4 (n2+1)) k0 k1)) none) (k1 s0)
theorem QM (n s0 n1 n2):G9 0 ((S6 lf).keep 4) (bd (S6 lf) cl yh (cd [1,1,0,1,0,0] Ko)) n ⟨gp [(0,pS s0),(12,pI n1),(0,pI n2)] 59,[],s⟩ k =
 Gl lf n s0 n1 n2 (λ_=>k .ret ⟨gp [(2,.fl 0),(0,pI (4:Int))] 70,[.arr true 3 1 []],s⟩) (λs0=>k (.exit 0) ⟨gp [(0,pS s0)] 73,[],s⟩):=by
 induction n generalizing s0 n1 n2 with
 | zero=>rfl
 | succ n ih=>rw [Gl];simp only [<-ih];kernel_rfl
noncomputable def Dn {R:Type} (lf n:Nat) (s0:By) (kk1 n2:Int) (l3:LL) (k0:By->Int->LL->Option R):Option R:=match n with | 0=>none | n+1=>cond (ltI n2 kk1) (cond (inR n2 s0.length) (cond (K4 (l3.length+1)) (Dn lf n s0 kk1 (A4 (n2+1)) (l3++[[(SV.int .i64 (A4 (bAt s0 n2)))]]) k0) none) none) (k0 s0 kk1 l3)
theorem QN (n s0 kk1 n2 l3):G9 2 ((S6 lf).keep 13) (bd (S6 lf) cl yh (cd [1,1,1,1,0,1,1,0,0,1,0,0] Ko)) n ⟨gp [(0,pS s0),(4,.ptr 1 0 0),(0,pI kk1),(22,pI kk1),(0,pI n2)] 43,[.arr true 3 1 l3,.box [pS s0,.fl 0,pI (128:Int),pI (0:Int),pI (72:Int),pB false]],s⟩ k =
 Dn lf n s0 kk1 n2 l3 (λs0 kk1 l2=>k (.exit 2) ⟨gp [(0,pS s0),(4,.ptr 1 0 0),(0,pI kk1)] 67,[.arr true 3 1 l2,.box [pS s0,.fl 0,pI (128:Int),pI (0:Int),pI (72:Int),pB false]],s⟩):=by
 induction n generalizing s0 kk1 n2 l3 with
 | zero=>rfl
 | succ n ih=>rw [Dn];simp only [<-ih];kernel_rfl
noncomputable def N4 {R:Type} (lf n:Nat) (l0:LL) (s1:By) (n2 n3 n4:Int) (b5:Bool) (k0:Int->LL->By->Int->Int->Int->Bool->Option R) (k1:LL->By->Int->Int->Int->Bool->Option R):Option R:=match n with | 0=>none | n+1=>cond (not (s1==[])) (cond (A2 s1.length) (cond (ltN n4 1000000) (cond (ltN n3 1099511627777) (cond (ltN n2 1152921504606846976) (cond (Nat.ble l0.length 100000) (vl ((D6 (DS.mk s1 n2 n3 n4 b5 l0))).1 λn'10=>vl (DS.l ((D6 (DS.mk s1 n2 n3 n4 b5 l0))).2) λl'11=>cond (n'10 != 0) (k0 n'10 l'11 (DS.rest ((D6 (DS.mk s1 n2 n3 n4 b5 l0))).2) (DS.n ((D6 (DS.mk s1 n2 n3 n4 b5 l0))).2) (DS.i ((D6 (DS.mk s1 n2 n3 n4 b5 l0))).2) (DS.b ((D6 (DS.mk s1 n2 n3 n4 b5 l0))).2) (DS.st ((D6 (DS.mk s1 n2 n3 n4 b5 l0))).2)) (N4 lf n l'11 (DS.rest ((D6 (DS.mk s1 n2 n3 n4 b5 l0))).2) (DS.n ((D6 (DS.mk s1 n2 n3 n4 b5 l0))).2) (DS.i ((D6 (DS.mk s1 n2 n3 n4 b5 l0))).2) (DS.b ((D6 (DS.mk s1 n2 n3 n4 b5 l0))).2) (DS.st ((D6 (DS.mk s1 n2 n3 n4 b5 l0))).2) k0 k1)) none) none) none) none) none) (k1 l0 s1 n2 n3 n4 b5)
theorem Wm (n l0 s1 n2 n3 n4 b5):G9 2 ((S6 lf).keep 20) (bd (S6 lf) cl yh (cd [1,1,1,1,1,1,0,0,0] Ko)) n ⟨gp [(5,.ptr 1 0 0)] 68,[.arr true 3 1 l0,.box [pS s1,.fl 0,pI n2,pI n3,pI n4,pB b5]],s⟩ k =
 N4 lf n l0 s1 n2 n3 n4 b5 (λn0 l1 s2 n3 n4 n5 b6=>k .ret ⟨gp [(2,.fl 2),(0,pI n0)] 70,[.arr true 3 1 l1,.box [pS s2,.fl 0,pI n3,pI n4,pI n5,pB b6],.arr true 3 1 []],s⟩) (λl0 s1 n2 n3 n4 b5=>k (.exit 4) ⟨gp [(5,.ptr 1 0 0)] 68,[.arr true 3 1 l0,.box [pS s1,.fl 0,pI n2,pI n3,pI n4,pB b5]],s⟩):=by
 induction n generalizing l0 s1 n2 n3 n4 b5 with
 | zero=>rfl
 | succ n ih=>rw [N4];simp only [<-ih];kernel_rfl
noncomputable def Ng {R:Type} (lf:Nat) (s0:By) (k0:Int->Option R) (k1:Int->LL->By->Int->Int->Int->Bool->Option R) (k2:LL->By->Int->Int->Int->Bool->Option R):Option R:=cond (ltI 1024 (s0.length:Int)) (k0 3) (Gl lf lf s0 (s0.length:Int) 0 (λ_=>k0 4) (λs'0=>cond (A2 s'0.length) (vl (F9 (u8n (45:Int)) s'0) λn'4=>cond (ltI 0 n'4) (Dn lf lf s'0 n'4 0 [] (λs'5 kk'6 l'7=>vl (A4 (kk'6+1)) λn'8=>cond (Z4 n'8 (s'5.length:Int) s'5.length) (vl (cut s'5 n'8 (s'5.length:Int)) λs'9=>cond (ltI 256 (l'7.length:Int)) (k1 3 l'7 s'9 128 0 72 false) (N4 lf lf l'7 s'9 128 0 72 false (λn'12 l'13 s'14 n'15 n'16 n'17 b'18=>k1 n'12 l'13 s'14 n'15 n'16 n'17 b'18) (λl'19 s'20 n'21 n'22 n'23 b'24=>k2 l'19 s'20 n'21 n'22 n'23 b'24))) none)) (N4 lf lf [] s'0 128 0 72 false (λn'25 l'26 s'27 n'28 n'29 n'30 b'31=>k1 n'25 l'26 s'27 n'28 n'29 n'30 b'31) (λl'32 s'33 n'34 n'35 n'36 b'37=>k2 l'32 s'33 n'34 n'35 n'36 b'37))) none))
theorem A07 (d:Nat) (s0):evC (S6 lf) (d+1) σ yh 170 [pS s0] [] s=Ng lf s0 (λr0=>some (.tup [.fl 0,pI r0],[.arr true 3 1 []],s)) (λr0 l1 s2 n3 n4 n5 b6=>some (.tup [.fl 2,pI r0],[.arr true 3 1 l1,.box [pS s2,.fl 0,pI n3,pI n4,pI n5,pB b6],.arr true 3 1 []],s)) (λl0 s1 n2 n3 n4 b5=>some (.tup [.fl 0,pI (0:Int)],[.arr true 3 1 l0,.box [pS s1,.fl 0,pI n2,pI n3,pI n4,pB b5]],s)):=by
 refine (evE (fn:=Tryz.f170) (by kernel_rfl)).trans ?_
 generalize evC (S6 lf) d=cl
 unfold Ng;exact let K0:=(M3 4 (N1 (S6 lf) cl yh (cd [1,1,1,1,1,1,1] Ko) (K9 (S6 lf) Tryz.f170)));(Eq.trans (by kernel_rfl) (A1 rfl ((QM lf cl yh s (M3 0 (N1 (S6 lf) cl yh (cd [1,1,1] Ko) (K9 (S6 lf) Tryz.f170))) lf s0 (s0.length:Int) 0).trans (congr (congr rfl (by kernel_rfl)) (fx1 λs'0=>(Eq.trans (by kernel_rfl) (A1 (C2 λn'4=>(A1 ((QN lf cl yh s (M3 2 (N1 (S6 lf) cl yh (cd [1,1,1,1,0,1,1,0,1] Ko) (N1 (S6 lf) cl yh (cd [1,1,1,1,1] Ko) (K9 (S6 lf) Tryz.f170)))) lf s'0 n'4 0 []).trans (congr rfl (fx3 λs'5 kk'6 l'7=>(Eq.trans (by kernel_rfl) (C2 λn'8=>(A1 (C2 λs'9=>(A1 rfl ((Wm lf cl yh s K0 lf l'7 s'9 128 0 72 false).trans (by kernel_rfl)))) rfl)))))) ((Wm lf cl yh s K0 lf [] s'0 128 0 72 false).trans (by kernel_rfl)))) rfl)))))))
noncomputable abbrev HM:Code:=F0 Tryz.f142
noncomputable def Ch (lf:Nat):Cfg:=D2 lf [142] (A3 [(2,[0,0,2,0])]) [] (A3 [(6,[4]),(3,[0,0,3]),(5,[4]),(4,[0,0,3,11]),(2,[0,0,3,4]),(1,[0,0,3]),(0,[0,0])]) [] (A3 [(0,[]),(1,[0,0,3])]) (some [4]) [] [] []
noncomputable def Y3 {R:Type} (lf n:Nat) (s0:By) (c1 i2:Int) (k0:Int->Option R) (k1:Unit->Option R):Option R:=match n with | 0=>none | n+1=>cond (not (ltI i2 0)) (cond (inR i2 s0.length) (cond ((bAt s0 i2)==c1) (k0 i2) (Y3 lf n s0 c1 (A4 (i2-1)) k0 k1)) none) (k1 ())
theorem EL (n s0 c1 i2):G9 0 ((Ch lf).keep 2) (bd (Ch lf) cl yh (cd [1,0,1,0,0] HM)) n ⟨gp [(0,pS s0),(0,p8 c1),(3,pI i2)] 13,[],s⟩ k =
 Y3 lf n s0 c1 i2 (λn0=>k .ret ⟨gp [(4,pI n0)] 14,[],s⟩) (λ_=>k (.exit 0) ⟨gp [] 19,[],s⟩):=by
 induction n generalizing s0 c1 i2 with
 | zero=>rfl
 | succ n ih=>rw [Y3];simp only [<-ih];kernel_rfl
noncomputable def EK {R:Type} (lf:Nat) (s0:By) (c1:Int) (k0:Int->Option R):Option R:=vl (A4 ((s0.length:Int)-1)) λn'1=>Y3 lf lf s0 c1 n'1 (λn'2=>k0 n'2) (λ_=>k0 (-1))
theorem XE (d:Nat) (s0 c1):evC (Ch lf) (d+1) σ yh 142 [pS s0,p8 c1] [] s=EK lf s0 c1 (λr0=>some (pI r0,[],s)):=by
 refine (evE (fn:=Tryz.f142) (by kernel_rfl)).trans ?_
 generalize evC (Ch lf) d=cl
 unfold EK;exact (Eq.trans (by kernel_rfl) (C2 λn'1=>((EL lf cl yh s (M3 0 (N1 (Ch lf) cl yh (cd [1,1] HM) (K9 (Ch lf) Tryz.f142))) lf s0 c1 n'1).trans (by kernel_rfl))))
noncomputable def DR (lf:Nat):Cfg:=D2 lf [97] (A3 []) [(142,GS)] (A3 [(1,[4]),(0,[0,0])]) [142] (A3 []) (some [4]) [] [] []
noncomputable def UA {R:Type} (lf:Nat) (s0:By) (c1:Int) (k0:Int->Option R):Option R:=cond (A2 s0.length) (cond (inR c1 256) (k0 (F9 (u8n c1) s0)) none) none
theorem Aj3 (d:Nat) (s0 c1):evC (DR lf) (d+1) σ yh 97 [pS s0,p8 c1] [] s=UA lf s0 c1 (λr0=>some (pI r0,[],s)):=by
 refine (evE (fn:=Tryz.f97) (by kernel_rfl)).trans ?_
 generalize evC (DR lf) d=cl
 unfold UA;kernel_rfl
end
theorem Oa (c:UInt8):-1<=I5 c/\I5 c<=35:=by
 unfold I5 Hi
 grind
theorem Xe (k b:Int):1<=U5 k b/\U5 k b<=26:=by unfold U5;omega
theorem Qe {x w:Int} (h0:0<=x) (h1:x<=35) (w0:0<=w) (w1:w<=1099511627776):0<=x*w/\x*w<=38482906972160:=by
 refine ⟨Int.mul_nonneg h0 w0,?_⟩
 have:=Int.mul_le_mul h1 w1 w0 (show (0:Int)<=35 by omega)
 omega
theorem EE (b:Int):∀ (s:By) (i w k:Int),0<=i->0<=w->w<=1099511627776->(Eu b s i w k).1=0->i<=(Eu b s i w k).2.2/\(Eu b s i w k).2.2<=1099511627776/\(Eu b s i w k).2.1.length<s.length
 | [],i,w,k,_,_,_,h=>by simp [Eu] at h
 | c::r,i,w,k,hi,hw,hw1,h=>by
  have hv:=Oa c
  have ht:=Xe k b
  unfold Eu at h ⊢
  split at h
  ·simp at h
  ·rename_i h1
   rw [if_neg h1]
   have hm:=Qe (by omega) hv.2 hw hw1
   split at h
   ·simp at h
   ·rename_i h2
    rw [if_neg h2]
    split at h
    ·grind
    ·rename_i h3
     rw [if_neg h3]
     split at h
     ·omega
     ·rename_i h4
      rw [if_neg h4]
      obtain ⟨q1,q2,q3⟩:=EE b r (i+I5 c*w) (w*(36-U5 k b)) (k+36) (by omega) (Int.mul_nonneg hw (by omega)) (by omega) h
      grind
theorem WH (n2:Int) (b:Int) (st z:Bool) (l:LL) (hb0:0<=b) (hb1:b<1000000):∀ (s:By) (n:Nat) (i w k:Int),s.length<n->s.length<=1000000000->0<=i->i<=1099511627776->0<=w->w<=1099511627776->0<=k->k+36*s.length<=100000000000->
  ∃ k',∀ (R:Type) (k0:Int->By->Int->Int->Int->Bool->Bool->LL->Int->Option R),Bg LF n w s n2 i b st z l k k0=k0 (Eu b s i w k).1 (Eu b s i w k).2.1 n2 (Eu b s i w k).2.2 b st z l k':=by
 intro s
 induction s with
 | nil=>
  intro n i w k hn hs hi hi1 hw hw1 hk hk1
  obtain ⟨n,rfl⟩:∃ m,n=m+1:=⟨n-1,by omega⟩
  refine ⟨k,λR k0=>?_⟩
  rw [Bg]
  rfl
 | cons c r ih=>
  intro n i w k hn hs hi hi1 hw hw1 hk hk1
  obtain ⟨n,rfl⟩:∃ m,n=m+1:=⟨n-1,by omega⟩
  rw [List.length_cons] at hn hs hk1
  have hv:=Oa c
  have ht:=Xe k b
  have hu:u8n (bAt (c::r) 0)=c:=by unfold u8n bAt;simp
  have hin:inR (bAt (c::r) 0) 256=true:=by rw [Uc];have:=c.toNat_lt;exact N7 (by omega) (by simp;omega)
  have hcut:cut (c::r) 1 ((c::r).length:Int)=r:=by
   have:=Fv (c::r) 1 (c::r).length
   grind
  have hne:((c::r)==([]:By))=false:=rfl
  have start:∀ (R:Type) (k0:Int->By->Int->Int->Int->Bool->Bool->LL->Int->Option R),Bg LF (n+1) w (c::r) n2 i b st z l k k0 =
    cond (ltI (I5 c) 0) (k0 4 (c::r) n2 i b st z l k)
     (vl (A4 (i+(A4 (I5 c*w)))) λn'5=>cond (ltI 1099511627776 n'5) (k0 19 r n2 n'5 b st z l k)
      (cond (ltI (I5 c) (U5 k b)) (k0 0 r n2 n'5 b st z l (Int.add k 36))
       (vl (A4 (36-(U5 k b))) λn'6=>cond (ltI 1099511627776 (A4 (w*n'6))) (k0 19 r n2 n'5 b st z l (Int.add k 36)) (Bg LF n (A4 (w*n'6)) r n2 n'5 b st z l (Int.add k 36) k0)))):=by
   intro R k0
   rw [Bg]
   rw [hne,hin,N7 (by omega) (by rw [List.length_cons];omega),El (by omega) (by rw [List.length_cons];omega) (by omega),hcut,hu,Al,Al]
   rfl
  unfold Eu
  by_cases h1:I5 c<0
  ·rw [if_pos h1]
   refine ⟨k,λR k0=>?_⟩
   rw [start,E0 h1]
   rfl
  ·rw [if_neg h1]
   have hm:=Qe (by omega) hv.2 hw hw1
   have e1:A4 (I5 c*w)=I5 c*w:=A5
   have e2:A4 (i+I5 c*w)=i+I5 c*w:=A5
   by_cases h2:1099511627776<i+I5 c*w
   ·rw [if_pos h2]
    refine ⟨k,λR k0=>?_⟩
    rw [start,A6,e1,e2]
    simp only [vl,cond_false]
    rw [E0 h2]
    rfl
   ·rw [if_neg h2]
    by_cases h3:I5 c<U5 k b
    ·rw [if_pos h3]
     refine ⟨Int.add k 36,λR k0=>?_⟩
     rw [start,A6,e1,e2]
     simp only [vl,cond_false]
     rw [A6,E0 h3]
     rfl
    ·rw [if_neg h3]
     have e3:A4 (36-U5 k b)=36-U5 k b:=A5
     have hm2:=Qe (x:=36-U5 k b) (by omega) (by omega) hw hw1
     rw [Int.mul_comm] at hm2
     have e4:A4 (w*(36-U5 k b))=w*(36-U5 k b):=A5
     by_cases h4:1099511627776<w*(36-U5 k b)
     ·rw [if_pos h4]
      refine ⟨Int.add k 36,λR k0=>?_⟩
      rw [start,A6,e1,e2]
      simp only [vl,cond_false]
      rw [A6,A6,e3,e4,E0 h4]
      rfl
     ·rw [if_neg h4]
      obtain ⟨k',e⟩:=ih n (i+I5 c*w) (w*(36-U5 k b)) (k+36) (by omega) (by omega) (by omega) (by omega) (by omega) (by omega) (by omega) (by omega)
      refine ⟨k',λR k0=>?_⟩
      rw [start,A6,e1,e2]
      simp only [vl,cond_false]
      rw [A6,A6,e3,e4,A6]
      exact e R k0
theorem WI (rest:By) (n i b:Int) (st z:Bool) (l:LL) (h0:A2 rest.length=true) (h1:ltN b 1000000=true) (h2:ltN i 1099511627777=true) :
  ∃ k',∀ (R:Type) (k0:Int->By->Int->Int->Int->Bool->Bool->LL->Int->Option R),A92 LF rest n i b st z l k0=k0 (Wd b rest i) (We b rest i) n (Ld b rest i) b st z l k':=by
 have hs:=M9 h0
 obtain ⟨b0,b1⟩:=O5.1 h1
 obtain ⟨i0,i1⟩:=O5.1 h2
 have hLF:=I4
 obtain ⟨k',e⟩:=WH n b st z l b0 (by omega) rest LF i 1 0 (by omega) (by omega) i0 (by omega) (by omega) (by omega) (by omega) (by omega)
 exact ⟨k',λR k0=>e R _⟩
theorem NU {R:Type} {k0:Int->By->Int->Int->Int->Bool->Bool->LL->Option R} (rest:By) (n i b:Int) (st z:Bool) (l:LL) (h0:A2 rest.length=true) (h1:ltN b 1000000=true) (h2:ltN i 1099511627777=true) (h3:ltN n 1152921504606846976=true) (h4:Nat.ble l.length 100000=true) :
  TS LF rest n i b st z l k0=k0 (D6 ⟨rest,n,i,b,st,l⟩).1 (D6 ⟨rest,n,i,b,st,l⟩).2.rest (D6 ⟨rest,n,i,b,st,l⟩).2.n (D6 ⟨rest,n,i,b,st,l⟩).2.i (D6 ⟨rest,n,i,b,st,l⟩).2.b (D6 ⟨rest,n,i,b,st,l⟩).2.st z (D6 ⟨rest,n,i,b,st,l⟩).2.l:=by
 obtain ⟨i0,i1⟩:=O5.1 h2
 obtain ⟨n0,n1⟩:=O5.1 h3
 have hl:=Nat.le_of_ble_eq_true h4
 unfold TS D6
 rw [h0,h1,h2]
 simp only [cond_true]
 by_cases he:Wd b rest i=0
 ·rw [if_pos he,he]
  obtain ⟨q1,q2,q3⟩:=EE b rest i 1 0 i0 (by omega) (by omega) he
  have q1':i<=Ld b rest i:=q1
  have q2':Ld b rest i<=1099511627776:=q2
  have e1:A4 ((l.length:Int)+1)=(l.length:Int)+1:=A5
  simp only [vl]
  rw [e1]
  generalize Ld b rest i=x at *
  have hx0:0<=x:=by omega
  obtain ⟨X,rfl⟩:=Int.eq_ofNat_of_zero_le hx0
  have e2:A4 ((X:Int)-i)=(X:Int)-i:=A5
  have ec:((l.length:Int)+1)=((l.length+1:Nat):Int):=rfl
  have ed:Int.tdiv (X:Int) ((l.length+1:Nat):Int)=((X / (l.length+1):Nat):Int):=X1 _ _
  have em:Int.tmod (X:Int) ((l.length+1:Nat):Int)=((X % (l.length+1):Nat):Int):=Xf _ _
  have hd:=Nat.div_le_self X (l.length+1)
  have hm:=Nat.mod_lt X (show 0<l.length+1 by omega)
  rw [e2,ec,ed,em]
  generalize hA:X / (l.length+1)=A at *
  generalize hB:X % (l.length+1)=B at *
  have e3:A4 (A:Int)=(A:Int):=A5
  have e4:A4 (n+(A:Int))=n+(A:Int):=A5
  have e5:A4 ((B:Int)+1)=(B:Int)+1:=A5
  have c0:((0:Int) != 0)=false:=rfl
  have c1:((((l.length+1:Nat):Int)) != 0)=true:=by rw [bne_iff_ne];omega
  rw [e3,e4,e5,c0,Al,Al,C4,c1]
  simp only [cond_true,cond_false]
  cases hp:ptI (n+(A:Int)) with
  | false=>simp
  | true=>
   simp only [Bool.not_true,cond_false,if_true]
   by_cases h256:(256:Int)<((l.length+1:Nat):Int)
   ·rw [if_pos h256,E0 h256]
    rfl
   ·rw [if_neg h256,A6,cond_false,Zx (by omega) (by show (B:Int)<((l.length+1:Nat):Int);omega),h4]
    rfl
 ·rw [if_neg he,show (Wd b rest i != 0)=true from bne_iff_ne.2 he]
  rfl
theorem JJ (c:UInt8):∀ l:By,-1<=F9 c l
 | []=>by simp [F9]
 | b::r=>by
  have:=JJ c r
  unfold F9
  omega
theorem Vr (c b:UInt8):∀ l:By,F9 c (l++[b])=if b=c then (l.length:Int) else F9 c l
 | []=>by
  by_cases h:b=c<;>simp [F9,h]
 | a::l=>by
  have ih:=Vr c b l
  rw [List.cons_append,F9,ih]
  by_cases h:b=c
  ·grind
  ·rw [if_neg h,if_neg h]
   rfl
theorem JB {R:Type} {k0:Int->Option R} {k1:Unit->Option R} (s:By) (c:UInt8) (hs:s.length<=1000000000):∀ (m n:Nat),m<=s.length->m<n->
  Y3 LF n s (c.toNat:Int) ((m:Int)-1) k0 k1=if F9 c (s.take m)<0 then k1 () else k0 (F9 c (s.take m)):=by
 intro m
 induction m with
 | zero=>
  intro n hm hn
  obtain ⟨n,rfl⟩:∃ m,n=m+1:=⟨n-1,by omega⟩
  rw [Y3]
  rw [C4]
  rfl
 | succ m ih=>
  intro n hm hn
  obtain ⟨n,rfl⟩:∃ m,n=m+1:=⟨n-1,by omega⟩
  rw [Y3]
  have e0:(((m+1:Nat):Int)-1)=(m:Int):=by omega
  have e1:A4 ((m:Int)-1)=(m:Int)-1:=A5
  have ht:s.take (m+1)=s.take m++[s.getD m 0]:=by
   rw [List.take_add_one,List.getD_eq_getElem?_getD,List.getElem?_eq_getElem (by omega)]
   rfl
  rw [e0,e1,A6,P8,N8,ht,Vr]
  simp only [Bool.not_false,cond_true]
  by_cases h:s.getD m 0=c
  ·rw [if_pos h,h,beq_self_eq_true,cond_true,List.length_take,Nat.min_eq_left (by omega),R7]
  ·have hne:(((s.getD m 0).toNat:Int)==(c.toNat:Int))=false:=by
    rw [beq_eq_false_iff_ne]
    intro he
    exact h (UInt8.toNat.inj (Int.ofNat.inj he))
   rw [if_neg h,hne,cond_false]
   exact ih n (by omega) (by omega)
theorem Ao1 {c:Int} (h:inR c 256=true):c=((u8n c).toNat:Int):=by
 simp only [inR,Bool.and_eq_true,decide_eq_true_eq] at h
 unfold u8n
 simp
 omega
theorem JC {R:Type} {k0:Int->Option R} (s:By) (c:Int) (h0:A2 s.length=true) (h1:inR c 256=true):EK LF s c k0=k0 (F9 (u8n c) s):=by
 have hs:=M9 h0
 have hLF:=I4
 have hc:=Ao1 h1
 generalize u8n c=d at *
 subst hc
 unfold EK
 have e1:A4 ((s.length:Int)-1)=(s.length:Int)-1:=A5
 simp only [vl]
 rw [e1]
 refine Eq.trans (JB s d (by omega) s.length LF (by omega) (by omega)) ?_
 rw [List.take_length]
 have:=JJ d s
 by_cases h:F9 d s<0
 ·rw [if_pos h,show F9 d s = -1 by omega]
 ·rw [if_neg h]
theorem OZ {R:Type} {k0:Int->Option R} (s:By) (c:Int) (h0:A2 s.length=true) (h1:inR c 256=true):UA LF s c k0=k0 (F9 (u8n c) s):=by
 unfold UA
 grind
theorem Rp:∀ s:By,(45∈s->F9 45 s=(M6 s:Int))/\(45∉s->F9 45 s = -1/\M6 s=0)
 | []=>⟨λh=>(by cases h),λ_=>⟨rfl,rfl⟩⟩
 | b::r=>by
  obtain ⟨h1,h2⟩:=Rp r
  unfold F9 M6
  grind
theorem KW {c:UInt8} (h:Hi c=none):I5 c = -1:=by unfold I5;rw [h]
theorem KX {c:UInt8} {x:Nat} (h:Hi c=some x):I5 c=x:=by unfold I5;rw [h]
theorem IE (b:Nat):∀ (s:By) (i w k:Nat),Eu (b:Int) s (i:Int) (w:Int) ((36*k:Nat):Int)=((((D1 b s i w k).2.2:Nat):Int),(Eu (b:Int) s (i:Int) (w:Int) ((36*k:Nat):Int)).2)/\
  ((D1 b s i w k).2.2=0->(Eu (b:Int) s (i:Int) (w:Int) ((36*k:Nat):Int)).2=((D1 b s i w k).2.1,((D1 b s i w k).1:Int)))
 | [],i,w,k=>⟨rfl,λh=>by simp [D1] at h⟩
 | c::r,i,w,k=>by
  unfold Eu D1
  cases hv:Hi c with
  | none=>
   rw [KW hv,Gz]
   grind
  | some x=>
   rw [KX hv,R7,Xd]
   have e1:(i:Int)+(x:Int)*(w:Int)=((i+x*w:Nat):Int):=by push_cast;rfl
   have ht:=Z5 k b
   have e2:(w:Int)*(36-(thr k b:Int))=((w*(36-thr k b):Nat):Int):=by grind
   have e3:((36*k:Nat):Int)+36=((36*(k+1):Nat):Int):=by omega
   have hsat:Ef=1099511627776:=by decide
   rw [e1,e2,e3,hsat]
   simp only
   generalize i+x*w=I
   generalize w*(36-thr k b)=W
   by_cases h2:1099511627776<I
   ·grind
   ·rw [R7,if_neg h2]
    by_cases h3:x<thr k b
    ·grind
    ·rw [R7,if_neg h3]
     by_cases h4:1099511627776<W
     ·grind
     ·rw [R7,if_neg h4]
      exact IE b r I W (k+1)
theorem Ai6 (l:List Nat) (i n:Nat):Gc (G5 l) i (n:Int)=G5 (Rm l i n):=by
 unfold Gc Rm G5
 simp_all
theorem EX (b:Nat) (s:By) (i:Nat):Wd (b:Int) s (i:Int)=((D1 b s i 1 0).2.2:Int)/\((D1 b s i 1 0).2.2=0->We (b:Int) s (i:Int)=(D1 b s i 1 0).2.1/\Ld (b:Int) s (i:Int)=((D1 b s i 1 0).1:Int)):=by
 obtain ⟨h1,h2⟩:=IE b s i 1 0
 have e:Eu (b:Int) s (i:Int) 1 0=Eu (b:Int) s (i:Int) ((1:Nat):Int) ((36*0:Nat):Int):=rfl
 unfold Wd We Ld
 rw [e]
 refine ⟨by rw [h1],λh=>?_⟩
 have:=h2 h
 rw [this]
 exact ⟨rfl,rfl⟩
theorem Bh8 (s:By) (pts:List Nat) (n i b:Nat) (st:Bool) (h:(D1 b s i 1 0).2.2=0) (hi:i<=(D1 b s i 1 0).1) (hp:Hk (n+(D1 b s i 1 0).1 / (pts.length+1))=true) (hc:¬ 256<pts.length+1) :
  D6 ⟨s,(n:Int),(i:Int),(b:Int),st,G5 pts⟩=(0,⟨(D1 b s i 1 0).2.1,((n+(D1 b s i 1 0).1 / (pts.length+1):Nat):Int),(((D1 b s i 1 0).1 % (pts.length+1)+1:Nat):Int),((Cf ((D1 b s i 1 0).1-i) (pts.length+1) (!st):Nat):Int),true,G5 (Rm pts ((D1 b s i 1 0).1 % (pts.length+1)) (n+(D1 b s i 1 0).1 / (pts.length+1)))⟩):=by
 obtain ⟨h1,h2⟩:=EX b s i
 obtain ⟨h3,h4⟩:=h2 h
 unfold D6
 simp only
 rw [h1,h,if_pos (show ((0:Nat):Int)=0 from rfl),h3,h4,L5]
 generalize (D1 b s i 1 0).1=X at *
 have ec:((pts.length:Int)+1)=((pts.length+1:Nat):Int):=rfl
 have ed:Int.tdiv (X:Int) ((pts.length+1:Nat):Int)=((X / (pts.length+1):Nat):Int):=X1 _ _
 have em:Int.tmod (X:Int) ((pts.length+1:Nat):Int)=((X % (pts.length+1):Nat):Int):=Xf _ _
 have en:(n:Int)+((X / (pts.length+1):Nat):Int)=((n+X / (pts.length+1):Nat):Int):=rfl
 rw [ec,ed,em,en,Sv,hp,if_pos rfl,R7,Int.toNat_natCast,Ai6,Int.toNat_natCast,show ((X:Int)-(i:Int)).toNat=X-i by omega]
 rfl
theorem A93 (s:By) (pts:List Nat) (n i b:Nat) (st:Bool):((D1 b s i 1 0).2.2≠0->(D6 ⟨s,(n:Int),(i:Int),(b:Int),st,G5 pts⟩).1=((D1 b s i 1 0).2.2:Int))/\
  ((D1 b s i 1 0).2.2=0->Hk (n+(D1 b s i 1 0).1 / (pts.length+1))=false->(D6 ⟨s,(n:Int),(i:Int),(b:Int),st,G5 pts⟩).1=2)/\
  ((D1 b s i 1 0).2.2=0->Hk (n+(D1 b s i 1 0).1 / (pts.length+1))=true->256<pts.length+1->(D6 ⟨s,(n:Int),(i:Int),(b:Int),st,G5 pts⟩).1=3):=by
 obtain ⟨h1,h2⟩:=EX b s i
 have ec:(((G5 pts).length:Int)+1)=((pts.length+1:Nat):Int):=by rw [L5];rfl
 have ed:∀ X:Nat,Int.tdiv (X:Int) ((pts.length+1:Nat):Int)=((X / (pts.length+1):Nat):Int):=λX=>X1 _ _
 have en:∀ A:Nat,(n:Int)+(A:Int)=((n+A:Nat):Int):=λA=>rfl
 refine ⟨λh=>?_,λh hp=>?_,λh hp hc=>?_⟩
 ·unfold D6
  simp only
  rw [h1,R7]
 ·obtain ⟨h3,h4⟩:=h2 h
  unfold D6
  simp only
  rw [h1,h,if_pos (show ((0:Nat):Int)=0 from rfl),h4,ec,ed,en,Sv,hp,if_neg (by simp)]
 ·obtain ⟨h3,h4⟩:=h2 h
  unfold D6
  simp only
  rw [h1,h,if_pos (show ((0:Nat):Int)=0 from rfl),h4,ec,ed,en,Sv,hp,if_pos rfl,Gz]
theorem Ky (pts:List Nat) (n i b:Nat) (f:Bool):O0 [] pts n i b f=(pts,0):=by rw [O0];rfl
theorem Uu {s:By} (hs:s≠[]) (pts:List Nat) (n i b:Nat) (f:Bool) (h:(D1 b s i 1 0).2.2≠0):O0 s pts n i b f=([],(D1 b s i 1 0).2.2):=by
 rw [O0,dif_neg hs]
 grind
theorem Rg {s:By} (hs:s≠[]) (pts:List Nat) (n i b:Nat) (f:Bool) (h:(D1 b s i 1 0).2.2=0):O0 s pts n i b f =
  if Hk (n+(D1 b s i 1 0).1 / (pts.length+1)) then (if 256<pts.length+1 then ([],3) else O0 (D1 b s i 1 0).2.1 (Rm pts ((D1 b s i 1 0).1 % (pts.length+1)) (n+(D1 b s i 1 0).1 / (pts.length+1))) (n+(D1 b s i 1 0).1 / (pts.length+1)) ((D1 b s i 1 0).1 % (pts.length+1)+1) (Cf ((D1 b s i 1 0).1-i) (pts.length+1) f) false) else ([],2):=by
 rw [O0,dif_neg hs]
 simp only
 rw [dif_pos h]
theorem Zl (l:List Nat) (i n:Nat):(Rm l i n).length=l.length+1:=by
 unfold Rm
 grind
theorem YV:∀ (r:Nat) (s:By) (pts:List Nat) (n i b f:Nat) (st:Bool),s.length<=r->r<f->s.length<=1000000->pts.length<=256->n<=1114111->i<=1000->b<=500->
  ((O0 s pts n i b (!st)).2=0->∃ s' n' i' b' st',∀ (R:Type) (k0:Int->LL->By->Int->Int->Int->Bool->Option R) (k1:LL->By->Int->Int->Int->Bool->Option R),N4 LF f (G5 pts) s (n:Int) (i:Int) (b:Int) st k0 k1=k1 (G5 (O0 s pts n i b (!st)).1) s' n' i' b' st')/\
  ((O0 s pts n i b (!st)).2≠0->(O0 s pts n i b (!st)).1=[]/\∃ l s' n' i' b' st',∀ (R:Type) (k0:Int->LL->By->Int->Int->Int->Bool->Option R) (k1:LL->By->Int->Int->Int->Bool->Option R),N4 LF f (G5 pts) s (n:Int) (i:Int) (b:Int) st k0 k1=k0 ((O0 s pts n i b (!st)).2:Nat) l s' n' i' b' st'):=by
 intro r
 induction r with
 | zero=>
  intro s pts n i b f st h hf _ _ _ _ _
  obtain ⟨f,rfl⟩:∃ m,f=m+1:=⟨f-1,by omega⟩
  have hs:s=[]:=List.length_eq_zero_iff.1 (by omega)
  subst hs
  rw [Ky]
  refine ⟨λ_=>⟨[],n,i,b,st,λR k0 k1=>?_⟩,λh=>absurd rfl h⟩
  rw [N4]
  rfl
 | succ r ih=>
  intro s pts n i b f st h hf h1 h2 h3 h4 h5
  obtain ⟨f,rfl⟩:∃ m,f=m+1:=⟨f-1,by omega⟩
  by_cases hs:s=[]
  ·subst hs
   rw [Ky]
   refine ⟨λ_=>⟨[],n,i,b,st,λR k0 k1=>?_⟩,λh=>absurd rfl h⟩
   rw [N4]
   rfl
  ·have start:∀ (R:Type) (k0:Int->LL->By->Int->Int->Int->Bool->Option R) (k1:LL->By->Int->Int->Int->Bool->Option R),N4 LF (f+1) (G5 pts) s (n:Int) (i:Int) (b:Int) st k0 k1 =
     cond ((D6 ⟨s,n,i,b,st,G5 pts⟩).1 != 0) (k0 (D6 ⟨s,n,i,b,st,G5 pts⟩).1 (D6 ⟨s,n,i,b,st,G5 pts⟩).2.l (D6 ⟨s,n,i,b,st,G5 pts⟩).2.rest (D6 ⟨s,n,i,b,st,G5 pts⟩).2.n (D6 ⟨s,n,i,b,st,G5 pts⟩).2.i (D6 ⟨s,n,i,b,st,G5 pts⟩).2.b (D6 ⟨s,n,i,b,st,G5 pts⟩).2.st)
      (N4 LF f (D6 ⟨s,n,i,b,st,G5 pts⟩).2.l (D6 ⟨s,n,i,b,st,G5 pts⟩).2.rest (D6 ⟨s,n,i,b,st,G5 pts⟩).2.n (D6 ⟨s,n,i,b,st,G5 pts⟩).2.i (D6 ⟨s,n,i,b,st,G5 pts⟩).2.b (D6 ⟨s,n,i,b,st,G5 pts⟩).2.st k0 k1):=by
    intro R k0 k1
    rw [N4]
    rw [show (s==([]:By))=false from beq_eq_false_iff_ne.2 hs,Dt,Al,Al,Al,L5,Nat.ble_eq_true_of_le (show pts.length<=100000 by omega)]
    rfl
   obtain ⟨d1,d2,d3⟩:=A93 s pts n i b st
   have hok:=Bh8 s pts n i b st
   generalize D6 ⟨s,n,i,b,st,G5 pts⟩=D at *
   by_cases he:(D1 b s i 1 0).2.2=0
   ·rw [Rg hs pts n i b (!st) he]
    obtain ⟨m1,m2⟩:=EX b s i
    obtain ⟨m3,m4⟩:=m2 he
    have hE:Wd (b:Int) s (i:Int)=0:=by rw [m1,he];rfl
    obtain ⟨q1,q2,q3⟩:=EE b s i 1 0 (by omega) (by omega) (by omega) hE
    have q1':(i:Int)<=Ld (b:Int) s (i:Int):=q1
    have q2':Ld (b:Int) s (i:Int)<=1099511627776:=q2
    have q3':(We (b:Int) s (i:Int)).length<s.length:=q3
    rw [m4] at q1' q2'
    rw [m3] at q3'
    cases hp:Hk (n+(D1 b s i 1 0).1 / (pts.length+1)) with
    | false=>
     rw [if_neg (by simp)]
     refine ⟨λh=>by simp at h,λ_=>⟨rfl,D.2.l,D.2.rest,D.2.n,D.2.i,D.2.b,D.2.st,λR k0 k1=>?_⟩⟩
     ·rw [start,d2 he hp]
      rfl
    | true=>
     rw [if_pos rfl]
     by_cases hc:256<pts.length+1
     ·rw [if_pos hc]
      refine ⟨λh=>by simp at h,λ_=>⟨rfl,D.2.l,D.2.rest,D.2.n,D.2.i,D.2.b,D.2.st,λR k0 k1=>?_⟩⟩
      rw [start,d3 he hp hc]
      rfl
     ·rw [if_neg hc]
      have hok:=hok he (by omega) hp hc
      have hn':n+(D1 b s i 1 0).1 / (pts.length+1)<=1114111:=by
       unfold Hk at hp
       simp_all
      have hmod:=Nat.mod_lt (D1 b s i 1 0).1 (show 0<pts.length+1 by omega)
      have had:=GZ ((D1 b s i 1 0).1-i) (pts.length+1) (!st) (by omega)
      have:=ih (D1 b s i 1 0).2.1 (Rm pts ((D1 b s i 1 0).1 % (pts.length+1)) (n+(D1 b s i 1 0).1 / (pts.length+1))) (n+(D1 b s i 1 0).1 / (pts.length+1)) ((D1 b s i 1 0).1 % (pts.length+1)+1) (Cf ((D1 b s i 1 0).1-i) (pts.length+1) (!st)) f true (by omega) (by omega) (by omega) (by rw [Zl];omega) hn' (by omega) had
      obtain ⟨p1,p2⟩:=this
      refine ⟨λh=>?_,λh=>?_⟩
      ·obtain ⟨s',n',i',b',st',e⟩:=p1 h
       refine ⟨s',n',i',b',st',λR k0 k1=>?_⟩
       rw [start,hok]
       exact e R k0 k1
      ·obtain ⟨pe,l,s',n',i',b',st',e⟩:=p2 h
       refine ⟨pe,l,s',n',i',b',st',λR k0 k1=>?_⟩
       rw [start,hok]
       exact e R k0 k1
   ·rw [Uu hs pts n i b (!st) he]
    refine ⟨λh=>absurd h he,λ_=>⟨rfl,D.2.l,D.2.rest,D.2.n,D.2.i,D.2.b,D.2.st,λR k0 k1=>?_⟩⟩
    rw [start,d1 he,show (((D1 b s i 1 0).2.2:Int) != 0)=true by rw [bne_iff_ne];omega]
    rfl
theorem AB (l:List Nat):PT l=G5 l:=rfl
theorem QK {R:Type} {k0:Unit->Option R} {k1:By->Option R} (s:By) (hs:s.length<=1000000):∀ (r i n:Nat),i+r=s.length->r<n->
  Gl LF n s (s.length:Int) (i:Int) k0 k1=if (s.drop i).any (λb=>Nat.ble 128 b.toNat) then k0 () else k1 s:=by
 intro r
 induction r with
 | zero=>
  intro i n hi hn
  obtain ⟨n,rfl⟩:∃ m,n=m+1:=⟨n-1,by omega⟩
  rw [Gl]
  rw [A6,List.drop_of_length_le (by omega)]
  rfl
 | succ r ih=>
  intro i n hi hn
  obtain ⟨n,rfl⟩:∃ m,n=m+1:=⟨n-1,by omega⟩
  rw [Gl]
  have e1:A4 ((i:Int)+1)=((i+1:Nat):Int):=by rw [A5];rfl
  rw [C4,P8,N8,R1 s i (by omega),e1,List.any_cons]
  simp only [cond_true]
  generalize s.getD i 0=b
  by_cases h:128<=b.toNat
  ·rw [A6,Nat.ble_eq_true_of_le h]
   rfl
  ·have:Nat.ble 128 b.toNat=false:=by rw [Bool.eq_false_iff,ne_eq,Nat.ble_eq];exact h
   rw [C4,this,Bool.false_or]
   exact ih (i+1) n (by omega) (by omega)
theorem YU {R:Type} {k0:By->Int->LL->Option R} (s:By) (hs:s.length<=1000000) (k:Nat) (hk:k<=s.length):∀ (r i n:Nat) (l:List Nat),i+r=k->r<n->l.length=i->
  Dn LF n s (k:Int) (i:Int) (G5 l) k0=k0 s (k:Int) (G5 (l++((s.take k).drop i).map (·.toNat))):=by
 intro r
 induction r with
 | zero=>
  intro i n l hi hn hl
  obtain ⟨n,rfl⟩:∃ m,n=m+1:=⟨n-1,by omega⟩
  rw [Dn]
  rw [A6,List.drop_of_length_le (by rw [List.length_take];omega)]
  simp
 | succ r ih=>
  intro i n l hi hn hl
  obtain ⟨n,rfl⟩:∃ m,n=m+1:=⟨n-1,by omega⟩
  rw [Dn]
  have e1:A4 ((i:Int)+1)=((i+1:Nat):Int):=by rw [A5];rfl
  have hd:(s.take k).drop i=s.getD i 0::(s.take k).drop (i+1):=by
   rw [R1 (s.take k) i (by rw [List.length_take];omega)]
   congr 1
   rw [List.getD_eq_getElem?_getD,List.getD_eq_getElem?_getD,List.getElem?_take_of_lt (by omega)]
  rw [C4,P8,N8,hd,L5,J3 (by omega),e1]
  simp only [cond_true]
  generalize s.getD i 0=b
  have hb:=b.toNat_lt
  have e2:A4 (b.toNat:Int)=(b.toNat:Int):=A5
  have hrow:G5 l++[[SV.int .i64 (A4 (b.toNat:Int))]]=G5 (l++[b.toNat]):=by rw [e2,JR];rfl
  rw [hrow,ih (i+1) n _ (by omega) (by omega) (by simp;omega)]
  simp
theorem Rq:∀ s:By,M6 s<=s.length-1
 | []=>by simp [M6]
 | b::r=>by
  have:=Rq r
  unfold M6
  grind
theorem QL (s:By) (h0:A2 s.length=true):(∃ e,R0 s=([],e)/\∀ (R:Type) (k0:Int->Option R) (k1:Int->LL->By->Int->Int->Int->Bool->Option R) (k2:LL->By->Int->Int->Int->Bool->Option R),Ng LF s k0 k1 k2=k0 (e:Nat))\/
  (∃ e l s' n' i' b' st',R0 s=([],e)/\∀ (R:Type) (k0:Int->Option R) (k1:Int->LL->By->Int->Int->Int->Bool->Option R) (k2:LL->By->Int->Int->Int->Bool->Option R),Ng LF s k0 k1 k2=k1 (e:Nat) l s' n' i' b' st')\/
  ((R0 s).2=0/\∃ s' n' i' b' st',∀ (R:Type) (k0:Int->Option R) (k1:Int->LL->By->Int->Int->Int->Bool->Option R) (k2:LL->By->Int->Int->Int->Bool->Option R),Ng LF s k0 k1 k2=k2 (G5 (R0 s).1) s' n' i' b' st'):=by
 have hLF:=I4
 unfold R0
 by_cases hl:1024<s.length
 ·rw [if_pos hl]
  refine .inl ⟨3,rfl,λR k0 k1 k2=>?_⟩
  unfold Ng
  rw [C4]
  rfl
 ·rw [if_neg hl]
  have asc:=λ(R:Type) (K0:Unit->Option R) (K1:By->Option R)=>QK (k0:=K0) (k1:=K1) s (by omega) s.length 0 LF (by omega) (by omega)
  rw [List.drop_zero] at asc
  cases ha:s.any (λb=>Nat.ble 128 b.toNat) with
  | true=>
   rw [if_pos rfl]
   refine .inl ⟨4,rfl,λR k0 k1 k2=>?_⟩
   unfold Ng
   rw [A6,cond_false]
   refine Eq.trans (asc R _ _) ?_
   rw [ha,if_pos rfl]
   rfl
  | false=>
   rw [if_neg (by simp)]
   obtain ⟨d1,d2⟩:=Rp s
   have hlt:=Rq s
   have key:∀ (pts:List Nat) (t:By),pts.length<=256->t.length<=1024->(∀ (R:Type) (k0:Int->Option R) (k1:Int->LL->By->Int->Int->Int->Bool->Option R) (k2:LL->By->Int->Int->Int->Bool->Option R),Ng LF s k0 k1 k2=N4 LF LF (G5 pts) t 128 0 72 false k1 k2)->
     (∃ e l s' n' i' b' st',O0 t pts 128 0 72 true=([],e)/\∀ (R:Type) (k0:Int->Option R) (k1:Int->LL->By->Int->Int->Int->Bool->Option R) (k2:LL->By->Int->Int->Int->Bool->Option R),Ng LF s k0 k1 k2=k1 (e:Nat) l s' n' i' b' st')\/
     ((O0 t pts 128 0 72 true).2=0/\∃ s' n' i' b' st',∀ (R:Type) (k0:Int->Option R) (k1:Int->LL->By->Int->Int->Int->Bool->Option R) (k2:LL->By->Int->Int->Int->Bool->Option R),Ng LF s k0 k1 k2=k2 (G5 (O0 t pts 128 0 72 true).1) s' n' i' b' st'):=by
    intro pts t hp ht he
    obtain ⟨p1,p2⟩:=YV t.length t pts 128 0 72 LF false (Nat.le_refl _) (by omega) (by omega) hp (by omega) (by omega) (by omega)
    rw [Bool.not_false] at p1 p2
    by_cases hz:(O0 t pts 128 0 72 true).2=0
    ·obtain ⟨s',n',i',b',st',e⟩:=p1 hz
     exact .inr ⟨hz,s',n',i',b',st',λR k0 k1 k2=>by rw [he];exact e R k1 k2⟩
    ·obtain ⟨pe,l,s',n',i',b',st',e⟩:=p2 hz
     exact .inl ⟨_,l,s',n',i',b',st',Prod.ext pe rfl,λR k0 k1 k2=>by rw [he];exact e R k1 k2⟩
   have hu:u8n 45=45:=rfl
   have top:∀ (R:Type) (k0:Int->Option R) (k1:Int->LL->By->Int->Int->Int->Bool->Option R) (k2:LL->By->Int->Int->Int->Bool->Option R),Ng LF s k0 k1 k2 =
     cond (ltI 0 (F9 45 s)) (Dn LF LF s (F9 45 s) 0 [] (λs'5 k'6 l'7=>cond (Z4 (A4 (k'6+1)) (s'5.length:Int) s'5.length)
      (vl (cut s'5 (A4 (k'6+1)) (s'5.length:Int)) λs'8=>cond (ltI 256 (l'7.length:Int)) (k1 3 l'7 s'8 128 0 72 false) (N4 LF LF l'7 s'8 128 0 72 false k1 k2)) none))
      (N4 LF LF [] s 128 0 72 false k1 k2):=by
    intro R k0 k1 k2
    unfold Ng
    rw [A6,cond_false]
    refine Eq.trans (asc R _ _) ?_
    rw [ha,if_neg (by simp),h0,hu]
    rfl
   by_cases hd:0<M6 s
   ·have hmem:45∈s:=by
     apply Classical.byContradiction
     intro h
     have:=(d2 h).2
     omega
    have hI:=d1 hmem
    generalize M6 s=m at *
    have hcopy:=λ(R:Type) (K:By->Int->LL->Option R)=>YU (k0:=K) s (by omega) m (by omega) m 0 LF [] (by omega) (by omega) rfl
    rw [List.drop_zero] at hcopy
    have e1:A4 ((m:Int)+1)=((m+1:Nat):Int):=by rw [A5];rfl
    have hlen:((s.take m).map (·.toNat)).length=m:=by rw [List.length_map,List.length_take];omega
    have top2:∀ (R:Type) (k0:Int->Option R) (k1:Int->LL->By->Int->Int->Int->Bool->Option R) (k2:LL->By->Int->Int->Int->Bool->Option R),Ng LF s k0 k1 k2 =
      cond (ltI 256 (m:Int)) (k1 3 (G5 ((s.take m).map (·.toNat))) (s.drop (m+1)) 128 0 72 false) (N4 LF LF (G5 ((s.take m).map (·.toNat))) (s.drop (m+1)) 128 0 72 false k1 k2):=by
     intro R k0 k1 k2
     rw [top,hI,C4,cond_true]
     refine Eq.trans (hcopy R _) ?_
     rw [e1,T0,Fv,List.take_length,List.nil_append,L5,hlen]
     rfl
    by_cases h256:256<m
    ·rw [if_pos h256]
     refine .inr (.inl ⟨3,G5 ((s.take m).map (·.toNat)),s.drop (m+1),128,0,72,false,rfl,λR k0 k1 k2=>?_⟩)
     rw [top2,C4]
     rfl
    ·rw [if_neg h256,if_neg (show ¬ m=0 by omega)]
     exact .inr (key _ (s.drop (m+1)) (by rw [hlen];omega) (by rw [List.length_drop];omega) (λR k0 k1 k2=>by rw [top2,A6];rfl))
   ·have hz:M6 s=0:=by omega
    have hI:¬ 0<F9 45 s:=by
     by_cases hm:45∈s
     all_goals grind
    rw [hz,R7,if_pos rfl]
    refine .inr (key [] s (by simp) (by omega) (λR k0 k1 k2=>?_))
    rw [top,A6]
    rfl
theorem EU (l:List Nat):(G5 l).isEmpty=l.isEmpty:=by cases l<;>rfl
theorem A08 (s:By) (h0:A2 s.length=true):∃ r H,Ng LF s (λr0=>rv (.tup [.fl 0,.s (.int .i64 r0)]) [.arr true 3 1 []]) (λr0 l1 s2 n3 n4 n5 b6=>rv (.tup [.fl 2,.s (.int .i64 r0)]) [.arr true 3 1 l1,.box [.s (.str s2),.fl 0,.s (.int .i64 n3),.s (.int .i64 n4),.s (.int .i64 n5),.s (.bool b6)],.arr true 3 1 []]) (λl0 s1 n2 n3 n4 b5=>rv (.tup [.fl 0,.s (.int .i64 (0:Int))]) [.arr true 3 1 l0,.box [.s (.str s1),.fl 0,.s (.int .i64 n2),.s (.int .i64 n3),.s (.int .i64 n4),.s (.bool b5)]])=rv r H/\
  r.stab [1,0] H = .tup [.s (.sl (R0 s).1.isEmpty (R0 s).1.isEmpty 1 (PT (R0 s).1)),.s (.int .i64 ((R0 s).2:Nat))]:=by
 rcases QL s h0 with ⟨e,h1,h2⟩ | ⟨e,l,s',n',i',b',st',h1,h2⟩ | ⟨h1,s',n',i',b',st',h2⟩
 ·refine ⟨_,_,h2 _ _ _ _,?_⟩
  rw [h1]
  rfl
 ·refine ⟨_,_,h2 _ _ _ _,?_⟩
  rw [h1]
  rfl
 ·refine ⟨_,_,h2 _ _ _ _,?_⟩
  rw [h1,AB]
  simp [PV.stab,Hj,Mh,PV.snap,I6,EU]
end
section
open Go
theorem Rz:∀ (f:Nat) (l:By),Lib.validGoD f l=(W6 f l).isSome
 | 0,_=>rfl
 | f+1,l=>by
  unfold Lib.validGoD W6
  split
  ·rfl
  ·split
   ·rfl
   ·rw [Rz f,Option.isSome_map]
theorem SJ (l:By):Lib.validD l=(Qi l).isSome:=Rz _ l
theorem AN:∀ (f:Nat) (s:ByteArray) (pos:Nat) (p:List Nat),pos<=s.size->W6 f (s.data.toList.drop pos)=some p->s.size-pos<=f->Lib.runeCountFrom s f pos=p.length
 | 0,s,pos,p,hp,h,hf=>by
  simp only [W6,Option.some.injEq] at h
  subst h;rfl
 | f+1,s,pos,p,hp,h,hf=>by
  have hsz:s.data.toList.length=s.size:=by rw [Array.length_toList];rfl
  unfold W6 at h
  rw [Lib.decodeL_drop] at h
  by_cases hps:pos<s.size
  ·rw [if_neg (by rw [<-List.length_eq_zero_iff,List.length_drop];omega)] at h
   split at h
   ·cases h
   ·cases hq:W6 f (List.drop (Utf8.decode s pos).2 (List.drop pos s.data.toList)) with
    | none=>rw [hq] at h;cases h
    | some q=>
     rw [hq] at h
     simp only [Option.map_some,Option.some.injEq] at h
     subst h
     have hw:=Lib.decode_width_pos s pos hps
     have hwl:pos+(Utf8.decode s pos).2<=s.size:=by
      have:=Lib.decodeL_le (s.data.toList.drop pos) (by rw [ne_eq,<-List.length_eq_zero_iff,List.length_drop];omega)
      rw [Lib.decodeL_drop,List.length_drop] at this
      omega
     rw [List.drop_drop] at hq
     unfold Lib.runeCountFrom
     rw [if_pos hps,AN f s _ q hwl hq (by omega)]
     grind
  ·rw [if_pos (by rw [<-List.length_eq_zero_iff,List.length_drop];omega)] at h
   simp only [Option.some.injEq] at h
   subst h
   rw [Lib.runeCountFrom_end s _ _ hps];rfl
theorem Wt {l:By} {p:List Nat} (h:Qi l=some p):Lib.runeCountL l=p.length:=by
 unfold Lib.runeCountL Lib.runeCount
 have hs:(ByteArray.mk l.toArray).size=l.length:=by simp [ByteArray.size]
 refine AN _ _ 0 p (Nat.zero_le _) ?_ (by omega)
 rw [hs,List.drop_zero]
 simpa [Qi] using h
end
section
open Go Go.Proofs
theorem IH (l:List Nat):Dc (l.map λn:Nat=>(n:Int))=Fw l:=by
 have h1:(l.map λn:Nat=>(n:Int)).all ptI=l.all Hk:=by
  rw [List.all_map]
  congr 1
 have h2:(l.map λn:Nat=>(n:Int)).map Int.toNat=l:=by
  rw [List.map_map]
  exact (List.map_congr_left λa _=>by simp).trans (List.map_id l)
 unfold Dc
 rw [List.length_map,h1,h2]
 by_cases h:256<l.length
 ·rw [if_pos h];unfold Fw;rw [if_pos h]
 ·rw [if_neg h]
  cases hp:l.all Hk with
  | true=>rw [if_pos rfl]
  | false=>
   rw [if_neg (by simp)]
   unfold Fw
   grind
theorem IG (l:List Nat):(G5 l).map elI=l.map λn:Nat=>(n:Int):=by
 unfold G5
 rw [List.map_map]
 exact List.map_congr_left λa _=>rfl
theorem Jv (l:List Nat):(G5 l).all Ro=true:=by
 unfold G5
 rw [List.all_map,List.all_eq_true]
 intro x _
 rfl
theorem PL {R:Type} {k0:Unit->Option R} {k1:By->Bool->LL->Bool->Option R} (s:By) (z:Bool) (p:List Nat) (hp:p.length<=1000000000):∀ (r i n:Nat) (b:Bool),i+r=p.length->r<n->
  Q2 LF n s z (G5 p) b (p.length:Int) (i:Int) k0 k1=if (p.drop i).any (λp=>Nat.ble 65 p&&Nat.ble p 90) then k0 () else k1 s z (G5 p) (b && !((p.drop i).any λp=>Nat.ble 128 p)):=by
 intro r
 induction r with
 | zero=>
  intro i n b hi hn
  obtain ⟨n,rfl⟩:∃ m,n=m+1:=⟨n-1,by omega⟩
  rw [Q2]
  rw [A6,List.drop_of_length_le (by omega)]
  simp
 | succ r ih=>
  intro i n b hi hn
  obtain ⟨n,rfl⟩:∃ m,n=m+1:=⟨n-1,by omega⟩
  rw [Q2]
  have e1:A4 ((i:Int)+1)=((i+1:Nat):Int):=by rw [A5];rfl
  have hd:p.drop i=p.getD i 0::p.drop (i+1):=by
   rw [List.getD_eq_getElem?_getD,List.getElem?_eq_getElem (by omega),Option.getD_some,List.getElem_cons_drop]
  rw [C4,L5,P8,Int.toNat_natCast,FC (by omega),OA _ _ (by omega),hd,List.any_cons,List.any_cons,e1]
  simp only [cond_true,vl]
  generalize p.getD i 0=q
  have go:∀ c:Bool,Q2 LF n s z (G5 p) c (p.length:Int) ((i+1:Nat):Int) k0 k1=_:=λc=>ih (i+1) n c (by omega) (by omega)
  by_cases h1:q<65
  ·rw [C4,show Nat.ble 65 q=false by rw [Bool.eq_false_iff,ne_eq,Nat.ble_eq];omega]
   have h2:Nat.ble 128 q=false:=by rw [Bool.eq_false_iff,ne_eq,Nat.ble_eq];omega
   rw [show ltI (q:Int) (128:Int)=true from C4,h2]
   simp only [Bool.not_true,cond_false,Bool.false_and,Bool.false_or]
   cases b<;>simp only [cond_true,cond_false]<;>rw [go]
  ·rw [A6,show Nat.ble 65 q=true by rw [Nat.ble_eq];omega]
   simp only [Bool.not_false,cond_true,Bool.true_and]
   by_cases h2:90<q
   ·rw [C4,show Nat.ble q 90=false by rw [Bool.eq_false_iff,ne_eq,Nat.ble_eq];omega]
    simp only [Bool.not_true,cond_false,Bool.false_or]
    by_cases h3:q<128
    ·rw [show ltI (q:Int) (128:Int)=true from C4,show Nat.ble 128 q=false by rw [Bool.eq_false_iff,ne_eq,Nat.ble_eq];omega]
     cases b<;>simp only [cond_true,cond_false,Bool.false_or]<;>rw [go]
    ·rw [show ltI (q:Int) (128:Int)=false from A6,show Nat.ble 128 q=true by rw [Nat.ble_eq];omega]
     cases b<;>simp only [cond_true,cond_false,Bool.true_or,Bool.not_true,Bool.and_false]<;>rw [go]<;>simp
   ·rw [A6,show Nat.ble q 90=true by rw [Nat.ble_eq];omega]
    simp
theorem NN:∀ (m:Nat) (s:By) (pts:List Nat) (n i b:Nat) (f:Bool),s.length<=m->pts.length<=256->(O0 s pts n i b f).1.length<=256:=by
 intro m
 induction m with
 | zero=>
  intro s pts n i b f hs hp
  obtain rfl:=List.length_eq_zero_iff.1 (Nat.le_zero.1 hs)
  rw [Ky]
  exact hp
 | succ m ih=>
  intro s pts n i b f hs hp
  by_cases h:s=[]
  ·grind
  ·by_cases hq:(D1 b s i 1 0).2.2=0
   ·rw [Rg h _ _ _ _ _ hq]
    have hlt:=Pk b s i 1 0 hq
    split
    ·split
     ·grind
     ·rename_i h2
      exact ih _ _ _ _ _ _ (by omega) (by rw [Zl];omega)
    grind
   ·rw [Uu h _ _ _ _ _ hq]
    grind
theorem Af5 (s:By):(R0 s).1.length<=256:=by
 unfold R0
 split
 ·grind
 ·split
  ·grind
  ·split
   ·grind
   ·rename_i h
    exact NN _ _ _ _ _ _ _ (Nat.le_refl _) (by rw [List.length_map,List.length_take];omega)
theorem PM {R:Type} {k0:Bool->Option R} (s:By) (h0:A2 s.length=true):UF LF s k0=k0 (Jq s):=by
 have hLF:=I4
 unfold UF Jq
 rw [h0,cond_true]
 by_cases h:(R0 s).2=0
 ·have e:(((R0 s).2:Int) != (0:Int))=false:=by rw [h];rfl
  rw [e,cond_false,AB,L5,h]
  have hl:=Af5 s
  refine Eq.trans (PL s _ (R0 s).1 (by omega) (R0 s).1.length 0 LF true (by omega) (by omega)) ?_
  rw [List.drop_zero]
  cases h1:(R0 s).1.any (λp=>Nat.ble 65 p&&Nat.ble p 90) with
  | true=>simp
  | false=>
   rw [if_neg (by simp),Jv,IG,IH]
   simp only [cond_true,vl,Bool.true_and,Bool.not_false]
   cases h2:(R0 s).1.any (λp=>Nat.ble 128 p) with
   | false=>simp
   | true=>
    simp only [Bool.not_true,Bool.not_false,cond_true,Bool.and_true,beq_self_eq_true,Bool.true_and]
    by_cases h3:(Fw (R0 s).1).2=0
    all_goals grind
 grind
theorem YG {R:Type} {k0:Unit->Option R} {k1:By->Option R} (s:By) (hs:s.length<=1000000000):∀ (r i n:Nat),i+r=s.length->r<n->
  M7 LF n s (s.length:Int) (i:Int) k0 k1=if (s.drop i).all O2 then k1 s else k0 ():=by
 intro r
 induction r with
 | zero=>
  intro i n hi hn
  obtain ⟨n,rfl⟩:∃ m,n=m+1:=⟨n-1,by omega⟩
  rw [M7]
  rw [A6,List.drop_of_length_le (by omega)]
  rfl
 | succ r ih=>
  intro i n hi hn
  obtain ⟨n,rfl⟩:∃ m,n=m+1:=⟨n-1,by omega⟩
  rw [M7]
  have e1:A4 ((i:Int)+1)=((i+1:Nat):Int):=by rw [A5];rfl
  rw [C4,P8,N8,R1 s i (by omega),e1,List.all_cons]
  simp only [cond_true]
  rw [ih (i+1) n (by omega) (by omega)]
  generalize s.getD i 0=b
  have hb:=Rs b
  have q1:((b.toNat:Int) != 45) = !(b==45):=congrArg _ (Lj b 45 (by omega))
  have q2:((b.toNat:Int) != 95) = !(b==95):=congrArg _ (Lj b 95 (by omega))
  rw [q1,q2]
  have t:∀ {x:Bool},O2 b=x->(if (O2 b&&(s.drop (i+1)).all O2)=true then k1 s else k0 ())=if (x&&(s.drop (i+1)).all O2)=true then k1 s else k0 ():=λh=>by rw [h]
  cases hl:O2 b with
  | true=>
   rw [hb] at hl
   simp only [Bool.true_and]
   by_cases h1:b=45
   ·subst h1
    simp (disch:=decide) [ltI]
   ·by_cases h2:b=95
    ·subst h2
     simp (disch:=decide) [ltI]
    ·rcases hl with hl | hl | hl | hl
     ·rw [show ltI (b.toNat:Int) 97=false from A6,show ltI (122:Int) b.toNat=false from A6];rfl
     ·rw [show ltI (b.toNat:Int) 97=true from C4,show ltI (b.toNat:Int) 48=false from A6,show ltI (57:Int) b.toNat=false from A6];rfl
     ·exact absurd hl h1
     ·exact absurd hl h2
  | false=>
   have hn:¬ ((97<=b.toNat/\b.toNat<=122)\/(48<=b.toNat/\b.toNat<=57)\/b=45\/b=95):=λh=>by rw [hb.2 h] at hl;cases hl
   have n1:(b==45)=false:=by simpa using λh=>hn (.inr (.inr (.inl h)))
   have n2:(b==95)=false:=by simpa using λh=>hn (.inr (.inr (.inr h)))
   rw [n1,n2]
   simp only [Bool.not_false,cond_true,Bool.false_and,Bool.false_eq_true,if_false]
   by_cases h1:b.toNat<48
   ·rw [show ltI (b.toNat:Int) 97=true from C4,show ltI (b.toNat:Int) 48=true from C4];rfl
   ·by_cases h2:b.toNat<97
    ·rw [show ltI (b.toNat:Int) 97=true from C4,show ltI (b.toNat:Int) 48=false from A6,show ltI (57:Int) b.toNat=true from C4];rfl
    ·rw [show ltI (b.toNat:Int) 97=false from A6,show ltI (122:Int) b.toNat=true from C4,show ltI (b.toNat:Int) 48=false from A6,show ltI (57:Int) b.toNat=true from C4];rfl
theorem YH {R:Type} {k0:Bool->Option R} (s:By) (h0:A2 s.length=true):Az0 LF s k0=k0 (L1 s):=by
 have hs:=M9 h0
 have hLF:=I4
 unfold Az0 L1
 by_cases h1:s=[]
 ·simp_all
 ·have hl:0<s.length:=List.length_pos_iff.2 h1
  have he:s.isEmpty=false:=by simpa using h1
  rw [A6,cond_false,he]
  by_cases h2:63<s.length
  ·rw [C4,show Nat.ble s.length 63=false by rw [Bool.eq_false_iff,ne_eq,Nat.ble_eq];omega]
   rfl
  ·rw [A6,cond_false,show Nat.ble s.length 63=true by rw [Nat.ble_eq];omega,P8]
   have q1:(bAt s 0==(45:Int))=(s.getD 0 0==45):=by rw [Uc];exact Lj _ 45 (by omega)
   have e1:A4 ((s.length:Int)-1)=((s.length-1:Nat):Int):=by rw [A5];omega
   rw [q1,e1]
   simp only [cond_true,vl]
   rw [P8,N8,show ((((s.getD (s.length-1) 0).toNat:Nat):Int)==45)=(s.getD (s.length-1) 0==45) from Lj _ 45 (by omega)]
   cases h3:(s.getD 0 0==45) with
   | true=>
    grind
   | false=>
    rw [show (s.getD 0 0 != 45)=true by unfold bne;rw [h3];rfl]
    simp only [cond_true,cond_false]
    cases h4:(s.getD (s.length-1) 0==45) with
    | true=>
     grind
    | false=>
     rw [show (s.getD (s.length-1) 0 != 45)=true by unfold bne;rw [h4];rfl]
     simp only [cond_false]
     refine Eq.trans (YG s hs s.length 0 LF (by omega) (by omega)) ?_
     rw [List.drop_zero]
     cases h5:s.all O2 with
     | false=>simp
     | true=>
      rw [if_pos rfl,h0,cond_true]
      simp only [Bool.not_false,Bool.true_and,Bool.and_true]
      show cond (!(xnB.isPrefixOf s)) _ _=_
      cases h6:xnB.isPrefixOf s with
      | false=>rfl
      | true=>
       have hc:Ut s xnB=s.drop 4:=by unfold Ut;rw [h6];rfl
       show cond (A2 (Ut s xnB).length) (k0 (Jq (Ut s xnB))) none=_
       rw [hc,G0 (by rw [List.length_drop];omega)]
       rfl
theorem NW (pts:List Nat) (basic:Nat) (hl:pts.length<=256) (hb:basic<=256) (hall:∀ p∈pts,p<=1114111):∀ (f n:Nat) (s:LJ),s.done=pts.countP (λp=>decide (p<n))->s.delta<=300->s.bias<=500->s.out.length+20*(pts.length-s.done)<=80000->n<=1114112->
  (T8 pts basic f n s).out.length<=80000:=by
 intro f
 have hLF:=I4
 induction f with
 | zero=>intro n s hd h1 h2 h3 h4;unfold T8;omega
 | succ f ih=>
  intro n s hd h1 h2 h3 h4
  have hcl:pts.countP (λp=>decide (p<n))<=pts.length:=List.countP_le_length
  by_cases hlt:s.done<pts.length
  ·obtain ⟨p0,hp0,hp1⟩:=Ae8 (n:=n) (l:=pts) (by omega)
   obtain ⟨g1,g2,g3⟩:=Ih n pts 1114112
   have g4:=g3 p0 hp0 hp1
   have g5:=hall p0 hp0
   have hmem:J8 n pts 1114112∈pts/\n<=J8 n pts 1114112:=by grind
   have he:T8 pts basic (f+1) n s=T8 pts basic f (J8 n pts 1114112+1) { L7 (J8 n pts 1114112) basic pts { s with delta:=s.delta+(J8 n pts 1114112-n)*(s.done+1) } with delta:=(L7 (J8 n pts 1114112) basic pts { s with delta:=s.delta+(J8 n pts 1114112-n)*(s.done+1) }).delta+1 }:=by
    rw [T8,if_pos hlt]
   rw [he]
   generalize J8 n pts 1114112=m at *
   have hmul:(m-n)*(s.done+1)<=1114112*256:=Nat.mul_le_mul (by omega) (by omega)
   have hin:=UU false false pts basic m (by omega) hl pts.length 0 LF { s with delta:=s.delta+(m-n)*(s.done+1) } (by omega) (by omega) (by simp only;omega) h2 (by simp only;omega) (by simp only;omega) hb
   rw [List.drop_zero] at hin
   obtain ⟨_,q2,q3,q4,q5⟩:=hin
   have hcnt:0<pts.countP (· == m):=List.countP_pos_iff.2 ⟨m,hmem.1,by simp⟩
   rw [if_pos hcnt] at q5
   have hstep:=Uq hmem.2 pts g3
   generalize L7 m basic pts { s with delta:=s.delta+(m-n)*(s.done+1) } = s' at *
   simp only at q3 q4
   have hcl2:pts.countP (λp=>decide (p<m+1))<=pts.length:=List.countP_le_length
   exact ih (m+1) { s' with delta:=s'.delta+1 } (by simp only;omega) (by simp only;omega) q2 (by simp only;omega) (by omega)
  ·rw [T8,if_neg hlt];omega
theorem Ag3 (p:List Nat):(Fw p).1.length<=80000:=by
 unfold Fw
 split
 ·grind
 ·rename_i h
  split
  ·grind
  ·rename_i h2
   have hp:∀ q∈p,q<=1114111:=λq hq=>by
    have h2:p.all Hk=true:=by simpa using h2
    have:=List.all_eq_true.1 h2 q hq
    simp only [Hk,Bool.and_eq_true,Nat.ble_eq] at this
    omega
   have hbl:=Ud p
   have hbc:p.countP (λq=>decide (q<128))<=p.length:=List.countP_le_length
   refine NW p _ (by omega) (by omega) hp 256 128 _ hbl (by simp) (by simp) ?_ (by omega)
   grind
theorem ER {b:UInt8} (h:128<=b.toNat):Y8 b=b:=by
 rcases O4 b with ⟨_,e⟩ | ⟨_,e⟩ | ⟨_,h2,_⟩
 all_goals omega
theorem ES {b:UInt8} (h:b.toNat<128):(Y8 b).toNat<128:=by
 rcases O4 b with ⟨_,e⟩ | ⟨_,e⟩ | ⟨_,h2,e⟩
 all_goals grind
theorem WC (n:Nat) (b0 b1 b2 b3:UInt8) (h:128<=b0.toNat):Lib.decodeN n b0.toNat (Y8 b1).toNat (Y8 b2).toNat (Y8 b3).toNat=Lib.decodeN n b0.toNat b1.toNat b2.toNat b3.toNat:=by
 have k1:∀ b:UInt8,b.toNat / 64=2->Y8 b=b:=λb hb=>ER (by omega)
 have k2:∀ b:UInt8,¬ b.toNat / 64=2->¬ (Y8 b).toNat / 64=2:=λb hb h=>by
  by_cases h2:128<=b.toNat
  ·rw [ER h2] at h;exact hb h
  ·have:=ES (b:=b) (by omega)
   omega
 unfold Lib.decodeN
 grind
theorem At2 (l:By) (hne:l≠[]):(Lib.decodeL (C5 l)).2=(Lib.decodeL l).2/\(¬ ((Lib.decodeL l).1=65533/\(Lib.decodeL l).2=1)->¬ ((Lib.decodeL (C5 l)).1=65533/\(Lib.decodeL (C5 l)).2=1)):=by
 cases l with
 | nil=>exact absurd rfl hne
 | cons b t=>
  by_cases hb:b.toNat<128
  ·have e1:=Lib.decodeL_ascii b t hb
   have e2:Lib.decodeL (C5 (b::t))=((Y8 b).toNat,1):=Lib.decodeL_ascii (Y8 b) (C5 t) (ES hb)
   rw [e1,e2]
   refine ⟨rfl,λ_ h=>?_⟩
   have:=ES hb
   omega
  ·have e:Lib.decodeL (C5 (b::t))=Lib.decodeL (b::t):=by
    rw [Lib.decodeL_N,Lib.decodeL_N,Fc,Y9,Y9,Y9,Y9]
    have e0:Y8 ((b::t).getD 0 0)=b:=ER (b:=b) (show 128<=b.toNat by omega)
    rw [e0]
    exact WC (b::t).length b ((b::t).getD 1 0) ((b::t).getD 2 0) ((b::t).getD 3 0) (show 128<=b.toNat by omega)
   grind
theorem AH:∀ (f:Nat) (l:By),(W6 f l).isSome=true->(W6 f (C5 l)).isSome=true
 | 0,_,_=>rfl
 | f+1,l,h=>by
  unfold W6 at h ⊢
  by_cases hl:l=[]
  ·subst hl;rfl
  ·rw [if_neg hl] at h
   rw [if_neg (by rw [Zw];exact hl)]
   obtain ⟨d1,d2⟩:=At2 l hl
   split at h
   ·cases h
   ·rename_i hv
    rw [if_neg (d2 hv),Option.isSome_map,d1,Vy]
    rw [Option.isSome_map] at h
    exact AH f _ h
theorem Al9 {l:By} (h:(Qi l).isSome=true):(Qi (C5 l)).isSome=true:=by
 unfold Qi at h ⊢
 rw [Fc]
 exact AH _ _ h
theorem XM (t:By) (ht:t.length<=1000000000):∀ (f pos:Nat) (P q:List Nat) (n:Nat),pos<=t.length->t.length-pos<=f->f<n->P.length<=pos->W6 f (t.drop pos)=some q->
  ∃ m,∀ (R:Type) (k0:LL->By->Nat->Option R),Bl LF n (G5 P) t pos k0=k0 (G5 (P++q)) t m:=by
 intro f
 induction f with
 | zero=>
  intro pos P q n h1 h2 h3 h4 h5
  obtain ⟨n,rfl⟩:∃ m,n=m+1:=⟨n-1,by omega⟩
  simp only [W6,Option.some.injEq] at h5
  subst h5
  refine ⟨pos,λR k0=>?_⟩
  rw [Bl]
  rw [decide_eq_false (by omega),cond_false,List.append_nil]
 | succ f ih=>
  intro pos P q n h1 h2 h3 h4 h5
  obtain ⟨n,rfl⟩:∃ m,n=m+1:=⟨n-1,by omega⟩
  by_cases hp:pos<t.length
  ·have hne:t.drop pos≠[]:=by rw [ne_eq,<-List.length_eq_zero_iff,List.length_drop];omega
   have hd:=Lib.decodeL_drop ⟨t.toArray⟩ pos
   have hd':Utf8.decode ⟨List.toArray t⟩ pos=Lib.decodeL (t.drop pos):=by rw [<-hd]
   unfold W6 at h5
   rw [if_neg hne] at h5
   split at h5
   ·cases h5
   ·have hw:=Lib.decodeL_width (t.drop pos)
    have hle:=Lib.decodeL_le (t.drop pos) hne
    have hr:=Lib.decodeL_rune (t.drop pos)
    rw [List.length_drop] at hle
    rw [List.drop_drop] at h5
    generalize Lib.decodeL (t.drop pos)=dd at *
    obtain ⟨c,wd⟩:=dd
    simp only at *
    cases hq:W6 f (t.drop (pos+wd)) with
    | none=>rw [hq] at h5;cases h5
    | some q'=>
     rw [hq] at h5
     simp only [Option.map_some,Option.some.injEq] at h5
     subst h5
     obtain ⟨m,e⟩:=ih (pos+wd) (P++[c]) q' n (by omega) (by omega) (by omega) (by simp;omega) hq
     refine ⟨m,λR k0=>?_⟩
     rw [Bl]
     rw [decide_eq_true hp,cond_true,hd',L5,J3 (by omega)]
     simp only [vl,cond_true]
     have e1:A4 (c:Int)=(c:Int):=A5
     have hrow:G5 P++[[SV.int .i64 (A4 (c:Int))]]=G5 (P++[c]):=by rw [e1,JR];rfl
     rw [hrow,e,List.append_assoc]
     rfl
  ·have hnil:t.drop pos=[]:=by rw [<-List.length_eq_zero_iff,List.length_drop];omega
   unfold W6 at h5
   rw [hnil,if_pos rfl] at h5
   simp only [Option.some.injEq] at h5
   subst h5
   refine ⟨pos,λR k0=>?_⟩
   rw [Bl]
   rw [decide_eq_false hp,cond_false,List.append_nil]
theorem OX (s:By) (h0:A2 s.length=true):(∀ (R:Type) (k0:By->Int->Option R) (k1:By->Int->LL->By->Nat->Option R),JI LF s k0 k1=k0 (N2 s).1 ((N2 s).2:Nat))\/
  (∃ l t m,∀ (R:Type) (k0:By->Int->Option R) (k1:By->Int->LL->By->Nat->Option R),JI LF s k0 k1=k1 (N2 s).1 ((N2 s).2:Nat) l t m):=by
 have hs:=M9 h0
 have hLF:=I4
 unfold N2
 cases hp:Qi s with
 | none=>
  refine .inl λR k0 k1=>?_
  unfold JI
  rw [h0,hp]
  rfl
 | some p=>
  have hrc:=Wt hp
  have top:∀ (R:Type) (k0:By->Int->Option R) (k1:By->Int->LL->By->Nat->Option R),JI LF s k0 k1=cond (ltI 256 (p.length:Int)) (k0 [] 3) (cond (ltI (p.length:Int) (s.length:Int)) (Bl LF LF [] (C5 s) 0 (λl'5 s'6 m'7=>cond (List.all l'5 Ro)
      (cond (((Dc (List.map elI l'5)).2:Int) != (0:Int))
       (k1 ([]:List UInt8) 14 l'5 s'6 m'7)
       (cond (TP 4 (List.length ((Dc (List.map elI l'5))).1))
        (cond (A2 (List.length (xnB++((Dc (List.map elI l'5))).1)))
         (cond (not (L1 (xnB++((Dc (List.map elI l'5))).1)))
         (k1 ([]:List UInt8) 14 l'5 s'6 m'7)
         (k1 (xnB++((Dc (List.map elI l'5))).1) 0 l'5 s'6 m'7))
         (none))
        (none)))
      (none)))
     (cond (A2 (List.length (C5 s)))
      (cond (not (L1 (C5 s)))
      (k0 ([]:List UInt8) 14)
      (k0 (C5 s) 0))
      (none))):=by
   intro R k0 k1
   unfold JI
   rw [h0,hp,hrc]
   rfl
  simp only
  by_cases h1:256<p.length
  ·rw [if_pos h1]
   refine .inl λR k0 k1=>?_
   rw [top,C4]
   rfl
  ·rw [if_neg h1]
   by_cases h2:p.length<s.length
   ·rw [if_pos h2]
    have hlow:=Al9 (l:=s) (by rw [hp];rfl)
    cases hq:Qi (C5 s) with
    | none=>rw [hq] at hlow;cases hlow
    | some q=>
     have hll:=Fc s
     obtain ⟨m,e⟩:=XM (C5 s) (by omega) (C5 s).length 0 [] q LF (by omega) (by omega) (by omega) (by simp) (by rw [List.drop_zero];exact hq)
     refine .inr ⟨G5 q,C5 s,m,λR k0 k1=>?_⟩
     rw [top,A6,cond_false,C4,cond_true]
     refine Eq.trans (e R _) ?_
     have hel:=Ag3 q
     rw [List.nil_append,Jv,IG,IH,cond_true,As3 (by omega),cond_true,G0 (by rw [List.length_append];simp only [xnB,List.length_cons,List.length_nil];omega),cond_true]
     simp only
     by_cases h3:(Fw q).2=0
     ·rw [h3,if_pos rfl]
      cases h4:L1 (xnB++(Fw q).1) with
      | true=>rfl
      | false=>rfl
     ·rw [if_neg h3]
      have:(((Fw q).2:Int) != (0:Int))=true:=by simpa using h3
      rw [this]
      rfl
   ·rw [if_neg h2]
    refine .inl λR k0 k1=>?_
    rw [top,A6,cond_false,A6,cond_false,G0 (by rw [Fc];exact hs),cond_true]
    cases L1 (C5 s)<;>rfl
theorem Aw5 (s:By) (h0:A2 s.length=true):∃ r H,JI LF s (λr0 r1=>rv (.tup [.s (.str r0),.s (.int .i64 r1)]) []) (λr0 r1 l2 s3 m4=>rv (.tup [.s (.str r0),.s (.int .i64 r1)]) [.arr true 3 1 l2,.iter s3 m4])=rv r H/\
  r.stab [0,0] H = .tup [.s (.str (N2 s).1),.s (.int .i64 ((N2 s).2:Nat))]:=by
 rcases OX s h0 with h | ⟨l,t,m,h⟩
 ·exact ⟨_,_,h _ _ _,rfl⟩
 ·exact ⟨_,_,h _ _ _,rfl⟩
theorem WU {R:Type} {k0:Int->Option R} (b:Int) (h0:inR b 256=true):Ai4 LF b k0=k0 (Pm (u8n b)):=by
 simp only [inR,Bool.and_eq_true,decide_eq_true_eq] at h0
 have hc:b=((u8n b).toNat:Int):=by
  unfold u8n
  simp
  omega
 generalize u8n b=c at *
 subst hc
 have hbt:=c.toNat_lt
 unfold Ai4
 simp only [Mr,Mq,vl,Pm]
 rcases Pn c with ⟨h1,h2,e⟩ | ⟨h1,h2,e⟩ | ⟨h1,h2,e⟩ | ⟨h1,h2,h3,e⟩
 ·have e2:A4 (wu8 ((c.toNat:Int)-48))=((dig c:Nat):Int):=by
   rw [Y0,A5];omega
  rw [Gz]
  simp (disch:=omega) only [E0,G4,Bool.not_true,Bool.not_false,cond_false,cond_true,e2]
 ·have e2:A4 (A4 (wu8 ((c.toNat:Int)-97))+10)=((dig c:Nat):Int):=by
   rw [Y0,J1 (n:=(c.toNat:Int)-97) (by omega) (by omega),A5];omega
  rw [Gz]
  simp (disch:=omega) only [E0,G4,Bool.not_true,Bool.not_false,cond_false,cond_true,e2]
 ·have e2:A4 (A4 (wu8 ((c.toNat:Int)-65))+10)=((dig c:Nat):Int):=by
   rw [Y0,J1 (n:=(c.toNat:Int)-65) (by omega) (by omega),A5];omega
  rw [Gz]
  simp (disch:=omega) only [E0,G4,Bool.not_true,Bool.not_false,cond_false,cond_true,e2]
 ·rw [e,if_neg (by decide)]
  by_cases c1:c.toNat<48
  ·simp (disch:=omega) only [E0,G4,Bool.not_true,Bool.not_false,cond_false,cond_true]
  ·by_cases c2:c.toNat<65
   ·simp (disch:=omega) only [E0,G4,Bool.not_true,Bool.not_false,cond_false,cond_true]
   ·by_cases c3:c.toNat<97
    ·simp (disch:=omega) only [E0,G4,Bool.not_true,Bool.not_false,cond_false,cond_true]
    ·simp (disch:=omega) only [E0,G4,Bool.not_true,Bool.not_false,cond_false,cond_true]
theorem UT {b:UInt8} (r:By) (h:b≠37):T4 (b::r)=(T4 r).map (b::·):=by
 conv=>lhs;unfold T4
 grind
theorem JZ (x y:UInt8) (r:By):T4 (37::x::y::r)=if dig x<16/\dig y<16 then (T4 r).map (UInt8.ofNat (16*dig x+dig y)::·) else none:=by
 conv=>lhs;unfold T4
 grind
theorem Af6 (x:UInt8):ltI (Pm x) 0 = !(decide (dig x<16)):=by
 unfold Pm
 by_cases h:dig x<16
 ·simp_all
 ·rw [if_neg h,C4,decide_eq_false h];rfl
theorem FJ:∀ (s t:By),T4 s=some t->t.length<=s.length
 | [],t,h=>by simp only [T4,Option.some.injEq] at h;subst h;exact Nat.le_refl _
 | b::r,t,h=>by
  by_cases hb:b=37
  ·subst hb
   match r,h with
   | [],h=>cases h
   | [x],h=>cases h
   | x::y::r',h=>
    rw [JZ] at h
    split at h
    ·cases hq:T4 r' with
     | none=>rw [hq] at h;cases h
     | some q=>
      rw [hq] at h
      simp only [Option.map_some,Option.some.injEq] at h
      subst h
      have:=FJ r' q hq
      simp only [List.length_cons]
      omega
    ·cases h
  ·rw [UT _ hb] at h
   cases hq:T4 r with
   | none=>rw [hq] at h;cases h
   | some q=>
    rw [hq] at h
    simp only [Option.map_some,Option.some.injEq] at h
    subst h
    have:=FJ r q hq
    grind
theorem WT (s:By) (hs:s.length<=1000000000):∀ (m i n:Nat) (acc:By),i<=s.length->s.length-i<=m->m<n->acc.length<=i->
  (∀ t,T4 (s.drop i)=some t->∀ (R:Type) (k0:LL->Option R) (k1:LL->Option R),N3 LF n s (i:Int) (acc.map G2) k0 k1=k1 ((acc++t).map G2))/\
  (T4 (s.drop i)=none->∃ l,∀ (R:Type) (k0:LL->Option R) (k1:LL->Option R),N3 LF n s (i:Int) (acc.map G2) k0 k1=k0 l):=by
 intro m
 induction m with
 | zero=>
  intro i n acc hi hm hn ha
  obtain ⟨n,rfl⟩:∃ m,n=m+1:=⟨n-1,by omega⟩
  rw [List.drop_of_length_le (by omega)]
  refine ⟨λt ht R k0 k1=>?_,λh=>(by cases h)⟩
  simp only [T4,Option.some.injEq] at ht
  subst ht
  rw [N3]
  rw [A6,List.append_nil]
  rfl
 | succ m ih=>
  intro i n acc hi hm hn ha
  obtain ⟨n,rfl⟩:∃ m,n=m+1:=⟨n-1,by omega⟩
  by_cases hlt:i<s.length
  ·have e1:A4 ((i:Int)+1)=((i+1:Nat):Int):=by rw [A5];rfl
   have e2:A4 ((i:Int)+2)=((i+2:Nat):Int):=by rw [A5];rfl
   have e3:A4 (((i+2:Nat):Int)+1)=((i+3:Nat):Int):=by rw [A5];omega
   have hal:(acc.map G2).length=acc.length:=List.length_map _
   have hrow:∀ b:UInt8,acc.map G2++[[SV.int .u8 (b.toNat:Int)]]=(acc++[b]).map G2:=λb=>by rw [List.map_append];rfl
   have q1:(((s.getD i 0).toNat:Int) != 37) = !(s.getD i 0==37):=congrArg _ (Lj _ 37 (by omega))
   rw [R1 s i hlt]
   by_cases h37:s.getD i 0=37
   ·by_cases h3:i+2<s.length
    ·rw [R1 s (i+1) (by omega),R1 s (i+1+1) (by omega),h37,JZ]
     obtain ⟨i1,i2⟩:=ih (i+3) n (acc++[UInt8.ofNat (16*dig (s.getD (i+1) 0)+dig (s.getD (i+2) 0))]) (by omega) (by omega) (by omega) (by simp;omega)
     have top:∀ (R:Type) (k0:LL->Option R) (k1:LL->Option R),N3 LF (n+1) s (i:Int) (acc.map G2) k0 k1=cond (decide (dig (s.getD (i+1) 0)<16)&&decide (dig (s.getD (i+2) 0)<16)) (N3 LF n s ((i+3:Nat):Int) ((acc++[UInt8.ofNat (16*dig (s.getD (i+1) 0)+dig (s.getD (i+2) 0))]).map G2) k0 k1) (k0 (acc.map G2)):=by
      intro R k0 k1
      rw [N3]
      rw [C4,P8,N8,q1,h37,hal,e2,C4,e1,P8,P8,N8,N8]
      simp only [cond_true,vl,Bool.not_true,cond_false,beq_self_eq_true,Bc8,A34,Af6,J3 (show acc.length+1<=68719476736 by omega),e3]
      generalize s.getD (i+1) 0=x at *
      generalize s.getD (i+2) 0=y at *
      by_cases hx:dig x<16
      ·by_cases hy:dig y<16
       ·have w1:Pm x=(dig x:Int):=by unfold Pm;rw [if_pos hx]
        have w2:Pm y=(dig y:Int):=by unfold Pm;rw [if_pos hy]
        have w3:A4 ((16:Int)*(dig x:Int))=((16*dig x:Nat):Int):=by rw [A5];omega
        have w4:A4 (((16*dig x:Nat):Int)+(dig y:Int))=((16*dig x+dig y:Nat):Int):=by rw [A5];omega
        have w5:wu8 ((16*dig x+dig y:Nat):Int)=((UInt8.ofNat (16*dig x+dig y)).toNat:Int):=by
         rw [Y0]
         simp
         omega
        grind
       grind
      grind
     by_cases hd:dig (s.getD (i+1) 0)<16/\dig (s.getD (i+2) 0)<16
     ·rw [if_pos hd]
      have hc:(decide (dig (s.getD (i+1) 0)<16)&&decide (dig (s.getD (i+2) 0)<16))=true:=by rw [decide_eq_true hd.1,decide_eq_true hd.2];rfl
      refine ⟨λt ht R k0 k1=>?_,λh=>?_⟩
      ·cases hq:T4 (s.drop (i+3)) with
       | none=>rw [show i+1+1+1=i+3 from rfl,hq] at ht;cases ht
       | some q=>
        rw [show i+1+1+1=i+3 from rfl,hq] at ht
        simp only [Option.map_some,Option.some.injEq] at ht
        subst ht
        rw [top,hc,cond_true,i1 q hq,List.append_assoc]
        rfl
      ·cases hq:T4 (s.drop (i+3)) with
       | some q=>rw [show i+1+1+1=i+3 from rfl,hq] at h;cases h
       | none=>
        obtain ⟨l,e⟩:=i2 hq
        exact ⟨l,λR k0 k1=>by rw [top,hc,cond_true,e]⟩
     ·rw [if_neg hd]
      have hc:(decide (dig (s.getD (i+1) 0)<16)&&decide (dig (s.getD (i+2) 0)<16))=false:=by grind
      exact ⟨λt h=>(by cases h),λ_=>⟨_,λR k0 k1=>by rw [top,hc,cond_false]⟩⟩
    ·have hnone:T4 (s.getD i 0::s.drop (i+1))=none:=by
      rw [h37]
      cases hd:s.drop (i+1) with
      | nil=>rfl
      | cons x r=>
       cases r with
       | nil=>rfl
       | cons y r'=>
        exfalso
        have:=congrArg List.length hd
        rw [List.length_drop,List.length_cons,List.length_cons] at this
        omega
     rw [hnone]
     refine ⟨λt h=>(by cases h),λ_=>⟨acc.map G2,λR k0 k1=>?_⟩⟩
     rw [N3]
     rw [C4,P8,N8,q1,h37,e2,A6]
     rfl
   ·rw [UT _ h37]
    obtain ⟨i1,i2⟩:=ih (i+1) n (acc++[s.getD i 0]) (by omega) (by omega) (by omega) (by simp;omega)
    have hb37:(s.getD i 0==37)=false:=by simpa using h37
    have top:∀ (R:Type) (k0:LL->Option R) (k1:LL->Option R),N3 LF (n+1) s (i:Int) (acc.map G2) k0 k1=N3 LF n s ((i+1:Nat):Int) ((acc++[s.getD i 0]).map G2) k0 k1:=by
     intro R k0 k1
     rw [N3]
     rw [C4,P8,N8,q1,hb37,hal,J3 (by omega),e1,hrow]
     rfl
    refine ⟨λt ht R k0 k1=>?_,λh=>?_⟩
    ·cases hq:T4 (s.drop (i+1)) with
     | none=>rw [hq] at ht;cases ht
     | some q=>
      rw [hq] at ht
      simp only [Option.map_some,Option.some.injEq] at ht
      subst ht
      rw [top,i1 q hq,List.append_assoc]
      rfl
    ·cases hq:T4 (s.drop (i+1)) with
     | some q=>rw [hq] at h;cases h
     | none=>
      obtain ⟨l,e⟩:=i2 hq
      exact ⟨l,λR k0 k1=>by rw [top,e]⟩
  ·rw [List.drop_of_length_le (by omega)]
   refine ⟨λt ht R k0 k1=>?_,λh=>(by cases h)⟩
   simp only [T4,Option.some.injEq] at ht
   subst ht
   rw [N3]
   rw [A6,List.append_nil]
   rfl
theorem Av0 (s:By) (h0:A2 s.length=true):∃ r H,Ai3 LF s (λr0 r1 l2=>rv (.tup [.s (.str r0),.s (.bool r1)]) [.arr false 5 1 l2])=rv r H/\
  r.stab [0,0] H = .tup [.s (.str (QJ s)),.s (.bool (T4 s).isSome)]:=by
 have hs:=M9 h0
 have hLF:=I4
 have hroom:((decide ((0:Int)<=(s.length:Int)))&&(K4 (Int.toNat (s.length:Int))))=true:=by
  rw [Int.toNat_natCast,J3 (by omega),decide_eq_true (by omega)];rfl
 obtain ⟨p1,p2⟩:=WT s hs s.length 0 LF [] (by omega) (by omega) (by omega) (by simp)
 rw [List.drop_zero] at p1 p2
 unfold QJ
 cases hp:T4 s with
 | none=>
  obtain ⟨l,e⟩:=p2 hp
  refine ⟨.tup [.s (.str []),.s (.bool false)],[.arr false 5 1 l],?_,rfl⟩
  unfold Ai3
  rw [hroom,cond_true]
  exact e _ _ _
 | some t=>
  refine ⟨.tup [.s (.str t),.s (.bool true)],[.arr false 5 1 (t.map G2)],?_,rfl⟩
  unfold Ai3
  rw [hroom,cond_true]
  refine Eq.trans (p1 t hp _ _ _) ?_
  rw [List.nil_append,Lr,Mx]
  rfl
abbrev HD (kd:Int) (nm:By) (v4 a0 a1 a2 a3 a4 a5 a6 a7:Int):List PV:=[.s (.int .i64 kd),.s (.str nm),.s (.int .u32 v4),.s (.int .u16 a0),.s (.int .u16 a1),.s (.int .u16 a2),.s (.int .u16 a3),.s (.int .u16 a4),.s (.int .u16 a5),.s (.int .u16 a6),.s (.int .u16 a7)]
def IT (h:F5):PV:=.agg [.s (.int .i64 (h.kind:Nat)),.s (.str h.name),.s (.int .u32 (h.v4:Nat)),.s (.int .u16 (h.v6.getD 0 0:Nat)),.s (.int .u16 (h.v6.getD 1 0:Nat)),.s (.int .u16 (h.v6.getD 2 0:Nat)),.s (.int .u16 (h.v6.getD 3 0:Nat)),.s (.int .u16 (h.v6.getD 4 0:Nat)),.s (.int .u16 (h.v6.getD 5 0:Nat)),.s (.int .u16 (h.v6.getD 6 0:Nat)),.s (.int .u16 (h.v6.getD 7 0:Nat))]
abbrev Bl4:Int->Int->Int->Int->Int->Int->Int->Int->Int->Int->Int->LL->Option (PV × List Blk × Unit):=λr0 r1 r2 r3 r4 r5 r6 r7 r8 r9 n10 l11=>rv (.tup [.agg (HD r0 [] 0 r1 r2 r3 r4 r5 r6 r7 r8),.s (.int .i64 r9)]) [.box (HD n10 [] 0 r1 r2 r3 r4 r5 r6 r7 r8),.arr false 26 1 l11]
abbrev Bh9:Unit->Option (PV × List Blk × Unit):=λ_=>rv (.tup [.agg (HD 0 [] 0 0 0 0 0 0 0 0 0),.s (.int .i64 14)]) [.box (HD 0 [] 0 0 0 0 0 0 0 0 0)]
theorem Aw6 (s:By) (c:UInt8) (h:s≠[]):(s.getLast? = some c)↔s.getD (s.length-1) 0=c:=by
 have:0<s.length:=List.length_pos_iff.2 h
 grind
theorem Ai2 (s:By) (h0:A2 s.length=true) (h1:Ai7 s=true):∃ r H,TV LF s Bl4 Bh9=rv r H/\r.stab [0,0] H = .tup [IT (M0 s).1,.s (.int .i64 ((M0 s).2:Nat))]:=by
 have hs:=M9 h0
 have hne:s≠[]:=by rintro rfl;cases h1
 have hl:0<s.length:=List.length_pos_iff.2 hne
 have hb0:s.getD 0 0=91:=by
  cases s with
  | nil=>exact absurd rfl hne
  | cons b t=>
   simp only [Ai7,List.isPrefixOf,Bool.and_true,beq_iff_eq] at h1
   grind
 have e1:A4 ((s.length:Int)-1)=((s.length-1:Nat):Int):=by rw [A5];omega
 have q1:(((s.getD (s.length-1) 0).toNat:Int)==93)=(s.getD (s.length-1) 0==93):=Lj _ 93 (by omega)
 have bad:∃ r H,Bh9 ()=rv r H/\r.stab [0,0] H = .tup [IT O6,.s (.int .i64 14)]:=⟨_,_,rfl,rfl⟩
 unfold TV M0
 simp only [vl,e1]
 rw [P8,N8,q1,cond_true]
 by_cases h93:s.getD (s.length-1) 0=93
 ·have h2:2<=s.length:=by grind
  rw [if_pos ⟨(Aw6 s 93 hne).2 h93,h2⟩,h93,beq_self_eq_true,cond_true,show (1:Int)=((1:Nat):Int) from rfl,T0,cond_true,Fv]
  have hlt:((s.take (s.length-1)).drop 1).length<=s.length:=by rw [List.length_drop,List.length_take];omega
  rw [Dt,cond_true]
  unfold v6c
  cases hv:v6B ((s.take (s.length-1)).drop 1) with
  | none=>exact ⟨_,_,rfl,rfl⟩
  | some a=>exact ⟨_,_,rfl,rfl⟩
 grind
theorem An2 (l:List By) (i:Nat) (y:By) (h:i<l.length):List.set (D3 l) i (E7 ((D3 l).getD i []) 0 [SV.str y])=D3 (l.set i y):=by
 have e:(D3 l).getD i []=[SV.str (l.getD i [])]:=by
  unfold D3
  grind
 rw [e]
 unfold D3
 rw [List.map_set]
 rfl
theorem IU (N:Nat) (hN:N<=1000000001):∀ (rest:List By) (done:List By) (n:Nat),done.length+rest.length=N->rest.length<n->(∀ x∈rest,x.length<=1000000000)->
  ((I9 rest).2=0->∀ (R:Type) (k0:Int->LL->Option R) (k1:Nat->LL->Option R),N5 LF n N (N:Int) (done.length:Int) (D3 (done++rest)) k0 k1=k1 N (D3 (done++(I9 rest).1)))/\
  ((I9 rest).2≠0->∃ l,∀ (R:Type) (k0:Int->LL->Option R) (k1:Nat->LL->Option R),N5 LF n N (N:Int) (done.length:Int) (D3 (done++rest)) k0 k1=k0 ((I9 rest).2:Nat) l):=by
 intro rest
 induction rest with
 | nil=>
  intro done n hd hn hx
  obtain ⟨n,rfl⟩:∃ m,n=m+1:=⟨n-1,by simp at hn;omega⟩
  simp only [List.length_nil] at hd
  refine ⟨λ_ R k0 k1=>?_,λh=>absurd rfl h⟩
  rw [N5]
  rw [A6]
  rfl
 | cons x r ih=>
  intro done n hd hn hx
  simp only [List.length_cons] at hd hn
  obtain ⟨n,rfl⟩:∃ m,n=m+1:=⟨n-1,by omega⟩
  have e1:A4 ((done.length:Int)+1)=((done.length+1:Nat):Int):=by rw [A5];rfl
  have hlen:(done++x::r).length=N:=by rw [List.length_append,List.length_cons];omega
  have hgx:(done++x::r).getD done.length []=x:=by grind
  have hset:∀ y,(done++x::r).set done.length y=(done++[y])++r:=λy=>by grind
  have top:∀ (R:Type) (k0:Int->LL->Option R) (k1:Nat->LL->Option R),N5 LF (n+1) N (N:Int) (done.length:Int) (D3 (done++x::r)) k0 k1=cond (((N2 x).2:Int) != 0) (k0 ((N2 x).2:Nat) (D3 (done++x::r))) (N5 LF n N (N:Int) ((done.length+1:Nat):Int) (D3 ((done++[(N2 x).1])++r)) k0 k1):=by
   intro R k0 k1
   rw [N5]
   rw [C4,P8,Int.toNat_natCast,Nat.zero_add,W3 (by omega),Bj,hgx]
   simp only [vl,cond_true]
   rw [G0 (hx x (by simp)),I2,decide_eq_true (show done.length<(done++x::r).length by omega),An2 _ _ _ (by omega),hset,e1]
   rfl
  unfold I9
  obtain ⟨i1,i2⟩:=ih (done++[(N2 x).1]) n (by simp;omega) (by omega) (λy hy=>hx y (by simp [hy]))
  have hdl:(done++[(N2 x).1]).length=done.length+1:=by simp
  rw [hdl] at i1 i2
  by_cases h:(N2 x).2=0
  ·rw [if_pos h]
   have hb:(((N2 x).2:Int) != 0)=false:=by rw [h];rfl
   refine ⟨λh2 R k0 k1=>?_,λh2=>?_⟩
   ·rw [top,hb,cond_false,i1 h2,List.append_assoc]
    rfl
   ·obtain ⟨l,e⟩:=i2 h2
    exact ⟨l,λR k0 k1=>by rw [top,hb,cond_false,e]⟩
  ·rw [if_neg h]
   have hb:(((N2 x).2:Int) != 0)=true:=by simpa using h
   exact ⟨λh2=>absurd h2 h,λ_=>⟨_,λR k0 k1=>by rw [top,hb,cond_true]⟩⟩
theorem TX (p:By) (m:Nat):∀ l:List By,(∀ x∈l,x.length<=m)->(Lib.join l p).length<=(m+p.length)*l.length
 | [],_=>by simp [Lib.join]
 | [x],h=>by
  have:=h x (by simp)
  rw [show Lib.join [x] p=x by simp [Lib.join,Lib.joinTail]]
  grind
 | x::y::r,h=>by
  have h1:=h x (by simp)
  have h2:=TX p m (y::r) (λz hz=>h z (by simp [hz]))
  rw [Y5,List.length_append,List.length_append,List.length_cons,Nat.mul_add,Nat.mul_one]
  omega
theorem DJ (l:List By):(D3 l).all isS=true:=by
 unfold D3
 rw [List.all_map,List.all_eq_true]
 intro x _
 rfl
theorem An8 (s:By):GA s [46]=M8 s:=by
 unfold GA M8
 by_cases h:s.getLast? = some 46
 ·obtain ⟨t,rfl⟩:=List.getLast?_eq_some_iff.1 h
  grind
 ·rw [if_neg h,if_neg]
  rw [List.isSuffixOf_iff_suffix]
  rintro ⟨t,ht⟩
  grind
abbrev Bi1:Int->By->Int->Int->Int->Int->Int->Int->Int->Int->Int->Int->Int->By->Int->Int->Int->Int->Int->Int->Int->Int->Int->Option (PV × List Blk × Unit):=λr0 r1 r2 r3 r4 r5 r6 r7 r8 r9 r10 r11 n12 s13 n14 n15 n16 n17 n18 n19 n20 n21 n22=>rv (.tup [.agg (HD r0 r1 r2 r3 r4 r5 r6 r7 r8 r9 r10),.s (.int .i64 r11)]) [.box (HD n12 s13 n14 n15 n16 n17 n18 n19 n20 n21 n22)]
abbrev Bi2:Int->By->Int->Int->By->LL->Option (PV × List Blk × Unit):=λr0 r1 r2 n3 s4 l5=>rv (.tup [.agg (HD r0 r1 0 0 0 0 0 0 0 0 0),.s (.int .i64 r2)]) [.box (HD n3 s4 0 0 0 0 0 0 0 0 0),.arr false 9 1 l5]
theorem WY (s:By) (h0:A2 s.length=true):∃ r H,Px LF s Bi1 Bi2=rv r H/\r.stab [0,0] H = .tup [IT (D9 s).1,.s (.int .i64 ((D9 s).2:Nat))]:=by
 have hs:=M9 h0
 have hLF:=I4
 have bad:∀ e:Nat,∃ r H,Bi1 0 [] 0 0 0 0 0 0 0 0 0 (e:Int) 0 [] 0 0 0 0 0 0 0 0 0=rv r H/\r.stab [0,0] H = .tup [IT O6,.s (.int .i64 (e:Nat))]:=λe=>⟨_,_,rfl,rfl⟩
 have bad2:∀ (e:Nat) (l:LL),∃ r H,Bi2 0 [] (e:Int) 0 [] l=rv r H/\r.stab [0,0] H = .tup [IT O6,.s (.int .i64 (e:Nat))]:=λe l=>⟨_,_,rfl,rfl⟩
 by_cases h1:1024<s.length
 ·have e:D9 s=(O6,3):=by unfold D9;rw [if_pos h1]
  rw [e]
  unfold Px
  rw [C4,cond_true]
  exact bad 3
 ·have hbr:([91]:By).isPrefixOf s=decide (s.head? = some 91):=by
   cases s with
   | nil=>rfl
   | cons b t=>
    grind
  by_cases h2:s.head? = some 91
  ·have hb:([91]:By).isPrefixOf s=true:=by rw [hbr,decide_eq_true h2]
   have e:D9 s=M0 s:=by unfold D9 M0;rw [if_neg h1,if_pos h2]<;>rfl
   rw [e]
   unfold Px
   rw [A6,cond_false,h0,cond_true,hb,cond_true,cond_true,show Ai7 s=true from hb,cond_true]
   exact ⟨_,_,rfl,rfl⟩
  ·have hb:([91]:By).isPrefixOf s=false:=by rw [hbr,decide_eq_false h2]
   unfold Px
   rw [A6,cond_false,h0,cond_true,hb,cond_false,cond_true]
   cases hp:T4 s with
   | none=>
    have e:D9 s=(O6,14):=by unfold D9;rw [if_neg h1,if_neg h2,hp]
    rw [e]
    exact bad 14
   | some t=>
    have htl:t.length<=s.length:=FJ s t hp
    have hv:QJ s=t:=by unfold QJ;rw [hp];rfl
    rw [hv,Dt]
    simp only [Option.isSome_some,Bool.not_true,cond_false,cond_true,vl]
    rw [An8]
    have htd:(M8 t).length<=t.length:=by unfold M8;split<;>simp
    have hP:D9 s=if I1 (M8 t) then (match pnB (M8 t) with
      | some v=>(⟨2,[],v,z8⟩,0)
      | none=>(O6,14))
     else if (I9 (pcs 46 (M8 t))).2=0 then (
      let name:=Lib.join (I9 (pcs 46 (M8 t))).1 [46]
      if 253<name.length then (O6,3) else if I1 name then (O6,14) else (⟨1,name,0,z8⟩,0))
     else (O6,(I9 (pcs 46 (M8 t))).2):=by
     unfold D9
     rw [if_neg h1,if_neg h2,hp]
     rfl
    rw [hP]
    generalize M8 t=u at *
    rw [Dt,cond_true]
    cases hn:I1 u with
    | true=>
     rw [if_pos rfl,cond_true,cond_true]
     cases hq:pnB u with
     | none=>exact bad 14
     | some v=>exact ⟨_,_,rfl,rfl⟩
    | false=>
     rw [if_neg (by simp),cond_false,cond_true,show ((1:Nat)==1)=true from rfl,cond_true]
     have hc:([46]:By).getD 0 0=46:=rfl
     rw [hc]
     have hpl:=Dm 46 u
     have hcl:=Hv 46 u
     obtain ⟨i1,i2⟩:=IU (pcs 46 u).length (by omega) (pcs 46 u) [] LF (by simp) (by omega) (λx hx=>by have:=(Z9 hx).2;omega)
     rw [List.nil_append,List.length_nil] at i1 i2
     by_cases hz:(I9 (pcs 46 u)).2=0
     ·rw [if_pos hz]
      obtain ⟨a1,a2⟩:=Yn _ hz
      have hjl:=TX [46] 63 (I9 (pcs 46 u)).1 (λx hx=>(Cd (a1 x hx)).le)
      have he:∀ {R:Type} (K0:Int->LL->Option R) (K1:Nat->LL->Option R),N5 LF LF (pcs 46 u).length ((pcs 46 u).length:Int) 0 (D3 (pcs 46 u)) K0 K1=K1 (pcs 46 u).length (D3 (I9 (pcs 46 u)).1):=λK0 K1=>i1 hz _ K0 K1
      rw [he]
      have hA:(I9 (pcs 46 u)).1.length<=1025:=by omega
      have htk:List.take (pcs 46 u).length (List.drop 0 (D3 (I9 (pcs 46 u)).1))=D3 (I9 (pcs 46 u)).1:=by
       rw [List.drop_zero,List.take_of_length_le (by rw [I2];omega)]
      have hmul:(63+([46]:By).length)*(I9 (pcs 46 u)).1.length<=64*1025:=Nat.mul_le_mul (by simp) hA
      rw [htk,DJ,Ag1,I2,Dt,Dt]
      simp only [cond_true]
      generalize Lib.join (I9 (pcs 46 u)).1 [46]=name at *
      by_cases h253:253<name.length
      ·rw [if_pos h253,C4,cond_true]
       exact bad2 3 _
      ·rw [if_neg h253,A6,cond_false]
       cases hnn:I1 name with
       | true=>exact bad2 14 _
       | false=>exact ⟨_,_,rfl,rfl⟩
     ·rw [if_neg hz]
      obtain ⟨l,e⟩:=i2 hz
      simp_all
theorem JA {R:Type} {k0 k1:Unit->Option R}:∀ l:List By,(∀ x∈l,x.length<=1000000000)->Vl LF l k0 k1=if l.all L1 then k0 () else k1 ()
 | [],_=>rfl
 | x::r,h=>by
  rw [IZ]
  unfold Sn
  rw [G0 (h x (by simp)),cond_true,List.all_cons]
  have ih:=JA (k0:=k0) (k1:=k1) r (λy hy=>h y (by simp [hy]))
  grind
theorem Ba2 (s:By) (h0:A2 s.length=true):∃ r H,hvn LF s (λ_=>rv (.s (.bool false)) [.box [.s (.bool false)]]) (λr0 b1=>rv (.s (.bool r0)) [.box [.s (.bool b1)],.box [.bad],.box [.bad],.box [.bad]])=rv r H/\r.stab [] H = .s (.bool (F7 s)):=by
 have hs:=M9 h0
 unfold hvn EJ F7
 by_cases h1:253<s.length
 ·rw [C4,show Nat.ble s.length 253=false by rw [Bool.eq_false_iff,ne_eq,Nat.ble_eq];omega]
  exact ⟨_,_,rfl,rfl⟩
 ·rw [A6,cond_false,h0,cond_true,show Nat.ble s.length 253=true by rw [Nat.ble_eq];omega]
  cases h2:I1 s with
  | true=>exact ⟨_,_,rfl,rfl⟩
  | false=>
   rw [cond_false,show ((1:Nat)==1&&(0:Int)==(0:Int))=true from rfl,show ([46]:By).getD 0 0=46 from rfl,Bool.and_true,cond_true,JA _ (λx hx=>by have:=(Z9 hx).2;omega)]
   cases h3:(pcs 46 s).all L1 with
   | true=>exact ⟨_,_,rfl,rfl⟩
   | false=>exact ⟨_,_,rfl,rfl⟩
theorem PN {R:Type} {k0:By->By->Int->Option R} (t p:By) (n:Int):Aj9 LF t p n k0=k0 t p n:=rfl
theorem ZO {R:Type} {k0:By->By->Option R} (t p:By):Bc4 LF t p k0=k0 t p:=rfl
theorem XA {R:Type} {k0:By->Option R} (t:By):A99 LF t k0=k0 t:=rfl
theorem Yv {c:UInt8} {s:By} (h:c∉s):Lib.cut s [c]=(s,[],false):=by
 unfold Lib.cut
 rw [Kz h,if_neg (by decide)]
theorem IA {c:UInt8} {p r:By} (h:c∉p):Lib.cut (p++c::r) [c]=(p,r,true):=by
 unfold Lib.cut
 rw [Pz h,Gz,Int.toNat_natCast,List.take_left,List.length_singleton]
 simp_all
theorem RV {σ R:Type} (yh:Yh σ) (c:UInt8):∀ (m:Nat) (t:By) (n:Nat) (s s':σ),t.length<=m->t.length<=1000000000->m<n->P5 yh ((pcs c t).map λx=>([.s (.str x)]:List PV)) s=some s'->
  ∃ t' , (∃ s0:σ,∃ b:Bool,yh [.s (.str t')] s0=some (b,s')/\∀ (k0 k1:By->By->Int->σ->Option R),N6 yh LF n [c] t 0 s k0 k1=k0 [c] t' 0 s0)\/(∀ (k0 k1:By->By->Int->σ->Option R),N6 yh LF n [c] t 0 s k0 k1=k1 [c] t' 0 s'):=by
 intro m
 induction m with
 | zero=>
  intro t n s s' ht ht2 hn h
  obtain rfl:=List.length_eq_zero_iff.1 (Nat.le_zero.1 ht)
  obtain ⟨n,rfl⟩:∃ m,n=m+1:=⟨n-1,by omega⟩
  rw [Cu (by simp)] at h
  simp only [List.map_cons,List.map_nil,P5] at h
  refine ⟨[],.inl ⟨s,?_⟩⟩
  have e:∀ (k0 k1:By->By->Int->σ->Option R),N6 yh LF (n+1) [c] [] 0 s k0 k1=k0 [c] [] 0 s:=λk0 k1=>by
   rw [N6]
   rw [Kz (by simp)]
   rfl
  cases hy:yh [.s (.str [])] s with
  | none=>rw [hy] at h;cases h
  | some q=>
   obtain ⟨b,s1⟩:=q
   rw [hy] at h
   have:s1=s':=by cases b<;>simpa using h
   subst this
   exact ⟨b,rfl,e⟩
 | succ m ih=>
  intro t n s s' ht ht2 hn h
  obtain ⟨n,rfl⟩:∃ m,n=m+1:=⟨n-1,by omega⟩
  rcases Dv c t with hc | ⟨p,r,rfl,hc⟩
  ·rw [Cu hc] at h
   simp only [List.map_cons,List.map_nil,P5] at h
   refine ⟨t,.inl ⟨s,?_⟩⟩
   have e:∀ (k0 k1:By->By->Int->σ->Option R),N6 yh LF (n+1) [c] t 0 s k0 k1=k0 [c] t 0 s:=λk0 k1=>by
    rw [N6]
    rw [Kz hc,G0 ht2]
    rfl
   cases hy:yh [.s (.str t)] s with
   | none=>rw [hy] at h;cases h
   | some q=>
    obtain ⟨b,s1⟩:=q
    rw [hy] at h
    have:s1=s':=by cases b<;>simpa using h
    subst this
    exact ⟨b,rfl,e⟩
  ·rw [Jm hc] at h
   simp only [List.map_cons,P5] at h
   have hlen:(p++c::r).length=p.length+r.length+1:=by rw [List.length_append,List.length_cons];omega
   have e1:A4 ((p.length:Int)+0)=((p.length:Nat):Int):=by rw [A5];omega
   have e2:A4 ((p.length:Int)+(([c]:By).length:Int))=((p.length+1:Nat):Int):=by
    rw [J1 (by simp;omega) (by simp;omega)];simp
   have e3:cut (p++c::r) 0 (p.length:Int)=p:=by rw [Hw,Int.toNat_natCast,List.take_left]
   have e4:cut (p++c::r) ((p.length+1:Nat):Int) ((p++c::r).length:Int)=r:=by
    rw [Q9,Int.toNat_natCast,show p++c::r=(p++[c])++r by simp,List.drop_left' (by simp)]
   have top:∀ (k0 k1:By->By->Int->σ->Option R),N6 yh LF (n+1) [c] (p++c::r) 0 s k0 k1=ydK (yh [.s (.str p)] s) λb s1=>cond (not b) (k1 [c] (p++c::r) 0 s1) (N6 yh LF n [c] r 0 s1 k0 k1):=λk0 k1=>by
    rw [N6]
    rw [Pz hc,G0 ht2,cond_true,A6,cond_false]
    simp only [vl,e1,e2,e3,e4]
    rw [T0,cond_true,T0]
    rfl
   cases hy:yh [.s (.str p)] s with
   | none=>rw [hy] at h;cases h
   | some q=>
    obtain ⟨b,s1⟩:=q
    rw [hy] at h top
    cases b with
    | false=>
     have:s1=s':=by simpa using h
     subst this
     exact ⟨p++c::r,.inr λk0 k1=>by rw [top];rfl⟩
    | true=>
     simp only at h
     obtain ⟨t',⟨s0,b,e,f⟩ | f⟩:=ih r n s1 s' (by omega) (by omega) (by omega) h
     ·exact ⟨t',.inl ⟨s0,b,e,λk0 k1=>by rw [top];exact f k0 k1⟩⟩
     ·exact ⟨t',.inr λk0 k1=>by rw [top];exact f k0 k1⟩
theorem RW {σ R:Type} (yh:Yh σ) (p t:By) (n:Int) (s s':σ) (h:(A2 t.length&&(p.length==1&&n==0))=true) (hr:P5 yh ((pcs (p.getD 0 0) t).map λx=>([.s (.str x)]:List PV)) s=some s') :
  ∃ t',∀ (k0:By->By->Int->σ->Option R),KK yh LF p t n s k0=k0 p t' n s':=by
 have hLF:=I4
 simp only [Bool.and_eq_true,beq_iff_eq] at h
 obtain ⟨h1,h2,rfl⟩:=h
 obtain ⟨c,rfl⟩:=List.length_eq_one_iff.1 h2
 have ht:=M9 h1
 obtain ⟨t',⟨s0,b,e,f⟩ | f⟩:=RV (R:=R) yh c t.length t LF s s' (Nat.le_refl _) ht (by omega) hr
 ·refine ⟨t',λk0=>?_⟩
  unfold KK
  rw [show (((([c]:By).length:Nat):Int)==0)=false from rfl,cond_false]
  refine Eq.trans (f _ _) ?_
  rw [e]
  rfl
 ·refine ⟨t',λk0=>?_⟩
  unfold KK
  rw [show (((([c]:By).length:Nat):Int)==0)=false from rfl,cond_false]
  exact f _ _
theorem Vk {σ R:Type} (yh:Yh σ):∀ (l:List By) (t:By) (n:Nat) (s s':σ),VN t->pcs 46 t=l->l.length<n->P5 yh ((Ir l).map λx=>([.s (.str x)]:List PV)) s=some s'->
  ∃ t',∀ (k0:By->σ->Option R),V9 yh LF n t s k0=k0 t' s'
 | [],t,n,s,s',hv,hp,hn,hr=>absurd hp (FI 46 t)
 | [x],t,n,s,s',hv,hp,hn,hr=>by
  obtain ⟨n,rfl⟩:∃ m,n=m+1:=⟨n-1,by omega⟩
  simp only [Ir,List.map_nil,P5,Option.some.injEq] at hr
  subst hr
  have hno:(46:UInt8)∉t:=by
   intro h
   have h1:=Dm 46 t
   rw [hp] at h1
   have:=List.count_pos_iff.2 h
   simp at h1
   omega
  refine ⟨t,λk0=>?_⟩
  rw [V9]
  rw [Yv hno,G0 (by have:=hv.le;omega)]
  rfl
 | x::y::r,t,n,s,s',hv,hp,hn,hr=>by
  obtain ⟨n,rfl⟩:∃ m,n=m+1:=⟨n-1,by omega⟩
  obtain ⟨q1,q2,q3⟩:=hv.super hp
  have hx:(46:UInt8)∉x:=(Z9 (s:=t) (x:=x) (by rw [hp];simp)).1
  simp only [Ir,List.map_cons,P5] at hr
  have top:∀ (k0:By->σ->Option R),V9 yh LF (n+1) t s k0=ydK (yh [.s (.str (Lib.join (y::r) [46]))] s) λb s1=>cond (not b) (k0 t s1) (V9 yh LF n (Lib.join (y::r) [46]) s1 k0):=λk0=>by
   rw [V9]
   have:Lib.cut t [46]=(x,Lib.join (y::r) [46],true):=by rw [q1];exact IA hx
   rw [this,G0 (by have:=hv.le;omega)]
   rfl
  cases hy:yh [.s (.str (Lib.join (y::r) [46]))] s with
  | none=>rw [hy] at hr;cases hr
  | some q=>
   obtain ⟨b,s1⟩:=q
   rw [hy] at hr top
   cases b with
   | false=>
    have:s1=s':=by simpa using hr
    subst this
    exact ⟨t,λk0=>by rw [top];rfl⟩
   | true=>
    simp only at hr
    obtain ⟨t',f⟩:=Vk yh (y::r) (Lib.join (y::r) [46]) n s1 s' q2 q3 (by simp only [List.length_cons] at hn ⊢;omega) hr
    exact ⟨t',λk0=>by rw [top];exact f k0⟩
theorem OR {σ R:Type} (yh:Yh σ) (t:By) (s s':σ) (h:A2 t.length=true) (hr:P5 yh ((FX t).map λx=>([.s (.str x)]:List PV)) s=some s') :
  ∃ t',∀ (k0:By->σ->Option R),IW yh LF t s k0=k0 t' s':=by
 have hLF:=I4
 have ht:=M9 h
 unfold FX at hr
 cases hv:F7 t with
 | false=>
  rw [hv] at hr
  simp only [Bool.false_eq_true,if_false,List.map_nil,P5,Option.some.injEq] at hr
  subst hr
  refine ⟨t,λk0=>?_⟩
  unfold IW
  rw [h,hv]
  rfl
 | true=>
  rw [hv,if_pos rfl] at hr
  have hpl:=Dm 46 t
  have hcl:=Hv 46 t
  obtain ⟨t',f⟩:=Vk (R:=R) yh _ t LF s s' (Gr.1 hv) rfl (by omega) hr
  refine ⟨t',λk0=>?_⟩
  unfold IW
  rw [h,hv]
  exact f _
end
section
open Go Go.Op
def XF (c:Int):Bool:=c==32 || c==9
def Vo (c:Int):Bool:=XF c || (c==10 || (c==12 || c==13))
def spB (b:UInt8):Bool:=Vo (b.toNat:Int)
def Gt (acc:By):By->List By
 | []=>if acc.isEmpty then [] else [acc]
 | c::r=>if spB c then (if acc.isEmpty then Gt [] r else acc::Gt [] r) else Gt (acc++[c]) r
def G7 (s:By):List By:=Gt [] s
def Zc:By:=[105,110,99,108,117,100,101,45,115,117,98,100,111,109,97,105,110,115]
def NX (w:List By):Ent × Nat:=
 if (D9 (w.getD 0 [])).2≠0 then (noE,(D9 (w.getD 0 [])).2) else if (D9 (w.getD 0 [])).1.kind≠1 then (noE,14) else (((D9 (w.getD 0 [])).1.name,w.length==2),0)
def Bh (w:List By):Ent × Nat:=if 2<w.length then (noE,4) else if w.length==2 && !(C5 (w.getD 1 [])==C5 Zc) then (noE,4) else NX w
def smL (s:By):Bool:=A2 s.length
def Fe:List By->Nat->List Ent->List Ent × Nat × Nat
 | [],_,out=>(out,0,0)
 | s::r,n,out=>if (G7 (Lib.cut s [35]).1).isEmpty then Fe r (n+1) out else if out.length=1000 then ([],n+1,3) else
  if (Bh (G7 (Lib.cut s [35]).1)).2≠0 then ([],n+1,(Bh (G7 (Lib.cut s [35]).1)).2) else Fe r (n+1) (out++[(Bh (G7 (Lib.cut s [35]).1)).1])
def H7 (t:By):List Ent × Nat × Nat:=if 524288<t.length then ([],0,3) else Fe (pcs 10 t) 0 []
theorem Oc:∀ (s acc:By),(∀ x∈Gt acc s,x.length<=acc.length+s.length)/\(Gt acc s).length<=s.length+(if acc.isEmpty then 0 else 1)
 | [],acc=>by
  unfold Gt
  split
  ·exact ⟨λx hx=>(by cases hx),Nat.zero_le _⟩
  ·exact ⟨λx hx=>(by simp at hx;subst hx;simp),by simp [*]⟩
 | c::r,acc=>by
  unfold Gt
  split
  ·split
   ·obtain ⟨h1,h2⟩:=Oc r []
    refine ⟨λx hx=>?_,?_⟩
    ·have:=h1 x hx;simp at this ⊢;omega
    ·simp at h2 ⊢;omega
   ·obtain ⟨h1,h2⟩:=Oc r []
    refine ⟨λx hx=>?_,?_⟩
    ·rcases List.mem_cons.1 hx with rfl | hx
     ·omega
     ·have:=h1 x hx;simp at this ⊢;omega
    ·simp at h2 ⊢;omega
  ·obtain ⟨h1,h2⟩:=Oc r (acc++[c])
   refine ⟨λx hx=>?_,?_⟩
   ·have:=h1 x hx;simp at this ⊢;omega
   ·simp at h2 ⊢;omega
theorem Ap0 {s:By} (h:A2 s.length=true):A2 (D3 (G7 s)).length=true/\((D3 (G7 s)).map elS).all smL=true:=by
 have hs:=M9 h
 obtain ⟨h1,h2⟩:=Oc s []
 refine ⟨G0 (by rw [I2];unfold G7;simp at h2;omega),?_⟩
 rw [show (D3 (G7 s)).map elS=G7 s by unfold D3;rw [List.map_map];exact List.map_id'' (λ_=>rfl) _]
 exact List.all_eq_true.2 λx hx=>G0 (by have:=h1 x hx;simp at this;omega)
theorem IB (s:By):(pcs 35 s).getD 0 []=(Lib.cut s [35]).1/\(Lib.cut s [35]).1.length<=s.length:=by
 by_cases h:(35:UInt8)∈s
 ·obtain ⟨p,r,e,hp⟩:=List.eq_append_cons_of_mem h
  rw [e,Jm hp,IA hp]
  exact ⟨rfl,by simp⟩
 ·rw [Cu h,Yv h]
  exact ⟨rfl,Nat.le_refl _⟩
end
section
open Go Go.Proofs
set_option maxRecDepth 100000
section
def CI:List PV->Tr
 | [.s (.str s)]=>.ret (.s (.bool false)) []
 | _=>.fail
def Ab5 (args:List PV):Tr:=CI (E4 [[0]] args)
def CH:List PV->Tr
 | [.s (.int .i64 n)]=>.ret (.s (.bool false)) []
 | _=>.fail
def Ab4 (args:List PV):Tr:=CH (E4 [[0]] args)
def LM:List PV->Tr
 | [.s (.str s),.s (.str p)]=>.ret (.s (.int .i64 (T1 s p))) []
 | _=>.fail
def A56 (args:List PV):Tr:=LM (E4 [[0],[0]] args)
def LK:List PV->Tr
 | [.s (.int .i64 n),.s (.int .i64 m)]=>.ret (.s (.int .i64 (EC n m))) []
 | _=>.fail
def A55 (args:List PV):Tr:=LK (E4 [[0],[0]] args)
def CM:List PV->Tr
 | [.s (.str s),.s (.str p)]=>.need (A2 (List.length s)) (.need (A2 (List.length p)) (.ret (.s (.int .i64 (Q1 s p))) []))
 | _=>.fail
def Ab7 (args:List PV):Tr:=CM (E4 [[0],[0]] args)
def Bk8:List PV->Tr
 | [.agg [.s (.str h),.s (.bool b),.s (.int .i64 e)]]=>.need (A2 (List.length h)) (.ret (.s (.bool (Bl8 h e))) [])
 | _=>.fail
def BZ:List PV->Tr
 | [.agg [.s (.str h),.s (.bool b)]]=>.need (A2 (List.length h)) (.ret (.s (.bool (not (F7 h)))) [])
 | _=>.fail
def Ab2 (args:List PV):Tr:=BZ (E4 [[0,0]] args)
def LW:List PV->Tr
 | [.agg [.s (.str h),.s (.bool b)],.s (.str s)]=>.need (A2 (List.length h)) (.need (A2 (List.length s)) (.ret (.s (.int .i64 (Q1 h s))) []))
 | _=>.fail
def A60 (args:List PV):Tr:=LW (E4 [[0,0],[0]] args)
def BW:List PV->Tr
 | [.s (.sl l_z l_t 2 l),.s (.fn (Fn.func 58) [] [])]=>.need (List.all l F1) (.need (List.all l smE) (.need (A2 (List.length l)) (.ret (.s (.int .i64 (ixE (List.map C3 l)))) [])))
 | _=>.fail
def Ab1 (args:List PV):Tr:=BW (E4 [[2],[0]] args)
def BT:List PV->Tr
 | [.s (.sl l_z l_t 2 l),.s (.fn (Fn.func 58) [] [])]=>.need (List.all l F1) (.need (List.all l smE) (.need (A2 (List.length l)) (.ret (.s (.bool (Xn (List.map C3 l)))) [])))
 | _=>.fail
def Th (args:List PV):Tr:=BT (E4 [[2],[0]] args)
def BS:List PV->Tr
 | [.s (.sl l_z l_t 2 l)]=>.need (A2 (List.length l)) (.need (L8 l_z l) (.ret (.fl 0) [.arr l_z 63 2 l]))
 | _=>.fail
def Kh (args:List PV):Tr:=BS (E4 [[2]] args)
def Ki:SV->List (List SV)->Bool × List (List SV)
 | .fn (Fn.func 62) [] [],l=>(((List.all l F1)&&((List.all l smE)&&(A2 (List.length l)))),(D7 (Q4 (List.map C3 l))))
 | _,_=>(false,[])
def BQ:List PV->Tr
 | [.s (.sl l_z l_t 2 l),.s (.str q),.s (.fn (Fn.func 66) [] [])]=>.need (List.all l F1) (.need (List.all l smE) (.need (A2 (List.length l)) (.need (A2 (List.length q)) (.ret (.tup [.s (.int .i64 (↑(bsI (List.map Prod.fst (List.map C3 l)) q):Int)),.s (.bool (bsB (List.map Prod.fst (List.map C3 l)) q))]) []))))
 | _=>.fail
def Ab0 (args:List PV):Tr:=BQ (E4 [[2],[0],[0]] args)
def Fl:List PV->Tr
 | [.s (.sl l_z l_t 2 l)]=>.need (List.all l F1) (.need (List.all l smE) (.need (A2 (List.length l)) (.need (L8 l_z l) (.split ((P0 (List.map C3 l))==0) (.ret (.tup [.s (.sp [[.sl l_z l_z 2 (D7 (isE (List.map C3 l)))]] 0 0),.s (.int .i64 (0:Int))]) []) (.ret (.tup [.s (.nilp),.s (.int .i64 (↑(P0 (List.map C3 l)):Int))]) [])))))
 | _=>.fail
def BX (args:List PV):Tr:=Fl (E4 [[2]] args)
def BO:List PV->Tr
 | [.s (.sl l_z l_t 2 l),.s (.int .i64 n)]=>.need (List.all l F1) (.need (ltI n (1001:Int)) (.ret (.s (.bool (Eh n l))) []))
 | _=>.fail
def LT (args:List PV):Tr:=BO (E4 [[2],[0]] args)
def A79:List PV->Tr
 | []=>.ret (.s (.bool true)) []
 | _=>.fail
def Kf:List PV->Tr
 | []=>.ret (.s (.bool true)) []
 | _=>.fail
def Og (args:List PV):Tr:=Kf (E4 [] args)
def Tf:List PV->Tr
 | [.s (.sl l_z l_t 2 l),.s (.sl m_z m_t 2 m)]=>.need (List.all l F1) (.need (A2 (List.length l)) (.need (List.all m F1) (.need (A2 (List.length m)) (.ret (.s (.bool ((List.map C3 l)==(List.map C3 m)))) []))))
 | _=>.fail
def BN (args:List PV):Tr:=Tf (E4 [[2],[2]] args)
def BL:List PV->Tr
 | [.s (.int .u8 c)]=>.ret (.s (.bool (XF c))) []
 | _=>.fail
def Aa8 (args:List PV):Tr:=BL (E4 [[0]] args)
def Te:List PV->Tr
 | [.s (.int .u8 c)]=>.ret (.s (.bool (Vo c))) []
 | _=>.fail
def TD (args:List PV):Tr:=Te (E4 [[0]] args)
def Tt:List PV->Tr
 | [.s (.str s)]=>.need (A2 (List.length s)) (.ret (.s (.sl (List.isEmpty (G7 s)) (List.isEmpty (G7 s)) 1 (D3 (G7 s)))) [])
 | _=>.fail
def DE (args:List PV):Tr:=Tt (E4 [[0]] args)
def LN:List PV->Tr
 | [.s (.str s),.s (.str p)]=>.need (A2 (List.length s)) (.need (A2 (List.length p)) (.ret (.s (.bool ((C5 s)==(C5 p)))) []))
 | _=>.fail
def A57 (args:List PV):Tr:=LN (E4 [[0],[0]] args)
def CQ:List PV->Tr
 | [.s (.sl w_z w_t 1 w)]=>.need (List.all w isS) (.need (A2 (List.length w)) (.need (List.all (List.map elS w) smL) (.need (not (List.isEmpty w)) (.ret (.tup [.agg [.s (.str (((Bh (List.map elS w))).1).1),.s (.bool (((Bh (List.map elS w))).1).2)],.s (.int .i64 (↑((Bh (List.map elS w))).2:Int))]) []))))
 | _=>.fail
def MB (args:List PV):Tr:=CQ (E4 [[1]] args)
def CT:List PV->Tr
 | [.s (.str s)]=>.need (A2 (List.length s)) (.ret (.tup [.s (.sl (List.isEmpty ((H7 s)).1) (List.isEmpty ((H7 s)).1) 2 (D7 ((H7 s)).1)),.s (.int .i64 (↑(((H7 s)).2).1:Int)),.s (.int .i64 (↑(((H7 s)).2).2:Int))]) [])
 | _=>.fail
def MC (args:List PV):Tr:=CT (E4 [[0]] args)
end
end
section
open Go
def Gy:List UInt8:=[32,105,110,99,108,117,100,101,45,115,117,98,100,111,109,97,105,110,115]
theorem WR {l:List (List UInt8 × Bool)} {k:Nat} {x:List UInt8 × Bool} (h:l[k]? = some x):((l.take (k+1)).map λx=>x.1++((if x.2 then Gy else [])++[10])).flatten=((l.take k).map λx=>x.1++((if x.2 then Gy else [])++[10])).flatten++x.1++(if x.2 then Gy else [])++[10]:=by
 rw [List.take_add_one,h]
 simp [List.append_assoc]
theorem Au5 (l:List (List UInt8 × Bool)) (k:Nat):((l.take k).map λx=>x.1++((if x.2 then Gy else [])++[10])).flatten.length<=(l.map λx=>x.1++((if x.2 then Gy else [])++[10])).flatten.length:=by
 conv=>rhs;rw [<-List.take_append_drop k l]
 rw [List.map_append,List.flatten_append,List.length_append]
 omega
def Av (l:List (List UInt8 × Bool)):List UInt8:=(l.map λx=>x.1++((if x.2 then Gy else [])++[10])).flatten
def IN (E:List Ent):Bool:=Nat.ble (Av (isE E)).length 1000000000
end
section
open Go Go.Proofs
set_option maxRecDepth 100000
section
def BU:List PV->Tr
 | [.s (.sl l_z l_t 2 l)]=>.need (List.all l F1) (.need (List.all l smE) (.need (A2 (List.length l)) (.need (L8 l_z l) (.need (IN (List.map C3 l)) (.split ((P0 (List.map C3 l))==0) (.ret (.tup [.s (.str (Av (isE (List.map C3 l)))),.s (.int .i64 (0:Int))]) []) (.ret (.tup [.s (.str ([]:List UInt8)),.s (.int .i64 (↑(P0 (List.map C3 l)):Int))]) []))))))
 | _=>.fail
def LV (args:List PV):Tr:=BU (E4 [[2]] args)
def Tj:List PV->Tr
 | [.s (.sl l_z l_t 2 l)]=>.need (List.all l F1) (.need (List.all l smE) (.need (A2 (List.length l)) (.need (L8 l_z l) (.split ((P0 (List.map C3 l))==0) (.ret (.tup [.ptr 0 0 0,.s (.int .i64 (0:Int))]) [.box [.fl 1],.arr l_z 63 2 (D7 (isE (List.map C3 l)))]) (.ret (.tup [.s (.nilp),.s (.int .i64 (↑(P0 (List.map C3 l)):Int))]) [])))))
 | _=>.fail
def BY (args:List PV):Tr:=Tj (E4 [[2]] args)
def Lo:List PV->List Blk->Tr
 | [.ptr 0 0 0],[.box [.fl 1],.arr z 63 2 l]=>.need (List.all l F1) (.need (A2 (List.length l)) (.need (L8 z l) (.ret (.fl 2) [.box [.fl 1],.arr z 63 2 l,.arr z 63 2 l])))
 | _,_=>.fail
end
section
variable {σ R : Type} (lf : Nat) (cl : E1) (yh : Yh σ) (s : σ) (k : Out -> St σ -> Option R)
noncomputable def Ui (lf:Nat):Cfg:=D2 lf [36] (A3 []) [(60,Kh)] (A3 [(3,[2]),(2,[2]),(1,[0,3]),(0,[0])]) [] (A3 []) (some [2]) [] [] []
noncomputable def EQ {R:Type} (lf:Nat) (z:Bool) (l:LL) (k0:Bool->LL->Bool->Option R):Option R:=cond (A2 l.length) (cond (L8 (z&&(List.isEmpty l)) l) (cond ((plE l)&&true) (k0 z l (z&&(List.isEmpty l))) none) none) none
theorem XU (d:Nat) (z l):evC (Ui lf) (d+1) σ yh 36 [.ptr 0 0 0] [.box [.fl 1],.arr z 63 2 l] s=EQ lf z l (λz0 l1 z2=>some (.fl 2,[.box [.fl 1],.arr z0 63 2 l1,.arr z2 63 2 l1],s)):=by
 refine (evE (fn:=Tryz.f36) (by kernel_rfl)).trans ?_
 generalize evC (Ui lf) d=cl
 unfold EQ;kernel_rfl
end
section
variable {σ R : Type} (lf : Nat) (cl : E1) (yh : Yh σ) (s : σ) (k : Out -> St σ -> Option R)
noncomputable def NF (lf:Nat):Cfg:=D2 lf [143] (A3 []) [] (A3 [(1,[2]),(0,[0])]) [] (A3 []) (some [2]) [] [] []
noncomputable def Az6 {R:Type} (lf:Nat) (x0:By) (k0:Bool->Option R):Option R:=k0 (not (x0==x0))
theorem Az7 (d:Nat) (x0):evC (NF lf) (d+1) σ yh 143 [pS x0] [] s=Az6 lf x0 (λr0=>some (pB r0,[],s)):=by
 refine (evE (fn:=Tryz.f143) (by kernel_rfl)).trans ?_
 generalize evC (NF lf) d=cl
 unfold Az6;kernel_rfl
noncomputable def NE (lf:Nat):Cfg:=D2 lf [144] (A3 []) [] (A3 [(1,[2]),(0,[0])]) [] (A3 []) (some [2]) [] [] []
noncomputable def Az4 {R:Type} (lf:Nat) (x0:Int) (k0:Bool->Option R):Option R:=k0 (x0 != x0)
theorem Az5 (d:Nat) (x0):evC (NE lf) (d+1) σ yh 144 [pI x0] [] s=Az4 lf x0 (λr0=>some (pB r0,[],s)):=by
 refine (evE (fn:=Tryz.f144) (by kernel_rfl)).trans ?_
 generalize evC (NE lf) d=cl
 unfold Az4;kernel_rfl
noncomputable def Ad9 (lf:Nat):Cfg:=D2 lf [98] (A3 []) [(143,Ab5)] (A3 [(13,[4]),(12,[4]),(11,[19]),(10,[4]),(9,[0,0,14]),(8,[4]),(7,[0,0,11]),(6,[4]),(5,[4]),(4,[12]),(3,[0,0,4,4]),(2,[0,0,3,0]),(1,[0,0,3]),(0,[0,0])]) [143] (A3 []) (some [4]) [] [] []
noncomputable def ccs {R:Type} (lf:Nat) (x0 y1:By) (k0:Int->Option R):Option R:=cond (bytesLess x0 y1) (k0 (-1)) (cond (not ((bytesLess x0 y1) || (x0==y1))) (k0 1) (k0 0))
theorem A89 (d:Nat) (x0 y1):evC (Ad9 lf) (d+1) σ yh 98 [pS x0,pS y1] [] s=ccs lf x0 y1 (λr0=>some (pI r0,[],s)):=by
 refine (evE (fn:=Tryz.f98) (by kernel_rfl)).trans ?_
 generalize evC (Ad9 lf) d=cl
 unfold ccs;kernel_rfl
noncomputable def Ad8 (lf:Nat):Cfg:=D2 lf [99] (A3 []) [(144,Ab4)] (A3 [(13,[4]),(12,[4]),(11,[19]),(10,[4]),(9,[0,0,14]),(8,[4]),(7,[0,0,11]),(6,[4]),(5,[4]),(4,[12]),(3,[0,0,4,4]),(2,[0,0,3,0]),(1,[0,0,3]),(0,[0,0])]) [144] (A3 []) (some [4]) [] [] []
noncomputable def cci {R:Type} (lf:Nat) (x0 y1:Int) (k0:Int->Option R):Option R:=cond (ltI x0 y1) (k0 (-1)) (cond (ltI y1 x0) (k0 1) (k0 0))
theorem A88 (d:Nat) (x0 y1):evC (Ad8 lf) (d+1) σ yh 99 [pI x0,pI y1] [] s=cci lf x0 y1 (λr0=>some (pI r0,[],s)):=by
 refine (evE (fn:=Tryz.f99) (by kernel_rfl)).trans ?_
 generalize evC (Ad8 lf) d=cl
 unfold cci;kernel_rfl
noncomputable abbrev Ad3:Code:=F0 Tryz.f63
noncomputable def Kw (lf:Nat):Cfg:=D2 lf [63] (A3 [(2,[0,0,2,0,0])]) [(97,Sm),(98,A56),(99,A55)] (A3 [(8,[4]),(7,[0,0]),(6,[0,0,3,0,22]),(5,[4]),(4,[0,0,3,0,0,14]),(3,[0,0,3,0,0]),(2,[0,0,3,0]),(1,[0,0]),(0,[0,0])]) [97,98,99] (A3 [(0,[5,0]),(1,[0,0])]) (some [4]) [] [] []
noncomputable def Jl {R:Type} (lf n:Nat) (a0 b1:By) (k0:Int->Option R) (k1:Int->Int->Option R):Option R:=match n with | 0=>none | n+1=>cond (A2 a0.length) (vl (F9 (u8n (46:Int)) a0) λn'2=>cond (A2 b1.length) (vl (F9 (u8n (46:Int)) b1) λn'3=>cond (Z4 (A4 (n'2+1)) (a0.length:Int) a0.length) (vl (cut a0 (A4 (n'2+1)) (a0.length:Int)) λs'6=>cond (Z4 (A4 (n'3+1)) (b1.length:Int) b1.length) (vl (cut b1 (A4 (n'3+1)) (b1.length:Int)) λs'7=>cond ((T1 s'6 s'7) != 0) (k0 (T1 s'6 s'7)) (cond (ltI n'2 0) (k1 n'2 n'3) (cond (ltI n'3 0) (k1 n'2 n'3) (cond (Z4 0 n'2 a0.length) (cond (Z4 0 n'3 b1.length) (Jl lf n (cut a0 0 n'2) (cut b1 0 n'3) k0 k1) none) none)))) none) none) none) none
theorem QI (n a0 b1):G9 0 ((Kw lf).keep 2) (bd (Kw lf) cl yh (cd [1,0,1,1,0,0,0] Ad3)) n ⟨gp [(0,pS a0),(0,pS b1)] 39,[],s⟩ k =
 Jl lf n a0 b1 (λn0=>k .ret ⟨gp [(4,pI n0)] 36,[],s⟩) (λi0 kk1=>k (.exit 0) ⟨gp [(5,pI i0),(0,pI kk1)] 34,[],s⟩):=by
 induction n generalizing a0 b1 with
 | zero=>rfl
 | succ n ih=>rw [Jl];simp only [<-ih];kernel_rfl
noncomputable def A05 {R:Type} (lf:Nat) (a0 b1:By) (k0:Int->Option R):Option R:=Jl lf lf a0 b1 (λn'8=>k0 n'8) (λi'9 kk'10=>vl (EC (if ((0:Int)<i'9) then (0:Int) else i'9) (if ((0:Int)<kk'10) then (0:Int) else kk'10)) λn'11=>k0 n'11)
theorem A06 (d:Nat) (a0 b1):evC (Kw lf) (d+1) σ yh 63 [pS a0,pS b1] [] s=A05 lf a0 b1 (λr0=>some (pI r0,[],s)):=by
 refine (evE (fn:=Tryz.f63) (by kernel_rfl)).trans ?_
 generalize evC (Kw lf) d=cl
 unfold A05;exact (Eq.trans (by kernel_rfl) ((QI lf cl yh s (M3 0 (N1 (Kw lf) cl yh (cd [1,0,1,1,1] Ad3) (K9 (Kw lf) Tryz.f63))) lf a0 b1).trans (by kernel_rfl)))
noncomputable def NB (lf:Nat):Cfg:=D2 lf [58] (A3 []) [(59,TC)] (A3 [(1,[2]),(0,[1])]) [59] (A3 []) (some [2]) [] [] []
noncomputable def Ax7 {R:Type} (lf:Nat) (x0:By) (x1:Bool) (k0:Bool->By->Bool->Option R):Option R:=cond (A2 x0.length) (k0 (not (F7 x0)) x0 x1) none
theorem Ax8 (d:Nat) (x0 x1):evC (NB lf) (d+1) σ yh 58 [.agg [pS x0,pB x1]] [] s=Ax7 lf x0 x1 (λr0 s1 b2=>some (pB r0,[.box [pS s1,pB b2]],s)):=by
 refine (evE (fn:=Tryz.f58) (by kernel_rfl)).trans ?_
 generalize evC (NB lf) d=cl
 unfold Ax7;kernel_rfl
noncomputable def Ae1 (lf:Nat):Cfg:=D2 lf [66] (A3 []) [(63,Ab7)] (A3 [(1,[4]),(0,[1,0])]) [63] (A3 []) (some [4]) [] [] []
noncomputable def lgf {R:Type} (lf:Nat) (x0:By) (x1:Bool) (name2:By) (k0:Int->By->Bool->Option R):Option R:=cond (A2 x0.length) (cond (A2 name2.length) (k0 (Q1 x0 name2) x0 x1) none) none
theorem Ba8 (d:Nat) (x0 x1 name2):evC (Ae1 lf) (d+1) σ yh 66 [.agg [pS x0,pB x1],pS name2] [] s=lgf lf x0 x1 name2 (λr0 s1 b2=>some (pI r0,[.box [pS s1,pB b2]],s)):=by
 refine (evE (fn:=Tryz.f66) (by kernel_rfl)).trans ?_
 generalize evC (Ae1 lf) d=cl
 unfold lgf;kernel_rfl
noncomputable abbrev Ac9:Code:=F0 Tryz.f92
noncomputable def Kt (lf:Nat):Cfg:=D2 lf [92] (A3 [(2,[0,0,2,2,0])]) [(58,Ab2)] (A3 [(7,[4]),(6,[0,0,5,0]),(5,[4]),(4,[0,0,3,1,0,7]),(3,[0,0,3,1,0]),(2,[0,0,5,0,0]),(1,[0,0,5,0]),(0,[0,0])]) [58] (A3 [(0,[]),(1,[0,0,5,0])]) (some [4]) [] [] []
noncomputable def Gg {R:Type} (lf n:Nat) (s_z0 s_t1:Bool) (s2:LL) (n3 n4:Int) (k0:Int->Option R) (k1:Unit->Option R):Option R:=match n with | 0=>none | n+1=>cond (ltI n4 n3) (cond (inR n4 s2.length) (cond (okE ⟨true,true,[.str,.bool]⟩ s2 (Int.toNat n4) 0) (cond (A2 (List.length (gX s2 (Int.toNat n4) 0))) (cond (not (F7 (gX s2 (Int.toNat n4) 0))) (k0 n4) (Gg lf n s_z0 s_t1 s2 n3 (A4 (n4+1)) k0 k1)) none) none) none) (k1 ())
theorem PG (n s_z0 s_t1 s2 n3 n4):G9 0 ((Kt lf).keep 2) (bd (Kt lf) cl yh (cd [1,0,1,0,0] Ac9)) n ⟨gp [(0,.s (.sl s_z0 s_t1 2 s2)),(0,.s (.fn (Fn.func 58) [] [])),(5,pI n3),(0,pI n4)] 10,[],s⟩ k =
 Gg lf n s_z0 s_t1 s2 n3 n4 (λn0=>k .ret ⟨gp [(4,pI n0)] 14,[],s⟩) (λ_=>k (.exit 0) ⟨gp [] 19,[],s⟩):=by
 induction n generalizing s_z0 s_t1 s2 n3 n4 with
 | zero=>rfl
 | succ n ih=>rw [Gg];simp only [<-ih];kernel_rfl
noncomputable def Ax5 {R:Type} (lf:Nat) (l_z l_t:Bool) (l:LL) (k0:Int->Option R):Option R:=Gg lf lf l_z l_t l (l.length:Int) 0 (λn'0=>k0 n'0) (λ_=>k0 (-1))
theorem Ax6 (d:Nat) (l_z l_t l):evC (Kt lf) (d+1) σ yh 92 [.s (.sl l_z l_t 2 l),.s (.fn (Fn.func 58) [] [])] [] s=Ax5 lf l_z l_t l (λr0=>some (pI r0,[],s)):=by
 refine (evE (fn:=Tryz.f92) (by kernel_rfl)).trans ?_
 generalize evC (Kt lf) d=cl
 unfold Ax5;exact (Eq.trans (by kernel_rfl) ((PG lf cl yh s (M3 0 (N1 (Kt lf) cl yh (cd [1,1] Ac9) (K9 (Kt lf) Tryz.f92))) lf l_z l_t l (l.length:Int) 0).trans (by kernel_rfl)))
noncomputable def NA (lf:Nat):Cfg:=D2 lf [57] (A3 []) [(92,Ab1)] (A3 [(1,[4]),(0,[0,0])]) [92] (A3 []) (some [4]) [] [] []
noncomputable def Ax2 {R:Type} (lf:Nat) (l_z l_t:Bool) (l:LL) (k0:Bool->Option R):Option R:=cond (List.all l F1) (cond (List.all l smE) (cond (A2 l.length) (k0 (not (ltI (ixE (List.map C3 l)) (0:Int)))) none) none) none
theorem Ax3 (d:Nat) (l_z l_t l):evC (NA lf) (d+1) σ yh 57 [.s (.sl l_z l_t 2 l),.s (.fn (Fn.func 58) [] [])] [] s=Ax2 lf l_z l_t l (λr0=>some (pB r0,[],s)):=by
 refine (evE (fn:=Tryz.f57) (by kernel_rfl)).trans ?_
 generalize evC (NA lf) d=cl
 unfold Ax2;kernel_rfl
noncomputable def MZ (lf:Nat):Cfg:=D2 lf [60] (A3 []) [] (A3 [(3,[2]),(2,[2]),(1,[0,3]),(0,[0])]) [] (A3 []) (some [2]) [] [] []
noncomputable def Ax0 {R:Type} (lf:Nat) (l_z l_t:Bool) (l:LL) (k0:Bool->LL->Option R):Option R:=cond l_z (k0 true []) (cond (K4 (0+l.length)) (k0 false l) none)
theorem Ax1 (d:Nat) (l_z l_t l):evC (MZ lf) (d+1) σ yh 60 [.s (.sl l_z l_t 2 l)] [] s=Ax0 lf l_z l_t l (λz0 l1=>some (.fl 0,[.arr z0 63 2 l1],s)):=by
 refine (evE (fn:=Tryz.f60) (by kernel_rfl)).trans ?_
 generalize evC (MZ lf) d=cl
 unfold Ax0;kernel_rfl
noncomputable abbrev Ac8:Code:=F0 Tryz.f65
noncomputable def Ks (lf:Nat):Cfg:=D2 lf [65] (A3 [(3,[0,0,0,3,0,0,0,0])]) [(66,A60)] (A3 [(8,[6,0]),(6,[0,0,0,5,0,0]),(7,[0,0,0,5,0,0]),(5,[0,0,0,5,0,0,0,19]),(4,[0,0,0,5,0,0,0]),(3,[0,0,0,5,0,0,6]),(2,[0,0,0,5,0,0]),(1,[0,0,0,5]),(0,[0,0,0])]) [66] (A3 [(0,[0,0,0,5,0]),(1,[0,0,0,5,0,0])]) (some [6,0]) [] [] []
noncomputable def Dj {R:Type} (lf n:Nat) (x_z0 x_t1:Bool) (x2:LL) (target3:By) (n4 i5 j6:Int) (k0:Bool->Bool->LL->By->Int->Int->Option R):Option R:=match n with | 0=>none | n+1=>cond (ltI i5 j6) (vl (ZI .u64 (Ap4 (A4 (i5+j6))) (1:Int)) λn'1=>cond (inR (A4 n'1) x2.length) (cond (okE ⟨true,true,[.str,.bool]⟩ x2 (Int.toNat (A4 n'1)) 0) (vl (gX x2 (Int.toNat (A4 n'1)) 0) λs'2=>cond (A2 s'2.length) (cond (A2 target3.length) (cond (ltI (Q1 s'2 target3) (0:Int)) (vl (A4 ((A4 n'1)+1)) λn'3=>Dj lf n x_z0 x_t1 x2 target3 n4 n'3 j6 k0) (Dj lf n x_z0 x_t1 x2 target3 n4 i5 (A4 n'1) k0)) none) none) none) none) (k0 x_z0 x_t1 x2 target3 n4 i5)
theorem PB (n x_z0 x_t1 x2 target3 n4 i5 j6):G9 0 ((Ks lf).keep 3) (bd (Ks lf) cl yh (cd [1,1,1,0,0,0] Ac8)) n ⟨gp [(0,.s (.sl x_z0 x_t1 2 x2)),(0,pS target3),(0,.s (.fn (Fn.func 66) [] [])),(5,pI n4),(0,pI i5),(0,pI j6)] 38,[],s⟩ k =
 Dj lf n x_z0 x_t1 x2 target3 n4 i5 j6 (λx_z0 x_t1 x2 target3 n4 i5=>k (.exit 0) ⟨gp [(0,.s (.sl x_z0 x_t1 2 x2)),(0,pS target3),(0,.s (.fn (Fn.func 66) [] [])),(5,pI n4),(0,pI i5)] 39,[],s⟩):=by
 induction n generalizing x_z0 x_t1 x2 target3 n4 i5 j6 with
 | zero=>rfl
 | succ n ih=>rw [Dj];simp only [<-ih];kernel_rfl
noncomputable def Aw8 {R:Type} (lf:Nat) (l_z l_t:Bool) (l:LL) (q:By) (k0:Int->Bool->Option R):Option R:=Dj lf lf l_z l_t l q (l.length:Int) 0 (l.length:Int) (λx_z'4 x_t'5 x'6 target'7 n'8 i'9=>cond (ltI i'9 n'8) (cond (inR i'9 x'6.length) (cond (okE ⟨true,true,[.str,.bool]⟩ x'6 (Int.toNat i'9) 0) (vl (gX x'6 (Int.toNat i'9) 0) λs'10=>cond (A2 s'10.length) (cond (A2 target'7.length) (k0 i'9 ((Q1 s'10 target'7)==0)) none) none) none) none) (k0 i'9 false))
theorem Aw9 (d:Nat) (l_z l_t l q):evC (Ks lf) (d+1) σ yh 65 [.s (.sl l_z l_t 2 l),pS q,.s (.fn (Fn.func 66) [] [])] [] s=Aw8 lf l_z l_t l q (λr0 r1=>some (.tup [pI r0,pB r1],[],s)):=by
 refine (evE (fn:=Tryz.f65) (by kernel_rfl)).trans ?_
 generalize evC (Ks lf) d=cl
 unfold Aw8;exact (Eq.trans (by kernel_rfl) ((PB lf cl yh s (M3 0 (N1 (Ks lf) cl yh (cd [1,1,1,1] Ac8) (K9 (Ks lf) Tryz.f65))) lf l_z l_t l q (l.length:Int) 0 (l.length:Int)).trans (by kernel_rfl)))
end
end
section
open Go Go.Op
set_option maxRecDepth 100000
theorem YJ {R:Type} {k0:Bool->Option R} (s:By):Az6 LF s k0=k0 false:=by unfold Az6;simp
theorem YI {R:Type} {k0:Bool->Option R} (n:Int):Az4 LF n k0=k0 false:=by unfold Az4;simp
theorem Ae5 {R:Type} {k0:Int->Option R} (a b:By):ccs LF a b k0=k0 (T1 a b):=by
 unfold ccs T1
 cases h:bytesLess a b with
 | true=>rfl
 | false=>
  have e:(not (false || a==b))=bytesLess b a:=by
   rw [Q7] at h ⊢
   have h:=of_decide_eq_false h
   by_cases hab:a=b
   ·subst hab;simp
   ·have:b<a:=by
     apply Decidable.byContradiction
     intro g
     exact hab (List.le_antisymm (List.not_lt.1 g) (List.not_lt.1 h))
    simp [hab,this]
  rw [e]
  cases bytesLess b a<;>rfl
theorem Ae4 {R:Type} {k0:Int->Option R} (a b:Int):cci LF a b k0=k0 (EC a b):=by
 unfold cci EC
 cases ltI a b<;>cases ltI b a<;>rfl
theorem Y6:∀ s:By,((46:UInt8)∉s/\F9 46 s = -1)\/∃ p q,s=p++46::q/\(46:UInt8)∉q/\F9 46 s=(p.length:Int)
 | []=>.inl ⟨by simp,rfl⟩
 | b::r=>by
  rcases Y6 r with ⟨h1,h2⟩ | ⟨p,q,h1,h2,h3⟩
  ·by_cases hb:b=46
   ·exact .inr ⟨[],r,by rw [hb];rfl,h1,by unfold F9;rw [h2,if_pos (by decide),if_pos hb];rfl⟩
   ·exact .inl ⟨by simp [h1];exact λe=>hb e.symm,by unfold F9;rw [h2,if_pos (by decide),if_neg hb]⟩
  ·refine .inr ⟨b::p,q,by rw [h1];rfl,h2,?_⟩
   unfold F9
   rw [h3,R7]
   simp
theorem Wr {s:By} (h:(46:UInt8)∉s):rl s=[s]:=by
 unfold rl pcs
 rw [Br 46 s [] h]
 rfl
theorem Ws (p:By) {q:By} (h:(46:UInt8)∉q):rl (p++46::q)=q::rl p:=by
 unfold rl pcs
 rw [Gp,Br 46 q [] h,List.reverse_append]
 rfl
theorem UX (s:By):rl s≠[]:=by
 unfold rl
 simpa using FI 46 s
theorem U9 {a b:By} (h:T1 a b=0):a=b:=by
 unfold T1 at h
 cases h1:bytesLess a b with
 | true=>rw [h1] at h;cases h
 | false=>
  cases h2:bytesLess b a with
  | true=>rw [h1,h2] at h;cases h
  | false=>
   rw [Q7] at h1 h2
   exact List.le_antisymm (List.not_lt.1 (of_decide_eq_false h2)) (List.not_lt.1 (of_decide_eq_false h1))
theorem Ys (a:By):bytesLess a a=false:=by rw [Q7];simp
def Pj (x y:List By):Int:=cond (Vz x y) (-1) (cond (Vz y x) 1 0)
theorem M5 {a b:By} {x y:List By} (h:T1 a b≠0):Pj (a::x) (b::y)=T1 a b:=by
 have hne:a≠b:=λe=>h (by rw [e];unfold T1;rw [Ys];rfl)
 have e1:(a==b)=false:=by simpa using hne
 have e2:(b==a)=false:=by simpa using Ne.symm hne
 unfold Pj T1
 simp only [Vz,e1,e2,Bool.false_and,Bool.or_false]
theorem M4 {a:By} {x y:List By}:Pj (a::x) (a::y)=Pj x y:=by
 unfold Pj
 simp only [Vz,Ys,beq_self_eq_true,Bool.true_and,Bool.false_or]
theorem AC {R:Type} {k0:Int->Option R}:∀ (n:Nat) (a b:By),a.length<=1000000000->b.length<=1000000000->a.length<n->
  Jl LF n a b k0 (λi k=>k0 (EC (if ((0:Int)<i) then (0:Int) else i) (if ((0:Int)<k) then (0:Int) else k)))=k0 (Q1 a b)
 | 0,a,b,_,_,h=>by omega
 | n+1,a,b,ha,hb,h=>by
  have e46:u8n (46:Int)=46:=rfl
  have hcmp:∀ x y:By,Q1 x y=Pj (rl x) (rl y):=λx y=>rfl
  rw [Jl]
  simp only [vl,e46]
  rw [G0 ha,G0 hb,cond_true,cond_true,hcmp]
  rcases Y6 a with ⟨a1,a2⟩ | ⟨p,q,rfl,a1,a2⟩<;>rcases Y6 b with ⟨b1,b2⟩ | ⟨p',q',rfl,b1,b2⟩<;>rw [a2,b2]
  ·have e1:cut a (A4 (-1+1)) (a.length:Int)=a:=by rw [A5,Q9];rfl
   have e2:cut b (A4 (-1+1)) (b.length:Int)=b:=by rw [A5,Q9];rfl
   rw [e1,e2,T0 (by rw [A5];omega) (by rw [A5];omega),T0 (by rw [A5];omega) (by rw [A5];omega),cond_true,cond_true,Wr a1,Wr b1]
   by_cases hc:T1 a b=0
   ·rw [show (T1 a b != 0)=false by rw [hc];rfl,cond_false,C4,cond_true,U9 hc,M4];rfl
   ·rw [show (T1 a b != 0)=true by simpa using hc,cond_true,M5 hc]
  ·have e1:cut a (A4 (-1+1)) (a.length:Int)=a:=by rw [A5,Q9];rfl
   have e2:cut (p'++46::q') (A4 ((p'.length:Int)+1)) ((p'++46::q').length:Int)=q':=by
    simp only [List.length_append,List.length_cons] at hb
    rw [A5,Q9,show (((p'.length:Int)+1).toNat)=p'.length+1 by omega]
    simp
   have hl:(p'++46::q').length=p'.length+(q'.length+1):=by simp
   rw [e1,e2,T0 (by rw [A5];omega) (by rw [A5];omega),T0 (by rw [A5];omega) (by rw [A5];omega),cond_true,cond_true,Wr a1,Ws p' b1]
   by_cases hc:T1 a q'=0
   ·rw [show (T1 a q' != 0)=false by rw [hc];rfl,cond_false,C4,cond_true,U9 hc,M4,R7]
    have e3:(if (0:Int)<(p'.length:Int) then (0:Int) else (p'.length:Int))=0:=by split<;>omega
    rw [e3]
    have:Pj [] (rl p') = -1:=by
     unfold Pj
     cases hr:rl p' with
     | nil=>exact absurd hr (UX p')
     | cons x r=>rfl
    rw [this];rfl
   ·rw [show (T1 a q' != 0)=true by simpa using hc,cond_true,M5 hc]
  ·have e1:cut (p++46::q) (A4 ((p.length:Int)+1)) ((p++46::q).length:Int)=q:=by
    simp only [List.length_append,List.length_cons] at ha
    rw [A5,Q9,show (((p.length:Int)+1).toNat)=p.length+1 by omega]
    simp
   have e2:cut b (A4 (-1+1)) (b.length:Int)=b:=by rw [A5,Q9];rfl
   have hl:(p++46::q).length=p.length+(q.length+1):=by simp
   rw [e1,e2,T0 (by rw [A5];omega) (by rw [A5];omega),T0 (by rw [A5];omega) (by rw [A5];omega),cond_true,cond_true,Wr b1,Ws p a1]
   by_cases hc:T1 q b=0
   ·rw [show (T1 q b != 0)=false by rw [hc];rfl,cond_false,A6,cond_false,C4,cond_true,U9 hc,M4]
    have e3:(if (0:Int)<(p.length:Int) then (0:Int) else (p.length:Int))=0:=by split<;>omega
    rw [e3,R7]
    have:Pj (rl p) []=1:=by
     unfold Pj
     cases hr:rl p with
     | nil=>exact absurd hr (UX p)
     | cons x r=>rfl
    rw [this];rfl
   ·rw [show (T1 q b != 0)=true by simpa using hc,cond_true,M5 hc]
  ·have e1:cut (p++46::q) (A4 ((p.length:Int)+1)) ((p++46::q).length:Int)=q:=by
    simp only [List.length_append,List.length_cons] at ha
    rw [A5,Q9,show (((p.length:Int)+1).toNat)=p.length+1 by omega]
    simp
   have e2:cut (p'++46::q') (A4 ((p'.length:Int)+1)) ((p'++46::q').length:Int)=q':=by
    simp only [List.length_append,List.length_cons] at hb
    rw [A5,Q9,show (((p'.length:Int)+1).toNat)=p'.length+1 by omega]
    simp
   have hl:(p++46::q).length=p.length+(q.length+1):=by simp
   have hl':(p'++46::q').length=p'.length+(q'.length+1):=by simp
   rw [e1,e2,T0 (by rw [A5];omega) (by rw [A5];omega),T0 (by rw [A5];omega) (by rw [A5];omega),cond_true,cond_true,Ws p a1,Ws p' b1]
   by_cases hc:T1 q q'=0
   ·rw [show (T1 q q' != 0)=false by rw [hc];rfl,cond_false,A6,cond_false,A6,cond_false,T0,cond_true,T0,cond_true,U9 hc,M4,Hw,Hw,Int.toNat_natCast,Int.toNat_natCast,List.take_left,List.take_left,AC n p p' (by omega) (by omega) (by omega)]
    rfl
   ·rw [show (T1 q q' != 0)=true by simpa using hc,cond_true,M5 hc]
theorem YT {R:Type} {k0:Int->Option R} (a b:By) (h0:A2 a.length=true) (h1:A2 b.length=true):A05 LF a b k0=k0 (Q1 a b):=by
 have hLF:=I4
 have ha:=M9 h0
 unfold A05
 exact AC LF a b ha (M9 h1) (by omega)
theorem Ax9 (h:By) (b:Bool) (h0:A2 h.length=true):∃ r H,Ax7 LF h b (λr0 s1 b2=>rv (.s (.bool r0)) [.box [.s (.str s1),.s (.bool b2)]])=rv r H/\r.stab [] H = .s (.bool (not (F7 h))):=by
 unfold Ax7
 rw [h0]
 exact ⟨_,_,rfl,rfl⟩
theorem Ba9 (h:By) (b:Bool) (s:By) (h0:A2 h.length=true) (h1:A2 s.length=true):∃ r H,lgf LF h b s (λr0 s1 b2=>rv (.s (.int .i64 r0)) [.box [.s (.str s1),.s (.bool b2)]])=rv r H/\r.stab [] H = .s (.int .i64 (Q1 h s)):=by
 unfold lgf
 rw [h0,h1]
 exact ⟨_,_,rfl,rfl⟩
theorem XV {R:Type} (z t:Bool) (l:List Ent) (hs:(D7 l).all smE=true) (k0:Int->Option R) (k1:Unit->Option R) (hl:l.length<=1000000000):∀ (r i m:Nat),i+r=l.length->r<m->
  Gg LF m z t (D7 l) (l.length:Int) (i:Int) k0 k1=match (l.drop i).findIdx? (λe=>!F7 e.1) with | some j=>k0 ((i+j:Nat):Int) | none=>k1 ():=by
 intro r
 induction r with
 | zero=>
  intro i m hi hm
  obtain ⟨m,rfl⟩:∃ q,m=q+1:=⟨m-1,by omega⟩
  rw [Gg,A6,List.drop_of_length_le (by omega)]
  rfl
 | succ r ih=>
  intro i m hi hm
  obtain ⟨m,rfl⟩:∃ q,m=q+1:=⟨m-1,by omega⟩
  have e1:A4 ((i:Int)+1)=((i+1:Nat):Int):=by rw [A5];rfl
  have hd:l.drop i=l.getD i noE::l.drop (i+1):=by
   rw [List.getD_eq_getElem?_getD,List.getElem?_eq_getElem (by omega),Option.getD_some,List.getElem_cons_drop]
  rw [Gg,C4,N7 (by omega) (by rw [C9];omega),Int.toNat_natCast,Ji (by omega),Gb (by omega),Sy hs (by omega),e1,hd,List.findIdx?_cons]
  simp only [cond_true]
  cases F7 (l.getD i noE).1 with
  | false=>simp
  | true=>
   rw [Bool.not_true,cond_false,ih (i+1) m (by omega) (by omega)]
   cases (l.drop (i+1)).findIdx? (λe=>!F7 e.1) with
   | none=>rfl
   | some j=>simp [Nat.add_assoc,Nat.add_comm 1 j]
theorem XW {R:Type} {k0:Int->Option R} (z t:Bool) (l:LL) (h0:l.all F1=true) (h1:l.all smE=true) (h2:A2 l.length=true):Ax5 LF z t l k0=k0 (ixE (l.map C3)):=by
 have hLF:=I4
 have hl:=M9 h2
 rw [Bi h0] at h1 hl ⊢
 generalize l.map C3=q at h1 hl ⊢
 rw [C9] at hl
 unfold Ax5 ixE
 rw [C9,Me]
 refine (XV z t q h1 _ _ hl q.length 0 LF (by omega) (by omega)).trans ?_
 rw [List.drop_zero]
 cases q.findIdx? (λe=>!F7 e.1) with
 | none=>rfl
 | some j=>
  show k0 ((0+j:Nat):Int)=k0 (j:Int)
  rw [Nat.zero_add]
theorem Ba7 (l:List Ent):(!ltI (ixE l) 0)=Xn l:=by
 unfold ixE Xn
 cases h:l.findIdx? (λe=>!F7 e.1) with
 | none=>
  rw [List.findIdx?_eq_none_iff] at h
  show (!ltI (-1) 0)=_
  rw [C4]
  exact (List.any_eq_false.2 λx hx=>by rw [h x hx];simp).symm
 | some j=>
  show (!ltI (j:Int) 0)=_
  rw [A6]
  exact (List.any_eq_true.2 (by
   obtain ⟨hj,hp,_⟩:=List.findIdx?_eq_some_iff_getElem.1 h
   exact ⟨_,List.getElem_mem hj,hp⟩)).symm
theorem XR {R:Type} {k0:Bool->Option R} (z t:Bool) (l:LL) (h0:l.all F1=true) (h1:l.all smE=true) (h2:A2 l.length=true):Ax2 LF z t l k0=k0 (Xn (l.map C3)):=by
 unfold Ax2
 rw [h0,h1,h2,<-Ba7]
 rfl
theorem EW {z:Bool} {l:LL} (h:L8 z l=true) (hz:z=true):l=[]:=by
 subst hz
 simpa [L8] using h
theorem XQ {R:Type} {k0:Bool->LL->Option R} (z t:Bool) (l:LL) (h0:A2 l.length=true) (h1:L8 z l=true):Ax0 LF z t l k0=k0 z l:=by
 unfold Ax0
 cases z with
 | true=>rw [EW h1 rfl];rfl
 | false=>
  have:=M9 h0
  rw [J3 (by omega)]
  rfl
theorem Bl5 {a b:Nat} (h:a+b<=4000000000):A4 (ZI .u64 (Ap4 (A4 ((a:Int)+(b:Int)))) 1)=(((a+b) / 2:Nat):Int):=by
 have e1:A4 ((a:Int)+(b:Int))=((a+b:Nat):Int):=by rw [A5];omega
 have e2:Ap4 ((a+b:Nat):Int)=((a+b:Nat):Int):=VK (by omega) (by omega)
 have e3:ZI .u64 ((a+b:Nat):Int) 1=(((a+b) / 2:Nat):Int):=VA .u64 (a+b) 1 (by decide)
 rw [e1,e2,e3,A5]
theorem Zs {R:Type} (z t:Bool) (l:List Ent) (s:By) (hs:(D7 l).all smE=true) (h1:A2 s.length=true) (n:Int) (k0:Bool->Bool->LL->By->Int->Int->Option R) (hl:l.length<=1000000000):∀ (r i j m:Nat),j-i<=r->i<=j->j<=l.length->r<m->
  Dj LF m z t (D7 l) s n (i:Int) (j:Int) k0=k0 z t (D7 l) s n ((Uh (λi=>Q1 ((l.map Prod.fst).getD i []) s) (r+1) i j:Nat):Int):=by
 intro r
 induction r with
 | zero=>
  intro i j m hr hi hj hm
  obtain ⟨m,rfl⟩:∃ q,m=q+1:=⟨m-1,by omega⟩
  rw [Dj,A6]
  unfold Uh
  rw [R7]
  rfl
 | succ r ih=>
  intro i j m hr hi hj hm
  obtain ⟨m,rfl⟩:∃ q,m=q+1:=⟨m-1,by omega⟩
  rw [Dj]
  by_cases hij:i<j
  ·have hh:(i+j) / 2<l.length:=by omega
   rw [C4,Uh,if_pos hij]
   simp only [vl,cond_true]
   rw [Bl5 (by omega),N7 (by omega) (by rw [C9];omega),Int.toNat_natCast,Ji hh,Gb hh,Sy hs hh,h1,TZ Prod.fst (d:=noE) hh]
   simp only [cond_true]
   have e1:A4 ((((i+j) / 2:Nat):Int)+1)=(((i+j) / 2+1:Nat):Int):=by rw [A5];rfl
   by_cases hc:Q1 (l.getD ((i+j) / 2) noE).1 s<0
   ·rw [E0 hc,cond_true,if_pos hc,e1,ih _ _ m (by omega) (by omega) hj (by omega)]
   ·rw [G4 (by omega),cond_false,if_neg hc,ih _ _ m (by omega) (by omega) (by omega) (by omega)]
  ·rw [A6,Uh,if_neg hij]
   rfl
theorem XP {R:Type} {k0:Int->Bool->Option R} (z t:Bool) (l:LL) (s:By) (h0:l.all F1=true) (h1:l.all smE=true) (h2:A2 l.length=true) (h3:A2 s.length=true) :
  Aw8 LF z t l s k0=k0 (bsI ((l.map C3).map Prod.fst) s:Int) (bsB ((l.map C3).map Prod.fst) s):=by
 have hLF:=I4
 have hl:=M9 h2
 rw [Bi h0] at h1 hl ⊢
 generalize l.map C3=q at h1 hl ⊢
 rw [C9] at hl
 unfold Aw8
 rw [C9,Me]
 have hlo:=Zs (R:=R) z t q s h1 h3 (q.length:Int)
 refine (Zs z t q s h1 h3 _ _ hl q.length 0 q.length LF (by omega) (by omega) (by omega) (by omega)).trans ?_
 have hle:=(DM (λi=>Q1 ((q.map Prod.fst).getD i []) s) (q.length+1) 0 q.length (by omega)).2
 have e:bsI (q.map Prod.fst) s=Uh (λi=>Q1 ((q.map Prod.fst).getD i []) s) (q.length+1) 0 q.length:=by unfold bsI;rw [List.length_map]
 rw [<-e] at hle ⊢
 unfold bsB
 generalize bsI (q.map Prod.fst) s=i at hle ⊢
 rw [List.length_map]
 by_cases hi:i<q.length
 ·simp only [vl]
  rw [C4,N7 (by omega) (by rw [C9];omega),Int.toNat_natCast,Ji hi,Gb hi,Sy h1 hi,h3,show Nat.blt i q.length=true from TO.2 hi,TZ Prod.fst (d:=noE) hi,WA]
  rfl
 ·rw [A6,show Nat.blt i q.length=false by cases hb:Nat.blt i q.length with | false=>rfl | true=>exact absurd (TO.1 hb) hi]
  rfl
theorem Am8 {l:List Ent} (h:(D7 l).all smE=true):∀ e∈l,e.1.length<=1000000000:=λe he=>by
 have:=List.all_eq_true.1 h (Md e) (List.mem_map.2 ⟨e,he,rfl⟩)
 exact M9 this
end
section
open Go Go.Proofs
set_option maxRecDepth 100000
section
variable {σ R : Type} (lf : Nat) (cl : E1) (yh : Yh σ) (s : σ) (k : Out -> St σ -> Option R)
noncomputable abbrev Ad0:Code:=F0 Tryz.f26
noncomputable def Hr (lf:Nat):Cfg:=D2 lf [26] (A3 [(8,[2,0,0,0])]) [(57,Th),(60,Kh)] (A3 [(12,[2,0]),(9,[4,0]),(11,[2,0]),(10,[4,0,26]),(8,[4,0,12]),(7,[4,0]),(6,[4]),(5,[4]),(4,[2,0]),(3,[0,9]),(2,[2,0]),(1,[0,7]),(0,[0])]) [57] (A3 [(0,[4]),(1,[4,0])]) (some [2,0]) [] [] [] (nt:=[(105,0,63,2)]) (Z:=[(61,Ki)])
noncomputable def Z7 {R:Type} (lf n:Nat) (i0:Int) (z1:Bool) (l2:LL) (k0:(List Blk)->Option R) (k1:Bool->LL->Option R):Option R:=match n with | 0=>none | n+1=>cond (ltI i0 (l2.length:Int)) (cond (inR i0 l2.length) (cond (okE Iu l2 (Int.toNat i0) 0) (cond (inR (A4 (i0-1)) l2.length) (cond (okE Iu l2 (Int.toNat (A4 (i0-1))) 0) (vl (gX l2 (Int.toNat (A4 (i0-1))) 0) λs'0=>cond ((gX l2 (Int.toNat i0) 0)==s'0) (k0 [(Blk.arr z1 63 2 l2)]) (Z7 lf n (A4 (i0+1)) z1 l2 k0 k1)) none) none) none) none) (k1 z1 l2)
theorem PH (n i0 z1 l2):G9 1 ((Hr lf).keep 8) (bd (Hr lf) cl yh (cd [1,1,1,1,1,0,1,0,0] Ad0)) n ⟨gp [(4,.fl 0),(0,pI i0)] 30,[.arr z1 63 2 l2],s⟩ k =
 Z7 lf n i0 z1 l2 (λH0=>k .ret ⟨gp [(2,.s (.nilp)),(0,pI (17:Int))] 32,H0,s⟩) (λz0 l1=>k (.exit 0) ⟨gp [(4,.fl 0)] 31,[.arr z0 63 2 l1],s⟩):=by
 induction n generalizing i0 z1 l2 with
 | zero=>rfl
 | succ n ih=>rw [Z7];simp only [<-ih];kernel_rfl
noncomputable def XX {R:Type} (lf:Nat) (l_z0 l_t1:Bool) (l2:LL) (k0:Int->(List Blk)->Option R) (k1:Bool->LL->(List Blk)->Option R):Option R:=cond (ltI 1000 (l2.length:Int)) (k0 3 []) (cond (List.all l2 F1) (cond (List.all l2 smE) (cond (A2 l2.length) (cond (Xn (List.map C3 l2)) (k0 14 []) (cond (A2 l2.length) (cond (L8 l_z0 l2) (cond ((List.all l2 F1)&&((List.all l2 smE)&&(A2 l2.length))) (Z7 lf lf 1 l_z0 (D7 (Q4 (List.map C3 l2))) (λH'1=>k0 17 H'1) (λz'2 l'3=>k1 z'2 l'3 [])) none) none) none)) none) none) none)
theorem So (d:Nat) (l_z0 l_t1 l2):evC (Hr lf) (d+1) σ yh 26 [.s (.sl l_z0 l_t1 2 l2)] [] s=XX lf l_z0 l_t1 l2 (λr0 H1=>some (.tup [.s (.nilp),pI r0],H1,s)) (λz0 l1 H2=>some (.tup [.ptr 1 0 0,pI (0:Int)],(.arr z0 63 2 l1::.box [.fl 0]::H2),s)):=by
 refine (evE (fn:=Tryz.f26) (by kernel_rfl)).trans ?_
 generalize evC (Hr lf) d=cl
 unfold XX;exact (Eq.trans (by kernel_rfl) (A1 rfl (A1 (A1 (A1 (A1 rfl (A1 (A1 (A1 ((PH lf cl yh s (M3 0 (N1 (Hr lf) cl yh (cd [1,1,1,1,1,1] Ad0) (K9 (Hr lf) Tryz.f26))) lf 1 l_z0 (D7 (Q4 (List.map C3 l2)))).trans (by kernel_rfl)) rfl) rfl) rfl)) rfl) rfl) rfl)))
noncomputable abbrev Aj6 (l_z0 l_t1:Bool) (l2:LL):Option (PV × List Blk × Unit):=XX LF l_z0 l_t1 l2 (λr0 H1=>some (.tup [.s (.nilp),pI r0],H1,())) (λz0 l1 H2=>some (.tup [.ptr 1 0 0,pI (0:Int)],(.arr z0 63 2 l1::.box [.fl 0]::H2),()))
end
end
section
open Go Go.Op
set_option maxRecDepth 100000
theorem Nc {l:List Ent} {i:Nat} (h:i<l.length):okE Iu (D7 l) i 0=true:=by unfold okE;rw [Hz h];simp [h,okS,Md,SV.has,Iu]
theorem Af {α:Type} (d:α) {l:List α} {i:Nat} (h:i<l.length):l.drop i=l.getD i d::l.drop (i+1):=by
 rw [List.getD_eq_getElem?_getD,List.getElem?_eq_getElem h,Option.getD_some,List.getElem_cons_drop]
theorem Zu {R:Type} (z:Bool) (S:List Ent) (k0:List Blk->Option R) (k1:Bool->LL->Option R) (hl:S.length<=1000000000):∀ (r j m:Nat),j+1+r=S.length->r<m->
  Z7 LF m ((j+1:Nat):Int) z (D7 S) k0 k1=if DI (S.drop j) then k0 [.arr z 63 2 (D7 S)] else k1 z (D7 S)
 | 0,j,m,hj,hm=>by
  obtain ⟨m,rfl⟩:∃ q,m=q+1:=⟨m-1,by omega⟩
  rw [Z7,G4 (by rw [C9];omega),Af noE (by omega),List.drop_of_length_le (i:=j+1) (by omega)]
  rfl
 | r+1,j,m,hj,hm=>by
  obtain ⟨m,rfl⟩:∃ q,m=q+1:=⟨m-1,by omega⟩
  have e1:A4 (((j+1:Nat):Int)-1)=(j:Int):=by rw [A5];omega
  have e2:A4 (((j+1:Nat):Int)+1)=((j+1+1:Nat):Int):=by rw [A5];rfl
  rw [Z7,E0 (by rw [C9];omega),N7 (by omega) (by rw [C9];omega),Int.toNat_natCast,Nc (by omega),e1,N7 (by omega) (by rw [C9];omega),Int.toNat_natCast,Nc (by omega),Gb (by omega),Gb (by omega),e2]
  simp only [cond_true,vl]
  rw [Af noE (by omega:j<S.length),Af noE (by omega:j+1<S.length)]
  unfold DI
  cases hq:((S.getD (j+1) noE).1==(S.getD j noE).1) with
  | true=>rfl
  | false=>
   rw [cond_false,Zu z S k0 k1 hl r (j+1) m (by omega) (by omega),Af noE (by omega:j+1<S.length),Bool.false_or]
theorem Jf {R:Type} {k0:Int->List Blk->Option R} {k1:Bool->LL->List Blk->Option R} (z t:Bool) (l:LL) (h0:l.all F1=true) (h1:l.all smE=true) (h2:A2 l.length=true) (hz:L8 z l=true) :
  (P0 (l.map C3)=0->XX LF z t l k0 k1=k1 z (D7 (isE (l.map C3))) [])/\(P0 (l.map C3)≠0->∃ H,XX LF z t l k0 k1=k0 (P0 (l.map C3):Nat) H):=by
 have hLF:=I4
 have hl:=M9 h2
 have hr:=Bi h0
 generalize hE:l.map C3=E at hr
 subst hr
 rw [C9] at hl
 have hs:=Am8 h1
 have hp:=(Cz hs).length_eq
 unfold XX P0
 rw [Me] at hE ⊢
 by_cases c1:1000<E.length
 ·rw [E0 (by rw [C9];omega),if_pos c1]
  exact ⟨λh=>(by cases h),λ_=>⟨_,rfl⟩⟩
 ·rw [G4 (by rw [C9];omega),if_neg c1,cond_false,h0,h1,h2]
  simp only [cond_true,Bool.and_self]
  cases c2:Xn E with
  | true=>exact ⟨λh=>(by cases h),λ_=>⟨_,rfl⟩⟩
  | false=>
   rw [hz]
   simp only [cond_true,cond_false,Bool.false_eq_true,if_false]
   have key:Z7 LF LF 1 z (D7 (Q4 E)) (λH=>k0 17 H) (λz l=>k1 z l [])=if Mb (E.map Prod.fst) then k0 17 [.arr z 63 2 (D7 (Q4 E))] else k1 z (D7 (Q4 E)) []:=by
    rw [<-Ac1 hs]
    by_cases c0:E.length=0
    ·have e0:Q4 E=[]:=List.eq_nil_of_length_eq_zero (by omega)
     rw [e0]
     obtain ⟨m,hm⟩:∃ q,LF=q+1:=⟨LF-1,by omega⟩
     have:∀ m,m=LF->Z7 LF m 1 z (D7 []) (λH=>k0 17 H) (λz l=>k1 z l [])=k1 z (D7 []) []:=λm' hm'=>by
      obtain ⟨q,rfl⟩:∃ q,m'=q+1:=⟨m'-1,by omega⟩
      rw [Z7];rfl
     exact this LF rfl
    ·exact Zu z (Q4 E) (λH=>k0 17 H) (λz l=>k1 z l []) (by omega) (E.length-1) 0 LF (by omega) (by omega)
   rw [key]
   cases c3:Mb (E.map Prod.fst) with
   | true=>exact ⟨λh=>(by cases h),λ_=>⟨_,rfl⟩⟩
   | false=>
    rw [ZK hs c3]
    exact ⟨λ_=>rfl,λh=>absurd rfl h⟩
theorem UD (z t:Bool) (l:LL) (h0:l.all F1=true) (h1:l.all smE=true) (h2:A2 l.length=true) (hz:L8 z l=true) {b:Bool} (hb:(P0 (l.map C3)==0)=b) :
  ∃ r H,Aj6 z t l=rv r H/\r.stabQ [0,0] [2] H=cond b (.tup [.s (.sp [[.sl z z 2 (D7 (isE (l.map C3)))]] 0 0),pI 0]) (.tup [.s .nilp,pI (P0 (l.map C3):Nat)]):=by
 unfold Aj6
 cases b with
 | true=>
  refine ⟨_,_,(Jf z t l h0 h1 h2 hz).1 (eq_of_beq hb),?_⟩
  have hzz:(z&&(D7 (isE (l.map C3))).isEmpty)=z:=by
   cases z with
   | false=>rfl
   | true=>rw [EW hz rfl];rfl
  show PV.tup [.s (.sp [[.sl (z&&(D7 (isE (l.map C3))).isEmpty) (z&&(D7 (isE (l.map C3))).isEmpty) 2 (D7 (isE (l.map C3)))]] 0 0),pI 0]=_
  rw [hzz];rfl
 | false=>
  obtain ⟨H,e⟩:=(Jf z t l h0 h1 h2 hz).2 (by simpa using hb)
  exact ⟨_,_,e,rfl⟩
theorem Ag4 (l:List Ent):(D7 l).all F1=true:=by
 rw [List.all_eq_true]
 intro x hx
 obtain ⟨e,_,rfl⟩:=List.mem_map.1 hx
 rfl
theorem Ba4 {l:LL} (h0:l.all F1=true) (h1:l.all smE=true):(D7 (isE (l.map C3))).all smE=true:=by
 rw [Bi h0] at h1
 rw [List.all_eq_true] at h1 ⊢
 intro x hx
 obtain ⟨e,he,rfl⟩:=List.mem_map.1 hx
 exact h1 _ (List.mem_map.2 ⟨e,Gd.1 he,rfl⟩)
theorem XG {l:LL} (h:A2 l.length=true):A2 (D7 (isE (l.map C3))).length=true:=by
 rw [C9,(T2 _).length_eq,List.length_map]
 exact h
end
section
open Go Go.Proofs
set_option maxRecDepth 100000
theorem Ag5 {l:LL} (h:l.all F1=true):plE l=true:=by
 rw [Bi h]
 unfold plE
 rw [List.all_eq_true]
 intro x hx
 obtain ⟨q,_,rfl⟩:=List.mem_map.1 hx
 rfl
theorem UM {z:Bool} {l:LL} (h:L8 z l=true):(z&&l.isEmpty)=z:=by
 cases z with
 | false=>rfl
 | true=>rw [EW h rfl];rfl
theorem JK {R:Type} {k0:Bool->LL->Bool->Option R} (z:Bool) (l:LL) (h0:l.all F1=true) (h1:A2 l.length=true) (h2:L8 z l=true):EQ LF z l k0=k0 z l z:=by
 unfold EQ
 rw [h1,UM h2,h2,Ag5 h0]
 rfl
section
variable {σ R : Type} (lf : Nat) (cl : E1) (yh : Yh σ) (s : σ) (k : Out -> St σ -> Option R)
noncomputable def Js {R:Type} (lf n:Nat) (l_z0 l_t1:Bool) (l2:LL) (name3:By) (i4:Int) (s5:By) (b6:Bool) (k0:By->Bool->Option R):Option R:=match n with | 0=>none | n+1=>cond (ltI i4 (l2.length:Int)) (cond (inR i4 l2.length) (cond (okE ⟨true,true,[.str,.bool]⟩ l2 (Int.toNat i4) 0) (cond (A2 (List.length (gX l2 (Int.toNat i4) 0))) (cond (A2 name3.length) (cond (As6 name3 (Bi6 (gX l2 (Int.toNat i4) 0) (gY l2 (Int.toNat i4) 1))) (cond (inR i4 l2.length) (cond (okE Iu l2 (Int.toNat i4) 0) (cond (ltI (s5.length:Int) (↑(List.length (gX l2 (Int.toNat i4) 0)):Int)) (cond (inR i4 l2.length) (cond (okE ⟨true,true,[.str,.bool]⟩ l2 (Int.toNat i4) 0) (Js lf n l_z0 l_t1 l2 name3 (A4 (i4+1)) (gX l2 (Int.toNat i4) 0) (gY l2 (Int.toNat i4) 1) k0) none) none) (Js lf n l_z0 l_t1 l2 name3 (A4 (i4+1)) s5 b6 k0)) none) none) (Js lf n l_z0 l_t1 l2 name3 (A4 (i4+1)) s5 b6 k0)) none) none) none) none) (k0 s5 b6)
noncomputable abbrev Ac7:Code:=F0 Tryz.f12
noncomputable def Kr (lf:Nat):Cfg:=D2 lf [12] (A3 [(4,[0,3,0])]) [] (A3 [(8,[4]),(5,[0,4]),(7,[4]),(6,[0,4,16]),(4,[0,4,7]),(3,[0,4]),(2,[4]),(1,[0,8]),(0,[0,0])]) [] (A3 [(0,[]),(1,[0,4])]) (some [4]) [] [] []
noncomputable def Gf {R:Type} (lf n:Nat) (l_z0 l_t1:Bool) (l2:LL) (i3:Int) (k0:Unit->Option R) (k1:Unit->Option R):Option R:=match n with | 0=>none | n+1=>cond (ltI i3 (l2.length:Int)) (cond (inR i3 l2.length) (cond (okE Iu l2 (Int.toNat i3) 0) (cond (ltI 300 (↑(List.length (gX l2 (Int.toNat i3) 0)):Int)) (k0 ()) (Gf lf n l_z0 l_t1 l2 (A4 (i3+1)) k0 k1)) none) none) (k1 ())
theorem OW (n l_z0 l_t1 l2 i3):G9 0 ((Kr lf).keep 4) (bd (Kr lf) cl yh (cd [1,1,0,1,0,0] Ac7)) n ⟨gp [(0,.s (.sl l_z0 l_t1 2 l2)),(4,pI i3)] 17,[],s⟩ k =
 Gf lf n l_z0 l_t1 l2 i3 (λ_=>k .ret ⟨gp [(4,pB false)] 18,[],s⟩) (λ_=>k (.exit 0) ⟨gp [] 23,[],s⟩):=by
 induction n generalizing l_z0 l_t1 l2 i3 with
 | zero=>rfl
 | succ n ih=>rw [Gf];simp only [<-ih];kernel_rfl
noncomputable def Aw1 {R:Type} (lf:Nat) (l_z0 l_t1:Bool) (l2:LL) (n3:Int) (k0:Bool->Option R):Option R:=cond (ltI n3 (l2.length:Int)) (k0 false) (Gf lf lf l_z0 l_t1 l2 0 (λ_=>k0 false) (λ_=>k0 true))
theorem Aw2 (d:Nat) (l_z0 l_t1 l2 n3):evC (Kr lf) (d+1) σ yh 12 [.s (.sl l_z0 l_t1 2 l2),pI n3] [] s=Aw1 lf l_z0 l_t1 l2 n3 (λr0=>some (pB r0,[],s)):=by
 refine (evE (fn:=Tryz.f12) (by kernel_rfl)).trans ?_
 generalize evC (Kr lf) d=cl
 unfold Aw1;exact (Eq.trans (by kernel_rfl) (A1 rfl ((OW lf cl yh s (M3 0 (N1 (Kr lf) cl yh (cd [1,1,1] Ac7) (K9 (Kr lf) Tryz.f12))) lf l_z0 l_t1 l2 0).trans (by kernel_rfl))))
end
def Tru (x:Option (PV × List Blk × Unit)):Prop:=∃ H,x=some (.s (.bool true),H,())
theorem Ag6 {els:LL} (h:∀ el∈els,Ty.ofL [.str,.bool] el):els.all F1=true:=by
 rw [List.all_eq_true]
 intro el he
 have:=h el he
 simp only [Ty.ofL,Ty.of] at this
 obtain ⟨_,_,rfl,⟨l,rfl,_⟩,_,_,rfl,⟨b,rfl⟩,rfl⟩:=this
 rfl
theorem Ac3 {P:Program} {t:Nat} {v:PV} (h:Yi P t v) (e:Fi P 20 t=some [.slice [.str,.bool]]) (ha:Qv P t=false):∃ z l,v = .s (.sl z false 2 l)/\l.all F1=true/\L8 z l=true:=by
 obtain ⟨x,rfl,h5⟩:=Ar8 h e ha
 simp only [Ty.of,List.length_cons,List.length_nil] at h5
 rcases h5 with rfl | ⟨els,rfl,hl,hall⟩
 ·exact ⟨true,[],rfl,rfl,rfl⟩
 ·exact ⟨false,els,rfl,Ag6 hall,rfl⟩
theorem ZJ {n:Int} {l:LL} (hn:n<=1000) (h:Eh n l=true):l.all smE=true/\A2 l.length=true:=by
 unfold Eh at h
 rw [Bool.and_eq_true,List.all_eq_true] at h
 refine ⟨List.all_eq_true.2 λel he=>?_,?_⟩
 ·have:=h.2 el he
  rw [Z0] at this
  unfold smE
  exact G0 (by simp at this;omega)
 ·have:=h.1
  rw [Z0] at this
  exact G0 (by simp at this;omega)
end
section
open Go Go.Op
set_option maxRecDepth 100000
theorem ZF {R:Type} (z t:Bool) (E:List Ent) (s:By) (k0:By->Bool->Option R) (hs:(D7 E).all smE=true) (h1:A2 s.length=true) (hl:E.length<=1000000000):∀ (r i m:Nat) (b:Ent),i+r=E.length->r<m->
  Js LF m z t (D7 E) s (i:Int) b.1 b.2 k0=k0 ((E.drop i).foldl (λb e=>if As6 s e&&Nat.blt b.1.length e.1.length then e else b) b).1 ((E.drop i).foldl (λb e=>if As6 s e&&Nat.blt b.1.length e.1.length then e else b) b).2
 | 0,i,m,b,hi,hm=>by
  obtain ⟨m,rfl⟩:∃ q,m=q+1:=⟨m-1,by omega⟩
  rw [Js,G4 (by rw [C9];omega),List.drop_of_length_le (by omega)]
  rfl
 | r+1,i,m,b,hi,hm=>by
  obtain ⟨m,rfl⟩:∃ q,m=q+1:=⟨m-1,by omega⟩
  have hlt:i<E.length:=by omega
  have e2:A4 ((i:Int)+1)=((i+1:Nat):Int):=by rw [A5];rfl
  rw [Js,E0 (by rw [C9];omega),N7 (by omega) (by rw [C9];omega),Int.toNat_natCast,Ji hlt,Nc hlt,Gb hlt,OB hlt,Sy hs hlt,h1,e2,Af noE hlt,List.foldl_cons]
  simp only [cond_true]
  have ih:=λb=>ZF z t E s k0 hs h1 hl r (i+1) m b (by omega) (by omega)
  have eb:ltI (b.1.length:Int) ((E.getD i noE).1.length:Int)=Nat.blt b.1.length (E.getD i noE).1.length:=by
   rw [Z0,Bool.eq_iff_iff,decide_eq_true_eq,Nat.blt_eq]
   omega
  rw [eb,show Bi6 (E.getD i noE).1 (E.getD i noE).2=E.getD i noE from rfl]
  cases c1:As6 s (E.getD i noE) with
  | false=>exact ih b
  | true=>
   cases c2:Nat.blt b.1.length (E.getD i noE).1.length with
   | false=>exact ih b
   | true=>exact ih (E.getD i noE)
theorem Zq {R:Type} (z t:Bool) (T:List Ent) (k0 k1:Unit->Option R) (hl:T.length<=1000000000):∀ (r i m:Nat),i+r=T.length->r<m->
  Gf LF m z t (D7 T) (i:Int) k0 k1=cond ((D7 (T.drop i)).all λel=>!ltI 300 (elS el).length) (k1 ()) (k0 ())
 | 0,i,m,hi,hm=>by
  obtain ⟨m,rfl⟩:∃ q,m=q+1:=⟨m-1,by omega⟩
  rw [Gf,G4 (by rw [C9];omega),List.drop_of_length_le (by omega)]
  rfl
 | r+1,i,m,hi,hm=>by
  obtain ⟨m,rfl⟩:∃ q,m=q+1:=⟨m-1,by omega⟩
  have hlt:i<T.length:=by omega
  have e2:A4 ((i:Int)+1)=((i+1:Nat):Int):=by rw [A5];rfl
  rw [Gf,E0 (by rw [C9];omega),N7 (by omega) (by rw [C9];omega),Int.toNat_natCast,Nc hlt,Gb hlt,e2,Zq z t T k0 k1 hl r (i+1) m (by omega) (by omega),Af noE hlt]
  simp only [cond_true]
  show _=cond ((!ltI 300 ((T.getD i noE).1.length:Nat))&&(D7 (T.drop (i+1))).all λel=>!ltI 300 (elS el).length) (k1 ()) (k0 ())
  cases ltI 300 ((T.getD i noE).1.length:Nat)<;>rfl
theorem XL {R:Type} {k0:Bool->Option R} (z t:Bool) (l:LL) (n:Int) (h0:l.all F1=true) (hn:ltI n 1001=true):Aw1 LF z t l n k0=k0 (Eh n l):=by
 have hLF:=I4
 rw [Z0,decide_eq_true_eq] at hn
 have hr:=Bi h0
 generalize hE:l.map C3=T at hr
 subst hr
 unfold Aw1 Eh
 cases c:ltI n ((D7 T).length:Nat) with
 | true=>rfl
 | false=>
  rw [Z0,decide_eq_false_iff_not,C9] at c
  have:=Zq z t T (λ_=>k0 false) (λ_=>k0 true) (by omega) T.length 0 LF (by omega) (by omega)
  rw [List.drop_zero] at this
  refine this.trans ?_
  rw [Bool.not_false,Bool.true_and]
  cases (D7 T).all λel=>!ltI 300 (elS el).length<;>rfl
end
section
open Go
theorem As2:∀ n:Fin 256,(UInt8.ofNat n.val==46 || O2 (UInt8.ofNat n.val))=true->(spB (UInt8.ofNat n.val)=false/\UInt8.ofNat n.val≠10/\UInt8.ofNat n.val≠35):=by decide +kernel
theorem Wa {h:By} (hv:F7 h=true):∀ b∈h,spB b=false/\b≠10/\b≠35:=λb hb=>by
 have h1:=(Gr.1 hv).byt b hb
 have h2:(b==46 || O2 b)=true:=by
  rcases h1 with h1 | h1
  ·rw [h1];rfl
  ·rw [h1,Bool.or_true]
 have e:UInt8.ofNat b.toNat=b:=UInt8.ofNat_toNat
 have:=As2 ⟨b.toNat,b.toNat_lt⟩
 simp only [e] at this
 exact this h2
theorem Az3 {h:By} (hv:F7 h=true):h≠[]:=by
 rintro rfl
 exact (Gr.1 hv).pne [] (by simp [pcs,G8]) rfl
theorem Xj:∀ (h acc r:By),(∀ b∈h,spB b=false)->Gt acc (h++r)=Gt (acc++h) r
 | [],acc,r,_=>by simp
 | c::h,acc,r,hs=>by
  rw [List.cons_append,Gt,hs c (by simp)]
  simp only [Bool.false_eq_true,if_false]
  rw [Xj h (acc++[c]) r (λb hb=>hs b (by simp [hb])),List.append_assoc]
  rfl
def Bb (x:Ent):By:=x.1++(if x.2 then Gy else [])
theorem Xi {x:Ent} (hv:F7 x.1=true):G7 (Bb x)=if x.2 then [x.1,Zc] else [x.1]:=by
 have hne:=Az3 hv
 have hs:=λb hb=>(Wa hv b hb).1
 obtain ⟨h,b⟩:=x
 have he:h.isEmpty=false:=by cases h with | nil=>exact absurd rfl hne | cons=>rfl
 unfold G7 Bb
 cases b with
 | false=>
  simp only [Bool.false_eq_true,if_false]
  rw [Xj h [] [] hs,List.nil_append,Gt,he]
  rfl
 | true=>
  simp only [if_true]
  rw [Xj h [] Gy hs,List.nil_append]
  show Gt h (32::Zc)=_
  rw [Gt,show spB 32=true from rfl,if_pos rfl,he]
  rfl
theorem JL {x:Ent} (hv:F7 x.1=true):(10:UInt8)∉Bb x/\(35:UInt8)∉Bb x:=by
 have f:∀ c:UInt8,(c=10\/c=35)->c∉(if x.2 then Gy else []):=λc hc=>by
  cases x.2 with
  | false=>simp
  | true=>rcases hc with rfl | rfl<;>decide
 unfold Bb
 constructor
 ·intro h
  rcases List.mem_append.1 h with h | h
  ·exact (Wa hv _ h).2.1 rfl
  ·exact f 10 (.inl rfl) h
 ·intro h
  rcases List.mem_append.1 h with h | h
  ·exact (Wa hv _ h).2.2 rfl
  ·exact f 35 (.inr rfl) h
theorem Vg:∀ {l:List Ent},(∀ x∈l,F7 x.1=true)->pcs 10 (Av l)=l.map Bb++[[]]
 | [],_=>rfl
 | x::r,hv=>by
  have e:Av (x::r)=Bb x++10::Av r:=by simp [Av,Bb,List.append_assoc]
  rw [e,Jm (JL (hv x (by simp))).1,Vg λy hy=>hv y (by simp [hy])]
  rfl
theorem Za {h:By} (hv:F7 h=true) (w:List By) (hw:w.getD 0 []=h):NX w=((h,w.length==2),0):=by
 unfold NX
 rw [hw,QE (Gr.1 hv)]
 rfl
theorem WM {x:Ent} (hv:F7 x.1=true):Bh (G7 (Bb x))=(x,0):=by
 rw [Xi hv]
 obtain ⟨h,b⟩:=x
 cases b with
 | false=>
  simp only [Bool.false_eq_true,if_false]
  unfold Bh
  rw [if_neg (by simp),if_neg (by simp),Za hv [h] rfl]
  rfl
 | true=>
  simp only [if_true]
  unfold Bh
  rw [if_neg (by simp),if_neg (by simp),Za hv [h,Zc] rfl]
  rfl
theorem Af3 {x:Ent} (hv:F7 x.1=true):(Lib.cut (Bb x) [35]).1=Bb x:=by
 rw [<-(IB (Bb x)).1,Cu (JL hv).2]
 rfl
theorem Wo:∀ (l:List Ent) (n:Nat) (out:List Ent),(∀ x∈l,F7 x.1=true)->out.length+l.length<=1000->Fe (l.map Bb++[[]]) n out=(out++l,0,0)
 | [],n,out,_,_=>by
  show Fe [[]] n out=_
  rw [Fe,show (G7 (Lib.cut ([]:By) [35]).1).isEmpty=true from rfl,if_pos rfl,Fe,List.append_nil]
 | x::r,n,out,hv,hl=>by
  have hx:=hv x (by simp)
  rw [List.map_cons,List.cons_append,Fe,Af3 hx,if_neg,if_neg,WM hx,if_neg (by simp),Wo r (n+1) (out++[x]) (λy hy=>hv y (by simp [hy])) (by simp at hl ⊢;omega),List.append_assoc]
  ·rfl
  ·simp at hl;omega
  ·rw [Xi hx];cases x.2<;>simp
theorem YR {l:List Ent} (hv:∀ x∈l,F7 x.1=true) (hl:l.length<=1000) (ht:(Av l).length<=524288):H7 (Av l)=(l,0,0):=by
 unfold H7
 rw [if_neg (by omega),Vg hv,Wo l 0 [] hv (by simpa using hl)]
 rfl
theorem Vf:∀ {l:List Ent},(∀ x∈l,x.1.length<=300)->(Av l).length<=320*l.length
 | [],_=>by simp [Av]
 | x::r,h=>by
  have e:Av (x::r)=Bb x++10::Av r:=by simp [Av,Bb,List.append_assoc]
  have h1:=h x (by simp)
  have h2:(Av r).length<=320*r.length:=Vf λy hy=>h y (by simp [hy])
  have h3:(if x.2 then Gy else []).length<=19:=by cases x.2<;>simp [Gy]
  rw [e,List.length_append,List.length_cons,List.length_cons]
  unfold Bb
  rw [List.length_append]
  omega
theorem Ai8 {l:List Ent} (hd:Mb (l.map Prod.fst)=false):isE (isE l)=isE l:=by
 have hn:=Ag.1 hd
 have key:∀ (l:List Ent),(l.map Prod.fst).Nodup->∀ a b:Ent,a∈l->b∈l->a.1=b.1->a=b:=λl=>by
  induction l with
  | nil=>intro _ a b ha;cases ha
  | cons x r ih=>
   intro hn a b ha hb e
   rw [List.map_cons,List.nodup_cons] at hn
   rcases List.mem_cons.1 ha with ha | ha<;>rcases List.mem_cons.1 hb with hb | hb
   ·rw [ha,hb]
   ·exact absurd (List.mem_map.2 ⟨b,hb,by rw [<-e,ha]⟩) hn.1
   ·exact absurd (List.mem_map.2 ⟨a,ha,by rw [e,hb]⟩) hn.1
   ·exact ih hn.2 a b ha hb e
 exact List.Perm.eq_of_pairwise (le:=leE) (λa b ha hb h1 h2=>key l hn a b (Gd.1 (Gd.1 ha)) (Gd.1 hb) (Ij h2 h1)) (La _) (La l) (T2 _)
theorem Jg {l:List Ent}:P0 l=0↔l.length<=1000/\Xn l=false/\Mb (l.map Prod.fst)=false:=by
 unfold P0
 constructor
 ·intro h
  split at h
  ·cases h
  ·split at h
   ·cases h
   ·split at h
    ·cases h
    ·rename_i a b c
     exact ⟨by omega,by simpa using b,by simpa using c⟩
 ·rintro ⟨a,b,c⟩
  rw [if_neg (by omega),if_neg (by simp [b]),if_neg (by simp [c])]
theorem Ak4 {l:List Ent} (h:P0 l=0):P0 (isE l)=0:=by
 obtain ⟨a,b,c⟩:=Jg.1 h
 refine Jg.2 ⟨by rw [(T2 l).length_eq];exact a,?_,?_⟩
 ·unfold Xn at b ⊢
  rw [List.any_eq_false] at b ⊢
  intro x hx
  exact b x (Gd.1 hx)
 ·exact Ag.2 (((T2 l).map Prod.fst).nodup_iff.2 (Ag.1 c))
theorem XH {l:List Ent} (h:P0 l=0):∀ x∈isE l,F7 x.1=true:=λx hx=>by
 obtain ⟨_,b,_⟩:=Jg.1 h
 unfold Xn at b
 rw [List.any_eq_false] at b
 have:=b x (Gd.1 hx)
 simpa using this
end
section
open Go Go.Proofs
set_option maxRecDepth 100000
section
variable {σ R : Type} (lf : Nat) (cl : E1) (yh : Yh σ) (s : σ) (k : Out -> St σ -> Option R)
noncomputable def HQ (lf:Nat):Cfg:=D2 lf [10] (A3 []) [(12,LT),(22,Og),(26,BY),(34,LV),(23,MC),(25,BN)] (A3 [(13,[2]),(12,[7,2,0]),(11,[2]),(10,[3,3,50]),(9,[3,3,0,0]),(8,[2]),(7,[3,1,24]),(6,[2]),(5,[3,0,0,22]),(4,[3,0,0,0]),(3,[0,2,0]),(2,[2]),(1,[0,13]),(0,[0])]) [12,22,34,25] (A3 []) (some [2]) [(36,Lo)] [] [36]
noncomputable def lpr {R:Type} (lf:Nat) (l_z0 l_t1:Bool) (l2:LL) (k0:Bool->(List Blk)->Option R):Option R:=cond (List.all l2 F1) (cond (ltI 60 1001) (cond (not (Eh (60:Int) l2)) (k0 true []) (cond (List.all l2 F1) (cond (List.all l2 smE) (cond (A2 l2.length) (cond (L8 l_z0 l2) (cond ((P0 (List.map C3 l2))==0) (vl (D7 (isE (List.map C3 l2))) λl'2=>cond (List.all l2 F1) (cond (List.all l2 smE) (cond (A2 l2.length) (cond (L8 l_z0 l2) (cond (IN (List.map C3 l2)) (cond ((P0 (List.map C3 l2))==0) (vl (Av (isE (List.map C3 l2))) λs'5=>cond (A2 s'5.length) (vl (↑(((H7 s'5)).2).1:Int) λn'8=>vl (↑(((H7 s'5)).2).2:Int) λn'9=>cond (n'9 != 0) (k0 false [(Blk.box [(PV.fl 1)]),(Blk.arr l_z0 63 2 l'2)]) (cond (n'8 != 0) (k0 false [(Blk.box [(PV.fl 1)]),(Blk.arr l_z0 63 2 l'2)]) (cond (List.all l'2 F1) (cond (A2 l'2.length) (cond (L8 l_z0 l'2) (cond (List.all (D7 ((H7 s'5)).1) F1) (cond (A2 (List.length (D7 ((H7 s'5)).1))) (cond (List.all l'2 F1) (cond (A2 l'2.length) (cond (not ((List.map C3 (D7 ((H7 s'5)).1))==(List.map C3 l'2))) (k0 false [(Blk.box [(PV.fl 1)]),(Blk.arr l_z0 63 2 l'2)]) (cond (List.all l'2 F1) (cond (A2 l'2.length) (cond (L8 l_z0 l'2) (cond (List.all l'2 F1) (cond (List.all l'2 smE) (cond (A2 l'2.length) (cond (L8 (l_z0&&(List.isEmpty l'2)) l'2) (cond ((P0 (List.map C3 l'2))==0) (vl (D7 (isE (List.map C3 l'2))) λl'12=>cond ((plE l'12)&&true) (cond (List.all l'12 F1) (cond (A2 l'12.length) (cond (L8 (l_z0&&(List.isEmpty l'2)) l'12) (cond (List.all l'12 F1) (cond (A2 l'12.length) (cond (List.all (D7 ((H7 s'5)).1) F1) (cond (A2 (List.length (D7 ((H7 s'5)).1))) (cond ((List.map C3 l'12)==(List.map C3 (D7 ((H7 s'5)).1))) (k0 true [(Blk.box [(PV.fl 1)]),(Blk.arr l_z0 63 2 l'2),(Blk.arr l_z0 63 2 l'2),(Blk.box [(PV.fl 4)]),(Blk.arr (l_z0&&(List.isEmpty l'2)) 63 2 l'12)]) (k0 false [(Blk.box [(PV.fl 1)]),(Blk.arr l_z0 63 2 l'2),(Blk.arr l_z0 63 2 l'2),(Blk.box [(PV.fl 4)]),(Blk.arr (l_z0&&(List.isEmpty l'2)) 63 2 l'12)])) none) none) none) none) none) none) none) none) (vl (↑(P0 (List.map C3 l'2)):Int) λn'13=>cond (n'13==0) (k0 false [(Blk.box [(PV.fl 1)]),(Blk.arr l_z0 63 2 l'2)]) (k0 false [(Blk.box [(PV.fl 1)]),(Blk.arr l_z0 63 2 l'2)]))) none) none) none) none) none) none) none)) none) none) none) none) none) none) none))) none) (vl (↑(P0 (List.map C3 l2)):Int) λn'14=>cond ((0:Int) != n'14) (k0 false [(Blk.box [(PV.fl 1)]),(Blk.arr l_z0 63 2 l'2)]) (cond ((↑(((H7 ([]:List UInt8))).2).2:Int) != 0) (k0 false [(Blk.box [(PV.fl 1)]),(Blk.arr l_z0 63 2 l'2)]) (cond ((↑(((H7 ([]:List UInt8))).2).1:Int) != 0) (k0 false [(Blk.box [(PV.fl 1)]),(Blk.arr l_z0 63 2 l'2)]) (cond (List.all l'2 F1) (cond (A2 l'2.length) (cond (L8 l_z0 l'2) (cond (List.all (D7 ((H7 ([]:List UInt8))).1) F1) (cond (A2 (List.length (D7 ((H7 ([]:List UInt8))).1))) (cond (List.all l'2 F1) (cond (A2 l'2.length) (cond (not ((List.map C3 (D7 ((H7 ([]:List UInt8))).1))==(List.map C3 l'2))) (k0 false [(Blk.box [(PV.fl 1)]),(Blk.arr l_z0 63 2 l'2)]) (cond (List.all l'2 F1) (cond (A2 l'2.length) (cond (L8 l_z0 l'2) (cond (List.all l'2 F1) (cond (List.all l'2 smE) (cond (A2 l'2.length) (cond (L8 (l_z0&&(List.isEmpty l'2)) l'2) (cond ((P0 (List.map C3 l'2))==0) (vl (D7 (isE (List.map C3 l'2))) λl'17=>cond ((plE l'17)&&true) (cond (List.all l'17 F1) (cond (A2 l'17.length) (cond (L8 (l_z0&&(List.isEmpty l'2)) l'17) (cond (List.all l'17 F1) (cond (A2 l'17.length) (cond (List.all (D7 ((H7 ([]:List UInt8))).1) F1) (cond (A2 (List.length (D7 ((H7 ([]:List UInt8))).1))) (cond ((List.map C3 l'17)==(List.map C3 (D7 ((H7 ([]:List UInt8))).1))) (k0 true [(Blk.box [(PV.fl 1)]),(Blk.arr l_z0 63 2 l'2),(Blk.arr l_z0 63 2 l'2),(Blk.box [(PV.fl 4)]),(Blk.arr (l_z0&&(List.isEmpty l'2)) 63 2 l'17)]) (k0 false [(Blk.box [(PV.fl 1)]),(Blk.arr l_z0 63 2 l'2),(Blk.arr l_z0 63 2 l'2),(Blk.box [(PV.fl 4)]),(Blk.arr (l_z0&&(List.isEmpty l'2)) 63 2 l'17)])) none) none) none) none) none) none) none) none) (vl (↑(P0 (List.map C3 l'2)):Int) λn'18=>cond (n'18==0) (k0 false [(Blk.box [(PV.fl 1)]),(Blk.arr l_z0 63 2 l'2)]) (k0 false [(Blk.box [(PV.fl 1)]),(Blk.arr l_z0 63 2 l'2)]))) none) none) none) none) none) none) none)) none) none) none) none) none) none) none))))) none) none) none) none) none) (vl (↑(P0 (List.map C3 l2)):Int) λn'19=>cond (List.all l2 F1) (cond (List.all l2 smE) (cond (A2 l2.length) (cond (L8 l_z0 l2) (cond (IN (List.map C3 l2)) (cond ((P0 (List.map C3 l2))==0) (vl (Av (isE (List.map C3 l2))) λs'22=>cond (n'19 != 0) (k0 false []) (cond (n'19 != 0) (cond (s'22==[]) (k0 true []) (k0 false [])) (cond (A2 s'22.length) (vl (↑(((H7 s'22)).2).1:Int) λn'25=>vl (↑(((H7 s'22)).2).2:Int) λn'26=>k0 false []) none))) (vl (↑(P0 (List.map C3 l2)):Int) λn'27=>cond (n'19 != n'27) (k0 false []) (cond (n'19 != 0) (k0 true []) (k0 false [])))) none) none) none) none) none)) none) none) none) none)) none) none
theorem Bb2 (d:Nat) (l_z0 l_t1 l2):evC (HQ lf) (d+1) σ yh 10 [.s (.sl l_z0 l_t1 2 l2)] [] s=lpr lf l_z0 l_t1 l2 (λr0 H1=>some (pB r0,H1,s)):=by
 refine (evE (fn:=Tryz.f10) (by kernel_rfl)).trans ?_
 generalize evC (HQ lf) d=cl
 unfold lpr;kernel_rfl
end
theorem Wz {n:Int} {l:LL} (h:Eh n l=true):(l.length:Int)<=n/\∀ x∈l.map C3,x.1.length<=300:=by
 unfold Eh at h
 rw [Bool.and_eq_true,List.all_eq_true] at h
 obtain ⟨h1,h2⟩:=h
 refine ⟨by rw [Z0] at h1;simp at h1;omega,λx hx=>?_⟩
 obtain ⟨el,he,rfl⟩:=List.mem_map.1 hx
 have:=h2 el he
 rw [Z0] at this
 have e:(C3 el).1=elS el:=rfl
 rw [e]
 simp at this
 omega
theorem Ah2 {l:LL} (h:Eh 60 l=true):(Av (isE (l.map C3))).length<=19200/\IN (l.map C3)=true:=by
 obtain ⟨h1,h2⟩:=Wz h
 have h3:=Vf (l:=isE (l.map C3)) λx hx=>h2 x (Gd.1 hx)
 rw [(T2 _).length_eq,List.length_map] at h3
 have h4:(Av (isE (l.map C3))).length<=19200:=by omega
 exact ⟨h4,by unfold IN;rw [Nat.ble_eq];omega⟩
theorem Av8 {z:Bool} {l:LL} (h:L8 z l=true):L8 z (D7 (isE (l.map C3)))=true:=by
 cases z with
 | false=>rfl
 | true=>rw [EW h rfl];rfl
theorem Aj7 (lz:Bool) (l:LL) (hl:l.all F1=true) (hlz:L8 lz l=true) :
  Tru (evC (HQ LF) 1 Unit noY 10 [.s (.sl lz false 2 l)] [] ()):=by
 refine Eq.subst (motive:=Tru) (Bb2 (σ:=Unit) LF noY () 0 lz false l).symm ?_
 have hLF:=I4
 unfold lpr
 rw [hl]
 simp only [cond_true,show ltI 60 1001=true from rfl]
 cases c2:Eh 60 l with
 | false=>exact ⟨_,rfl⟩
 | true=>
 rw [Bool.not_true,cond_false]
 obtain ⟨s3,s4⟩:=ZJ (by decide) c2
 obtain ⟨f1,f2⟩:=Ah2 c2
 have f3:=(Wz c2).1
 rw [s3,s4,hlz,f2]
 simp only [cond_true,vl]
 have n1:=Av8 hlz
 have n2:=XG s4
 have n3:=Ba4 hl s3
 have n4:=Ag4 (isE (l.map C3))
 cases c5:(P0 (List.map C3 l)==0) with
 | false=>
  have hne:P0 (List.map C3 l)≠0:=by simpa using c5
  have e1:(((P0 (List.map C3 l):Nat):Int)==0)=false:=by rw [beq_eq_false_iff_ne];omega
  have e2:(((P0 (List.map C3 l):Nat):Int) != 0)=true:=by rw [bne_iff_ne];omega
  have e3:((0:Int) != ((P0 (List.map C3 l):Nat):Int))=true:=by rw [bne_iff_ne];omega
  simp only [cond_false,e1,e2,e3,cond_true,bne_self_eq_false,beq_self_eq_true]
  exact ⟨_,rfl⟩
 | true=>
  have h0:P0 (List.map C3 l)=0:=eq_of_beq c5
  have hp:=YR (XH h0) (by rw [(T2 _).length_eq,List.length_map];omega) (by omega)
  have hi:=Ai8 (Jg.1 h0).2.2
  have hz:(P0 (isE (List.map C3 l))==0)=true:=by rw [Ak4 h0];rfl
  have hb:L8 (lz&&(D7 (isE (l.map C3))).isEmpty) (D7 (isE (l.map C3)))=true:=by rw [UM n1];exact n1
  simp only [cond_true,hp,Me,hz,hi,n1,n2,n3,n4,hb,Ag5 n4,Dt,beq_self_eq_true,Bool.not_true,cond_false,Bool.and_true,show (((0:Nat):Int) != 0)=false from rfl]
  rw [Dt]
  exact ⟨_,rfl⟩
theorem Ay4 (args:List PV) (h:Fk Tryz.prog [23] args):∃ d Hc,evC (HQ LF) d Unit noY 10 args [] ()=some (.s (.bool true),Hc,()):=by
 obtain ⟨v1,q1,rfl,h1,rfl⟩:=h
 obtain ⟨lz,l,rfl,hl,hlz⟩:=Ac3 h1 (by kernel_rfl) (by kernel_rfl)
 obtain ⟨H,e⟩:=Aj7 lz l hl hlz
 exact ⟨1,H,e⟩
section
theorem AX:A7 Tryz.prog GX 181 Eo:=λargs ret Hc h=>by
 have:F6 (Eo args)=none:=by unfold Eo Tb;split<;>rfl
 rw [this] at h;cases h
theorem Aq1:A7 Tryz.prog GX 154 LX:=xf [] (NC LF) CC rfl trivial rfl (by kernel_rfl) follows λargs=>by
 unfold CC;split
 ·rename_i s p;exact λh0=>⟨rfl,rfl,rfl,_,_,(Ay6 LF noY () 0 s p).trans (YE s p h0),rfl⟩
 ·trivial
theorem SO:A7 Tryz.prog GX 112 BH:=xf [] (MV LF) BI rfl ⟨Aq1,trivial⟩ rfl (by kernel_rfl) follows λargs=>by
 unfold BI;split
 ·rename_i s p;exact λh0=>⟨rfl,rfl,rfl,_,_,(Av5 LF noY () 0 s p).trans (WZ s p h0),rfl⟩
 ·trivial
theorem Bf3:A7 Tryz.prog GX 180 Ab3:=xf [] (ND LF) CE rfl trivial rfl (by kernel_rfl) follows λargs=>by
 unfold CE;split
 ·rename_i s p;exact λh0=>⟨rfl,rfl,rfl,_,_,(Ay8 LF noY () 0 s p).trans (YF s p h0),rfl⟩
 ·trivial
theorem A49:A7 Tryz.prog GX 157 TG:=xf [] (DV LF) Tm rfl ⟨Bf3,trivial⟩ rfl (by kernel_rfl) follows λargs=>by
 unfold Tm;split
 ·rename_i s p;exact λh0=>⟨rfl,rfl,rfl,_,_,(Ak1 LF noY () 0 s p).trans (PO s p h0),rfl⟩
 ·trivial
theorem VR:A7 Tryz.prog GX 115 DD:=xf [] (DZ LF) Ts rfl ⟨A49,trivial⟩ rfl (by kernel_rfl) follows λargs=>by
 unfold Ts;split
 ·rename_i s p;exact λh0=>⟨rfl,rfl,rfl,_,_,(An9 LF noY () 0 s p).trans (SD s p h0),rfl⟩
 ·trivial
theorem A45:A7 Tryz.prog GX 169 TE:=xf [0,0] (DT LF) Ti rfl ⟨Aq1,trivial⟩ rfl (by kernel_rfl) follows λargs=>by
 unfold Ti;split
 ·rename_i s p;exact λh0=>⟨rfl,rfl,rfl,_,_,(Aj4 LF noY () 0 s p).trans (PC s p h0),rfl⟩
 ·trivial
theorem Be1:A7 Tryz.prog GX 130 Aa4:=xf [0,0] (MT LF) AZ rfl ⟨A45,trivial⟩ rfl (by kernel_rfl) follows λargs=>by
 unfold AZ;split
 ·rename_i s p;exact λh0=>⟨rfl,rfl,rfl,_,_,(As9 LF noY () 0 s p).trans (WB s p h0),rfl⟩
 ·trivial
theorem Ap5:A7 Tryz.prog GX 158 GQ:=xf [1] (Ad LF) Oh rfl ⟨AX,Aq5,SU,trivial⟩ rfl (by kernel_rfl) follows λargs=>by
 unfold Oh;split
 ·rename_i s p v n;exact λh0=>λh1=>λh2=>λh3=>(let ⟨rr,hH,ee,qq⟩:=IS s p v n h0 h1 h2 h3;⟨rfl,rfl,rfl,rr,hH,(Zh LF noY () 0 s p v n).trans ee,qq⟩)
 ·trivial
theorem Xk:A7 Tryz.prog GX 117 Lp:=xf [1] (Uk LF) Oo rfl ⟨Ap5,trivial⟩ rfl (by kernel_rfl) follows λargs=>by
 unfold Oo;split
 ·rename_i s p;exact λh0=>λh1=>⟨rfl,rfl,rfl,_,_,(ZP LF noY () 0 s p).trans (KN s p h0 h1),rfl⟩
 ·trivial
theorem SQ:A7 Tryz.prog GX 111 CA:=xf [] (Ku LF) CB rfl trivial rfl (by kernel_rfl) follows λargs=>by
 unfold CB;split
 ·rename_i s;exact λh0=>⟨rfl,rfl,rfl,_,_,(Ay3 LF noY () 0 s).trans (YB s h0),rfl⟩
 ·trivial
theorem Ap7:A7 Tryz.prog GX 127 LQ:=xf [] (MU LF) BG rfl ⟨SO,trivial⟩ rfl (by kernel_rfl) follows λargs=>by
 unfold BG;split
 ·rename_i s;exact λh0=>⟨rfl,rfl,rfl,_,_,(Av4 LF noY () 0 s).trans (WW s h0),rfl⟩
 ·trivial
theorem SN:A7 Tryz.prog GX 129 BA:=xf [0,0] (P3 LF) BB rfl trivial rfl (by kernel_rfl) follows λargs=>by
 unfold BB;split
 ·rename_i s base;exact λh0=>λh1=>⟨rfl,rfl,rfl,_,_,(At7 LF noY () 0 s base).trans (WG s base h0 h1),rfl⟩
 ·trivial
theorem A75:A7 Tryz.prog GX 128 Ab6:=xf [0,0] (Ae2 LF) LY rfl ⟨Ap7,SN,trivial⟩ rfl (by kernel_rfl) follows λargs=>by
 unfold LY;split
 ·rename_i s;exact λh0=>⟨rfl,rfl,rfl,_,_,(Bb3 LF noY () 0 s).trans (Ak8 s h0),rfl⟩
 ·trivial
theorem VO:A7 Tryz.prog GX 126 CL:=xf [1] (DW LF) Tn rfl ⟨Xk,trivial⟩ rfl (by kernel_rfl) follows λargs=>by
 unfold Tn;split
 ·rename_i s;exact λh0=>⟨rfl,rfl,rfl,_,_,(Al1 LF noY () 0 s).trans (QH s h0),rfl⟩
 ·trivial
theorem Qt:A7 Tryz.prog GX 93 Ep:=xf [] (Pe LF) Kj rfl ⟨VO,Ap7,A75,SN,trivial⟩ rfl (by kernel_rfl) follows λargs=>by
 unfold Kj;split
 ·rename_i s;exact λh0=>⟨rfl,rfl,rfl,_,_,(PY LF noY () 0 s).trans (EZ s h0),rfl⟩
 ·trivial
theorem Bg0:A7 Tryz.prog GX 116 Ab9:=xf [0,0] (Kx LF) CS rfl ⟨VO,A75,trivial⟩ rfl (by kernel_rfl) follows λargs=>by
 unfold CS;split
 ·rename_i s;exact λh0=>⟨rfl,rfl,rfl,_,_,(A17 LF noY () 0 s).trans (YY s h0),rfl⟩
 ·trivial
theorem Bk5:A7 Tryz.prog GX 192 A62:=xf [0,0] (Ul LF) MF rfl ⟨Xk,SN,Be6,trivial⟩ rfl (by kernel_rfl) follows λargs=>by
 unfold MF;split
 ·rename_i s;exact λh0=>⟨rfl,rfl,rfl,_,_,(Bd2 LF noY () 0 s).trans (Ao3 s h0),rfl⟩
 ·trivial
theorem Aa0:A7 Tryz.prog GX 158 Oi:=by
 refine A7.fix (pf:=Kg) _ (O8 (C₀:=Ad LF) (K8.ok (l:=[(181,Eo),(182,ME),(108,Tp)]) rfl ⟨AX,Aq5,SU,trivial⟩) (F2 rfl (by kernel_rfl)) follows ?_)
 intro args ret Hc h
 unfold Kg at h
 split at h
 ·rename_i s p v n
  obtain ⟨h0,h⟩:=C6 h
  obtain ⟨h1,h⟩:=C6 h
  obtain ⟨h2,h⟩:=C6 h
  obtain ⟨h3,h⟩:=C6 h
  obtain ⟨rfl,rfl⟩:=G1 h
  have e:=(Zh LF noY () 0 s p v n).trans (Vj s p v n h0 h1 h2 h3)
  exact ⟨rfl,1,_,[],e,rfl,rfl⟩
 ·cases h
theorem AY:A7 Tryz.prog GX 117 Oq:=by
 refine A7.fix (pf:=Kl) _ (O8 (C₀:=Ph LF) (K8.ok (l:=[(158,Oi)]) rfl ⟨Aa0,trivial⟩) (F2 rfl (by kernel_rfl)) follows ?_)
 intro args ret Hc h
 unfold Kl at h
 split at h
 ·rename_i s p
  obtain ⟨h0,h⟩:=C6 h
  obtain ⟨h1,h⟩:=C6 h
  obtain ⟨rfl,rfl⟩:=G1 h
  have e:=(RX LF noY () 0 s p).trans (FU s p h0 h1)
  exact ⟨rfl,1,_,[],e,rfl,rfl⟩
 ·cases h
end
section
theorem Be2:A7 Tryz.prog GX 191 Aa5:=xf [0,0] (R9 LF) BD rfl trivial rfl (by kernel_rfl) follows λargs=>by
 unfold BD;split
 ·rename_i s;exact λh0=>⟨rfl,rfl,rfl,_,_,(Au8 LF noY () 0 s).trans (WS s h0),rfl⟩
 ·trivial
theorem A41:A7 Tryz.prog GX 179 TA:=xf [1,0] (Fs LF) Tc rfl ⟨Xk,Be2,Bk5,trivial⟩ rfl (by kernel_rfl) follows λargs=>by
 unfold Tc;split
 ·rename_i s last;exact λh0=>(let ⟨rr,hH,ee,qq⟩:=OK s last h0;⟨rfl,rfl,rfl,rr,hH,(Ah9 LF noY () 0 s last).trans ee,qq⟩)
 ·trivial
theorem Bk6:A7 Tryz.prog GX 155 A63:=xf [0,0] (Qz LF) MG rfl ⟨GG,A41,trivial⟩ rfl (by kernel_rfl) follows λargs=>by
 unfold MG;split
 ·rename_i s;exact λh0=>(let ⟨rr,hH,ee,qq⟩:=Bd5 s h0;⟨rfl,rfl,rfl,rr,hH,(Bd4 LF noY () 0 s).trans ee,qq⟩)
 ·trivial
theorem LI:A7 Tryz.prog GX 184 Hn:=xf [] (Uj LF) Om rfl trivial rfl (by kernel_rfl) follows λargs=>by
 unfold Om;split
 ·rename_i n;exact ⟨rfl,rfl,rfl,_,_,(YZ LF noY () 0 n).trans (KB n ),rfl⟩
 ·trivial
theorem LH:A7 Tryz.prog GX 186 Hm:=xf [] (Q0 LF) Ol rfl trivial rfl (by kernel_rfl) follows λargs=>by
 unfold Ol;split
 ·rename_i d c f;exact λh0=>λh1=>λh2=>⟨rfl,rfl,rfl,_,_,(YN LF noY () 0 d c f).trans (JY d c f h0 h1 h2),rfl⟩
 ·trivial
theorem Bf8:A7 Tryz.prog GX 195 LZ:=xf [] (NG LF) CO rfl trivial rfl (by kernel_rfl) follows λargs=>by
 unfold CO;split
 ·rename_i d;exact λh0=>⟨rfl,rfl,rfl,_,_,(A10 LF noY () 0 d).trans (YW d h0),rfl⟩
 ·trivial
theorem Bg2:A7 Tryz.prog GX 202 MD:=xf [] (Ea LF) CV rfl trivial rfl (by kernel_rfl) follows λargs=>by
 unfold CV;split
 ·rename_i b;exact λh0=>⟨rfl,rfl,rfl,_,_,(A27 LF noY () 0 b).trans (ZB b h0),rfl⟩
 ·trivial
end
section
theorem Aq4:A7 Tryz.prog GX 194 To:=by
 refine A7.fix (pf:=CU) _ (O8 (C₀:=NH LF) (K8.ok (l:=[]) rfl trivial) (F2 rfl (by kernel_rfl)) follows ?_)
 intro args ret Hc h
 unfold CU at h
 split at h
 ·rename_i b
  obtain ⟨rfl,rfl⟩:=G1 h
  have e:=(A22 LF noY () 0 b).trans (ZA b )
  exact ⟨rfl,1,_,[],e,rfl,rfl⟩
 ·cases h
theorem VT:Lq Tryz.prog GX 201 Iy:=by
 refine X4 (C₀:=DY LF) (K8.ok (l:=[]) rfl trivial) (F2 rfl (by kernel_rfl)) follows ?_
 intro args H ret Hc h
 unfold Iy at h
 split at h
 ·rename_i k b
  obtain ⟨h0,h⟩:=C6 h
  obtain ⟨h1,h⟩:=C6 h
  obtain ⟨rfl,rfl⟩:=G1 h
  refine ⟨rfl,rfl,λσ yh s=>?_⟩
  have e:=(Al6 LF yh s 0 k b).trans (QY k b h0 h1)
  exact ⟨1,_,e,rfl⟩
 ·cases h
theorem Bg4:Lq Tryz.prog GX 185 CJ:=by
 refine X4 (C₀:=Pf LF) (En (lx:=[(194,To),(195,LZ)]) (ly:=[(201,Iy)]) (ls:=[]) rfl rfl rfl ⟨Aq4,Bf8,trivial⟩ ⟨VT,trivial⟩ trivial) (F2 rfl (by kernel_rfl)) follows ?_
 intro args H ret Hc h
 unfold CJ at h
 split at h
 ·rename_i q b z l
  obtain ⟨h0,h⟩:=C6 h
  obtain ⟨h1,h⟩:=C6 h
  obtain ⟨h2,h⟩:=C6 h
  obtain ⟨rfl,rfl⟩:=G1 h
  obtain ⟨x0,x1,e0⟩:=YP q b z l h0 h1 h2
  exact ⟨rfl,rfl,λσ yh s=>⟨1,_,(A04 LF yh s 0 q b z l).trans (e0 _ _),rfl⟩⟩
 ·cases h
theorem Aq3:A7 Tryz.prog GX 161 MA:=by
 refine A7.fix (pf:=CP) _ (P2 [0,0] (C₀:=L4 LF) (En (lx:=[(184,Hn),(186,Hm)]) (ly:=[(185,CJ)]) (ls:=[]) rfl rfl rfl ⟨LI,LH,trivial⟩ ⟨Bg4,trivial⟩ trivial) (F2 rfl (by kernel_rfl)) follows ?_)
 intro args ret Hc h
 unfold CP at h
 split at h
 ·rename_i p_z p_t p
  obtain ⟨h0,h⟩:=C6 h
  obtain ⟨rfl,rfl⟩:=G1 h
  obtain ⟨rr,hH,ee,qq⟩:=A12 p_z p_t p h0
  exact ⟨rfl,rfl,rfl,1,rr,hH,(A11 LF noY () 0 p_z p_t p).trans ee,qq⟩
 ·cases h
end
section
theorem Bg3:Lq Tryz.prog GX 198 BC:=by
 refine X4 (C₀:=Pd LF) (En (lx:=[(194,To),(202,MD)]) (ly:=[(201,Iy)]) (ls:=[]) rfl rfl rfl ⟨Aq4,Bg2,trivial⟩ ⟨VT,trivial⟩ trivial) (F2 rfl (by kernel_rfl)) follows ?_
 intro args H ret Hc h
 unfold BC at h
 split at h
 ·rename_i rest n i b st z l
  obtain ⟨h0,h⟩:=C6 h
  obtain ⟨h1,h⟩:=C6 h
  obtain ⟨h2,h⟩:=C6 h
  obtain ⟨rfl,rfl⟩:=G1 h
  obtain ⟨x0,e0⟩:=WI rest n i b st z l h0 h1 h2
  exact ⟨rfl,rfl,λσ yh s=>⟨1,_,(At8 LF yh s 0 rest n i b st z l).trans (e0 _ _),rfl⟩⟩
 ·cases h
theorem Ap9:A7 Tryz.prog GX 142 GS:=xf [] (Ch LF) Ok rfl trivial rfl (by kernel_rfl) follows λargs=>by
 unfold Ok;split
 ·rename_i s c;exact λh0=>λh1=>⟨rfl,rfl,rfl,_,_,(XE LF noY () 0 s c).trans (JC s c h0 h1),rfl⟩
 ·trivial
theorem VM:A7 Tryz.prog GX 97 Sm:=xf [] (DR LF) Tg rfl ⟨Ap9,trivial⟩ rfl (by kernel_rfl) follows λargs=>by
 unfold Tg;split
 ·rename_i s c;exact λh0=>λh1=>⟨rfl,rfl,rfl,_,_,(Aj3 LF noY () 0 s c).trans (OZ s c h0 h1),rfl⟩
 ·trivial
end
end
end Go.Proofs.YtelhbgonncceeaaGreatDoor.E
